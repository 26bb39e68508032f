/- Part 5. -/
import Derived.Test.YtmcfcgaiecgdhaaGreatK3
import Derived.Test.YtmcfcgaiecgdhaaGreatK4
import Derived.ChangeArms
import Derived.KernelRfl
import Derived.OpenShut
import Derived.Shelf.Lays
import Derived.Shelf.SlLaysF0
import Derived.Test.YtmcfcgaiecgdhaaGreatProg
import Derived.Test.YtmcfcgaiecgdhaaGreatRows
section
namespace Go.Pl
open Go Go.RowKit Go.Sx Go.Qx
def nG (T:Api_Type)(g:Api_Goal):Prop:=gG T g/\srt g.Pos=g.Pos/\srt g.Neg=g.Neg
structure SFm (T:Api_Type)(ks:List Key)(s:Api_Shape):Prop where
 keys:s.Keys=ks
 st:s.States.length=ks.length
 pa:s.Parts.length=ks.length
 parts:∀ g∈s.Parts,nG T g
 abs:∀ i:Nat,s.States[i]?=some 0->s.Parts[i]?=some (Api_Goal.mk [] [] false)
 rest:nG T s.Rest.1/\nG T s.Rest.2
 some:∀ w∈s.Some,(w.Kind=0\/w.Kind=1)/\nG T w.Goal
 few:s.Some.length<=6
section
variable {T:Api_Type}{keys:List Key}
theorem d1Q {p q:List Int}(hp:p.all (inR T.Nodes.length)=true)(hq:q.all (inR T.Nodes.length)=true)(h1:p.length<=1000000)(h2:q.length<=1000000):nG T (Api_Goal.mk (srt p) (srt q) false) :=
 ⟨c2M hp hq h1 h2,b8f p,b8f q⟩
theorem c41:∀ {N:List Int} {ch:List Record_place},ch∈chZ T keys N->∀ p∈ch,PlB p
 | [],ch,h,p,hp=>by rw [List.mem_singleton.1 h] at hp; cases hp
 | n::r,ch,h,p,hp=>by
   simp only [chZ,List.mem_flatMap,List.mem_map] at h
   obtain ⟨q,hq,c,hc,rfl⟩:=h
   rcases List.mem_cons.1 hp with rfl | hp
   ·exact (c49 hq).2
   ·exact c41 hc p hp
theorem d1D (hT:GT T){P N:List Int}(hp:P.all (mpB T)=true)(hn:N.all (mpB T)=true)(hpl:P.length<=6)(hnl:N.length<=6)(i:Int){k:Key}(hk:Y9 k=true)(ch:List Record_place) :
 nG T (stZ T P N i k ch).2.1/\((stZ T P N i k ch).1=0->(stZ T P N i k ch).2.1=Api_Goal.mk [] [] false):=by
 have h0:=(c60 hT hp hn hpl hnl i hk ch).2
 unfold stZ at h0 ⊢
 simp only [b3c,b2Z,Bool.false_or,List.nil_append] at h0 ⊢
 cases hA:(ch.zip N).any (isA i) with
 | true =>
   rw [hA] at h0
   simp only [if_true] at h0 ⊢
   exact ⟨⟨h0,rfl,rfl⟩,fun _=>trivial⟩
 | false =>
   rw [hA] at h0
   simp only [Bool.false_eq_true,if_false] at h0 ⊢
   refine ⟨⟨h0,b8f _,b8f _⟩,fun h=>?_⟩
   split at h
   ·cases h
   ·split at h<;>cases h
theorem d1s (hT:GT T){P N:List Int}(hp:P.all (mpB T)=true)(hn:N.all (mpB T)=true)(hpl:P.length<=6)(hnl:N.length<=6)(hk:keys.all Y9=true)(hkl:keys.length<=36){ch:List Record_place}(hc:ch∈chZ T keys N){s:Api_Shape}(h:shZ T P N keys ch=some s):SFm T keys s:=by
 unfold shZ at h
 simp only at h
 split at h
 ·cases h
  have hzl:(zsZ T P N keys ch).length=keys.length:=by unfold zsZ; rw [List.length_map,List.length_zipIdx]
  have hz:∀ z∈zsZ T P N keys ch,nG T z.2.1/\(z.1=0->z.2.1=Api_Goal.mk [] [] false):=fun z hz=>by
   unfold zsZ at hz
   obtain ⟨p,hp',rfl⟩:=List.mem_map.1 hz
   rw [List.mem_zipIdx_iff_getElem?] at hp'
   exact d1D hT hp hn hpl hnl _ (List.all_eq_true.1 hk _ (List.mem_of_getElem? hp')) ch
  have hrk:∀ n kd,mpB T n=true->inR T.Nodes.length (a2T (ndR T n) kd)=true:=fun n kd h=>by
   obtain ⟨_,hx,hK⟩:=a6u h
   obtain ⟨_,h1,h2⟩:=a6U hT hx hK
   unfold a2T
   split<;>assumption
  have hr:∀ kd,nG T (Api_Goal.mk (rsZ T P kd) (srt []) false):=fun kd=>d1Q (List.all_eq_true.2 fun a ha=>by
   obtain ⟨n,hn',rfl⟩:=List.mem_map.1 ha
   exact hrk n kd (List.all_eq_true.1 hp n hn')) rfl (by rw [List.length_map]; omega) (by simp)
  refine ⟨rfl,by show (List.map _ _).length=_; rw [List.length_map,hzl],by show (List.map _ _).length=_; rw [List.length_map,hzl],fun g hg=>?_,fun i hi=>?_,⟨hr 0,hr 1⟩,fun w hw=>?_,?_⟩
  ·obtain ⟨z,hz',rfl⟩:=List.mem_map.1 hg
   exact (hz z hz').1
  ·have hi:((zsZ T P N keys ch).map (·.1))[i]?=some 0:=hi
   rw [List.getElem?_map,Option.map_eq_some_iff] at hi
   obtain ⟨z,e,h0⟩:=hi
   show ((zsZ T P N keys ch).map (·.2.1))[i]?=_
   rw [List.getElem?_map,e,Option.map_some,(hz z (List.mem_of_getElem? e)).2 h0]
  ·have hw:w∈soZ T (ch.zip N):=hw
   unfold soZ at hw
   obtain ⟨p,hp',rfl⟩:=List.mem_map.1 hw
   obtain ⟨hm0,hneg⟩:=List.mem_filter.1 hp'
   obtain ⟨hmc,hmn⟩:=List.of_mem_zip hm0
   have hm:=List.all_eq_true.1 hn _ hmn
   have hneg:¬ (0<=p.1.key):=by simpa using hneg
   refine ⟨(c41 hc _ hmc).resolve_left hneg,⟨rfl,?_,by simp,by simp⟩,rfl,rfl⟩
   unfold gIn
   simp [hrk p.2 p.1.kind hm]
  ·show (soZ T (ch.zip N)).length<=_
   unfold soZ
   rw [List.length_map]
   exact Nat.le_trans (List.length_filter_le _ _) (by rw [List.length_zip]; omega)
 ·cases h
theorem c96 (hT:GT T){P N:List Int}(hp:P.all (mpB T)=true)(hn:N.all (mpB T)=true)(hpl:P.length<=6)(hnl:N.length<=6)(hk:keys.all Y9=true)(hkl:keys.length<=36){s:Api_Shape}(h:s∈b1G T P N keys):SFm T keys s/\SOk T s:=by
 unfold b1G at h
 obtain ⟨ch,hc,e⟩:=List.mem_filterMap.1 h
 exact ⟨d1s hT hp hn hpl hnl hk hkl hc e,d1r hT hp hn hpl hnl hk hkl e⟩
end
end Go.Pl
end
section
namespace Go.Pl
open Go Go.RowKit Go.Sx Go.Qx
section
variable {T:Api_Type}{L:Api_Line}{s:Api_Shape}{ks:List Key}
theorem b1l {g:Api_Goal}(h:nG T g):a00 T g=some true:=by
 obtain ⟨p,q,l⟩:=g
 obtain ⟨⟨h1,h2,h3,h4⟩,h5,h6⟩:=h
 have h1:l=false:=h1
 subst h1
 have h3:p.length<=1000000:=h3
 have h4:q.length<=1000000:=h4
 have h5:srt p=p:=h5
 have h6:srt q=q:=h6
 unfold a00
 rw [c6n p q false (by omega) (by omega),h5,h6]
 simp only [Option.bind_some]
 rw [c7R _ _ (by show p.length<=_; omega) (by show q.length<=_; omega),c0S _ (by show p.length<=_; omega) (by show q.length<=_; omega),h2]
 simp
theorem c7X {n:Int}{l:List Int}(hm:mpB T n=true)(hl:n∈l){f:Api_Field}(hf:f∈(ndR T n).Fields):f.Key_∈a4a T l:=by
 unfold a4a
 refine List.mem_flatMap.2 ⟨n,hl,?_⟩
 unfold mpB at hm
 simp only [Bool.and_eq_true] at hm
 obtain ⟨j,rfl,hj⟩:=a0v hm.1
 have e:=List.getElem?_eq_getElem hj
 unfold ndR at hf
 rw [Int.toNat_natCast,e] at hf ⊢
 simp only [Option.map_some,Option.getD_some,List.mem_map]
 exact ⟨f,hf,rfl⟩
theorem c9Q {l:List Int}(hl:l.all (mpB T)=true){y:Key}(h:y∈a4a T l):∃ n∈l,∃ f∈(ndR T n).Fields,f.Key_=y:=by
 unfold a4a at h
 obtain ⟨n,hn,hy⟩:=List.mem_flatMap.1 h
 have hm:=List.all_eq_true.1 hl n hn
 unfold mpB at hm
 simp only [Bool.and_eq_true] at hm
 obtain ⟨j,rfl,hj⟩:=a0v hm.1
 have e:=List.getElem?_eq_getElem hj
 rw [Int.toNat_natCast,e] at hy
 simp only [Option.map_some,Option.getD_some,List.mem_map] at hy
 obtain ⟨f,hf,rfl⟩:=hy
 refine ⟨_,hn,f,?_,rfl⟩
 unfold ndR
 rw [Int.toNat_natCast,e]
 exact hf
theorem d0i (hT:GT T)(hall:(L.Pos++L.Neg).all (mpB T)=true)(hlen:(L.Pos++L.Neg).length<=12)(hkl:s.Keys.length<=36)(hin:∀ n∈L.Pos++L.Neg,∀ f∈(ndR T n).Fields,f.Key_∈s.Keys) :
 z7 (a1Z T L s) ((L.Pos++L.Neg).length+1) 0=some (.inl ()):=by
 have h:=a8d (step:=a1Z T L s) (fun i=>(i:Int)) (L.Pos++L.Neg).length (.inl ()) (fun i hi=>by
  have e:=List.getElem?_eq_getElem hi
  have hm:=List.getElem_mem hi
  generalize (L.Pos++L.Neg)[i]=n at e hm
  obtain ⟨ex,hx,_⟩:=a6u (List.all_eq_true.1 hall _ hm)
  have hfl:=a9V hT hx
  have h1:=a8d (step:=a1W s (ndR T n)) (fun i=>(i:Int)) (ndR T n).Fields.length (.inl ()) (fun j hj=>by
   have ej:=List.getElem?_eq_getElem hj
   obtain ⟨r,er,hr⟩:=b7C s.Keys ((ndR T n).Fields[j]).Key_ (by omega)
   rw [a5q.2 (hin n hm _ (List.getElem_mem hj))] at hr
   unfold a1W
   rw [k9 hj,y4 ej]
   simp only [cond_true,Option.bind_some]
   rw [er]
   simp only [Option.bind_some]
   rw [hr,v7,j5 j (by omega)]
   rfl) (by
   unfold a1W
   simp) ((ndR T n).Fields.length+1) (Nat.le_refl _)
  unfold a1Z
  simp only [v7,w4]
  rw [k9 hi,y4 e]
  simp only [cond_true,Option.bind_some]
  rw [ex]
  simp only [Option.bind_some]
  have h1':z7 (a1W s (ndR T n)) ((ndR T n).Fields.length+1) 0=some (.inl ()):=h1
  rw [h1',j5 i (by omega)]
  rfl) (by
  unfold a1Z
  simp) ((L.Pos++L.Neg).length+1) (Nat.le_refl _)
 exact h
theorem c9W {x:Api_TypeNode}(hx:x.Fields.length<=3){i:Nat}{k:Key}(hk:s.Keys[i]?=some k)(b:Bool) :
 z7 (a1R s (i:Int) x) (x.Fields.length+1) (b,0)=some (b||x.Fields.any fun f=>Z3 f.Key_ k):=by
 have h:=a8d (step:=a1R s (i:Int) x) (fun j=>(b||(x.Fields.take j).any fun f=>Z3 f.Key_ k,(j:Int))) x.Fields.length (b||x.Fields.any fun f=>Z3 f.Key_ k) (fun j hj=>by
  have ej:=List.getElem?_eq_getElem hj
  unfold a1R
  simp only [v7]
  rw [k9 hj,y4 ej,y4 hk,j5 j (by omega),a69 ej,List.any_append]
  simp only [cond_true,Option.bind_some,a73,List.any_cons,List.any_nil,Bool.or_false]
  rw [<- Bool.or_assoc]
  cases (b||(x.Fields.take j).any fun f=>Z3 f.Key_ k)<;>rfl) (by
  unfold a1R
  simp) (x.Fields.length+1) (Nat.le_refl _)
 simpa using h
theorem c9M (hT:GT T)(hall:(L.Pos++L.Neg).all (mpB T)=true)(hlen:(L.Pos++L.Neg).length<=12){i:Nat}{k:Key}(hk:s.Keys[i]?=some k) :
 z7 (a1U T L s (i:Int)) ((L.Pos++L.Neg).length+1) (false,0)=some ((L.Pos++L.Neg).any fun n=>(ndR T n).Fields.any fun f=>Z3 f.Key_ k):=by
 have h:=a8d (step:=a1U T L s (i:Int)) (fun j=>(((L.Pos++L.Neg).take j).any fun n=>(ndR T n).Fields.any fun f=>Z3 f.Key_ k,(j:Int))) (L.Pos++L.Neg).length ((L.Pos++L.Neg).any fun n=>(ndR T n).Fields.any fun f=>Z3 f.Key_ k) (fun j hj=>by
  have e:=List.getElem?_eq_getElem hj
  have hm:=List.getElem_mem hj
  generalize (L.Pos++L.Neg)[j]=n at e hm
  obtain ⟨ex,hx,_⟩:=a6u (List.all_eq_true.1 hall _ hm)
  have hfl:=a9V hT hx
  unfold a1U
  simp only [v7,w4]
  rw [k9 hj,y4 e]
  simp only [cond_true,Option.bind_some]
  rw [ex]
  simp only [Option.bind_some]
  rw [c9W hfl hk,j5 j (by omega),a69 e,List.any_append]
  simp) (by
  unfold a1U
  rw [List.take_length]
  simp) ((L.Pos++L.Neg).length+1) (Nat.le_refl _)
 exact h
theorem c7K (hT:GT T)(hp:L.Pos.all (mpB T)=true)(hn:L.Neg.all (mpB T)=true)(hpl:L.Pos.length<=6)(hnl:L.Neg.length<=6)(hks:asc cK ks=true)(hkm:∀ y,y∈ks↔y∈a4a T (L.Pos++L.Neg))(hkl:ks.length<=36)(hs:SFm T ks s) :
 a4Q T L s=some true:=by
 have hall:(L.Pos++L.Neg).all (mpB T)=true:=by rw [List.all_append,hp,hn]; rfl
 have hlen:(L.Pos++L.Neg).length<=12:=by rw [List.length_append]; omega
 have hK:=hs.keys
 have hst:=hs.st
 have hpa:=hs.pa
 have hfew:=hs.few
 have hin:∀ n∈L.Pos++L.Neg,∀ f∈(ndR T n).Fields,f.Key_∈s.Keys:=fun n hn f hf=>by
  rw [hK]
  exact (hkm _).2 (c7X (List.all_eq_true.1 hall n hn) hn hf)
 have hkl':s.Keys.length<=36:=by rw [hK]; exact hkl
 have h5:=a8d (step:=a11 T L s) (fun i=>(i:Int)) s.Keys.length (.inl ()) (fun i hi=>by
  have e:=List.getElem?_eq_getElem hi
  have hm:=List.getElem_mem hi
  have hisz:i<s.States.length:=by rw [hst,<- hK]; exact hi
  have hipz:i<s.Parts.length:=by rw [hpa,<- hK]; exact hi
  have eS:=List.getElem?_eq_getElem hisz
  have eP:=List.getElem?_eq_getElem hipz
  have hng:=hs.parts _ (List.getElem_mem hipz)
  have hab:=hs.abs i
  obtain ⟨n,hn,f,hf,hfk⟩:=c9Q hall ((hkm _).1 (by rw [<- hK]; exact hm))
  have hany:((L.Pos++L.Neg).any fun n=>(ndR T n).Fields.any fun f=>Z3 f.Key_ s.Keys[i])=true:=List.any_eq_true.2 ⟨n,hn,List.any_eq_true.2 ⟨f,hf,a0V.2 hfk⟩⟩
  have hcmp:(bif decide (0<(i:Int)) then (Option.bind (idx s.Keys (wr .i64 ((i:Int)-1))) fun e41=>Option.bind (idx s.Keys (i:Int)) fun e42=>Option.bind (J5 e41 e42) fun r43=>some (decide (0<=r43))) else (some false))=some false:=by
   by_cases h0:0<(i:Int)
   ·have h1:1<=i:=by omega
    have e1:s.Keys[i-1]?=some (s.Keys[i-1]'(by omega)):=List.getElem?_eq_getElem (by omega)
    rw [decide_eq_true h0,v7,a8k i (by omega) h1,y4 e1,y4 e]
    simp only [cond_true,Option.bind_some]
    rw [a7O]
    have:=(b1v cK s.Keys).1 (by rw [hK]; exact hks) i h1 hi
    simp only [Option.bind_some]
    rw [decide_eq_false (by omega)]
   ·rw [decide_eq_false h0]
    rfl
  have hne:=b1l hng
  have habs:(bif s.States[i]==0 then (Option.bind (idx s.Parts (i:Int)) fun e31=>Option.bind (bif decide (0<(e31.Pos.length:Int)) then (some true) else (Option.bind (idx s.Parts (i:Int)) fun e32=>some (decide (0<(e32.Neg.length:Int))))) fun q33=>Option.bind (bif q33 then (some true) else (Option.bind (idx s.Parts (i:Int)) fun e34=>some e34.Lists)) fun q35=>some q35) else (some false))=some false:=by
   cases h0:(s.States[i]==0) with
   | false=>rfl
   | true =>
     have h0:s.States[i]=0:=by simpa using h0
     rw [h0] at eS
     have hP:=hab eS
     rw [y4 hP]
     rfl
  unfold a11
  rw [w4,k9 hi,c9M hT hall hlen e,hany]
  simp only [cond_true,Option.bind_some]
  rw [y4 eS]
  simp only [Option.bind_some]
  rw [habs]
  simp only [Option.bind_some,Bool.not_true,cond_false]
  rw [y4 eP]
  simp only [Option.bind_some]
  rw [hne]
  simp only [Option.bind_some,Bool.not_true,cond_false]
  rw [hcmp]
  simp only [Option.bind_some,cond_false]
  rw [v7,j5 i (by omega)]) (by
  unfold a11
  simp) (s.Keys.length+1) (Nat.le_refl _)
 have h6:=a8d (step:=a1Y T s) (fun i=>(i:Int)) s.Some.length (.inl ()) (fun i hi=>by
  have e:=List.getElem?_eq_getElem hi
  obtain ⟨hkd,hng⟩:=hs.some _ (List.getElem_mem hi)
  have hne:=b1l hng
  have hkb:(bif s.Some[i].Kind != 0 then (Option.bind (idx s.Some (i:Int)) fun e51=>some (e51.Kind != 1)) else (some false))=some false:=by
   rw [y4 e]
   rcases hkd with h | h<;>rw [h]<;>simp [h]
  unfold a1Y
  rw [k9 hi]
  simp only [cond_true]
  rw [show idx s.Some (i:Int)=some s.Some[i] from y4 e] at hkb ⊢
  simp only [Option.bind_some] at hkb ⊢
  rw [hkb]
  simp only [Option.bind_some,cond_false]
  rw [hne]
  simp only [Option.bind_some,Bool.not_true,cond_false]
  rw [v7,j5 i (by omega)]) (by
  unfold a1Y
  simp) (s.Some.length+1) (Nat.le_refl _)
 have h5':z7 (a11 T L s) (s.Keys.length+1) 0=some (.inl ()):=h5
 have h6':z7 (a1Y T s) (s.Some.length+1) 0=some (.inl ()):=h6
 have b1:((s.States.length:Int) != (s.Keys.length:Int))=false:=by rw [hst,hK]; simp
 have b2:((s.Parts.length:Int) != (s.Keys.length:Int))=false:=by rw [hpa,hK]; simp
 unfold a4Q
 rw [b1,b2,b1l hs.rest.1,b1l hs.rest.2,Z2 (by omega),Z2 (by omega),w4,w4,w4,d0i hT hall hlen hkl' hin,h5',h6']
 rfl
end
end Go.Pl
end
section
namespace Go.Pl
open Go Go.RowKit Go.Sx Go.Qx
theorem c5M:CmpOk cK:=⟨a8t,b6b,fun _ _ h=>c2H h⟩
theorem c2Z {α:Type}{l:List α}(h:l.Nodup){i j:Nat}(hi:i<l.length)(hj:j<l.length)(e:l[i]=l[j]):i=j:=by
 have:=List.pairwise_iff_getElem.1 h
 rcases Nat.lt_trichotomy i j with h1 | h1 | h1
 ·exact absurd e (this i j hi hj h1)
 ·exact h1
 ·exact absurd e.symm (this j i hj hi h1)
section
variable {T:Api_Type}
theorem c1S {v:Val}(ho:vOK v=true)(hK:v.Kind=8)(hb:k8 v<=204700):MOk v:=by
 have h:=b7B v
 rw [ho] at h
 have h:=h.symm
 rw [Bool.and_eq_true,Bool.and_eq_true] at h
 exact d0U ho h.2.1 hK (by omega)
theorem c8e {v:Val}(h:MOk v):∀ q∈kv v,∀ q'∈kv v,q.1=q'.1->q=q':=by
 intro q hq q' hq' e
 obtain ⟨i,hi,e1⟩:=List.getElem_of_mem hq
 obtain ⟨j,hj,e2⟩:=List.getElem_of_mem hq'
 have hl:=h.len
 rw [List.length_zip] at hi hj
 have g1:(kv v)[i]?=some q:=by rw [List.getElem?_eq_getElem (by rw [List.length_zip]; exact hi),e1]
 have g2:(kv v)[j]?=some q':=by rw [List.getElem?_eq_getElem (by rw [List.length_zip]; exact hj),e2]
 obtain ⟨a1,a2⟩:=a4z g1
 obtain ⟨b1,b2⟩:=a4z g2
 have hnd:v.Keys.Nodup:=CmpOk.nodup c5M ((CmpOk.asc_pw c5M _).1 h.asc)
 have hij:i=j:=by
  have hi':i<v.Keys.length:=by omega
  have hj':j<v.Keys.length:=by omega
  rw [List.getElem?_eq_getElem hi'] at a1
  rw [List.getElem?_eq_getElem hj'] at b1
  have e3:v.Keys[i]=v.Keys[j]:=by rw [Option.some.inj a1,Option.some.inj b1]; exact e
  exact c2Z hnd hi' hj' e3
 subst hij
 rw [g1] at g2
 cases g2
 rfl
theorem c7F (hT:GT T){n:Int}(hm:mpB T n=true):∀ f∈(ndR T n).Fields,∀ g∈(ndR T n).Fields,f.Key_=g.Key_->f=g:=by
 obtain ⟨_,hx,hK⟩:=a6u hm
 have h:=(a6U hT hx hK).1
 unfold a2F at h
 simp only [Bool.and_eq_true] at h
 have hasc:asc cK ((ndR T n).Fields.map (·.Key_))=true:=by
  have:=h.1
  exact this
 have hnd:((ndR T n).Fields.map (·.Key_)).Nodup:=CmpOk.nodup c5M ((CmpOk.asc_pw c5M _).1 hasc)
 intro f hf g hg e
 obtain ⟨i,hi,e1⟩:=List.getElem_of_mem hf
 obtain ⟨j,hj,e2⟩:=List.getElem_of_mem hg
 have e3:((ndR T n).Fields.map (·.Key_))[i]'(by simpa using hi)=((ndR T n).Fields.map (·.Key_))[j]'(by simpa using hj):=by simp [e1,e2,e]
 have:=c2Z hnd _ _ e3
 subst this
 rw [<- e1,<- e2]
theorem d0y (hT:GT T){v:Val}(hv:MOk v):∀ a,a58 T a=true->∀ u∈v.Kids,w9 T u a=true:=fun a ha u hu=>by
 unfold a58 at ha
 rw [Bool.and_eq_true,decide_eq_true_eq] at ha
 obtain ⟨j,rfl⟩:∃ j:Nat,a=(j:Int):=⟨a.toNat,by omega⟩
 obtain ⟨_,h2⟩:=ha
 rw [Int.toNat_natCast] at h2
 cases e:T.Nodes[j]? with
 | none=>rw [e] at h2; cases h2
 | some x =>
   rw [e] at h2
   have hK:x.Kind=2:=by simpa using h2
   have ho:=hv.ok u hu
   rw [c5b hT e ho.1 (by omega)]
   unfold unM
   rw [if_pos hK]
theorem d0u (hT:GT T)(hr:inR T.Nodes.length T.Root=true){v:Val}(ho:vOK v=true)(hb:k8 v<=2097152)(hK:(v.Kind==8)=false)(s:Api_Shape)(n:Nat)(hn:200000000<=n):a2i n v T s=some false:=by
 have e0:(v.Kind != 8)=true:=by unfold bne; rw [hK]; rfl
 unfold a2i
 rw [b3U n v (by omega) (by omega),ho,e0]
 rfl
theorem c97 {v:Val}(hK:(v.Kind==8)=false)(s:Api_Shape)(n:Nat):a0e n v T s=some false:=by
 have e0:(v.Kind != 8)=true:=by unfold bne; rw [hK]; rfl
 unfold a0e
 rw [e0]
 rfl
def inZ (T:Api_Type)(v:Val)(s:Api_Shape):Bool:=v.Kind==8&&a8L T v s
theorem c9T (hT:GT T)(hr:inR T.Nodes.length T.Root=true){v:Val}(ho:vOK v=true)(hb:k8 v<=204700){s:Api_Shape}(hs:SOk T s)(n:Nat)(hn:200000000<=n):a2i n v T s=some (inZ T v s)/\a0e n v T s=some (inZ T v s):=by
 unfold inZ
 cases hK:(v.Kind==8) with
 | false=>exact ⟨d0u hT hr ho (by omega) hK s n hn,c97 hK s n⟩
 | true =>
   have hK':v.Kind=8:=by simpa using hK
   have hm:=c1S ho hK' hb
   rw [Bool.true_and]
   exact ⟨c4p hT hr ho (by omega) hK' hm hs n hn,c4w hT hr hK' hm hs n hn⟩
end
end Go.Pl
end
section
namespace Go.Pl
open Go Go.RowKit Go.Sx Go.Qx
def tB:Api_Type:=Api_Type.mk ([Api_TypeNode.mk 2 0 0 (⟨#[]⟩:ByteArray) ([]:List Int) ([]:List Api_Field) (0,0),Api_TypeNode.mk 13 0 0 (⟨#[]⟩:ByteArray) ([]:List Int) ([]:List Api_Field) (0,0)]:List Api_TypeNode) 0
def lB:Api_Line:=Api_Line.mk 8 0 ([]:List Api_Range) (Api_Names.mk false ([]:List ByteArray)) ([1]:List Int) ([]:List Int) ([]:List ByteArray) ([]:List ByteArray)
theorem d19:GT tB:=by
 refine ⟨by decide,fun i x hx=>?_⟩
 match i,hx with
 | 0,hx =>
   cases hx
   exact b69 (by decide)
 | 1,hx =>
   cases hx
   exact ⟨by kernel_rfl,fun h=>absurd h (show ¬ (false=true) by simp),by show (0:Nat)<=4; omega,by show (⟨#[]⟩:ByteArray).size<=5; decide,by show (0:Nat)<=3; omega,fun f hf=>(by cases hf),by show (-9223372036854775808:Int)<=0/\(0:Int)<=9223372036854775807/\(-9223372036854775808:Int)<=0/\(0:Int)<=9223372036854775807; decide⟩
 | i+2,hx=>simp [tB] at hx
theorem d2m:a44 tB ([1]++[])=some []:=by
 obtain ⟨ks,e,_,_,hm⟩:=c11 d19 ([1]++[]) (by decide) (by kernel_rfl)
 have:ks=[]:=by
  cases ks with
  | nil=>rfl
  | cons y r =>
    have h:=(hm y).1 (by simp)
    have h2:a4a tB ([1]++[])=[]:=rfl
    rw [h2] at h
    cases h
 rw [e,this]
theorem d0g:a3D 200000000 tB lB=(Option.bind (a44 tB ([1]++[])) fun r8=>Option.bind (a6R 0 0 24) fun m9=>Option.bind (a0E 200000000 0 lB tB r8 (List.replicate m9 (Record_place.mk 0 false 0:Record_place)) [] ()) fun r10=>some (r10.2,0)):=by kernel_rfl
theorem c9X:a1p 200000000=some true:=by
 unfold a1p
 show Option.bind (a3D 200000000 tB lB) _=_
 rw [d0g,d2m]
 decide +kernel
end Go.Pl
end
section
namespace Go.Pl
open Go Go.RowKit Go.Sx Go.Qx
theorem c8K (l:List (List Int))(hl:l.length<=1000):a5b l=some (l.all fun x=>!decide (80<(x.length:Int))):=by
 have l1:=J4 (step:=a2k l) l (fun x=>!decide (80<(x.length:Int))) (fun i=>(i:Int)) () false (fun i x hx=>by
  have hi:i<l.length:=(List.getElem?_eq_some_iff.1 hx).1
  unfold a2k
  rw [k9 hi,y4 hx]
  simp only [cond_true,Option.bind_some,v7]
  rw [j5 i (by omega)]
  cases decide (80<(x.length:Int))<;>rfl) (by
  unfold a2k
  simp)
 have l1':z7 (a2k l) (l.length+1) 0=_:=l1
 unfold a5b
 rw [w4,l1']
 cases l.all fun x=>!decide (80<(x.length:Int))<;>rfl
end Go.Pl
end
section
namespace Go.Pl
open Go Go.RowKit Go.Sx Go.Qx
section
variable {T:Api_Type}
theorem c4u (hT:GT T)(hr:inR T.Nodes.length T.Root=true){L:Api_Line}{ks:List Key}{r8:Semtypebase_Source}(hp:L.Pos.all (mpB T)=true)(hn:L.Neg.all (mpB T)=true)(hpl:L.Pos.length<=6)(hnl:L.Neg.length<=6)(hks:asc cK ks=true)(hkm:∀ y,y∈ks↔y∈a4a T (L.Pos++L.Neg))(hkl:ks.length<=36){v:Val}(ho:vOK v=true)(hb:k8 v<=204700)
 (l:List Api_Shape) (hl:l.length<=4194304) (c:Int) (hl2:∀ s∈l,SFm T ks s/\SOk T s) (n:Nat) (hn2:200000000<=n) :
 z7 (a0D n (T,L) (l,c) (v,r8)) (l.length+1) (false,0)=some (.inl (l.any (inZ T v))):=by
 have h:=a8d (step:=a0D n (T,L) (l,c) (v,r8)) (fun i=>((l.take i).any (inZ T v),(i:Int))) l.length (.inl (l.any (inZ T v))) (fun i hi=>by
  have e:=List.getElem?_eq_getElem hi
  obtain ⟨h1,h2⟩:=hl2 _ (List.getElem_mem hi)
  have hb2:=c9T hT hr ho hb h2 n hn2
  generalize l[i]=s at e h1 h2 hb2
  have hf:=c7K hT hp hn hpl hnl hks hkm hkl h1
  unfold a0D
  simp only [v7]
  rw [k9 hi,y4 e]
  simp only [cond_true,Option.bind_some]
  rw [hf]
  simp only [Option.bind_some,Bool.not_true,cond_false]
  rw [hb2.1,hb2.2,j5 i (by omega),a69 e,List.any_append]
  simp only [Option.bind_some,bne_self_eq_false,cond_false,List.any_cons,List.any_nil,Bool.or_false]
  cases (l.take i).any (inZ T v)<;>rfl) (by
  unfold a0D
  simp) (l.length+1) (Nat.le_refl _)
 exact h
end
theorem b9z (d t m:List Int):∃ n,a05 n d t m=some true:=by
 have key:∀ n,200000000<=n->a1p n=some true->a05 n d t m=some true:=by
  intro n hn ha
  unfold a05
  rw [c8K _ (by simp),ha]
  simp only [Option.bind_some]
  by_cases hd:80<(d.length:Int)
  ·have:(List.all [d,t,m] fun x=>!decide (80<(x.length:Int)))=false:=by simp only [List.all_cons,decide_eq_true hd]; rfl
   rw [this]
   rfl
  by_cases ht:80<(t.length:Int)
  ·have:(List.all [d,t,m] fun x=>!decide (80<(x.length:Int)))=false:=by simp only [List.all_cons,decide_eq_false hd,decide_eq_true ht]; rfl
   rw [this]
   rfl
  by_cases hm:80<(m.length:Int)
  ·have:(List.all [d,t,m] fun x=>!decide (80<(x.length:Int)))=false:=by simp only [List.all_cons,decide_eq_false hd,decide_eq_false ht,decide_eq_true hm]; rfl
   rw [this]
   rfl
  have hs:(List.all [d,t,m] fun x=>!decide (80<(x.length:Int)))=true:=by simp only [List.all_cons,decide_eq_false hd,decide_eq_false ht,decide_eq_false hm]; rfl
  rw [hs]
  simp only [Bool.not_true,cond_false]
  obtain ⟨N,ns,P,Q,hN,hN4,el,hI⟩:=c8C (L:=t) (d:=d) (by omega) (by omega)
  have hlen:ns.length=N+3:=hI.len
  generalize hT0:Api_Type.mk ns 0=T at el
  have hns:T.Nodes=ns:=by rw [<- hT0]
  have hT:GT T:=⟨by rw [hns]; omega,by rw [hns,hlen]; exact hI.nodes⟩
  have hroot:inR T.Nodes.length T.Root=true:=by rw [<- hT0]; exact a88 (show (0:Int)<=0 by omega) (by show (0:Int)<(ns.length:Int); omega)
  have hmp:∀ k:Int,(∃ j:Nat,k=(j:Int)/\N<=j/\j<N+3)->mpB T k=true:=fun k ⟨j,e,h1,h2⟩=>by
   subst e
   have hj:j<ns.length:=by omega
   have e:=List.getElem?_eq_getElem hj
   have hk:=(hI.maps j _ h1 e).1
   unfold mpB
   rw [hns,Int.toNat_natCast,e,a88 (by omega) (by omega)]
   simp [hk]
  have hp:P.all (mpB T)=true:=List.all_eq_true.2 fun k hk=>hmp k (hI.pos k hk)
  have hq:Q.all (mpB T)=true:=List.all_eq_true.2 fun k hk=>hmp k (hI.neg k hk)
  have hpl:P.length<=3:=hI.few.1
  have hql:Q.length<=3:=hI.few.2
  generalize hL0:Api_Line.mk 8 0 [] (Api_Names.mk false []) P Q [] []=L at el
  have hLp:L.Pos=P:=by rw [<- hL0]
  have hLn:L.Neg=Q:=by rw [<- hL0]
  have hLk:L.Kind=8:=by rw [<- hL0]
  rw [el]
  simp only [Option.bind_some]
  obtain ⟨ks,hks,hkm,hkl,hok,es⟩:=c6N (L:=L) hT hroot hLk (by rw [hLp]; exact hp) (by rw [hLn]; exact hq) (by rw [hLp]; omega) (by rw [hLn]; omega) n (by omega)
  rw [es]
  simp only [Option.bind_some,bne_self_eq_false,cond_false]
  by_cases hmany:2000<((b1G T L.Pos L.Neg ks).length:Int)
  ·rw [decide_eq_true hmany]
   rfl
  rw [decide_eq_false hmany]
  simp only [cond_false]
  obtain ⟨x,t1,e1,h1,x0,x1⟩:=Z9 (L:=m) (by omega) (⟨rfl,by show (0:Int)<=0; omega,by show (0:Int)<=_; omega⟩:OS m (Semtypebase_Source.mk m 0)) (n:=3) (by omega) (by omega)
  obtain ⟨x,rfl⟩:=b1I x0
  rw [e1]
  simp only [Option.bind_some]
  have hix:wr .i64 (wr .i64 ((T.Nodes.length:Int)-1)-(x:Int))=((N+2-x:Nat):Int):=by
   rw [hns,hlen,v7,v7,show w64 (((N+3:Nat):Int)-1)=((N+2:Nat):Int) from by rw [K2 (by omega) (by omega)]; omega,K2 (by omega) (by omega)]
   omega
  obtain ⟨v,u,e2,_,ho,hb0⟩:=c01 (L:=m) (by omega) hT (h:=3) (by omega) (c4a (by omega) hT 3 (by omega)) n (by omega) (N+2-x) t1 (by rw [hns]; omega) h1
  have hb:k8 v<=204700:=Nat.le_trans hb0 (c65 (Nat.le_refl 3))
  rw [hix]
  have e2':a4X n t1 T ((N+2-x:Nat):Int) 3=some (v,u):=e2
  rw [e2']
  simp only [Option.bind_some,w4]
  have hall:∀ s∈b1G T L.Pos L.Neg ks,SFm T ks s/\SOk T s:=fun s hs=>c96 hT (by rw [hLp]; exact hp) (by rw [hLn]; exact hq) (by rw [hLp]; omega) (by rw [hLn]; omega) hok (by omega) hs
  rw [c4u hT hroot (by rw [hLp]; exact hp) (by rw [hLn]; exact hq) (by rw [hLp]; omega) (by rw [hLn]; omega) hks hkm (by omega) ho hb (b1G T L.Pos L.Neg ks) (by omega) 0 hall n hn]
  simp only [Option.bind_some,j9]
  have hg:gIn T.Nodes.length (g0 L.Pos L.Neg)=true:=by
   unfold gIn
   rw [Bool.and_eq_true]
   exact ⟨by rw [hLp]; exact c6l hp,by rw [hLn]; exact c6l hq⟩
  have eg:X2 n v T (Api_Goal.mk L.Pos L.Neg false)=some (gM T v (g0 L.Pos L.Neg)):=c0Q hT hroot ho (by omega) L.Pos L.Neg hg (by rw [hLp]; omega) (by rw [hLn]; omega) n hn
  rw [eg]
  have hend:(b1G T L.Pos L.Neg ks).any (inZ T v)=(v.Kind==8&&gM T v (g0 L.Pos L.Neg)):=by
   unfold inZ
   cases hK:(v.Kind==8) with
   | false=>simp
   | true =>
     have hK':v.Kind=8:=by simpa using hK
     have hM:=c1S ho hK' hb
     have hallm:∀ k∈L.Pos++L.Neg,mpB T k=true:=fun k hk=>by
      rw [hLp,hLn] at hk
      rcases List.mem_append.1 hk with hk | hk
      ·exact List.all_eq_true.1 hp k hk
      ·exact List.all_eq_true.1 hq k hk
     have hsh:=c6s (T:=T) (v:=v) (keys:=ks) (P:=L.Pos) (N:=L.Neg) hM.len (c8e hM) (fun k hk f hf=>(hkm _).2 (c7X (hallm k hk) hk hf)) (fun k hk=>c7F hT (hallm k hk)) hM.keys (d0y hT hM)
     have h0:((b1G T L.Pos L.Neg ks).any fun s=>true&&a8L T v s)=(b1G T L.Pos L.Neg ks).any (a8L T v):=by congr 1
     rw [h0,hsh,Bool.true_and]
     have hmem:∀ k∈L.Pos++L.Neg,w9 T v k=a3c (w9 T) v (ndR T k):=fun k hk=>by
      rw [c3n hT ho (by omega) (hallm k hk),hK,Bool.true_and]
     unfold gM
     show _=(L.Pos.all (w9 T v)&&L.Neg.all fun k=>!w9 T v k)
     congr 1
     ·rw [Bool.eq_iff_iff,List.all_eq_true,List.all_eq_true]
      exact ⟨fun h k hk=>by rw [hmem k (List.mem_append_left _ hk)]; exact h k hk,fun h k hk=>by rw [<- hmem k (List.mem_append_left _ hk)]; exact h k hk⟩
     ·rw [Bool.eq_iff_iff,List.all_eq_true,List.all_eq_true]
      exact ⟨fun h k hk=>by rw [hmem k (List.mem_append_right _ hk)]; exact h k hk,fun h k hk=>by rw [<- hmem k (List.mem_append_right _ hk)]; exact h k hk⟩
  rw [hend]
  cases (v.Kind==8) with
  | false=>rfl
  | true =>
    simp
 exact ⟨_,key _ (Nat.le_refl _) c9X⟩
end Go.Pl
end
section
namespace Go.Proofs
open Go.Shelf
set_option maxRecDepth 100000
def Tryz.lay85_ren:Go.Shelf.Ren:=⟨fun | 6=>85 | 15=>150 | 14=>149 | 28=>196 | 29=>197 | 20=>188 | 21=>189 | 22=>190 | 23=>191 | 24=>192 | 25=>193 | 26=>194 | 27=>195 | 46=>223 | 47=>224 | 48=>225 | 49=>226 | 50=>227 | 57=>238 | n=>n,fun | 22=>29 | 24=>83 | 25=>113 | 3=>3 | 39=>81 | 0=>0 | 53=>211 | 55=>213 | 4=>4 | 46=>204 | 45=>203 | 50=>208 | 5=>5 | 9=>9 | 66=>231 | 70=>235 | 76=>244 | 77=>245 | n=>n,fun | n=>n⟩
theorem Tryz.lay85:Go.Proofs.SlLaysF0.n6 Tryz.prog Tryz.lay85_ren:={
 mixed:=by kernel_rfl
 f6:=⟨Tryz.f85.name,by decide,Tryz.func85.trans (congrArg some (by kernel_rfl))⟩
 f14:=⟨Tryz.f149.name,by decide,Tryz.func149.trans (congrArg some (by kernel_rfl))⟩
 f15:=Tryz.func150.trans (congrArg some (by kernel_rfl))
 f20:=⟨Tryz.f188.name,by decide,Tryz.func188.trans (congrArg some (by kernel_rfl))⟩
 f21:=⟨Tryz.f189.name,by decide,Tryz.func189.trans (congrArg some (by kernel_rfl))⟩
 f22:=⟨Tryz.f190.name,by decide,Tryz.func190.trans (congrArg some (by kernel_rfl))⟩
 f23:=⟨Tryz.f191.name,by decide,Tryz.func191.trans (congrArg some (by kernel_rfl))⟩
 f24:=⟨Tryz.f192.name,by decide,Tryz.func192.trans (congrArg some (by kernel_rfl))⟩
 f25:=⟨Tryz.f193.name,by decide,Tryz.func193.trans (congrArg some (by kernel_rfl))⟩
 f26:=⟨Tryz.f194.name,by decide,Tryz.func194.trans (congrArg some (by kernel_rfl))⟩
 f27:=⟨Tryz.f195.name,by decide,Tryz.func195.trans (congrArg some (by kernel_rfl))⟩
 f28:=Tryz.func196.trans (congrArg some (by kernel_rfl))
 f29:=Tryz.func197.trans (congrArg some (by kernel_rfl))
 f46:=⟨Tryz.f223.name,by decide,Tryz.func223.trans (congrArg some (by kernel_rfl))⟩
 f47:=Tryz.func224.trans (congrArg some (by kernel_rfl))
 f48:=Tryz.func225.trans (congrArg some (by kernel_rfl))
 f49:=⟨Tryz.f226.name,by decide,Tryz.func226.trans (congrArg some (by kernel_rfl))⟩
 f50:=⟨Tryz.f227.name,by decide,Tryz.func227.trans (congrArg some (by kernel_rfl))⟩
 f57:=⟨Tryz.f238.name,by decide,Tryz.func238.trans (congrArg some (by kernel_rfl))⟩
 t0:=Tryz.underlying0
 a0:=Tryz.isAgg0
 z0:=Tryz.sizeOf0
 v0:=Tryz.zeroValue0
 t3:=Tryz.underlying3
 a3:=Tryz.isAgg3
 z3:=Tryz.sizeOf3
 v3:=Tryz.zeroValue3
 t4:=Tryz.underlying4
 a4:=Tryz.isAgg4
 z4:=Tryz.sizeOf4
 v4:=Tryz.zeroValue4
 t5:=Tryz.underlying5
 a5:=Tryz.isAgg5
 z5:=Tryz.sizeOf5
 v5:=Tryz.zeroValue5
 t9:=Tryz.underlying9
 a9:=Tryz.isAgg9
 z9:=Tryz.sizeOf9
 v9:=Tryz.zeroValue9
 t22:=Tryz.underlying29
 a22:=Tryz.isAgg29
 z22:=Tryz.sizeOf29
 v22:=Tryz.zeroValue29
 t25:=Tryz.underlying113
 a25:=Tryz.isAgg113
 z25:=Tryz.sizeOf113
 v25:=Tryz.zeroValue113
 t39:=Tryz.underlying81
 a39:=Tryz.isAgg81
 z39:=Tryz.sizeOf81
 v39:=Tryz.zeroValue81
 t45:=Tryz.underlying203
 a45:=Tryz.isAgg203
 z45:=Tryz.sizeOf203
 v45:=Tryz.zeroValue203
 t46:=Tryz.underlying204
 a46:=Tryz.isAgg204
 z46:=Tryz.sizeOf204
 v46:=Tryz.zeroValue204
 t50:=Tryz.underlying208
 a50:=Tryz.isAgg208
 z50:=Tryz.sizeOf208
 v50:=Tryz.zeroValue208
 t53:=Tryz.underlying211
 a53:=Tryz.isAgg211
 z53:=Tryz.sizeOf211
 v53:=Tryz.zeroValue211
 t55:=Tryz.underlying213
 a55:=Tryz.isAgg213
 z55:=Tryz.sizeOf213
 v55:=Tryz.zeroValue213
 t66:=Tryz.underlying231
 a66:=Tryz.isAgg231
 z66:=Tryz.sizeOf231
 v66:=Tryz.zeroValue231
 t70:=Tryz.underlying235
 a70:=Tryz.isAgg235
 z70:=Tryz.sizeOf235
 v70:=Tryz.zeroValue235
 t76:=Tryz.underlying244
 a76:=Tryz.isAgg244
 z76:=Tryz.sizeOf244
 v76:=Tryz.zeroValue244
 t77:=Tryz.underlying245
 a77:=Tryz.isAgg245
 z77:=Tryz.sizeOf245
 v77:=Tryz.zeroValue245 }
def Tryz.lay200_ren:Go.Shelf.Ren:=⟨fun | 189=>200 | 125=>150 | 257=>229 | 128=>196 | 129=>197 | 294=>239 | 295=>240 | 296=>241 | 297=>242 | 298=>243 | 299=>244 | 216=>245 | 300=>246 | 301=>247 | 328=>252 | 329=>224 | 330=>225 | 331=>253 | 332=>254 | 215=>198 | 343=>261 | n=>n,fun | 28=>22 | 3=>3 | 46=>81 | 0=>0 | 51=>211 | 53=>213 | 4=>4 | 183=>204 | 182=>203 | 131=>208 | 5=>5 | 9=>9 | 218=>231 | 222=>235 | 228=>244 | 229=>245 | n=>n,fun | n=>n⟩
theorem Tryz.lay200:Go.Proofs.Lays.n189 Tryz.prog Tryz.lay200_ren:={
 mixed:=by kernel_rfl
 f125:=Tryz.func150.trans (congrArg some (by kernel_rfl))
 f128:=Tryz.func196.trans (congrArg some (by kernel_rfl))
 f129:=Tryz.func197.trans (congrArg some (by kernel_rfl))
 f189:=Tryz.func200.trans (congrArg some (by kernel_rfl))
 f215:=Tryz.func198.trans (congrArg some (by kernel_rfl))
 f216:=Tryz.func245.trans (congrArg some (by kernel_rfl))
 f257:=Tryz.func229.trans (congrArg some (by kernel_rfl))
 f294:=Tryz.func239.trans (congrArg some (by kernel_rfl))
 f295:=Tryz.func240.trans (congrArg some (by kernel_rfl))
 f296:=Tryz.func241.trans (congrArg some (by kernel_rfl))
 f297:=Tryz.func242.trans (congrArg some (by kernel_rfl))
 f298:=Tryz.func243.trans (congrArg some (by kernel_rfl))
 f299:=Tryz.func244.trans (congrArg some (by kernel_rfl))
 f300:=Tryz.func246.trans (congrArg some (by kernel_rfl))
 f301:=Tryz.func247.trans (congrArg some (by kernel_rfl))
 f328:=Tryz.func252.trans (congrArg some (by kernel_rfl))
 f329:=Tryz.func224.trans (congrArg some (by kernel_rfl))
 f330:=Tryz.func225.trans (congrArg some (by kernel_rfl))
 f331:=Tryz.func253.trans (congrArg some (by kernel_rfl))
 f332:=Tryz.func254.trans (congrArg some (by kernel_rfl))
 f343:=Tryz.func261.trans (congrArg some (by kernel_rfl))
 t0:=Tryz.underlying0
 a0:=Tryz.isAgg0
 z0:=Tryz.sizeOf0
 v0:=Tryz.zeroValue0
 t3:=Tryz.underlying3
 a3:=Tryz.isAgg3
 z3:=Tryz.sizeOf3
 v3:=Tryz.zeroValue3
 t4:=Tryz.underlying4
 a4:=Tryz.isAgg4
 z4:=Tryz.sizeOf4
 v4:=Tryz.zeroValue4
 t5:=Tryz.underlying5
 a5:=Tryz.isAgg5
 z5:=Tryz.sizeOf5
 v5:=Tryz.zeroValue5
 t9:=Tryz.underlying9
 a9:=Tryz.isAgg9
 z9:=Tryz.sizeOf9
 v9:=Tryz.zeroValue9
 t28:=Tryz.underlying22
 a28:=Tryz.isAgg22
 z28:=Tryz.sizeOf22
 v28:=Tryz.zeroValue22
 t46:=Tryz.underlying81
 a46:=Tryz.isAgg81
 z46:=Tryz.sizeOf81
 v46:=Tryz.zeroValue81
 t51:=Tryz.underlying211
 a51:=Tryz.isAgg211
 z51:=Tryz.sizeOf211
 v51:=Tryz.zeroValue211
 t53:=Tryz.underlying213
 a53:=Tryz.isAgg213
 z53:=Tryz.sizeOf213
 v53:=Tryz.zeroValue213
 t131:=Tryz.underlying208
 a131:=Tryz.isAgg208
 z131:=Tryz.sizeOf208
 v131:=Tryz.zeroValue208
 t182:=Tryz.underlying203
 a182:=Tryz.isAgg203
 z182:=Tryz.sizeOf203
 v182:=Tryz.zeroValue203
 t183:=Tryz.underlying204
 a183:=Tryz.isAgg204
 z183:=Tryz.sizeOf204
 v183:=Tryz.zeroValue204
 t218:=Tryz.underlying231
 a218:=Tryz.isAgg231
 z218:=Tryz.sizeOf231
 v218:=Tryz.zeroValue231
 t222:=Tryz.underlying235
 a222:=Tryz.isAgg235
 z222:=Tryz.sizeOf235
 v222:=Tryz.zeroValue235
 t228:=Tryz.underlying244
 a228:=Tryz.isAgg244
 z228:=Tryz.sizeOf244
 v228:=Tryz.zeroValue244
 t229:=Tryz.underlying245
 a229:=Tryz.isAgg245
 z229:=Tryz.sizeOf245
 v229:=Tryz.zeroValue245 }
end Go.Proofs
end
section
namespace Go.Qx
open Go Go.RowKit Go.Sx
set_option maxRecDepth 100000
abbrev b7z (v:Api_Field):Key×Int×Bool:=(v.Key_,v.Node,v.Optional)
abbrev c4j (x:Key×Int×Bool):Api_Field:=⟨x.1,x.2.1,x.2.2⟩
@[reducible] def a5A:Rp Api_Field:=a71 b7z (Y3 (rpKey) (Y3 (rpK .i64) (rpBool)))
abbrev b3b (v:Api_TypeNode):Int×Int×Int×ByteArray×(List Int)×(List Api_Field)×(Int×Int):=(v.Kind,v.Lo,v.Hi,v.Text,v.Kids,v.Fields,v.Rest)
abbrev c0t (x:Int×Int×Int×ByteArray×(List Int)×(List Api_Field)×(Int×Int)):Api_TypeNode:=⟨x.1,x.2.1,x.2.2.1,x.2.2.2.1,x.2.2.2.2.1,x.2.2.2.2.2.1,x.2.2.2.2.2.2⟩
@[reducible] def a3y:Rp Api_TypeNode:=a71 b3b (Y3 (rpK .i64) (Y3 (rpK .i64) (Y3 (rpK .i64) (Y3 (rpStr) (Y3 (@rpList _ (rpK .i64)) (Y3 (@rpList _ (a5A)) (Y3 (rpK .i64) (rpK .i64))))))))
abbrev b84 (v:Api_Type):(List Api_TypeNode)×Int:=(v.Nodes,v.Root)
abbrev c4z (x:(List Api_TypeNode)×Int):Api_Type:=⟨x.1,x.2⟩
@[reducible] def b4g:Rp Api_Type:=a71 b84 (Y3 (@rpList _ (a3y)) (rpK .i64))
abbrev b7Z (v:Api_Names):Bool×(List ByteArray):=(v.Cofinite,v.List_)
abbrev c4h (x:Bool×(List ByteArray)):Api_Names:=⟨x.1,x.2⟩
@[reducible] def a6Q:Rp Api_Names:=a71 b7Z (Y3 (rpBool) (@rpList _ (rpStr)))
abbrev b7u (v:Api_Range):Int×Int:=(v.Lo,v.Hi)
abbrev c2Q (x:Int×Int):Api_Range:=⟨x.1,x.2⟩
@[reducible] def a5H:Rp Api_Range:=a71 b7u (Y3 (rpK .i64) (rpK .i64))
abbrev b86 (v:Api_Line):Int×Int×(List Api_Range)×Api_Names×(List Int)×(List Int)×(List ByteArray)×(List ByteArray):=(v.Kind,v.Arity,v.Ints,v.Names,v.Pos,v.Neg,v.Vars,v.NotVars)
abbrev c4x (x:Int×Int×(List Api_Range)×Api_Names×(List Int)×(List Int)×(List ByteArray)×(List ByteArray)):Api_Line:=⟨x.1,x.2.1,x.2.2.1,x.2.2.2.1,x.2.2.2.2.1,x.2.2.2.2.2.1,x.2.2.2.2.2.2.1,x.2.2.2.2.2.2.2⟩
@[reducible] def b3H:Rp Api_Line:=a71 b86 (Y3 (rpK .i64) (Y3 (rpK .i64) (Y3 (@rpList _ (a5H)) (Y3 (a6Q) (Y3 (@rpList _ (rpK .i64)) (Y3 (@rpList _ (rpK .i64)) (Y3 (@rpList _ (rpStr)) (@rpList _ (rpStr)))))))))
abbrev a8w (v:Semtypebase_Source):(List Int)×Int:=(v.L,v.At)
abbrev b5g (x:(List Int)×Int):Semtypebase_Source:=⟨x.1,x.2⟩
@[reducible] def a5C:Rp Semtypebase_Source:=a71 a8w (Y3 (@rpList _ (rpK .i64)) (rpK .i64))
abbrev b82 (v:Api_Goal):(List Int)×(List Int)×Bool:=(v.Pos,v.Neg,v.Lists)
abbrev c4y (x:(List Int)×(List Int)×Bool):Api_Goal:=⟨x.1,x.2.1,x.2.2⟩
@[reducible] def W1:Rp Api_Goal:=a71 b82 (Y3 (@rpList _ (rpK .i64)) (Y3 (@rpList _ (rpK .i64)) (rpBool)))
abbrev b5f (v:Api_SomeKey):Int×Api_Goal:=(v.Kind,v.Goal)
abbrev c1n (x:Int×Api_Goal):Api_SomeKey:=⟨x.1,x.2⟩
@[reducible] def a4r:Rp Api_SomeKey:=a71 b5f (Y3 (rpK .i64) (W1))
abbrev b7P (v:Api_Shape):(List Key)×(List Int)×(List Api_Goal)×(Api_Goal×Api_Goal)×(List Api_SomeKey):=(v.Keys,v.States,v.Parts,v.Rest,v.Some)
abbrev c2W (x:(List Key)×(List Int)×(List Api_Goal)×(Api_Goal×Api_Goal)×(List Api_SomeKey)):Api_Shape:=⟨x.1,x.2.1,x.2.2.1,x.2.2.2.1,x.2.2.2.2⟩
@[reducible] def b2k:Rp Api_Shape:=a71 b7P (Y3 (@rpList _ (rpKey)) (Y3 (@rpList _ (rpK .i64)) (Y3 (@rpList _ (W1)) (Y3 (Y3 (W1) (W1)) (@rpList _ (a4r))))))
abbrev b3e (v:Record_place):Int×Bool×Int:=(v.key,v.absent,v.kind)
abbrev c0C (x:Int×Bool×Int):Record_place:=⟨x.1,x.2.1,x.2.2⟩
@[reducible] def a9d:Rp Record_place:=a71 b3e (Y3 (rpK .i64) (Y3 (rpBool) (rpK .i64)))
abbrev b6t (v:Value_used):Bool×Bool×Bool×Bool×Bool:=(v.number,v.text_,v.kids,v.keys,v.entries)
abbrev c2n (x:Bool×Bool×Bool×Bool×Bool):Value_used:=⟨x.1,x.2.1,x.2.2.1,x.2.2.2.1,x.2.2.2.2⟩
@[reducible] def b0A:Rp Value_used:=a71 b6t (Y3 (rpBool) (Y3 (rpBool) (Y3 (rpBool) (Y3 (rpBool) (rpBool)))))
def tyL:List TE:=[⟨2,Int,rpK .i64⟩,
 ⟨3,Int,rpK .i64⟩,
 ⟨4,Bool,rpBool⟩,
 ⟨9,ByteArray,rpStr⟩,
 ⟨22,List Int,@rpList _ (rpK .i64)⟩,
 ⟨25,List Api_TypeNode,@rpList _ (a3y)⟩,
 ⟨27,Api_Type,b4g⟩,
 ⟨28,List Val,@rpList _ (rpVal)⟩,
 ⟨29,List Key,@rpList _ (rpKey)⟩,
 ⟨30,List Ent,@rpList _ (rpEnt)⟩,
 ⟨31,List ByteArray,@rpList _ (rpStr)⟩,
 ⟨33,Val,rpVal⟩,
 ⟨36,List Api_Range,@rpList _ (a5H)⟩,
 ⟨38,Api_Names,a6Q⟩,
 ⟨40,Api_Line,b3H⟩,
 ⟨44,Semtypebase_Source,a5C⟩,
 ⟨50,List Api_Goal,@rpList _ (W1)⟩,
 ⟨56,Api_Goal,W1⟩,
 ⟨68,Api_Goal×Api_Goal,Y3 (W1) (W1)⟩,
 ⟨69,List Api_SomeKey,@rpList _ (a4r)⟩,
 ⟨71,Api_Shape,b2k⟩,
 ⟨74,List Api_Field,@rpList _ (a5A)⟩,
 ⟨75,Int×Int,Y3 (rpK .i64) (rpK .i64)⟩,
 ⟨77,Api_TypeNode,a3y⟩,
 ⟨83,Key,rpKey⟩,
 ⟨85,Api_SomeKey,a4r⟩,
 ⟨101,Api_Field,a5A⟩,
 ⟨111,Record_place,a9d⟩,
 ⟨138,Ent,rpEnt⟩,
 ⟨220,Value_used,b0A⟩,
 ⟨277,Api_Range,a5H⟩]
abbrev I (E:TypeId):Type:=(c5X tyL E).α
instance rI (E:TypeId):Rp (I E):=(c5X tyL E).rp
def c4B:Fd I (I 27) inferInstance:=(a6d (rg:=b4g) (J1 (a17 77:Fd I (List Api_TypeNode) (@rpList _ (a3y))) ((a3C .i64:Fd I Int (rpK .i64)))) b84 c4z (fun _=>rfl) (fun _ _ _=>Iff.rfl):Fd I Api_Type b4g)
def c70:Fd I (I 33) inferInstance:=(a6d (rg:=rpVal) (J1 (a3C .i64:Fd I Int (rpK .i64)) (J1 (a3C .i64:Fd I Int (rpK .i64)) (J1 (c2K:Fd I ByteArray (rpStr)) (J1 (a17 33:Fd I (List Val) (@rpList _ (rpVal))) (J1 (a17 83:Fd I (List Key) (@rpList _ (rpKey))) (J1 (a17 138:Fd I (List Ent) (@rpList _ (rpEnt))) ((a17 9:Fd I (List ByteArray) (@rpList _ (rpStr)))))))))) Val.to Val.of (fun _=>rfl) Val.cells_to:Fd I Val rpVal)
def b7M:Fd I (I 38) inferInstance:=(a6d (rg:=a6Q) (J1 (a6V:Fd I Bool (rpBool)) ((a17 9:Fd I (List ByteArray) (@rpList _ (rpStr))))) b7Z c4h (fun _=>rfl) (fun _ _ _=>Iff.rfl):Fd I Api_Names a6Q)
def c4m:Fd I (I 40) inferInstance:=(a6d (rg:=b3H) (J1 (a3C .i64:Fd I Int (rpK .i64)) (J1 (a3C .i64:Fd I Int (rpK .i64)) (J1 (a17 277:Fd I (List Api_Range) (@rpList _ (a5H))) (J1 (b3o 38 b7M:Fd I Api_Names (a6Q)) (J1 (a17 3:Fd I (List Int) (@rpList _ (rpK .i64))) (J1 (a17 3:Fd I (List Int) (@rpList _ (rpK .i64))) (J1 (a17 9:Fd I (List ByteArray) (@rpList _ (rpStr))) ((a17 9:Fd I (List ByteArray) (@rpList _ (rpStr))))))))))) b86 c4x (fun _=>rfl) (fun _ _ _=>Iff.rfl):Fd I Api_Line b3H)
def b4U:Fd I (I 44) inferInstance:=(a6d (rg:=a5C) (J1 (a17 3:Fd I (List Int) (@rpList _ (rpK .i64))) ((a3C .i64:Fd I Int (rpK .i64)))) a8w b5g (fun _=>rfl) (fun _ _ _=>Iff.rfl):Fd I Semtypebase_Source a5C)
def a90:Fd I (I 56) inferInstance:=(a6d (rg:=W1) (J1 (a17 3:Fd I (List Int) (@rpList _ (rpK .i64))) (J1 (a17 3:Fd I (List Int) (@rpList _ (rpK .i64))) ((a6V:Fd I Bool (rpBool))))) b82 c4y (fun _=>rfl) (fun _ _ _=>Iff.rfl):Fd I Api_Goal W1)
def c6R:Fd I (I 68) inferInstance:=(J1 (b3o 56 a90:Fd I Api_Goal (W1)) ((b3o 56 a90:Fd I Api_Goal (W1))):Fd I (Api_Goal×Api_Goal) (Y3 (W1) (W1)))
def c31:Fd I (I 71) inferInstance:=(a6d (rg:=b2k) (J1 (a17 83:Fd I (List Key) (@rpList _ (rpKey))) (J1 (a17 3:Fd I (List Int) (@rpList _ (rpK .i64))) (J1 (a17 56:Fd I (List Api_Goal) (@rpList _ (W1))) (J1 (b3o 68 c6R:Fd I (Api_Goal×Api_Goal) (Y3 (W1) (W1))) ((a17 85:Fd I (List Api_SomeKey) (@rpList _ (a4r)))))))) b7P c2W (fun _=>rfl) (fun _ _ _=>Iff.rfl):Fd I Api_Shape b2k)
def c7P:Fd I (I 75) inferInstance:=(J1 (a3C .i64:Fd I Int (rpK .i64)) ((a3C .i64:Fd I Int (rpK .i64))):Fd I (Int×Int) (Y3 (rpK .i64) (rpK .i64)))
def b96:Fd I (I 77) inferInstance:=(a6d (rg:=a3y) (J1 (a3C .i64:Fd I Int (rpK .i64)) (J1 (a3C .i64:Fd I Int (rpK .i64)) (J1 (a3C .i64:Fd I Int (rpK .i64)) (J1 (c2K:Fd I ByteArray (rpStr)) (J1 (a17 3:Fd I (List Int) (@rpList _ (rpK .i64))) (J1 (a17 101:Fd I (List Api_Field) (@rpList _ (a5A))) ((b3o 75 c7P:Fd I (Int×Int) (Y3 (rpK .i64) (rpK .i64)))))))))) b3b c0t (fun _=>rfl) (fun _ _ _=>Iff.rfl):Fd I Api_TypeNode a3y)
def c7a:Fd I (I 83) inferInstance:=(a6d (rg:=rpKey) (J1 (a3C .i64:Fd I Int (rpK .i64)) ((c2K:Fd I ByteArray (rpStr)))) Key.to Key.of (fun _=>rfl) Key.cells_to:Fd I Key rpKey)
def c1x:Fd I (I 85) inferInstance:=(a6d (rg:=a4r) (J1 (a3C .i64:Fd I Int (rpK .i64)) ((b3o 56 a90:Fd I Api_Goal (W1)))) b5f c1n (fun _=>rfl) (fun _ _ _=>Iff.rfl):Fd I Api_SomeKey a4r)
def c3V:Fd I (I 101) inferInstance:=(a6d (rg:=a5A) (J1 (b3o 83 c7a:Fd I Key (rpKey)) (J1 (a3C .i64:Fd I Int (rpK .i64)) ((a6V:Fd I Bool (rpBool))))) b7z c4j (fun _=>rfl) (fun _ _ _=>Iff.rfl):Fd I Api_Field a5A)
def b92:Fd I (I 111) inferInstance:=(a6d (rg:=a9d) (J1 (a3C .i64:Fd I Int (rpK .i64)) (J1 (a6V:Fd I Bool (rpBool)) ((a3C .i64:Fd I Int (rpK .i64))))) b3e c0C (fun _=>rfl) (fun _ _ _=>Iff.rfl):Fd I Record_place a9d)
def d1b:Fd I (I 138) inferInstance:=(a6d (rg:=rpEnt) (J1 (a17 33:Fd I (List Val) (@rpList _ (rpVal))) (J1 (a6V:Fd I Bool (rpBool)) ((b3o 33 c70:Fd I Val (rpVal))))) Ent.to Ent.of (fun _=>rfl) Ent.cells_to:Fd I Ent rpEnt)
def c2t:Fd I (I 220) inferInstance:=(a6d (rg:=b0A) (J1 (a6V:Fd I Bool (rpBool)) (J1 (a6V:Fd I Bool (rpBool)) (J1 (a6V:Fd I Bool (rpBool)) (J1 (a6V:Fd I Bool (rpBool)) ((a6V:Fd I Bool (rpBool))))))) b6t c2n (fun _=>rfl) (fun _ _ _=>Iff.rfl):Fd I Value_used b0A)
def c3U:Fd I (I 277) inferInstance:=(a6d (rg:=a5H) (J1 (a3C .i64:Fd I Int (rpK .i64)) ((a3C .i64:Fd I Int (rpK .i64)))) b7u c2Q (fun _=>rfl) (fun _ _ _=>Iff.rfl):Fd I Api_Range a5H)
def feL:List (FE I):=[⟨2,a3C .i64⟩,
 ⟨3,a3C .i64⟩,
 ⟨4,a6V⟩,
 ⟨9,c2K⟩,
 ⟨22,a17 3⟩,
 ⟨25,a17 77⟩,
 ⟨27,c4B⟩,
 ⟨28,a17 33⟩,
 ⟨29,a17 83⟩,
 ⟨30,a17 138⟩,
 ⟨31,a17 9⟩,
 ⟨33,c70⟩,
 ⟨36,a17 277⟩,
 ⟨38,b7M⟩,
 ⟨40,c4m⟩,
 ⟨44,b4U⟩,
 ⟨50,a17 56⟩,
 ⟨56,a90⟩,
 ⟨68,c6R⟩,
 ⟨69,a17 85⟩,
 ⟨71,c31⟩,
 ⟨74,a17 101⟩,
 ⟨75,c7P⟩,
 ⟨77,b96⟩,
 ⟨83,c7a⟩,
 ⟨85,c1x⟩,
 ⟨101,c3V⟩,
 ⟨111,b92⟩,
 ⟨138,d1b⟩,
 ⟨220,c2t⟩,
 ⟨277,c3U⟩]
def d1o:TabL I where
 sz:=[(27,2),(33,7),(40,9),(56,3),(71,10),(75,2),(77,8),(83,2),(85,4),(101,4),(111,3),(138,9),(220,5)]
 one:=[(2,()),(3,()),(4,()),(9,()),(22,()),(25,()),(28,()),(29,()),(30,()),(31,()),(50,()),(62,()),(69,()),(74,()),(98,()),(105,()),(106,())]
 fld:=[(27,[(0,25),(1,3)]),(33,[(0,3),(1,2),(2,9),(3,28),(4,29),(5,30),(6,31)]),(40,[(0,3),(1,3),(2,36),(3,38),(5,22),(6,22),(7,31),(8,31)]),(44,[(0,22),(1,3)]),(56,[(0,22),(1,22),(2,4)]),(71,[(0,29),(1,22),(2,50),(3,68),(9,69)]),(77,[(0,3),(1,2),(2,2),(3,9),(4,22),(5,74),(6,75)]),(83,[(0,3),(1,9)]),(85,[(0,3),(1,56)]),(101,[(0,83),(2,3),(3,4)]),(111,[(0,3),(1,4),(2,3)]),(138,[(0,28),(1,4),(2,33)]),(220,[(0,4),(1,4),(2,4),(3,4),(4,4)])]
 el:=[(22,3),(25,77),(28,33),(29,83),(30,138),(31,9),(50,56),(62,71),(69,85),(74,101),(90,22),(105,111),(140,4),(151,2)]
 str:=[(9,())]
 bool:=[(4,())]
 ik:=[]
 fe:=feL
 inf:=[(2,1,8,[.int .i64 0]),(3,1,8,[.int .i64 0]),(4,1,1,[.bool false]),(9,1,16,[.str ⟨#[]⟩]),(22,1,24,[.nl 3]),(25,1,24,[.nl 77]),(27,2,32,[.nl 77,.int .i64 0]),(28,1,24,[.nl 33]),(29,1,24,[.nl 83]),(31,1,24,[.nl 9]),(33,7,128,[.int .i64 0,.int .i64 0,.str ⟨#[]⟩,.nl 33,.nl 83,.nl 138,.nl 9]),(40,9,168,[.int .i64 0,.int .i64 0,.nl 277,.bool false,.nl 9,.nl 3,.nl 3,.nl 9,.nl 9]),(44,2,32,[.nl 3,.int .i64 0]),(50,1,24,[.nl 56]),(56,3,56,[.nl 3,.nl 3,.bool false]),(62,1,24,[.nl 71]),(69,1,24,[.nl 85]),(71,10,208,[.nl 83,.nl 3,.nl 56,.nl 3,.nl 3,.bool false,.nl 3,.nl 3,.bool false,.nl 85]),(74,1,24,[.nl 101]),(75,2,16,[.int .i64 0,.int .i64 0]),(77,8,104,[.int .i64 0,.int .i64 0,.int .i64 0,.str ⟨#[]⟩,.nl 3,.nl 101,.int .i64 0,.int .i64 0]),(83,2,24,[.int .i64 0,.str ⟨#[]⟩]),(85,4,64,[.int .i64 0,.nl 3,.nl 3,.bool false]),(98,1,8,[.any]),(101,4,40,[.int .i64 0,.str ⟨#[]⟩,.int .i64 0,.bool false]),(105,1,24,[.nl 111]),(106,1,8,[.any]),(111,3,24,[.int .i64 0,.bool false,.int .i64 0]),(138,9,160,[.nl 33,.bool false,.int .i64 0,.int .i64 0,.str ⟨#[]⟩,.nl 33,.nl 83,.nl 138,.nl 9]),(220,5,5,[.bool false,.bool false,.bool false,.bool false,.bool false])]
 st:=[(27,[(0,1),(1,1)]),(33,[(0,1),(1,1),(2,1),(3,1),(4,1),(5,1),(6,1)]),(40,[(0,1),(1,1),(2,1),(3,2),(5,1),(6,1),(7,1),(8,1)]),(44,[(0,1),(1,1)]),(56,[(0,1),(1,1),(2,1)]),(71,[(0,1),(1,1),(2,1),(3,6),(9,1)]),(75,[(0,1),(1,1)]),(77,[(0,1),(1,1),(2,1),(3,1),(4,1),(5,1),(6,2)]),(83,[(0,1),(1,1)]),(85,[(0,1),(1,3)]),(101,[(0,2),(2,1),(3,1)]),(111,[(0,1),(1,1),(2,1)]),(220,[(0,1),(1,1),(2,1),(3,1),(4,1)])]
 eq:=[(75,c3S feL 75 b1M),(83,c3S feL 83 a3P)]
 nest:=[(22,3,0)]
 arr:=[(68,56,2,3),(75,3,2,1)]
 fb:=[(84,()),(86,()),(141,()),(143,()),(152,()),(171,()),(172,()),(174,()),(175,()),(177,()),(182,()),(183,()),(233,()),(249,())]
abbrev tb:Tab I:=c9I d1o
theorem ti2:J2 Go.Proofs.Tryz.prog 2 (.int .i64 0) 1 8:=Q5 (by kernel_rfl)
theorem ti3:J2 Go.Proofs.Tryz.prog 3 (.int .i64 0) 1 8:=Q5 (by kernel_rfl)
theorem ti4:J2 Go.Proofs.Tryz.prog 4 (.bool false) 1 1:=Q5 (by kernel_rfl)
theorem ti9:J2 Go.Proofs.Tryz.prog 9 (.string ⟨#[]⟩) 1 16:=Q5 (by kernel_rfl)
theorem d1H:J2 Go.Proofs.Tryz.prog 22 (.slice none 0 0) 1 24:=Q5 (by kernel_rfl)
theorem d2P:J2 Go.Proofs.Tryz.prog 25 (.slice none 0 0) 1 24:=Q5 (by kernel_rfl)
theorem d3b:J2 Go.Proofs.Tryz.prog 27 (.agg #[.slice none 0 0,.int .i64 0]) 2 32:=Q5 (by kernel_rfl)
theorem d3a:J2 Go.Proofs.Tryz.prog 28 (.slice none 0 0) 1 24:=Q5 (by kernel_rfl)
theorem d2B:J2 Go.Proofs.Tryz.prog 29 (.slice none 0 0) 1 24:=Q5 (by kernel_rfl)
theorem d2H:J2 Go.Proofs.Tryz.prog 31 (.slice none 0 0) 1 24:=Q5 (by kernel_rfl)
theorem d1U:J2 Go.Proofs.Tryz.prog 33 (.agg #[.int .i64 0,.int .i64 0,.string ⟨#[]⟩,.slice none 0 0,.slice none 0 0,.slice none 0 0,.slice none 0 0]) 7 128:=Q5 (by kernel_rfl)
theorem d23:J2 Go.Proofs.Tryz.prog 40 (.agg #[.int .i64 0,.int .i64 0,.slice none 0 0,.bool false,.slice none 0 0,.slice none 0 0,.slice none 0 0,.slice none 0 0,.slice none 0 0]) 9 168:=Q5 (by kernel_rfl)
theorem d2S:J2 Go.Proofs.Tryz.prog 44 (.agg #[.slice none 0 0,.int .i64 0]) 2 32:=Q5 (by kernel_rfl)
theorem d20:J2 Go.Proofs.Tryz.prog 50 (.slice none 0 0) 1 24:=Q5 (by kernel_rfl)
theorem d1c:J2 Go.Proofs.Tryz.prog 56 (.agg #[.slice none 0 0,.slice none 0 0,.bool false]) 3 56:=Q5 (by kernel_rfl)
theorem d3e:J2 Go.Proofs.Tryz.prog 62 (.slice none 0 0) 1 24:=Q5 (by kernel_rfl)
theorem d2F:J2 Go.Proofs.Tryz.prog 69 (.slice none 0 0) 1 24:=Q5 (by kernel_rfl)
theorem d1T:J2 Go.Proofs.Tryz.prog 71 (.agg #[.slice none 0 0,.slice none 0 0,.slice none 0 0,.slice none 0 0,.slice none 0 0,.bool false,.slice none 0 0,.slice none 0 0,.bool false,.slice none 0 0]) 10 208:=Q5 (by kernel_rfl)
theorem d2V:J2 Go.Proofs.Tryz.prog 74 (.slice none 0 0) 1 24:=Q5 (by kernel_rfl)
theorem d3c:J2 Go.Proofs.Tryz.prog 75 (.agg #[.int .i64 0,.int .i64 0]) 2 16:=Q5 (by kernel_rfl)
theorem d1F:J2 Go.Proofs.Tryz.prog 77 (.agg #[.int .i64 0,.int .i64 0,.int .i64 0,.string ⟨#[]⟩,.slice none 0 0,.slice none 0 0,.int .i64 0,.int .i64 0]) 8 104:=Q5 (by kernel_rfl)
theorem d1R:J2 Go.Proofs.Tryz.prog 83 (.agg #[.int .i64 0,.string ⟨#[]⟩]) 2 24:=Q5 (by kernel_rfl)
theorem d01:J2 Go.Proofs.Tryz.prog 85 (.agg #[.int .i64 0,.slice none 0 0,.slice none 0 0,.bool false]) 4 64:=Q5 (by kernel_rfl)
theorem d2M:J2 Go.Proofs.Tryz.prog 98 (.nilFunc) 1 8:=Q5 (by kernel_rfl)
theorem c9j:J2 Go.Proofs.Tryz.prog 101 (.agg #[.int .i64 0,.string ⟨#[]⟩,.int .i64 0,.bool false]) 4 40:=Q5 (by kernel_rfl)
theorem d1V:J2 Go.Proofs.Tryz.prog 105 (.slice none 0 0) 1 24:=Q5 (by kernel_rfl)
theorem d2t:J2 Go.Proofs.Tryz.prog 106 (.nilFunc) 1 8:=Q5 (by kernel_rfl)
theorem c9k:J2 Go.Proofs.Tryz.prog 111 (.agg #[.int .i64 0,.bool false,.int .i64 0]) 3 24:=Q5 (by kernel_rfl)
theorem c9B:J2 Go.Proofs.Tryz.prog 138 (.agg #[.slice none 0 0,.bool false,.int .i64 0,.int .i64 0,.string ⟨#[]⟩,.slice none 0 0,.slice none 0 0,.slice none 0 0,.slice none 0 0]) 9 160:=Q5 (by kernel_rfl)
theorem d14:J2 Go.Proofs.Tryz.prog 220 (.agg #[.bool false,.bool false,.bool false,.bool false,.bool false]) 5 5:=Q5 (by kernel_rfl)
theorem to2:a2U Go.Proofs.Tryz.prog 2:=⟨_,Go.Proofs.Tryz.underlying2,rfl,by kernel_rfl⟩
theorem to3:a2U Go.Proofs.Tryz.prog 3:=⟨_,Go.Proofs.Tryz.underlying3,rfl,by kernel_rfl⟩
theorem to4:a2U Go.Proofs.Tryz.prog 4:=⟨_,Go.Proofs.Tryz.underlying4,rfl,by kernel_rfl⟩
theorem to9:a2U Go.Proofs.Tryz.prog 9:=⟨_,Go.Proofs.Tryz.underlying9,rfl,by kernel_rfl⟩
theorem d24:a2U Go.Proofs.Tryz.prog 22:=⟨_,Go.Proofs.Tryz.underlying22,rfl,by kernel_rfl⟩
theorem d3j:a2U Go.Proofs.Tryz.prog 25:=⟨_,Go.Proofs.Tryz.underlying25,rfl,by kernel_rfl⟩
theorem d3i:a2U Go.Proofs.Tryz.prog 28:=⟨_,Go.Proofs.Tryz.underlying28,rfl,by kernel_rfl⟩
theorem d2O:a2U Go.Proofs.Tryz.prog 29:=⟨_,Go.Proofs.Tryz.underlying29,rfl,by kernel_rfl⟩
theorem d3g:a2U Go.Proofs.Tryz.prog 30:=⟨_,Go.Proofs.Tryz.underlying30,rfl,by kernel_rfl⟩
theorem d2R:a2U Go.Proofs.Tryz.prog 31:=⟨_,Go.Proofs.Tryz.underlying31,rfl,by kernel_rfl⟩
theorem d27:a2U Go.Proofs.Tryz.prog 50:=⟨_,Go.Proofs.Tryz.underlying50,rfl,by kernel_rfl⟩
theorem d25:a2U Go.Proofs.Tryz.prog 62:=⟨_,Go.Proofs.Tryz.underlying62,rfl,by kernel_rfl⟩
theorem d2G:a2U Go.Proofs.Tryz.prog 69:=⟨_,Go.Proofs.Tryz.underlying69,rfl,by kernel_rfl⟩
theorem d2Z:a2U Go.Proofs.Tryz.prog 74:=⟨_,Go.Proofs.Tryz.underlying74,rfl,by kernel_rfl⟩
theorem d3d:a2U Go.Proofs.Tryz.prog 98:=⟨_,Go.Proofs.Tryz.underlying98,rfl,by kernel_rfl⟩
theorem d10:a2U Go.Proofs.Tryz.prog 105:=⟨_,Go.Proofs.Tryz.underlying105,rfl,by kernel_rfl⟩
theorem d1Z:a2U Go.Proofs.Tryz.prog 106:=⟨_,Go.Proofs.Tryz.underlying106,rfl,by kernel_rfl⟩
theorem d2K {σ:S}{x y:Int×Int}{cs ds:List Value}(h:(rI 75).cells σ x cs)(k:(rI 75).cells σ y ds):Sx.EqAt Go.Proofs.Tryz.prog 2 75 (.agg cs.toArray) (.agg ds.toArray) (b1M x y):=by
 obtain ⟨_,_,rfl,rfl,rfl⟩:=h
 obtain ⟨_,_,rfl,rfl,rfl⟩:=k
 exact c9h Go.Proofs.Tryz.underlying75 ti3 (c1L (a5Y to3 rfl) (a5Y to3 rfl) (b9Q Go.Proofs.Tryz.underlying3) (c1L (a5Y to3 rfl) (a5Y to3 rfl) (b9Q Go.Proofs.Tryz.underlying3) c8n))
theorem d28 {σ:S}{x y:Key}{cs ds:List Value}(h:(rI 83).cells σ x cs)(k:(rI 83).cells σ y ds):Sx.EqAt Go.Proofs.Tryz.prog 2 83 (.agg cs.toArray) (.agg ds.toArray) (a3P x y):=by
 obtain ⟨_,_,rfl,rfl,rfl⟩:=h
 obtain ⟨_,_,rfl,rfl,rfl⟩:=k
 exact c4G Go.Proofs.Tryz.underlying83 (by kernel_rfl) (c1R (by decide) (a5Y to3 rfl) (a5Y to3 rfl) (b9Q Go.Proofs.Tryz.underlying3) (c1R (by decide) (a5Y to9 rfl) (a5Y to9 rfl) (c8h Go.Proofs.Tryz.underlying9) c8I))
theorem eqT (T:TypeId)(g:I T->I T->Bool){K:Nat}(h:∀ {σ:S} {x y:I T} {cs ds:List Value},Rp.cells σ x cs->Rp.cells σ y ds->Sx.EqAt Go.Proofs.Tryz.prog K T (.agg cs.toArray) (.agg ds.toArray) (g x y))(hg:Go.Proofs.Tryz.prog.eqGuardType (Go.Proofs.Tryz.prog).depth T=false)(hK:Nat.ble K 10000=true)
 {X:Cxt} {c:Cx} {σ:S} {ls ms:List (PV I)} {r:Bool} {cs ds:List Value} (h1:c3S feL T g ls ms=some r) (h2:RG X c σ ls cs) (h3:RG X c σ ms ds) :
 Go.Proofs.Tryz.prog.eqGuardType (Go.Proofs.Tryz.prog).depth T=false/\∃ j,Nat.ble j 10000=true/\Sx.EqAt Go.Proofs.Tryz.prog j T (.agg cs.toArray) (.agg ds.toArray) r:=by
 obtain ⟨x,y,k1,k2,rfl⟩:=c9Z h1 h2 h3
 exact ⟨hg,K,hK,h k1 k2⟩
theorem d0V:TabLOk Go.Proofs.Tryz.prog d1o where
 sz:=⟨⟨_,Go.Proofs.Tryz.underlying27,rfl,by kernel_rfl⟩,⟨⟨_,Go.Proofs.Tryz.underlying33,rfl,by kernel_rfl⟩,⟨⟨_,Go.Proofs.Tryz.underlying40,rfl,by kernel_rfl⟩,⟨⟨_,Go.Proofs.Tryz.underlying56,rfl,by kernel_rfl⟩,⟨⟨_,Go.Proofs.Tryz.underlying71,rfl,by kernel_rfl⟩,⟨⟨_,Go.Proofs.Tryz.underlying75,rfl,by kernel_rfl⟩,⟨⟨_,Go.Proofs.Tryz.underlying77,rfl,by kernel_rfl⟩,⟨⟨_,Go.Proofs.Tryz.underlying83,rfl,by kernel_rfl⟩,⟨⟨_,Go.Proofs.Tryz.underlying85,rfl,by kernel_rfl⟩,⟨⟨_,Go.Proofs.Tryz.underlying101,rfl,by kernel_rfl⟩,⟨⟨_,Go.Proofs.Tryz.underlying111,rfl,by kernel_rfl⟩,⟨⟨_,Go.Proofs.Tryz.underlying138,rfl,by kernel_rfl⟩,⟨⟨_,Go.Proofs.Tryz.underlying220,rfl,by kernel_rfl⟩,trivial⟩⟩⟩⟩⟩⟩⟩⟩⟩⟩⟩⟩⟩
 one:=⟨to2,⟨to3,⟨to4,⟨to9,⟨d24,⟨d3j,⟨d3i,⟨d2O,⟨d3g,⟨d2R,⟨d27,⟨d25,⟨d2G,⟨d2Z,⟨d3d,⟨d10,⟨d1Z,trivial⟩⟩⟩⟩⟩⟩⟩⟩⟩⟩⟩⟩⟩⟩⟩⟩⟩
 fld:=⟨⟨⟨_,_,Go.Proofs.Tryz.underlying27,rfl,rfl,by kernel_rfl⟩,⟨⟨_,_,Go.Proofs.Tryz.underlying27,rfl,rfl⟩,⟨⟨_,_,Go.Proofs.Tryz.underlying27,rfl,rfl,by kernel_rfl⟩,⟨⟨_,_,Go.Proofs.Tryz.underlying27,rfl,rfl⟩,trivial⟩⟩⟩⟩,⟨⟨⟨_,_,Go.Proofs.Tryz.underlying33,rfl,rfl,by kernel_rfl⟩,⟨⟨_,_,Go.Proofs.Tryz.underlying33,rfl,rfl⟩,⟨⟨_,_,Go.Proofs.Tryz.underlying33,rfl,rfl,by kernel_rfl⟩,⟨⟨_,_,Go.Proofs.Tryz.underlying33,rfl,rfl⟩,⟨⟨_,_,Go.Proofs.Tryz.underlying33,rfl,rfl,by kernel_rfl⟩,⟨⟨_,_,Go.Proofs.Tryz.underlying33,rfl,rfl⟩,⟨⟨_,_,Go.Proofs.Tryz.underlying33,rfl,rfl,by kernel_rfl⟩,⟨⟨_,_,Go.Proofs.Tryz.underlying33,rfl,rfl⟩,⟨⟨_,_,Go.Proofs.Tryz.underlying33,rfl,rfl,by kernel_rfl⟩,⟨⟨_,_,Go.Proofs.Tryz.underlying33,rfl,rfl⟩,⟨⟨_,_,Go.Proofs.Tryz.underlying33,rfl,rfl,by kernel_rfl⟩,⟨⟨_,_,Go.Proofs.Tryz.underlying33,rfl,rfl⟩,⟨⟨_,_,Go.Proofs.Tryz.underlying33,rfl,rfl,by kernel_rfl⟩,⟨⟨_,_,Go.Proofs.Tryz.underlying33,rfl,rfl⟩,trivial⟩⟩⟩⟩⟩⟩⟩⟩⟩⟩⟩⟩⟩⟩,⟨⟨⟨_,_,Go.Proofs.Tryz.underlying40,rfl,rfl,by kernel_rfl⟩,⟨⟨_,_,Go.Proofs.Tryz.underlying40,rfl,rfl⟩,⟨⟨_,_,Go.Proofs.Tryz.underlying40,rfl,rfl,by kernel_rfl⟩,⟨⟨_,_,Go.Proofs.Tryz.underlying40,rfl,rfl⟩,⟨⟨_,_,Go.Proofs.Tryz.underlying40,rfl,rfl,by kernel_rfl⟩,⟨⟨_,_,Go.Proofs.Tryz.underlying40,rfl,rfl⟩,⟨⟨_,_,Go.Proofs.Tryz.underlying40,rfl,rfl,by kernel_rfl⟩,⟨⟨_,_,Go.Proofs.Tryz.underlying40,rfl,rfl⟩,⟨⟨_,_,Go.Proofs.Tryz.underlying40,rfl,rfl,by kernel_rfl⟩,⟨⟨_,_,Go.Proofs.Tryz.underlying40,rfl,rfl⟩,⟨⟨_,_,Go.Proofs.Tryz.underlying40,rfl,rfl,by kernel_rfl⟩,⟨⟨_,_,Go.Proofs.Tryz.underlying40,rfl,rfl⟩,⟨⟨_,_,Go.Proofs.Tryz.underlying40,rfl,rfl,by kernel_rfl⟩,⟨⟨_,_,Go.Proofs.Tryz.underlying40,rfl,rfl⟩,⟨⟨_,_,Go.Proofs.Tryz.underlying40,rfl,rfl,by kernel_rfl⟩,⟨⟨_,_,Go.Proofs.Tryz.underlying40,rfl,rfl⟩,trivial⟩⟩⟩⟩⟩⟩⟩⟩⟩⟩⟩⟩⟩⟩⟩⟩,⟨⟨⟨_,_,Go.Proofs.Tryz.underlying44,rfl,rfl,by kernel_rfl⟩,⟨⟨_,_,Go.Proofs.Tryz.underlying44,rfl,rfl⟩,⟨⟨_,_,Go.Proofs.Tryz.underlying44,rfl,rfl,by kernel_rfl⟩,⟨⟨_,_,Go.Proofs.Tryz.underlying44,rfl,rfl⟩,trivial⟩⟩⟩⟩,⟨⟨⟨_,_,Go.Proofs.Tryz.underlying56,rfl,rfl,by kernel_rfl⟩,⟨⟨_,_,Go.Proofs.Tryz.underlying56,rfl,rfl⟩,⟨⟨_,_,Go.Proofs.Tryz.underlying56,rfl,rfl,by kernel_rfl⟩,⟨⟨_,_,Go.Proofs.Tryz.underlying56,rfl,rfl⟩,⟨⟨_,_,Go.Proofs.Tryz.underlying56,rfl,rfl,by kernel_rfl⟩,⟨⟨_,_,Go.Proofs.Tryz.underlying56,rfl,rfl⟩,trivial⟩⟩⟩⟩⟩⟩,⟨⟨⟨_,_,Go.Proofs.Tryz.underlying71,rfl,rfl,by kernel_rfl⟩,⟨⟨_,_,Go.Proofs.Tryz.underlying71,rfl,rfl⟩,⟨⟨_,_,Go.Proofs.Tryz.underlying71,rfl,rfl,by kernel_rfl⟩,⟨⟨_,_,Go.Proofs.Tryz.underlying71,rfl,rfl⟩,⟨⟨_,_,Go.Proofs.Tryz.underlying71,rfl,rfl,by kernel_rfl⟩,⟨⟨_,_,Go.Proofs.Tryz.underlying71,rfl,rfl⟩,⟨⟨_,_,Go.Proofs.Tryz.underlying71,rfl,rfl,by kernel_rfl⟩,⟨⟨_,_,Go.Proofs.Tryz.underlying71,rfl,rfl⟩,⟨⟨_,_,Go.Proofs.Tryz.underlying71,rfl,rfl,by kernel_rfl⟩,⟨⟨_,_,Go.Proofs.Tryz.underlying71,rfl,rfl⟩,trivial⟩⟩⟩⟩⟩⟩⟩⟩⟩⟩,⟨⟨⟨_,_,Go.Proofs.Tryz.underlying77,rfl,rfl,by kernel_rfl⟩,⟨⟨_,_,Go.Proofs.Tryz.underlying77,rfl,rfl⟩,⟨⟨_,_,Go.Proofs.Tryz.underlying77,rfl,rfl,by kernel_rfl⟩,⟨⟨_,_,Go.Proofs.Tryz.underlying77,rfl,rfl⟩,⟨⟨_,_,Go.Proofs.Tryz.underlying77,rfl,rfl,by kernel_rfl⟩,⟨⟨_,_,Go.Proofs.Tryz.underlying77,rfl,rfl⟩,⟨⟨_,_,Go.Proofs.Tryz.underlying77,rfl,rfl,by kernel_rfl⟩,⟨⟨_,_,Go.Proofs.Tryz.underlying77,rfl,rfl⟩,⟨⟨_,_,Go.Proofs.Tryz.underlying77,rfl,rfl,by kernel_rfl⟩,⟨⟨_,_,Go.Proofs.Tryz.underlying77,rfl,rfl⟩,⟨⟨_,_,Go.Proofs.Tryz.underlying77,rfl,rfl,by kernel_rfl⟩,⟨⟨_,_,Go.Proofs.Tryz.underlying77,rfl,rfl⟩,⟨⟨_,_,Go.Proofs.Tryz.underlying77,rfl,rfl,by kernel_rfl⟩,⟨⟨_,_,Go.Proofs.Tryz.underlying77,rfl,rfl⟩,trivial⟩⟩⟩⟩⟩⟩⟩⟩⟩⟩⟩⟩⟩⟩,⟨⟨⟨_,_,Go.Proofs.Tryz.underlying83,rfl,rfl,by kernel_rfl⟩,⟨⟨_,_,Go.Proofs.Tryz.underlying83,rfl,rfl⟩,⟨⟨_,_,Go.Proofs.Tryz.underlying83,rfl,rfl,by kernel_rfl⟩,⟨⟨_,_,Go.Proofs.Tryz.underlying83,rfl,rfl⟩,trivial⟩⟩⟩⟩,⟨⟨⟨_,_,Go.Proofs.Tryz.underlying85,rfl,rfl,by kernel_rfl⟩,⟨⟨_,_,Go.Proofs.Tryz.underlying85,rfl,rfl⟩,⟨⟨_,_,Go.Proofs.Tryz.underlying85,rfl,rfl,by kernel_rfl⟩,⟨⟨_,_,Go.Proofs.Tryz.underlying85,rfl,rfl⟩,trivial⟩⟩⟩⟩,⟨⟨⟨_,_,Go.Proofs.Tryz.underlying101,rfl,rfl,by kernel_rfl⟩,⟨⟨_,_,Go.Proofs.Tryz.underlying101,rfl,rfl⟩,⟨⟨_,_,Go.Proofs.Tryz.underlying101,rfl,rfl,by kernel_rfl⟩,⟨⟨_,_,Go.Proofs.Tryz.underlying101,rfl,rfl⟩,⟨⟨_,_,Go.Proofs.Tryz.underlying101,rfl,rfl,by kernel_rfl⟩,⟨⟨_,_,Go.Proofs.Tryz.underlying101,rfl,rfl⟩,trivial⟩⟩⟩⟩⟩⟩,⟨⟨⟨_,_,Go.Proofs.Tryz.underlying111,rfl,rfl,by kernel_rfl⟩,⟨⟨_,_,Go.Proofs.Tryz.underlying111,rfl,rfl⟩,⟨⟨_,_,Go.Proofs.Tryz.underlying111,rfl,rfl,by kernel_rfl⟩,⟨⟨_,_,Go.Proofs.Tryz.underlying111,rfl,rfl⟩,⟨⟨_,_,Go.Proofs.Tryz.underlying111,rfl,rfl,by kernel_rfl⟩,⟨⟨_,_,Go.Proofs.Tryz.underlying111,rfl,rfl⟩,trivial⟩⟩⟩⟩⟩⟩,⟨⟨⟨_,_,Go.Proofs.Tryz.underlying138,rfl,rfl,by kernel_rfl⟩,⟨⟨_,_,Go.Proofs.Tryz.underlying138,rfl,rfl⟩,⟨⟨_,_,Go.Proofs.Tryz.underlying138,rfl,rfl,by kernel_rfl⟩,⟨⟨_,_,Go.Proofs.Tryz.underlying138,rfl,rfl⟩,⟨⟨_,_,Go.Proofs.Tryz.underlying138,rfl,rfl,by kernel_rfl⟩,⟨⟨_,_,Go.Proofs.Tryz.underlying138,rfl,rfl⟩,trivial⟩⟩⟩⟩⟩⟩,⟨⟨⟨_,_,Go.Proofs.Tryz.underlying220,rfl,rfl,by kernel_rfl⟩,⟨⟨_,_,Go.Proofs.Tryz.underlying220,rfl,rfl⟩,⟨⟨_,_,Go.Proofs.Tryz.underlying220,rfl,rfl,by kernel_rfl⟩,⟨⟨_,_,Go.Proofs.Tryz.underlying220,rfl,rfl⟩,⟨⟨_,_,Go.Proofs.Tryz.underlying220,rfl,rfl,by kernel_rfl⟩,⟨⟨_,_,Go.Proofs.Tryz.underlying220,rfl,rfl⟩,⟨⟨_,_,Go.Proofs.Tryz.underlying220,rfl,rfl,by kernel_rfl⟩,⟨⟨_,_,Go.Proofs.Tryz.underlying220,rfl,rfl⟩,⟨⟨_,_,Go.Proofs.Tryz.underlying220,rfl,rfl,by kernel_rfl⟩,⟨⟨_,_,Go.Proofs.Tryz.underlying220,rfl,rfl⟩,trivial⟩⟩⟩⟩⟩⟩⟩⟩⟩⟩,trivial⟩⟩⟩⟩⟩⟩⟩⟩⟩⟩⟩⟩⟩
 el:=⟨⟨Go.Proofs.Tryz.underlying22,_,_,ti3,rfl,by decide⟩,⟨⟨Go.Proofs.Tryz.underlying25,_,_,d1F,rfl,by decide⟩,⟨⟨Go.Proofs.Tryz.underlying28,_,_,d1U,rfl,by decide⟩,⟨⟨Go.Proofs.Tryz.underlying29,_,_,d1R,rfl,by decide⟩,⟨⟨Go.Proofs.Tryz.underlying30,_,_,c9B,rfl,by decide⟩,⟨⟨Go.Proofs.Tryz.underlying31,_,_,ti9,rfl,by decide⟩,⟨⟨Go.Proofs.Tryz.underlying50,_,_,d1c,rfl,by decide⟩,⟨⟨Go.Proofs.Tryz.underlying62,_,_,d1T,rfl,by decide⟩,⟨⟨Go.Proofs.Tryz.underlying69,_,_,d01,rfl,by decide⟩,⟨⟨Go.Proofs.Tryz.underlying74,_,_,c9j,rfl,by decide⟩,⟨⟨Go.Proofs.Tryz.underlying90,_,_,d1H,rfl,by decide⟩,⟨⟨Go.Proofs.Tryz.underlying105,_,_,c9k,rfl,by decide⟩,⟨⟨Go.Proofs.Tryz.underlying140,_,_,ti4,rfl,by decide⟩,⟨⟨Go.Proofs.Tryz.underlying151,_,_,ti2,rfl,by decide⟩,trivial⟩⟩⟩⟩⟩⟩⟩⟩⟩⟩⟩⟩⟩⟩
 str:=⟨Go.Proofs.Tryz.underlying9,trivial⟩
 bool:=⟨Go.Proofs.Tryz.underlying4,trivial⟩
 ik:=trivial
 inf:=⟨⟨_,ti2,fun X c σ=>RG.cns rfl a2u (RG.nl)⟩,⟨⟨_,ti3,fun X c σ=>RG.cns rfl a2u (RG.nl)⟩,⟨⟨_,ti4,fun X c σ=>RG.cns rfl a5f (RG.nl)⟩,⟨⟨_,ti9,fun X c σ=>RG.cns rfl b8q (RG.nl)⟩,⟨⟨_,d1H,fun X c σ=>RG.cns rfl a0A (RG.nl)⟩,⟨⟨_,d2P,fun X c σ=>RG.cns rfl a0A (RG.nl)⟩,⟨⟨_,d3b,fun X c σ=>RG.cns rfl a0A (RG.cns rfl a2u (RG.nl))⟩,⟨⟨_,d3a,fun X c σ=>RG.cns rfl a0A (RG.nl)⟩,⟨⟨_,d2B,fun X c σ=>RG.cns rfl a0A (RG.nl)⟩,⟨⟨_,d2H,fun X c σ=>RG.cns rfl a0A (RG.nl)⟩,⟨⟨_,d1U,fun X c σ=>RG.cns rfl a2u (RG.cns rfl a2u (RG.cns rfl b8q (RG.cns rfl a0A (RG.cns rfl a0A (RG.cns rfl a0A (RG.cns rfl a0A (RG.nl)))))))⟩,⟨⟨_,d23,fun X c σ=>RG.cns rfl a2u (RG.cns rfl a2u (RG.cns rfl a0A (RG.cns rfl a5f (RG.cns rfl a0A (RG.cns rfl a0A (RG.cns rfl a0A (RG.cns rfl a0A (RG.cns rfl a0A (RG.nl)))))))))⟩,⟨⟨_,d2S,fun X c σ=>RG.cns rfl a0A (RG.cns rfl a2u (RG.nl))⟩,⟨⟨_,d20,fun X c σ=>RG.cns rfl a0A (RG.nl)⟩,⟨⟨_,d1c,fun X c σ=>RG.cns rfl a0A (RG.cns rfl a0A (RG.cns rfl a5f (RG.nl)))⟩,⟨⟨_,d3e,fun X c σ=>RG.cns rfl a0A (RG.nl)⟩,⟨⟨_,d2F,fun X c σ=>RG.cns rfl a0A (RG.nl)⟩,⟨⟨_,d1T,fun X c σ=>RG.cns rfl a0A (RG.cns rfl a0A (RG.cns rfl a0A (RG.cns rfl a0A (RG.cns rfl a0A (RG.cns rfl a5f (RG.cns rfl a0A (RG.cns rfl a0A (RG.cns rfl a5f (RG.cns rfl a0A (RG.nl))))))))))⟩,⟨⟨_,d2V,fun X c σ=>RG.cns rfl a0A (RG.nl)⟩,⟨⟨_,d3c,fun X c σ=>RG.cns rfl a2u (RG.cns rfl a2u (RG.nl))⟩,⟨⟨_,d1F,fun X c σ=>RG.cns rfl a2u (RG.cns rfl a2u (RG.cns rfl a2u (RG.cns rfl b8q (RG.cns rfl a0A (RG.cns rfl a0A (RG.cns rfl a2u (RG.cns rfl a2u (RG.nl))))))))⟩,⟨⟨_,d1R,fun X c σ=>RG.cns rfl a2u (RG.cns rfl b8q (RG.nl))⟩,⟨⟨_,d01,fun X c σ=>RG.cns rfl a2u (RG.cns rfl a0A (RG.cns rfl a0A (RG.cns rfl a5f (RG.nl))))⟩,⟨⟨_,d2M,fun X c σ=>RG.cns rfl c9y (RG.nl)⟩,⟨⟨_,c9j,fun X c σ=>RG.cns rfl a2u (RG.cns rfl b8q (RG.cns rfl a2u (RG.cns rfl a5f (RG.nl))))⟩,⟨⟨_,d1V,fun X c σ=>RG.cns rfl a0A (RG.nl)⟩,⟨⟨_,d2t,fun X c σ=>RG.cns rfl c9y (RG.nl)⟩,⟨⟨_,c9k,fun X c σ=>RG.cns rfl a2u (RG.cns rfl a5f (RG.cns rfl a2u (RG.nl)))⟩,⟨⟨_,c9B,fun X c σ=>RG.cns rfl a0A (RG.cns rfl a5f (RG.cns rfl a2u (RG.cns rfl a2u (RG.cns rfl b8q (RG.cns rfl a0A (RG.cns rfl a0A (RG.cns rfl a0A (RG.cns rfl a0A (RG.nl)))))))))⟩,⟨⟨_,d14,fun X c σ=>RG.cns rfl a5f (RG.cns rfl a5f (RG.cns rfl a5f (RG.cns rfl a5f (RG.cns rfl a5f (RG.nl)))))⟩,trivial⟩⟩⟩⟩⟩⟩⟩⟩⟩⟩⟩⟩⟩⟩⟩⟩⟩⟩⟩⟩⟩⟩⟩⟩⟩⟩⟩⟩⟩⟩
 st:=⟨.inl ⟨_,Go.Proofs.Tryz.underlying27,by kernel_rfl⟩,⟨.inl ⟨_,Go.Proofs.Tryz.underlying33,by kernel_rfl⟩,⟨.inl ⟨_,Go.Proofs.Tryz.underlying40,by kernel_rfl⟩,⟨.inl ⟨_,Go.Proofs.Tryz.underlying44,by kernel_rfl⟩,⟨.inl ⟨_,Go.Proofs.Tryz.underlying56,by kernel_rfl⟩,⟨.inl ⟨_,Go.Proofs.Tryz.underlying71,by kernel_rfl⟩,⟨.inr (d1O Go.Proofs.Tryz.underlying75 ti3 rfl),⟨.inl ⟨_,Go.Proofs.Tryz.underlying77,by kernel_rfl⟩,⟨.inl ⟨_,Go.Proofs.Tryz.underlying83,by kernel_rfl⟩,⟨.inl ⟨_,Go.Proofs.Tryz.underlying85,by kernel_rfl⟩,⟨.inl ⟨_,Go.Proofs.Tryz.underlying101,by kernel_rfl⟩,⟨.inl ⟨_,Go.Proofs.Tryz.underlying111,by kernel_rfl⟩,⟨.inl ⟨_,Go.Proofs.Tryz.underlying220,by kernel_rfl⟩,trivial⟩⟩⟩⟩⟩⟩⟩⟩⟩⟩⟩⟩⟩
 eq:=⟨fun X c σ ls ms r cs ds h1 h2 h3=>eqT 75 b1M (fun h k=>d2K h k) (by kernel_rfl) (by decide) h1 h2 h3,⟨fun X c σ ls ms r cs ds h1 h2 h3=>eqT 83 a3P (fun h k=>d28 h k) (by kernel_rfl) (by decide) h1 h2 h3,trivial⟩⟩
 arr:=⟨⟨Go.Proofs.Tryz.underlying68,by kernel_rfl⟩,⟨⟨Go.Proofs.Tryz.underlying75,by kernel_rfl⟩,trivial⟩⟩
 fb:=⟨⟨_,_,Go.Proofs.Tryz.func84,rfl,by kernel_rfl⟩,⟨⟨_,_,Go.Proofs.Tryz.func86,rfl,by kernel_rfl⟩,⟨⟨_,_,Go.Proofs.Tryz.func141,rfl,by kernel_rfl⟩,⟨⟨_,_,Go.Proofs.Tryz.func143,rfl,by kernel_rfl⟩,⟨⟨_,_,Go.Proofs.Tryz.func152,rfl,by kernel_rfl⟩,⟨⟨_,_,Go.Proofs.Tryz.func171,rfl,by kernel_rfl⟩,⟨⟨_,_,Go.Proofs.Tryz.func172,rfl,by kernel_rfl⟩,⟨⟨_,_,Go.Proofs.Tryz.func174,rfl,by kernel_rfl⟩,⟨⟨_,_,Go.Proofs.Tryz.func175,rfl,by kernel_rfl⟩,⟨⟨_,_,Go.Proofs.Tryz.func177,rfl,by kernel_rfl⟩,⟨⟨_,_,Go.Proofs.Tryz.func182,rfl,by kernel_rfl⟩,⟨⟨_,_,Go.Proofs.Tryz.func183,rfl,by kernel_rfl⟩,⟨⟨_,_,Go.Proofs.Tryz.func233,rfl,by kernel_rfl⟩,⟨⟨_,_,Go.Proofs.Tryz.func249,rfl,by kernel_rfl⟩,trivial⟩⟩⟩⟩⟩⟩⟩⟩⟩⟩⟩⟩⟩⟩
theorem a94:TabOk Go.Proofs.Tryz.prog tb:=c8m d0V
theorem mixed:(Go.Proofs.Tryz.prog).follows .mixedOrders=true:=by kernel_rfl
end Go.Qx
end
section
namespace Go.Qx
open Go Go.RowKit Go.Sx
set_option maxHeartbeats 1600000
set_option maxRecDepth 100000
abbrev RK (r:Row I):Prop:=j6 Go.Proofs.Tryz.prog r
abbrev RO (r:Rio I):Prop:=b8p Go.Proofs.Tryz.prog r
def mkH (a:List (Nat×List (List Nat)))(b c:List (Nat×List Nat))(j:List (Nat×JH))(l:List (Nat×LH I))(k:List (Nat×KH I))(ns:List (Nat×NH I))(u:List (Nat×Nat)):Hints I :=
 ⟨fun i=>(asc a i).getD [],fun i=>(asc b i).getD [],fun i=>(asc c i).getD [],asc j,asc l,asc k,asc ns,fun i=>(asc u i).getD 0⟩
def Y4:Hints I:=mkH [] [] [] [] [] [] [] []
structure En where
 ans:Ans I
 ok:EntOk Go.Proofs.Tryz.prog ans
def enL:List En->List (Ans I)
 | []=>[]
 | e::r=>e.ans::enL r
theorem c0D:∀ l:List En,c6h Go.Proofs.Tryz.prog (enL l)
 | []=>trivial
 | e::r=>⟨e.ok,c0D r⟩
def eR {r:Row I}(h:RK r):En:=⟨d1x tb r,d0D a94 h⟩
def eO {r:Rio I}(h:RO r):En:=⟨d1L tb r,d0c a94 h⟩
def eS {r:Row I}(T f j:Nat)(is:List Nat)(h:a7f Go.Proofs.Tryz.prog r (b06 T f j is)):En:=⟨c9v tb r (c1g T f j is),c3M a94 h (fun _ _ _ _ _ _ _ _ _ hO h hc hv=>c55 hO h hc hv)⟩
theorem okR {r:Row I}(l:List En){fn:Func}(nt:Nat)(H:Hints I)(rl:List ResultVar)(hf:(Go.Proofs.Tryz.prog).funcs[r.f]?=some fn)
 (h : (fn.body, fn.name == "runtime.NumGoroutine", fn.ntmps, fn.results.toList, Nat.ble r.ps.length nt, a3X H (c3a fn) 1, r.run) = (some (c3a fn), false, nt, rl, true, true, b9a r.ps (c9o tb (c0u (enL l) 3) H (c3a fn) nt r.ps r.rs rl))) : RK r := by
 simp only [Prod.mk.injEq] at h
 obtain ⟨h1,h2,h3,h4,h5,h6,h7⟩:=h
 exact d07 a94 (b53 (c0D l) 3) mixed nt hf h1 h2 h3 h4 h5 h6 h7
def d0J:Row I:=⟨228,[.d (.str),.d (.str)],[.k (.d (.int .i64))],c3G⟩
theorem d1p:j6 Go.Proofs.Tryz.prog d0J:=d1w Go.Proofs.Tryz.func228 (by kernel_rfl) rfl (by kernel_rfl) (by kernel_rfl)
def d02:Row I:=⟨44,[.d (.sl 3)],[.k (.row 3 false)],a0U 8⟩
theorem c2L:j6 Go.Proofs.Tryz.prog d02:=b5E a94 mixed Go.Proofs.Tryz.func44 (by kernel_rfl) (by kernel_rfl) (by kernel_rfl) Go.Proofs.Tryz.underlying22 rfl (by kernel_rfl) (fun _=>by kernel_rfl)
noncomputable def d1C:Rio I:=⟨85,83,[.fn [.dat 83,.dat 83] [.k (.d (.int .i64))]],[],b5u⟩
theorem d11:b8p Go.Proofs.Tryz.prog d1C:=c6X Go.Proofs.Tryz.lay85 85 (by kernel_rfl) (by kernel_rfl) Go.Proofs.Tryz.underlying83 (by kernel_rfl)
def d1J:Row I:=⟨65,[.d (.sl 83)],[.k (.row 83 false)],a0U 24⟩
theorem d12:j6 Go.Proofs.Tryz.prog d1J:=b5E a94 mixed Go.Proofs.Tryz.func65 (by kernel_rfl) (by kernel_rfl) (by kernel_rfl) Go.Proofs.Tryz.underlying29 rfl (by kernel_rfl) (fun _=>by kernel_rfl)
def c9P:Rio I:=⟨200,3,[],[],c1I⟩
theorem d1S:b8p Go.Proofs.Tryz.prog c9P:=c7U (I:=I) (E:=3) Go.Proofs.Tryz.lay200 200 (by kernel_rfl) (fun x=>x) Iff.rfl ⟨_,_,Go.Proofs.Tryz.func200,rfl,by kernel_rfl⟩
def c94:Row I:=⟨212,[.d (.sl 33)],[.k (.row 33 false)],a0U 128⟩
theorem d0Y:j6 Go.Proofs.Tryz.prog c94:=b5E a94 mixed Go.Proofs.Tryz.func212 (by kernel_rfl) (by kernel_rfl) (by kernel_rfl) Go.Proofs.Tryz.underlying28 rfl (by kernel_rfl) (fun _=>by kernel_rfl)
def c9N:Row I:=⟨113,[.d (.sl 56)],[.k (.row 56 false)],a0U 56⟩
theorem d0T:j6 Go.Proofs.Tryz.prog c9N:=b5E a94 mixed Go.Proofs.Tryz.func113 (by kernel_rfl) (by kernel_rfl) (by kernel_rfl) Go.Proofs.Tryz.underlying50 rfl (by kernel_rfl) (fun _=>by kernel_rfl)
def b6k:Hints I:=mkH [] [] [] [] [(26,⟨65532,[],[],[(3,.k (.d (.int .i64)))],[((.exit 0),[]),(.ret,[(2,.k (.d (.bool)))])],bnd tb (.len (.slot 0)) 1⟩)] [] [] []
def b4m:Row I:=⟨17,[.d (.sl 22)],[.k (.d (.bool))],a5b⟩
theorem b5b:RK (b4m) :=
 okR [] 16 b6k [.tmp 2] Go.Proofs.Tryz.func17 (by kernel_rfl)
def b57:Hints I:=mkH [] [] [] [(29,⟨16776824,[],[],[(.normal,[(3,.k (.d (.bool))),(4,.k (.d (.bool))),(5,.k (.d (.bool))),(6,.k (.d (.bool)))])]⟩),
 (941,⟨26624,[],[],[(.normal,[(11,.k (.d (.bool)))])]⟩),
 (3773,⟨4096000,[],[],[(.normal,[(15,.k (.d (.bool)))])]⟩)] [] [] [] []
def b4c:Row I:=⟨71,[.d (.dat 77)],[.k (.d (.bool))],a5d⟩
theorem b4r:RK (b4c) :=
 okR [] 67 b57 [.tmp 2] Go.Proofs.Tryz.func71 (by kernel_rfl)
def c1J:Hints I:=mkH [] [] [] [] [(58,⟨34351349952,[],[],[(7,.k (.d (.int .i64)))],[((.exit 0),[]),(.ret,[(6,.k (.d (.bool)))])],bnd tb (.len (.slot 0)) 1⟩)] [] [] []
def b9H:Row I:=⟨170,[.d (.str),.fn [.int .u8] [.k (.d (.bool))],.fn [.int .u8] [.k (.d (.bool))]],[.k (.d (.bool))],a62⟩
theorem b3d:RK (b9H) :=
 okR [] 35 c1J [.tmp 6] Go.Proofs.Tryz.func170 (by kernel_rfl)
def b8V:Row I:=⟨171,[.d (.int .u8)],[.k (.d (.bool))],a43⟩
theorem a8b:RK (b8V) :=
 okR [] 9 Y4 [.tmp 2] Go.Proofs.Tryz.func171 (by kernel_rfl)
def b8D:Row I:=⟨173,[.d (.int .u8)],[.k (.d (.bool))],a6r⟩
theorem b2e:RK (b8D) :=
 okR [] 9 Y4 [.tmp 2] Go.Proofs.Tryz.func173 (by kernel_rfl)
def b61:Row I:=⟨172,[.d (.int .u8)],[.k (.d (.bool))],a9D⟩
theorem b8M:RK (b61) :=
 okR [eR a8b,eR b2e] 13 Y4 [.tmp 2] Go.Proofs.Tryz.func172 (by kernel_rfl)
def b9I:Row I:=⟨133,[.d (.str)],[.k (.d (.bool))],a5G⟩
theorem a85:RK (b9I) :=
 okR [eR b3d,eR a8b,eR b8M] 5 Y4 [.tmp 2] Go.Proofs.Tryz.func133 (by kernel_rfl)
def b8H:Row I:=⟨174,[.d (.int .u8)],[.k (.d (.bool))],a6s⟩
theorem b1D:RK (b8H) :=
 okR [] 9 Y4 [.tmp 2] Go.Proofs.Tryz.func174 (by kernel_rfl)
def b3B:Row I:=⟨175,[.d (.int .u8)],[.k (.d (.bool))],a6S⟩
theorem b4z:RK (b3B) :=
 okR [eR a8b,eR b1D,eR b2e] 17 Y4 [.tmp 2] Go.Proofs.Tryz.func175 (by kernel_rfl)
def b5Z:Row I:=⟨134,[.d (.str)],[.k (.d (.bool))],a23⟩
theorem a9p:RK (b5Z) :=
 okR [eR b3d,eR b1D,eR b4z] 5 Y4 [.tmp 2] Go.Proofs.Tryz.func134 (by kernel_rfl)
def b7S:Row I:=⟨119,[.d (.dat 83)],[.k (.d (.bool))],a4p⟩
theorem b01:RK (b7S) :=
 okR [eR a85] 16 Y4 [.tmp 2] Go.Proofs.Tryz.func119 (by kernel_rfl)
def b8X:Row I:=⟨198,[.d (.int .i64)],[.k (.d (.bool))],a7Z⟩
theorem b9S:RK (b8X) :=
 okR [] 6 Y4 [.tmp 2] Go.Proofs.Tryz.func198 (by kernel_rfl)
def b6U:Row I:=⟨151,[.d (.int .i64),.d (.int .i64)],[.k (.d (.int .i64))],a0G⟩
theorem a2l:RK (b6U) :=
 okR [eR b9S] 20 Y4 [.tmp 4] Go.Proofs.Tryz.func151 (by kernel_rfl)
def a7F:Row I:=⟨199,[.d (.str),.d (.str)],[.k (.d (.int .i64))],a2r⟩
theorem a7X:RK (a7F) :=
 okR [eR d1p] 8 Y4 [.tmp 4] Go.Proofs.Tryz.func199 (by kernel_rfl)
def b6A:Row I:=⟨152,[.d (.str),.d (.str)],[.k (.d (.int .i64))],a0f⟩
theorem a7b:RK (b6A) :=
 okR [eR a7X] 8 Y4 [.tmp 4] Go.Proofs.Tryz.func152 (by kernel_rfl)
def b4B:Row I:=⟨86,[.d (.dat 83),.d (.dat 83)],[.k (.d (.int .i64))],K3⟩
theorem a37:RK (b4B) :=
 okR [eR a2l,eR a7b] 19 Y4 [.tmp 4] Go.Proofs.Tryz.func86 (by kernel_rfl)
def b3W:Hints I:=mkH [(4,[[],[0],[0,1],[0,1,2],[0,1,2,3],[0,1,2,3,4],[0,1,2,3,4,5],[0,1,2,3,4,5,6],[0,1,2,3,4,5,6,7],[0,1,2,3,4,5,6,7],[0,1,2,3,4,5,6,7,9],[0,1,2,3,4,5,6,7,8,9,10],[0,1,2,3,4,5,6,7,8,9,10,11],[0,1,2,3,4,5,6,7,8,9,10,11,12],[0,1,2,3,4,5,6,7],[0,1,2,3,4,5,6,7,14],[0,1,2,3,4,5,6,7,8,9,10,11,12,13,14,15],[0,1,2,3,4,5,6,7,8,9,10,11,12,13,14,15,16],[0,1,2,3,4,5,6,7,8,9,10,11,12,13,14,15,16,17],[0,1,2,3,4,5,6,7,8,9,10,11,12,13,14,15,16,17,18]])] [] [] [] [(26,⟨8589934492,[],[],[(7,.k (.d (.int .i64)))],[((.exit 0),[]),(.ret,[(2,.k (.d (.bool)))])],bnd tb (.slot 6) 1⟩)] [] [] []
def b2t:Row I:=⟨135,[.d (.sl 101)],[.k (.d (.bool))],a36⟩
theorem b2V:RK (b2t) :=
 okR [eR b01,eR a37] 33 b3W [.tmp 2] Go.Proofs.Tryz.func135 (by kernel_rfl)
def b5K:Hints I:=mkH [] [] [] [(105,⟨16288,[],[],[(.normal,[(5,.k (.d (.bool)))])]⟩),
 (28311549,⟨368934881474191032320,[],[],[(.normal,[(66,.k (.d (.bool)))])]⟩)] [] [] [] []
def b3P:Row I:=⟨72,[.d (.dat 77)],[.k (.d (.bool))],a5i⟩
theorem b4F:RK (b3P) :=
 okR [eR a85,eR a9p,eR b2V] 79 b5K [.tmp 2] Go.Proofs.Tryz.func72 (by kernel_rfl)
def b9b:Hints I:=mkH [] [] [] [] [(58,⟨4190248,[],[],[(3,.k (.row 3 false)),(12,.k (.d (.int .i64)))],[((.exit 0),[(3,.k (.row 3 false))])],bnd tb (.slot 11) 1⟩)] [] [] []
def b65:Row I:=⟨73,[.d (.dat 77)],[.k (.row 3 false)],a7z⟩
theorem b8K:RK (b65) :=
 okR [eR c2L] 35 b9b [.tmp 2] Go.Proofs.Tryz.func73 (by kernel_rfl)
def b3t:Row I:=⟨137,[.d (.int .i64)],[.k (.d (.bool))],a5a⟩
theorem b4Z:RK (b3t) :=
 okR [] 13 Y4 [.tmp 2] Go.Proofs.Tryz.func137 (by kernel_rfl)
def b2c (_:Nat):Hints I:=mkH [] [] [] [] [(122,⟨140462610448544,[],[(1,.k (.row 3 false))],[(38,.k (.d (.int .i64)))],[((.exit 0),[]),(.ret,[(5,.k (.d (.bool)))])],bnd tb (.slot 37) 1⟩)] [] [] []
def a3N (n:Nat):Row I:=⟨136,[.d (.int .i64),.var 22 (.k (.row 3 false)) true,.var 27 (.k (.d (.dat 27))) false,.var 98 (.k (.d .any)) false],[.k (.d (.bool))],Q3 n⟩
theorem b0M (n:Nat)(h_typeexpr_contractive_1:a7f Go.Proofs.Tryz.prog (a3N n) (b06 98 136 3 [1,2,3])):a7f Go.Proofs.Tryz.prog (a3N (n+1)) (b06 98 136 3 [1,2,3]) :=
 c5l a94 (b53 (c0D [eR b4Z,eS 98 136 3 [1,2,3] h_typeexpr_contractive_1]) 3) mixed 50 (s0:=fun a=>c5T 98 136 3 3 [1,2,3] (b1J tb 50 [.d (.int .i64),.var 22 (.k (.row 3 false)) true,.var 27 (.k (.d (.dat 27))) false,.var 98 (.k (.d .any)) false] a)) (fn:=Go.Proofs.Tryz.f136) (cd:=c3a Go.Proofs.Tryz.f136) (H:=(b2c n)) (rl:=[.tmp 5]) (fun X c σ a vs F h hv hC=>c2V rfl rfl rfl h hv hC) Go.Proofs.Tryz.func136 (by kernel_rfl) (by kernel_rfl) (by kernel_rfl) (by kernel_rfl) (by kernel_rfl) (by kernel_rfl) (by kernel_rfl)
theorem a6O:∀ n:Nat,a7f Go.Proofs.Tryz.prog (a3N n) (b06 98 136 3 [1,2,3])
 | 0=>c2b (Q1 (by kernel_rfl))
 | n+1=>b0M n (a6O n)
def b3L (_:Nat):Hints I:=mkH [] [] [] [] [(250,⟨4177956,[],[(3,.k (.row 3 false))],[(14,.k (.d (.int .i64)))],[((.exit 0),[]),(.ret,[(2,.k (.d (.bool)))])],bnd tb (.slot 13) 1⟩)] [] [] []
def b1V (n:Nat):Row I:=⟨74,[.d (.dat 27)],[.k (.d (.bool))],a4f n⟩
theorem b2W (n:Nat):RK (b1V n) :=
 okR [eS 98 136 3 [1,2,3] (a6O n)] 22 (b3L n) [.tmp 2] Go.Proofs.Tryz.func74 (by kernel_rfl)
def b5k (_:Nat):Hints I:=mkH [] [] [] [] [(58,⟨2251799811588180,[],[],[(21,.k (.d (.int .i64)))],[((.exit 0),[]),(.ret,[(2,.k (.d (.int .i64)))])],bnd tb (.slot 20) 1⟩),
 (29902,⟨1125831187365956,[34],[],[(36,.k (.d (.int .i64)))],[((.exit 2),[]),(.ret,[(2,.k (.d (.int .i64)))])],bnd tb (.slot 35) 1⟩)] [] [] []
def b2O (n:Nat):Row I:=⟨34,[.d (.dat 27)],[.k (.d (.int .i64))],a0o n⟩
theorem a5r (n:Nat):RK (b2O n) :=
 okR [eR b4r,eR b4F,eR b8K,eR (b2W n)] 54 (b5k n) [.tmp 2] Go.Proofs.Tryz.func34 (by kernel_rfl)
def b0U:Hints I:=mkH [] [] [] [] [(26,⟨524080,[],[],[(8,.k (.d (.int .i64)))],[((.exit 0),[]),(.ret,[(4,.k (.d (.int .i64)))])],bnd tb (.slot 7) 1⟩)] [] [] []
def a9T:Row I:=⟨148,[.d (.sl 3),.fn [.int .i64] [.k (.d (.bool))]],[.k (.d (.int .i64))],a4E⟩
theorem b0c:RK (a9T) :=
 okR [] 19 b0U [.tmp 4] Go.Proofs.Tryz.func148 (by kernel_rfl)
def a8C:Row I:=⟨83,[.d (.sl 3),.fn [.int .i64] [.k (.d (.bool))]],[.k (.d (.bool))],Y0⟩
theorem a09:RK (a8C) :=
 okR [eR b0c] 9 Y4 [.tmp 4] Go.Proofs.Tryz.func83 (by kernel_rfl)
def b8L:Row I:=⟨84,[.d (.int .i64),.var 27 (.k (.d (.dat 27))) false],[.k (.d (.bool))],b0N⟩
theorem b9V:RK (b8L) :=
 okR [] 22 Y4 [.tmp 3] Go.Proofs.Tryz.func84 (by kernel_rfl)
def c0J:Row I:=⟨42,[.d (.dat 27),.d (.sl 3)],[.k (.d (.bool))],a7K⟩
theorem c1f:RK (c0J) :=
 okR [eR a09,eR b9V] 9 Y4 [.tmp 4] Go.Proofs.Tryz.func42 (by kernel_rfl)
def a8h:Hints I:=mkH [(6,[[],[],[0,1],[0,1,2],[],[],[5],[4,5,6],[4,5,6,7],[0,1,2,3,4,5,6,7,8]]),(11,[[],[],[0,1],[0,1,2],[],[],[5],[4,5,6],[4,5,6,7],[0,1,2,3,4,5,6,7,8]])] [] [] [] [(58,⟨1152921504606846012,[],[],[(0,.k (.row 83 false)),(3,.k (.d (.int .i64)))],[((.exit 0),[(0,.k (.row 83 false))]),(.ret,[(2,.k (.row 83 false))])],bnd tb (.len (.slot 0)) 1⟩)] [(59690,⟨18014397972611112,0,83,[(3,.k (.d (.int .i64))),(5,.k (.d (.int .i64)))],[((.exit 2),[(3,.k (.d (.int .i64)))])],bnd tb (.len (.slot 4)) 1⟩)] [] []
def a7J:Row I:=⟨88,[.row 83 false],[.k (.row 83 false)],a07⟩
theorem a7Y:RK (a7J) :=
 okR [] 61 a8h [.tmp 2] Go.Proofs.Tryz.func88 (by kernel_rfl)
def a8A:Row I:=⟨87,[.d (.sl 83)],[.k (.row 83 true)],a3q⟩
theorem a9c:RK (a8A) :=
 okR [] 9 Y4 [.tmp 2] Go.Proofs.Tryz.func87 (by kernel_rfl)
def c0L:Hints I:=mkH [] [] [] [] [(58,⟨17179865760,[],[],[(5,.k (.row 83 false)),(12,.k (.d (.int .i64)))],[((.exit 0),[(5,.k (.row 83 false))])],bnd tb (.slot 11) 1⟩),
 (14950,⟨8581546528,[],[],[(5,.k (.row 83 false)),(23,.k (.d (.int .i64)))],[((.exit 2),[(5,.k (.row 83 false))])],bnd tb (.slot 22) 1⟩)] [] [] []
noncomputable def b8I:Row I:=⟨43,[.d (.dat 27),.d (.sl 3)],[.k (.row 83 true)],a44⟩
theorem b9w:RK (b8I) :=
 okR [eO d11,eR a37,eR a7Y,eR a9c] 39 c0L [.tmp 4] Go.Proofs.Tryz.func43 (by kernel_rfl)
def c6A:Hints I:=mkH [] [] [] [] [(26,⟨2096208,[],[],[(10,.k (.d (.int .i64)))],[((.exit 0),[]),(.ret,[(4,.k (.d (.int .i64)))])],bnd tb (.slot 9) 1⟩)] [] [] []
def c4L:Row I:=⟨93,[.d (.dat 77),.d (.dat 83)],[.k (.d (.int .i64))],a7q⟩
theorem b51:RK (c4L) :=
 okR [] 26 c6A [.tmp 4] Go.Proofs.Tryz.func93 (by kernel_rfl)
def c0G:Hints I:=mkH [] [] [] [] [(26,⟨4193360,[],[],[(10,.k (.d (.int .i64)))],[((.exit 0),[]),(.ret,[(4,.k (.d (.bool)))])],bnd tb (.slot 9) 1⟩)] [] [] []
def b8E:Row I:=⟨94,[.d (.dat 77),.d (.dat 83)],[.k (.d (.bool))],a3K⟩
theorem b2m:RK (b8E) :=
 okR [] 22 c0G [.tmp 4] Go.Proofs.Tryz.func94 (by kernel_rfl)
def b2C:Hints I:=mkH [(6,[[],[],[0,1],[0,1,2],[],[],[5],[4,5,6],[4,5,6,7],[0,1,2,3,4,5,6,7,8]]),(11,[[],[],[0,1],[0,1,2],[],[],[5],[4,5,6],[4,5,6,7],[0,1,2,3,4,5,6,7,8]])] [] [] [] [(58,⟨1152921504606846012,[],[],[(0,.k (.row 3 false)),(3,.k (.d (.int .i64)))],[((.exit 0),[(0,.k (.row 3 false))]),(.ret,[(2,.k (.row 3 false))])],bnd tb (.len (.slot 0)) 1⟩)] [(59690,⟨18014397972611112,0,3,[(3,.k (.d (.int .i64))),(5,.k (.d (.int .i64)))],[((.exit 2),[(3,.k (.d (.int .i64)))])],bnd tb (.len (.slot 4)) 1⟩)] [] []
def b0F:Row I:=⟨202,[.row 3 false],[.k (.row 3 false)],a3m⟩
theorem b1e:RK (b0F) :=
 okR [] 61 b2C [.tmp 2] Go.Proofs.Tryz.func202 (by kernel_rfl)
def b2X:Row I:=⟨201,[.d (.sl 3)],[.k (.row 3 true)],a6F⟩
theorem b3A:RK (b2X) :=
 okR [] 9 Y4 [.tmp 2] Go.Proofs.Tryz.func201 (by kernel_rfl)
def c0a:Row I:=⟨153,[.d (.sl 3)],[.k (.row 3 true)],a7P⟩
theorem c1q:RK (c0a) :=
 okR [eR c2L,eO d1S,eR b1e,eR b3A] 11 Y4 [.tmp 2] Go.Proofs.Tryz.func153 (by kernel_rfl)
def c2m:Hints I:=mkH [(1,[[],[0],[0,1],[],[3],[0,1,2,3,4],[],[6],[0,1,2,3,4,5,6,7],[0,1,2,3,4,5,6,7,8]])] [] [] [] [] [] [] []
def c0d:Row I:=⟨90,[.d (.dat 56)],[.k (.d (.dat 56))],a6y⟩
theorem b5e:RK (c0d) :=
 okR [eR c1q] 12 c2m [.cell 2 56] Go.Proofs.Tryz.func90 (by kernel_rfl)
def b4h:Hints I:=mkH [] [] [] [] [(26,⟨524080,[],[],[(8,.k (.d (.int .i64)))],[((.exit 0),[]),(.ret,[(4,.k (.d (.int .i64)))])],bnd tb (.slot 7) 1⟩)] [] [] []
def b2x:Row I:=⟨154,[.d (.sl 3),.d (.int .i64)],[.k (.d (.int .i64))],a6i⟩
theorem b2S:RK (b2x) :=
 okR [] 19 b4h [.tmp 4] Go.Proofs.Tryz.func154 (by kernel_rfl)
def b0t:Row I:=⟨91,[.d (.sl 3),.d (.int .i64)],[.k (.d (.bool))],a0I⟩
theorem a6v:RK (b0t) :=
 okR [eR b2S] 9 Y4 [.tmp 4] Go.Proofs.Tryz.func91 (by kernel_rfl)
def b6S:Row I:=⟨177,[.d (.int .i64),.var 22 (.k (.d (.sl 3))) false],[.k (.d (.bool))],a87⟩
theorem b60:RK (b6S) :=
 okR [eR a6v] 7 Y4 [.tmp 3] Go.Proofs.Tryz.func177 (by kernel_rfl)
def b80:Row I:=⟨140,[.d (.sl 3),.d (.sl 3)],[.k (.d (.bool))],a72⟩
theorem b9r:RK (b80) :=
 okR [eR a09,eR b60] 8 Y4 [.tmp 4] Go.Proofs.Tryz.func140 (by kernel_rfl)
def b9R:Hints I:=mkH [(6,[[],[0],[],[2],[],[2,3,4],[2,3,4,5],[],[2,3,4,5,6,7],[2,3,4,5,6,7,8],[0,1,2,3,4,5,6,7,8,9],[0,1,2,3,4,5,6,7,8,9,10],[0,1,2,3,4,5,6,7,8,9,10,11]]),(7,[[],[0],[],[0,1,2],[0,1,2,3],[],[0,1,2,3,4,5]]),(15,[[],[0],[],[2],[],[4],[],[4,5,6],[4,5,6,7],[2,3,4,5,6,7,8],[2,3,4,5,6,7,8,9],[],[2,3,4,5,6,7,8,9,10,11],[2,3,4,5,6,7,8,9,10,11,12],[0,1,2,3,4,5,6,7,8,9,10,11,12,13],[0,1,2,3,4,5,6,7,8,9,10,11,12,13,14],[0,1,2,3,4,5,6,7,8,9,10,11,12,13,14,15]]),(22,[[],[],[1],[],[3],[],[5],[1,2,3,4,5,6],[1,2,3,4,5,6,7],[0,1,2,3,4,5,6,7],[0,1,2,3,4,5,6,7,9],[0,1,2,3,4,5,6,7,8,9,10]])] [] [(22,[13])] [] [(122,⟨140737480048640,[],[(13,.lvs [.row 3 false,.row 3 false,.d (.bool)])],[(14,.k (.d (.int .i64))),(23,.k (.d (.int .i64)))],[((.exit 0),[(14,.k (.d (.int .i64)))])],bnd tb (.slot 22) 1⟩),
 (506,⟨604462909244364634865664,[],[(13,.lvs [.row 3 false,.row 3 false,.d (.bool)])],[(14,.k (.d (.int .i64))),(17,.k (.d (.bool))),(49,.k (.d (.int .i64)))],[((.exit 2),[(14,.k (.d (.int .i64))),(17,.k (.d (.bool)))])],bnd tb (.slot 48) 1⟩)] [] [] []
def b71:Row I:=⟨89,[.d (.dat 27),.d (.dat 40),.d (.int .i64),.d (.dat 83),.bor 111],[.k (.d (.int .i64)),.k (.d (.dat 56)),.k (.d (.bool))],a7t⟩
theorem b8Q:RK (b71) :=
 okR [eR b51,eR b2m,eR b5e,eR b9r] 92 b9R [.tmp 10,.cell 11 56,.tmp 12] Go.Proofs.Tryz.func89 (by kernel_rfl)
def c1B:Hints I:=mkH [(17,[[],[],[],[1,2],[1,2,3],[1,2,3,4],[],[6],[],[],[6,7,8],[6,7,8,10],[6,7,8,9,10,11],[6,7,8,9,10,11,12],[6,7,8,9,10,11,12,13],[1,2,3,4,5,6,7,8,9,10,11,12,13,14],[],[0,1,2,3,4,5,6,7,8,9,10,11,12,13,14,15,16],[0,1,2,3,4,5,6,7,8,9,10,11,12,13,14,15,16,17],[0,1,2,3,4,5,6,7,8,9,10,11,12,13,14,15,16,17,18]]),(29,[[],[0],[],[2],[],[2,3,4],[2,3,4,5],[],[7],[0,1,2,3,4,5,6],[0,1,2,3,4,5,6,9],[0,1,2,3,4,5,6,7,8,9,10],[0,1,2,3,4,5,6,7,8,9,10,11],[0,1,2,3,4,5,6,7,8,9,10,11,12]])] [] [(7,[10]),(8,[10]),(9,[10]),(10,[10])] [(129638,⟨42530103568258773105293295432646000640,[],[],[(.normal,[(22,.k (.d (.int .i64)))])]⟩),
 (518556,⟨10846500445604913522895065611887611740160,[],[],[(.normal,[(132,.k (.d (.bool)))])]⟩)] [(58,⟨576460752035052032,[10],[(8,.lvs [.d (.sl 83),.d (.sl 3),.d (.sl 56),.d (.sl 3),.d (.sl 3),.d (.bool),.d (.sl 3),.d (.sl 3),.d (.bool),.d (.sl 85)]),(10,.lvs [.row 83 true,.row 3 true,.row 56 true,.row 3 true,.row 3 true,.d (.bool),.row 3 true,.row 3 true,.d (.bool),.row 85 true])],[(28,.k (.d (.int .i64)))],[((.exit 0),[]),(.ret,[(9,.k (.d (.bool)))])],bnd tb (.slot 27) 1⟩),
 (122,⟨1237940034673694256472129536,[],[(10,.lvs [.row 83 true,.row 3 true,.row 56 true,.row 3 true,.row 3 true,.d (.bool),.row 3 true,.row 3 true,.d (.bool),.row 85 true])],[(62,.k (.d (.int .i64)))],[((.exit 2),[])],bnd tb (.slot 61) 1⟩),
 (506,⟨89202980794102210156539221420169498779976192,[],[(8,.k (.d (.dat 71))),(10,.lvs [.row 83 true,.row 3 true,.row 56 true,.d (.sl 3),.d (.sl 3),.d (.bool),.d (.sl 3),.d (.sl 3),.d (.bool),.row 85 true])],[(104,.k (.d (.int .i64)))],[((.exit 8),[]),(.ret,[(9,.k (.d (.bool)))])],bnd tb (.slot 103) 1⟩)] [] [] [(250,3),(31334,3)]
def b9P:Row I:=⟨46,[.d (.dat 27),.d (.dat 40),.d (.sl 83),.bor 111],[.k (.d (.dat 71)),.k (.d (.bool))],a89⟩
theorem c0Z:RK (b9P) :=
 okR [eR d12,eR b8Q,eR b5e,eR a6v] 147 c1B [.cell 8 71,.tmp 9] Go.Proofs.Tryz.func46 (by kernel_rfl)
def b6z:Row I:=⟨92,[.d (.int .i64),.var 27 (.k (.d (.dat 27))) false],[.k (.d (.bool))],a1c⟩
theorem b63:RK (b6z) :=
 okR [] 11 Y4 [.tmp 3] Go.Proofs.Tryz.func92 (by kernel_rfl)
def c0m:Hints I:=mkH [] [] [] [(16024,⟨105553116272640,[],[],[(.normal,[(11,.k (.d (.int .i64))),(12,.k (.d (.int .i64)))])]⟩),
 (31333,⟨4160749824,[],[],[(.normal,[(8,.k (.row 111 false))])]⟩)] [(122,⟨2199023191808,[],[],[(8,.k (.row 111 false)),(16,.k (.d (.int .i64)))],[((.exit 0),[(8,.k (.row 111 false))])],bnd tb (.slot 15) 1⟩),
 (250,⟨144106391982840064,[],[],[(8,.k (.row 111 false)),(43,.k (.d (.int .i64)))],[((.exit 2),[(8,.k (.row 111 false))])],bnd tb (.cst 2) 1⟩)] [] [] []
def b8G:Row I:=⟨47,[.d (.dat 27),.d (.dat 77),.d (.sl 83)],[.k (.row 111 false)],a47⟩
theorem b9q:RK (b8G) :=
 okR [eR b51,eR b63,eR b2m] 58 c0m [.tmp 6] Go.Proofs.Tryz.func47 (by kernel_rfl)
def b8N (_:Nat):Hints I:=mkH [(4,[[],[],[1],[],[3],[],[3,4,5],[3,4,5,6],[1,2,3,4,5,6,7],[1,2,3,4,5,6,7,8],[],[0,1,2,3,4,5,6,7,8,9,10],[0,1,2,3,4,5,6,7,8,9,10,11],[]])] [] [] [(83,⟨1006632960,[],[(5,.k (.row 71 false))],[(.normal,[])]⟩)] [(14,⟨72048797944907776,[],[(4,.k (.row 111 false)),(5,.k (.row 71 false))],[(41,.k (.row 111 false)),(43,.k (.d (.int .i64)))],[((.exit 0),[(41,.k (.row 111 false))])],bnd tb (.slot 42) 1⟩)] [] [] []
def a6C (n:Nat):Row I:=⟨45,[.d (.int .i64),.var 40 (.k (.d (.dat 40))) false,.var 27 (.k (.d (.dat 27))) false,.var 29 (.k (.d (.sl 83))) false,.var 105 (.k (.row 111 false)) true,.var 62 (.k (.row 71 false)) true,.var 106 (.k (.d .any)) false],[],a0E n⟩
theorem b6J (n:Nat)(h_record_Shapes_1:a7f Go.Proofs.Tryz.prog (a6C n) (b06 106 45 6 [1,2,3,4,5,6])):a7f Go.Proofs.Tryz.prog (a6C (n+1)) (b06 106 45 6 [1,2,3,4,5,6]) :=
 c5l a94 (b53 (c0D [eR c0Z,eR b9q,eS 106 45 6 [1,2,3,4,5,6] h_record_Shapes_1]) 3) mixed 56 (s0:=fun a=>c5T 106 45 7 6 [1,2,3,4,5,6] (b1J tb 56 [.d (.int .i64),.var 40 (.k (.d (.dat 40))) false,.var 27 (.k (.d (.dat 27))) false,.var 29 (.k (.d (.sl 83))) false,.var 105 (.k (.row 111 false)) true,.var 62 (.k (.row 71 false)) true,.var 106 (.k (.d .any)) false] a)) (fn:=Go.Proofs.Tryz.f45) (cd:=c3a Go.Proofs.Tryz.f45) (H:=(b8N n)) (rl:=[]) (fun X c σ a vs F h hv hC=>c2V rfl rfl rfl h hv hC) Go.Proofs.Tryz.func45 (by kernel_rfl) (by kernel_rfl) (by kernel_rfl) (by kernel_rfl) (by kernel_rfl) (by kernel_rfl) (by kernel_rfl)
theorem b0q:∀ n:Nat,a7f Go.Proofs.Tryz.prog (a6C n) (b06 106 45 6 [1,2,3,4,5,6])
 | 0=>c2b (Q1 (by kernel_rfl))
 | n+1=>b6J n (b0q n)
def c0o (_:Nat):Hints I:=mkH [(5,[[],[],[1],[1,2],[],[4],[1,2,3,4,5],[0,1,2,3,4,5,6],[],[0,1,2,3,4,5,6,7,8]])] [] [] [] [] [] [] []
noncomputable def b8P (n:Nat):Row I:=⟨20,[.d (.dat 27),.d (.dat 40)],[.k (.row 71 false),.k (.d (.int .i64))],a3D n⟩
theorem b2y (n:Nat):RK (b8P n) :=
 okR [eR (a5r n),eR c1f,eR c2L,eR b9w,eS 106 45 6 [1,2,3,4,5,6] (b0q n)] 46 (c0o n) [.tmp 4,.tmp 5] Go.Proofs.Tryz.func20 (by kernel_rfl)
def b6K:Row I:=⟨32,[],[.k (.d (.dat 33))],X4⟩
theorem a2a:RK (b6K) :=
 okR [] 2 Y4 [.cell 0 33] Go.Proofs.Tryz.func32 (by kernel_rfl)
def b5c:Row I:=⟨162,[.d (.int .u8)],[.k (.d (.bool))],a2E⟩
theorem a8W:RK (b5c) :=
 okR [] 9 Y4 [.tmp 2] Go.Proofs.Tryz.func162 (by kernel_rfl)
def b4I:Row I:=⟨163,[.d (.int .u8)],[.k (.d (.bool))],a31⟩
theorem a8X:RK (b4I) :=
 okR [] 9 Y4 [.tmp 2] Go.Proofs.Tryz.func163 (by kernel_rfl)
def b6i:Hints I:=mkH [] [] [] [] [(58,⟨4398046248972,[],[],[(3,.k (.d (.int .i64)))],[((.exit 0),[]),(.ret,[(2,.k (.d (.bool)))])],bnd tb (.len (.slot 0)) 1⟩)] [] [] []
def b3Y:Row I:=⟨115,[.d (.str)],[.k (.d (.bool))],a2b⟩
theorem a5S:RK (b3Y) :=
 okR [eR a8W,eR a8X] 42 b6i [.tmp 2] Go.Proofs.Tryz.func115 (by kernel_rfl)
def b2f:Row I:=⟨61,[.d (.dat 83)],[.k (.d (.bool))],a1v⟩
theorem a40:RK (b2f) :=
 okR [eR a5S] 22 Y4 [.tmp 2] Go.Proofs.Tryz.func61 (by kernel_rfl)
def b3s:Row I:=⟨62,[.d (.sl 33)],[.k (.row 33 false)],a1l⟩
theorem a8r:RK (b3s) :=
 okR [] 5 Y4 [.tmp 2] Go.Proofs.Tryz.func62 (by kernel_rfl)
def b5m:Row I:=⟨110,[.d (.int .i64),.d (.int .i64)],[.k (.d (.int .i64))],a2J⟩
theorem a6o:RK (b5m) :=
 okR [] 11 Y4 [.tmp 4] Go.Proofs.Tryz.func110 (by kernel_rfl)
def b6h:Row I:=⟨111,[.d (.str),.d (.str)],[.k (.d (.int .i64))],a1m⟩
theorem a9n:RK (b6h) :=
 okR [] 11 Y4 [.tmp 4] Go.Proofs.Tryz.func111 (by kernel_rfl)
def b0o:Row I:=⟨52,[.d (.dat 83),.d (.dat 83)],[.k (.d (.int .i64))],J5⟩
theorem a0S:RK (b0o) :=
 okR [eR a6o,eR a9n] 20 Y4 [.tmp 4] Go.Proofs.Tryz.func52 (by kernel_rfl)
def b8R:Hints I:=mkH [(13,[[],[],[1],[1,2],[0,1,2,3],[0,1,2,3,4],[0,1,2,3,4,5],[0,1,2,3,4,5,6],[0,1,2,3,4,5],[0,1,2,3,4,5,6,7,8],[0,1,2,3,4,5,6,7,8,9],[0,1,2,3,4,5],[0,1,2,3,4,5],[0,1,2,3,4,5,11,12],[0,1,2,3,4,5,11,12,13],[0,1,2,3,4,5,6,7,8,9,10,11,12,13,14],[0,1,2,3,4,5,6,7,8,9,10,11,12,13,14,15],[0,1,2,3,4,5,6,7,8,9,10,11,12,13,14,15,16]]),(15,[[],[],[1],[1,2],[0,1,2,3],[0,1,2,3,4],[0,1,2,3,4,5],[0,1,2,3,4,5,6],[0,1,2,3,4,5],[0,1,2,3,4,5,6,7,8],[0,1,2,3,4,5,6,7,8,9],[0,1,2,3,4,5],[0,1,2,3,4,5],[0,1,2,3,4,5,11,12],[0,1,2,3,4,5,11,12,13],[0,1,2,3,4,5,6,7,8,9,10,11,12,13,14],[0,1,2,3,4,5,6,7,8,9,10,11,12,13,14,15]]),(17,[[],[0],[],[0,1,2],[0,1,2,3],[],[5],[],[5,6,7],[0,1,2,3,4,5,6,7,8],[0,1,2,3,4,5,6,7,8,9],[0,1,2,3,4,5,6,7,8,9,10]]),(18,[[],[],[],[1,2],[1,2,3],[1,2,3,4],[0,1,2,3,4,5],[],[7],[],[7,8,9],[0,1,2,3,4,5,6,7,8,9,10],[0,1,2,3,4,5,6,7,8,9,10,11],[0,1,2,3,4,5,6,7,8,9,10,11,12]]),(19,[[],[],[],[1,2],[1,2,3],[1,2,3,4],[0,1,2,3,4,5],[],[7],[],[7,8,9],[0,1,2,3,4,5,6,7,8,9,10],[0,1,2,3,4,5,6,7,8,9,10,11],[0,1,2,3,4,5,6,7,8,9,10,11,12]])] [] [] [] [(58,⟨2147221600,[],[(4,.lvs [.d (.int .i64),.d (.int .i64),.d (.str),.row 33 false,.row 83 false,.row 138 false,.row 9 false])],[(6,.k (.d (.int .i64)))],[((.exit 0),[]),(.ret,[(5,.k (.d (.int .i64)))])],bnd tb (.len (.slot 0)) 1⟩),
 (250,⟨5192296858534827628530492034256672,[7],[(4,.lvs [.d (.int .i64),.d (.int .i64),.d (.str),.row 33 false,.row 83 false,.row 138 false,.row 9 false]),(7,.lvs [.d (.int .i64),.d (.int .i64),.d (.str),.d (.sl 33),.d (.sl 83),.row 138 true,.row 9 true])],[(8,.k (.d (.int .i64)))],[((.exit 2),[]),(.ret,[(5,.k (.d (.int .i64)))])],bnd tb (.len (.slot 0)) 1⟩),
 (32036,⟨288230101273805312,[7],[],[(9,.k (.d (.int .i64)))],[((.exit 4),[(9,.k (.d (.int .i64)))])],bnd tb (.len (.ld 29 (.fld 33 4 (.slot 7)))) 1⟩)] [] [] []
def b6L:Row I:=⟨27,[.d (.sl 83),.d (.sl 33)],[.k (.d (.dat 33)),.k (.d (.int .i64))],a1H⟩
theorem a64:RK (b6L) :=
 okR [eR a40,eR a0S,eR a8r] 113 b8R [.cell 4 33,.tmp 5] Go.Proofs.Tryz.func27 (by kernel_rfl)
def c4k:Hints I:=mkH [] [] [] [(105,⟨160,[],[],[(.normal,[(5,.k (.d (.bool)))])]⟩),
 (429,⟨2560,[],[],[(.normal,[(9,.k (.d (.bool)))])]⟩),
 (6909,⟨327680,[],[],[(.normal,[(16,.k (.d (.bool)))])]⟩)] [] [] [] []
def c1j:Row I:=⟨208,[.d (.int .i64)],[.k (.d (.dat 220)),.k (.d (.bool))],a7s⟩
theorem c2o:RK (c1j) :=
 okR [] 27 c4k [.cell 2 220,.tmp 3] Go.Proofs.Tryz.func208 (by kernel_rfl)
def b2d:Hints I:=mkH [(4,[[],[],[],[2],[1,2,3],[1,2,3,4],[],[],[6,7],[6,7,8],[0,1,2,3,4,5,6,7,8,9],[0,1,2,3,4,5,6,7,8,9,10]])] [] [] [] [(26,⟨16777200,[],[],[(5,.k (.d (.int .i64)))],[((.exit 0),[]),(.ret,[(4,.k (.d (.bool)))])],bnd tb (.len (.slot 0)) 1⟩)] [] [] []
def b0P:Row I:=⟨230,[.d (.sl 9),.fn [.str,.str] [.k (.d (.int .i64))]],[.k (.d (.bool))],a5o⟩
theorem b1m:RK (b0P) :=
 okR [] 24 b2d [.tmp 4] Go.Proofs.Tryz.func230 (by kernel_rfl)
def b6C:Hints I:=mkH [] [] [] [] [(58,⟨261140,[],[],[(10,.k (.d (.int .i64)))],[((.exit 0),[]),(.ret,[(2,.k (.d (.bool)))])],bnd tb (.slot 9) 1⟩)] [] [] []
def b45:Row I:=⟨209,[.d (.sl 9)],[.k (.d (.bool))],a5v⟩
theorem b6g:RK (b45) :=
 okR [eR b1m,eR a7b,eR a9p] 18 b6C [.tmp 2] Go.Proofs.Tryz.func209 (by kernel_rfl)
def b05:Hints I:=mkH [(4,[[],[],[],[2],[1,2,3],[1,2,3,4],[],[],[6,7],[6,7,8],[0,1,2,3,4,5,6,7,8,9],[0,1,2,3,4,5,6,7,8,9,10]])] [] [] [] [(26,⟨16777200,[],[],[(5,.k (.d (.int .i64)))],[((.exit 0),[]),(.ret,[(4,.k (.d (.bool)))])],bnd tb (.len (.slot 0)) 1⟩)] [] [] []
def b0u:Row I:=⟨231,[.d (.sl 83),.fn [.dat 83,.dat 83] [.k (.d (.int .i64))]],[.k (.d (.bool))],a4Y⟩
theorem b0z:RK (b0u) :=
 okR [] 24 b05 [.tmp 4] Go.Proofs.Tryz.func231 (by kernel_rfl)
def b9G:Hints I:=mkH [] [] [] [] [(58,⟨534773780,[],[],[(21,.k (.d (.int .i64)))],[((.exit 0),[]),(.ret,[(2,.k (.d (.bool)))])],bnd tb (.slot 20) 1⟩)] [] [] []
def b7L:Row I:=⟨210,[.d (.dat 33)],[.k (.d (.bool))],a7A⟩
theorem b8J:RK (b7L) :=
 okR [eR b0z,eR a37,eR b01] 29 b9G [.tmp 2] Go.Proofs.Tryz.func210 (by kernel_rfl)
def b0i:Hints I:=mkH [(4,[[],[],[],[2],[1,2,3],[1,2,3,4],[],[],[6,7],[6,7,8],[0,1,2,3,4,5,6,7,8,9],[0,1,2,3,4,5,6,7,8,9,10]])] [] [] [] [(26,⟨16777200,[],[],[(5,.k (.d (.int .i64)))],[((.exit 0),[]),(.ret,[(4,.k (.d (.bool)))])],bnd tb (.len (.slot 0)) 1⟩)] [] [] []
def a9k:Row I:=⟨232,[.d (.sl 138),.fn [.dat 138,.dat 138] [.k (.d (.int .i64))]],[.k (.d (.bool))],a4c⟩
theorem a9q:RK (a9k) :=
 okR [] 24 b0i [.tmp 4] Go.Proofs.Tryz.func232 (by kernel_rfl)
def a8U:Hints I:=mkH [(7,[[],[],[],[1,2],[1,2,3],[],[],[5,6],[5,6,7],[0,1,2,3,4,5,6,7,8],[0,1,2,3,4,5,6,7,8,9]])] [] [] [] [(58,⟨137437905728,[],[],[(20,.k (.d (.int .i64)))],[((.exit 0),[]),(.ret,[(6,.k (.d (.int .i64)))])],bnd tb (.slot 19) 1⟩)] [] [] []
def a8g:Row I:=⟨255,[.d (.sl 33),.d (.sl 33),.fn [.dat 33,.dat 33] [.k (.d (.int .i64))]],[.k (.d (.int .i64))],a20⟩
theorem a8y:RK (a8g) :=
 okR [eR a2l] 37 a8U [.tmp 6] Go.Proofs.Tryz.func255 (by kernel_rfl)
def b6R:Row I:=⟨262,[.d (.int .i64)],[.k (.d (.bool))],a6J⟩
theorem b72:RK (b6R) :=
 okR [] 6 Y4 [.tmp 2] Go.Proofs.Tryz.func262 (by kernel_rfl)
def b4W:Row I:=⟨256,[.d (.int .i64),.d (.int .i64)],[.k (.d (.int .i64))],a5z⟩
theorem b5y:RK (b4W) :=
 okR [eR b72] 20 Y4 [.tmp 4] Go.Proofs.Tryz.func256 (by kernel_rfl)
def a9E:Hints I:=mkH [(7,[[],[],[],[1,2],[1,2,3],[],[],[5,6],[5,6,7],[0,1,2,3,4,5,6,7,8],[0,1,2,3,4,5,6,7,8,9]])] [] [] [] [(58,⟨137437905728,[],[],[(20,.k (.d (.int .i64)))],[((.exit 0),[]),(.ret,[(6,.k (.d (.int .i64)))])],bnd tb (.slot 19) 1⟩)] [] [] []
def a8V:Row I:=⟨257,[.d (.sl 83),.d (.sl 83),.fn [.dat 83,.dat 83] [.k (.d (.int .i64))]],[.k (.d (.int .i64))],a3G⟩
theorem a9l:RK (a8V) :=
 okR [eR a2l] 37 a9E [.tmp 6] Go.Proofs.Tryz.func257 (by kernel_rfl)
def a83:Hints I:=mkH [(7,[[],[],[],[1,2],[1,2,3],[],[],[5,6],[5,6,7],[0,1,2,3,4,5,6,7,8],[0,1,2,3,4,5,6,7,8,9]])] [] [] [] [(58,⟨137437905728,[],[],[(20,.k (.d (.int .i64)))],[((.exit 0),[]),(.ret,[(6,.k (.d (.int .i64)))])],bnd tb (.slot 19) 1⟩)] [] [] []
def a8i:Row I:=⟨258,[.d (.sl 138),.d (.sl 138),.fn [.dat 138,.dat 138] [.k (.d (.int .i64))]],[.k (.d (.int .i64))],a26⟩
theorem a8z:RK (a8i) :=
 okR [eR a2l] 37 a83 [.tmp 6] Go.Proofs.Tryz.func258 (by kernel_rfl)
def b0f:Hints I:=mkH [(7,[[],[],[],[1,2],[1,2,3],[],[],[5,6],[5,6,7],[0,1,2,3,4,5,6,7,8],[0,1,2,3,4,5,6,7,8,9]])] [] [] [] [(58,⟨137437905728,[],[],[(20,.k (.d (.int .i64)))],[((.exit 0),[]),(.ret,[(6,.k (.d (.int .i64)))])],bnd tb (.slot 19) 1⟩)] [] [] []
def a9j:Row I:=⟨259,[.d (.sl 9),.d (.sl 9),.fn [.str,.str] [.k (.d (.int .i64))]],[.k (.d (.int .i64))],a4l⟩
theorem a9F:RK (a9j) :=
 okR [eR a2l] 37 b0f [.tmp 6] Go.Proofs.Tryz.func259 (by kernel_rfl)
def a2H (n:Nat):Row I:=⟨249,[.d (.dat 33),.d (.dat 33)],[.k (.d (.int .i64))],a2L n⟩
def a0y (n:Nat):Row I:=⟨233,[.d (.dat 138),.d (.dat 138)],[.k (.d (.int .i64))],V0 n⟩
def a1E (n:Nat):Row I:=⟨248,[.d (.sl 33),.d (.sl 33)],[.k (.d (.int .i64))],a2Y n⟩
theorem b8F (n:Nat)(_:j6 Go.Proofs.Tryz.prog (a2H n))(h_value_compareEntries:j6 Go.Proofs.Tryz.prog (a0y n))(h_value_compareValues:j6 Go.Proofs.Tryz.prog (a1E n)):RK (a2H (n+1)) :=
 okR [eR a2l,eR b5y,eR a7b,eR a9l,eR a37,eR h_value_compareValues,eR a8z,eR h_value_compareEntries,eR a9F] 64 Y4 [.tmp 4] Go.Proofs.Tryz.func249 (by kernel_rfl)
theorem b1H (n:Nat)(h_value_Compare:j6 Go.Proofs.Tryz.prog (a2H n))(_:j6 Go.Proofs.Tryz.prog (a0y n))(h_value_compareValues:j6 Go.Proofs.Tryz.prog (a1E n)):RK (a0y (n+1)) :=
 okR [eR h_value_compareValues,eR h_value_Compare] 26 Y4 [.tmp 4] Go.Proofs.Tryz.func233 (by kernel_rfl)
theorem b2L (n:Nat)(h_value_Compare:j6 Go.Proofs.Tryz.prog (a2H n))(_:j6 Go.Proofs.Tryz.prog (a0y n))(_:j6 Go.Proofs.Tryz.prog (a1E n)):RK (a1E (n+1)) :=
 okR [eR a8y,eR h_value_Compare] 8 Y4 [.tmp 4] Go.Proofs.Tryz.func248 (by kernel_rfl)
theorem a6k:∀ n:Nat,j6 Go.Proofs.Tryz.prog (a2H n)/\j6 Go.Proofs.Tryz.prog (a0y n)/\j6 Go.Proofs.Tryz.prog (a1E n)
 | 0=>⟨Q1 (by kernel_rfl),Q1 (by kernel_rfl),Q1 (by kernel_rfl)⟩
 | n+1=>by
   obtain ⟨h0,h1,h2⟩:=a6k n
   exact ⟨b8F n h0 h1 h2,b1H n h0 h1 h2,b2L n h0 h1 h2⟩
theorem b9v (n:Nat):j6 Go.Proofs.Tryz.prog (a2H n):=(a6k n).1
theorem b2K (n:Nat):j6 Go.Proofs.Tryz.prog (a0y n):=(a6k n).2.1
def c0Y (n:Nat):Row I:=⟨260,[.d (.dat 33),.d (.dat 33)],[.k (.d (.bool))],b3I n⟩
theorem c1w (n:Nat):RK (c0Y n) :=
 okR [eR (b9v n)] 9 Y4 [.tmp 4] Go.Proofs.Tryz.func260 (by kernel_rfl)
def b9t (n:Nat):Row I:=⟨250,[.d (.dat 33)],[.k (.d (.bool))],b2v n⟩
theorem c0F (n:Nat):RK (b9t n) :=
 okR [eR (c1w n)] 6 Y4 [.tmp 2] Go.Proofs.Tryz.func250 (by kernel_rfl)
def b5w (n:Nat):Row I:=⟨234,[.d (.dat 138),.d (.int .i64)],[.k (.d (.bool))],a4s n⟩
theorem b6M (n:Nat):RK (b5w n) :=
 okR [eR (c0F n)] 20 Y4 [.tmp 4] Go.Proofs.Tryz.func234 (by kernel_rfl)
def b4w (_:Nat):Hints I:=mkH [] [] [] [] [(58,⟨4290773012,[],[],[(22,.k (.d (.int .i64)))],[((.exit 0),[]),(.ret,[(2,.k (.d (.bool)))])],bnd tb (.slot 21) 1⟩)] [] [] []
def b2U (n:Nat):Row I:=⟨211,[.d (.dat 33)],[.k (.d (.bool))],a4O n⟩
theorem b3v (n:Nat):RK (b2U n) :=
 okR [eR a9q,eR (b2K n),eR (b6M n)] 32 (b4w n) [.tmp 2] Go.Proofs.Tryz.func211 (by kernel_rfl)
def b6Q (n:Nat):Row I:=⟨160,[.d (.dat 33)],[.k (.d (.bool))],a6I n⟩
theorem b6W (n:Nat):RK (b6Q n) :=
 okR [eR c2o,eR b6g,eR a85,eR b8J,eR (b3v n)] 124 Y4 [.tmp 2] Go.Proofs.Tryz.func160 (by kernel_rfl)
def c2q:Hints I:=mkH [] [] [] [] [(58,⟨536866856,[],[],[(3,.k (.row 33 false)),(12,.k (.d (.int .i64)))],[((.exit 0),[(3,.k (.row 33 false))])],bnd tb (.slot 11) 1⟩)] [] [] []
def c0A:Row I:=⟨161,[.d (.dat 33)],[.k (.row 33 false)],a91⟩
theorem c1F:RK (c0A) :=
 okR [eR d0Y] 30 c2q [.tmp 2] Go.Proofs.Tryz.func161 (by kernel_rfl)
def b8Y (_:Nat):Hints I:=mkH [] [] [] [] [(58,⟨522260,[9],[],[(11,.k (.d (.int .i64)))],[((.exit 0),[]),(.ret,[(2,.k (.d (.bool)))])],bnd tb (.slot 10) 1⟩)] [] [] []
def a6A (n:Nat):Row I:=⟨112,[.d (.dat 33)],[.k (.d (.bool))],a2z n⟩
theorem b6F (n:Nat)(h_value_validTree:j6 Go.Proofs.Tryz.prog (a6A n)):RK (a6A (n+1)) :=
 okR [eR (b6W n),eR c1F,eR h_value_validTree] 19 (b8Y n) [.tmp 2] Go.Proofs.Tryz.func112 (by kernel_rfl)
theorem b0g:∀ n:Nat,j6 Go.Proofs.Tryz.prog (a6A n)
 | 0=>Q1 (by kernel_rfl)
 | n+1=>b6F n (b0g n)
def b7m (n:Nat):Row I:=⟨53,[.d (.dat 33)],[.k (.d (.int .i64))],a5U n⟩
theorem b03 (n:Nat):RK (b7m n) :=
 okR [eR (b0g n)] 6 Y4 [.tmp 2] Go.Proofs.Tryz.func53 (by kernel_rfl)
def b6X:Row I:=⟨54,[.d (.dat 71)],[.k (.d (.bool))],a7r⟩
theorem b8U:RK (b6X) :=
 okR [] 19 Y4 [.tmp 2] Go.Proofs.Tryz.func54 (by kernel_rfl)
def c09:Hints I:=mkH [(1,[[],[0],[0,1],[],[3],[0,1,2,3,4],[0,1,2,3,4,5]])] [] [] [] [(58,⟨33521704,[],[],[(3,.k (.row 56 false)),(15,.k (.d (.int .i64)))],[((.exit 0),[(3,.k (.row 56 false))])],bnd tb (.slot 14) 1⟩)] [] [] []
def b9B:Row I:=⟨55,[.d (.dat 71)],[.k (.row 56 false)],a8Q⟩
theorem c0i:RK (b9B) :=
 okR [eR d0T] 26 c09 [.tmp 2] Go.Proofs.Tryz.func55 (by kernel_rfl)
def c2l:Hints I:=mkH [(1,[[],[0],[0,1],[],[3],[0,1,2,3,4],[0,1,2,3,4,5],[]])] [] [] [] [(26,⟨268419152,[12],[],[(14,.k (.d (.int .i64)))],[((.exit 0),[]),(.ret,[(4,.k (.d (.bool)))])],bnd tb (.slot 13) 1⟩)] [] [] []
def c0P:Row I:=⟨56,[.d (.dat 27),.d (.dat 56)],[.k (.d (.bool))],a7N⟩
theorem b4K:RK (c0P) :=
 okR [eR c2L] 28 c2l [.tmp 4] Go.Proofs.Tryz.func56 (by kernel_rfl)
def a80:Hints I:=mkH [(4,[[],[],[],[1,2],[1,2,3],[0,1,2,3,4]])] [] [] [] [(26,⟨524080,[],[],[(8,.k (.d (.int .i64)))],[((.exit 0),[]),(.ret,[(4,.k (.d (.int .i64)))])],bnd tb (.slot 7) 1⟩)] [] [] []
def a8f:Row I:=⟨114,[.d (.sl 83),.d (.dat 83)],[.k (.d (.int .i64))],K8⟩
theorem a4T:RK (a8f) :=
 okR [] 19 a80 [.tmp 4] Go.Proofs.Tryz.func114 (by kernel_rfl)
def c0g:Row I:=⟨178,[.d (.int .i64)],[.k (.d (.int .i64))],b87⟩
theorem c08:RK (c0g) :=
 okR [] 14 Y4 [.tmp 2] Go.Proofs.Tryz.func178 (by kernel_rfl)
def a7x:Row I:=⟨58,[.d (.sl 83),.d (.dat 83)],[.k (.d (.bool))],Q6⟩
theorem a1G:RK (a7x) :=
 okR [eR a4T] 9 Y4 [.tmp 4] Go.Proofs.Tryz.func58 (by kernel_rfl)
def a9z:Hints I:=mkH [] [] [] [] [(26,⟨524080,[],[],[(8,.k (.d (.int .i64)))],[((.exit 0),[]),(.ret,[(4,.k (.d (.int .i64)))])],bnd tb (.slot 7) 1⟩)] [] [] []
def a8H:Row I:=⟨222,[.d (.sl 9),.d (.str)],[.k (.d (.int .i64))],a3I⟩
theorem a9m:RK (a8H) :=
 okR [] 19 a9z [.tmp 4] Go.Proofs.Tryz.func222 (by kernel_rfl)
def a7R:Row I:=⟨184,[.d (.sl 9),.d (.str)],[.k (.d (.bool))],a1i⟩
theorem a79:RK (a7R) :=
 okR [eR a9m] 9 Y4 [.tmp 4] Go.Proofs.Tryz.func184 (by kernel_rfl)
def c5x (_:Nat):Hints I:=mkH [(6,[[],[],[],[],[2,3],[2,3,4],[0,1,2,3,4,5],[0,1,2,3,4,5,6]])] [] [] [] [(58,⟨1073676736,[],[],[(16,.k (.d (.int .i64)))],[((.exit 0),[]),(.ret,[(6,.k (.d (.bool)))])],bnd tb (.slot 15) 1⟩)] [] [] []
def a2B (n:Nat):Row I:=⟨179,[.d (.sl 33),.d (.dat 27),.d (.sl 3)],[.k (.d (.bool))],a5n n⟩
def b6E (_:Nat):Hints I:=mkH [(2,[[],[0],[],[],[3],[],[3,4,5],[0,1,2,3,4,5,6],[0,1,2,3,4,5,6,7],[0,1,2,3,4,5,6,7,8],[0,1,2,3,4,5,6,7,8,9],[0,1,2,3,4,5,6,7,8,9,10],[0,1,2,3,4,5,6,7,8,9,10,11],[0,1,2,3,4,5,6,7,8,9,10,11,12],[0,1,2,3,4,5,6,7,8,9,10,11,12,13],[0,1,2,3,4,5,6,7,8,9,10,11,12,13,14],[0,1,2,3,4,5,6,7,8,9,10,11,12,13],[0,1,2,3,4,5,6,7,8,9,10,11,12,13],[0,1,2,3,4,5,6,7,8,9,10,11,12,13,17],[0,1,2,3,4,5,6,7,8,9,10,11,12,13],[0,1,2,3,4,5,6,7,8,9,10,11,12,13,17,18,19],[0,1,2,3,4,5,6,7,8,9,10,11,12,13,17,18,19,20],[0,1,2,3,4,5,6,7,8,9,10,11,12,13,14,15,16,17,18,19,20,21],[0,1,2,3,4,5,6,7,8,9,10,11,12,13,14,15,16,17,18,19,20,21,22],[0,1,2,3,4,5,6,7,8,9,10,11,12,13,14,15,16,17,18,19,20,21,22,23],[0,1,2,3,4,5,6,7,8,9,10,11,12,13,14,15,16,17,18,19,20,21,22,23,24]])] [] [] [] [] [] [] []
def W0 (n:Nat):Row I:=⟨221,[.d (.dat 138),.d (.dat 27),.d (.dat 77)],[.k (.d (.bool))],W6 n⟩
def b7D (_:Nat):Hints I:=mkH [] [] [] [] [(58,⟨536346944,[],[],[(19,.k (.d (.int .i64)))],[((.exit 0),[]),(.ret,[(6,.k (.d (.bool)))])],bnd tb (.slot 18) 1⟩)] [] [] []
def W9 (n:Nat):Row I:=⟨181,[.d (.dat 33),.d (.dat 27),.d (.dat 77)],[.k (.d (.bool))],a0h n⟩
def c5t (_:Nat):Hints I:=mkH [(17,[[],[0],[],[2],[2,3],[0,1,2,3,4],[0,1,2,3,4,5]]),(31,[[],[],[],[2],[2,3],[2,3,4],[0,1,2,3,4,5],[0,1,2,3,4,5,6],[0,1,2,3,4,5,6,7]])] [] [] [(60413,⟨144115188075855872000,[],[],[(.normal,[(60,.k (.d (.bool)))])]⟩)] [] [] [] []
def a1V (n:Nat):Row I:=⟨142,[.d (.dat 33),.d (.dat 27),.d (.int .i64)],[.k (.d (.bool))],X6 n⟩
def a1q (n:Nat):Row I:=⟨182,[.d (.int .i64),.var 33 (.k (.d (.dat 33))) false,.var 27 (.k (.d (.dat 27))) false],[.k (.d (.bool))],a3d n⟩
def a1r (n:Nat):Row I:=⟨183,[.d (.int .i64),.var 33 (.k (.d (.dat 33))) false,.var 27 (.k (.d (.dat 27))) false],[.k (.d (.bool))],a3f n⟩
def c2s (_:Nat):Hints I:=mkH [(10,[[],[0],[],[0,1,2],[0,1,2,3],[],[],[],[6,7],[0,1,2,3,4,5,6,7,8],[0,1,2,3,4,5,6,7,8,9]])] [] [] [] [(26,⟨1073725760,[],[],[(14,.k (.d (.int .i64)))],[((.exit 0),[]),(.ret,[(6,.k (.d (.bool)))])],bnd tb (.slot 13) 1⟩),
 (58,⟨1125891316909632,[],[],[(33,.k (.d (.int .i64)))],[((.exit 2),[]),(.ret,[(6,.k (.d (.bool)))])],bnd tb (.slot 32) 1⟩)] [] [] []
def a06 (n:Nat):Row I:=⟨180,[.d (.dat 33),.d (.dat 27),.d (.dat 77)],[.k (.d (.bool))],a2q n⟩
theorem c29 (n:Nat)(_:j6 Go.Proofs.Tryz.prog (a2B n))(_:j6 Go.Proofs.Tryz.prog (W0 n))(_:j6 Go.Proofs.Tryz.prog (W9 n))(h_core_Has:j6 Go.Proofs.Tryz.prog (a1V n))(_:j6 Go.Proofs.Tryz.prog (a1q n))(_:j6 Go.Proofs.Tryz.prog (a1r n))(_:j6 Go.Proofs.Tryz.prog (a06 n)):RK (a2B (n+1)) :=
 okR [eR h_core_Has] 30 (c5x n) [.tmp 6] Go.Proofs.Tryz.func179 (by kernel_rfl)
theorem b4J (n:Nat)(h_core_all:j6 Go.Proofs.Tryz.prog (a2B n))(_:j6 Go.Proofs.Tryz.prog (W0 n))(_:j6 Go.Proofs.Tryz.prog (W9 n))(h_core_Has:j6 Go.Proofs.Tryz.prog (a1V n))(_:j6 Go.Proofs.Tryz.prog (a1q n))(_:j6 Go.Proofs.Tryz.prog (a1r n))(_:j6 Go.Proofs.Tryz.prog (a06 n)):RK (W0 (n+1)) :=
 okR [eR h_core_all,eR h_core_Has] 37 (b6E n) [.tmp 6] Go.Proofs.Tryz.func221 (by kernel_rfl)
theorem b5V (n:Nat)(_:j6 Go.Proofs.Tryz.prog (a2B n))(h_core_EntryAllowed:j6 Go.Proofs.Tryz.prog (W0 n))(_:j6 Go.Proofs.Tryz.prog (W9 n))(_:j6 Go.Proofs.Tryz.prog (a1V n))(_:j6 Go.Proofs.Tryz.prog (a1q n))(_:j6 Go.Proofs.Tryz.prog (a1r n))(_:j6 Go.Proofs.Tryz.prog (a06 n)):RK (W9 (n+1)) :=
 okR [eR h_core_EntryAllowed] 29 (b7D n) [.tmp 6] Go.Proofs.Tryz.func181 (by kernel_rfl)
theorem c32 (n:Nat)(h_core_all:j6 Go.Proofs.Tryz.prog (a2B n))(_:j6 Go.Proofs.Tryz.prog (W0 n))(h_core_functionHas:j6 Go.Proofs.Tryz.prog (W9 n))(h_core_Has:j6 Go.Proofs.Tryz.prog (a1V n))(h_core_Has_1:j6 Go.Proofs.Tryz.prog (a1q n))(h_core_Has_2:j6 Go.Proofs.Tryz.prog (a1r n))(h_core_mapHas:j6 Go.Proofs.Tryz.prog (a06 n)):RK (a1V (n+1)) :=
 okR [eR c08,eR h_core_all,eR h_core_mapHas,eR h_core_functionHas,eR a09,eR h_core_Has_1,eR h_core_Has_2,eR h_core_Has,eR a79] 151 (c5t n) [.tmp 6] Go.Proofs.Tryz.func142 (by kernel_rfl)
theorem c1c (n:Nat)(_:j6 Go.Proofs.Tryz.prog (a2B n))(_:j6 Go.Proofs.Tryz.prog (W0 n))(_:j6 Go.Proofs.Tryz.prog (W9 n))(h_core_Has:j6 Go.Proofs.Tryz.prog (a1V n))(_:j6 Go.Proofs.Tryz.prog (a1q n))(_:j6 Go.Proofs.Tryz.prog (a1r n))(_:j6 Go.Proofs.Tryz.prog (a06 n)):RK (a1q (n+1)) :=
 okR [eR h_core_Has] 9 Y4 [.tmp 4] Go.Proofs.Tryz.func182 (by kernel_rfl)
theorem c07 (n:Nat)(_:j6 Go.Proofs.Tryz.prog (a2B n))(_:j6 Go.Proofs.Tryz.prog (W0 n))(_:j6 Go.Proofs.Tryz.prog (W9 n))(h_core_Has:j6 Go.Proofs.Tryz.prog (a1V n))(_:j6 Go.Proofs.Tryz.prog (a1q n))(_:j6 Go.Proofs.Tryz.prog (a1r n))(_:j6 Go.Proofs.Tryz.prog (a06 n)):RK (a1r (n+1)) :=
 okR [eR h_core_Has] 10 Y4 [.tmp 4] Go.Proofs.Tryz.func183 (by kernel_rfl)
theorem c0h (n:Nat)(_:j6 Go.Proofs.Tryz.prog (a2B n))(_:j6 Go.Proofs.Tryz.prog (W0 n))(_:j6 Go.Proofs.Tryz.prog (W9 n))(h_core_Has:j6 Go.Proofs.Tryz.prog (a1V n))(_:j6 Go.Proofs.Tryz.prog (a1q n))(_:j6 Go.Proofs.Tryz.prog (a1r n))(_:j6 Go.Proofs.Tryz.prog (a06 n)):RK (a06 (n+1)) :=
 okR [eR a1G,eR b51,eR h_core_Has] 50 (c2s n) [.tmp 6] Go.Proofs.Tryz.func180 (by kernel_rfl)
theorem b3i:∀ n:Nat,j6 Go.Proofs.Tryz.prog (a2B n)/\j6 Go.Proofs.Tryz.prog (W0 n)/\j6 Go.Proofs.Tryz.prog (W9 n)/\j6 Go.Proofs.Tryz.prog (a1V n)/\j6 Go.Proofs.Tryz.prog (a1q n)/\j6 Go.Proofs.Tryz.prog (a1r n)/\j6 Go.Proofs.Tryz.prog (a06 n)
 | 0=>⟨Q1 (by kernel_rfl),Q1 (by kernel_rfl),Q1 (by kernel_rfl),Q1 (by kernel_rfl),Q1 (by kernel_rfl),Q1 (by kernel_rfl),Q1 (by kernel_rfl)⟩
 | n+1=>by
   obtain ⟨h0,h1,h2,h3,h4,h5,h6⟩:=b3i n
   exact ⟨c29 n h0 h1 h2 h3 h4 h5 h6,b4J n h0 h1 h2 h3 h4 h5 h6,b5V n h0 h1 h2 h3 h4 h5 h6,c32 n h0 h1 h2 h3 h4 h5 h6,c1c n h0 h1 h2 h3 h4 h5 h6,c07 n h0 h1 h2 h3 h4 h5 h6,c0h n h0 h1 h2 h3 h4 h5 h6⟩
theorem b85 (n:Nat):j6 Go.Proofs.Tryz.prog (a1V n):=(b3i n).2.2.2.1
def b8T (n:Nat):Row I:=⟨141,[.d (.int .i64),.var 33 (.k (.d (.dat 33))) false,.var 27 (.k (.d (.dat 27))) false],[.k (.d (.bool))],b0B n⟩
theorem b9k (n:Nat):RK (b8T n) :=
 okR [eR (b85 n)] 10 Y4 [.tmp 4] Go.Proofs.Tryz.func141 (by kernel_rfl)
def b8S (n:Nat):Row I:=⟨143,[.d (.int .i64),.var 33 (.k (.d (.dat 33))) false,.var 27 (.k (.d (.dat 27))) false],[.k (.d (.bool))],b0W n⟩
theorem b9O (n:Nat):RK (b8S n) :=
 okR [eR (b85 n)] 9 Y4 [.tmp 4] Go.Proofs.Tryz.func143 (by kernel_rfl)
def b9Z (n:Nat):Row I:=⟨78,[.d (.dat 33),.d (.dat 27),.d (.sl 3),.d (.sl 3)],[.k (.d (.bool))],b3X n⟩
theorem c1d (n:Nat):RK (b9Z n) :=
 okR [eR a09,eR (b9k n),eR (b9O n)] 19 Y4 [.tmp 8] Go.Proofs.Tryz.func78 (by kernel_rfl)
def b9n (n:Nat):Row I:=⟨38,[.d (.dat 33),.d (.dat 27),.d (.dat 56)],[.k (.d (.bool))],a2A n⟩
theorem a8T (n:Nat):RK (b9n n) :=
 okR [eR (b03 n),eR (a5r n),eR b4K,eR (c1d n)] 40 Y4 [.tmp 6] Go.Proofs.Tryz.func38 (by kernel_rfl)
def b9L (_:Nat):Hints I:=mkH [(6,[[],[0],[0,1],[0,1,2],[0,1,2,3],[0,1,2],[0,1,2,3,4,5],[0,1,2,3,4,5,6],[0,1,2],[0,1,2],[0,1,2,3,4,5,6,7,8,9],[0,1,2,3,4,5,6,7,8,9,10],[0,1,2,3,4,5,6,7,8,9,10,11]]),(8,[[],[0],[0,1],[0,1,2],[0,1,2,3],[0,1,2],[0,1,2,3,4,5],[0,1,2,3,4,5,6],[0,1,2],[0,1,2],[0,1,2,3,4,5,6,7,8,9],[0,1,2,3,4,5,6,7,8,9,10],[0,1,2,3,4,5,6,7,8,9,10,11]])] [] [] [] [] [] [] []
def b7F (n:Nat):Row I:=⟨57,[.d (.dat 33),.d (.dat 27),.d (.dat 83),.d (.int .i64),.d (.dat 56)],[.k (.d (.bool))],a7l n⟩
theorem b8Z (n:Nat):RK (b7F n) :=
 okR [eR a4T,eR (a8T n)] 49 (b9L n) [.tmp 10] Go.Proofs.Tryz.func57 (by kernel_rfl)
def b9U (_:Nat):Hints I:=mkH [(4,[[],[0],[],[2],[0,1,2,3],[0,1,2,3,4],[0,1,2,3,4,5],[0,1,2,3,4,5],[0,1,2,3,4,5,6,7],[0,1,2,3,4,5,6,7,8],[0,1,2,3,4,5,6,7,8,9],[0,1,2,3,4,5,6,7,8,9,10],[0,1,2,3,4,5,6,7,8,9,10,11],[0,1,2,3,4,5,6,7,8,9,10,11,12],[0,1,2,3,4,5,6,7,8,9,10,11],[0,1,2,3,4,5,6,7,8,9,10,11,12,13,14],[0,1,2,3,4,5,6,7,8,9,10,11,12,13,14,15],[0,1,2,3,4,5,6,7,8,9,10,11],[0,1,2,3,4,5,6,7,8,9,10,11],[0,1,2,3,4,5,6,7,8,9,10,11,18],[0,1,2,3,4,5,6,7,8,9,10,11,12,13,14,15,16,17,18,19],[0,1,2,3,4,5,6,7,8,9,10,11,12,13,14,15,16,17,18,19,20]])] [] [] [] [(26,⟨4398046496512,[],[],[(14,.k (.d (.int .i64)))],[((.exit 0),[]),(.ret,[(8,.k (.d (.bool)))])],bnd tb (.slot 13) 1⟩)] [] [] []
def b7N (n:Nat):Row I:=⟨59,[.d (.dat 33),.d (.dat 27),.d (.sl 83),.d (.dat 85)],[.k (.d (.bool))],a7k n⟩
theorem b8O (n:Nat):RK (b7N n) :=
 okR [eR a1G,eR (a8T n)] 42 (b9U n) [.tmp 8] Go.Proofs.Tryz.func59 (by kernel_rfl)
def b9i (_:Nat):Hints I:=mkH [(12,[[],[],[],[],[3],[],[3,4,5],[3,4,5,6],[],[8],[],[8,9,10],[8,9,10,11],[0,1,2,3,4,5,6,7,8,9,10,11,12],[0,1,2,3,4,5,6,7,8,9,10,11,12,13]]),(18,[[],[0],[],[0,1,2],[0,1,2,3],[0,1,2,3,4],[0,1,2,3,4,5],[0,1,2,3,4,5,6],[0,1,2,3,4,5],[0,1,2,3,4,5,6,7,8],[0,1,2,3,4,5,6,7,8,9],[0,1,2,3,4,5],[0,1,2,3,4,5],[0,1,2,3,4,5,12],[0,1,2,3,4,5],[0,1,2,3,4,5,12,13,14],[0,1,2,3,4,5,12,13,14,15],[0,1,2,3,4,5,6,7,8,9,10,11,12,13,14,15,16],[0,1,2,3,4,5,6,7,8,9,10,11,12,13,14,15,16,17],[0,1,2,3,4,5,6,7,8,9,10,11,12,13,14,15,16,17,18]])] [] [] [] [(58,⟨35115652612416,[34],[],[(36,.k (.d (.int .i64)))],[((.exit 0),[]),(.ret,[(6,.k (.d (.bool)))])],bnd tb (.slot 35) 1⟩),
 (122,⟨590295528883728942656,[],[],[(48,.k (.d (.int .i64)))],[((.exit 2),[]),(.ret,[(6,.k (.d (.bool)))])],bnd tb (.slot 47) 1⟩),
 (250,⟨316912645334690867504530593856,[],[],[(72,.k (.d (.int .i64)))],[((.exit 4),[]),(.ret,[(6,.k (.d (.bool)))])],bnd tb (.slot 71) 1⟩),
 (506,⟨10382058415869198798257999252045888,[],[],[(101,.k (.d (.int .i64)))],[((.exit 6),[]),(.ret,[(6,.k (.d (.bool)))])],bnd tb (.slot 100) 1⟩)] [] [] []
def b70 (n:Nat):Row I:=⟨24,[.d (.dat 33),.d (.dat 27),.d (.dat 71)],[.k (.d (.bool))],a2i n⟩
theorem b02 (n:Nat):RK (b70 n) :=
 okR [eR (b03 n),eR (a5r n),eR b8U,eR c0i,eR b4K,eR (b8Z n),eR a1G,eR (a8T n),eR (b8O n)] 113 (b9i n) [.tmp 6] Go.Proofs.Tryz.func24 (by kernel_rfl)
def b59 (_:Nat):Hints I:=mkH [(8,[[],[0],[0,1],[0,1],[0,1],[0,1],[0,1,4,5],[0,1,4,5,6],[0,1,2,3,4,5,6,7],[0,1,2,3,4,5,6,7,8],[0,1,2,3,4,5,6,7,8,9]])] [] [] [] [(506,⟨17591917609152,[2],[],[(6,.k (.d (.bool))),(7,.k (.d (.int .i64)))],[((.exit 0),[(6,.k (.d (.bool)))])],bnd tb (.len (.slot 2)) 1⟩)] [] [] []
noncomputable def b3Q (n:Nat):Row I:=⟨18,[],[.k (.d (.bool))],a1p n⟩
theorem b4v (n:Nat):RK (b3Q n) :=
 okR [eR (b2y n),eR a2a,eR a64,eR (b02 n)] 53 (b59 n) [.tmp 0] Go.Proofs.Tryz.func18 (by kernel_rfl)
def b1t:Hints I:=mkH [(1,[[],[0],[0,1],[0,1,2],[0,1,2,3],[0,1,2,3,4],[0,1,2,3,4,5],[0,1,2],[0,1,2,7],[0,1,2,7,8],[0,1,2,7,8,9],[0,1,2,7,8,9,10],[0,1,2,3,4,5,6,7,8,9,10,11],[0,1,2,3,4,5,6,7,8,9,10,11,12]]),(3,[[],[0],[0,1],[0,1,2],[],[4],[4,5],[4,5,6],[0,1,2,3,4,5,6,7],[0,1,2,3,4,5,6,7,8],[],[0,1,2,3,4,5,6,7,8,9,10],[0,1,2,3,4,5,6,7,8,9,10,11]])] [] [] [] [] [] [] []
def b0l:Row I:=⟨22,[.var 44 (.k (.d (.dat 44))) true,.d (.int .i64)],[.k (.d (.int .i64))],z8⟩
theorem w8:RK (b0l) :=
 okR [] 46 b1t [.tmp 4] Go.Proofs.Tryz.func22 (by kernel_rfl)
def a8B:Row I:=⟨99,[.var 44 (.k (.d (.dat 44))) true],[.k (.d (.str))],V2⟩
theorem a1d:RK (a8B) :=
 okR [eR w8] 8 Y4 [.tmp 2] Go.Proofs.Tryz.func99 (by kernel_rfl)
def b0p:Row I:=⟨97,[.var 44 (.k (.d (.dat 44))) true],[.k (.d (.str))],a0b⟩
theorem a14:RK (b0p) :=
 okR [eR w8] 8 Y4 [.tmp 2] Go.Proofs.Tryz.func97 (by kernel_rfl)
def a9x:Row I:=⟨130,[.var 44 (.k (.d (.dat 44))) true],[.k (.d (.str))],a0x⟩
theorem a5W:RK (a9x) :=
 okR [eR w8] 8 Y4 [.tmp 2] Go.Proofs.Tryz.func130 (by kernel_rfl)
def a9K:Hints I:=mkH [] [] [] [] [(28,⟨16776706,[],[(0,.k (.d (.dat 44)))],[(1,.k (.d (.int .i64))),(9,.k (.row 3 false))],[((.exit 0),[(9,.k (.row 3 false))])],bnd tb (.slot 1) 2⟩)] [] [] []
def a84:Row I:=⟨131,[.var 44 (.k (.d (.dat 44))) true,.d (.int .i64),.d (.int .i64),.d (.int .i64)],[.k (.row 3 false)],w3⟩
theorem a9f:RK (a84) :=
 okR [eR w8] 25 a9K [.tmp 8] Go.Proofs.Tryz.func131 (by kernel_rfl)
def a9v:Hints I:=mkH [(7,[[],[0],[],[],[2,3],[2,3,4],[],[],[6,7],[],[6,7,8,9],[6,7,8,9,10],[2,3,4,5,6,7,8,9,10,11],[2,3,4,5,6,7,8,9,10,11,12],[0,1,2,3,4,5,6,7,8,9,10,11,12,13],[0,1,2,3,4,5,6,7,8,9,10,11,12,13,14],[0,1,2,3,4,5,6,7,8,9,10,11,12,13,14,15]])] [] [] [(978,⟨8796076244992,[],[(0,.k (.d (.dat 44))),(5,.lvs [.d (.int .i64),.d (.int .i64),.d (.int .i64),.d (.str),.row 3 false,.row 101 false,.d (.int .i64),.d (.int .i64)])],[(.normal,[])]⟩)] [(122,⟨8796091973760,[6],[(0,.k (.d (.dat 44))),(5,.lvs [.d (.int .i64),.d (.int .i64),.d (.int .i64),.d (.str),.row 3 false,.row 101 false,.d (.int .i64),.d (.int .i64)])],[(7,.k (.d (.int .i64)))],[((.exit 0),[])],bnd tb (.cst 3) 1⟩)] [] [] []
def a8O:Row I:=⟨132,[.var 44 (.k (.d (.dat 44))) true,.d (.int .i64)],[.k (.d (.dat 77))],a16⟩
theorem a9h:RK (a8O) :=
 okR [eR w8] 44 a9v [.cell 4 77] Go.Proofs.Tryz.func132 (by kernel_rfl)
def b1f:Hints I:=mkH [(8,[[],[],[0,1],[0,1,2],[],[],[],[],[7],[6,7,8],[5,6,7,8,9],[4,5,6,7,8,9,10],[4,5,6,7,8,9,10,11],[0,1,2,3,4,5,6,7,8,9,10,11,12],[0,1,2,3,4,5,6,7,8,9,10,11,12,13]])] [] [] [(29,⟨128,[],[],[(.normal,[(7,.k (.d (.int .i64)))])]⟩),
 (32243709,⟨47223664828696452136960,[],[],[(.normal,[(73,.k (.d (.bool)))])]⟩),
 (2063597565,⟨49517601571415210995964968960,[],[],[(.normal,[(93,.k (.d (.bool)))])]⟩)] [] [] [] []
def b0j:Row I:=⟨70,[.var 44 (.k (.d (.dat 44))) true,.d (.int .i64),.d (.int .i64)],[.k (.d (.dat 77))],a2N⟩
theorem b0O:RK (b0j) :=
 okR [eR w8,eR a1d,eR a14,eR a5W,eR a9f,eR a9h] 128 b1f [.cell 6 77] Go.Proofs.Tryz.func70 (by kernel_rfl)
def b1g:Hints I:=mkH [(6,[[],[0],[],[],[],[2,3,4],[2,3,4,5],[0,1,2,3,4,5,6],[0,1,2,3,4,5,6,7],[0,1,2,3,4,5,6,7,8]])] [] [] [] [(122,⟨16776256,[],[(0,.k (.d (.dat 44))),(5,.lvs [.row 77 false,.d (.int .i64)])],[(6,.k (.d (.int .i64)))],[((.exit 0),[])],bnd tb (.slot 1) 1⟩)] [] [] []
def b0d:Row I:=⟨33,[.var 44 (.k (.d (.dat 44))) true,.d (.int .i64)],[.lvs [.row 77 false,.d (.int .i64)]],a2R⟩
theorem b0Q:RK (b0d) :=
 okR [eR b0O] 25 b1g [.cell 4 27] Go.Proofs.Tryz.func33 (by kernel_rfl)
def b6H:Hints I:=mkH [(14,[[],[0],[],[],[2,3],[2,3,4],[2,3,4,5],[],[],[7,8],[],[7,8,9,10],[7,8,9,10,11],[2,3,4,5,6,7,8,9,10,11,12],[2,3,4,5,6,7,8,9,10,11,12,13],[0,1,2,3,4,5,6,7,8,9,10,11,12,13,14],[0,1,2,3,4,5,6,7,8,9,10,11,12,13,14,15],[0,1,2,3,4,5,6,7,8,9,10,11,12,13,14,15,16]]),(21,[[],[],[0],[0,1,2]])] [] [] [(8146,⟨19807040628566084381206147072,[],[(7,.lvs [.row 77 false,.d (.int .i64)]),(8,.k (.d (.dat 44))),(9,.lvs [.d (.int .i64),.d (.int .i64),.row 277 false,.d (.bool),.row 9 false,.row 3 false,.row 3 false,.row 9 false,.row 9 false])],[(.normal,[])]⟩),
 (1042749,⟨19267255250108152471879680,[],[(9,.lvs [.d (.int .i64),.d (.int .i64),.row 277 false,.d (.bool),.row 9 false,.row 3 false,.row 3 false,.row 9 false,.row 9 false])],[(.normal,[])]⟩),
 (2085458,⟨73786905926094028800,[],[(8,.k (.d (.dat 44))),(12,.lvs [.d (.int .i64),.d (.int .i64),.d (.int .i64),.d (.str),.row 3 false,.row 101 false,.d (.int .i64),.d (.int .i64)])],[(.normal,[])]⟩)] [(1018,⟨19807040628566084397312276480,[],[(7,.lvs [.row 77 false,.d (.int .i64)]),(8,.k (.d (.dat 44))),(9,.lvs [.d (.int .i64),.d (.int .i64),.row 277 false,.d (.bool),.row 9 false,.row 3 false,.row 3 false,.row 9 false,.row 9 false])],[(11,.k (.d (.int .i64)))],[((.exit 0),[])],bnd tb (.cst 3) 1⟩),
 (260682,⟨73786971896791703552,[],[(8,.k (.d (.dat 44))),(12,.lvs [.d (.int .i64),.d (.int .i64),.d (.int .i64),.d (.str),.row 3 false,.row 101 false,.d (.int .i64),.d (.int .i64)])],[(13,.k (.d (.int .i64)))],[((.exit 2),[])],bnd tb (.cst 2) 1⟩)] [] [] []
def b5a:Row I:=⟨19,[.d (.sl 3),.d (.sl 3)],[.k (.d (.dat 27)),.k (.d (.dat 40))],a5y⟩
theorem b6f:RK (b5a) :=
 okR [eR w8,eR b0Q] 96 b6H [.cell 4 27,.cell 5 40] Go.Proofs.Tryz.func19 (by kernel_rfl)
def a9e:Row I:=⟨106,[.var 44 (.k (.d (.dat 44))) true],[.k (.d (.int .i64))],a2o⟩
theorem a9L:RK (a9e) :=
 okR [eR w8] 8 Y4 [.tmp 2] Go.Proofs.Tryz.func106 (by kernel_rfl)
def b6T:Row I:=⟨95,[.d (.int .i64)],[.k (.d (.dat 33))],a8R⟩
theorem b0x:RK (b6T) :=
 okR [] 5 Y4 [.cell 2 33] Go.Proofs.Tryz.func95 (by kernel_rfl)
def b5C:Row I:=⟨98,[.d (.str)],[.k (.d (.dat 33))],a5Z⟩
theorem a9o:RK (b5C) :=
 okR [] 5 Y4 [.cell 2 33] Go.Proofs.Tryz.func98 (by kernel_rfl)
def b36:Row I:=⟨96,[.d (.str)],[.k (.d (.dat 33))],a5j⟩
theorem a8m:RK (b36) :=
 okR [] 5 Y4 [.cell 2 33] Go.Proofs.Tryz.func96 (by kernel_rfl)
def b6B:Row I:=⟨100,[.d (.int .i64)],[.k (.d (.dat 33))],a8G⟩
theorem b0a:RK (b6B) :=
 okR [] 5 Y4 [.cell 2 33] Go.Proofs.Tryz.func100 (by kernel_rfl)
def b4C:Row I:=⟨107,[.d (.sl 33)],[.k (.d (.dat 33))],a3T⟩
theorem a8J:RK (b4C) :=
 okR [eR a8r] 6 Y4 [.cell 2 33] Go.Proofs.Tryz.func107 (by kernel_rfl)
def b0s:Row I:=⟨49,[.var 44 (.k (.d (.dat 44))) true],[.k (.d (.dat 33))],K6⟩
theorem a3L:RK (b0s) :=
 okR [eR w8,eR a9L,eR b0x,eR a1d,eR a9o,eR a14,eR a8m,eR b0a,eR a2a,eR a8J] 29 Y4 [.cell 2 33] Go.Proofs.Tryz.func49 (by kernel_rfl)
def b4M:Row I:=⟨127,[.d (.int .i64),.d (.int .i64)],[.k (.d (.int .i64))],a0p⟩
theorem a8E:RK (b4M) :=
 okR [eR a6o] 8 Y4 [.tmp 4] Go.Proofs.Tryz.func127 (by kernel_rfl)
def b43 (_:Nat):Hints I:=mkH [(12,[[],[0],[],[0,1,2],[0,1,2,3],[],[5],[],[5,6,7],[5,6,7,8],[0,1,2,3,4,5,6,7,8,9],[0,1,2,3,4,5,6,7,8,9,10]]),(23,[[],[0],[],[0,1,2],[0,1,2,3],[],[5],[],[5,6,7],[5,6,7,8],[0,1,2,3,4,5,6,7,8,9],[0,1,2,3,4,5,6,7,8,9,10]]),(31,[[],[0],[],[0,1,2],[0,1,2,3],[],[5],[],[5,6,7],[5,6,7,8],[0,1,2,3,4,5,6,7,8,9],[0,1,2,3,4,5,6,7,8,9,10]])] [] [] [] [(506,⟨151115655394234608910448,[],[],[(5,.k (.d (.int .i64)))],[((.exit 0),[]),(.ret,[(4,.k (.d (.int .i64)))])],bnd tb (.len (.ld 29 (.fld 33 4 (.slot 2)))) 1⟩),
 (8186,⟨1329227361959615758789106311928742672,[],[],[(8,.k (.d (.int .i64)))],[((.exit 2),[]),(.ret,[(4,.k (.d (.int .i64)))])],bnd tb (.len (.ld 30 (.fld 33 5 (.slot 2)))) 1⟩),
 (32762,⟨45671904388519233253803489366408968731082361872,[],[],[(10,.k (.d (.int .i64)))],[((.exit 4),[]),(.ret,[(4,.k (.d (.int .i64)))])],bnd tb (.len (.ld 31 (.fld 33 6 (.slot 2)))) 1⟩)] [] [] []
def a0L (n:Nat):Row I:=⟨68,[.d (.dat 33),.d (.dat 33)],[.k (.d (.int .i64))],a0m n⟩
def b5Y (_:Nat):Hints I:=mkH [(6,[[],[],[0,1],[0,1,2],[],[],[4,5],[4,5,6],[0,1,2,3,4,5,6,7],[0,1,2,3,4,5,6,7,8]])] [] [] [] [(58,⟨34359607408,[],[],[(5,.k (.d (.int .i64)))],[((.exit 0),[]),(.ret,[(4,.k (.d (.int .i64)))])],bnd tb (.len (.slot 0)) 1⟩)] [] [] []
def a13 (n:Nat):Row I:=⟨128,[.d (.sl 33),.d (.sl 33)],[.k (.d (.int .i64))],a3p n⟩
def V8 (n:Nat):Row I:=⟨129,[.d (.dat 138),.d (.dat 138)],[.k (.d (.int .i64))],Z8 n⟩
theorem b2F (n:Nat)(_:j6 Go.Proofs.Tryz.prog (a0L n))(h_semtyperef1_values:j6 Go.Proofs.Tryz.prog (a13 n))(h_semtyperef1_CompareEntries:j6 Go.Proofs.Tryz.prog (V8 n)):RK (a0L (n+1)) :=
 okR [eR a8E,eR a6o,eR a9n,eR a0S,eR h_semtyperef1_values,eR h_semtyperef1_CompareEntries] 155 (b43 n) [.tmp 4] Go.Proofs.Tryz.func68 (by kernel_rfl)
theorem b3M (n:Nat)(h_semtyperef1_Compare:j6 Go.Proofs.Tryz.prog (a0L n))(_:j6 Go.Proofs.Tryz.prog (a13 n))(_:j6 Go.Proofs.Tryz.prog (V8 n)):RK (a13 (n+1)) :=
 okR [eR a8E,eR h_semtyperef1_Compare] 35 (b5Y n) [.tmp 4] Go.Proofs.Tryz.func128 (by kernel_rfl)
theorem a8I (n:Nat)(h_semtyperef1_Compare:j6 Go.Proofs.Tryz.prog (a0L n))(h_semtyperef1_values:j6 Go.Proofs.Tryz.prog (a13 n))(_:j6 Go.Proofs.Tryz.prog (V8 n)):RK (V8 (n+1)) :=
 okR [eR h_semtyperef1_values,eR h_semtyperef1_Compare] 26 Y4 [.tmp 4] Go.Proofs.Tryz.func129 (by kernel_rfl)
theorem a3F:∀ n:Nat,j6 Go.Proofs.Tryz.prog (a0L n)/\j6 Go.Proofs.Tryz.prog (a13 n)/\j6 Go.Proofs.Tryz.prog (V8 n)
 | 0=>⟨Q1 (by kernel_rfl),Q1 (by kernel_rfl),Q1 (by kernel_rfl)⟩
 | n+1=>by
   obtain ⟨h0,h1,h2⟩:=a3F n
   exact ⟨b2F n h0 h1 h2,b3M n h0 h1 h2,a8I n h0 h1 h2⟩
theorem b4l (n:Nat):j6 Go.Proofs.Tryz.prog (a0L n):=(a3F n).1
theorem a5t (n:Nat):j6 Go.Proofs.Tryz.prog (V8 n):=(a3F n).2.2
def b4D (n:Nat):Row I:=⟨30,[.d (.dat 33),.d (.dat 33)],[.k (.d (.bool))],a3Z n⟩
theorem a9a (n:Nat):RK (b4D n) :=
 okR [eR (b4l n)] 9 Y4 [.tmp 4] Go.Proofs.Tryz.func30 (by kernel_rfl)
def b4p (_:Nat):Hints I:=mkH [(6,[[],[],[1],[0,1,2],[0,1,2,3],[0,1,2,3,4],[0,1,2,3,4],[0,1,2,3,4,5,6],[0,1,2,3,4,5,6,7],[0,1,2,3,4],[0,1,2,3,4],[0,1,2,3,4,9,10],[0,1,2,3,4,9,10,11],[0,1,2,3,4,5,6,7,8,9,10,11,12],[0,1,2,3,4,5,6,7,8,9,10,11,12,13],[0,1,2,3,4,5,6,7,8,9,10,11,12,13,14]]),(8,[[],[],[1],[0,1,2],[0,1,2,3],[0,1,2,3,4],[0,1,2,3,4],[0,1,2,3,4,5,6],[0,1,2,3,4,5,6,7],[0,1,2,3,4],[0,1,2,3,4],[0,1,2,3,4,9,10],[0,1,2,3,4,9,10,11],[0,1,2,3,4,5,6,7,8,9,10,11,12],[0,1,2,3,4,5,6,7,8,9,10,11,12,13],[0,1,2,3,4,5,6,7,8,9,10,11,12,13,14]]),(10,[[],[],[],[1,2],[1,2,3],[1,2,3,4],[0,1,2,3,4,5],[],[],[7,8],[0,1,2,3,4,5,6,7,8,9],[0,1,2,3,4,5,6,7,8,9,10]])] [] [] [(466,⟨4611686018427379816,[],[],[(.normal,[(3,.k (.d (.sl 138)))])]⟩)] [(58,⟨4611686018427387896,[],[],[(3,.k (.d (.sl 138))),(4,.k (.d (.int .i64)))],[((.exit 0),[(3,.k (.d (.sl 138)))])],bnd tb (.len (.slot 0)) 1⟩),
 (7460,⟨2147475488,[3],[],[(5,.k (.d (.int .i64)))],[((.exit 2),[(5,.k (.d (.int .i64)))])],bnd tb (.len (.slot 3)) 1⟩)] [] [] []
def b2J (n:Nat):Row I:=⟨203,[.bor 138],[.k (.d (.sl 138))],a4K n⟩
theorem b3p (n:Nat):RK (b2J n) :=
 okR [eR (a5t n)] 63 (b4p n) [.tmp 2] Go.Proofs.Tryz.func203 (by kernel_rfl)
def b3z (_:Nat):Hints I:=mkH [] [] [] [] [(58,⟨70368744161376,[],[(4,.lvs [.d (.int .i64),.d (.int .i64),.d (.str),.row 33 false,.row 83 false,.row 138 false,.row 9 false])],[(6,.k (.d (.int .i64)))],[((.exit 0),[]),(.ret,[(5,.k (.d (.int .i64)))])],bnd tb (.len (.slot 1)) 1⟩)] [] [] []
def b1Q (n:Nat):Row I:=⟨155,[.d (.int .i64),.bor 138],[.k (.d (.dat 33)),.k (.d (.int .i64))],a2w n⟩
theorem a7D (n:Nat):RK (b1Q n) :=
 okR [eR (a9a n),eR (b3p n)] 50 (b3z n) [.cell 4 33,.tmp 5] Go.Proofs.Tryz.func155 (by kernel_rfl)
def b5U:Hints I:=mkH [(6,[[],[],[1],[0,1,2],[0,1,2,3],[0,1,2,3,4],[0,1,2,3,4],[0,1,2,3,4,5,6],[0,1,2,3,4,5,6,7],[0,1,2,3,4],[0,1,2,3,4],[0,1,2,3,4,9,10],[0,1,2,3,4,9,10,11],[0,1,2,3,4,5,6,7,8,9,10,11,12],[0,1,2,3,4,5,6,7,8,9,10,11,12,13]]),(8,[[],[],[1],[0,1,2],[0,1,2,3],[0,1,2,3,4],[0,1,2,3,4],[0,1,2,3,4,5,6],[0,1,2,3,4,5,6,7],[0,1,2,3,4],[0,1,2,3,4],[0,1,2,3,4,9,10],[0,1,2,3,4,9,10,11],[0,1,2,3,4,5,6,7,8,9,10,11,12],[0,1,2,3,4,5,6,7,8,9,10,11,12,13]]),(10,[[],[],[],[1,2],[1,2,3],[1,2,3,4],[0,1,2,3,4,5],[],[],[7,8],[0,1,2,3,4,5,6,7,8,9],[0,1,2,3,4,5,6,7,8,9,10]])] [] [] [(466,⟨1152921504606838888,[],[],[(.normal,[(3,.k (.d (.sl 9)))])]⟩)] [(58,⟨1152921504606846968,[],[],[(3,.k (.d (.sl 9))),(4,.k (.d (.int .i64)))],[((.exit 0),[(3,.k (.d (.sl 9)))])],bnd tb (.len (.slot 0)) 1⟩),
 (7460,⟨1073733664,[3],[],[(5,.k (.d (.int .i64)))],[((.exit 2),[(5,.k (.d (.int .i64)))])],bnd tb (.len (.slot 3)) 1⟩)] [] [] []
def b4j:Row I:=⟨103,[.d (.sl 9)],[.k (.d (.sl 9))],a0d⟩
theorem a5T:RK (b4j) :=
 okR [] 61 b5U [.tmp 2] Go.Proofs.Tryz.func103 (by kernel_rfl)
def b0K:Row I:=⟨104,[.d (.dat 33),.d (.sl 9)],[.k (.d (.dat 33))],a5s⟩
theorem b1i:RK (b0K) :=
 okR [eR a5T] 9 Y4 [.cell 4 33] Go.Proofs.Tryz.func104 (by kernel_rfl)
def b5Q:Row I:=⟨204,[.d (.dat 33),.d (.dat 33)],[.k (.d (.dat 33))],a6a⟩
theorem b6x:RK (b5Q) :=
 okR [] 9 Y4 [.cell 4 33] Go.Proofs.Tryz.func204 (by kernel_rfl)
def b0e:Hints I:=mkH [] [] [] [(29,⟨1048456,[],[(0,.k (.d (.dat 44)))],[(.normal,[(3,.k (.row 9 false))])]⟩)] [] [] [] []
def a9i:Row I:=⟨157,[.var 44 (.k (.d (.dat 44))) true],[.k (.d (.sl 9))],a1a⟩
theorem a5K:RK (a9i) :=
 okR [eR w8,eR a5W,eR a5T] 22 b0e [.tmp 2] Go.Proofs.Tryz.func157 (by kernel_rfl)
def b0G:Row I:=⟨205,[.var 44 (.k (.d (.dat 44))) true],[.k (.d (.dat 83))],a3e⟩
theorem b1j:RK (b0G) :=
 okR [eR w8,eR a1d,eR a14] 12 Y4 [.cell 2 83] Go.Proofs.Tryz.func205 (by kernel_rfl)
def X3 (n:Nat):Row I:=⟨105,[.var 44 (.k (.d (.dat 44))) true,.d (.int .i64)],[.k (.d (.dat 33))],a2y n⟩
def b0L (_:Nat):Hints I:=mkH [(16,[[],[],[1],[0,1,2],[],[0,1,2,3,4],[0,1,2,3,4,5]])] [(13,[46])] [] [(29,⟨5316911983139663491615228241104863200,[],[(0,.k (.d (.dat 44))),(4,.lvs [.d (.int .i64),.d (.int .i64),.d (.str),.d (.sl 33),.d (.sl 83),.d (.sl 138),.d (.sl 9)])],[(.normal,[]),(.ret,[])]⟩),
 (7540,⟨2234207627640832,[],[(0,.k (.d (.dat 44)))],[(.normal,[(50,.k (.d (.bool)))])]⟩),
 (7541,⟨141863388262170624,[],[(0,.k (.d (.dat 44))),(7,.k (.d (.dat 33)))],[(.normal,[])]⟩)] [(3754,⟨549487378528,[],[(0,.k (.d (.dat 44)))],[(5,.k (.row 33 false)),(6,.k (.d (.int .i64)))],[((.exit 1),[(5,.k (.row 33 false))])],bnd tb (.slot 6) 2⟩),
 (120794,⟨77370071863715549769893632,[],[(0,.k (.d (.dat 44)))],[(8,.k (.row 83 false)),(9,.k (.row 33 false)),(10,.k (.d (.int .i64)))],[((.exit 3),[(8,.k (.row 83 false)),(9,.k (.row 33 false))])],bnd tb (.slot 10) 2⟩),
 (483290,⟨10382058415869198798257999252078592,[],[(0,.k (.d (.dat 44)))],[(14,.k (.row 138 false)),(15,.k (.d (.int .i64)))],[((.exit 5),[(14,.k (.row 138 false))])],bnd tb (.slot 15) 2⟩)] [] [] []
def a0z (n:Nat):Row I:=⟨156,[.var 44 (.k (.d (.dat 44))) true,.d (.int .i64)],[.k (.d (.dat 33))],b2p n⟩
def b0S (_:Nat):Hints I:=mkH [(4,[[],[0],[],[],[2,3],[2,3,4],[0,1,2,3,4,5],[0,1,2,3,4,5,6],[0,1,2,3,4,5,6,7]])] [] [] [] [(28,⟨1048322,[],[(0,.k (.d (.dat 44))),(7,.lvs [.row 33 false,.d (.bool),.d (.int .i64),.d (.int .i64),.d (.str),.row 33 false,.row 83 false,.row 138 false,.row 9 false])],[(1,.k (.d (.int .i64)))],[((.exit 0),[])],bnd tb (.slot 1) 2⟩)] [] [] []
def a0w (n:Nat):Row I:=⟨206,[.var 44 (.k (.d (.dat 44))) true,.d (.int .i64),.d (.int .i64)],[.k (.d (.dat 138))],b2B n⟩
theorem a9O (n:Nat)(_:j6 Go.Proofs.Tryz.prog (X3 n))(h_semtypebase_Source_value:j6 Go.Proofs.Tryz.prog (a0z n))(_:j6 Go.Proofs.Tryz.prog (a0w n)):RK (X3 (n+1)) :=
 okR [eR h_semtypebase_Source_value,eR a5K] 13 Y4 [.cell 4 33] Go.Proofs.Tryz.func105 (by kernel_rfl)
theorem a9Y (n:Nat)(h_semtypebase_Source_Value:j6 Go.Proofs.Tryz.prog (X3 n))(_:j6 Go.Proofs.Tryz.prog (a0z n))(h_semtypebase_Source_entry:j6 Go.Proofs.Tryz.prog (a0w n)):RK (a0z (n+1)) :=
 okR [eR a3L,eR w8,eR h_semtypebase_Source_Value,eR a8J,eR a2a,eR b6x,eR a5K,eR b1j,eR a64,eR h_semtypebase_Source_entry,eR (a7D n)] 124 (b0L n) [.cell 4 33] Go.Proofs.Tryz.func156 (by kernel_rfl)
theorem a9S (n:Nat)(h_semtypebase_Source_Value:j6 Go.Proofs.Tryz.prog (X3 n))(_:j6 Go.Proofs.Tryz.prog (a0z n))(_:j6 Go.Proofs.Tryz.prog (a0w n)):RK (a0w (n+1)) :=
 okR [eR h_semtypebase_Source_Value,eR w8] 30 (b0S n) [.cell 6 138] Go.Proofs.Tryz.func206 (by kernel_rfl)
theorem a4R:∀ n:Nat,j6 Go.Proofs.Tryz.prog (X3 n)/\j6 Go.Proofs.Tryz.prog (a0z n)/\j6 Go.Proofs.Tryz.prog (a0w n)
 | 0=>⟨Q1 (by kernel_rfl),Q1 (by kernel_rfl),Q1 (by kernel_rfl)⟩
 | n+1=>by
   obtain ⟨h0,h1,h2⟩:=a4R n
   exact ⟨a9O n h0 h1 h2,a9Y n h0 h1 h2,a9S n h0 h1 h2⟩
theorem b0h (n:Nat):j6 Go.Proofs.Tryz.prog (X3 n):=(a4R n).1
def b4P:Row I:=⟨185,[.d (.int .u8)],[.k (.d (.bool))],a3V⟩
theorem b58:RK (b4P) :=
 okR [] 9 Y4 [.tmp 2] Go.Proofs.Tryz.func185 (by kernel_rfl)
def b1L:Hints I:=mkH [] [] [] [] [(58,⟨562949953159180,[],[],[(3,.k (.d (.int .i64)))],[((.exit 0),[]),(.ret,[(2,.k (.d (.bool)))])],bnd tb (.len (.slot 0)) 1⟩)] [] [] []
def b0X:Row I:=⟨144,[.d (.str)],[.k (.d (.bool))],a1Q⟩
theorem a6M:RK (b0X) :=
 okR [eR b58,eR a8W,eR a8X] 49 b1L [.tmp 2] Go.Proofs.Tryz.func144 (by kernel_rfl)
def b7H (_:Nat):Hints I:=mkH [(4,[[],[0],[],[0,1,2],[0,1,2,3],[0,1,2,3,4],[0,1,2,3,4,5],[0,1,2,3,4,5,6],[0,1,2,3,4,5,6,7],[0,1,2,3,4,5,6,7,8],[0,1,2,3,4,5,6,7,8,9],[0,1,2,3,4,5,6,7,8,9,10],[0,1,2,3,4,5,6,7,8,9,10,11],[0,1,2,3,4,5,6,7,8,9,10],[0,1,2,3,4,5,6,7,8,9,10,13],[0,1,2,3,4,5,6,7,8,9,10,11,12,13,14],[0,1,2,3,4,5,6,7,8,9,10,11,12,13,14,15],[0,1,2,3,4,5,6,7,8,9,10],[0,1,2,3,4,5,6,7,8,9,10,17],[0,1,2,3,4,5,6,7,8,9,10],[0,1,2,3,4,5,6,7,8,9,10,17,18,19],[0,1,2,3,4,5,6,7,8,9,10,17,18,19,20],[0,1,2,3,4,5,6,7,8,9,10,11,12,13,14,15,16,17,18,19,20,21],[0,1,2,3,4,5,6,7,8,9,10,11,12,13,14,15,16,17,18,19,20,21,22],[0,1,2,3,4,5,6,7,8,9,10,11,12,13,14,15,16,17,18,19,20,21,22,23]]),(29,[[],[0],[],[0,1,2],[0,1,2,3],[0,1,2,3,4],[0,1,2,3,4,5],[0,1,2,3,4,5,6],[0,1,2,3,4,5,6,7],[0,1,2,3,4,5,6,7,8],[0,1,2,3,4,5,6,7,8,9],[0,1,2,3,4,5,6,7,8,9,10],[0,1,2,3,4,5,6,7,8,9,10,11],[0,1,2,3,4,5,6,7,8,9,10],[0,1,2,3,4,5,6,7,8,9,10,13],[0,1,2,3,4,5,6,7,8,9,10,11,12,13,14],[0,1,2,3,4,5,6,7,8,9,10,11,12,13,14,15],[0,1,2,3,4,5,6,7,8,9,10],[0,1,2,3,4,5,6,7,8,9,10,17],[0,1,2,3,4,5,6,7,8,9,10],[0,1,2,3,4,5,6,7,8,9,10,17,18,19],[0,1,2,3,4,5,6,7,8,9,10,17,18,19,20],[0,1,2,3,4,5,6,7,8,9,10,11,12,13,14,15,16,17,18,19,20,21],[0,1,2,3,4,5,6,7,8,9,10,11,12,13,14,15,16,17,18,19,20,21,22],[0,1,2,3,4,5,6,7,8,9,10,11,12,13,14,15,16,17,18,19,20,21,22,23],[0,1,2,3,4,5,6,7,8,9,10,11,12,13,14,15,16,17,18,19,20,21,22,23,24]]),(39,[[],[0],[0,1],[],[3],[0,1,2,3,4],[0,1,2,3,4,5],[0,1,2,3,4,5,6],[0,1,2,3,4,5,6,7],[0,1,2,3,4,5,6,7,8],[0,1,2,3,4,5,6,7,8,9],[0,1,2,3,4,5,6,7,8,9,10],[0,1,2,3,4,5,6,7,8,9],[0,1,2,3,4,5,6,7,8,9,10,11,12],[0,1,2,3,4,5,6,7,8,9,10,11,12,13],[0,1,2,3,4,5,6,7,8,9,10,11,12,13,14],[0,1,2,3,4,5,6,7,8,9,10,11,12,13,14,15],[0,1,2,3,4,5,6,7,8,9,10,11,12,13,14,15,16],[0,1,2,3,4,5,6,7,8,9,10,11,12,13,14,15,16,17],[0,1,2,3,4,5,6,7,8,9,10,11,12,13,14,15,16,17,18],[0,1,2,3,4,5,6,7,8,9,10,11,12,13,14,15,16,17,18,19],[0,1,2,3,4,5,6,7,8,9,10,11,12,13,14,15,16,17,18,19,20],[0,1,2,3,4,5,6,7,8,9,10,11,12,13,14,15,16,17,18,19,20,21],[0,1,2,3,4,5,6,7,8,9,10,11,12,13,14,15,16,17,18,19,20],[0,1,2,3,4,5,6,7,8,9,10,11,12,13,14,15,16,17,18,19,20,23],[0,1,2,3,4,5,6,7,8,9,10,11,12,13,14,15,16,17,18,19,20,21,22,23,24],[0,1,2,3,4,5,6,7,8,9,10,11,12,13,14,15,16,17,18,19,20,21,22,23,24,25],[0,1,2,3,4,5,6,7,8,9,10,11,12,13,14,15,16,17,18,19,20],[0,1,2,3,4,5,6,7,8,9,10,11,12,13,14,15,16,17,18,19,20,21,22,23,24,25,26,27],[0,1,2,3,4,5,6,7,8,9,10,11,12,13,14,15,16,17,18,19,20,21,22,23,24,25,26,27,28],[0,1,2,3,4,5,6,7,8,9,10,11,12,13,14,15,16,17,18,19,20,21,22,23,24,25,26,27,28,29],[0,1,2,3,4,5,6,7,8,9,10,11,12,13,14,15,16,17,18,19,20,21,22,23,24,25,26,27,28,29,30]])] [] [] [(4073,⟨425352958651173079329218259289710264320,[],[],[(.normal,[(126,.k (.d (.bool)))])]⟩)] [(26,⟨4398046510092,[],[],[(3,.k (.d (.int .i64)))],[((.exit 0),[]),(.ret,[(2,.k (.d (.bool)))])],bnd tb (.len (.ld 31 (.fld 33 6 (.slot 1)))) 1⟩),
 (133562354,⟨411376139282411024886683268815639281647236804420309368268914820,[],[],[(7,.k (.d (.int .i64)))],[((.exit 3),[]),(.ret,[(2,.k (.d (.bool)))])],bnd tb (.len (.ld 29 (.fld 33 4 (.slot 1)))) 1⟩),
 (1068498922,⟨948568795032040353016559207911582007103813675119580226322391447047862150789858052,[],[],[(8,.k (.d (.int .i64)))],[((.exit 5),[]),(.ret,[(2,.k (.d (.bool)))])],bnd tb (.len (.ld 30 (.fld 33 5 (.slot 1)))) 1⟩)] [] [] []
def b5T (n:Nat):Row I:=⟨79,[.d (.dat 33)],[.k (.d (.bool))],a6f n⟩
theorem b6P (n:Nat):RK (b5T n) :=
 okR [eR a6M,eR a5S,eR a40,eR a0S,eR (a9a n),eR (a5t n)] 269 (b7H n) [.tmp 2] Go.Proofs.Tryz.func79 (by kernel_rfl)
def b6O (_:Nat):Hints I:=mkH [] [] [] [] [(58,⟨16776204,[],[],[(3,.k (.d (.int .i64)))],[((.exit 0),[]),(.ret,[(2,.k (.d (.bool)))])],bnd tb (.len (.ld 28 (.fld 33 3 (.slot 1)))) 1⟩),
 (122,⟨576460752286646388,[],[],[(4,.k (.d (.int .i64)))],[((.exit 2),[]),(.ret,[(2,.k (.d (.bool)))])],bnd tb (.len (.ld 30 (.fld 33 5 (.slot 1)))) 1⟩),
 (31306,⟨1125831187365956,[],[],[(6,.k (.d (.int .i64)))],[((.exit 4),[]),(.ret,[(2,.k (.d (.bool)))])],bnd tb (.len (.ld 28 (.fld 138 0 (.slot 5)))) 1⟩)] [] [] []
def a5N (n:Nat):Row I:=⟨39,[.d (.dat 33)],[.k (.d (.bool))],X9 n⟩
theorem b4u (n:Nat)(h_semtyperef1_Valid:j6 Go.Proofs.Tryz.prog (a5N n)):RK (a5N (n+1)) :=
 okR [eR (b6P n),eR h_semtyperef1_Valid] 59 (b6O n) [.tmp 2] Go.Proofs.Tryz.func39 (by kernel_rfl)
theorem a6j:∀ n:Nat,j6 Go.Proofs.Tryz.prog (a5N n)
 | 0=>Q1 (by kernel_rfl)
 | n+1=>b4u n (a6j n)
def V1 (n:Nat):Row I:=⟨21,[.var 44 (.k (.d (.dat 44))) true,.d (.dat 27),.d (.int .i64),.d (.int .i64)],[.k (.d (.dat 33))],a4X n⟩
def b1n (_:Nat):Hints I:=mkH [(7,[[],[0],[],[2],[],[4],[],[6],[6,7],[],[9],[9,10],[6,7,8,9,10,11],[4,5,6,7,8,9,10,11,12],[0,1,2,3,4,5,6,7,8,9,10,11,12,13],[],[15],[0,1,2,3,4,5,6,7,8,9,10,11,12,13,14,15,16],[0,1,2,3,4,5,6,7,8,9,10,11,12,13,14,15,16,17],[0,1,2,3,4,5,6,7,8,9,10,11,12,13,14,15,16,17,18],[0,1,2,3,4,5,6,7,8,9,10,11,12,13,14,15,16,17,18,19]]),(25,[[],[0],[],[],[],[4],[],[4,5,6],[4,5,6,7],[],[9],[2,3,4,5,6,7,8,9,10],[2,3,4,5,6,7,8,9,10,11],[0,1,2,3,4,5,6,7,8,9,10,11,12],[0,1,2,3,4,5,6,7,8,9,10,11,12,13],[0,1,2,3,4,5,6,7,8,9,10,11,12,13,14]]),(30,[[],[0],[],[0,1,2],[0,1,2,3]]),(37,[[],[],[],[2],[],[],[5],[5,6],[4,5,6,7],[2,3,4,5,6,7,8],[2,3,4,5,6,7,8,9],[],[0,1,2,3,4,5,6,7,8,9,10,11],[0,1,2,3,4,5,6,7,8,9,10,11,12]]),(39,[[],[],[],[2],[],[],[5],[5,6],[4,5,6,7],[2,3,4,5,6,7,8],[2,3,4,5,6,7,8,9],[],[0,1,2,3,4,5,6,7,8,9,10,11],[0,1,2,3,4,5,6,7,8,9,10,11,12]]),(43,[[],[0],[],[2],[],[2,3,4],[2,3,4,5],[0,1,2,3,4,5,6],[0,1,2,3,4,5,6,7],[0,1,2,3,4,5,6,7,8],[0,1,2,3,4,5,6,7,8,9]]),(44,[[],[0],[0,1],[],[3],[],[5],[],[5,6,7],[5,6,7,8],[3,4,5,6,7,8,9],[3,4,5,6,7,8,9,10],[3,4,5,6,7,8,9,10,11],[3,4,5,6,7,8,9,10,11,12],[0,1,2,3,4,5,6,7,8,9,10,11,12,13],[0,1,2,3,4,5,6,7,8,9,10,11,12,13,14],[0,1,2,3,4,5,6,7,8,9,10,11,12,13,14,15],[0,1,2,3,4,5,6,7,8,9,10,11,12,13,14,15,16]]),(47,[[],[0],[],[2],[2,3],[0,1,2,3,4],[0,1,2,3,4,5]])] [] [] [(16449533,⟨386856262276681335905976320,[],[],[(.normal,[(86,.k (.d (.bool)))])]⟩),
 (263192557,⟨85029053355366337244815407887308292096,[],[(10,.lvs [.d (.int .i64),.d (.int .i64),.d (.str),.row 33 false,.row 83 false,.row 138 false,.row 9 false])],[(.normal,[])]⟩),
 (539018395474,⟨102844034449451492418213359320247649773843695697413960913387520,[],[(10,.k (.d (.dat 33)))],[(.normal,[])]⟩)] [(131596274,⟨2596147810297394171575110715049984,[],[(0,.k (.d (.dat 44))),(10,.lvs [.d (.int .i64),.d (.int .i64),.d (.str),.row 33 false,.row 83 false,.row 138 false,.row 9 false])],[(11,.k (.d (.int .i64)))],[((.exit 1),[])],bnd tb (.len (.ld 22 (.fld 77 4 (.slot 9)))) 1⟩),
 (67377299434,⟨102844034829582222281431884733353260024018043977843391611277312,[],[(10,.k (.d (.dat 33)))],[(12,.k (.d (.int .i64)))],[((.exit 3),[])],bnd tb (.len (.ld 22 (.fld 77 4 (.slot 9)))) 1⟩)] [] [] []
def X8 (n:Nat):Row I:=⟨48,[.var 44 (.k (.d (.dat 44))) true,.d (.dat 27),.d (.int .i64),.d (.int .i64)],[.k (.d (.dat 33))],b2G n⟩
def a7U (_:Nat):Hints I:=mkH [(10,[[],[0],[],[],[],[4],[],[4,5,6],[4,5,6,7],[],[9],[2,3,4,5,6,7,8,9,10],[2,3,4,5,6,7,8,9,10,11],[0,1,2,3,4,5,6,7,8,9,10,11,12],[0,1,2,3,4,5,6,7,8,9,10,11,12,13],[0,1,2,3,4,5,6,7,8,9,10,11,12,13,14]]),(13,[[],[],[],[2],[],[2,3,4],[2,3,4,5],[],[7],[0,1,2,3,4,5,6,7,8],[0,1,2,3,4,5,6,7,8,9],[0,1,2,3,4,5,6,7,8,9,10]])] [] [] [(31309,⟨2305280059260272640,[],[(0,.k (.d (.dat 44))),(12,.lvs [.row 33 false,.d (.bool),.d (.int .i64),.d (.int .i64),.d (.str),.d (.sl 33),.d (.sl 83),.d (.sl 138),.d (.sl 9)])],[(.normal,[])]⟩)] [(122,⟨36893488147414923776,[],[(0,.k (.d (.dat 44)))],[(9,.k (.row 138 false)),(11,.k (.d (.int .i64)))],[((.exit 0),[(9,.k (.row 138 false))])],bnd tb (.slot 11) 2⟩),
 (31306,⟨70368677076992,[],[(0,.k (.d (.dat 44))),(12,.lvs [.row 33 false,.d (.bool),.d (.int .i64),.d (.int .i64),.d (.str),.row 33 false,.row 83 false,.row 138 false,.row 9 false])],[(13,.k (.d (.int .i64)))],[((.exit 2),[])],bnd tb (.slot 10) 1⟩)] [] [] []
def K1 (n:Nat):Row I:=⟨102,[.var 44 (.k (.d (.dat 44))) true,.d (.dat 27),.d (.dat 77),.d (.int .i64)],[.k (.d (.dat 33))],a8D n⟩
def a9y (_:Nat):Hints I:=mkH [(8,[[],[],[],[],[3],[],[3,4,5],[3,4,5,6],[3,4,5,6,7],[],[9],[1,2,3,4,5,6,7,8,9,10],[1,2,3,4,5,6,7,8,9,10,11],[0,1,2,3,4,5,6,7,8,9,10,11,12],[0,1,2,3,4,5,6,7,8,9,10,11,12,13]]),(12,[[],[],[],[],[3],[],[3,4,5],[3,4,5,6],[],[8],[1,2,3,4,5,6,7,8,9],[1,2,3,4,5,6,7,8,9,10],[0,1,2,3,4,5,6,7,8,9,10,11],[0,1,2,3,4,5,6,7,8,9,10,11,12]])] [(6,[28])] [] [(125,⟨604462333346562283935232,[],[(0,.k (.d (.dat 44)))],[(.normal,[(9,.k (.row 83 false)),(10,.k (.row 33 false))])]⟩),
 (978,⟨72057594033735168,[],[(0,.k (.d (.dat 44)))],[(.normal,[(9,.k (.row 83 false)),(10,.k (.row 33 false))])]⟩),
 (7824,⟨8585740288,[],[(0,.k (.d (.dat 44)))],[(.normal,[(32,.k (.d (.bool)))])]⟩)] [(122,⟨72057594037898752,[],[(0,.k (.d (.dat 44)))],[(9,.k (.row 83 false)),(10,.k (.row 33 false)),(11,.k (.d (.int .i64)))],[((.exit 0),[(9,.k (.row 83 false)),(10,.k (.row 33 false))])],bnd tb (.len (.ld 74 (.fld 77 5 (.slot 6)))) 1⟩)] [] [] []
def V9 (n:Nat):Row I:=⟨101,[.var 44 (.k (.d (.dat 44))) true,.d (.dat 27),.d (.dat 77),.d (.int .i64)],[.k (.d (.dat 33))],b0Y n⟩
theorem a98 (n:Nat)(_:j6 Go.Proofs.Tryz.prog (V1 n))(h_semtypebase_Source_near:j6 Go.Proofs.Tryz.prog (X8 n))(_:j6 Go.Proofs.Tryz.prog (K1 n))(_:j6 Go.Proofs.Tryz.prog (V9 n)):RK (V1 (n+1)) :=
 okR [eR h_semtypebase_Source_near,eR (a6j n),eR a3L] 21 Y4 [.cell 8 33] Go.Proofs.Tryz.func21 (by kernel_rfl)
theorem b0n (n:Nat)(h_semtypebase_Source_Near:j6 Go.Proofs.Tryz.prog (V1 n))(h_semtypebase_Source_near:j6 Go.Proofs.Tryz.prog (X8 n))(h_semtypebase_Source_nearFunction:j6 Go.Proofs.Tryz.prog (K1 n))(h_semtypebase_Source_nearMap:j6 Go.Proofs.Tryz.prog (V9 n)):RK (X8 (n+1)) :=
 okR [eR a3L,eR w8,eR b0x,eR a8m,eR a14,eR a9o,eR a1d,eR b0a,eR a2a,eR h_semtypebase_Source_Near,eR h_semtypebase_Source_nearMap,eR h_semtypebase_Source_nearFunction,eR h_semtypebase_Source_near,eR a5T,eR b1i,eR (b0h n)] 217 (b1n n) [.cell 8 33] Go.Proofs.Tryz.func48 (by kernel_rfl)
theorem a7o (n:Nat)(h_semtypebase_Source_Near:j6 Go.Proofs.Tryz.prog (V1 n))(_:j6 Go.Proofs.Tryz.prog (X8 n))(_:j6 Go.Proofs.Tryz.prog (K1 n))(_:j6 Go.Proofs.Tryz.prog (V9 n)):RK (K1 (n+1)) :=
 okR [eR w8,eR h_semtypebase_Source_Near,eR (a7D n),eR a2a] 75 (a7U n) [.cell 8 33] Go.Proofs.Tryz.func102 (by kernel_rfl)
theorem a8S (n:Nat)(h_semtypebase_Source_Near:j6 Go.Proofs.Tryz.prog (V1 n))(_:j6 Go.Proofs.Tryz.prog (X8 n))(_:j6 Go.Proofs.Tryz.prog (K1 n))(_:j6 Go.Proofs.Tryz.prog (V9 n)):RK (V9 (n+1)) :=
 okR [eR w8,eR h_semtypebase_Source_Near,eR a64,eR a2a] 89 (a9y n) [.cell 8 33] Go.Proofs.Tryz.func101 (by kernel_rfl)
theorem a48:∀ n:Nat,j6 Go.Proofs.Tryz.prog (V1 n)/\j6 Go.Proofs.Tryz.prog (X8 n)/\j6 Go.Proofs.Tryz.prog (K1 n)/\j6 Go.Proofs.Tryz.prog (V9 n)
 | 0=>⟨Q1 (by kernel_rfl),Q1 (by kernel_rfl),Q1 (by kernel_rfl),Q1 (by kernel_rfl)⟩
 | n+1=>by
   obtain ⟨h0,h1,h2,h3⟩:=a48 n
   exact ⟨a98 n h0 h1 h2 h3,b0n n h0 h1 h2 h3,a7o n h0 h1 h2 h3,a8S n h0 h1 h2 h3⟩
theorem b0D (n:Nat):j6 Go.Proofs.Tryz.prog (V1 n):=(a48 n).1
def b7d:Hints I:=mkH [(7,[[],[],[1],[0,1,2],[],[],[4,5],[0,1,2,3,4,5,6],[0,1,2,3,4,5,6,7]])] [] [] [] [(28,⟨2097056,[],[],[(5,.k (.d (.int .i64)))],[((.exit 0),[(5,.k (.d (.int .i64)))])],bnd tb (.len (.slot 0)) 1⟩)] [] [] []
def b6d:Row I:=⟨207,[.d (.sl 3),.d (.int .i64)],[.k (.d (.sl 3))],a59⟩
theorem b6G:RK (b6d) :=
 okR [] 46 b7d [.tmp 4] Go.Proofs.Tryz.func207 (by kernel_rfl)
def b7e:Hints I:=mkH [] [] [] [] [(58,⟨131064,[],[],[(3,.k (.d (.sl 3))),(4,.k (.d (.int .i64)))],[((.exit 0),[(3,.k (.d (.sl 3)))])],bnd tb (.len (.slot 0)) 1⟩)] [] [] []
def b6q:Row I:=⟨159,[.d (.sl 3)],[.k (.d (.sl 3))],a4C⟩
theorem b6I:RK (b6q) :=
 okR [eR b6G] 18 b7e [.tmp 2] Go.Proofs.Tryz.func159 (by kernel_rfl)
def b5M:Hints I:=mkH [(1,[[],[0],[0,1],[],[3],[0,1,2,3,4],[],[6],[0,1,2,3,4,5,6,7],[0,1,2,3,4,5,6,7,8]])] [] [] [] [] [] [] []
def b3O:Row I:=⟨109,[.d (.dat 56)],[.k (.d (.dat 56))],a5e⟩
theorem b5p:RK (b3O) :=
 okR [eR b6I] 12 b5M [.cell 2 56] Go.Proofs.Tryz.func109 (by kernel_rfl)
def b2R:Hints I:=mkH [(6,[[],[],[0,1],[0,1,2],[],[],[4,5],[4,5,6],[0,1,2,3,4,5,6,7]])] [] [] [] [(58,⟨67106864,[],[],[(5,.k (.d (.int .i64)))],[((.exit 0),[]),(.ret,[(4,.k (.d (.bool)))])],bnd tb (.len (.slot 0)) 1⟩)] [] [] []
def b07:Row I:=⟨158,[.d (.sl 3),.d (.sl 3)],[.k (.d (.bool))],a2c⟩
theorem b2g:RK (b07) :=
 okR [] 26 b2R [.tmp 4] Go.Proofs.Tryz.func158 (by kernel_rfl)
def b0V:Row I:=⟨108,[.d (.dat 56),.d (.dat 56)],[.k (.d (.bool))],a3h⟩
theorem b1c:RK (b0V) :=
 okR [eR b2g] 24 Y4 [.tmp 4] Go.Proofs.Tryz.func108 (by kernel_rfl)
def b5l:Row I:=⟨60,[.d (.dat 27),.d (.int .i64)],[.k (.d (.bool))],a0q⟩
theorem a6b:RK (b5l) :=
 okR [] 14 Y4 [.tmp 4] Go.Proofs.Tryz.func60 (by kernel_rfl)
def b4G:Hints I:=mkH [(1,[[],[0],[0,1],[],[3],[0,1,2,3,4],[0,1,2,3,4,5]]),(5,[[],[],[],[1,2],[1,2,3],[0,1,2,3,4],[0,1,2,3,4,5]])] [] [] [] [(58,⟨67100752,[5],[],[(6,.k (.d (.int .i64)))],[((.exit 0),[]),(.ret,[(4,.k (.d (.bool)))])],bnd tb (.len (.slot 5)) 1⟩)] [] [] []
def b2N:Row I:=⟨26,[.d (.dat 27),.d (.dat 56)],[.k (.d (.bool))],a2X⟩
theorem a7M:RK (b2N) :=
 okR [eR a6b] 26 b4G [.tmp 4] Go.Proofs.Tryz.func26 (by kernel_rfl)
def b4y:Hints I:=mkH [(1,[[],[],[1],[0,1,2],[0,1,2,3],[0,1,2,3,4],[0,1,2,3,4],[0,1,2,3,4,5,6],[0,1,2,3,4,5,6,7],[0,1,2,3,4,5,6,7,8]])] [] [] [] [] [] [] []
def b2P:Row I:=⟨50,[.d (.dat 27),.d (.dat 56)],[.k (.d (.bool))],a00⟩
theorem b3q:RK (b2P) :=
 okR [eR b5p,eR b1c,eR a7M] 14 b4y [.tmp 4] Go.Proofs.Tryz.func50 (by kernel_rfl)
def b5G:Hints I:=mkH [(4,[[],[],[0,1],[0,1,2],[],[0,1,2,3,4]])] [] [] [] [(26,⟨524272,[],[],[(5,.k (.d (.int .i64)))],[((.exit 0),[]),(.ret,[(4,.k (.d (.int .i64)))])],bnd tb (.len (.slot 0)) 1⟩)] [] [] []
def b3N:Row I:=⟨51,[.d (.sl 83),.d (.dat 83)],[.k (.d (.int .i64))],a0c⟩
theorem a8v:RK (b3N) :=
 okR [] 19 b5G [.tmp 4] Go.Proofs.Tryz.func51 (by kernel_rfl)
def b4X:Hints I:=mkH [(3,[[],[0],[0,1],[],[3],[0,1,2,3,4],[0,1,2,3,4,5]]),(7,[[],[0],[],[],[2,3],[2,3,4],[0,1,2,3,4,5],[0,1,2,3,4,5,6],[0,1,2,3,4,5,6,7],[0,1,2,3,4,5,6,7,8]]),(11,[[],[0],[],[],[2,3],[2,3,4],[2,3,4,5],[0,1,2,3,4,5,6],[0,1,2,3,4,5,6,7]]),(20,[[],[0],[],[],[2,3],[2,3,4],[0,1,2,3,4,5],[0,1,2,3,4,5,6],[0,1,2,3,4,5,6,7],[0,1,2,3,4,5,6,7,8]]),(24,[[],[0],[0,1],[0,1],[0,1,2,3],[0,1,2,3,4],[0,1,2,3,4,5],[0,1],[0,1,7],[0,1],[0,1,7,8,9],[0,1,7,8,9,10],[0,1,2,3,4,5,6,7,8,9,10,11],[0,1,2,3,4,5,6,7,8,9,10,11,12],[0,1,2,3,4,5,6,7,8,9,10,11,12,13]]),(26,[[],[0],[0,1],[0,1,2],[0,1,2,3],[0,1,2,3,4],[0,1,2,3,4,5],[0,1,2,3,4,5],[0,1,2,3,4,5,7],[0,1,2,3,4,5],[0,1,2,3,4,5,7,8,9],[0,1,2,3,4,5,7,8,9,10],[0,1,2,3,4,5,6,7,8,9,10,11],[0,1,2,3,4,5,6,7,8,9,10,11,12],[0,1,2,3,4,5,6,7,8,9,10,11,12,13],[0,1,2,3,4,5,6,7,8,9,10,11,12,13,14],[0,1,2,3,4,5,6,7,8,9,10,11,12,13,14,15],[0,1,2,3,4,5,6,7,8,9,10,11,12,13,14,15,16],[0,1,2,3,4,5,6,7,8,9,10,11,12,13,14,15,16,17],[0,1,2,3,4,5,6,7,8,9,10,11,12,13,14,15,16,17,18],[0,1,2,3,4,5,6,7,8,9,10,11,12,13,14,15,16,17,18,19],[0,1,2,3,4,5,6,7,8,9,10,11,12,13,14,15,16,17,18],[0,1,2,3,4,5,6,7,8,9,10,11,12,13,14,15,16,17,18,21],[0,1,2,3,4,5,6,7,8,9,10,11,12,13,14,15,16,17,18,19,20,21,22],[0,1,2,3,4,5,6,7,8,9,10,11,12,13,14,15,16,17,18,19,20,21,22,23],[0,1,2,3,4,5,6,7,8,9,10,11,12,13,14,15,16,17,18],[0,1,2,3,4,5,6,7,8,9,10,11,12,13,14,15,16,17,18,25],[0,1,2,3,4,5,6,7,8,9,10,11,12,13,14,15,16,17,18],[0,1,2,3,4,5,6,7,8,9,10,11,12,13,14,15,16,17,18,25,26,27],[0,1,2,3,4,5,6,7,8,9,10,11,12,13,14,15,16,17,18,25,26,27,28],[0,1,2,3,4,5,6,7,8,9,10,11,12,13,14,15,16,17,18,19,20,21,22,23,24,25,26,27,28,29],[0,1,2,3,4,5,6,7,8,9,10,11,12,13,14,15,16,17,18,19,20,21,22,23,24,25,26,27,28,29,30],[0,1,2,3,4,5,6,7,8,9,10,11,12,13,14,15,16,17,18,19,20,21,22,23,24,25,26,27,28,29,30,31],[0,1,2,3,4,5,6,7,8,9,10,11,12,13,14,15,16,17,18,19,20,21,22,23,24,25,26,27,28,29,30,31,32]]),(31,[[],[0],[],[0,1,2],[0,1,2,3],[0,1,2,3,4],[0,1,2,3,4,5],[0,1,2,3,4,5,6],[0,1,2,3,4,5,6,7],[0,1,2,3,4,5,6,7,8],[0,1,2,3,4,5,6,7],[0,1,2,3,4,5,6,7,8,9,10],[0,1,2,3,4,5,6,7,8,9,10,11],[0,1,2,3,4,5,6,7,8,9,10,11,12],[0,1,2,3,4,5,6,7,8,9,10,11,12,13],[0,1,2,3,4,5,6,7,8,9,10,11,12,13,14],[0,1,2,3,4,5,6,7,8,9,10,11,12,13,14,15],[0,1,2,3,4,5,6,7,8,9,10,11,12,13,14,15,16],[0,1,2,3,4,5,6,7,8,9,10,11,12,13,14,15,16],[0,1,2,3,4,5,6,7,8,9,10,11,12,13,14,15,16,18],[0,1,2,3,4,5,6,7,8,9,10,11,12,13,14,15,16],[0,1,2,3,4,5,6,7,8,9,10,11,12,13,14,15,16,18,19,20],[0,1,2,3,4,5,6,7,8,9,10,11,12,13,14,15,16,18,19,20,21],[0,1,2,3,4,5,6,7,8,9,10,11,12,13,14,15,16,18,19,20,21,22],[0,1,2,3,4,5,6,7,8,9,10,11,12,13,14,15,16,17,18,19,20,21,22,23],[0,1,2,3,4,5,6,7,8,9,10,11,12,13,14,15,16,17,18,19,20,21,22,23,24],[0,1,2,3,4,5,6,7,8,9,10,11,12,13,14,15,16,17,18,19,20,21,22,23,24,25]])] [] [] [] [(122,⟨77371252383278673143269184,[7],[],[(8,.k (.d (.int .i64)))],[((.exit 0),[]),(.ret,[(6,.k (.d (.bool)))])],bnd tb (.len (.slot 7)) 1⟩),
 (250,⟨100433627766186892221372630771322585286385231775157371140160,[],[],[(11,.k (.d (.int .i64)))],[((.exit 4),[]),(.ret,[(6,.k (.d (.bool)))])],bnd tb (.len (.ld 29 (.fld 71 0 (.slot 5)))) 1⟩),
 (506,⟨1725436586597207319092502073347883732341454580384958951679206503874624,[],[],[(17,.k (.d (.int .i64)))],[((.exit 10),[]),(.ret,[(6,.k (.d (.bool)))])],bnd tb (.len (.ld 69 (.fld 71 4 (.slot 5)))) 1⟩),
 (15654,⟨77368891272094832358589504,[],[],[(10,.k (.d (.int .i64)))],[((.exit 2),[]),(.ret,[(6,.k (.d (.bool)))])],bnd tb (.len (.slot 9)) 1⟩),
 (64074,⟨340282366911034943149091565232575279104,[],[],[(12,.k (.d (.bool))),(13,.k (.d (.int .i64)))],[((.exit 6),[(12,.k (.d (.bool)))])],bnd tb (.len (.slot 7)) 1⟩),
 (8201510,⟨340282042402384805036647824275747672064,[],[],[(12,.k (.d (.bool))),(15,.k (.d (.int .i64)))],[((.exit 8),[(12,.k (.d (.bool)))])],bnd tb (.len (.slot 14)) 1⟩)] [] [] []
def b2H:Row I:=⟨23,[.d (.dat 27),.d (.dat 40),.d (.dat 71)],[.k (.d (.bool))],a4Q⟩
theorem b4b:RK (b2H) :=
 okR [eR b3q,eR a8v,eR a0S] 230 b4X [.tmp 6] Go.Proofs.Tryz.func23 (by kernel_rfl)
def b7b:Hints I:=mkH [(4,[[],[],[1],[],[1,2,3],[1,2,3,4],[0,1,2,3,4,5],[0,1,2,3,4,5,6]]),(47,[[],[],[1],[0,1,2],[0,1,2,3],[0,1,2,3,4],[0,1,2,3,4,5],[0,1,2,3,4,5,6],[0,1,2,3,4,5,6,7],[0,1,2,3,4,5,6,7,8],[0,1,2,3,4,5,6,7,8,9],[0,1,2,3,4,5,6,7,8,9,10],[0,1,2,3,4,5,6,7,8,9,10,11],[0,1,2,3,4,5,6,7,8,9,10,11,12],[0,1,2,3,4,5,6,7,8,9,10,11,12,13],[0,1,2,3,4,5,6,7,8,9,10,11,12,13,14],[0,1,2,3,4,5,6,7,8,9,10,11,12,13,14,15],[0,1,2,3,4,5,6,7,8,9,10,11,12,13,14],[0,1,2,3,4,5,6,7,8,9,10,11,12,13,14,17],[0,1,2,3,4,5,6,7,8,9,10,11,12,13,14,15,16,17,18],[0,1,2,3,4,5,6,7,8,9,10,11,12,13,14,15,16,17,18,19],[0,1,2,3,4,5,6,7,8,9,10,11,12,13,14,15,16,17,18,19,20],[0,1,2,3,4,5,6,7,8,9,10,11,12,13,14],[0,1,2,3,4,5,6,7,8,9,10,11,12,13,14,22],[0,1,2,3,4,5,6,7,8,9,10,11,12,13,14,15,16,17,18,19,20,21,22,23],[0,1,2,3,4,5,6,7,8,9,10,11,12,13,14,15,16,17,18,19,20,21,22,23,24],[0,1,2,3,4,5,6,7,8,9,10,11,12,13,14,15,16,17,18,19,20,21,22,23,24,25],[0,1,2,3,4,5,6,7,8,9,10,11,12,13,14,15,16,17,18,19,20,21,22,23,24,25,26]])] [] [] [(2092029,⟨2706308199418088717232151174730781556736,[],[],[(.normal,[(122,.k (.d (.bool)))])]⟩),
 (535560189,⟨3568119231764899702645714923623737840956866560,[],[],[(.normal,[(149,.k (.d (.bool)))])]⟩)] [(26,⟨67106864,[],[],[(5,.k (.d (.int .i64)))],[((.exit 0),[]),(.ret,[(4,.k (.d (.bool)))])],bnd tb (.len (.ld 22 (.fld 77 4 (.slot 3)))) 1⟩),
 (68551704562,⟨1606938044257528773904631189422958917689486710763136902759952,[],[],[(9,.k (.d (.int .i64)))],[((.exit 3),[]),(.ret,[(4,.k (.d (.bool)))])],bnd tb (.len (.ld 74 (.fld 77 5 (.slot 3)))) 1⟩)] [] [] []
def b5N:Row I:=⟨80,[.d (.dat 27),.d (.dat 77)],[.k (.d (.bool))],a54⟩
theorem b6y:RK (b5N) :=
 okR [eR a6b,eR a5S,eR a6M,eR a40,eR a0S] 216 b7b [.tmp 4] Go.Proofs.Tryz.func80 (by kernel_rfl)
def b2I:Row I:=⟨81,[.d (.dat 77)],[.k (.d (.bool))],a4N⟩
theorem b4f:RK (b2I) :=
 okR [] 16 Y4 [.tmp 2] Go.Proofs.Tryz.func81 (by kernel_rfl)
def b2D (n:Nat):Hints I:=mkH [(6,[[],[],[1],[],[1,2,3],[1,2,3,4],[0,1,2,3,4,5],[0,1,2,3,4,5,6]])] [] [] [] [(58,⟨1073709068,[],[],[(3,.k (.d (.int .i64)))],[((.exit 0),[]),(.ret,[(2,.k (.d (.int .i64)))])],bnd tb (.len (.ld 25 (.fld 27 0 (.slot 1)))) 1⟩),
 (250,⟨4951760157141521082416628192,[],[],[(4,.k (.row 4 false)),(5,.k (.d (.int .i64)))],[((.exit 2),[(4,.k (.row 4 false))])],bnd tb (.len (.ld 25 (.fld 27 0 (.slot 1)))) 1⟩),
 (506,⟨10136253041668693690874029146628,[],[],[(4,.k (.row 4 false)),(9,.k (.d (.int .i64)))],[((.exit 8),[(4,.k (.row 4 false))]),(.ret,[(2,.k (.d (.int .i64))),(4,.k (.row 4 false))])],bnd tb (.len (.slot 4)) 1⟩),
 (16018,⟨4951760157141518900573241792,[],[],[(4,.k (.row 4 false)),(6,.k (.d (.int .i64)))],[((.exit 4),[(4,.k (.row 4 false))])],bnd tb (.len (.ld 25 (.fld 27 0 (.slot 1)))) 1⟩),
 (4100682,⟨4835703278177041722114432,[],[],[(4,.k (.row 4 false)),(7,.k (.d (.bool))),(8,.k (.d (.int .i64)))],[((.exit 6),[(4,.k (.row 4 false)),(7,.k (.d (.bool)))])],fun _=>some n⟩)] [] [] []
def b0T (n:Nat):Row I:=⟨40,[.d (.dat 27)],[.k (.d (.int .i64))],a0Z n⟩
theorem b09 (n:Nat):RK (b0T n) :=
 okR [eR a6b,eR b6y,eR b4f] 103 (b2D n) [.tmp 2] Go.Proofs.Tryz.func40 (by kernel_rfl)
def b8W:Hints I:=mkH [(4,[[],[0],[],[0,1,2],[0,1,2,3],[],[0,1,2,3,4,5]])] [] [] [] [(26,⟨2097136,[],[],[(5,.k (.d (.int .i64)))],[((.exit 0),[]),(.ret,[(4,.k (.d (.int .i64)))])],bnd tb (.len (.ld 29 (.fld 33 4 (.slot 2)))) 1⟩)] [] [] []
def b6D:Row I:=⟨186,[.d (.dat 33),.d (.dat 83)],[.k (.d (.int .i64))],a6K⟩
theorem b6Z:RK (b6D) :=
 okR [] 21 b8W [.tmp 4] Go.Proofs.Tryz.func186 (by kernel_rfl)
def b6N:Hints I:=mkH [(4,[[],[0],[],[0,1,2],[0,1,2,3],[0,1,2,3,4],[],[0,1,2,3,4,5,6]])] [] [] [] [(26,⟨4194288,[],[],[(5,.k (.d (.int .i64)))],[((.exit 0),[]),(.ret,[(4,.k (.d (.int .i64)))])],bnd tb (.len (.ld 74 (.fld 77 5 (.slot 2)))) 1⟩)] [] [] []
def b44:Row I:=⟨187,[.d (.dat 77),.d (.dat 83)],[.k (.d (.int .i64))],a2G⟩
theorem b6m:RK (b44) :=
 okR [] 22 b6N [.tmp 4] Go.Proofs.Tryz.func187 (by kernel_rfl)
def b3G (_:Nat):Hints I:=mkH [(8,[[],[0],[],[],[3],[],[3,4,5],[0,1,2,3,4,5,6],[0,1,2,3,4,5,6,7],[0,1,2,3,4,5,6,7,8],[0,1,2,3,4,5,6,7,8,9],[0,1,2,3,4,5,6,7,8,9,10],[0,1,2,3,4,5,6,7,8,9,10,11],[0,1,2,3,4,5,6,7,8,9,10,11,12],[0,1,2,3,4,5,6,7,8,9,10,11],[0,1,2,3,4,5,6,7,8,9,10,11],[0,1,2,3,4,5,6,7,8,9,10,11,15],[0,1,2,3,4,5,6,7,8,9,10,11],[0,1,2,3,4,5,6,7,8,9,10,11,15,16,17],[0,1,2,3,4,5,6,7,8,9,10,11,15,16,17,18],[0,1,2,3,4,5,6,7,8,9,10,11,12,13,14,15,16,17,18,19],[0,1,2,3,4,5,6,7,8,9,10,11,12,13,14,15,16,17,18,19,20],[0,1,2,3,4,5,6,7,8,9,10,11,12,13,14,15,16,17,18,19,20,21],[0,1,2,3,4,5,6,7,8,9,10,11,12,13,14,15,16,17,18,19,20,21,22]])] [] [] [] [(122,⟨18014398509220672,[],[],[(8,.k (.d (.int .i64)))],[((.exit 0),[]),(.ret,[(6,.k (.d (.bool)))])],bnd tb (.len (.ld 30 (.fld 33 5 (.slot 3)))) 1⟩)] [] [] []
def a0u (n:Nat):Row I:=⟨147,[.d (.dat 33),.d (.dat 27),.d (.dat 77)],[.k (.d (.bool))],a0R n⟩
def b4Y (_:Nat):Hints I:=mkH [(4,[[],[0],[],[0,1,2],[0,1,2,3],[0,1,2,3,4],[0,1,2,3,4,5],[0,1,2,3,4,5,6],[0,1,2,3,4,5,6,7],[0,1,2,3,4,5,6,7],[0,1,2,3,4,5,6,7,9],[0,1,2,3,4,5,6,7],[0,1,2,3,4,5,6,7,9,10,11],[0,1,2,3,4,5,6,7,9,10,11,12],[0,1,2,3,4,5,6,7,9,10,11,12,13],[0,1,2,3,4,5,6,7,8,9,10,11,12,13,14],[0,1,2,3,4,5,6,7,8,9,10,11,12,13,14,15],[0,1,2,3,4,5,6,7,8,9,10,11,12,13,14,15,16]]),(9,[[],[],[1],[],[1,2,3],[1,2,3,4],[0,1,2,3,4,5],[0,1,2,3,4,5,6]]),(13,[[],[0],[],[0,1,2],[0,1,2,3],[],[],[0,1,2,3,4,5,6],[0,1,2,3,4,5,6,7]])] [] [] [(3730,⟨575334852396581888,[],[],[(.normal,[(10,.k (.d (.int .i64)))])]⟩),
 (14925,⟨145268109580462720000,[],[],[(.normal,[(10,.k (.d (.int .i64)))])]⟩)] [(26,⟨68719474880,[],[],[(7,.k (.d (.int .i64)))],[((.exit 0),[]),(.ret,[(6,.k (.d (.bool)))])],bnd tb (.len (.ld 74 (.fld 77 5 (.slot 5)))) 1⟩),
 (58,⟨75557863725845603944256,[],[],[(8,.k (.d (.int .i64)))],[((.exit 2),[]),(.ret,[(6,.k (.d (.bool)))])],bnd tb (.len (.ld 29 (.fld 33 4 (.slot 3)))) 1⟩)] [] [] []
def a0K (n:Nat):Row I:=⟨146,[.d (.dat 33),.d (.dat 27),.d (.dat 77)],[.k (.d (.bool))],a01 n⟩
def b6j (_:Nat):Hints I:=mkH [(35,[[],[],[],[2],[],[2,3,4],[2,3,4,5],[0,1,2,3,4,5,6]]),(42,[[],[],[],[2],[],[2,3,4],[2,3,4,5],[0,1,2,3,4,5,6],[0,1,2,3,4,5,6,7]]),(46,[[],[],[],[2],[2,3],[2,3,4],[0,1,2,3,4,5],[0,1,2,3,4,5,6],[0,1,2,3,4,5,6,7]]),(51,[[],[0],[],[0,1,2],[0,1,2,3],[],[5],[0,1,2,3,4,5,6]])] [] [] [] [(506806140914,⟨365364258960126464239350440319934430733230145856,[],[],[(8,.k (.d (.int .i64)))],[((.exit 1),[]),(.ret,[(6,.k (.d (.bool)))])],bnd tb (.len (.ld 22 (.fld 77 4 (.slot 7)))) 1⟩),
 (2027224563698,⟨95779509802480722744478485512061607693151539203932736,[],[],[(9,.k (.d (.int .i64)))],[((.exit 3),[]),(.ret,[(6,.k (.d (.bool)))])],bnd tb (.len (.ld 22 (.fld 77 4 (.slot 7)))) 1⟩),
 (16217796509690,⟨12855112035213460536787957001890350341026617553047063680255040,[],[],[(10,.k (.d (.int .i64)))],[((.exit 5),[]),(.ret,[(6,.k (.d (.bool)))])],bnd tb (.len (.ld 31 (.fld 33 6 (.slot 3)))) 1⟩)] [] [] []
def a0g (n:Nat):Row I:=⟨82,[.d (.dat 33),.d (.dat 27),.d (.int .i64)],[.k (.d (.bool))],w5 n⟩
def b4n (_:Nat):Hints I:=mkH [(6,[[],[],[0,1],[0,1,2],[],[],[],[5,6],[5,6,7],[0,1,2,3,4,5,6,7,8],[0,1,2,3,4,5,6,7,8,9]])] [] [] [] [(58,⟨1073733824,[],[],[(7,.k (.d (.int .i64)))],[((.exit 0),[]),(.ret,[(6,.k (.d (.bool)))])],bnd tb (.len (.slot 0)) 1⟩)] [] [] []
def a0J (n:Nat):Row I:=⟨145,[.d (.sl 33),.d (.dat 27),.d (.sl 3)],[.k (.d (.bool))],a0n n⟩
theorem b2a (n:Nat)(_:j6 Go.Proofs.Tryz.prog (a0u n))(_:j6 Go.Proofs.Tryz.prog (a0K n))(h_semtyperef7_member:j6 Go.Proofs.Tryz.prog (a0g n))(h_semtyperef7_members:j6 Go.Proofs.Tryz.prog (a0J n)):RK (a0u (n+1)) :=
 okR [eR h_semtyperef7_members,eR h_semtyperef7_member] 54 (b3G n) [.tmp 6] Go.Proofs.Tryz.func147 (by kernel_rfl)
theorem b2T (n:Nat)(_:j6 Go.Proofs.Tryz.prog (a0u n))(_:j6 Go.Proofs.Tryz.prog (a0K n))(h_semtyperef7_member:j6 Go.Proofs.Tryz.prog (a0g n))(_:j6 Go.Proofs.Tryz.prog (a0J n)):RK (a0K (n+1)) :=
 okR [eR b6Z,eR b6m,eR h_semtyperef7_member] 76 (b4Y n) [.tmp 6] Go.Proofs.Tryz.func146 (by kernel_rfl)
theorem b3E (n:Nat)(h_semtyperef7_function:j6 Go.Proofs.Tryz.prog (a0u n))(h_semtyperef7_mapping:j6 Go.Proofs.Tryz.prog (a0K n))(h_semtyperef7_member:j6 Go.Proofs.Tryz.prog (a0g n))(h_semtyperef7_members:j6 Go.Proofs.Tryz.prog (a0J n)):RK (a0g (n+1)) :=
 okR [eR h_semtyperef7_members,eR h_semtyperef7_mapping,eR h_semtyperef7_function,eR h_semtyperef7_member] 203 (b6j n) [.tmp 6] Go.Proofs.Tryz.func82 (by kernel_rfl)
theorem b2M (n:Nat)(_:j6 Go.Proofs.Tryz.prog (a0u n))(_:j6 Go.Proofs.Tryz.prog (a0K n))(h_semtyperef7_member:j6 Go.Proofs.Tryz.prog (a0g n))(_:j6 Go.Proofs.Tryz.prog (a0J n)):RK (a0J (n+1)) :=
 okR [eR h_semtyperef7_member] 30 (b4n n) [.tmp 6] Go.Proofs.Tryz.func145 (by kernel_rfl)
theorem a5X:∀ n:Nat,j6 Go.Proofs.Tryz.prog (a0u n)/\j6 Go.Proofs.Tryz.prog (a0K n)/\j6 Go.Proofs.Tryz.prog (a0g n)/\j6 Go.Proofs.Tryz.prog (a0J n)
 | 0=>⟨Q1 (by kernel_rfl),Q1 (by kernel_rfl),Q1 (by kernel_rfl),Q1 (by kernel_rfl)⟩
 | n+1=>by
   obtain ⟨h0,h1,h2,h3⟩:=a5X n
   exact ⟨b2a n h0 h1 h2 h3,b2T n h0 h1 h2 h3,b3E n h0 h1 h2 h3,b2M n h0 h1 h2 h3⟩
theorem b4V (n:Nat):j6 Go.Proofs.Tryz.prog (a0g n):=(a5X n).2.2.1
def b5S (_:Nat):Hints I:=mkH [(4,[[],[],[],[2],[],[2,3,4],[2,3,4,5],[0,1,2,3,4,5,6],[0,1,2,3,4,5,6,7]]),(9,[[],[],[],[2],[],[2,3,4],[2,3,4,5],[0,1,2,3,4,5,6]])] [] [] [] [(26,⟨33554112,[],[],[(7,.k (.d (.int .i64)))],[((.exit 0),[]),(.ret,[(6,.k (.d (.bool)))])],bnd tb (.len (.ld 22 (.fld 56 0 (.slot 5)))) 1⟩),
 (58,⟨1099478073664,[],[],[(8,.k (.d (.int .i64)))],[((.exit 2),[]),(.ret,[(6,.k (.d (.bool)))])],bnd tb (.len (.ld 22 (.fld 56 1 (.slot 5)))) 1⟩)] [] [] []
def b37 (n:Nat):Row I:=⟨41,[.d (.dat 33),.d (.dat 27),.d (.dat 56)],[.k (.d (.bool))],a6T n⟩
theorem b4N (n:Nat):RK (b37 n) :=
 okR [eR (b4V n)] 53 (b5S n) [.tmp 6] Go.Proofs.Tryz.func41 (by kernel_rfl)
def b4d (n:Nat):Row I:=⟨15,[.d (.dat 33),.d (.dat 27),.d (.dat 56)],[.k (.d (.bool))],X2 n⟩
theorem a8n (n:Nat):RK (b4d n) :=
 okR [eR (a6j n),eR (b09 n),eR a7M,eR (b4N n)] 25 Y4 [.tmp 6] Go.Proofs.Tryz.func15 (by kernel_rfl)
def b3y (_:Nat):Hints I:=mkH [(6,[[],[0],[],[2],[],[2,3,4],[2,3,4,5],[0,1,2,3,4,5,6],[0,1,2,3,4,5,6,7]]),(10,[[],[0],[0,1],[0,1,2],[0,1,2,3],[0,1,2],[0,1,2,3,4,5],[0,1,2,3,4,5,6],[0,1,2],[0,1,2],[0,1,2,9],[0,1,2],[0,1,2,9,10,11],[0,1,2,9,10,11,12],[0,1,2,3,4,5,6,7,8,9,10,11,12,13],[0,1,2,3,4,5,6,7,8,9,10,11,12,13,14],[0,1,2,3,4,5,6,7,8,9,10,11,12,13,14,15]]),(15,[[],[0],[],[2],[],[2,3,4],[2,3,4,5],[0,1,2,3,4,5,6],[0,1,2,3,4,5,6,7],[0,1,2,3,4,5,6,7,8],[0,1,2,3,4,5,6,7,8,9],[0,1,2,3,4,5,6,7,8,9,10],[0,1,2,3,4,5,6,7,8,9],[0,1,2,3,4,5,6,7,8,9,10,11,12],[0,1,2,3,4,5,6,7,8,9,10,11,12,13],[0,1,2,3,4,5,6,7,8,9],[0,1,2,3,4,5,6,7,8,9],[0,1,2,3,4,5,6,7,8,9,16],[0,1,2,3,4,5,6,7,8,9],[0,1,2,3,4,5,6,7,8,9,16,17,18],[0,1,2,3,4,5,6,7,8,9,16,17,18,19],[0,1,2,3,4,5,6,7,8,9,16,17,18,19,20],[0,1,2,3,4,5,6,7,8,9],[0,1,2,3,4,5,6,7,8,9,16,17,18,19,20,21,22],[0,1,2,3,4,5,6,7,8,9,16,17,18,19,20,21,22,23],[0,1,2,3,4,5,6,7,8,9,10,11,12,13,14,15,16,17,18,19,20,21,22,23,24],[0,1,2,3,4,5,6,7,8,9,10,11,12,13,14,15,16,17,18,19,20,21,22,23,24,25],[0,1,2,3,4,5,6,7,8,9,10,11,12,13,14,15,16,17,18,19,20,21,22,23,24,25,26]]),(24,[[],[0],[0,1],[0,1,2],[0,1],[0,1,4],[0,1],[0,1,4,5,6],[0,1,4,5,6,7],[0,1,2,3,4,5,6,7,8],[0,1,2,3,4,5,6,7,8,9],[0,1,2,3,4,5,6,7,8,9,10],[0,1,2,3,4,5,6,7,8,9,10,11],[0,1,2,3,4,5,6,7,8,9,10,11,12],[0,1,2,3,4,5,6,7,8,9,10,11],[0,1,2,3,4,5,6,7,8,9,10,11,12,13,14],[0,1,2,3,4,5,6,7,8,9,10,11,12,13,14,15],[0,1,2,3,4,5,6,7,8,9,10,11,12,13,14,15,16],[0,1,2,3,4,5,6,7,8,9,10,11],[0,1,2,3,4,5,6,7,8,9,10,11,18],[0,1,2,3,4,5,6,7,8,9,10,11],[0,1,2,3,4,5,6,7,8,9,10,11,18,19,20],[0,1,2,3,4,5,6,7,8,9,10,11,18,19,20,21],[0,1,2,3,4,5,6,7,8,9,10,11,18,19,20,21,22],[0,1,2,3,4,5,6,7,8,9,10,11,12,13,14,15,16,17,18,19,20,21,22,23],[0,1,2,3,4,5,6,7,8,9,10,11,12,13,14,15,16,17,18,19,20,21,22,23,24],[0,1,2,3,4,5,6,7,8,9,10,11,12,13,14,15,16,17,18,19,20,21,22,23,24,25],[0,1,2,3,4,5,6,7,8,9,10,11,12,13,14,15,16,17,18,19,20,21,22,23,24,25,26],[0,1,2,3,4,5,6,7,8,9,10,11,12,13,14,15,16,17,18,19,20,21,22,23,24,25,26,27],[0,1,2,3,4,5,6,7,8,9,10,11,12,13,14,15,16,17,18,19,20,21,22,23,24,25,26],[0,1,2,3,4,5,6,7,8,9,10,11,12,13,14,15,16,17,18,19,20,21,22,23,24,25,26,27,28,29],[0,1,2,3,4,5,6,7,8,9,10,11,12,13,14,15,16,17,18,19,20,21,22,23,24,25,26,27,28,29,30],[0,1,2,3,4,5,6,7,8,9,10,11,12,13,14,15,16,17,18,19,20,21,22,23,24,25,26],[0,1,2,3,4,5,6,7,8,9,10,11,12,13,14,15,16,17,18,19,20,21,22,23,24,25,26],[0,1,2,3,4,5,6,7,8,9,10,11,12,13,14,15,16,17,18,19,20,21,22,23,24,25,26,33],[0,1,2,3,4,5,6,7,8,9,10,11,12,13,14,15,16,17,18,19,20,21,22,23,24,25,26],[0,1,2,3,4,5,6,7,8,9,10,11,12,13,14,15,16,17,18,19,20,21,22,23,24,25,26,33,34,35],[0,1,2,3,4,5,6,7,8,9,10,11,12,13,14,15,16,17,18,19,20,21,22,23,24,25,26,33,34,35,36],[0,1,2,3,4,5,6,7,8,9,10,11,12,13,14,15,16,17,18,19,20,21,22,23,24,25,26,33,34,35,36,37],[0,1,2,3,4,5,6,7,8,9,10,11,12,13,14,15,16,17,18,19,20,21,22,23,24,25,26,27,28,29,30,31,32,33,34,35,36,37,38],[0,1,2,3,4,5,6,7,8,9,10,11,12,13,14,15,16,17,18,19,20,21,22,23,24,25,26,27,28,29,30,31,32,33,34,35,36,37,38,39],[0,1,2,3,4,5,6,7,8,9,10,11,12,13,14,15,16,17,18,19,20,21,22,23,24,25,26,27,28,29,30,31,32,33,34,35,36,37,38,39,40],[0,1,2,3,4,5,6,7,8,9,10,11,12,13,14,15,16,17,18,19,20,21,22,23,24,25,26,27,28,29,30,31,32,33,34,35,36,37,38,39,40,41]])] [] [] [] [(58,⟨75557863725914323289024,[],[],[(7,.k (.d (.int .i64)))],[((.exit 0),[]),(.ret,[(6,.k (.d (.bool)))])],bnd tb (.len (.ld 29 (.fld 71 0 (.slot 5)))) 1⟩),
 (122,⟨2596148429191855950539333841192000,[],[],[(10,.k (.d (.int .i64)))],[((.exit 2),[]),(.ret,[(6,.k (.d (.bool)))])],bnd tb (.len (.ld 29 (.fld 33 4 (.slot 3)))) 1⟩),
 (250,⟨748288838313422291524138205083323091798589297408064,[],[],[(11,.k (.d (.int .i64)))],[((.exit 4),[]),(.ret,[(6,.k (.d (.bool)))])],bnd tb (.len (.ld 69 (.fld 71 4 (.slot 5)))) 1⟩),
 (64074,⟨187072209578355241223072712358716000564194295427072,[],[],[(12,.k (.d (.bool))),(13,.k (.d (.int .i64)))],[((.exit 6),[(12,.k (.d (.bool)))])],bnd tb (.len (.ld 29 (.fld 33 4 (.slot 3)))) 1⟩)] [] [] []
def b2o (n:Nat):Row I:=⟨25,[.d (.dat 33),.d (.dat 27),.d (.dat 71)],[.k (.d (.bool))],a0e n⟩
theorem b2Q (n:Nat):RK (b2o n) :=
 okR [eR a8v,eR (a8n n)] 169 (b3y n) [.tmp 6] Go.Proofs.Tryz.func25 (by kernel_rfl)
def b0r (_:Nat):Hints I:=mkH [(8,[[],[],[],[2],[2,3],[2,3,4],[],[6],[2,3,4,5,6,7],[0,1,2,3,4,5,6,7,8],[],[0,1,2,3,4,5,6,7,8,9,10]]),(13,[[],[],[],[],[2,3],[2,3,4],[0,1,2,3,4,5],[0,1,2,3,4,5,6],[0,1,2,3,4,5,6,7],[0,1,2,3,4,5,6,7,8],[0,1,2,3,4,5,6,7,8],[0,1,2,3,4,5,6,7,8],[0,1,2,3,4,5,6,7,8],[0,1,2,3,4,5,6,7,8,11,12],[0,1,2,3,4,5,6,7,8,11,12,13],[0,1,2,3,4,5,6,7,8,9,10,11,12,13,14],[0,1,2,3,4,5,6,7,8],[0,1,2,3,4,5,6,7,8],[0,1,2,3,4,5,6,7,8],[0,1,2,3,4,5,6,7,8],[0,1,2,3,4,5,6,7,8,18,19],[0,1,2,3,4,5,6,7,8,18,19,20],[0,1,2,3,4,5,6,7,8,9,10,11,12,13,14,15,16,17,18,19,20,21],[0,1,2,3,4,5,6,7,8,9,10,11,12,13,14,15,16,17,18,19,20,21,22],[0,1,2,3,4,5,6,7,8,9,10,11,12,13,14,15,16,17,18,19,20,21,22,23]]),(15,[[],[0],[0,1],[0,1],[0,1],[0,1],[0,1,4,5],[0,1,4,5,6],[0,1,2,3,4,5,6,7],[0,1,2,3,4,5,6,7,8],[0,1,2,3,4,5,6,7,8,9]])] [] [] [] [(4090,⟨1267650600227652940744399806528,[9],[],[(13,.k (.d (.bool))),(14,.k (.d (.int .i64)))],[((.exit 0),[(13,.k (.d (.bool)))]),(.ret,[(6,.k (.d (.bool)))])],bnd tb (.len (.slot 9)) 1⟩)] [] [] []
noncomputable def a9g (n:Nat):Row I:=⟨5,[.d (.sl 3),.d (.sl 3),.d (.sl 3)],[.k (.d (.bool))],a05 n⟩
theorem a9B (n:Nat):RK (a9g n) :=
 okR [eR b5b,eR (b4v n),eR b6f,eR (b2y n),eR w8,eR (b0D n),eR b4b,eR (b02 n),eR (b2Q n),eR (a8n n)] 118 (b0r n) [.tmp 6] Go.Proofs.Tryz.func5 (by kernel_rfl)
end Go.Qx
end
section
namespace Go.Pl
open Go Go.RowKit Go.Sx Go.Qx Go.Proofs.YtmcfcgaiecgdhaaGreat
def a9Q (w:World):S:=⟨w,fun b=>match w.heap[b]? with | some (.cells c _ _)=>(c.size,0) | _=>(0,0)⟩
theorem c5v {w:World}{b o:Nat}{cs:List Value}(hn:cs≠[])(h:w.rangeAt b o cs):a3U (a9Q w) b o cs:=by
 refine ⟨?_,h⟩
 have hl:0<cs.length:=List.length_pos_iff.2 hn
 have hj:=h (cs.length-1) _ (List.getElem?_eq_getElem (by omega))
 unfold World.cell? at hj
 simp only at hj
 split at hj
 ·rename_i c e f hb
  have h2:o+(cs.length-1)<c.size:=by
   simp only [Option.isSome_none,Bool.false_eq_true,if_false] at hj
   exact (Array.getElem?_eq_some_iff.1 hj).1
  show o+cs.length<=(match w.heap[b]? with | some (.cells c _ _)=>(c.size,0) | _=>(0,0)).1
  rw [hb]
  show o+cs.length<=c.size
  omega
 ·cases hj
theorem c6c {w:World}{base:Nat}{a:Addr}{n:Nat}{cs:List Value}(h:w.cells? base a n=some cs) :
 cs.length=n/\∀ (i:Nat) (v:Value),cs[i]?=some v->w.cell? (a.add i)=some v:=by
 unfold World.cells? at h
 split at h
 ·have hl:cs.length=n:=by simpa using mapM_some_length h
  refine ⟨hl,fun i v hv=>?_⟩
  have hi:i<n:=by have:=(List.getElem?_eq_some_iff.1 hv).1; omega
  have:=mapM_some_get h i i (by simp [hi])
  rw [this,hv]
 ·cases h
theorem d0n (a:Addr)(x j:Nat):(a.add x).add j=a.add (x+j):=by
 unfold Addr.add
 by_cases hx:x=0
 ·subst hx; simp
 ·by_cases hj:j=0
  ·subst hj; simp [hx]
  ·rw [if_neg hj,if_neg hx,if_neg (by omega),Nat.add_assoc]
theorem c7g {w:World}{a:Addr}{v:Value}(h:w.cell? a=some v):a.spot=none:=by
 unfold World.cell? at h
 split at h
 ·split at h
  ·cases h
  ·rename_i hs; simpa using hs
 ·cases h
section
variable {H:Type}{enc:TypeId×Value->H}{P:Program}{w:World}{base:Nat}{spare:Nat->Bool}{held:Bool}
theorem b55 {α:Type} [Rp α] {fuel:Nat}{t e:TypeId}{cs:List Value}{x:DataW H×List MemPlace}(ht:P.underlying t=some (.slice e))(hc:P.cellsOf e=Rp.sz α)(bk:α->Nat)
 (hrd:∀ (n:Nat) (cs:List Value) (x:DataW H×List MemPlace),n<fuel->DataW.trod enc P w base spare held n e cs=some x->∃ d:α,Rp.cells (a9Q w) d cs/\bk d<=Rows.uptoBulk x.1)
 (h:DataW.trod enc P w base spare held fuel t cs=some x) :
 ∃ (ds:List α) (A:Option Addr) (c:Nat),cs=[.slice A ds.length c]/\Sl (a9Q w) ds A c/\(ds.map bk).sum+1<=Rows.uptoBulk x.1:=by
 rcases DataW.trod_slice ht h with ⟨rfl,rfl⟩ | ⟨a,len,cap,elems,rest,n,rfl,rfl,rfl,hb,hl,hm,hle,hget,-,-⟩
 ·exact ⟨[],none,0,rfl,Sl.nil_ _ _ _ (Nat.zero_le _),by simp [Rows.uptoBulk]⟩
 have key:∀ (m i:Nat),i+m=len->∃ (ds:List α) (cs:List Value),ds.length=m/\K7 (a9Q w) ds cs /\
  (∀ (j:Nat) (v:Value),cs[j]?=some v->w.cell? (a.add (i*Rp.sz α+j))=some v)/\(ds.map bk).sum<=Rows.uptoBulkAll ((elems.drop i).map (·.1)):=by
  intro m
  induction m with
  | zero=>intro i _; exact ⟨[],[],rfl,rfl,fun j v hv=>by simp at hv,by simp⟩
  | succ m ih =>
    intro i hi
    obtain ⟨ds,cs,h1,h2,h3,h4⟩:=ih (i+1) (by omega)
    have hlt:i<elems.length:=by omega
    have hg:=hget i (by omega)
    rw [List.getElem?_eq_getElem hlt,Option.bind_eq_some_iff] at hg
    obtain ⟨cs0,hcs,htr⟩:=hg
    obtain ⟨d,hd,hbk⟩:=hrd n cs0 _ (by omega) htr
    obtain ⟨hcl,hci⟩:=c6c hcs
    rw [hc] at hcl hci
    refine ⟨d::ds,cs0++cs,by simp [h1],⟨cs0,cs,rfl,hd,h2⟩,?_,?_⟩
    ·intro j v hv
     by_cases hj:j<Rp.sz α
     ·rw [List.getElem?_append_left (by omega)] at hv
      rw [<- d0n]
      exact hci j v hv
     ·rw [List.getElem?_append_right (by omega)] at hv
      have:=h3 _ v hv
      rw [hcl,Nat.add_mul,Nat.one_mul] at this
      have e:i*Rp.sz α+Rp.sz α+(j-Rp.sz α)=i*Rp.sz α+j:=by omega
      rw [e] at this
      exact this
    ·rw [List.drop_eq_getElem_cons hlt]
     simp only [List.map_cons,List.sum_cons,Rows.uptoBulkAll]
     omega
 obtain ⟨ds,cs,h1,h2,h3,h4⟩:=key len 0 (by omega)
 simp only [Nat.zero_mul,Nat.zero_add,List.drop_zero] at h3 h4
 refine ⟨ds,some a,cap,by rw [h1],⟨by omega,hm,cs,h2,fun hn=>?_⟩,by simp only [Rows.uptoBulk]; omega⟩
 have hne:=h2.ne_nil hn
 cases cs with
 | nil=>exact absurd rfl hne
 | cons v0 r =>
   have h0:=h3 0 v0 rfl
   have hs:a.spot=none:=c7g (by simpa [Addr.add] using h0)
   obtain ⟨b,o,sp⟩:=a
   simp only at hs
   subst hs
   refine ⟨b,o,rfl,c5v (by simp) ?_⟩
   intro j v hv
   have:=h3 j v hv
   unfold Addr.add at this
   by_cases hj:j=0
   ·subst hj; simpa using this
   ·rw [if_neg hj] at this
    exact this
end
theorem c8Q {α:Type}{l:List α}(h:l.length=2):∃ a b,l=[a,b]:=by
 match l,h with
 | [a,b],_=>exact ⟨a,b,rfl⟩
end Go.Pl
end
section
namespace Go.Pl
open Go Go.RowKit Go.Sx Go.Qx
def b4H (_:Int):Nat:=1
def b89 (l:List Int):Nat:=(l.map b4H).sum+1
end Go.Pl
end
section
namespace Go.Pl
open Go Go.RowKit Go.Sx Go.Qx Go.Proofs.YtmcfcgaiecgdhaaGreat
theorem c3:Go.Proofs.Tryz.prog.cellsOf 3=1:=by kernel_rfl
section
variable {H:Type}{enc:TypeId×Value->H}{w:World}{base:Nat}{spare:Nat->Bool}{held:Bool}
theorem c8G {n:Nat}{cs:List Value}{x:DataW H×List MemPlace}(h:DataW.trod enc Go.Proofs.Tryz.prog w base spare held n 3 cs=some x):∃ d:Int,(rpK .i64).cells (a9Q w) d cs/\b4H d<=Rows.uptoBulk x.1:=by
 obtain ⟨k,e0,rfl,_⟩:=DataW.trod_int Go.Proofs.Tryz.underlying3 h
 exact ⟨k,e0,by simp [b4H,Rows.uptoBulk]⟩
end
end Go.Pl
end

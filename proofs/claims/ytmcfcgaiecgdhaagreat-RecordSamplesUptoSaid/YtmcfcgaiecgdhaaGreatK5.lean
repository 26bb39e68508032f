/- Part 5. -/
import Derived.Test.YtmcfcgaiecgdhaaGreatK3
import Derived.Test.YtmcfcgaiecgdhaaGreatK4
import Derived.ChangeArms
import Derived.KernelRfl
import Derived.OpenShut
import Derived.Shelf.Lays
import Derived.Shelf.SlLaysF
import Derived.Shelf.SlLaysF0
import Derived.Test.YtmcfcgaiecgdhaaGreatProg
import Derived.Test.YtmcfcgaiecgdhaaGreatRows
section
namespace Go.Pl
open Go Go.RowKit Go.Sx Go.Qx
def sq (kd:Int)(i:Nat):List Int:=if kd=1 then (if i=0 then [] else [(i:Int)-1]) else
 if i<26 then [97+(i:Int)] else if i<36 then [97,48+((i:Int)-26)] else if i=36 then [97,95] else [97,97+((i:Int)-37)]
def nm (kd:Int)(i:Nat):ByteArray:=b2y (sq kd i)
def abA:ByteArray:=⟨#[97,98,99,100,101,102,103,104,105,106,107,108,109,110,111,112,113,114,115,116,117,118,119,120,121,122]⟩
def abB:ByteArray:=⟨#[48,49,50,51,52,53,54,55,56,57,95,97,98,99,100,101,102,103,104,105,106,107,108,109,110,111,112,113,114,115,116,117,118,119,120,121,122]⟩
def c0S:ByteArray:=⟨((List.range 256).map fun i=>UInt8.ofNat i).toArray⟩
theorem d36:∀ i,i<60->a83 0 (sq 0 i)=some (sq 0 (i+1)):=by decide +kernel
theorem d4q:∀ i,i<60->a83 1 (sq 1 i)=some (sq 1 (i+1)):=by decide +kernel
theorem d3r:∀ i,i<60->a4H (sq 0 i) abA abB=some (sq 0 (i+1)):=by decide +kernel
theorem d3i:∀ i,i<60->a4H (sq 1 i) c0S c0S=some (sq 1 (i+1)):=by decide +kernel
theorem d0e:a7U=some c0S:=by kernel_rfl
theorem c86:((List.range 60).map fun i=>(nm 0 i).data.toList).Nodup:=by decide +kernel
theorem c8S:((List.range 60).map fun i=>(nm 1 i).data.toList).Nodup:=by decide +kernel
theorem d4M:∀ i,i<60->Z8 (Key.mk 0 (nm 0 i))=true:=by decide +kernel
theorem d4P:∀ i,i<60->Z8 (Key.mk 1 (nm 1 i))=true:=by decide +kernel
theorem pig {α:Type} [BEq α] [LawfulBEq α]:∀ (l m:List α),l.Nodup->(∀ x∈l,x∈m)->l.length<=m.length
 | [],_,_,_=>Nat.zero_le _
 | x::l,m,hn,h=>by
   rw [List.nodup_cons] at hn
   have hx:=h x (List.mem_cons_self ..)
   have ih:=pig l (m.erase x) hn.2 fun y hy=>(List.mem_erase_of_ne (fun e=>hn.1 (by rw [<- e]; exact hy))).2 (h y (List.mem_cons_of_mem _ hy))
   rw [List.length_erase_of_mem hx] at ih
   have:=List.length_pos_of_mem hx
   rw [List.length_cons]
   omega
theorem d06 (u:Nat->Bool):∀ m,(∃ i,i<=m/\u i=false)->∃ i,i<=m/\u i=false/\∀ j,j<i->u j=true
 | 0,⟨i,h1,h2⟩=>⟨i,h1,h2,fun j hj=>by omega⟩
 | m+1,⟨i,h1,h2⟩=>by
   by_cases h:∃ i,i<=m/\u i=false
   ·obtain ⟨i,a,b⟩:=d06 u m h
    exact ⟨i,by omega,b⟩
   ·refine ⟨i,h1,h2,fun j hj=>?_⟩
    cases hu:u j with
    | true=>rfl
    | false=>exact absurd ⟨j,by omega,hu⟩ h
theorem b1y (x y:ByteArray):Y6 x y=true↔x=y:=by
 rw [b59,decide_eq_true_iff]
 exact ⟨c7j,fun h=>by subst h; exact d25.self x⟩
def a1K (kd:Int)(used:List Key):List ByteArray:=(used.filter fun k=>k.Kind==kd).map (·.Text)
def inT (l:List ByteArray)(t:ByteArray):Bool:=l.any fun x=>Y6 x t
theorem c6T {l:List ByteArray}{t:ByteArray}:inT l t=true↔t∈l:=by
 unfold inT
 rw [List.any_eq_true]
 exact ⟨fun ⟨x,h1,h2⟩=>by rw [<- (b1y x t).1 h2]; exact h1,fun h=>⟨t,h,(b1y t t).2 rfl⟩⟩
theorem c3y (kd:Int)(l:List Key)(k:Key):a1K kd (l++[k])=if (k.Kind==kd)=true then a1K kd l++[k.Text] else a1K kd l:=by
 unfold a1K
 rw [List.filter_append]
 cases h:(k.Kind==kd) with
 | true=>simp [List.filter,h]
 | false=>simp [List.filter,h]
theorem c03 (kd:Int)(l:List Key):(a1K kd l).length<=l.length:=by
 unfold a1K
 rw [List.length_map]
 exact List.length_filter_le _ _
def frN (kd:Int)(used:List Key):Nat:=((List.range 60).find? fun i=>!inT (a1K kd used) (nm kd i)).getD 0
def frK (kd:Int)(used:List Key):Key:=Key.mk kd (nm kd (frN kd used))
theorem d3b {kd:Int}(hk:kd=0\/kd=1):((List.range 60).map fun i=>nm kd i).Nodup:=by
 have h:((List.range 60).map fun i=>(nm kd i).data.toList).Nodup:=by
  rcases hk with rfl | rfl
  ·exact c86
  ·exact c8S
 have e:((List.range 60).map fun i=>(nm kd i).data.toList)=((List.range 60).map fun i=>nm kd i).map fun s=>s.data.toList:=by rw [List.map_map]; rfl
 rw [e] at h
 exact (List.pairwise_map.1 h).imp fun hne e=>hne (by rw [e])
theorem c5b {kd:Int}(hk:kd=0\/kd=1){used:List Key}(hl:used.length<=50):frN kd used<=50/\inT (a1K kd used) (nm kd (frN kd used))=false/\∀ j,j<frN kd used->inT (a1K kd used) (nm kd j)=true:=by
 have htl:=c03 kd used
 have hex:∃ i,i<=50/\inT (a1K kd used) (nm kd i)=false:=by
  apply Classical.byContradiction
  intro hno
  have hall:∀ x∈(List.range 51).map fun i=>nm kd i,x∈a1K kd used:=fun x hx=>by
   obtain ⟨i,hi,rfl⟩:=List.mem_map.1 hx
   rw [List.mem_range] at hi
   cases hu:inT (a1K kd used) (nm kd i) with
   | true=>exact c6T.1 hu
   | false=>exact absurd ⟨i,by omega,hu⟩ hno
  have hnd:((List.range 51).map fun i=>nm kd i).Nodup:=by
   have h:=d3b hk
   have e:(List.range 51).map (fun i=>nm kd i)=((List.range 60).map fun i=>nm kd i).take 51:=by rw [<- List.map_take,List.take_range]; rfl
   rw [e]
   exact h.sublist (List.take_sublist _ _)
  have:LawfulBEq ByteArray:={ eq_of_beq:=fun h=>(MapKept.bytes_beq _ _).1 h,rfl:=(MapKept.bytes_beq _ _).2 rfl }
  have:=pig _ _ hnd hall
  rw [List.length_map,List.length_range] at this
  omega
 obtain ⟨i,h1,h2,h3⟩:=d06 (fun i=>inT (a1K kd used) (nm kd i)) 50 hex
 have hf:frN kd used=i:=by
  unfold frN
  rw [b1Z (l:=List.range 60) (i:=i) (x:=i) (by rw [List.getElem?_range (by omega)]) (by rw [h2]; rfl) fun j hj y hy=>by
   rw [List.getElem?_range (by omega)] at hy
   cases hy
   rw [h3 j hj]
   rfl]
  rfl
 rw [hf]
 exact ⟨h1,h2,h3⟩
section
variable {kd:Int}{used:List Key}
theorem d1T (kd:Int):a2E kd 0=some []:=by rfl
theorem d3w (hl:used.length<=4194304) :
 ∃ m,z7 (a33 kd used) (used.length+1) (([]:List (ByteArray×Bool)),0)=some m/\∀ t,(a49 m t).getD false=inT (a1K kd used) t:=by
 obtain ⟨r,e,h⟩:=a7n (σ:=List (ByteArray×Bool)) (step:=a33 kd used) (fun m i=>(m,i)) used.length (fun j m=>∀ t,(a49 m t).getD false=inT (a1K kd (used.take j)) t) (fun m=>∀ t,(a49 m t).getD false=inT (a1K kd used) t)
  (fun j m hj hI=>by
    have ej:=List.getElem?_eq_getElem hj
    unfold a33
    simp only [k8]
    rw [k9 hj,y4 ej,j5 j (by omega),a2q ej,c3y]
    simp only [cond_true,Option.bind_some]
    cases hk:(used[j].Kind==kd) with
    | false=>exact .inl ⟨m,rfl,fun t=>by rw [if_neg (by simp)]; exact hI t⟩
    | true =>
      refine .inl ⟨a7R m used[j].Text true,rfl,fun t=>?_⟩
      rw [if_pos rfl,d0D]
      unfold inT
      rw [List.any_append]
      have hI':=hI t
      unfold inT at hI'
      by_cases e:t=used[j].Text
      ·rw [if_pos e]
       simp [e,(b1y used[j].Text used[j].Text).2 rfl]
      ·rw [if_neg e,hI']
       have:Y6 used[j].Text t=false:=by
        cases hs:Y6 used[j].Text t with
        | false=>rfl
        | true=>exact absurd ((b1y _ _).1 hs).symm e
       simp [this])
  (fun m hI=>⟨m,by
    unfold a33
    simp,by rw [List.take_length] at hI; exact hI⟩) [] (fun t=>by simp [a1K,inT,a49])
 exact ⟨r,e,h⟩
theorem d0c (hk:kd=0\/kd=1)(hl:used.length<=50)(n:Nat)(hn:60<=n):a7G n kd used=some (frK kd used):=by
 obtain ⟨h1,h2,h3⟩:=c5b hk hl
 obtain ⟨m,em,hm⟩:=d3w (kd:=kd) (used:=used) (by omega)
 have hnext:∀ i,i<60->a83 kd (sq kd i)=some (sq kd (i+1)):=by
  rcases hk with rfl | rfl
  ·exact d36
  ·exact d4q
 have h4:=a3d (step:=a37 kd) (fun i=>(m,sq kd i)) (frN kd used) (m,sq kd (frN kd used)) (fun i hi=>by
  unfold a37
  rw [hm,show b2y (sq kd i)=nm kd i from rfl,h3 i hi]
  simp only [cond_true]
  rw [hnext i (by omega)]
  rfl) (by
  unfold a37
  rw [hm,show b2y (sq kd (frN kd used))=nm kd (frN kd used) from rfl,h2]
  rfl) n (by omega)
 have hb:(Option.bind (a2E kd 0) fun r5=>Option.bind (bif kd==0 then (Option.bind (a2E kd 1) fun r6=>some r6) else (some r5)) fun b7=>Option.bind (z7 (a37 kd) n (m,b7)) fun b10=>some (Key.mk kd (b2y b10.2)))=some (frK kd used):=by
  have hq:(bif kd==0 then (Option.bind (a2E kd 1) fun r6=>some r6) else (some ([]:List Int)))=some (sq kd 0):=by
   rcases hk with rfl | rfl
   ·rfl
   ·rfl
  rw [d1T]
  simp only [Option.bind_some]
  rw [hq]
  simp only [Option.bind_some]
  rw [h4]
  rfl
 have hc:(bif kd != 0 then (some (kd != 1)) else (some false))=some false:=by rcases hk with rfl | rfl<;>rfl
 unfold a7G
 rw [hc,w7,em]
 simp only [Option.bind_some,cond_false]
 exact hb
theorem c9t (hk:kd=0\/kd=1)(hl:used.length<=50)(n:Nat)(hn:60<=n):a4r n kd used=some (frK kd used):=by
 obtain ⟨h1,h2,h3⟩:=c5b hk hl
 have htl:=c03 kd used
 have e1:=a3d (step:=a1F kd used) (fun j=>(a1K kd (used.take j),(j:Int))) used.length (a1K kd used) (fun j hj=>by
  have ej:=List.getElem?_eq_getElem hj
  have hj2:=c03 kd (used.take j)
  rw [List.length_take] at hj2
  unfold a1F
  simp only [k8]
  rw [k9 hj,y4 ej,j5 j (by omega),a2q ej,c3y]
  simp only [cond_true,Option.bind_some]
  cases hk:(used[j].Kind==kd) with
  | false=>rfl
  | true =>
    simp only [cond_true]
    rw [v7 (by simp only [List.length_cons,List.length_nil]; omega)]
    rfl) (by
  unfold a1F
  rw [List.take_length]
  simp) (used.length+1) (Nat.le_refl _)
 have e1':z7 (a1F kd used) (used.length+1) ([],0)=some (a1K kd used):=e1
 have among:∀ t,a5K (a1K kd used) t=some (inT (a1K kd used) t):=fun t=>by
  unfold a5K
  rw [w7]
  rcases a4B (step:=a4s (a1K kd used) t) (a1K kd used) (fun x=>Y6 x t) (fun _ _=>true) (fun i x hx=>by
   have hi:=(List.getElem?_eq_some_iff.1 hx).1
   unfold a4s
   rw [k9 hi,y4 hx]
   simp only [cond_true,Option.bind_some,k8]
   rw [j5 i (by omega)]
   cases Y6 x t<;>rfl) (by
   unfold a4s
   simp) with ⟨i,x,hx,hp,_,e⟩ | ⟨h,e⟩
  ·rw [e]
   have:inT (a1K kd used) t=true:=List.any_eq_true.2 ⟨x,List.mem_of_getElem? hx,hp⟩
   rw [this]
   rfl
  ·rw [e]
   have:inT (a1K kd used) t=false:=h
   rw [this]
   rfl
 have core:∀ (f o:ByteArray),(∀ i,i<60->a4H (sq kd i) f o=some (sq kd (i+1)))->z7 (a0P (a1K kd used) (f,o,sq kd 0)) n (sq kd 0)=some (sq kd (frN kd used)):=fun f o hnext =>
  a3d (step:=a0P (a1K kd used) (f,o,sq kd 0)) (fun i=>sq kd i) (frN kd used) (sq kd (frN kd used)) (fun i hi=>by
   unfold a0P
   rw [show b2y (sq kd i)=nm kd i from rfl,among,h3 i hi]
   simp only [Option.bind_some,cond_true]
   rw [hnext i (by omega)]
   rfl) (by
   unfold a0P
   rw [show b2y (sq kd (frN kd used))=nm kd (frN kd used) from rfl,among,h2]
   rfl) n (by omega)
 have e2:a5L n kd (a1K kd used)=some (nm kd (frN kd used)):=by
  unfold a5L
  rcases hk with rfl | rfl
  ·have hc:=core abA abB d3r
   show Option.bind (z7 (a0P (a1K 0 used) (abA,abB,sq 0 0)) n (sq 0 0)) _=_
   rw [hc]
   rfl
  ·have hc:=core c0S c0S d3i
   rw [d0e]
   show Option.bind (z7 (a0P (a1K 1 used) (c0S,c0S,sq 1 0)) n (sq 1 0)) _=_
   rw [hc]
   rfl
 have hc:(bif kd != 0 then (some (kd != 1)) else (some false))=some false:=by rcases hk with rfl | rfl<;>rfl
 unfold a4r
 rw [hc,w7,e1']
 simp only [Option.bind_some,cond_false]
 rw [e2]
 rfl
theorem d2A (hk:kd=0\/kd=1)(hl:used.length<=50):Z8 (frK kd used)=true/\frK kd used ∉ used:=by
 obtain ⟨h1,h2,_⟩:=c5b hk hl
 refine ⟨?_,fun hm=>?_⟩
 ·unfold frK
  rcases hk with rfl | rfl
  ·exact d4M _ (by omega)
  ·exact d4P _ (by omega)
 ·have:nm kd (frN kd used)∈a1K kd used:=by
   unfold a1K
   refine List.mem_map.2 ⟨frK kd used,List.mem_filter.2 ⟨hm,?_⟩,rfl⟩
   show (kd==kd)=true
   simp
  rw [c6T.2 this] at h2
  cases h2
end
end Go.Pl
end
section
namespace Go.Pl
open Go Go.RowKit Go.Sx Go.Qx
theorem c3s {α:Type}{step:List α×Int->Option (Fl (List α×Int) (List α))}(xs:List α)(bytes:Nat)
 (hst:∀ (i:Nat) (s:List α) (x:α),xs[i]?=some x->step (s,(i:Int))=Option.bind (w5 (s.length+1) bytes) fun _=>some (.next (s++[x],w64 ((i:Int)+1))))
 (hend:∀ s,step (s,(xs.length:Int))=some (.done s))
 (hb:bytes<=1024) (hl:xs.length<=4194304) :
 z7 step (xs.length+1) (([]:List α),0)=some xs:=by
 have:=a2T (σ:=List α) (step:=step) xs (fun s i=>(s,(i:Int))) (fun s x=>s++[x]) (fun i s=>s=xs.take i) (fun s=>s)
  ?_ (fun s _=>hend s) [] (by simp) _ (Nat.le_refl _)
 ·have hf:∀ (l:List α) (s:List α),l.foldl (fun s x=>s++[x]) s=s++l:=by
   intro l
   induction l with
   | nil=>intro s; simp
   | cons x r ih=>intro s; rw [List.foldl_cons,ih]; simp
  rw [hf] at this
  simpa using this
 ·intro i s x hx hI
  have hi:i<xs.length:=(List.getElem?_eq_some_iff.1 hx).1
  have hs:s.length=i:=by rw [hI,List.length_take]; omega
  refine ⟨?_,by rw [a2q hx,hI]⟩
  rw [hst i s x hx,v7 (by
   have:(s.length+1)*bytes<=4194305*1024:=Nat.mul_le_mul (by omega) hb
   omega)]
  simp only [Option.bind_some]
  rw [K5 (x:=(i:Int)+1) (by omega) (by omega)]
  rfl
theorem a7c:∀ (k:Nat),
 (∀ v,2*w9 v<=k->w9 v<=4194304->(Z2 k).1 v=some v) /\
 (∀ vs,2*v8 vs+1<=k->v8 vs<=4194304->(Z2 k).2.1 vs=some vs) /\
 (∀ es,2*Z3 es+1<=k->Z3 es<=4194304->(Z2 k).2.2 es=some es)
 | 0=>⟨fun v h=>by have:=b0C v; omega,fun _ h=>by omega,fun _ h=>by omega⟩
 | k+1=>by
   obtain ⟨i2,i1,i3⟩:=a7c k
   refine ⟨?_,?_,?_⟩
   ·intro v h hb
    show b0Z k (Z2 k).1 (Z2 k).2.1 (Z2 k).2.2 v=_
    have hbe:=a3P v
    have hk:=a7d v.Keys
    have hs:=a5R v.Labels
    unfold b0Z a0o
    rw [i1 v.Kids (by omega) (by omega),i3 v.Entries (by omega) (by omega),v7 (by omega),v7 (by omega)]
    simp only [Option.bind_some]
    cases v
    rfl
   ·intro vs h hb
    show a8r k (Z2 k).1 (Z2 k).2.1 (Z2 k).2.2 vs=_
    unfold a8r
    have hl:=a6G vs
    rw [w7,c3s (step:=a5O vs (Z2 k).1) vs 128 ?_ ?_ (by omega) (by omega)]
    ·simp only [Option.bind_some]
    ·intro i s x hx
     have hi:i<vs.length:=(List.getElem?_eq_some_iff.1 hx).1
     have hm:=a2D (List.mem_of_getElem? hx)
     unfold a5O
     simp only [X6,k8]
     rw [if_pos (by simp; omega),y4 hx]
     simp only [Option.bind_some]
     rw [i2 x (by omega) (by omega)]
     rfl
    ·intro s
     unfold a5O
     simp
   ·intro es h hb
    show a6t k (Z2 k).1 (Z2 k).2.1 (Z2 k).2.2 es=_
    unfold a6t
    have hl:=a5r es
    rw [w7,c3s (step:=a3J es (Z2 k).2.1 (Z2 k).1) es 160 ?_ ?_ (by omega) (by omega)]
    ·simp only [Option.bind_some]
    ·intro i s x hx
     have hi:i<es.length:=(List.getElem?_eq_some_iff.1 hx).1
     have hm:=a2a (List.mem_of_getElem? hx)
     have he:=a3c x
     unfold a3J
     simp only [X6,k8]
     rw [if_pos (by simp; omega),y4 hx]
     simp only [Option.bind_some,Int.toNat_natCast,hx]
     rw [i1 x.Args (by omega) (by omega)]
     simp only [Option.bind_some]
     rw [i2 x.Result (by omega) (by omega)]
     simp only [Option.bind_some]
     cases x
     rfl
    ·intro s
     unfold a3J
     simp
end Go.Pl
end
section
namespace Go.Pl
open Go Go.RowKit Go.Sx Go.Qx
theorem d2T (fuel:Nat)(v:Val)(h:2*w9 v<=fuel)(hb:w9 v<=4194304):a7X fuel v=some v:=(a7c fuel).1 v h hb
def rng (n:Nat):List Int:=(List.range n).map fun i:Nat=>(i:Int)
theorem c9F (n:Nat):rng (n+1)=rng n++[(n:Int)]:=by simp [rng,List.range_succ]
theorem b1X (n:Nat):(rng n).length=n:=by simp [rng]
theorem a5f {n:Nat}{x:Int}(h:x∈rng n):∃ i:Nat,i<n/\x=(i:Int):=by
 obtain ⟨i,hi,e⟩:=List.mem_map.1 h
 exact ⟨i,List.mem_range.1 hi,e.symm⟩
theorem d0V (keys:List Key)(hl:keys.length<=4194304):z7 (a4Q keys) (keys.length+1) ([],0)=some (rng keys.length):=by
 have key:∀ (m i k:Nat),i+m=keys.length->m+1<=k->z7 (a4Q keys) k (rng i,(i:Int))=some (rng keys.length):=by
  intro m
  induction m with
  | zero =>
    intro i k h1 h2
    obtain ⟨k,rfl⟩:∃ m,k=m+1:=⟨k-1,by omega⟩
    have e:i=keys.length:=by omega
    subst e
    have:a4Q keys (rng keys.length,(keys.length:Int))=some (.done (rng keys.length)):=by
     unfold a4Q
     simp
    simp only [z7,this,Option.bind_some]
  | succ m ih =>
    intro i k h1 h2
    obtain ⟨k,rfl⟩:∃ m,k=m+1:=⟨k-1,by omega⟩
    have:a4Q keys (rng i,(i:Int))=some (.next (rng (i+1),((i+1:Nat):Int))):=by
     unfold a4Q
     simp only [X6,k8]
     rw [if_pos (by simp; omega),v7 (by rw [b1X]; simp; omega),c9F,j5 i (by omega)]
     rfl
    simp only [z7,this,Option.bind_some]
    exact ih (i+1) k (by omega) (by omega)
 exact key keys.length 0 (keys.length+1) (by omega) (Nat.le_refl _)
theorem c9n (fuel:Nat)(keys:List Key)(l:List Val)(r:Unit×List Int)(i:Nat)(z:Int)(k:Key)(x:Val)(hz:r.2[i]?=some z)(hk:idx keys z=some k)(hx:idx l z=some x)(hc:a7X fuel x=some x)
 (s:List Val×List Key) (hs:s.1.length=s.2.length) (hl:s.2.length<=4194304) (hi:i<=4194304) :
 a3w keys l r fuel ((i:Int),K4,a2X s)=some (match b8H s (k,x) with | some t=>.next (((i+1:Nat):Int),K4,a2X t) | none=>.done (.inr (6,K4,a2X s))):=by
 have hlt:i<r.2.length:=(List.getElem?_eq_some_iff.1 hz).1
 have hiz:idx r.2 (i:Int)=some z:=y4 hz
 unfold a3w
 simp only [X6,k8]
 rw [if_pos (by simp; omega),hiz]
 simp only [Option.bind_some,hk,hx,hc]
 have rmk:w5 (s.2.length+[k].length) 24=some ():=v7 (by simp; omega)
 have rmv:w5 (s.1.length+[x].length) 128=some ():=v7 (by simp; omega)
 rw [rmk,rmv,j5 i (by omega)]
 simp only [Option.bind_some]
 unfold b8H
 cases hg:s.2.getLast? with
 | none =>
   have e:=List.getLast?_eq_none_iff.1 hg
   rw [if_neg (by simp [e]),if_neg (by simp)]
   rfl
 | some y =>
   have hgl:=hg
   rw [List.getLast?_eq_getElem?] at hgl
   have hpos:s.2.length-1<s.2.length:=(List.getElem?_eq_some_iff.1 hgl).1
   have ew:w64 ((s.2.length:Int)-1)=((s.2.length-1:Nat):Int):=by rw [K5 (by omega) (by omega)]; omega
   rw [if_pos (by simp; omega),ew,y4 hgl]
   simp only [Option.bind_some,Option.map_some]
   rw [show ((s.2.length-1:Nat):Int).toNat=s.2.length-1 by omega,hgl]
   simp only [Option.bind_some]
   cases hq:Z7 y k
   ·unfold Z7 at hq
    rw [hq,if_neg (by simp),if_neg (by simp)]
   ·unfold Z7 at hq
    rw [hq,if_pos rfl,if_pos rfl]
theorem d0h {s t:List Val×List Key}{x:Key×Val}(h:b8H s x=some t)(hs:s.1.length=s.2.length):t.1.length=t.2.length/\t.2.length=s.2.length+1:=by
 unfold b8H at h
 split at h
 ·cases h
 ·cases h
  exact ⟨by simp [hs],by simp⟩
theorem c8E (fuel:Nat)(keys:List Key)(l:List Val)(r:Unit×List Int)(ps:List (Key×Val))(hps:ps.length=r.2.length)(hl:r.2.length<=4194304)
 (hat:∀ (i:Nat) (z:Int) (q:Key×Val),r.2[i]?=some z->ps[i]?=some q->idx keys z=some q.1/\idx l z=some q.2/\a7X fuel q.2=some q.2) :
 ∃ y,z7 (a3w keys l r fuel) (r.2.length+1) (0,K4,a2X ([],[]))=some (match a7Z ps ([],[]) with | some t=>.inl (K4,a2X t) | none=>.inr (6,K4,y)):=by
 have key:∀ (m i k:Nat) (s:List Val×List Key),i+m=r.2.length->m+1<=k->s.1.length=s.2.length->s.2.length<=i ->
  ∃ y,z7 (a3w keys l r fuel) k ((i:Int),K4,a2X s)=some (match a7Z (ps.drop i) s with | some t=>.inl (K4,a2X t) | none=>.inr (6,K4,y)):=by
  intro m
  induction m with
  | zero =>
    intro i k s h1 h2 hs hn
    obtain ⟨k,rfl⟩:∃ m,k=m+1:=⟨k-1,by omega⟩
    have e:i=r.2.length:=by omega
    subst e
    rw [<- hps,List.drop_length,hps]
    have:a3w keys l r fuel ((r.2.length:Int),K4,a2X s)=some (.done (.inl (K4,a2X s))):=by
     unfold a3w
     simp
    exact ⟨K4,by simp only [z7,this,a7Z,Option.bind_some]⟩
  | succ m ih =>
    intro i k s h1 h2 hs hn
    obtain ⟨k,rfl⟩:∃ m,k=m+1:=⟨k-1,by omega⟩
    have hlt:i<ps.length:=by omega
    have hlt2:i<r.2.length:=by omega
    rw [List.drop_eq_getElem_cons hlt]
    obtain ⟨a1,a2,a3⟩:=hat i _ _ (List.getElem?_eq_getElem hlt2) (List.getElem?_eq_getElem hlt)
    have hy:=c9n fuel keys l r i _ _ _ (List.getElem?_eq_getElem hlt2) a1 a2 a3 s hs (by omega) (by omega)
    simp only [z7,hy,a7Z]
    cases hi:b8H s ps[i] with
    | none=>exact ⟨a2X s,by simp⟩
    | some t =>
      obtain ⟨h3,h4⟩:=d0h hi hs
      simp only [Option.bind_some]
      exact ih (i+1) k t (by omega) (by omega) h3 (by omega)
 obtain ⟨y,hy⟩:=key r.2.length 0 (r.2.length+1) ([],[]) (by omega) (Nat.le_refl _) rfl (Nat.le_refl _)
 exact ⟨y,by simpa using hy⟩
theorem d17 (fuel:Nat)(keys:List Key)(l:List Val)(hl:keys.length<=4194304)(hf:∀ v∈l,2*w9 v<=fuel/\w9 v<=4194304) :
 b0z fuel keys l=some (if keys.length=l.length/\keys.all Z8=true then (match a1G (keys.zip l) ([],[]) with | some t=>((a1N t,0):Val×Int) | none=>(a5y,6)) else (a5y,1)):=by
 unfold b0z
 simp only [w7]
 by_cases hkl:keys.length=l.length
 ·have e1:((keys.length:Int) != (l.length:Int))=false:=by simp; omega
  rw [e1]
  have k1:=K9 (step:=a6d keys) keys Z8 (fun i=>((i:Int),K4)) K4 (1,K4) ?_ ?_
  ·have e2:z7 (a6d keys) (keys.length+1) (0,(0,0,(⟨#[]⟩:ByteArray),[],[],[],[]))=z7 (a6d keys) (keys.length+1) (((0:Nat):Int),K4):=rfl
   rw [e2,k1]
   by_cases ha:keys.all Z8=true
   ·rw [if_pos ha,if_pos ⟨hkl,ha⟩,d0V keys hl]
    simp only [Option.bind_some,j9,cond_false]
    have hg:∀ i j:Nat,(hi:i<keys.length)->(hj:j<keys.length)->(Option.bind (a2x (i:Int) (j:Int) keys) fun r=>some r)=some (cK keys[i] keys[j]):=by
     intro i j hi hj
     unfold a2x
     rw [y4 (List.getElem?_eq_getElem hi),y4 (List.getElem?_eq_getElem hj)]
     simp only [Option.bind_some,b0l]
    have hlt:∀ i j:Nat,(hi:i<keys.length)->(hj:j<keys.length)->ltB (fun z10 z11=>Option.bind (a2x z10 z11 keys) fun r=>some r) (i:Int) (j:Int)=decide (cK keys[i] keys[j]<0):=by
     intro i j hi hj
     have:=hg i j hi hj
     simp only [ltB,this]
    have hwk:Swk (ltB fun z10 z11=>Option.bind (a2x z10 z11 keys) fun r=>some r) (rng keys.length):=by
     refine ⟨fun x hx=>?_,fun x hx y hy z hz h1 h2=>?_,fun x hx y hy z hz h1 h2=>?_⟩
     ·obtain ⟨i,hi,rfl⟩:=a5f hx
      rw [hlt i i hi hi,b9z]; rfl
     ·obtain ⟨i,hi,rfl⟩:=a5f hx
      obtain ⟨j,hj,rfl⟩:=a5f hy
      obtain ⟨n,hn,rfl⟩:=a5f hz
      rw [hlt _ _ hi hj] at h1
      rw [hlt _ _ hj hn] at h2
      rw [hlt _ _ hi hn]
      simp only [decide_eq_true_eq] at *
      exact b3A h1 (by omega)
     ·obtain ⟨i,hi,rfl⟩:=a5f hx
      obtain ⟨j,hj,rfl⟩:=a5f hy
      obtain ⟨n,hn,rfl⟩:=a5f hz
      rw [hlt _ _ hi hj] at h1
      rw [hlt _ _ hj hn] at h2
      rw [hlt _ _ hi hn]
      simp only [decide_eq_false_iff_not] at *
      have a1:=a3E keys[i] keys[j]
      have a2:=a3E keys[j] keys[n]
      have a3:=a3E keys[i] keys[n]
      have:=b2B keys[n] keys[j] keys[i] (by omega) (by omega)
      omega
    have hok:OkCmp (rng keys.length) fun z10 z11=>Option.bind (a2x z10 z11 keys) fun r=>some r:=by
     refine ⟨by rw [b1X]; omega,fun x hx y hy=>?_,hwk⟩
     obtain ⟨i,hi,rfl⟩:=a5f hx
     obtain ⟨j,hj,rfl⟩:=a5f hy
     exact ⟨_,hg i j hi hj⟩
    have hsort:a6Y (α:=Int) (rng keys.length) (fun z10 z11=>Option.bind (a2x z10 z11 keys) fun r=>some r)=some ((),a7A (ltB fun z10 z11=>Option.bind (a2x z10 z11 keys) fun r=>some r) (rng keys.length)):=by
     unfold a6Y c1S
     rw [if_pos hok]
     rfl
    rw [hsort]
    obtain ⟨hp,hsr⟩:=b4n hwk
    generalize a7A (ltB fun z10 z11=>Option.bind (a2x z10 z11 keys) fun r=>some r) (rng keys.length)=p at hp hsr
    simp only [Option.bind_some]
    let f:Int->Key×Val:=fun z=>((keys[z.toNat]?).getD ⟨0,⟨#[]⟩⟩,(l[z.toNat]?).getD a5y)
    have hf2:∀ i:Nat,(hi:i<keys.length)->f (i:Int)=(keys[i],l[i]'(by omega)):=by
     intro i hi
     have h2:i<l.length:=by omega
     simp [f,hi,h2]
    have hzip:(rng keys.length).map f=keys.zip l:=by
     apply List.ext_getElem
     ·rw [List.length_map,b1X,List.length_zip]; omega
     ·intro i h1 h2
      have hi:i<keys.length:=by rw [List.length_map,b1X] at h1; exact h1
      rw [List.getElem_map,List.getElem_zip]
      have:(rng keys.length)[i]'(by rw [b1X]; exact hi)=(i:Int):=by simp [rng]
      rw [this,hf2 i hi]
    have hpp:(p.map f).Perm (keys.zip l):=by rw [<- hzip]; exact hp.map f
    have hsorted:((p.map f).map (·.1)).Pairwise fun a b=>¬ cK b a<0:=by
     rw [List.map_map,List.pairwise_map]
     refine List.Pairwise.imp_of_mem (fun {a b} ha hb h=>?_) hsr
     obtain ⟨i,hi,rfl⟩:=a5f (hp.mem_iff.1 ha)
     obtain ⟨j,hj,rfl⟩:=a5f (hp.mem_iff.1 hb)
     rw [hlt _ _ hj hi] at h
     simp only [Function.comp,hf2 i hi,hf2 j hj]
     simpa using h
    have hplen:p.length=keys.length:=by rw [hp.length_eq,b1X]
    obtain ⟨y,hy⟩:=c8E fuel keys l ((),p) (p.map f) (by simp) (by simp only; omega) (by
     intro i z q hz hq
     simp only at hz
     rw [List.getElem?_map,hz] at hq
     obtain ⟨j,hj,rfl⟩:=a5f (hp.mem_iff.1 (List.mem_of_getElem? hz))
     simp only [Option.map_some,Option.some.injEq] at hq
     rw [hf2 j hj] at hq
     subst hq
     have h2:j<l.length:=by omega
     obtain ⟨b1,b2⟩:=hf l[j] (List.getElem_mem h2)
     exact ⟨y4 (List.getElem?_eq_getElem hj),y4 (List.getElem?_eq_getElem h2),d2T fuel _ b1 b2⟩)
    rw [c7K hkl hpp hsorted] at hy
    simp only at hy
    have hy':z7 (a3w keys l ((),p) fuel) (p.length+1) (0,(K4.1,K4.2.1,K4.2.2.1,K4.2.2.2.1,K4.2.2.2.2.1,K4.2.2.2.2.2.1,K4.2.2.2.2.2.2),(8,0,(⟨#[]⟩:ByteArray),[],[],[],[]))=_:=hy
    rw [hy']
    cases a1G (keys.zip l) ([],[])<;>rfl
   ·rw [if_neg ha,if_neg (fun h=>ha h.2)]
    rfl
  ·intro i x hx
   have hi:i<keys.length:=(List.getElem?_eq_some_iff.1 hx).1
   unfold a6d
   simp only [X6,k8]
   rw [if_pos (by simp; omega),y4 hx]
   simp only [Option.bind_some,c4S,j5 i (by omega)]
   cases Z8 x<;>rfl
  ·unfold a6d
   simp
 ·have e1:((keys.length:Int) != (l.length:Int))=true:=by simp; omega
  rw [e1,if_neg (fun h=>hkl h.1)]
  rfl
theorem d2a {keys:List Key}{l:List Val}(ha:keys.all Z8=true)(hv:a06 l=true){t:List Val×List Key}(h:a1G (keys.zip l) ([],[])=some t):vOK (a1N t)=true/\w9 (a1N t)<=8+w4 keys+v8 l:=by
 obtain ⟨m1,m2,m3,m4,m5,m6⟩:=a8U _ _ _ h rfl rfl
 have hz:=b3y keys l
 simp only [v8,w4] at m6
 refine ⟨?_,?_⟩
 ·rw [c6K]
  have a1:t.2.all Z8=true:=List.all_eq_true.2 fun y hy=>by
   rcases m4 y hy with hy | ⟨x,hx,rfl⟩
   ·simp at hy
   ·exact List.all_eq_true.1 ha _ (List.of_mem_zip hx).1
  have a2:a06 t.1=true:=by
   rw [a3W]
   rw [a3W] at hv
   exact List.all_eq_true.2 fun y hy=>by
    rcases m5 y hy with hy | ⟨x,hx,rfl⟩
    ·simp at hy
    ·exact List.all_eq_true.1 hv _ (List.of_mem_zip hx).2
  rw [a2]
  simp only [b1J,a1N,Val.Keys,Val.Kids]
  rw [a1,m1,m2]
  simp
 ·simp only [a1N,V3,a2Y,Z3]
  omega
theorem c3L {b:Nat}:∀ {l:List Val},(∀ v∈l,w9 v<=b)->v8 l<=l.length*b
 | [],_=>by simp [v8]
 | x::r,h=>by
   have h1:=h x (by simp)
   have h2:=c3L (l:=r) fun v hv=>h v (by simp [hv])
   simp only [v8,List.length_cons,Nat.add_mul]
   omega
end Go.Pl
end
section
namespace Go.Pl
open Go Go.RowKit Go.Sx Go.Qx
def V8 (s:Api_Shape)(parts:List Val):List (Key×Val):=((s.Keys.zip (s.States.zip parts)).filter fun q=>q.2.1==1).map fun q=>(q.1,q.2.2)
def a6s (T:Api_Type)(s:Api_Shape)(parts:List Val):Bool:=(s.Parts.zip (s.States.zip parts)).all fun q=>q.2.1 != 1||gM T q.2.2 q.1
def a40 (T:Api_Type)(s:Api_Shape)(vals:List Val):Bool:=(s.Some.zip vals).all fun q=>gM T q.2 q.1.Goal&&gM T q.2 (a8j s q.1.Kind)
def frL:List Api_SomeKey->List Key->List Key
 | [],_=>[]
 | w::r,u=>frK w.Kind u::frL r (u++[frK w.Kind u])
theorem a9K {α β:Type}:∀ {l:List α} {m:List β} {x:α} {y:β},l[m.length]?=some x->l.zip (m++[y])=l.zip m++[(x,y)]
 | [],m,_,_,h=>by simp at h
 | a::l,[],x,y,h=>by
   have h:some a=some x:=h
   cases h
   simp
 | a::l,b::m,x,y,h=>by
   have h:l[m.length]?=some x:=by simpa using h
   simp only [List.cons_append,List.zip_cons_cons,a9K h]
theorem c64 {α β:Type}:∀ (l:List α) (m:List β),((l.zip m).map (·.1)).Sublist l
 | [],_=>by simp
 | a::l,[]=>by simp
 | a::l,b::m=>by
   simp only [List.zip_cons_cons,List.map_cons]
   exact (c64 l m).cons_cons a
theorem c07:∀ (l:List Api_SomeKey) (u:List Key) (w:Api_SomeKey),frL (l++[w]) u=frL l u++[frK w.Kind (u++frL l u)]
 | [],u,w=>by simp [frL]
 | x::l,u,w=>by
   simp only [List.cons_append,frL,c07 l,List.append_assoc,List.nil_append]
theorem b5J:∀ (l:List Api_SomeKey) (u:List Key),(frL l u).length=l.length
 | [],_=>rfl
 | x::l,u=>by simp only [frL,List.length_cons,b5J l]
theorem c49:∀ (l:List Api_SomeKey) (u:List Key),u.length+l.length<=50->(∀ w∈l,w.Kind=0\/w.Kind=1) ->
 (∀ k∈frL l u,Z8 k=true/\k ∉ u)/\(frL l u).Nodup/\∀ (i:Nat) (w:Api_SomeKey),l[i]?=some w->∃ k,(frL l u)[i]?=some k/\k.Kind=w.Kind
 | [],u,_,_=>⟨fun k h=>(by cases h),List.nodup_nil,fun i w h=>(by simp at h)⟩
 | x::l,u,hl,hk=>by
   have h1:=hk x (List.mem_cons_self ..)
   rw [List.length_cons] at hl
   obtain ⟨a1,a2⟩:=d2A h1 (used:=u) (by omega)
   obtain ⟨b1,b2,b3⟩:=c49 l (u++[frK x.Kind u]) (by rw [List.length_append]; simp only [List.length_cons,List.length_nil]; omega) fun w hw=>hk w (List.mem_cons_of_mem _ hw)
   simp only [frL]
   refine ⟨fun k hm=>?_,?_,fun i w h=>?_⟩
   ·rcases List.mem_cons.1 hm with rfl | hm
    ·exact ⟨a1,a2⟩
    ·obtain ⟨c1,c2⟩:=b1 k hm
     exact ⟨c1,fun h=>c2 (List.mem_append_left _ h)⟩
   ·rw [List.nodup_cons]
    exact ⟨fun hm=>(b1 _ hm).2 (List.mem_append_right _ (List.mem_singleton.2 rfl)),b2⟩
   ·cases i with
    | zero =>
      have h:some x=some w:=h
      cases h
      exact ⟨_,rfl,rfl⟩
    | succ i =>
      have h:l[i]?=some w:=by simpa using h
      obtain ⟨k,e1,e2⟩:=b3 i w h
      exact ⟨k,by simpa using e1,e2⟩
section
variable {T:Api_Type}{s:Api_Shape}{ks:List Key}
theorem c1X {parts:List Val}{k:Key}{st:Int}{v:Val}(hk:s.Keys[parts.length]?=some k)(hs:s.States[parts.length]?=some st):V8 s (parts++[v])=V8 s parts++(if (st==1)=true then [(k,v)] else []):=by
 have h1:(s.States.zip parts).length=parts.length:=by
  have:=(List.getElem?_eq_some_iff.1 hs).1
  rw [List.length_zip]
  omega
 unfold V8
 rw [a9K hs,a9K (by rw [h1]; exact hk),List.filter_append,List.map_append]
 cases h:(st==1)<;>simp [List.filter,h]
theorem c7u {parts:List Val}{g:Api_Goal}{st:Int}{v:Val}(hk:s.Parts[parts.length]?=some g)(hs:s.States[parts.length]?=some st):a6s T s (parts++[v])=(a6s T s parts&&(st != 1||gM T v g)):=by
 have h1:(s.States.zip parts).length=parts.length:=by
  have:=(List.getElem?_eq_some_iff.1 hs).1
  rw [List.length_zip]
  omega
 unfold a6s
 rw [a9K hs,a9K (by rw [h1]; exact hk),List.all_append]
 simp
theorem c7B {vals:List Val}{w:Api_SomeKey}{v:Val}(hk:s.Some[vals.length]?=some w):a40 T s (vals++[v])=(a40 T s vals&&(gM T v w.Goal&&gM T v (a8j s w.Kind))):=by
 unfold a40
 rw [a9K hk,List.all_append]
 simp
theorem b3N (s:Api_Shape)(parts:List Val):(V8 s parts).length<=s.Keys.length:=by
 unfold V8
 rw [List.length_map]
 exact Nat.le_trans (List.length_filter_le _ _) (by rw [List.length_zip]; omega)
theorem c1W (s:Api_Shape)(parts:List Val):((V8 s parts).map (·.1)).Sublist s.Keys:=by
 unfold V8
 rw [List.map_map]
 have h1:((s.Keys.zip (s.States.zip parts)).map (·.1)).Sublist s.Keys:=by
  exact c64 _ _
 exact (List.filter_sublist.map _).trans h1
theorem c8d {parts:List Val}{q:Key×Val}(h:q∈V8 s parts):q.2∈parts:=by
 unfold V8 at h
 obtain ⟨x,hx,rfl⟩:=List.mem_map.1 h
 exact (List.of_mem_zip (List.of_mem_zip (List.mem_filter.1 hx).1).2).2
def smK (s:Api_Shape)(parts:List Val):List Key:=(V8 s parts).map (·.1)++frL s.Some s.Keys
def smV (s:Api_Shape)(parts vals:List Val):List Val:=(V8 s parts).map (·.2)++vals
theorem d3K {parts vals:List Val}(hv:vals.length=s.Some.length):(smK s parts).zip (smV s parts vals)=V8 s parts++(frL s.Some s.Keys).zip vals:=by
 unfold smK smV
 rw [List.zip_append (by rw [List.length_map,List.length_map])]
 congr 1
 generalize V8 s parts=l
 induction l with
 | nil=>rfl
 | cons x l ih=>simp [ih]
structure ShF (T:Api_Type)(ks:List Key)(s:Api_Shape):Prop where
 fm:SFm T ks s
 ok:SOk T s
 asc:asc cK ks=true
 kok:ks.all Z8=true
 kl:ks.length<=36
theorem c6v (h:ShF T ks s)(parts:List Val):(smK s parts).Nodup/\(smK s parts).all Z8=true/\(smK s parts).length<=42:=by
 have hK:=h.fm.keys
 have hkl:=h.kl
 have hfew:=h.fm.few
 obtain ⟨f1,f2,_⟩:=c49 s.Some s.Keys (by rw [hK]; omega) fun w hw=>(h.fm.some w hw).1
 have hsub:=c1W s parts
 have hnd:s.Keys.Nodup:=by rw [hK]; exact CmpOk.nodup c2z ((CmpOk.asc_pw c2z _).1 h.asc)
 refine ⟨?_,?_,?_⟩
 ·unfold smK
  rw [List.nodup_append]
  exact ⟨hnd.sublist hsub,f2,fun a ha b hb e=>(f1 b hb).2 (by rw [<- e]; exact hsub.subset ha)⟩
 ·unfold smK
  rw [List.all_append,Bool.and_eq_true]
  refine ⟨List.all_eq_true.2 fun k hk=>?_,List.all_eq_true.2 fun k hk=>(f1 k hk).1⟩
  have:=hsub.subset hk
  rw [hK] at this
  exact List.all_eq_true.1 h.kok k this
 ·unfold smK
  have:=hsub.length_le
  rw [List.length_append,b5J]
  rw [hK] at this
  omega
def VS (v:Val):Prop:=vOK v=true/\w9 v<=25500
theorem c6Q {parts vals:List Val}(hp:∀ v∈parts,VS v)(hv:∀ v∈vals,VS v):∀ v∈smV s parts vals,VS v:=fun v h=>by
 unfold smV at h
 rcases List.mem_append.1 h with h | h
 ·obtain ⟨q,hq,rfl⟩:=List.mem_map.1 h
  exact hp _ (c8d hq)
 ·exact hv v h
theorem c0g:∀ {l:List Key},l.all Z8=true->w4 l<=l.length*100
 | [],_=>by simp [w4]
 | k::l,h=>by
   rw [List.all_cons,Bool.and_eq_true] at h
   have ih:=c0g h.2
   have h1:a5g k<=100:=by
    have hk:=h.1
    unfold Z8 at hk
    unfold a5g a3g
    split at hk
    ·unfold a4K b2v at hk
     rw [b3K]
     split at hk
     ·cases hk
     ·rename_i c r e
      simp only [Bool.and_eq_true,decide_eq_true_eq] at hk
      rw [e,List.length_cons]
      omega
    ·split at hk
     ·rw [decide_eq_true_eq] at hk
      omega
     ·cases hk
   simp only [w4,List.length_cons,Nat.add_mul]
   omega
theorem d3y (h:ShF T ks s){parts vals:List Val}(hpl:parts.length=s.Keys.length)(hvl:vals.length=s.Some.length)(hp:∀ v∈parts,VS v)(hv:∀ v∈vals,VS v) :
 ∃ t,a1G ((smK s parts).zip (smV s parts vals)) ([],[])=some t/\(smK s parts).length=(smV s parts vals).length/\(t.2.zip t.1).Perm ((smK s parts).zip (smV s parts vals))/\MOk (a1N t)/\vOK (a1N t)=true/\w9 (a1N t)<=1200000:=by
 obtain ⟨k1,k2,k3⟩:=c6v h parts
 have hlen:(smK s parts).length=(smV s parts vals).length:=by
  unfold smK smV
  rw [List.length_append,List.length_append,List.length_map,List.length_map,b5J,hvl]
 have hV:=c6Q (s:=s) hp hv
 have hm:=b8V ((smK s parts).zip (smV s parts vals)) ([],[]) rfl rfl
 cases hc:a1G ((smK s parts).zip (smV s parts vals)) ([],[]) with
 | none =>
   rw [hc] at hm
   simp only [List.nil_append] at hm
   rw [List.map_fst_zip (by omega)] at hm
   exact absurd k1 hm
 | some t =>
   rw [hc] at hm
   obtain ⟨m1,m2,m3⟩:=hm
   have m3:(t.2.zip t.1).Perm ((smK s parts).zip (smV s parts vals)):=by simpa using m3
   have hvs:a06 (smV s parts vals)=true:=by
    rw [a3W]
    exact List.all_eq_true.2 fun v hv=>(hV v hv).1
   obtain ⟨o1,o2⟩:=d2a k2 hvs hc
   have b1:=c0g k2
   have b2:=c3L (l:=smV s parts vals) fun v hv=>(hV v hv).2
   have hbulk:w9 (a1N t)<=1200000:=by
    have e:(smV s parts vals).length*25500<=42*25500:=Nat.mul_le_mul_right _ (by omega)
    have e2:(smK s parts).length*100<=42*100:=Nat.mul_le_mul_right _ (by omega)
    omega
   have hl2:t.2.length=(smK s parts).length:=by
    have:=m3.length_eq
    rw [List.length_zip,List.length_zip] at this
    omega
   have hkp:t.2.Perm (smK s parts):=by
    have:=m3.map (·.1)
    rwa [List.map_fst_zip (by omega),List.map_fst_zip (by omega)] at this
   have hvp:t.1.Perm (smV s parts vals):=by
    have:=m3.map (·.2)
    rwa [List.map_snd_zip (by omega),List.map_snd_zip (by omega)] at this
   refine ⟨t,rfl,hlen,m3,⟨by show t.2.length=t.1.length; omega,by show t.2.length<=_; omega,fun k hk=>List.all_eq_true.1 k2 k (hkp.subset hk),m1,fun u hu=>?_⟩,o1,hbulk⟩
   have:=hV u (hvp.subset hu)
   exact ⟨this.1,by have:=this.2; omega⟩
theorem d31 (h:ShF T ks s){parts vals:List Val}(hpl:parts.length=s.Keys.length)(hvl:vals.length=s.Some.length){t:List Val×List Key}(hM:MOk (a1N t))(hperm:(t.2.zip t.1).Perm ((smK s parts).zip (smV s parts vals)))
 (h1:a6s T s parts=true) (h2:a40 T s vals=true):c1C T (a1N t) s=true:=by
 have hK:=h.fm.keys
 have hst:=h.ok.st
 have hpa:=h.ok.pa
 have hkl:=h.kl
 have hfew:=h.fm.few
 obtain ⟨f1,f2,f3⟩:=c49 s.Some s.Keys (by rw [hK]; omega) fun w hw=>(h.fm.some w hw).1
 have hkv:kv (a1N t)=t.2.zip t.1:=rfl
 have hmem:∀ q,q∈kv (a1N t)↔q∈V8 s parts\/q∈(frL s.Some s.Keys).zip vals:=fun q=>by
  rw [hkv,hperm.mem_iff,d3K hvl,List.mem_append]
 have hnd:s.Keys.Nodup:=by rw [hK]; exact CmpOk.nodup c2z ((CmpOk.asc_pw c2z _).1 h.asc)
 have huniq:=c9X hM
 unfold c1C
 rw [Bool.and_eq_true,Bool.and_eq_true]
 refine ⟨List.all_eq_true.2 fun q hq=>?_,List.all_eq_true.2 fun q hq=>?_,List.all_eq_true.2 fun w hw=>?_⟩
 ·obtain ⟨i,hi,e⟩:=List.getElem_of_mem hq
  have e1:(s.Keys.zip (s.States.zip s.Parts))[i]?=some q:=by rw [List.getElem?_eq_getElem hi,e]
  obtain ⟨eK,e2⟩:=a4M e1
  obtain ⟨eS,eP⟩:=a4M e2
  have hik:=(List.getElem?_eq_some_iff.1 eK).1
  have hip:i<parts.length:=by omega
  have ev:=List.getElem?_eq_getElem hip
  have ez:(s.States.zip parts)[i]?=some (q.2.1,parts[i]):=by rw [List.getElem?_zip_eq_some]; exact ⟨eS,ev⟩
  have ezk:(s.Keys.zip (s.States.zip parts))[i]?=some (q.1,q.2.1,parts[i]):=by rw [List.getElem?_zip_eq_some]; exact ⟨eK,ez⟩
  have ezp:(s.Parts.zip (s.States.zip parts))[i]?=some (q.2.2,q.2.1,parts[i]):=by rw [List.getElem?_zip_eq_some]; exact ⟨eP,ez⟩
  unfold c2y
  cases h0:(q.2.1==1) with
  | true =>
    have hst1:q.2.1=1:=by simpa using h0
    have hin:(q.1,parts[i])∈kv (a1N t):=(hmem _).2 (.inl (by
     unfold V8
     exact List.mem_map.2 ⟨_,List.mem_filter.2 ⟨List.mem_of_getElem? ezk,by simpa using h0⟩,rfl⟩))
    have hg:gM T parts[i] q.2.2=true:=by
     have:=List.all_eq_true.1 h1 _ (List.mem_of_getElem? ezp)
     simp only [hst1] at this
     simpa using this
    cases hf:(kv (a1N t)).find? fun p=>Z7 p.1 q.1 with
    | none =>
      have:=List.find?_eq_none.1 hf _ hin
      rw [a7s.2 rfl] at this
      exact absurd rfl this
    | some p =>
      have hp1:p.1=q.1:=a7s.1 (by have:=List.find?_some hf; exact this)
      have:=huniq p (List.mem_of_find?_eq_some hf) _ hin hp1
      rw [this]
      simp only [hst1,hg]
      rfl
  | false =>
    have hnone:(kv (a1N t)).find? (fun p=>Z7 p.1 q.1)=none:=by
     rw [List.find?_eq_none]
     intro p hp hk
     have hk:=a7s.1 hk
     rcases (hmem p).1 hp with hp | hp
     ·unfold V8 at hp
      obtain ⟨x,hx,rfl⟩:=List.mem_map.1 hp
      obtain ⟨hx1,hx2⟩:=List.mem_filter.1 hx
      obtain ⟨j,hj,ej⟩:=List.getElem_of_mem hx1
      have ej1:(s.Keys.zip (s.States.zip parts))[j]?=some x:=by rw [List.getElem?_eq_getElem hj,ej]
      obtain ⟨jK,_⟩:=a4M ej1
      have hjk:=(List.getElem?_eq_some_iff.1 jK).1
      have hij:j=i:=c5j hnd hjk hik (by
       rw [List.getElem?_eq_getElem hjk] at jK
       rw [List.getElem?_eq_getElem hik] at eK
       rw [Option.some.inj jK,Option.some.inj eK]
       exact hk)
      subst hij
      rw [ezk] at ej1
      cases ej1
      simp only at hx2
      rw [h0] at hx2
      cases hx2
     ·have hmk:=(List.of_mem_zip hp).1
      exact (f1 _ hmk).2 (by rw [hk]; exact List.mem_of_getElem? eK)
    rw [hnone]
    unfold bne
    rw [h0]
    rfl
 ·rcases (hmem q).1 hq with hq | hq
  ·have:q.1∈s.Keys:=(c1W s parts).subset (List.mem_map.2 ⟨q,hq,rfl⟩)
   rw [b2u.2 this]
   rfl
  ·obtain ⟨i,hi,e⟩:=List.getElem_of_mem hq
   have e1:((frL s.Some s.Keys).zip vals)[i]?=some q:=by rw [List.getElem?_eq_getElem hi,e]
   obtain ⟨eF,eV⟩:=a4M e1
   have hil:=(List.getElem?_eq_some_iff.1 eV).1
   have eS:s.Some[i]?=some (s.Some[i]'(by omega)):=List.getElem?_eq_getElem (by omega)
   obtain ⟨k,ek,hk⟩:=f3 i _ eS
   rw [ek] at eF
   have eF:=Option.some.inj eF
   have ez:(s.Some.zip vals)[i]?=some (s.Some[i]'(by omega),q.2):=by rw [List.getElem?_zip_eq_some]; exact ⟨eS,eV⟩
   have:=List.all_eq_true.1 h2 _ (List.mem_of_getElem? ez)
   rw [Bool.and_eq_true] at this
   rw [<- eF,hk,this.2,Bool.or_true]
 ·obtain ⟨i,hi,e⟩:=List.getElem_of_mem hw
  have eS:s.Some[i]?=some w:=by rw [List.getElem?_eq_getElem hi,e]
  have hiv:i<vals.length:=by omega
  have eV:=List.getElem?_eq_getElem hiv
  obtain ⟨k,ek,hk⟩:=f3 i w eS
  have ez:(s.Some.zip vals)[i]?=some (w,vals[i]):=by rw [List.getElem?_zip_eq_some]; exact ⟨eS,eV⟩
  have hg:=List.all_eq_true.1 h2 _ (List.mem_of_getElem? ez)
  rw [Bool.and_eq_true] at hg
  have ef:((frL s.Some s.Keys).zip vals)[i]?=some (k,vals[i]):=by rw [List.getElem?_zip_eq_some]; exact ⟨ek,eV⟩
  refine List.any_eq_true.2 ⟨(k,vals[i]),(hmem _).2 (.inr (List.mem_of_getElem? ef)),?_⟩
  have hno:a6B s.Keys k=false:=by
   cases hh:a6B s.Keys k with
   | false=>rfl
   | true=>exact absurd (b2u.1 hh) (f1 k (List.mem_of_getElem? ek)).2
  simp only [hno,hk,hg.1]
  simp
end
end Go.Pl
end
section
namespace Go.Pl
open Go Go.RowKit Go.Sx Go.Qx
section
variable {T:Api_Type}{s:Api_Shape}{ks:List Key}{m:List Int}
theorem d1i (hm:m.length<=4194304)(hT:GT T)(h1:1<=T.Nodes.length)(n:Nat)(hn:200000000<=n){u:Semtypebase_Source}(hu:OS m u) :
 ∃ k u1 v u2,z8 u (T.Nodes.length:Int)=some (k,u1)/\a20 n u1 T k 2=some (v,u2)/\OS m u2/\VS v:=by
 have hl:=hT.len
 obtain ⟨x,t1,e1,g1,x0,x1⟩:=Y0 (L:=m) hm hu (n:=(T.Nodes.length:Int)) (by omega) (by omega)
 obtain ⟨x,rfl⟩:=b2L x0
 obtain ⟨v,u2,e2,g2,ho,hb⟩:=c1Q (L:=m) hm hT (h:=2) (by omega) (c5e hm hT 2 (by omega)) n (by omega) x t1 (by omega) g1
 exact ⟨_,t1,v,u2,e1,e2,g2,ho,hb⟩
theorem d5i (hm:m.length<=4194304)(hT:GT T)(hr:inR T.Nodes.length T.Root=true)(h1:1<=T.Nodes.length)(L:Api_Line)(h:ShF T ks s)(n:Nat)(hn:200000000<=n) :
 ∃ parts u,z7 (W9 n (T,L) s) (s.Keys.length+1) (([]:List Val),true,([]:List Key),([]:List Val),0,Semtypebase_Source.mk m 0)=some (parts,a6s T s parts,(V8 s parts).map (·.1),(V8 s parts).map (·.2),u)/\OS m u/\parts.length=s.Keys.length/\∀ v∈parts,VS v:=by
 have hK:=h.fm.keys
 have hst:=h.ok.st
 have hpa:=h.ok.pa
 have hkl:=h.kl
 have hkl2:s.Keys.length<=36:=by rw [hK]; exact h.kl
 obtain ⟨r,e,parts,u,hR,h2,h3,h4⟩:=a7n (σ:=List Val×Semtypebase_Source) (step:=W9 n (T,L) s)
  (fun x i=>(x.1,a6s T s x.1,(V8 s x.1).map (·.1),(V8 s x.1).map (·.2),i,x.2)) s.Keys.length
  (fun j x=>OS m x.2/\x.1.length=j/\∀ v∈x.1,VS v)
  (fun r=>∃ parts u,r=(parts,a6s T s parts,(V8 s parts).map (·.1),(V8 s parts).map (·.2),u)/\OS m u/\parts.length=s.Keys.length/\∀ v∈parts,VS v)
  (fun j x hj hI=>by
    obtain ⟨parts,u⟩:=x
    obtain ⟨hu,hl,hv⟩:=hI
    have hl:parts.length=j:=hl
    obtain ⟨k,u1,v,u2,e1,e2,hu2,hvs⟩:=d1i hm hT h1 n hn hu
    have eK:=List.getElem?_eq_getElem hj
    have eS:s.States[j]?=some (s.States[j]'(by omega)):=List.getElem?_eq_getElem (by omega)
    have eP:s.Parts[j]?=some (s.Parts[j]'(by omega)):=List.getElem?_eq_getElem (by omega)
    have hg:=h.ok.parts _ (List.mem_of_getElem? eP)
    generalize s.Keys[j]=key at eK
    generalize s.States[j]'(by omega)=st at eS
    generalize s.Parts[j]'(by omega)=g at eP hg
    have p1:=c1X (parts:=parts) (v:=v) (by rw [hl]; exact eK) (by rw [hl]; exact eS)
    have p2:=c7u (T:=T) (parts:=parts) (v:=v) (by rw [hl]; exact eP) (by rw [hl]; exact eS)
    have pl:=b3N s parts
    refine .inl ⟨(parts++[v],u2),?_,hu2,by show (parts++[v]).length=_; rw [List.length_append,hl]; rfl,fun w hw=>?_⟩
    ·unfold W9
     simp only [k8]
     rw [k9 hj,e1]
     simp only [cond_true,Option.bind_some]
     rw [e2]
     simp only [Option.bind_some]
     rw [v7 (by simp only [List.length_cons,List.length_nil]; omega),y4 eS,y4 eP,y4 eK,j5 j (by omega)]
     simp only [Option.bind_some]
     rw [p1,p2]
     cases h0:(st==1) with
     | false =>
       have hb:(st != 1)=true:=by unfold bne; rw [h0]; rfl
       rw [hb,if_neg (by simp)]
       simp only [cond_false,Option.bind_some,List.append_nil,Bool.true_or,Bool.and_true]
     | true =>
       have hb:(st != 1)=false:=by unfold bne; rw [h0]; rfl
       rw [hb,if_pos rfl]
       simp only [cond_true,Bool.false_or]
       rw [b0H hT hr ⟨hvs.1,by have:=hvs.2; omega⟩ hg n hn]
       have hq:(bif a6s T s parts then (Option.bind (some (gM T v g)) fun r20=>some r20) else (some false))=some (a6s T s parts&&gM T v g):=by cases a6s T s parts<;>rfl
       rw [hq]
       simp only [Option.bind_some]
       rw [v7 (by simp only [List.length_map,List.length_cons,List.length_nil]; omega),v7 (by simp only [List.length_map,List.length_cons,List.length_nil]; omega)]
       simp only [Option.bind_some,List.map_append,List.map_cons,List.map_nil]
    ·rcases List.mem_append.1 hw with hw | hw
     ·exact hv w hw
     ·rw [List.mem_singleton.1 hw]; exact hvs)
  (fun x hI=>⟨_,by
    unfold W9
    simp,_,_,rfl,hI.1,hI.2.1,hI.2.2⟩) ([],Semtypebase_Source.mk m 0) ⟨⟨rfl,by show (0:Int)<=0; omega,by show (0:Int)<=_; omega⟩,rfl,fun v hv=>by cases hv⟩
 subst hR
 have hg0:a6s T s []=true:=by unfold a6s; simp
 have hp0:V8 s []=[]:=by unfold V8; simp
 have e':z7 (W9 n (T,L) s) (s.Keys.length+1) (([]:List Val),a6s T s [],(V8 s []).map (·.1),(V8 s []).map (·.2),0,Semtypebase_Source.mk m 0)=_:=e
 rw [hg0,hp0] at e'
 exact ⟨parts,u,e',h2,h3,h4⟩
theorem d46 (hm:m.length<=4194304)(hT:GT T)(hr:inR T.Nodes.length T.Root=true)(h1:1<=T.Nodes.length)(L:Api_Line)(h:ShF T ks s)(b:Bool)(K1:List Key)(V1:List Val)(hk1:K1.length<=36)(hv1:V1.length<=36){u:Semtypebase_Source}(hu:OS m u)(n:Nat)(hn:200000000<=n) :
 ∃ vals u',z7 (W8 n (T,L) s) (s.Some.length+1) (([]:List Val),b,K1,V1,s.Keys,0,u)=some (vals,(b&&a40 T s vals),K1++frL s.Some s.Keys,V1++vals,u')/\vals.length=s.Some.length/\∀ v∈vals,VS v:=by
 have hK:=h.fm.keys
 have hkl:=h.kl
 have hkl2:s.Keys.length<=36:=by rw [hK]; exact h.kl
 have hfew:=h.fm.few
 obtain ⟨r,e,vals,u',hR,h3,h4⟩:=a7n (σ:=List Val×Semtypebase_Source) (step:=W8 n (T,L) s)
  (fun x i=>(x.1,(b&&a40 T s x.1),K1++frL (s.Some.take x.1.length) s.Keys,V1++x.1,s.Keys++frL (s.Some.take x.1.length) s.Keys,i,x.2)) s.Some.length
  (fun j x=>OS m x.2/\x.1.length=j/\∀ v∈x.1,VS v)
  (fun r=>∃ vals u',r=(vals,(b&&a40 T s vals),K1++frL s.Some s.Keys,V1++vals,u')/\vals.length=s.Some.length/\∀ v∈vals,VS v)
  (fun j x hj hI=>by
    obtain ⟨vals,u⟩:=x
    obtain ⟨hu,hl,hv⟩:=hI
    have hl:vals.length=j:=hl
    obtain ⟨k,u1,v,u2,e1,e2,hu2,hvs⟩:=d1i hm hT h1 n hn hu
    have eS:=List.getElem?_eq_getElem hj
    have hfm:=h.fm.some _ (List.getElem_mem hj)
    have hok:=h.ok.some _ (List.getElem_mem hj)
    generalize s.Some[j]=w at eS hfm hok
    have p2:=c7B (T:=T) (vals:=vals) (v:=v) (by rw [hl]; exact eS)
    have hfl:=b5J (s.Some.take j) s.Keys
    rw [List.length_take] at hfl
    have htk:s.Some.take (vals++[v]).length=s.Some.take j++[w]:=by rw [List.length_append,hl]; exact a2q eS
    have hul:(s.Keys++frL (s.Some.take j) s.Keys).length<=50:=by rw [List.length_append]; omega
    have efr:=c9t hfm.1 hul n (by omega)
    refine .inl ⟨(vals++[v],u2),?_,hu2,by show (vals++[v]).length=_; rw [List.length_append,hl]; rfl,fun w' hw=>?_⟩
    ·unfold W8
     simp only [k8]
     rw [htk,c07,hl,k9 hj,e1]
     simp only [cond_true,Option.bind_some]
     rw [e2]
     simp only [Option.bind_some]
     rw [v7 (by simp only [List.length_cons,List.length_nil]; omega),y4 eS,j5 j (by omega)]
     simp only [Option.bind_some]
     rw [efr,b0H hT hr ⟨hvs.1,by have:=hvs.2; omega⟩ hok n hn,b0H hT hr ⟨hvs.1,by have:=hvs.2; omega⟩ h.ok.rest.1 n hn,b0H hT hr ⟨hvs.1,by have:=hvs.2; omega⟩ h.ok.rest.2 n hn]
     have hq:(bif (b&&a40 T s vals) then (Option.bind (some (gM T v w.Goal)) fun r32=>some r32) else (some false))=some (b&&a40 T s vals&&gM T v w.Goal):=by cases (b&&a40 T s vals)<;>rfl
     rw [hq]
     simp only [Option.bind_some]
     have hq2:(bif (b&&a40 T s vals&&gM T v w.Goal) then (bif w.Kind==0 then (some (gM T v s.Rest.1)) else (bif w.Kind==1 then (some (gM T v s.Rest.2)) else (none))) else (some false))=some (b&&a40 T s vals&&gM T v w.Goal&&gM T v (a8j s w.Kind)):=by
      unfold a8j
      rcases hfm.1 with h0 | h0
      ·rw [h0]
       cases (b&&a40 T s vals&&gM T v w.Goal)<;>rfl
      ·rw [h0]
       cases (b&&a40 T s vals&&gM T v w.Goal)<;>rfl
     rw [hq2]
     simp only [Option.bind_some]
     rw [v7 (by simp only [List.length_append,List.length_cons,List.length_nil]; omega),v7 (by simp only [List.length_append,List.length_cons,List.length_nil]; omega),v7 (by simp only [List.length_append,List.length_cons,List.length_nil]; omega)]
     simp only [Option.bind_some,List.append_assoc]
     rw [p2]
     simp only [Bool.and_assoc]
    ·rcases List.mem_append.1 hw with hw | hw
     ·exact hv w' hw
     ·rw [List.mem_singleton.1 hw]; exact hvs)
  (fun x hI=>⟨_,by
    unfold W8
    rw [hI.2.1,List.take_length]
    simp,x.1,x.2,rfl,hI.2.1,hI.2.2⟩) ([],u) ⟨hu,rfl,fun v hv=>by cases hv⟩
 subst hR
 have hg0:a40 T s []=true:=by unfold a40; simp
 have e':z7 (W8 n (T,L) s) (s.Some.length+1) (([]:List Val),(b&&a40 T s []),K1++frL (s.Some.take 0) s.Keys,V1++[],s.Keys++frL (s.Some.take 0) s.Keys,0,u)=_:=e
 rw [hg0,List.take_zero] at e'
 simp only [frL,Bool.and_true,List.append_nil] at e'
 exact ⟨vals,u',e',h3,h4⟩
theorem c1N (h:ShF T ks s){parts vals:List Val}(hvl:vals.length=s.Some.length):a7E s parts vals=some ((parts.length:Int)==(s.Keys.length:Int)):=by
 have hK:=h.fm.keys
 have hst:=h.ok.st
 have hpa:=h.ok.pa
 have hkl:=h.kl
 have hkl2:s.Keys.length<=36:=by rw [hK]; exact h.kl
 have hfew:=h.fm.few
 have hal:a6e s=some true:=by
  unfold a6e
  rw [hst,hpa]
  simp
 have b2:((vals.length:Int) != (s.Some.length:Int))=false:=by rw [hvl]; simp
 have h1:=a3d (step:=a34 s) (fun i=>(i:Int)) s.Keys.length (.inl ()) (fun i hi=>by
  have e:=List.getElem?_eq_getElem hi
  have hm:=List.getElem_mem hi
  have hcmp:(bif decide (0<(i:Int)) then (Option.bind (idx s.Keys (wr .i64 ((i:Int)-1))) fun e7=>Option.bind (V2 e7 s.Keys[i]) fun r8=>some (decide (0<=r8))) else (some false))=some false:=by
   by_cases h0:0<(i:Int)
   ·have h1:1<=i:=by omega
    have e1:s.Keys[i-1]?=some (s.Keys[i-1]'(by omega)):=List.getElem?_eq_getElem (by omega)
    rw [decide_eq_true h0,k8,a7j i (by omega) h1,y4 e1]
    simp only [cond_true,Option.bind_some]
    rw [b0l]
    have:=(b1Y cK s.Keys).1 (by rw [hK]; exact h.asc) i h1 hi
    simp only [Option.bind_some]
    rw [decide_eq_false (by omega)]
   ·rw [decide_eq_false h0]
    rfl
  unfold a34
  rw [k9 hi,y4 e]
  simp only [cond_true,Option.bind_some]
  rw [c4S,List.all_eq_true.1 h.kok _ (by rw [<- hK]; exact hm)]
  simp only [Option.bind_some,Bool.not_true,cond_false]
  rw [hcmp]
  simp only [Option.bind_some,cond_false]
  rw [k8,j5 i (by omega)]) (by
  unfold a34
  simp) (s.Keys.length+1) (Nat.le_refl _)
 have h2:=a3d (step:=J3 s.Some fun z14=>Option.bind (a3h z14) fun r15=>some r15) (fun i=>(i:Int)) s.Some.length (.inl ()) (fun i hi=>by
  have e:=List.getElem?_eq_getElem hi
  have hkd:=(h.fm.some _ (List.getElem_mem hi)).1
  have h0:a3h s.Some[i]=some false:=by
   unfold a3h
   rcases hkd with h | h<;>rw [h]<;>rfl
  unfold J3
  rw [k9 hi,y4 e]
  simp only [cond_true,Option.bind_some]
  rw [h0]
  simp only [Option.bind_some,cond_false]
  rw [k8,j5 i (by omega)]) (by
  unfold J3
  simp) (s.Some.length+1) (Nat.le_refl _)
 have h1':z7 (a34 s) (s.Keys.length+1) 0=some (.inl ()):=h1
 have h2':z7 (J3 s.Some fun z14=>Option.bind (a3h z14) fun r15=>some r15) (s.Some.length+1) 0=some (.inl ()):=h2
 unfold a7E a0p a0U
 rw [hal,b2,w7,w7,h1',h2']
 unfold bne
 cases ((parts.length:Int)==(s.Keys.length:Int))<;>rfl
theorem c8k (h:ShF T ks s){parts vals:List Val}(hpl:parts.length=s.Keys.length)(hvl:vals.length=s.Some.length)(hp:∀ v∈parts,VS v)(hv:∀ v∈vals,VS v)(n:Nat)(hn:200000000<=n) :
 a3V n T s parts vals=Option.bind (b0z n (smK s parts) (smV s parts vals)) fun r18=>some (r18.1,r18.2):=by
 have hK:=h.fm.keys
 have hst:=h.ok.st
 have hkl:=h.kl
 have hkl2:s.Keys.length<=36:=by rw [hK]; exact h.kl
 have hfew:=h.fm.few
 have b1:((parts.length:Int)==(s.Keys.length:Int))=true:=by rw [hpl]; simp
 have e1:=a3d (step:=a4C s parts) (fun j=>((V8 s (parts.take j)).map (·.1),(V8 s (parts.take j)).map (·.2),(j:Int))) s.Keys.length ((V8 s parts).map (·.1),(V8 s parts).map (·.2)) (fun j hj=>by
  have eK:=List.getElem?_eq_getElem hj
  have eS:s.States[j]?=some (s.States[j]'(by omega)):=List.getElem?_eq_getElem (by omega)
  have eV:parts[j]?=some (parts[j]'(by omega)):=List.getElem?_eq_getElem (by omega)
  generalize s.Keys[j]=key at eK
  generalize s.States[j]'(by omega)=st at eS
  generalize parts[j]'(by omega)=v at eV
  have hl:(parts.take j).length=j:=by rw [List.length_take]; omega
  have p1:=c1X (parts:=parts.take j) (v:=v) (by rw [hl]; exact eK) (by rw [hl]; exact eS)
  have pl:=b3N s (parts.take j)
  unfold a4C
  simp only [k8]
  rw [k9 hj,y4 eK,y4 eS,y4 eV,j5 j (by omega),a2q eV,p1]
  simp only [cond_true,Option.bind_some]
  cases h0:(st==1) with
  | false=>simp
  | true =>
    rw [if_pos rfl]
    simp only [cond_true]
    rw [v7 (by simp only [List.length_map,List.length_cons,List.length_nil]; omega),v7 (by simp only [List.length_map,List.length_cons,List.length_nil]; omega)]
    simp only [Option.bind_some,List.map_append,List.map_cons,List.map_nil]) (by
  unfold a4C
  rw [<- hpl,List.take_length]
  simp) (s.Keys.length+1) (Nat.le_refl _)
 have hp0:V8 s []=[]:=by unfold V8; simp
 have e1':z7 (a4C s parts) (s.Keys.length+1) (([]:List Key),([]:List Val),0)=some ((V8 s parts).map (·.1),(V8 s parts).map (·.2)):=by
  have e:=e1
  simp only [List.take_zero,hp0] at e
  exact e
 have pl:=b3N s parts
 have e2:=a3d (step:=a4R s vals n) (fun j=>((V8 s parts).map (·.1)++frL (s.Some.take j) s.Keys,(V8 s parts).map (·.2)++vals.take j,s.Keys++frL (s.Some.take j) s.Keys,(j:Int))) s.Some.length (smK s parts,smV s parts vals) (fun j hj=>by
  have eS:=List.getElem?_eq_getElem hj
  have eV:vals[j]?=some (vals[j]'(by omega)):=List.getElem?_eq_getElem (by omega)
  have hfm:=h.fm.some _ (List.getElem_mem hj)
  generalize s.Some[j]=w at eS hfm
  generalize vals[j]'(by omega)=v at eV
  have hfl:=b5J (s.Some.take j) s.Keys
  rw [List.length_take] at hfl
  have hul:(s.Keys++frL (s.Some.take j) s.Keys).length<=50:=by rw [List.length_append]; omega
  unfold a4R
  simp only [k8]
  rw [k9 hj,y4 eS,y4 eV,j5 j (by omega),a2q eV,a2q eS,c07]
  simp only [cond_true,Option.bind_some]
  rw [d0c hfm.1 hul n (by omega)]
  simp only [Option.bind_some]
  rw [v7 (by simp only [List.length_append,List.length_cons,List.length_nil]; omega),v7 (by simp only [List.length_append,List.length_map,List.length_cons,List.length_nil]; omega),v7 (by simp only [List.length_append,List.length_map,List.length_take,List.length_cons,List.length_nil]; omega)]
  simp only [Option.bind_some,List.append_assoc]) (by
  unfold a4R smK smV
  rw [List.take_length,<- hvl,List.take_length]
  simp) (s.Some.length+1) (Nat.le_refl _)
 have e2':z7 (a4R s vals n) (s.Some.length+1) ((V8 s parts).map (·.1),(V8 s parts).map (·.2),s.Keys,0)=some (smK s parts,smV s parts vals):=by
  have e:=e2
  simp only [List.take_zero,frL,List.append_nil] at e
  exact e
 have hcl:a0o 24 s.Keys=some s.Keys:=by unfold a0o; rw [v7 (by omega)]; rfl
 unfold a3V
 rw [c1N h hvl,b1,w7,w7,e1']
 simp only [Option.bind_some,Bool.not_true,cond_false]
 rw [hcl]
 simp only [Option.bind_some]
 rw [e2']
 rfl
theorem c9q (h:ShF T ks s){parts vals:List Val}(hpl:parts.length≠s.Keys.length)(hvl:vals.length=s.Some.length)(n:Nat):a3V n T s parts vals=some (a5y,1):=by
 have b1:((parts.length:Int)==(s.Keys.length:Int))=false:=by simp; omega
 unfold a3V
 rw [c1N h hvl,b1]
 rfl
end
end Go.Pl
end
section
namespace Go.Pl
open Go Go.RowKit Go.Sx Go.Qx
def tB:Api_Type:=Api_Type.mk ([Api_TypeNode.mk 2 0 0 (⟨#[]⟩:ByteArray) ([]:List Int) ([]:List Api_Field) (0,0),Api_TypeNode.mk 13 0 0 (⟨#[]⟩:ByteArray) ([]:List Int) ([]:List Api_Field) (0,0)]:List Api_TypeNode) 0
def lB:Api_Line:=Api_Line.mk 8 0 ([]:List Api_Range) (Api_Names.mk false ([]:List ByteArray)) ([1]:List Int) ([]:List Int) ([]:List ByteArray) ([]:List ByteArray)
theorem d32:GT tB:=by
 refine ⟨by decide,fun i x hx=>?_⟩
 match i,hx with
 | 0,hx =>
   cases hx
   exact b8N (by decide)
 | 1,hx =>
   cases hx
   exact ⟨by kernel_rfl,fun h=>absurd h (show ¬ (false=true) by simp),by show (0:Nat)<=4; omega,by show (⟨#[]⟩:ByteArray).size<=5; decide,by show (0:Nat)<=3; omega,fun f hf=>(by cases hf),by show (-9223372036854775808:Int)<=0/\(0:Int)<=9223372036854775807/\(-9223372036854775808:Int)<=0/\(0:Int)<=9223372036854775807; decide⟩
 | i+2,hx=>simp [tB] at hx
theorem d4x:a5i tB ([1]++[])=some []:=by
 obtain ⟨ks,e,_,_,hm⟩:=c3B d32 ([1]++[]) (by decide) (by kernel_rfl)
 have:ks=[]:=by
  cases ks with
  | nil=>rfl
  | cons y r =>
    have h:=(hm y).1 (by simp)
    have h2:a41 tB ([1]++[])=[]:=rfl
    rw [h2] at h
    cases h
 rw [e,this]
theorem d2o:a3R 200000000 tB lB=(Option.bind (a5i tB ([1]++[])) fun r8=>Option.bind (a6H 0 0 24) fun m9=>Option.bind (a0G 200000000 0 lB tB r8 (List.replicate m9 (Record_place.mk 0 false 0:Record_place)) [] ()) fun r10=>some (r10.2,0)):=by kernel_rfl
theorem d2r:a1p 200000000=some true:=by
 unfold a1p
 show Option.bind (a3R 200000000 tB lB) _=_
 rw [d2o,d4x]
 decide +kernel
end Go.Pl
end
section
namespace Go.Pl
open Go Go.RowKit Go.Sx Go.Qx
theorem c9M (l:List (List Int))(hl:l.length<=1000):a5v l=some (l.all fun x=>!decide (80<(x.length:Int))):=by
 have l1:=K9 (step:=a2o l) l (fun x=>!decide (80<(x.length:Int))) (fun i=>(i:Int)) () false (fun i x hx=>by
  have hi:i<l.length:=(List.getElem?_eq_some_iff.1 hx).1
  unfold a2o
  rw [k9 hi,y4 hx]
  simp only [cond_true,Option.bind_some,k8]
  rw [j5 i (by omega)]
  cases decide (80<(x.length:Int))<;>rfl) (by
  unfold a2o
  simp)
 have l1':z7 (a2o l) (l.length+1) 0=_:=l1
 unfold a5v
 rw [w7,l1']
 cases l.all fun x=>!decide (80<(x.length:Int))<;>rfl
end Go.Pl
end
section
namespace Go.Pl
open Go Go.RowKit Go.Sx Go.Qx
theorem d2x (x:Int){n:Int}(h1:1<=n)(h2:n<=1000000):∃ m:Nat,(m:Int)<n/\b4Q (wr .u64 x) n=some (m:Int):=by
 have h0:0<=wr .u64 x:=by
  have:wr .u64 x=x%18446744073709551616:=by
   unfold wr IntKind.wrap
   rfl
  rw [this]
  omega
 have b1:=Int.tmod_lt_of_pos (wr .u64 x) (show 0<n by omega)
 have b2:=Int.tmod_nonneg n h0
 refine ⟨((wr .u64 x).tmod n).toNat,by omega,?_⟩
 unfold b4Q
 rw [if_neg (by omega)]
 congr 1
 omega
end Go.Pl
end
section
namespace Go.Pl
open Go Go.RowKit Go.Sx Go.Qx
theorem b9W (d t m:List Int)(pick:Int):∃ n,a0V n d t m pick=some true:=by
 have key:∀ n,200000000<=n->a1p n=some true->a0V n d t m pick=some true:=by
  intro n hn ha
  unfold a0V
  rw [c9M _ (by simp),ha]
  simp only [Option.bind_some]
  by_cases hd:80<(d.length:Int)
  ·have:(List.all [d,t,m] fun x=>!decide (80<(x.length:Int)))=false:=by simp only [List.all_cons,decide_eq_true hd]; rfl
   rw [this]
   rfl
  by_cases ht:80<(t.length:Int)
  ·have:(List.all [d,t,m] fun x=>!decide (80<(x.length:Int)))=false:=by simp only [List.all_cons,decide_eq_false hd,decide_eq_true ht]; rfl
   rw [this]
   rfl
  by_cases hm:80<(m.length:Int)
  ·have:(List.all [d,t,m] fun x=>!decide (80<(x.length:Int)))=false:=by simp only [List.all_cons,decide_eq_false hd,decide_eq_false ht,decide_eq_true hm]; rfl
   rw [this]
   rfl
  have hs:(List.all [d,t,m] fun x=>!decide (80<(x.length:Int)))=true:=by simp only [List.all_cons,decide_eq_false hd,decide_eq_false ht,decide_eq_false hm]; rfl
  rw [hs]
  simp only [Bool.not_true,cond_false]
  obtain ⟨N,ns,P,Q,hN,hN4,el,hI⟩:=c9G (L:=t) (d:=d) (by omega) (by omega)
  have hlen:ns.length=N+3:=hI.len
  generalize hT0:Api_Type.mk ns 0=T at el
  have hns:T.Nodes=ns:=by rw [<- hT0]
  have hT:GT T:=⟨by rw [hns]; omega,by rw [hns,hlen]; exact hI.nodes⟩
  have hroot:inR T.Nodes.length T.Root=true:=by rw [<- hT0]; exact a87 (show (0:Int)<=0 by omega) (by show (0:Int)<(ns.length:Int); omega)
  have hmp:∀ k:Int,(∃ j:Nat,k=(j:Int)/\N<=j/\j<N+3)->mpB T k=true:=fun k ⟨j,e,h1,h2⟩=>by
   subst e
   have hj:j<ns.length:=by omega
   have e:=List.getElem?_eq_getElem hj
   have hk:=(hI.maps j _ h1 e).1
   unfold mpB
   rw [hns,Int.toNat_natCast,e,a87 (by omega) (by omega)]
   simp [hk]
  have hp:P.all (mpB T)=true:=List.all_eq_true.2 fun k hk=>hmp k (hI.pos k hk)
  have hq:Q.all (mpB T)=true:=List.all_eq_true.2 fun k hk=>hmp k (hI.neg k hk)
  have hpl:P.length<=3:=hI.few.1
  have hql:Q.length<=3:=hI.few.2
  generalize hL0:Api_Line.mk 8 0 [] (Api_Names.mk false []) P Q [] []=L at el
  have hLp:L.Pos=P:=by rw [<- hL0]
  have hLn:L.Neg=Q:=by rw [<- hL0]
  have hLk:L.Kind=8:=by rw [<- hL0]
  rw [el]
  simp only [Option.bind_some]
  obtain ⟨ks,hks,hkm,hkl,hok,es⟩:=c8O (L:=L) hT hroot hLk (by rw [hLp]; exact hp) (by rw [hLn]; exact hq) (by rw [hLp]; omega) (by rw [hLn]; omega) n (by omega)
  rw [es]
  simp only [Option.bind_some,bne_self_eq_false,cond_false]
  cases hemp:(((b0d T L.Pos L.Neg ks).length:Int)==0) with
  | true=>rfl
  | false =>
  have hne:0<(b0d T L.Pos L.Neg ks).length:=by
   have:((b0d T L.Pos L.Neg ks).length:Int)≠0:=by simpa using hemp
   omega
  simp only [cond_false,Option.bind_some]
  by_cases hmany:2000<((b0d T L.Pos L.Neg ks).length:Int)
  ·rw [decide_eq_true hmany]
   rfl
  rw [decide_eq_false hmany]
  simp only [cond_false]
  have hu64:wr .u64 ((b0d T L.Pos L.Neg ks).length:Int)=((b0d T L.Pos L.Neg ks).length:Int):=by
   show ((b0d T L.Pos L.Neg ks).length:Int)%18446744073709551616=_
   omega
  obtain ⟨q,hq3,hqz⟩:=d2x pick (n:=((b0d T L.Pos L.Neg ks).length:Int)) (by omega) (by omega)
  have hwq:wr .i64 (q:Int)=(q:Int):=by rw [k8,K5 (by omega) (by omega)]
  have hql2:q<(b0d T L.Pos L.Neg ks).length:=by omega
  have eq:=List.getElem?_eq_getElem hql2
  obtain ⟨hfm,hso⟩:=d2e hT (by rw [hLp]; exact hp) (by rw [hLn]; exact hq) (by rw [hLp]; omega) (by rw [hLn]; omega) hok (by omega) (List.getElem_mem hql2)
  generalize (b0d T L.Pos L.Neg ks)[q]=s at eq hfm hso
  have hS:ShF T ks s:=⟨hfm,hso,hks,hok,by omega⟩
  rw [hu64,hqz]
  simp only [Option.bind_some,hwq]
  rw [y4 eq,Int.toNat_natCast,eq]
  simp only [Option.bind_some]
  rw [c8w hT (by rw [hLp]; exact hp) (by rw [hLn]; exact hq) (by rw [hLp]; omega) (by rw [hLn]; omega) hks hkm (by omega) hfm]
  simp only [Option.bind_some,Bool.not_true,cond_false]
  have hK:=hfm.keys
  rw [v7 (by rw [hK]; omega)]
  simp only [Option.bind_some,w7]
  obtain ⟨parts,u,e1,hu,hpl1,hp1⟩:=d5i (m:=m) (by omega) hT hroot (by rw [hns]; omega) L hS n hn
  rw [e1]
  simp only [Option.bind_some]
  have pl:=b3N s parts
  have hkl2:s.Keys.length<=36:=by rw [hK]; omega
  obtain ⟨vals,u',e2,hvl,hv2⟩:=d46 (m:=m) (by omega) hT hroot (by rw [hns]; omega) L hS (a6s T s parts) ((V8 s parts).map (·.1)) ((V8 s parts).map (·.2)) (by rw [List.length_map]; omega) (by rw [List.length_map]; omega) hu n hn
  rw [e2]
  simp only [Option.bind_some]
  obtain ⟨w,ew,hlw,hperm,hM,how,hbw⟩:=d3y hS hpl1 hvl hp1 hv2
  obtain ⟨k1,k2,k3⟩:=c6v hS parts
  have hVb:=c6Q (s:=s) hp1 hv2
  rw [c8k hS hpl1 hvl hp1 hv2 n hn,d17 n (smK s parts) (smV s parts vals) (by omega) (fun v hv=>by have:=(hVb v hv).2; omega),if_pos ⟨hlw,k2⟩,ew]
  simp only [Option.bind_some]
  have e7:a0H ((V8 s parts).map (·.1)++frL s.Some s.Keys) ((V8 s parts).map (·.2)++vals)=some (a1N w,0):=by
   have:=b6C (smK s parts) (smV s parts vals) (by omega)
   rw [if_pos ⟨hlw,k2⟩,ew] at this
   exact this
  rw [e7]
  simp only [Option.bind_some,bne_self_eq_false,cond_false]
  have heq:a02 n (a1N w) (a1N w)=some true:=by
   unfold a02
   rw [(a4x n).1 (a1N w) (a1N w) (by omega) (by omega),c6z]
   rfl
  rw [heq]
  simp only [Option.bind_some,Bool.not_true,cond_false]
  rw [v7 (by simp only [List.length_cons,List.length_nil]; rw [hpl1,hK]; omega),c9q hS (by rw [List.length_append,hpl1]; simp) hvl n]
  simp only [Option.bind_some]
  have hin:a2A n (a1N w) T s=some (c1C T (a1N w) s):=c6g hT hroot rfl hM hso n hn
  rw [hin]
  cases hg:(a6s T s parts&&a40 T s vals) with
  | false=>rfl
  | true =>
    rw [Bool.and_eq_true] at hg
    rw [d31 hS hpl1 hvl hM hperm hg.1 hg.2]
    rfl
 exact ⟨_,key _ (Nat.le_refl _) d2r⟩
end Go.Pl
end
section
namespace Go.Proofs
open Go.Shelf
set_option maxRecDepth 100000
def Tryz.lay124_ren:Go.Shelf.Ren:=⟨fun | 6=>124 | 15=>150 | 14=>166 | 28=>196 | 29=>197 | 20=>213 | 21=>214 | 22=>215 | 23=>216 | 24=>217 | 25=>218 | 26=>219 | 27=>220 | 46=>235 | 47=>224 | 48=>225 | 49=>236 | 50=>237 | 57=>251 | n=>n,fun | 22=>22 | 24=>3 | 25=>174 | 3=>3 | 39=>81 | 0=>0 | 53=>211 | 55=>213 | 4=>4 | 46=>204 | 45=>203 | 50=>208 | 5=>5 | 9=>9 | 66=>231 | 70=>235 | 76=>244 | 77=>245 | n=>n,fun | n=>n⟩
theorem Tryz.lay124:Go.Proofs.SlLaysF.n6 Tryz.prog Tryz.lay124_ren:={
 mixed:=by kernel_rfl
 f6:=⟨Tryz.f124.name,by decide,Tryz.func124.trans (congrArg some (by kernel_rfl))⟩
 f14:=⟨Tryz.f166.name,by decide,Tryz.func166.trans (congrArg some (by kernel_rfl))⟩
 f15:=Tryz.func150.trans (congrArg some (by kernel_rfl))
 f20:=⟨Tryz.f213.name,by decide,Tryz.func213.trans (congrArg some (by kernel_rfl))⟩
 f21:=⟨Tryz.f214.name,by decide,Tryz.func214.trans (congrArg some (by kernel_rfl))⟩
 f22:=⟨Tryz.f215.name,by decide,Tryz.func215.trans (congrArg some (by kernel_rfl))⟩
 f23:=⟨Tryz.f216.name,by decide,Tryz.func216.trans (congrArg some (by kernel_rfl))⟩
 f24:=⟨Tryz.f217.name,by decide,Tryz.func217.trans (congrArg some (by kernel_rfl))⟩
 f25:=⟨Tryz.f218.name,by decide,Tryz.func218.trans (congrArg some (by kernel_rfl))⟩
 f26:=⟨Tryz.f219.name,by decide,Tryz.func219.trans (congrArg some (by kernel_rfl))⟩
 f27:=⟨Tryz.f220.name,by decide,Tryz.func220.trans (congrArg some (by kernel_rfl))⟩
 f28:=Tryz.func196.trans (congrArg some (by kernel_rfl))
 f29:=Tryz.func197.trans (congrArg some (by kernel_rfl))
 f46:=⟨Tryz.f235.name,by decide,Tryz.func235.trans (congrArg some (by kernel_rfl))⟩
 f47:=Tryz.func224.trans (congrArg some (by kernel_rfl))
 f48:=Tryz.func225.trans (congrArg some (by kernel_rfl))
 f49:=⟨Tryz.f236.name,by decide,Tryz.func236.trans (congrArg some (by kernel_rfl))⟩
 f50:=⟨Tryz.f237.name,by decide,Tryz.func237.trans (congrArg some (by kernel_rfl))⟩
 f57:=⟨Tryz.f251.name,by decide,Tryz.func251.trans (congrArg some (by kernel_rfl))⟩
 t0:=Tryz.underlying0
 a0:=Tryz.isAgg0
 z0:=Tryz.sizeOf0
 v0:=Tryz.zeroValue0
 t3:=Tryz.underlying3
 a3:=Tryz.isAgg3
 z3:=Tryz.sizeOf3
 v3:=Tryz.zeroValue3
 t4:=Tryz.underlying4
 a4:=Tryz.isAgg4
 z4:=Tryz.sizeOf4
 v4:=Tryz.zeroValue4
 t5:=Tryz.underlying5
 a5:=Tryz.isAgg5
 z5:=Tryz.sizeOf5
 v5:=Tryz.zeroValue5
 t9:=Tryz.underlying9
 a9:=Tryz.isAgg9
 z9:=Tryz.sizeOf9
 v9:=Tryz.zeroValue9
 t22:=Tryz.underlying22
 a22:=Tryz.isAgg22
 z22:=Tryz.sizeOf22
 v22:=Tryz.zeroValue22
 a24:=Tryz.isAgg3
 z24:=Tryz.sizeOf3
 t25:=Tryz.underlying174
 a25:=Tryz.isAgg174
 z25:=Tryz.sizeOf174
 v25:=Tryz.zeroValue174
 t39:=Tryz.underlying81
 a39:=Tryz.isAgg81
 z39:=Tryz.sizeOf81
 v39:=Tryz.zeroValue81
 t45:=Tryz.underlying203
 a45:=Tryz.isAgg203
 z45:=Tryz.sizeOf203
 v45:=Tryz.zeroValue203
 t46:=Tryz.underlying204
 a46:=Tryz.isAgg204
 z46:=Tryz.sizeOf204
 v46:=Tryz.zeroValue204
 t50:=Tryz.underlying208
 a50:=Tryz.isAgg208
 z50:=Tryz.sizeOf208
 v50:=Tryz.zeroValue208
 t53:=Tryz.underlying211
 a53:=Tryz.isAgg211
 z53:=Tryz.sizeOf211
 v53:=Tryz.zeroValue211
 t55:=Tryz.underlying213
 a55:=Tryz.isAgg213
 z55:=Tryz.sizeOf213
 v55:=Tryz.zeroValue213
 t66:=Tryz.underlying231
 a66:=Tryz.isAgg231
 z66:=Tryz.sizeOf231
 v66:=Tryz.zeroValue231
 t70:=Tryz.underlying235
 a70:=Tryz.isAgg235
 z70:=Tryz.sizeOf235
 v70:=Tryz.zeroValue235
 t76:=Tryz.underlying244
 a76:=Tryz.isAgg244
 z76:=Tryz.sizeOf244
 v76:=Tryz.zeroValue244
 t77:=Tryz.underlying245
 a77:=Tryz.isAgg245
 z77:=Tryz.sizeOf245
 v77:=Tryz.zeroValue245 }
def Tryz.lay85_ren:Go.Shelf.Ren:=⟨fun | 6=>85 | 15=>150 | 14=>149 | 28=>196 | 29=>197 | 20=>188 | 21=>189 | 22=>190 | 23=>191 | 24=>192 | 25=>193 | 26=>194 | 27=>195 | 46=>223 | 47=>224 | 48=>225 | 49=>226 | 50=>227 | 57=>238 | n=>n,fun | 22=>29 | 24=>83 | 25=>113 | 3=>3 | 39=>81 | 0=>0 | 53=>211 | 55=>213 | 4=>4 | 46=>204 | 45=>203 | 50=>208 | 5=>5 | 9=>9 | 66=>231 | 70=>235 | 76=>244 | 77=>245 | n=>n,fun | n=>n⟩
theorem Tryz.lay85:Go.Proofs.SlLaysF0.n6 Tryz.prog Tryz.lay85_ren:={
 mixed:=by kernel_rfl
 f6:=⟨Tryz.f85.name,by decide,Tryz.func85.trans (congrArg some (by kernel_rfl))⟩
 f14:=⟨Tryz.f149.name,by decide,Tryz.func149.trans (congrArg some (by kernel_rfl))⟩
 f15:=Tryz.func150.trans (congrArg some (by kernel_rfl))
 f20:=⟨Tryz.f188.name,by decide,Tryz.func188.trans (congrArg some (by kernel_rfl))⟩
 f21:=⟨Tryz.f189.name,by decide,Tryz.func189.trans (congrArg some (by kernel_rfl))⟩
 f22:=⟨Tryz.f190.name,by decide,Tryz.func190.trans (congrArg some (by kernel_rfl))⟩
 f23:=⟨Tryz.f191.name,by decide,Tryz.func191.trans (congrArg some (by kernel_rfl))⟩
 f24:=⟨Tryz.f192.name,by decide,Tryz.func192.trans (congrArg some (by kernel_rfl))⟩
 f25:=⟨Tryz.f193.name,by decide,Tryz.func193.trans (congrArg some (by kernel_rfl))⟩
 f26:=⟨Tryz.f194.name,by decide,Tryz.func194.trans (congrArg some (by kernel_rfl))⟩
 f27:=⟨Tryz.f195.name,by decide,Tryz.func195.trans (congrArg some (by kernel_rfl))⟩
 f28:=Tryz.func196.trans (congrArg some (by kernel_rfl))
 f29:=Tryz.func197.trans (congrArg some (by kernel_rfl))
 f46:=⟨Tryz.f223.name,by decide,Tryz.func223.trans (congrArg some (by kernel_rfl))⟩
 f47:=Tryz.func224.trans (congrArg some (by kernel_rfl))
 f48:=Tryz.func225.trans (congrArg some (by kernel_rfl))
 f49:=⟨Tryz.f226.name,by decide,Tryz.func226.trans (congrArg some (by kernel_rfl))⟩
 f50:=⟨Tryz.f227.name,by decide,Tryz.func227.trans (congrArg some (by kernel_rfl))⟩
 f57:=⟨Tryz.f238.name,by decide,Tryz.func238.trans (congrArg some (by kernel_rfl))⟩
 t0:=Tryz.underlying0
 a0:=Tryz.isAgg0
 z0:=Tryz.sizeOf0
 v0:=Tryz.zeroValue0
 t3:=Tryz.underlying3
 a3:=Tryz.isAgg3
 z3:=Tryz.sizeOf3
 v3:=Tryz.zeroValue3
 t4:=Tryz.underlying4
 a4:=Tryz.isAgg4
 z4:=Tryz.sizeOf4
 v4:=Tryz.zeroValue4
 t5:=Tryz.underlying5
 a5:=Tryz.isAgg5
 z5:=Tryz.sizeOf5
 v5:=Tryz.zeroValue5
 t9:=Tryz.underlying9
 a9:=Tryz.isAgg9
 z9:=Tryz.sizeOf9
 v9:=Tryz.zeroValue9
 t22:=Tryz.underlying29
 a22:=Tryz.isAgg29
 z22:=Tryz.sizeOf29
 v22:=Tryz.zeroValue29
 t25:=Tryz.underlying113
 a25:=Tryz.isAgg113
 z25:=Tryz.sizeOf113
 v25:=Tryz.zeroValue113
 t39:=Tryz.underlying81
 a39:=Tryz.isAgg81
 z39:=Tryz.sizeOf81
 v39:=Tryz.zeroValue81
 t45:=Tryz.underlying203
 a45:=Tryz.isAgg203
 z45:=Tryz.sizeOf203
 v45:=Tryz.zeroValue203
 t46:=Tryz.underlying204
 a46:=Tryz.isAgg204
 z46:=Tryz.sizeOf204
 v46:=Tryz.zeroValue204
 t50:=Tryz.underlying208
 a50:=Tryz.isAgg208
 z50:=Tryz.sizeOf208
 v50:=Tryz.zeroValue208
 t53:=Tryz.underlying211
 a53:=Tryz.isAgg211
 z53:=Tryz.sizeOf211
 v53:=Tryz.zeroValue211
 t55:=Tryz.underlying213
 a55:=Tryz.isAgg213
 z55:=Tryz.sizeOf213
 v55:=Tryz.zeroValue213
 t66:=Tryz.underlying231
 a66:=Tryz.isAgg231
 z66:=Tryz.sizeOf231
 v66:=Tryz.zeroValue231
 t70:=Tryz.underlying235
 a70:=Tryz.isAgg235
 z70:=Tryz.sizeOf235
 v70:=Tryz.zeroValue235
 t76:=Tryz.underlying244
 a76:=Tryz.isAgg244
 z76:=Tryz.sizeOf244
 v76:=Tryz.zeroValue244
 t77:=Tryz.underlying245
 a77:=Tryz.isAgg245
 z77:=Tryz.sizeOf245
 v77:=Tryz.zeroValue245 }
def Tryz.lay200_ren:Go.Shelf.Ren:=⟨fun | 189=>200 | 125=>150 | 257=>229 | 128=>196 | 129=>197 | 294=>239 | 295=>240 | 296=>241 | 297=>242 | 298=>243 | 299=>244 | 216=>245 | 300=>246 | 301=>247 | 328=>252 | 329=>224 | 330=>225 | 331=>253 | 332=>254 | 215=>198 | 343=>261 | n=>n,fun | 28=>22 | 3=>3 | 46=>81 | 0=>0 | 51=>211 | 53=>213 | 4=>4 | 183=>204 | 182=>203 | 131=>208 | 5=>5 | 9=>9 | 218=>231 | 222=>235 | 228=>244 | 229=>245 | n=>n,fun | n=>n⟩
theorem Tryz.lay200:Go.Proofs.Lays.n189 Tryz.prog Tryz.lay200_ren:={
 mixed:=by kernel_rfl
 f125:=Tryz.func150.trans (congrArg some (by kernel_rfl))
 f128:=Tryz.func196.trans (congrArg some (by kernel_rfl))
 f129:=Tryz.func197.trans (congrArg some (by kernel_rfl))
 f189:=Tryz.func200.trans (congrArg some (by kernel_rfl))
 f215:=Tryz.func198.trans (congrArg some (by kernel_rfl))
 f216:=Tryz.func245.trans (congrArg some (by kernel_rfl))
 f257:=Tryz.func229.trans (congrArg some (by kernel_rfl))
 f294:=Tryz.func239.trans (congrArg some (by kernel_rfl))
 f295:=Tryz.func240.trans (congrArg some (by kernel_rfl))
 f296:=Tryz.func241.trans (congrArg some (by kernel_rfl))
 f297:=Tryz.func242.trans (congrArg some (by kernel_rfl))
 f298:=Tryz.func243.trans (congrArg some (by kernel_rfl))
 f299:=Tryz.func244.trans (congrArg some (by kernel_rfl))
 f300:=Tryz.func246.trans (congrArg some (by kernel_rfl))
 f301:=Tryz.func247.trans (congrArg some (by kernel_rfl))
 f328:=Tryz.func252.trans (congrArg some (by kernel_rfl))
 f329:=Tryz.func224.trans (congrArg some (by kernel_rfl))
 f330:=Tryz.func225.trans (congrArg some (by kernel_rfl))
 f331:=Tryz.func253.trans (congrArg some (by kernel_rfl))
 f332:=Tryz.func254.trans (congrArg some (by kernel_rfl))
 f343:=Tryz.func261.trans (congrArg some (by kernel_rfl))
 t0:=Tryz.underlying0
 a0:=Tryz.isAgg0
 z0:=Tryz.sizeOf0
 v0:=Tryz.zeroValue0
 t3:=Tryz.underlying3
 a3:=Tryz.isAgg3
 z3:=Tryz.sizeOf3
 v3:=Tryz.zeroValue3
 t4:=Tryz.underlying4
 a4:=Tryz.isAgg4
 z4:=Tryz.sizeOf4
 v4:=Tryz.zeroValue4
 t5:=Tryz.underlying5
 a5:=Tryz.isAgg5
 z5:=Tryz.sizeOf5
 v5:=Tryz.zeroValue5
 t9:=Tryz.underlying9
 a9:=Tryz.isAgg9
 z9:=Tryz.sizeOf9
 v9:=Tryz.zeroValue9
 t28:=Tryz.underlying22
 a28:=Tryz.isAgg22
 z28:=Tryz.sizeOf22
 v28:=Tryz.zeroValue22
 t46:=Tryz.underlying81
 a46:=Tryz.isAgg81
 z46:=Tryz.sizeOf81
 v46:=Tryz.zeroValue81
 t51:=Tryz.underlying211
 a51:=Tryz.isAgg211
 z51:=Tryz.sizeOf211
 v51:=Tryz.zeroValue211
 t53:=Tryz.underlying213
 a53:=Tryz.isAgg213
 z53:=Tryz.sizeOf213
 v53:=Tryz.zeroValue213
 t131:=Tryz.underlying208
 a131:=Tryz.isAgg208
 z131:=Tryz.sizeOf208
 v131:=Tryz.zeroValue208
 t182:=Tryz.underlying203
 a182:=Tryz.isAgg203
 z182:=Tryz.sizeOf203
 v182:=Tryz.zeroValue203
 t183:=Tryz.underlying204
 a183:=Tryz.isAgg204
 z183:=Tryz.sizeOf204
 v183:=Tryz.zeroValue204
 t218:=Tryz.underlying231
 a218:=Tryz.isAgg231
 z218:=Tryz.sizeOf231
 v218:=Tryz.zeroValue231
 t222:=Tryz.underlying235
 a222:=Tryz.isAgg235
 z222:=Tryz.sizeOf235
 v222:=Tryz.zeroValue235
 t228:=Tryz.underlying244
 a228:=Tryz.isAgg244
 z228:=Tryz.sizeOf244
 v228:=Tryz.zeroValue244
 t229:=Tryz.underlying245
 a229:=Tryz.isAgg245
 z229:=Tryz.sizeOf245
 v229:=Tryz.zeroValue245 }
end Go.Proofs
end
section
namespace Go.Qx
open Go Go.RowKit Go.Sx
set_option maxRecDepth 100000
abbrev b70 (v:Api_Field):Key×Int×Bool:=(v.Key_,v.Node,v.Optional)
abbrev c5d (x:Key×Int×Bool):Api_Field:=⟨x.1,x.2.1,x.2.2⟩
@[reducible] def a5T:Rp Api_Field:=a8f b70 (Y7 (rpKey) (Y7 (rpK .i64) (rpBool)))
abbrev b3M (v:Api_TypeNode):Int×Int×Int×ByteArray×(List Int)×(List Api_Field)×(Int×Int):=(v.Kind,v.Lo,v.Hi,v.Text,v.Kids,v.Fields,v.Rest)
abbrev c2p (x:Int×Int×Int×ByteArray×(List Int)×(List Api_Field)×(Int×Int)):Api_TypeNode:=⟨x.1,x.2.1,x.2.2.1,x.2.2.2.1,x.2.2.2.2.1,x.2.2.2.2.2.1,x.2.2.2.2.2.2⟩
@[reducible] def a3K:Rp Api_TypeNode:=a8f b3M (Y7 (rpK .i64) (Y7 (rpK .i64) (Y7 (rpK .i64) (Y7 (rpStr) (Y7 (@rpList _ (rpK .i64)) (Y7 (@rpList _ (a5T)) (Y7 (rpK .i64) (rpK .i64))))))))
abbrev c0f (v:Api_Type):(List Api_TypeNode)×Int:=(v.Nodes,v.Root)
abbrev c6f (x:(List Api_TypeNode)×Int):Api_Type:=⟨x.1,x.2⟩
@[reducible] def b4C:Rp Api_Type:=a8f c0f (Y7 (@rpList _ (a3K)) (rpK .i64))
abbrev b8F (v:Api_Names):Bool×(List ByteArray):=(v.Cofinite,v.List_)
abbrev c4V (x:Bool×(List ByteArray)):Api_Names:=⟨x.1,x.2⟩
@[reducible] def a7r:Rp Api_Names:=a8f b8F (Y7 (rpBool) (@rpList _ (rpStr)))
abbrev b8a (v:Api_Range):Int×Int:=(v.Lo,v.Hi)
abbrev c4p (x:Int×Int):Api_Range:=⟨x.1,x.2⟩
@[reducible] def a5U:Rp Api_Range:=a8f b8a (Y7 (rpK .i64) (rpK .i64))
abbrev c0k (v:Api_Line):Int×Int×(List Api_Range)×Api_Names×(List Int)×(List Int)×(List ByteArray)×(List ByteArray):=(v.Kind,v.Arity,v.Ints,v.Names,v.Pos,v.Neg,v.Vars,v.NotVars)
abbrev c6a (x:Int×Int×(List Api_Range)×Api_Names×(List Int)×(List Int)×(List ByteArray)×(List ByteArray)):Api_Line:=⟨x.1,x.2.1,x.2.2.1,x.2.2.2.1,x.2.2.2.2.1,x.2.2.2.2.2.1,x.2.2.2.2.2.2.1,x.2.2.2.2.2.2.2⟩
@[reducible] def b4b:Rp Api_Line:=a8f c0k (Y7 (rpK .i64) (Y7 (rpK .i64) (Y7 (@rpList _ (a5U)) (Y7 (a7r) (Y7 (@rpList _ (rpK .i64)) (Y7 (@rpList _ (rpK .i64)) (Y7 (@rpList _ (rpStr)) (@rpList _ (rpStr)))))))))
abbrev a8B (v:Semtypebase_Source):(List Int)×Int:=(v.L,v.At)
abbrev b5X (x:(List Int)×Int):Semtypebase_Source:=⟨x.1,x.2⟩
@[reducible] def a5S:Rp Semtypebase_Source:=a8f a8B (Y7 (@rpList _ (rpK .i64)) (rpK .i64))
abbrev c0j (v:Api_Goal):(List Int)×(List Int)×Bool:=(v.Pos,v.Neg,v.Lists)
abbrev c6o (x:(List Int)×(List Int)×Bool):Api_Goal:=⟨x.1,x.2.1,x.2.2⟩
@[reducible] def W3:Rp Api_Goal:=a8f c0j (Y7 (@rpList _ (rpK .i64)) (Y7 (@rpList _ (rpK .i64)) (rpBool)))
abbrev b5E (v:Api_SomeKey):Int×Api_Goal:=(v.Kind,v.Goal)
abbrev c2E (x:Int×Api_Goal):Api_SomeKey:=⟨x.1,x.2⟩
@[reducible] def a4A:Rp Api_SomeKey:=a8f b5E (Y7 (rpK .i64) (W3))
abbrev b75 (v:Api_Shape):(List Key)×(List Int)×(List Api_Goal)×(Api_Goal×Api_Goal)×(List Api_SomeKey):=(v.Keys,v.States,v.Parts,v.Rest,v.Some)
abbrev c4r (x:(List Key)×(List Int)×(List Api_Goal)×(Api_Goal×Api_Goal)×(List Api_SomeKey)):Api_Shape:=⟨x.1,x.2.1,x.2.2.1,x.2.2.2.1,x.2.2.2.2⟩
@[reducible] def b2T:Rp Api_Shape:=a8f b75 (Y7 (@rpList _ (rpKey)) (Y7 (@rpList _ (rpK .i64)) (Y7 (@rpList _ (W3)) (Y7 (Y7 (W3) (W3)) (@rpList _ (a4A))))))
abbrev b3J (v:Record_place):Int×Bool×Int:=(v.key,v.absent,v.kind)
abbrev c13 (x:Int×Bool×Int):Record_place:=⟨x.1,x.2.1,x.2.2⟩
@[reducible] def a8V:Rp Record_place:=a8f b3J (Y7 (rpK .i64) (Y7 (rpBool) (rpK .i64)))
abbrev b7f (v:Value_used):Bool×Bool×Bool×Bool×Bool:=(v.number,v.text_,v.kids,v.keys,v.entries)
abbrev c30 (x:Bool×Bool×Bool×Bool×Bool):Value_used:=⟨x.1,x.2.1,x.2.2.1,x.2.2.2.1,x.2.2.2.2⟩
@[reducible] def b04:Rp Value_used:=a8f b7f (Y7 (rpBool) (Y7 (rpBool) (Y7 (rpBool) (Y7 (rpBool) (rpBool)))))
def tyL:List TE:=[⟨2,Int,rpK .i64⟩,
 ⟨3,Int,rpK .i64⟩,
 ⟨4,Bool,rpBool⟩,
 ⟨5,Int,rpK .u8⟩,
 ⟨9,ByteArray,rpStr⟩,
 ⟨22,List Int,@rpList _ (rpK .i64)⟩,
 ⟨25,List Api_TypeNode,@rpList _ (a3K)⟩,
 ⟨27,Api_Type,b4C⟩,
 ⟨28,List Val,@rpList _ (rpVal)⟩,
 ⟨29,List Key,@rpList _ (rpKey)⟩,
 ⟨30,List Ent,@rpList _ (rpEnt)⟩,
 ⟨31,List ByteArray,@rpList _ (rpStr)⟩,
 ⟨33,Val,rpVal⟩,
 ⟨36,List Api_Range,@rpList _ (a5U)⟩,
 ⟨38,Api_Names,a7r⟩,
 ⟨40,Api_Line,b4b⟩,
 ⟨44,Semtypebase_Source,a5S⟩,
 ⟨50,List Api_Goal,@rpList _ (W3)⟩,
 ⟨56,Api_Goal,W3⟩,
 ⟨68,Api_Goal×Api_Goal,Y7 (W3) (W3)⟩,
 ⟨69,List Api_SomeKey,@rpList _ (a4A)⟩,
 ⟨71,Api_Shape,b2T⟩,
 ⟨74,List Api_Field,@rpList _ (a5T)⟩,
 ⟨75,Int×Int,Y7 (rpK .i64) (rpK .i64)⟩,
 ⟨77,Api_TypeNode,a3K⟩,
 ⟨83,Key,rpKey⟩,
 ⟨85,Api_SomeKey,a4A⟩,
 ⟨101,Api_Field,a5T⟩,
 ⟨111,Record_place,a8V⟩,
 ⟨138,Ent,rpEnt⟩,
 ⟨220,Value_used,b04⟩,
 ⟨277,Api_Range,a5U⟩]
abbrev I (E:TypeId):Type:=(c75 tyL E).α
instance rI (E:TypeId):Rp (I E):=(c75 tyL E).rp
def c6p:Fd I (I 27) inferInstance:=(a6z (rg:=b4C) (J2 (a2d 77:Fd I (List Api_TypeNode) (@rpList _ (a3K))) ((a3n .i64:Fd I Int (rpK .i64)))) c0f c6f (fun _=>rfl) (fun _ _ _=>Iff.rfl):Fd I Api_Type b4C)
def c8q:Fd I (I 33) inferInstance:=(a6z (rg:=rpVal) (J2 (a3n .i64:Fd I Int (rpK .i64)) (J2 (a3n .i64:Fd I Int (rpK .i64)) (J2 (c4d:Fd I ByteArray (rpStr)) (J2 (a2d 33:Fd I (List Val) (@rpList _ (rpVal))) (J2 (a2d 83:Fd I (List Key) (@rpList _ (rpKey))) (J2 (a2d 138:Fd I (List Ent) (@rpList _ (rpEnt))) ((a2d 9:Fd I (List ByteArray) (@rpList _ (rpStr)))))))))) Val.to Val.of (fun _=>rfl) Val.cells_to:Fd I Val rpVal)
def b8d:Fd I (I 38) inferInstance:=(a6z (rg:=a7r) (J2 (a7m:Fd I Bool (rpBool)) ((a2d 9:Fd I (List ByteArray) (@rpList _ (rpStr))))) b8F c4V (fun _=>rfl) (fun _ _ _=>Iff.rfl):Fd I Api_Names a7r)
def c6l:Fd I (I 40) inferInstance:=(a6z (rg:=b4b) (J2 (a3n .i64:Fd I Int (rpK .i64)) (J2 (a3n .i64:Fd I Int (rpK .i64)) (J2 (a2d 277:Fd I (List Api_Range) (@rpList _ (a5U))) (J2 (b3L 38 b8d:Fd I Api_Names (a7r)) (J2 (a2d 3:Fd I (List Int) (@rpList _ (rpK .i64))) (J2 (a2d 3:Fd I (List Int) (@rpList _ (rpK .i64))) (J2 (a2d 9:Fd I (List ByteArray) (@rpList _ (rpStr))) ((a2d 9:Fd I (List ByteArray) (@rpList _ (rpStr))))))))))) c0k c6a (fun _=>rfl) (fun _ _ _=>Iff.rfl):Fd I Api_Line b4b)
def b5D:Fd I (I 44) inferInstance:=(a6z (rg:=a5S) (J2 (a2d 3:Fd I (List Int) (@rpList _ (rpK .i64))) ((a3n .i64:Fd I Int (rpK .i64)))) a8B b5X (fun _=>rfl) (fun _ _ _=>Iff.rfl):Fd I Semtypebase_Source a5S)
def b0k:Fd I (I 56) inferInstance:=(a6z (rg:=W3) (J2 (a2d 3:Fd I (List Int) (@rpList _ (rpK .i64))) (J2 (a2d 3:Fd I (List Int) (@rpList _ (rpK .i64))) ((a7m:Fd I Bool (rpBool))))) c0j c6o (fun _=>rfl) (fun _ _ _=>Iff.rfl):Fd I Api_Goal W3)
def c9y:Fd I (I 68) inferInstance:=(J2 (b3L 56 b0k:Fd I Api_Goal (W3)) ((b3L 56 b0k:Fd I Api_Goal (W3))):Fd I (Api_Goal×Api_Goal) (Y7 (W3) (W3)))
def c4H:Fd I (I 71) inferInstance:=(a6z (rg:=b2T) (J2 (a2d 83:Fd I (List Key) (@rpList _ (rpKey))) (J2 (a2d 3:Fd I (List Int) (@rpList _ (rpK .i64))) (J2 (a2d 56:Fd I (List Api_Goal) (@rpList _ (W3))) (J2 (b3L 68 c9y:Fd I (Api_Goal×Api_Goal) (Y7 (W3) (W3))) ((a2d 85:Fd I (List Api_SomeKey) (@rpList _ (a4A)))))))) b75 c4r (fun _=>rfl) (fun _ _ _=>Iff.rfl):Fd I Api_Shape b2T)
def c83:Fd I (I 75) inferInstance:=(J2 (a3n .i64:Fd I Int (rpK .i64)) ((a3n .i64:Fd I Int (rpK .i64))):Fd I (Int×Int) (Y7 (rpK .i64) (rpK .i64)))
def c1O:Fd I (I 77) inferInstance:=(a6z (rg:=a3K) (J2 (a3n .i64:Fd I Int (rpK .i64)) (J2 (a3n .i64:Fd I Int (rpK .i64)) (J2 (a3n .i64:Fd I Int (rpK .i64)) (J2 (c4d:Fd I ByteArray (rpStr)) (J2 (a2d 3:Fd I (List Int) (@rpList _ (rpK .i64))) (J2 (a2d 101:Fd I (List Api_Field) (@rpList _ (a5T))) ((b3L 75 c83:Fd I (Int×Int) (Y7 (rpK .i64) (rpK .i64)))))))))) b3M c2p (fun _=>rfl) (fun _ _ _=>Iff.rfl):Fd I Api_TypeNode a3K)
def c8p:Fd I (I 83) inferInstance:=(a6z (rg:=rpKey) (J2 (a3n .i64:Fd I Int (rpK .i64)) ((c4d:Fd I ByteArray (rpStr)))) Key.to Key.of (fun _=>rfl) Key.cells_to:Fd I Key rpKey)
def c2Y:Fd I (I 85) inferInstance:=(a6z (rg:=a4A) (J2 (a3n .i64:Fd I Int (rpK .i64)) ((b3L 56 b0k:Fd I Api_Goal (W3)))) b5E c2E (fun _=>rfl) (fun _ _ _=>Iff.rfl):Fd I Api_SomeKey a4A)
def c5l:Fd I (I 101) inferInstance:=(a6z (rg:=a5T) (J2 (b3L 83 c8p:Fd I Key (rpKey)) (J2 (a3n .i64:Fd I Int (rpK .i64)) ((a7m:Fd I Bool (rpBool))))) b70 c5d (fun _=>rfl) (fun _ _ _=>Iff.rfl):Fd I Api_Field a5T)
def c1D:Fd I (I 111) inferInstance:=(a6z (rg:=a8V) (J2 (a3n .i64:Fd I Int (rpK .i64)) (J2 (a7m:Fd I Bool (rpBool)) ((a3n .i64:Fd I Int (rpK .i64))))) b3J c13 (fun _=>rfl) (fun _ _ _=>Iff.rfl):Fd I Record_place a8V)
def d2I:Fd I (I 138) inferInstance:=(a6z (rg:=rpEnt) (J2 (a2d 33:Fd I (List Val) (@rpList _ (rpVal))) (J2 (a7m:Fd I Bool (rpBool)) ((b3L 33 c8q:Fd I Val (rpVal))))) Ent.to Ent.of (fun _=>rfl) Ent.cells_to:Fd I Ent rpEnt)
def c3V:Fd I (I 220) inferInstance:=(a6z (rg:=b04) (J2 (a7m:Fd I Bool (rpBool)) (J2 (a7m:Fd I Bool (rpBool)) (J2 (a7m:Fd I Bool (rpBool)) (J2 (a7m:Fd I Bool (rpBool)) ((a7m:Fd I Bool (rpBool))))))) b7f c30 (fun _=>rfl) (fun _ _ _=>Iff.rfl):Fd I Value_used b04)
def c5K:Fd I (I 277) inferInstance:=(a6z (rg:=a5U) (J2 (a3n .i64:Fd I Int (rpK .i64)) ((a3n .i64:Fd I Int (rpK .i64)))) b8a c4p (fun _=>rfl) (fun _ _ _=>Iff.rfl):Fd I Api_Range a5U)
def feL:List (FE I):=[⟨2,a3n .i64⟩,
 ⟨3,a3n .i64⟩,
 ⟨4,a7m⟩,
 ⟨5,a3n .u8⟩,
 ⟨9,c4d⟩,
 ⟨22,a2d 3⟩,
 ⟨25,a2d 77⟩,
 ⟨27,c6p⟩,
 ⟨28,a2d 33⟩,
 ⟨29,a2d 83⟩,
 ⟨30,a2d 138⟩,
 ⟨31,a2d 9⟩,
 ⟨33,c8q⟩,
 ⟨36,a2d 277⟩,
 ⟨38,b8d⟩,
 ⟨40,c6l⟩,
 ⟨44,b5D⟩,
 ⟨50,a2d 56⟩,
 ⟨56,b0k⟩,
 ⟨68,c9y⟩,
 ⟨69,a2d 85⟩,
 ⟨71,c4H⟩,
 ⟨74,a2d 101⟩,
 ⟨75,c83⟩,
 ⟨77,c1O⟩,
 ⟨83,c8p⟩,
 ⟨85,c2Y⟩,
 ⟨101,c5l⟩,
 ⟨111,c1D⟩,
 ⟨138,d2I⟩,
 ⟨220,c3V⟩,
 ⟨277,c5K⟩]
def d3a:TabL I where
 sz:=[(27,2),(33,7),(40,9),(56,3),(71,10),(75,2),(77,8),(83,2),(85,4),(101,4),(111,3),(138,9),(220,5)]
 one:=[(2,()),(3,()),(4,()),(5,()),(9,()),(22,()),(25,()),(28,()),(29,()),(30,()),(31,()),(50,()),(62,()),(69,()),(74,()),(98,()),(105,()),(106,())]
 fld:=[(27,[(0,25),(1,3)]),(33,[(0,3),(1,2),(2,9),(3,28),(4,29),(5,30),(6,31)]),(40,[(0,3),(1,3),(2,36),(3,38),(5,22),(6,22),(7,31),(8,31)]),(44,[(0,22),(1,3)]),(56,[(0,22),(1,22),(2,4)]),(71,[(0,29),(1,22),(2,50),(3,68),(9,69)]),(77,[(0,3),(1,2),(2,2),(3,9),(4,22),(5,74),(6,75)]),(83,[(0,3),(1,9)]),(85,[(0,3),(1,56)]),(101,[(0,83),(2,3),(3,4)]),(111,[(0,3),(1,4),(2,3)]),(138,[(0,28),(1,4),(2,33)]),(220,[(0,4),(1,4),(2,4),(3,4),(4,4)])]
 el:=[(22,3),(25,77),(28,33),(29,83),(30,138),(31,9),(50,56),(62,71),(69,85),(74,101),(90,22),(105,111),(140,4),(151,2),(165,5)]
 str:=[(9,())]
 bool:=[(4,())]
 ik:=[(3,.i64),(5,.u8),(81,.u64)]
 fe:=feL
 inf:=[(2,1,8,[.int .i64 0]),(3,1,8,[.int .i64 0]),(4,1,1,[.bool false]),(5,1,1,[.int .u8 0]),(9,1,16,[.str ⟨#[]⟩]),(22,1,24,[.nl 3]),(25,1,24,[.nl 77]),(27,2,32,[.nl 77,.int .i64 0]),(28,1,24,[.nl 33]),(29,1,24,[.nl 83]),(30,1,24,[.nl 138]),(31,1,24,[.nl 9]),(33,7,128,[.int .i64 0,.int .i64 0,.str ⟨#[]⟩,.nl 33,.nl 83,.nl 138,.nl 9]),(40,9,168,[.int .i64 0,.int .i64 0,.nl 277,.bool false,.nl 9,.nl 3,.nl 3,.nl 9,.nl 9]),(44,2,32,[.nl 3,.int .i64 0]),(50,1,24,[.nl 56]),(56,3,56,[.nl 3,.nl 3,.bool false]),(62,1,24,[.nl 71]),(69,1,24,[.nl 85]),(71,10,208,[.nl 83,.nl 3,.nl 56,.nl 3,.nl 3,.bool false,.nl 3,.nl 3,.bool false,.nl 85]),(74,1,24,[.nl 101]),(75,2,16,[.int .i64 0,.int .i64 0]),(77,8,104,[.int .i64 0,.int .i64 0,.int .i64 0,.str ⟨#[]⟩,.nl 3,.nl 101,.int .i64 0,.int .i64 0]),(83,2,24,[.int .i64 0,.str ⟨#[]⟩]),(85,4,64,[.int .i64 0,.nl 3,.nl 3,.bool false]),(98,1,8,[.any]),(101,4,40,[.int .i64 0,.str ⟨#[]⟩,.int .i64 0,.bool false]),(105,1,24,[.nl 111]),(106,1,8,[.any]),(111,3,24,[.int .i64 0,.bool false,.int .i64 0]),(138,9,160,[.nl 33,.bool false,.int .i64 0,.int .i64 0,.str ⟨#[]⟩,.nl 33,.nl 83,.nl 138,.nl 9]),(220,5,5,[.bool false,.bool false,.bool false,.bool false,.bool false])]
 st:=[(27,[(0,1),(1,1)]),(33,[(0,1),(1,1),(2,1),(3,1),(4,1),(5,1),(6,1)]),(40,[(0,1),(1,1),(2,1),(3,2),(5,1),(6,1),(7,1),(8,1)]),(44,[(0,1),(1,1)]),(56,[(0,1),(1,1),(2,1)]),(71,[(0,1),(1,1),(2,1),(3,6),(9,1)]),(75,[(0,1),(1,1)]),(77,[(0,1),(1,1),(2,1),(3,1),(4,1),(5,1),(6,2)]),(83,[(0,1),(1,1)]),(85,[(0,1),(1,3)]),(101,[(0,2),(2,1),(3,1)]),(111,[(0,1),(1,1),(2,1)]),(138,[(0,1),(1,1),(2,7)]),(220,[(0,1),(1,1),(2,1),(3,1),(4,1)])]
 eq:=[(75,c5x feL 75 b2n),(83,c5x feL 83 a3B)]
 nest:=[(22,3,0)]
 arr:=[(68,56,2,3),(75,3,2,1)]
 u8:=[(5,())]
 mp:=[(170,.bool)]
 fb:=[(84,()),(86,()),(121,()),(125,()),(141,()),(143,()),(152,()),(171,()),(172,()),(174,()),(175,()),(177,()),(182,()),(183,()),(233,()),(249,())]
abbrev tb:Tab I:=d1b d3a
theorem ti2:Q6 Go.Proofs.Tryz.prog 2 (.int .i64 0) 1 8:=Q1 (by kernel_rfl)
theorem ti3:Q6 Go.Proofs.Tryz.prog 3 (.int .i64 0) 1 8:=Q1 (by kernel_rfl)
theorem ti4:Q6 Go.Proofs.Tryz.prog 4 (.bool false) 1 1:=Q1 (by kernel_rfl)
theorem ti5:Q6 Go.Proofs.Tryz.prog 5 (.int .u8 0) 1 1:=Q1 (by kernel_rfl)
theorem ti9:Q6 Go.Proofs.Tryz.prog 9 (.string ⟨#[]⟩) 1 16:=Q1 (by kernel_rfl)
theorem d3v:Q6 Go.Proofs.Tryz.prog 22 (.slice none 0 0) 1 24:=Q1 (by kernel_rfl)
theorem d49:Q6 Go.Proofs.Tryz.prog 25 (.slice none 0 0) 1 24:=Q1 (by kernel_rfl)
theorem d40:Q6 Go.Proofs.Tryz.prog 27 (.agg #[.slice none 0 0,.int .i64 0]) 2 32:=Q1 (by kernel_rfl)
theorem d4K:Q6 Go.Proofs.Tryz.prog 28 (.slice none 0 0) 1 24:=Q1 (by kernel_rfl)
theorem d5c:Q6 Go.Proofs.Tryz.prog 29 (.slice none 0 0) 1 24:=Q1 (by kernel_rfl)
theorem d5g:Q6 Go.Proofs.Tryz.prog 30 (.slice none 0 0) 1 24:=Q1 (by kernel_rfl)
theorem d4X:Q6 Go.Proofs.Tryz.prog 31 (.slice none 0 0) 1 24:=Q1 (by kernel_rfl)
theorem d3d:Q6 Go.Proofs.Tryz.prog 33 (.agg #[.int .i64 0,.int .i64 0,.string ⟨#[]⟩,.slice none 0 0,.slice none 0 0,.slice none 0 0,.slice none 0 0]) 7 128:=Q1 (by kernel_rfl)
theorem d4Z:Q6 Go.Proofs.Tryz.prog 40 (.agg #[.int .i64 0,.int .i64 0,.slice none 0 0,.bool false,.slice none 0 0,.slice none 0 0,.slice none 0 0,.slice none 0 0,.slice none 0 0]) 9 168:=Q1 (by kernel_rfl)
theorem d4H:Q6 Go.Proofs.Tryz.prog 44 (.agg #[.slice none 0 0,.int .i64 0]) 2 32:=Q1 (by kernel_rfl)
theorem d4z:Q6 Go.Proofs.Tryz.prog 50 (.slice none 0 0) 1 24:=Q1 (by kernel_rfl)
theorem d3L:Q6 Go.Proofs.Tryz.prog 56 (.agg #[.slice none 0 0,.slice none 0 0,.bool false]) 3 56:=Q1 (by kernel_rfl)
theorem d44:Q6 Go.Proofs.Tryz.prog 62 (.slice none 0 0) 1 24:=Q1 (by kernel_rfl)
theorem d4D:Q6 Go.Proofs.Tryz.prog 69 (.slice none 0 0) 1 24:=Q1 (by kernel_rfl)
theorem d3p:Q6 Go.Proofs.Tryz.prog 71 (.agg #[.slice none 0 0,.slice none 0 0,.slice none 0 0,.slice none 0 0,.slice none 0 0,.bool false,.slice none 0 0,.slice none 0 0,.bool false,.slice none 0 0]) 10 208:=Q1 (by kernel_rfl)
theorem d4I:Q6 Go.Proofs.Tryz.prog 74 (.slice none 0 0) 1 24:=Q1 (by kernel_rfl)
theorem d5d:Q6 Go.Proofs.Tryz.prog 75 (.agg #[.int .i64 0,.int .i64 0]) 2 16:=Q1 (by kernel_rfl)
theorem d2N:Q6 Go.Proofs.Tryz.prog 77 (.agg #[.int .i64 0,.int .i64 0,.int .i64 0,.string ⟨#[]⟩,.slice none 0 0,.slice none 0 0,.int .i64 0,.int .i64 0]) 8 104:=Q1 (by kernel_rfl)
theorem d3C:Q6 Go.Proofs.Tryz.prog 83 (.agg #[.int .i64 0,.string ⟨#[]⟩]) 2 24:=Q1 (by kernel_rfl)
theorem d3c:Q6 Go.Proofs.Tryz.prog 85 (.agg #[.int .i64 0,.slice none 0 0,.slice none 0 0,.bool false]) 4 64:=Q1 (by kernel_rfl)
theorem d4W:Q6 Go.Proofs.Tryz.prog 98 (.nilFunc) 1 8:=Q1 (by kernel_rfl)
theorem d1l:Q6 Go.Proofs.Tryz.prog 101 (.agg #[.int .i64 0,.string ⟨#[]⟩,.int .i64 0,.bool false]) 4 40:=Q1 (by kernel_rfl)
theorem d30:Q6 Go.Proofs.Tryz.prog 105 (.slice none 0 0) 1 24:=Q1 (by kernel_rfl)
theorem d4d:Q6 Go.Proofs.Tryz.prog 106 (.nilFunc) 1 8:=Q1 (by kernel_rfl)
theorem d1f:Q6 Go.Proofs.Tryz.prog 111 (.agg #[.int .i64 0,.bool false,.int .i64 0]) 3 24:=Q1 (by kernel_rfl)
theorem d1c:Q6 Go.Proofs.Tryz.prog 138 (.agg #[.slice none 0 0,.bool false,.int .i64 0,.int .i64 0,.string ⟨#[]⟩,.slice none 0 0,.slice none 0 0,.slice none 0 0,.slice none 0 0]) 9 160:=Q1 (by kernel_rfl)
theorem d4b:Q6 Go.Proofs.Tryz.prog 220 (.agg #[.bool false,.bool false,.bool false,.bool false,.bool false]) 5 5:=Q1 (by kernel_rfl)
theorem to2:a2C Go.Proofs.Tryz.prog 2:=⟨_,Go.Proofs.Tryz.underlying2,rfl,by kernel_rfl⟩
theorem to3:a2C Go.Proofs.Tryz.prog 3:=⟨_,Go.Proofs.Tryz.underlying3,rfl,by kernel_rfl⟩
theorem to4:a2C Go.Proofs.Tryz.prog 4:=⟨_,Go.Proofs.Tryz.underlying4,rfl,by kernel_rfl⟩
theorem to5:a2C Go.Proofs.Tryz.prog 5:=⟨_,Go.Proofs.Tryz.underlying5,rfl,by kernel_rfl⟩
theorem to9:a2C Go.Proofs.Tryz.prog 9:=⟨_,Go.Proofs.Tryz.underlying9,rfl,by kernel_rfl⟩
theorem d4L:a2C Go.Proofs.Tryz.prog 22:=⟨_,Go.Proofs.Tryz.underlying22,rfl,by kernel_rfl⟩
theorem d5a:a2C Go.Proofs.Tryz.prog 25:=⟨_,Go.Proofs.Tryz.underlying25,rfl,by kernel_rfl⟩
theorem d4Q:a2C Go.Proofs.Tryz.prog 28:=⟨_,Go.Proofs.Tryz.underlying28,rfl,by kernel_rfl⟩
theorem d4G:a2C Go.Proofs.Tryz.prog 29:=⟨_,Go.Proofs.Tryz.underlying29,rfl,by kernel_rfl⟩
theorem d4U:a2C Go.Proofs.Tryz.prog 30:=⟨_,Go.Proofs.Tryz.underlying30,rfl,by kernel_rfl⟩
theorem d5e:a2C Go.Proofs.Tryz.prog 31:=⟨_,Go.Proofs.Tryz.underlying31,rfl,by kernel_rfl⟩
theorem d5f:a2C Go.Proofs.Tryz.prog 50:=⟨_,Go.Proofs.Tryz.underlying50,rfl,by kernel_rfl⟩
theorem d4V:a2C Go.Proofs.Tryz.prog 62:=⟨_,Go.Proofs.Tryz.underlying62,rfl,by kernel_rfl⟩
theorem d4T:a2C Go.Proofs.Tryz.prog 69:=⟨_,Go.Proofs.Tryz.underlying69,rfl,by kernel_rfl⟩
theorem d5h:a2C Go.Proofs.Tryz.prog 74:=⟨_,Go.Proofs.Tryz.underlying74,rfl,by kernel_rfl⟩
theorem d48:a2C Go.Proofs.Tryz.prog 98:=⟨_,Go.Proofs.Tryz.underlying98,rfl,by kernel_rfl⟩
theorem d3Q:a2C Go.Proofs.Tryz.prog 105:=⟨_,Go.Proofs.Tryz.underlying105,rfl,by kernel_rfl⟩
theorem d3T:a2C Go.Proofs.Tryz.prog 106:=⟨_,Go.Proofs.Tryz.underlying106,rfl,by kernel_rfl⟩
theorem d5b {σ:S}{x y:Int×Int}{cs ds:List Value}(h:(rI 75).cells σ x cs)(k:(rI 75).cells σ y ds):Sx.EqAt Go.Proofs.Tryz.prog 2 75 (.agg cs.toArray) (.agg ds.toArray) (b2n x y):=by
 obtain ⟨_,_,rfl,rfl,rfl⟩:=h
 obtain ⟨_,_,rfl,rfl,rfl⟩:=k
 exact d0J Go.Proofs.Tryz.underlying75 ti3 (c3F (a6r to3 rfl) (a6r to3 rfl) (c0F Go.Proofs.Tryz.underlying3) (c3F (a6r to3 rfl) (a6r to3 rfl) (c0F Go.Proofs.Tryz.underlying3) c9I))
theorem d4N {σ:S}{x y:Key}{cs ds:List Value}(h:(rI 83).cells σ x cs)(k:(rI 83).cells σ y ds):Sx.EqAt Go.Proofs.Tryz.prog 2 83 (.agg cs.toArray) (.agg ds.toArray) (a3B x y):=by
 obtain ⟨_,_,rfl,rfl,rfl⟩:=h
 obtain ⟨_,_,rfl,rfl,rfl⟩:=k
 exact c50 Go.Proofs.Tryz.underlying83 (by kernel_rfl) (c3m (by decide) (a6r to3 rfl) (a6r to3 rfl) (c0F Go.Proofs.Tryz.underlying3) (c3m (by decide) (a6r to9 rfl) (a6r to9 rfl) (d0m Go.Proofs.Tryz.underlying9) d0L))
theorem eqT (T:TypeId)(g:I T->I T->Bool){K:Nat}(h:∀ {σ:S} {x y:I T} {cs ds:List Value},Rp.cells σ x cs->Rp.cells σ y ds->Sx.EqAt Go.Proofs.Tryz.prog K T (.agg cs.toArray) (.agg ds.toArray) (g x y))(hg:Go.Proofs.Tryz.prog.eqGuardType (Go.Proofs.Tryz.prog).depth T=false)(hK:Nat.ble K 10000=true)
 {X:Cxt} {c:Cx} {σ:S} {ls ms:List (PV I)} {r:Bool} {cs ds:List Value} (h1:c5x feL T g ls ms=some r) (h2:RG X c σ ls cs) (h3:RG X c σ ms ds) :
 Go.Proofs.Tryz.prog.eqGuardType (Go.Proofs.Tryz.prog).depth T=false/\∃ j,Nat.ble j 10000=true/\Sx.EqAt Go.Proofs.Tryz.prog j T (.agg cs.toArray) (.agg ds.toArray) r:=by
 obtain ⟨x,y,k1,k2,rfl⟩:=d2d h1 h2 h3
 exact ⟨hg,K,hK,h k1 k2⟩
theorem d3z:TabLOk Go.Proofs.Tryz.prog d3a where
 sz:=⟨⟨_,Go.Proofs.Tryz.underlying27,rfl,by kernel_rfl⟩,⟨⟨_,Go.Proofs.Tryz.underlying33,rfl,by kernel_rfl⟩,⟨⟨_,Go.Proofs.Tryz.underlying40,rfl,by kernel_rfl⟩,⟨⟨_,Go.Proofs.Tryz.underlying56,rfl,by kernel_rfl⟩,⟨⟨_,Go.Proofs.Tryz.underlying71,rfl,by kernel_rfl⟩,⟨⟨_,Go.Proofs.Tryz.underlying75,rfl,by kernel_rfl⟩,⟨⟨_,Go.Proofs.Tryz.underlying77,rfl,by kernel_rfl⟩,⟨⟨_,Go.Proofs.Tryz.underlying83,rfl,by kernel_rfl⟩,⟨⟨_,Go.Proofs.Tryz.underlying85,rfl,by kernel_rfl⟩,⟨⟨_,Go.Proofs.Tryz.underlying101,rfl,by kernel_rfl⟩,⟨⟨_,Go.Proofs.Tryz.underlying111,rfl,by kernel_rfl⟩,⟨⟨_,Go.Proofs.Tryz.underlying138,rfl,by kernel_rfl⟩,⟨⟨_,Go.Proofs.Tryz.underlying220,rfl,by kernel_rfl⟩,trivial⟩⟩⟩⟩⟩⟩⟩⟩⟩⟩⟩⟩⟩
 one:=⟨to2,⟨to3,⟨to4,⟨to5,⟨to9,⟨d4L,⟨d5a,⟨d4Q,⟨d4G,⟨d4U,⟨d5e,⟨d5f,⟨d4V,⟨d4T,⟨d5h,⟨d48,⟨d3Q,⟨d3T,trivial⟩⟩⟩⟩⟩⟩⟩⟩⟩⟩⟩⟩⟩⟩⟩⟩⟩⟩
 fld:=⟨⟨⟨_,_,Go.Proofs.Tryz.underlying27,rfl,rfl,by kernel_rfl⟩,⟨⟨_,_,Go.Proofs.Tryz.underlying27,rfl,rfl⟩,⟨⟨_,_,Go.Proofs.Tryz.underlying27,rfl,rfl,by kernel_rfl⟩,⟨⟨_,_,Go.Proofs.Tryz.underlying27,rfl,rfl⟩,trivial⟩⟩⟩⟩,⟨⟨⟨_,_,Go.Proofs.Tryz.underlying33,rfl,rfl,by kernel_rfl⟩,⟨⟨_,_,Go.Proofs.Tryz.underlying33,rfl,rfl⟩,⟨⟨_,_,Go.Proofs.Tryz.underlying33,rfl,rfl,by kernel_rfl⟩,⟨⟨_,_,Go.Proofs.Tryz.underlying33,rfl,rfl⟩,⟨⟨_,_,Go.Proofs.Tryz.underlying33,rfl,rfl,by kernel_rfl⟩,⟨⟨_,_,Go.Proofs.Tryz.underlying33,rfl,rfl⟩,⟨⟨_,_,Go.Proofs.Tryz.underlying33,rfl,rfl,by kernel_rfl⟩,⟨⟨_,_,Go.Proofs.Tryz.underlying33,rfl,rfl⟩,⟨⟨_,_,Go.Proofs.Tryz.underlying33,rfl,rfl,by kernel_rfl⟩,⟨⟨_,_,Go.Proofs.Tryz.underlying33,rfl,rfl⟩,⟨⟨_,_,Go.Proofs.Tryz.underlying33,rfl,rfl,by kernel_rfl⟩,⟨⟨_,_,Go.Proofs.Tryz.underlying33,rfl,rfl⟩,⟨⟨_,_,Go.Proofs.Tryz.underlying33,rfl,rfl,by kernel_rfl⟩,⟨⟨_,_,Go.Proofs.Tryz.underlying33,rfl,rfl⟩,trivial⟩⟩⟩⟩⟩⟩⟩⟩⟩⟩⟩⟩⟩⟩,⟨⟨⟨_,_,Go.Proofs.Tryz.underlying40,rfl,rfl,by kernel_rfl⟩,⟨⟨_,_,Go.Proofs.Tryz.underlying40,rfl,rfl⟩,⟨⟨_,_,Go.Proofs.Tryz.underlying40,rfl,rfl,by kernel_rfl⟩,⟨⟨_,_,Go.Proofs.Tryz.underlying40,rfl,rfl⟩,⟨⟨_,_,Go.Proofs.Tryz.underlying40,rfl,rfl,by kernel_rfl⟩,⟨⟨_,_,Go.Proofs.Tryz.underlying40,rfl,rfl⟩,⟨⟨_,_,Go.Proofs.Tryz.underlying40,rfl,rfl,by kernel_rfl⟩,⟨⟨_,_,Go.Proofs.Tryz.underlying40,rfl,rfl⟩,⟨⟨_,_,Go.Proofs.Tryz.underlying40,rfl,rfl,by kernel_rfl⟩,⟨⟨_,_,Go.Proofs.Tryz.underlying40,rfl,rfl⟩,⟨⟨_,_,Go.Proofs.Tryz.underlying40,rfl,rfl,by kernel_rfl⟩,⟨⟨_,_,Go.Proofs.Tryz.underlying40,rfl,rfl⟩,⟨⟨_,_,Go.Proofs.Tryz.underlying40,rfl,rfl,by kernel_rfl⟩,⟨⟨_,_,Go.Proofs.Tryz.underlying40,rfl,rfl⟩,⟨⟨_,_,Go.Proofs.Tryz.underlying40,rfl,rfl,by kernel_rfl⟩,⟨⟨_,_,Go.Proofs.Tryz.underlying40,rfl,rfl⟩,trivial⟩⟩⟩⟩⟩⟩⟩⟩⟩⟩⟩⟩⟩⟩⟩⟩,⟨⟨⟨_,_,Go.Proofs.Tryz.underlying44,rfl,rfl,by kernel_rfl⟩,⟨⟨_,_,Go.Proofs.Tryz.underlying44,rfl,rfl⟩,⟨⟨_,_,Go.Proofs.Tryz.underlying44,rfl,rfl,by kernel_rfl⟩,⟨⟨_,_,Go.Proofs.Tryz.underlying44,rfl,rfl⟩,trivial⟩⟩⟩⟩,⟨⟨⟨_,_,Go.Proofs.Tryz.underlying56,rfl,rfl,by kernel_rfl⟩,⟨⟨_,_,Go.Proofs.Tryz.underlying56,rfl,rfl⟩,⟨⟨_,_,Go.Proofs.Tryz.underlying56,rfl,rfl,by kernel_rfl⟩,⟨⟨_,_,Go.Proofs.Tryz.underlying56,rfl,rfl⟩,⟨⟨_,_,Go.Proofs.Tryz.underlying56,rfl,rfl,by kernel_rfl⟩,⟨⟨_,_,Go.Proofs.Tryz.underlying56,rfl,rfl⟩,trivial⟩⟩⟩⟩⟩⟩,⟨⟨⟨_,_,Go.Proofs.Tryz.underlying71,rfl,rfl,by kernel_rfl⟩,⟨⟨_,_,Go.Proofs.Tryz.underlying71,rfl,rfl⟩,⟨⟨_,_,Go.Proofs.Tryz.underlying71,rfl,rfl,by kernel_rfl⟩,⟨⟨_,_,Go.Proofs.Tryz.underlying71,rfl,rfl⟩,⟨⟨_,_,Go.Proofs.Tryz.underlying71,rfl,rfl,by kernel_rfl⟩,⟨⟨_,_,Go.Proofs.Tryz.underlying71,rfl,rfl⟩,⟨⟨_,_,Go.Proofs.Tryz.underlying71,rfl,rfl,by kernel_rfl⟩,⟨⟨_,_,Go.Proofs.Tryz.underlying71,rfl,rfl⟩,⟨⟨_,_,Go.Proofs.Tryz.underlying71,rfl,rfl,by kernel_rfl⟩,⟨⟨_,_,Go.Proofs.Tryz.underlying71,rfl,rfl⟩,trivial⟩⟩⟩⟩⟩⟩⟩⟩⟩⟩,⟨⟨⟨_,_,Go.Proofs.Tryz.underlying77,rfl,rfl,by kernel_rfl⟩,⟨⟨_,_,Go.Proofs.Tryz.underlying77,rfl,rfl⟩,⟨⟨_,_,Go.Proofs.Tryz.underlying77,rfl,rfl,by kernel_rfl⟩,⟨⟨_,_,Go.Proofs.Tryz.underlying77,rfl,rfl⟩,⟨⟨_,_,Go.Proofs.Tryz.underlying77,rfl,rfl,by kernel_rfl⟩,⟨⟨_,_,Go.Proofs.Tryz.underlying77,rfl,rfl⟩,⟨⟨_,_,Go.Proofs.Tryz.underlying77,rfl,rfl,by kernel_rfl⟩,⟨⟨_,_,Go.Proofs.Tryz.underlying77,rfl,rfl⟩,⟨⟨_,_,Go.Proofs.Tryz.underlying77,rfl,rfl,by kernel_rfl⟩,⟨⟨_,_,Go.Proofs.Tryz.underlying77,rfl,rfl⟩,⟨⟨_,_,Go.Proofs.Tryz.underlying77,rfl,rfl,by kernel_rfl⟩,⟨⟨_,_,Go.Proofs.Tryz.underlying77,rfl,rfl⟩,⟨⟨_,_,Go.Proofs.Tryz.underlying77,rfl,rfl,by kernel_rfl⟩,⟨⟨_,_,Go.Proofs.Tryz.underlying77,rfl,rfl⟩,trivial⟩⟩⟩⟩⟩⟩⟩⟩⟩⟩⟩⟩⟩⟩,⟨⟨⟨_,_,Go.Proofs.Tryz.underlying83,rfl,rfl,by kernel_rfl⟩,⟨⟨_,_,Go.Proofs.Tryz.underlying83,rfl,rfl⟩,⟨⟨_,_,Go.Proofs.Tryz.underlying83,rfl,rfl,by kernel_rfl⟩,⟨⟨_,_,Go.Proofs.Tryz.underlying83,rfl,rfl⟩,trivial⟩⟩⟩⟩,⟨⟨⟨_,_,Go.Proofs.Tryz.underlying85,rfl,rfl,by kernel_rfl⟩,⟨⟨_,_,Go.Proofs.Tryz.underlying85,rfl,rfl⟩,⟨⟨_,_,Go.Proofs.Tryz.underlying85,rfl,rfl,by kernel_rfl⟩,⟨⟨_,_,Go.Proofs.Tryz.underlying85,rfl,rfl⟩,trivial⟩⟩⟩⟩,⟨⟨⟨_,_,Go.Proofs.Tryz.underlying101,rfl,rfl,by kernel_rfl⟩,⟨⟨_,_,Go.Proofs.Tryz.underlying101,rfl,rfl⟩,⟨⟨_,_,Go.Proofs.Tryz.underlying101,rfl,rfl,by kernel_rfl⟩,⟨⟨_,_,Go.Proofs.Tryz.underlying101,rfl,rfl⟩,⟨⟨_,_,Go.Proofs.Tryz.underlying101,rfl,rfl,by kernel_rfl⟩,⟨⟨_,_,Go.Proofs.Tryz.underlying101,rfl,rfl⟩,trivial⟩⟩⟩⟩⟩⟩,⟨⟨⟨_,_,Go.Proofs.Tryz.underlying111,rfl,rfl,by kernel_rfl⟩,⟨⟨_,_,Go.Proofs.Tryz.underlying111,rfl,rfl⟩,⟨⟨_,_,Go.Proofs.Tryz.underlying111,rfl,rfl,by kernel_rfl⟩,⟨⟨_,_,Go.Proofs.Tryz.underlying111,rfl,rfl⟩,⟨⟨_,_,Go.Proofs.Tryz.underlying111,rfl,rfl,by kernel_rfl⟩,⟨⟨_,_,Go.Proofs.Tryz.underlying111,rfl,rfl⟩,trivial⟩⟩⟩⟩⟩⟩,⟨⟨⟨_,_,Go.Proofs.Tryz.underlying138,rfl,rfl,by kernel_rfl⟩,⟨⟨_,_,Go.Proofs.Tryz.underlying138,rfl,rfl⟩,⟨⟨_,_,Go.Proofs.Tryz.underlying138,rfl,rfl,by kernel_rfl⟩,⟨⟨_,_,Go.Proofs.Tryz.underlying138,rfl,rfl⟩,⟨⟨_,_,Go.Proofs.Tryz.underlying138,rfl,rfl,by kernel_rfl⟩,⟨⟨_,_,Go.Proofs.Tryz.underlying138,rfl,rfl⟩,trivial⟩⟩⟩⟩⟩⟩,⟨⟨⟨_,_,Go.Proofs.Tryz.underlying220,rfl,rfl,by kernel_rfl⟩,⟨⟨_,_,Go.Proofs.Tryz.underlying220,rfl,rfl⟩,⟨⟨_,_,Go.Proofs.Tryz.underlying220,rfl,rfl,by kernel_rfl⟩,⟨⟨_,_,Go.Proofs.Tryz.underlying220,rfl,rfl⟩,⟨⟨_,_,Go.Proofs.Tryz.underlying220,rfl,rfl,by kernel_rfl⟩,⟨⟨_,_,Go.Proofs.Tryz.underlying220,rfl,rfl⟩,⟨⟨_,_,Go.Proofs.Tryz.underlying220,rfl,rfl,by kernel_rfl⟩,⟨⟨_,_,Go.Proofs.Tryz.underlying220,rfl,rfl⟩,⟨⟨_,_,Go.Proofs.Tryz.underlying220,rfl,rfl,by kernel_rfl⟩,⟨⟨_,_,Go.Proofs.Tryz.underlying220,rfl,rfl⟩,trivial⟩⟩⟩⟩⟩⟩⟩⟩⟩⟩,trivial⟩⟩⟩⟩⟩⟩⟩⟩⟩⟩⟩⟩⟩
 el:=⟨⟨Go.Proofs.Tryz.underlying22,_,_,ti3,rfl,by decide⟩,⟨⟨Go.Proofs.Tryz.underlying25,_,_,d2N,rfl,by decide⟩,⟨⟨Go.Proofs.Tryz.underlying28,_,_,d3d,rfl,by decide⟩,⟨⟨Go.Proofs.Tryz.underlying29,_,_,d3C,rfl,by decide⟩,⟨⟨Go.Proofs.Tryz.underlying30,_,_,d1c,rfl,by decide⟩,⟨⟨Go.Proofs.Tryz.underlying31,_,_,ti9,rfl,by decide⟩,⟨⟨Go.Proofs.Tryz.underlying50,_,_,d3L,rfl,by decide⟩,⟨⟨Go.Proofs.Tryz.underlying62,_,_,d3p,rfl,by decide⟩,⟨⟨Go.Proofs.Tryz.underlying69,_,_,d3c,rfl,by decide⟩,⟨⟨Go.Proofs.Tryz.underlying74,_,_,d1l,rfl,by decide⟩,⟨⟨Go.Proofs.Tryz.underlying90,_,_,d3v,rfl,by decide⟩,⟨⟨Go.Proofs.Tryz.underlying105,_,_,d1f,rfl,by decide⟩,⟨⟨Go.Proofs.Tryz.underlying140,_,_,ti4,rfl,by decide⟩,⟨⟨Go.Proofs.Tryz.underlying151,_,_,ti2,rfl,by decide⟩,⟨⟨Go.Proofs.Tryz.underlying165,_,_,ti5,rfl,by decide⟩,trivial⟩⟩⟩⟩⟩⟩⟩⟩⟩⟩⟩⟩⟩⟩⟩
 str:=⟨Go.Proofs.Tryz.underlying9,trivial⟩
 bool:=⟨Go.Proofs.Tryz.underlying4,trivial⟩
 ik:=⟨Go.Proofs.Tryz.underlying3,⟨Go.Proofs.Tryz.underlying5,⟨Go.Proofs.Tryz.underlying81,trivial⟩⟩⟩
 inf:=⟨⟨_,ti2,fun X c σ=>RG.cns rfl a2t (RG.nl)⟩,⟨⟨_,ti3,fun X c σ=>RG.cns rfl a2t (RG.nl)⟩,⟨⟨_,ti4,fun X c σ=>RG.cns rfl a5u (RG.nl)⟩,⟨⟨_,ti5,fun X c σ=>RG.cns rfl a2t (RG.nl)⟩,⟨⟨_,ti9,fun X c σ=>RG.cns rfl b9B (RG.nl)⟩,⟨⟨_,d3v,fun X c σ=>RG.cns rfl a0q (RG.nl)⟩,⟨⟨_,d49,fun X c σ=>RG.cns rfl a0q (RG.nl)⟩,⟨⟨_,d40,fun X c σ=>RG.cns rfl a0q (RG.cns rfl a2t (RG.nl))⟩,⟨⟨_,d4K,fun X c σ=>RG.cns rfl a0q (RG.nl)⟩,⟨⟨_,d5c,fun X c σ=>RG.cns rfl a0q (RG.nl)⟩,⟨⟨_,d5g,fun X c σ=>RG.cns rfl a0q (RG.nl)⟩,⟨⟨_,d4X,fun X c σ=>RG.cns rfl a0q (RG.nl)⟩,⟨⟨_,d3d,fun X c σ=>RG.cns rfl a2t (RG.cns rfl a2t (RG.cns rfl b9B (RG.cns rfl a0q (RG.cns rfl a0q (RG.cns rfl a0q (RG.cns rfl a0q (RG.nl)))))))⟩,⟨⟨_,d4Z,fun X c σ=>RG.cns rfl a2t (RG.cns rfl a2t (RG.cns rfl a0q (RG.cns rfl a5u (RG.cns rfl a0q (RG.cns rfl a0q (RG.cns rfl a0q (RG.cns rfl a0q (RG.cns rfl a0q (RG.nl)))))))))⟩,⟨⟨_,d4H,fun X c σ=>RG.cns rfl a0q (RG.cns rfl a2t (RG.nl))⟩,⟨⟨_,d4z,fun X c σ=>RG.cns rfl a0q (RG.nl)⟩,⟨⟨_,d3L,fun X c σ=>RG.cns rfl a0q (RG.cns rfl a0q (RG.cns rfl a5u (RG.nl)))⟩,⟨⟨_,d44,fun X c σ=>RG.cns rfl a0q (RG.nl)⟩,⟨⟨_,d4D,fun X c σ=>RG.cns rfl a0q (RG.nl)⟩,⟨⟨_,d3p,fun X c σ=>RG.cns rfl a0q (RG.cns rfl a0q (RG.cns rfl a0q (RG.cns rfl a0q (RG.cns rfl a0q (RG.cns rfl a5u (RG.cns rfl a0q (RG.cns rfl a0q (RG.cns rfl a5u (RG.cns rfl a0q (RG.nl))))))))))⟩,⟨⟨_,d4I,fun X c σ=>RG.cns rfl a0q (RG.nl)⟩,⟨⟨_,d5d,fun X c σ=>RG.cns rfl a2t (RG.cns rfl a2t (RG.nl))⟩,⟨⟨_,d2N,fun X c σ=>RG.cns rfl a2t (RG.cns rfl a2t (RG.cns rfl a2t (RG.cns rfl b9B (RG.cns rfl a0q (RG.cns rfl a0q (RG.cns rfl a2t (RG.cns rfl a2t (RG.nl))))))))⟩,⟨⟨_,d3C,fun X c σ=>RG.cns rfl a2t (RG.cns rfl b9B (RG.nl))⟩,⟨⟨_,d3c,fun X c σ=>RG.cns rfl a2t (RG.cns rfl a0q (RG.cns rfl a0q (RG.cns rfl a5u (RG.nl))))⟩,⟨⟨_,d4W,fun X c σ=>RG.cns rfl d0W (RG.nl)⟩,⟨⟨_,d1l,fun X c σ=>RG.cns rfl a2t (RG.cns rfl b9B (RG.cns rfl a2t (RG.cns rfl a5u (RG.nl))))⟩,⟨⟨_,d30,fun X c σ=>RG.cns rfl a0q (RG.nl)⟩,⟨⟨_,d4d,fun X c σ=>RG.cns rfl d0W (RG.nl)⟩,⟨⟨_,d1f,fun X c σ=>RG.cns rfl a2t (RG.cns rfl a5u (RG.cns rfl a2t (RG.nl)))⟩,⟨⟨_,d1c,fun X c σ=>RG.cns rfl a0q (RG.cns rfl a5u (RG.cns rfl a2t (RG.cns rfl a2t (RG.cns rfl b9B (RG.cns rfl a0q (RG.cns rfl a0q (RG.cns rfl a0q (RG.cns rfl a0q (RG.nl)))))))))⟩,⟨⟨_,d4b,fun X c σ=>RG.cns rfl a5u (RG.cns rfl a5u (RG.cns rfl a5u (RG.cns rfl a5u (RG.cns rfl a5u (RG.nl)))))⟩,trivial⟩⟩⟩⟩⟩⟩⟩⟩⟩⟩⟩⟩⟩⟩⟩⟩⟩⟩⟩⟩⟩⟩⟩⟩⟩⟩⟩⟩⟩⟩⟩⟩
 st:=⟨.inl ⟨_,Go.Proofs.Tryz.underlying27,by kernel_rfl⟩,⟨.inl ⟨_,Go.Proofs.Tryz.underlying33,by kernel_rfl⟩,⟨.inl ⟨_,Go.Proofs.Tryz.underlying40,by kernel_rfl⟩,⟨.inl ⟨_,Go.Proofs.Tryz.underlying44,by kernel_rfl⟩,⟨.inl ⟨_,Go.Proofs.Tryz.underlying56,by kernel_rfl⟩,⟨.inl ⟨_,Go.Proofs.Tryz.underlying71,by kernel_rfl⟩,⟨.inr (d3G Go.Proofs.Tryz.underlying75 ti3 rfl),⟨.inl ⟨_,Go.Proofs.Tryz.underlying77,by kernel_rfl⟩,⟨.inl ⟨_,Go.Proofs.Tryz.underlying83,by kernel_rfl⟩,⟨.inl ⟨_,Go.Proofs.Tryz.underlying85,by kernel_rfl⟩,⟨.inl ⟨_,Go.Proofs.Tryz.underlying101,by kernel_rfl⟩,⟨.inl ⟨_,Go.Proofs.Tryz.underlying111,by kernel_rfl⟩,⟨.inl ⟨_,Go.Proofs.Tryz.underlying138,by kernel_rfl⟩,⟨.inl ⟨_,Go.Proofs.Tryz.underlying220,by kernel_rfl⟩,trivial⟩⟩⟩⟩⟩⟩⟩⟩⟩⟩⟩⟩⟩⟩
 eq:=⟨fun X c σ ls ms r cs ds h1 h2 h3=>eqT 75 b2n (fun h k=>d5b h k) (by kernel_rfl) (by decide) h1 h2 h3,⟨fun X c σ ls ms r cs ds h1 h2 h3=>eqT 83 a3B (fun h k=>d4N h k) (by kernel_rfl) (by decide) h1 h2 h3,trivial⟩⟩
 arr:=⟨⟨Go.Proofs.Tryz.underlying68,by kernel_rfl⟩,⟨⟨Go.Proofs.Tryz.underlying75,by kernel_rfl⟩,trivial⟩⟩
 u8:=⟨⟨Go.Proofs.Tryz.underlying5,fun y=>⟨y,rfl⟩⟩,trivial⟩
 mp:=⟨⟨_,_,_,_,_,Go.Proofs.Tryz.underlying170,Go.Proofs.Tryz.underlying9,ti4,fun x h σ=>by cases h; exact rfl⟩,trivial⟩
 fb:=⟨⟨_,_,Go.Proofs.Tryz.func84,rfl,by kernel_rfl⟩,⟨⟨_,_,Go.Proofs.Tryz.func86,rfl,by kernel_rfl⟩,⟨⟨_,_,Go.Proofs.Tryz.func121,rfl,by kernel_rfl⟩,⟨⟨_,_,Go.Proofs.Tryz.func125,rfl,by kernel_rfl⟩,⟨⟨_,_,Go.Proofs.Tryz.func141,rfl,by kernel_rfl⟩,⟨⟨_,_,Go.Proofs.Tryz.func143,rfl,by kernel_rfl⟩,⟨⟨_,_,Go.Proofs.Tryz.func152,rfl,by kernel_rfl⟩,⟨⟨_,_,Go.Proofs.Tryz.func171,rfl,by kernel_rfl⟩,⟨⟨_,_,Go.Proofs.Tryz.func172,rfl,by kernel_rfl⟩,⟨⟨_,_,Go.Proofs.Tryz.func174,rfl,by kernel_rfl⟩,⟨⟨_,_,Go.Proofs.Tryz.func175,rfl,by kernel_rfl⟩,⟨⟨_,_,Go.Proofs.Tryz.func177,rfl,by kernel_rfl⟩,⟨⟨_,_,Go.Proofs.Tryz.func182,rfl,by kernel_rfl⟩,⟨⟨_,_,Go.Proofs.Tryz.func183,rfl,by kernel_rfl⟩,⟨⟨_,_,Go.Proofs.Tryz.func233,rfl,by kernel_rfl⟩,⟨⟨_,_,Go.Proofs.Tryz.func249,rfl,by kernel_rfl⟩,trivial⟩⟩⟩⟩⟩⟩⟩⟩⟩⟩⟩⟩⟩⟩⟩⟩
theorem a9e:TabOk Go.Proofs.Tryz.prog tb:=d0p d3z
theorem mixed:(Go.Proofs.Tryz.prog).follows .mixedOrders=true:=by kernel_rfl
end Go.Qx
end
section
namespace Go.Qx
open Go Go.RowKit Go.Sx
set_option maxHeartbeats 1600000
set_option maxRecDepth 100000
abbrev RK (r:Row I):Prop:=j6 Go.Proofs.Tryz.prog r
abbrev RO (r:Rio I):Prop:=b3E Go.Proofs.Tryz.prog r
def mkH (a:List (Nat×List (List Nat)))(b c:List (Nat×List Nat))(j:List (Nat×JH))(l:List (Nat×LH I))(k:List (Nat×KH I))(ns:List (Nat×NH I))(u:List (Nat×Nat)):Hints I :=
 ⟨fun i=>(asc a i).getD [],fun i=>(asc b i).getD [],fun i=>(asc c i).getD [],asc j,asc l,asc k,asc ns,fun i=>(asc u i).getD 0⟩
def Y4:Hints I:=mkH [] [] [] [] [] [] [] []
structure En where
 ans:Ans I
 ok:EntOk Go.Proofs.Tryz.prog ans
def enL:List En->List (Ans I)
 | []=>[]
 | e::r=>e.ans::enL r
theorem c17:∀ l:List En,c7t Go.Proofs.Tryz.prog (enL l)
 | []=>trivial
 | e::r=>⟨e.ok,c17 r⟩
def eR {r:Row I}(h:RK r):En:=⟨d3g tb r,d2h a9e h⟩
def eO {r:Rio I}(h:RO r):En:=⟨d3k tb r,d1Y a9e h⟩
def eS {r:Row I}(T f j:Nat)(is:List Nat)(h:a7g Go.Proofs.Tryz.prog r (b1p T f j is)):En:=⟨d00 tb r (c2D T f j is),c4t a9e h (fun _ _ _ _ _ _ _ _ _ hO h hc hv=>c7V hO h hc hv)⟩
theorem okR {r:Row I}(l:List En){fn:Func}(nt:Nat)(H:Hints I)(rl:List ResultVar)(hf:(Go.Proofs.Tryz.prog).funcs[r.f]?=some fn)
 (h : (fn.body, fn.name == "runtime.NumGoroutine", fn.ntmps, fn.results.toList, Nat.ble r.ps.length nt, a4a H (c5g fn) 1, r.run) = (some (c5g fn), false, nt, rl, true, true, c0U r.ps (d1a tb (c2s (enL l) 3) H (c5g fn) nt r.ps r.rs rl))) : RK r := by
 simp only [Prod.mk.injEq] at h
 obtain ⟨h1,h2,h3,h4,h5,h6,h7⟩:=h
 exact d27 a9e (b6L (c17 l) 3) mixed nt hf h1 h2 h3 h4 h5 h6 h7
def d1y:Row I:=⟨228,[.d (.str),.d (.str)],[.k (.d (.int .i64))],c5B⟩
theorem d3x:j6 Go.Proofs.Tryz.prog d1y:=d3M Go.Proofs.Tryz.func228 (by kernel_rfl) rfl (by kernel_rfl) (by kernel_rfl)
def d2M:Row I:=⟨44,[.d (.sl 3)],[.k (.row 3 false)],a0o 8⟩
theorem c4b:j6 Go.Proofs.Tryz.prog d2M:=a7c a9e mixed Go.Proofs.Tryz.func44 (by kernel_rfl) (by kernel_rfl) (by kernel_rfl) Go.Proofs.Tryz.underlying22 rfl (by kernel_rfl) (fun _=>by kernel_rfl)
noncomputable def d2Q:Rio I:=⟨85,83,[.fn [.dat 83,.dat 83] [.k (.d (.int .i64))]],[],a6Y⟩
theorem d3W:b3E Go.Proofs.Tryz.prog d2Q:=c8Y Go.Proofs.Tryz.lay85 85 (by kernel_rfl) (by kernel_rfl) Go.Proofs.Tryz.underlying83 (by kernel_rfl)
def d2O:Row I:=⟨65,[.d (.sl 83)],[.k (.row 83 false)],a0o 24⟩
theorem c79:j6 Go.Proofs.Tryz.prog d2O:=a7c a9e mixed Go.Proofs.Tryz.func65 (by kernel_rfl) (by kernel_rfl) (by kernel_rfl) Go.Proofs.Tryz.underlying29 rfl (by kernel_rfl) (fun _=>by kernel_rfl)
def d2k:Rio I:=⟨200,3,[],[],c3c⟩
theorem d3s:b3E Go.Proofs.Tryz.prog d2k:=c8a (I:=I) (E:=3) Go.Proofs.Tryz.lay200 200 (by kernel_rfl) (fun x=>x) Iff.rfl ⟨_,_,Go.Proofs.Tryz.func200,rfl,by kernel_rfl⟩
def d1u:Row I:=⟨212,[.d (.sl 33)],[.k (.row 33 false)],a0o 128⟩
theorem d2Y:j6 Go.Proofs.Tryz.prog d1u:=a7c a9e mixed Go.Proofs.Tryz.func212 (by kernel_rfl) (by kernel_rfl) (by kernel_rfl) Go.Proofs.Tryz.underlying28 rfl (by kernel_rfl) (fun _=>by kernel_rfl)
def d19:Row I:=⟨113,[.d (.sl 56)],[.k (.row 56 false)],a0o 56⟩
theorem d3q:j6 Go.Proofs.Tryz.prog d19:=a7c a9e mixed Go.Proofs.Tryz.func113 (by kernel_rfl) (by kernel_rfl) (by kernel_rfl) Go.Proofs.Tryz.underlying50 rfl (by kernel_rfl) (fun _=>by kernel_rfl)
noncomputable def d2m:Rio I:=⟨124,3,[.fn [.int .i64,.int .i64] [.k (.d (.int .i64))]],[],(a6Y (α:=Int))⟩
theorem d3o:b3E Go.Proofs.Tryz.prog d2m:=c8H (I:=I) (E:=3) Go.Proofs.Tryz.lay124 124 (by kernel_rfl) (fun x=>x) Iff.rfl
def d2v:Row I:=⟨168,[.d (.sl 9)],[.k (.row 9 false)],a0o 16⟩
theorem d2S:j6 Go.Proofs.Tryz.prog d2v:=a7c a9e mixed Go.Proofs.Tryz.func168 (by kernel_rfl) (by kernel_rfl) (by kernel_rfl) Go.Proofs.Tryz.underlying31 rfl (by kernel_rfl) (fun _=>by kernel_rfl)
def b6O:Hints I:=mkH [] [] [] [] [(26,⟨65532,[],[],[(3,.k (.d (.int .i64)))],[((.exit 0),[]),(.ret,[(2,.k (.d (.bool)))])],bnd tb (.len (.slot 0)) 1⟩)] [] [] []
def b4R:Row I:=⟨17,[.d (.sl 22)],[.k (.d (.bool))],a5v⟩
theorem b5d:RK (b4R) :=
 okR [] 16 b6O [.tmp 2] Go.Proofs.Tryz.func17 (by kernel_rfl)
def b6x:Hints I:=mkH [] [] [] [(29,⟨16776824,[],[],[(.normal,[(3,.k (.d (.bool))),(4,.k (.d (.bool))),(5,.k (.d (.bool))),(6,.k (.d (.bool)))])]⟩),
 (941,⟨26624,[],[],[(.normal,[(11,.k (.d (.bool)))])]⟩),
 (3773,⟨4096000,[],[],[(.normal,[(15,.k (.d (.bool)))])]⟩)] [] [] [] []
def b4D:Row I:=⟨71,[.d (.dat 77)],[.k (.d (.bool))],a5B⟩
theorem b5A:RK (b4D) :=
 okR [] 67 b6x [.tmp 2] Go.Proofs.Tryz.func71 (by kernel_rfl)
def c2S:Hints I:=mkH [] [] [] [] [(58,⟨34351349952,[],[],[(7,.k (.d (.int .i64)))],[((.exit 0),[]),(.ret,[(6,.k (.d (.bool)))])],bnd tb (.len (.slot 0)) 1⟩)] [] [] []
def c0p:Row I:=⟨170,[.d (.str),.fn [.int .u8] [.k (.d (.bool))],.fn [.int .u8] [.k (.d (.bool))]],[.k (.d (.bool))],a68⟩
theorem b3F:RK (c0p) :=
 okR [] 35 c2S [.tmp 6] Go.Proofs.Tryz.func170 (by kernel_rfl)
def b97:Row I:=⟨171,[.d (.int .u8)],[.k (.d (.bool))],a5j⟩
theorem a8o:RK (b97) :=
 okR [] 9 Y4 [.tmp 2] Go.Proofs.Tryz.func171 (by kernel_rfl)
def c0b:Row I:=⟨173,[.d (.int .u8)],[.k (.d (.bool))],a6L⟩
theorem b2P:RK (c0b) :=
 okR [] 9 Y4 [.tmp 2] Go.Proofs.Tryz.func173 (by kernel_rfl)
def b8q:Row I:=⟨172,[.d (.int .u8)],[.k (.d (.bool))],b0i⟩
theorem b9G:RK (b8q) :=
 okR [eR a8o,eR b2P] 13 Y4 [.tmp 2] Go.Proofs.Tryz.func172 (by kernel_rfl)
def c1a:Row I:=⟨133,[.d (.str)],[.k (.d (.bool))],a5W⟩
theorem a8T:RK (c1a) :=
 okR [eR b3F,eR a8o,eR b9G] 5 Y4 [.tmp 2] Go.Proofs.Tryz.func133 (by kernel_rfl)
def b9N:Row I:=⟨174,[.d (.int .u8)],[.k (.d (.bool))],a6M⟩
theorem b2m:RK (b9N) :=
 okR [] 9 Y4 [.tmp 2] Go.Proofs.Tryz.func174 (by kernel_rfl)
def b4E:Row I:=⟨175,[.d (.int .u8)],[.k (.d (.bool))],a7h⟩
theorem b5I:RK (b4E) :=
 okR [eR a8o,eR b2m,eR b2P] 17 Y4 [.tmp 2] Go.Proofs.Tryz.func175 (by kernel_rfl)
def b69:Row I:=⟨134,[.d (.str)],[.k (.d (.bool))],a4J⟩
theorem a9D:RK (b69) :=
 okR [eR b3F,eR b2m,eR b5I] 5 Y4 [.tmp 2] Go.Proofs.Tryz.func134 (by kernel_rfl)
def b8P:Row I:=⟨119,[.d (.dat 83)],[.k (.d (.bool))],a3b⟩
theorem a5P:RK (b8P) :=
 okR [eR a8T] 16 Y4 [.tmp 2] Go.Proofs.Tryz.func119 (by kernel_rfl)
def b9Y:Row I:=⟨198,[.d (.int .i64)],[.k (.d (.bool))],a8h⟩
theorem c0Z:RK (b9Y) :=
 okR [] 6 Y4 [.tmp 2] Go.Proofs.Tryz.func198 (by kernel_rfl)
def b7E:Row I:=⟨151,[.d (.int .i64),.d (.int .i64)],[.k (.d (.int .i64))],a1e⟩
theorem a2l:RK (b7E) :=
 okR [eR c0Z] 20 Y4 [.tmp 4] Go.Proofs.Tryz.func151 (by kernel_rfl)
def a7P:Row I:=⟨199,[.d (.str),.d (.str)],[.k (.d (.int .i64))],a2F⟩
theorem a71:RK (a7P) :=
 okR [eR d3x] 8 Y4 [.tmp 4] Go.Proofs.Tryz.func199 (by kernel_rfl)
def b7j:Row I:=⟨152,[.d (.str),.d (.str)],[.k (.d (.int .i64))],a2B⟩
theorem a7a:RK (b7j) :=
 okR [eR a71] 8 Y4 [.tmp 4] Go.Proofs.Tryz.func152 (by kernel_rfl)
def b5i:Row I:=⟨86,[.d (.dat 83),.d (.dat 83)],[.k (.d (.int .i64))],V2⟩
theorem a1z:RK (b5i) :=
 okR [eR a2l,eR a7a] 19 Y4 [.tmp 4] Go.Proofs.Tryz.func86 (by kernel_rfl)
def b4k:Hints I:=mkH [(4,[[],[0],[0,1],[0,1,2],[0,1,2,3],[0,1,2,3,4],[0,1,2,3,4,5],[0,1,2,3,4,5,6],[0,1,2,3,4,5,6,7],[0,1,2,3,4,5,6,7],[0,1,2,3,4,5,6,7,9],[0,1,2,3,4,5,6,7,8,9,10],[0,1,2,3,4,5,6,7,8,9,10,11],[0,1,2,3,4,5,6,7,8,9,10,11,12],[0,1,2,3,4,5,6,7],[0,1,2,3,4,5,6,7,14],[0,1,2,3,4,5,6,7,8,9,10,11,12,13,14,15],[0,1,2,3,4,5,6,7,8,9,10,11,12,13,14,15,16],[0,1,2,3,4,5,6,7,8,9,10,11,12,13,14,15,16,17],[0,1,2,3,4,5,6,7,8,9,10,11,12,13,14,15,16,17,18]])] [] [] [] [(26,⟨8589934492,[],[],[(7,.k (.d (.int .i64)))],[((.exit 0),[]),(.ret,[(2,.k (.d (.bool)))])],bnd tb (.slot 6) 1⟩)] [] [] []
def b2q:Row I:=⟨135,[.d (.sl 101)],[.k (.d (.bool))],a4q⟩
theorem b3r:RK (b2q) :=
 okR [eR a5P,eR a1z] 33 b4k [.tmp 2] Go.Proofs.Tryz.func135 (by kernel_rfl)
def b55:Hints I:=mkH [] [] [] [(105,⟨16288,[],[],[(.normal,[(5,.k (.d (.bool)))])]⟩),
 (28311549,⟨368934881474191032320,[],[],[(.normal,[(66,.k (.d (.bool)))])]⟩)] [] [] [] []
def b3Z:Row I:=⟨72,[.d (.dat 77)],[.k (.d (.bool))],a5w⟩
theorem b4U:RK (b3Z) :=
 okR [eR a8T,eR a9D,eR b3r] 79 b55 [.tmp 2] Go.Proofs.Tryz.func72 (by kernel_rfl)
def c0Q:Hints I:=mkH [] [] [] [] [(58,⟨4190248,[],[],[(3,.k (.row 3 false)),(12,.k (.d (.int .i64)))],[((.exit 0),[(3,.k (.row 3 false))])],bnd tb (.slot 11) 1⟩)] [] [] []
def b8p:Row I:=⟨73,[.d (.dat 77)],[.k (.row 3 false)],a7J⟩
theorem b95:RK (b8p) :=
 okR [eR c4b] 35 c0Q [.tmp 2] Go.Proofs.Tryz.func73 (by kernel_rfl)
def b4u:Row I:=⟨137,[.d (.int .i64)],[.k (.d (.bool))],a5l⟩
theorem b5V:RK (b4u) :=
 okR [] 13 Y4 [.tmp 2] Go.Proofs.Tryz.func137 (by kernel_rfl)
def b2i (_:Nat):Hints I:=mkH [] [] [] [] [(122,⟨140462610448544,[],[(1,.k (.row 3 false))],[(38,.k (.d (.int .i64)))],[((.exit 0),[]),(.ret,[(5,.k (.d (.bool)))])],bnd tb (.slot 37) 1⟩)] [] [] []
def a3S (n:Nat):Row I:=⟨136,[.d (.int .i64),.var 22 (.k (.row 3 false)) true,.var 27 (.k (.d (.dat 27))) false,.var 98 (.k (.d .any)) false],[.k (.d (.bool))],Q5 n⟩
theorem b1f (n:Nat)(h_typeexpr_contractive_1:a7g Go.Proofs.Tryz.prog (a3S n) (b1p 98 136 3 [1,2,3])):a7g Go.Proofs.Tryz.prog (a3S (n+1)) (b1p 98 136 3 [1,2,3]) :=
 c6x a9e (b6L (c17 [eR b5V,eS 98 136 3 [1,2,3] h_typeexpr_contractive_1]) 3) mixed 50 (s0:=fun a=>c7m 98 136 3 3 [1,2,3] (b3a tb 50 [.d (.int .i64),.var 22 (.k (.row 3 false)) true,.var 27 (.k (.d (.dat 27))) false,.var 98 (.k (.d .any)) false] a)) (fn:=Go.Proofs.Tryz.f136) (cd:=c5g Go.Proofs.Tryz.f136) (H:=(b2i n)) (rl:=[.tmp 5]) (fun X c σ a vs F h hv hC=>c48 rfl rfl rfl h hv hC) Go.Proofs.Tryz.func136 (by kernel_rfl) (by kernel_rfl) (by kernel_rfl) (by kernel_rfl) (by kernel_rfl) (by kernel_rfl) (by kernel_rfl)
theorem a60:∀ n:Nat,a7g Go.Proofs.Tryz.prog (a3S n) (b1p 98 136 3 [1,2,3])
 | 0=>c3t (Y2 (by kernel_rfl))
 | n+1=>b1f n (a60 n)
def b4a (_:Nat):Hints I:=mkH [] [] [] [] [(250,⟨4177956,[],[(3,.k (.row 3 false))],[(14,.k (.d (.int .i64)))],[((.exit 0),[]),(.ret,[(2,.k (.d (.bool)))])],bnd tb (.slot 13) 1⟩)] [] [] []
def b2w (n:Nat):Row I:=⟨74,[.d (.dat 27)],[.k (.d (.bool))],a4l n⟩
theorem b3v (n:Nat):RK (b2w n) :=
 okR [eS 98 136 3 [1,2,3] (a60 n)] 22 (b4a n) [.tmp 2] Go.Proofs.Tryz.func74 (by kernel_rfl)
def b5u (_:Nat):Hints I:=mkH [] [] [] [] [(58,⟨2251799811588180,[],[],[(21,.k (.d (.int .i64)))],[((.exit 0),[]),(.ret,[(2,.k (.d (.int .i64)))])],bnd tb (.slot 20) 1⟩),
 (29902,⟨1125831187365956,[34],[],[(36,.k (.d (.int .i64)))],[((.exit 2),[]),(.ret,[(2,.k (.d (.int .i64)))])],bnd tb (.slot 35) 1⟩)] [] [] []
def b3u (n:Nat):Row I:=⟨34,[.d (.dat 27)],[.k (.d (.int .i64))],a0t n⟩
theorem a5H (n:Nat):RK (b3u n) :=
 okR [eR b5A,eR b4U,eR b95,eR (b3v n)] 54 (b5u n) [.tmp 2] Go.Proofs.Tryz.func34 (by kernel_rfl)
def b0Y:Hints I:=mkH [] [] [] [] [(26,⟨524080,[],[],[(8,.k (.d (.int .i64)))],[((.exit 0),[]),(.ret,[(4,.k (.d (.int .i64)))])],bnd tb (.slot 7) 1⟩)] [] [] []
def a90:Row I:=⟨148,[.d (.sl 3),.fn [.int .i64] [.k (.d (.bool))]],[.k (.d (.int .i64))],a4F⟩
theorem b0P:RK (a90) :=
 okR [] 19 b0Y [.tmp 4] Go.Proofs.Tryz.func148 (by kernel_rfl)
def a8P:Row I:=⟨83,[.d (.sl 3),.fn [.int .i64] [.k (.d (.bool))]],[.k (.d (.bool))],Y1⟩
theorem a09:RK (a8P) :=
 okR [eR b0P] 9 Y4 [.tmp 4] Go.Proofs.Tryz.func83 (by kernel_rfl)
def b9X:Row I:=⟨84,[.d (.int .i64),.var 27 (.k (.d (.dat 27))) false],[.k (.d (.bool))],b1h⟩
theorem c1f:RK (b9X) :=
 okR [] 22 Y4 [.tmp 3] Go.Proofs.Tryz.func84 (by kernel_rfl)
def c1T:Row I:=⟨42,[.d (.dat 27),.d (.sl 3)],[.k (.d (.bool))],a7V⟩
theorem c2O:RK (c1T) :=
 okR [eR a09,eR c1f] 9 Y4 [.tmp 4] Go.Proofs.Tryz.func42 (by kernel_rfl)
def a8q:Hints I:=mkH [(6,[[],[],[0,1],[0,1,2],[],[],[5],[4,5,6],[4,5,6,7],[0,1,2,3,4,5,6,7,8]]),(11,[[],[],[0,1],[0,1,2],[],[],[5],[4,5,6],[4,5,6,7],[0,1,2,3,4,5,6,7,8]])] [] [] [] [(58,⟨1152921504606846012,[],[],[(0,.k (.row 83 false)),(3,.k (.d (.int .i64)))],[((.exit 0),[(0,.k (.row 83 false))]),(.ret,[(2,.k (.row 83 false))])],bnd tb (.len (.slot 0)) 1⟩)] [(59690,⟨18014397972611112,0,83,[(3,.k (.d (.int .i64))),(5,.k (.d (.int .i64)))],[((.exit 2),[(3,.k (.d (.int .i64)))])],bnd tb (.len (.slot 4)) 1⟩)] [] []
def a7T:Row I:=⟨88,[.row 83 false],[.k (.row 83 false)],a1h⟩
theorem a8e:RK (a7T) :=
 okR [] 61 a8q [.tmp 2] Go.Proofs.Tryz.func88 (by kernel_rfl)
def a8K:Row I:=⟨87,[.d (.sl 83)],[.k (.row 83 true)],a3v⟩
theorem a9d:RK (a8K) :=
 okR [] 9 Y4 [.tmp 2] Go.Proofs.Tryz.func87 (by kernel_rfl)
def c2h:Hints I:=mkH [] [] [] [] [(58,⟨17179865760,[],[],[(5,.k (.row 83 false)),(12,.k (.d (.int .i64)))],[((.exit 0),[(5,.k (.row 83 false))])],bnd tb (.slot 11) 1⟩),
 (14950,⟨8581546528,[],[],[(5,.k (.row 83 false)),(23,.k (.d (.int .i64)))],[((.exit 2),[(5,.k (.row 83 false))])],bnd tb (.slot 22) 1⟩)] [] [] []
noncomputable def b9F:Row I:=⟨43,[.d (.dat 27),.d (.sl 3)],[.k (.row 83 true)],a5i⟩
theorem c0I:RK (b9F) :=
 okR [eO d3W,eR a1z,eR a8e,eR a9d] 39 c2h [.tmp 4] Go.Proofs.Tryz.func43 (by kernel_rfl)
def c9l:Hints I:=mkH [] [] [] [] [(26,⟨2096208,[],[],[(10,.k (.d (.int .i64)))],[((.exit 0),[]),(.ret,[(4,.k (.d (.int .i64)))])],bnd tb (.slot 9) 1⟩)] [] [] []
def c58:Row I:=⟨93,[.d (.dat 77),.d (.dat 83)],[.k (.d (.int .i64))],a7H⟩
theorem b6H:RK (c58) :=
 okR [] 26 c9l [.tmp 4] Go.Proofs.Tryz.func93 (by kernel_rfl)
def c1V:Hints I:=mkH [] [] [] [] [(26,⟨4193360,[],[],[(10,.k (.d (.int .i64)))],[((.exit 0),[]),(.ret,[(4,.k (.d (.bool)))])],bnd tb (.slot 9) 1⟩)] [] [] []
def b9K:Row I:=⟨94,[.d (.dat 77),.d (.dat 83)],[.k (.d (.bool))],a3U⟩
theorem b2M:RK (b9K) :=
 okR [] 22 c1V [.tmp 4] Go.Proofs.Tryz.func94 (by kernel_rfl)
def b2O:Hints I:=mkH [(6,[[],[],[0,1],[0,1,2],[],[],[5],[4,5,6],[4,5,6,7],[0,1,2,3,4,5,6,7,8]]),(11,[[],[],[0,1],[0,1,2],[],[],[5],[4,5,6],[4,5,6,7],[0,1,2,3,4,5,6,7,8]])] [] [] [] [(58,⟨1152921504606846012,[],[],[(0,.k (.row 3 false)),(3,.k (.d (.int .i64)))],[((.exit 0),[(0,.k (.row 3 false))]),(.ret,[(2,.k (.row 3 false))])],bnd tb (.len (.slot 0)) 1⟩)] [(59690,⟨18014397972611112,0,3,[(3,.k (.d (.int .i64))),(5,.k (.d (.int .i64)))],[((.exit 2),[(3,.k (.d (.int .i64)))])],bnd tb (.len (.slot 4)) 1⟩)] [] []
def b00:Row I:=⟨202,[.row 3 false],[.k (.row 3 false)],a3l⟩
theorem b1I:RK (b00) :=
 okR [] 61 b2O [.tmp 2] Go.Proofs.Tryz.func202 (by kernel_rfl)
def b3m:Row I:=⟨201,[.d (.sl 3)],[.k (.row 3 true)],a6V⟩
theorem b4z:RK (b3m) :=
 okR [] 9 Y4 [.tmp 2] Go.Proofs.Tryz.func201 (by kernel_rfl)
def c1m:Row I:=⟨153,[.d (.sl 3)],[.k (.row 3 true)],a8b⟩
theorem c2M:RK (c1m) :=
 okR [eR c4b,eO d3s,eR b1I,eR b4z] 11 Y4 [.tmp 2] Go.Proofs.Tryz.func153 (by kernel_rfl)
def c3Z:Hints I:=mkH [(1,[[],[0],[0,1],[],[3],[0,1,2,3,4],[],[6],[0,1,2,3,4,5,6,7],[0,1,2,3,4,5,6,7,8]])] [] [] [] [] [] [] []
def c1J:Row I:=⟨90,[.d (.dat 56)],[.k (.d (.dat 56))],a6P⟩
theorem b5B:RK (c1J) :=
 okR [eR c2M] 12 c3Z [.cell 2 56] Go.Proofs.Tryz.func90 (by kernel_rfl)
def b4j:Hints I:=mkH [] [] [] [] [(26,⟨524080,[],[],[(8,.k (.d (.int .i64)))],[((.exit 0),[]),(.ret,[(4,.k (.d (.int .i64)))])],bnd tb (.slot 7) 1⟩)] [] [] []
def b2N:Row I:=⟨154,[.d (.sl 3),.d (.int .i64)],[.k (.d (.int .i64))],a6l⟩
theorem b3g:RK (b2N) :=
 okR [] 19 b4j [.tmp 4] Go.Proofs.Tryz.func154 (by kernel_rfl)
def b0r:Row I:=⟨91,[.d (.sl 3),.d (.int .i64)],[.k (.d (.bool))],a0J⟩
theorem a6K:RK (b0r) :=
 okR [eR b3g] 9 Y4 [.tmp 4] Go.Proofs.Tryz.func91 (by kernel_rfl)
def b7A:Row I:=⟨177,[.d (.int .i64),.var 22 (.k (.d (.sl 3))) false],[.k (.d (.bool))],a8W⟩
theorem b8z:RK (b7A) :=
 okR [eR a6K] 7 Y4 [.tmp 3] Go.Proofs.Tryz.func177 (by kernel_rfl)
def b92:Row I:=⟨140,[.d (.sl 3),.d (.sl 3)],[.k (.d (.bool))],a8i⟩
theorem c0v:RK (b92) :=
 okR [eR a09,eR b8z] 8 Y4 [.tmp 4] Go.Proofs.Tryz.func140 (by kernel_rfl)
def c0s:Hints I:=mkH [(6,[[],[0],[],[2],[],[2,3,4],[2,3,4,5],[],[2,3,4,5,6,7],[2,3,4,5,6,7,8],[0,1,2,3,4,5,6,7,8,9],[0,1,2,3,4,5,6,7,8,9,10],[0,1,2,3,4,5,6,7,8,9,10,11]]),(7,[[],[0],[],[0,1,2],[0,1,2,3],[],[0,1,2,3,4,5]]),(15,[[],[0],[],[2],[],[4],[],[4,5,6],[4,5,6,7],[2,3,4,5,6,7,8],[2,3,4,5,6,7,8,9],[],[2,3,4,5,6,7,8,9,10,11],[2,3,4,5,6,7,8,9,10,11,12],[0,1,2,3,4,5,6,7,8,9,10,11,12,13],[0,1,2,3,4,5,6,7,8,9,10,11,12,13,14],[0,1,2,3,4,5,6,7,8,9,10,11,12,13,14,15]]),(22,[[],[],[1],[],[3],[],[5],[1,2,3,4,5,6],[1,2,3,4,5,6,7],[0,1,2,3,4,5,6,7],[0,1,2,3,4,5,6,7,9],[0,1,2,3,4,5,6,7,8,9,10]])] [] [(22,[13])] [] [(122,⟨140737480048640,[],[(13,.lvs [.row 3 false,.row 3 false,.d (.bool)])],[(14,.k (.d (.int .i64))),(23,.k (.d (.int .i64)))],[((.exit 0),[(14,.k (.d (.int .i64)))])],bnd tb (.slot 22) 1⟩),
 (506,⟨604462909244364634865664,[],[(13,.lvs [.row 3 false,.row 3 false,.d (.bool)])],[(14,.k (.d (.int .i64))),(17,.k (.d (.bool))),(49,.k (.d (.int .i64)))],[((.exit 2),[(14,.k (.d (.int .i64))),(17,.k (.d (.bool)))])],bnd tb (.slot 48) 1⟩)] [] [] []
def b8C:Row I:=⟨89,[.d (.dat 27),.d (.dat 40),.d (.int .i64),.d (.dat 83),.bor 111],[.k (.d (.int .i64)),.k (.d (.dat 56)),.k (.d (.bool))],a7K⟩
theorem b90:RK (b8C) :=
 okR [eR b6H,eR b2M,eR b5B,eR c0v] 92 c0s [.tmp 10,.cell 11 56,.tmp 12] Go.Proofs.Tryz.func89 (by kernel_rfl)
def c2F:Hints I:=mkH [(17,[[],[],[],[1,2],[1,2,3],[1,2,3,4],[],[6],[],[],[6,7,8],[6,7,8,10],[6,7,8,9,10,11],[6,7,8,9,10,11,12],[6,7,8,9,10,11,12,13],[1,2,3,4,5,6,7,8,9,10,11,12,13,14],[],[0,1,2,3,4,5,6,7,8,9,10,11,12,13,14,15,16],[0,1,2,3,4,5,6,7,8,9,10,11,12,13,14,15,16,17],[0,1,2,3,4,5,6,7,8,9,10,11,12,13,14,15,16,17,18]]),(29,[[],[0],[],[2],[],[2,3,4],[2,3,4,5],[],[7],[0,1,2,3,4,5,6],[0,1,2,3,4,5,6,9],[0,1,2,3,4,5,6,7,8,9,10],[0,1,2,3,4,5,6,7,8,9,10,11],[0,1,2,3,4,5,6,7,8,9,10,11,12]])] [] [(7,[10]),(8,[10]),(9,[10]),(10,[10])] [(129638,⟨42530103568258773105293295432646000640,[],[],[(.normal,[(22,.k (.d (.int .i64)))])]⟩),
 (518556,⟨10846500445604913522895065611887611740160,[],[],[(.normal,[(132,.k (.d (.bool)))])]⟩)] [(58,⟨576460752035052032,[10],[(8,.lvs [.d (.sl 83),.d (.sl 3),.d (.sl 56),.d (.sl 3),.d (.sl 3),.d (.bool),.d (.sl 3),.d (.sl 3),.d (.bool),.d (.sl 85)]),(10,.lvs [.row 83 true,.row 3 true,.row 56 true,.row 3 true,.row 3 true,.d (.bool),.row 3 true,.row 3 true,.d (.bool),.row 85 true])],[(28,.k (.d (.int .i64)))],[((.exit 0),[]),(.ret,[(9,.k (.d (.bool)))])],bnd tb (.slot 27) 1⟩),
 (122,⟨1237940034673694256472129536,[],[(10,.lvs [.row 83 true,.row 3 true,.row 56 true,.row 3 true,.row 3 true,.d (.bool),.row 3 true,.row 3 true,.d (.bool),.row 85 true])],[(62,.k (.d (.int .i64)))],[((.exit 2),[])],bnd tb (.slot 61) 1⟩),
 (506,⟨89202980794102210156539221420169498779976192,[],[(8,.k (.d (.dat 71))),(10,.lvs [.row 83 true,.row 3 true,.row 56 true,.d (.sl 3),.d (.sl 3),.d (.bool),.d (.sl 3),.d (.sl 3),.d (.bool),.row 85 true])],[(104,.k (.d (.int .i64)))],[((.exit 8),[]),(.ret,[(9,.k (.d (.bool)))])],bnd tb (.slot 103) 1⟩)] [] [] [(250,3),(31334,3)]
def c0L:Row I:=⟨46,[.d (.dat 27),.d (.dat 40),.d (.sl 83),.bor 111],[.k (.d (.dat 71)),.k (.d (.bool))],a9j⟩
theorem c1i:RK (c0L) :=
 okR [eR c79,eR b90,eR b5B,eR a6K] 147 c2F [.cell 8 71,.tmp 9] Go.Proofs.Tryz.func46 (by kernel_rfl)
def b7H:Row I:=⟨92,[.d (.int .i64),.var 27 (.k (.d (.dat 27))) false],[.k (.d (.bool))],a1d⟩
theorem b8Y:RK (b7H) :=
 okR [] 11 Y4 [.tmp 3] Go.Proofs.Tryz.func92 (by kernel_rfl)
def c2f:Hints I:=mkH [] [] [] [(16024,⟨105553116272640,[],[],[(.normal,[(11,.k (.d (.int .i64))),(12,.k (.d (.int .i64)))])]⟩),
 (31333,⟨4160749824,[],[],[(.normal,[(8,.k (.row 111 false))])]⟩)] [(122,⟨2199023191808,[],[],[(8,.k (.row 111 false)),(16,.k (.d (.int .i64)))],[((.exit 0),[(8,.k (.row 111 false))])],bnd tb (.slot 15) 1⟩),
 (250,⟨144106391982840064,[],[],[(8,.k (.row 111 false)),(43,.k (.d (.int .i64)))],[((.exit 2),[(8,.k (.row 111 false))])],bnd tb (.cst 2) 1⟩)] [] [] []
def b91:Row I:=⟨47,[.d (.dat 27),.d (.dat 77),.d (.sl 83)],[.k (.row 111 false)],a5h⟩
theorem c0W:RK (b91) :=
 okR [eR b6H,eR b8Y,eR b2M] 58 c2f [.tmp 6] Go.Proofs.Tryz.func47 (by kernel_rfl)
def b9I (_:Nat):Hints I:=mkH [(4,[[],[],[1],[],[3],[],[3,4,5],[3,4,5,6],[1,2,3,4,5,6,7],[1,2,3,4,5,6,7,8],[],[0,1,2,3,4,5,6,7,8,9,10],[0,1,2,3,4,5,6,7,8,9,10,11],[]])] [] [] [(83,⟨1006632960,[],[(5,.k (.row 71 false))],[(.normal,[])]⟩)] [(14,⟨72048797944907776,[],[(4,.k (.row 111 false)),(5,.k (.row 71 false))],[(41,.k (.row 111 false)),(43,.k (.d (.int .i64)))],[((.exit 0),[(41,.k (.row 111 false))])],bnd tb (.slot 42) 1⟩)] [] [] []
def a6R (n:Nat):Row I:=⟨45,[.d (.int .i64),.var 40 (.k (.d (.dat 40))) false,.var 27 (.k (.d (.dat 27))) false,.var 29 (.k (.d (.sl 83))) false,.var 105 (.k (.row 111 false)) true,.var 62 (.k (.row 71 false)) true,.var 106 (.k (.d .any)) false],[],a0G n⟩
theorem b7K (n:Nat)(h_record_Shapes_1:a7g Go.Proofs.Tryz.prog (a6R n) (b1p 106 45 6 [1,2,3,4,5,6])):a7g Go.Proofs.Tryz.prog (a6R (n+1)) (b1p 106 45 6 [1,2,3,4,5,6]) :=
 c6x a9e (b6L (c17 [eR c1i,eR c0W,eS 106 45 6 [1,2,3,4,5,6] h_record_Shapes_1]) 3) mixed 56 (s0:=fun a=>c7m 106 45 7 6 [1,2,3,4,5,6] (b3a tb 56 [.d (.int .i64),.var 40 (.k (.d (.dat 40))) false,.var 27 (.k (.d (.dat 27))) false,.var 29 (.k (.d (.sl 83))) false,.var 105 (.k (.row 111 false)) true,.var 62 (.k (.row 71 false)) true,.var 106 (.k (.d .any)) false] a)) (fn:=Go.Proofs.Tryz.f45) (cd:=c5g Go.Proofs.Tryz.f45) (H:=(b9I n)) (rl:=[]) (fun X c σ a vs F h hv hC=>c48 rfl rfl rfl h hv hC) Go.Proofs.Tryz.func45 (by kernel_rfl) (by kernel_rfl) (by kernel_rfl) (by kernel_rfl) (by kernel_rfl) (by kernel_rfl) (by kernel_rfl)
theorem b0J:∀ n:Nat,a7g Go.Proofs.Tryz.prog (a6R n) (b1p 106 45 6 [1,2,3,4,5,6])
 | 0=>c3t (Y2 (by kernel_rfl))
 | n+1=>b7K n (b0J n)
def c1z (_:Nat):Hints I:=mkH [(5,[[],[],[1],[1,2],[],[4],[1,2,3,4,5],[0,1,2,3,4,5,6],[],[0,1,2,3,4,5,6,7,8]])] [] [] [] [] [] [] []
noncomputable def c0c (n:Nat):Row I:=⟨20,[.d (.dat 27),.d (.dat 40)],[.k (.row 71 false),.k (.d (.int .i64))],a3R n⟩
theorem b2V (n:Nat):RK (c0c n) :=
 okR [eR (a5H n),eR c2O,eR c4b,eR c0I,eS 106 45 6 [1,2,3,4,5,6] (b0J n)] 46 (c1z n) [.tmp 4,.tmp 5] Go.Proofs.Tryz.func20 (by kernel_rfl)
def b7F:Row I:=⟨32,[],[.k (.d (.dat 33))],X7⟩
theorem a2m:RK (b7F) :=
 okR [] 2 Y4 [.cell 0 33] Go.Proofs.Tryz.func32 (by kernel_rfl)
def b5Y:Row I:=⟨162,[.d (.int .u8)],[.k (.d (.bool))],a2L⟩
theorem a9k:RK (b5Y) :=
 okR [] 9 Y4 [.tmp 2] Go.Proofs.Tryz.func162 (by kernel_rfl)
def b4Y:Row I:=⟨163,[.d (.int .u8)],[.k (.d (.bool))],a4c⟩
theorem a84:RK (b4Y) :=
 okR [] 9 Y4 [.tmp 2] Go.Proofs.Tryz.func163 (by kernel_rfl)
def b6w:Hints I:=mkH [] [] [] [] [(58,⟨4398046248972,[],[],[(3,.k (.d (.int .i64)))],[((.exit 0),[]),(.ret,[(2,.k (.d (.bool)))])],bnd tb (.len (.slot 0)) 1⟩)] [] [] []
def b4e:Row I:=⟨115,[.d (.str)],[.k (.d (.bool))],a2g⟩
theorem a57:RK (b4e) :=
 okR [eR a9k,eR a84] 42 b6w [.tmp 2] Go.Proofs.Tryz.func115 (by kernel_rfl)
def b2J:Row I:=⟨61,[.d (.dat 83)],[.k (.d (.bool))],a1r⟩
theorem a5c:RK (b2J) :=
 okR [eR a57] 22 Y4 [.tmp 2] Go.Proofs.Tryz.func61 (by kernel_rfl)
def b3W:Row I:=⟨62,[.d (.sl 33)],[.k (.row 33 false)],a1n⟩
theorem a8C:RK (b3W) :=
 okR [] 5 Y4 [.tmp 2] Go.Proofs.Tryz.func62 (by kernel_rfl)
def b5x:Row I:=⟨110,[.d (.int .i64),.d (.int .i64)],[.k (.d (.int .i64))],a2M⟩
theorem a6C:RK (b5x) :=
 okR [] 11 Y4 [.tmp 4] Go.Proofs.Tryz.func110 (by kernel_rfl)
def b6t:Row I:=⟨111,[.d (.str),.d (.str)],[.k (.d (.int .i64))],a1q⟩
theorem a9C:RK (b6t) :=
 okR [] 11 Y4 [.tmp 4] Go.Proofs.Tryz.func111 (by kernel_rfl)
def b0O:Row I:=⟨52,[.d (.dat 83),.d (.dat 83)],[.k (.d (.int .i64))],J4⟩
theorem a0W:RK (b0O) :=
 okR [eR a6C,eR a9C] 20 Y4 [.tmp 4] Go.Proofs.Tryz.func52 (by kernel_rfl)
def b9U:Hints I:=mkH [(13,[[],[],[1],[1,2],[0,1,2,3],[0,1,2,3,4],[0,1,2,3,4,5],[0,1,2,3,4,5,6],[0,1,2,3,4,5],[0,1,2,3,4,5,6,7,8],[0,1,2,3,4,5,6,7,8,9],[0,1,2,3,4,5],[0,1,2,3,4,5],[0,1,2,3,4,5,11,12],[0,1,2,3,4,5,11,12,13],[0,1,2,3,4,5,6,7,8,9,10,11,12,13,14],[0,1,2,3,4,5,6,7,8,9,10,11,12,13,14,15],[0,1,2,3,4,5,6,7,8,9,10,11,12,13,14,15,16]]),(15,[[],[],[1],[1,2],[0,1,2,3],[0,1,2,3,4],[0,1,2,3,4,5],[0,1,2,3,4,5,6],[0,1,2,3,4,5],[0,1,2,3,4,5,6,7,8],[0,1,2,3,4,5,6,7,8,9],[0,1,2,3,4,5],[0,1,2,3,4,5],[0,1,2,3,4,5,11,12],[0,1,2,3,4,5,11,12,13],[0,1,2,3,4,5,6,7,8,9,10,11,12,13,14],[0,1,2,3,4,5,6,7,8,9,10,11,12,13,14,15]]),(17,[[],[0],[],[0,1,2],[0,1,2,3],[],[5],[],[5,6,7],[0,1,2,3,4,5,6,7,8],[0,1,2,3,4,5,6,7,8,9],[0,1,2,3,4,5,6,7,8,9,10]]),(18,[[],[],[],[1,2],[1,2,3],[1,2,3,4],[0,1,2,3,4,5],[],[7],[],[7,8,9],[0,1,2,3,4,5,6,7,8,9,10],[0,1,2,3,4,5,6,7,8,9,10,11],[0,1,2,3,4,5,6,7,8,9,10,11,12]]),(19,[[],[],[],[1,2],[1,2,3],[1,2,3,4],[0,1,2,3,4,5],[],[7],[],[7,8,9],[0,1,2,3,4,5,6,7,8,9,10],[0,1,2,3,4,5,6,7,8,9,10,11],[0,1,2,3,4,5,6,7,8,9,10,11,12]])] [] [] [] [(58,⟨2147221600,[],[(4,.lvs [.d (.int .i64),.d (.int .i64),.d (.str),.row 33 false,.row 83 false,.row 138 false,.row 9 false])],[(6,.k (.d (.int .i64)))],[((.exit 0),[]),(.ret,[(5,.k (.d (.int .i64)))])],bnd tb (.len (.slot 0)) 1⟩),
 (250,⟨5192296858534827628530492034256672,[7],[(4,.lvs [.d (.int .i64),.d (.int .i64),.d (.str),.row 33 false,.row 83 false,.row 138 false,.row 9 false]),(7,.lvs [.d (.int .i64),.d (.int .i64),.d (.str),.d (.sl 33),.d (.sl 83),.row 138 true,.row 9 true])],[(8,.k (.d (.int .i64)))],[((.exit 2),[]),(.ret,[(5,.k (.d (.int .i64)))])],bnd tb (.len (.slot 0)) 1⟩),
 (32036,⟨288230101273805312,[7],[],[(9,.k (.d (.int .i64)))],[((.exit 4),[(9,.k (.d (.int .i64)))])],bnd tb (.len (.ld 29 (.fld 33 4 (.slot 7)))) 1⟩)] [] [] []
def b7p:Row I:=⟨27,[.d (.sl 83),.d (.sl 33)],[.k (.d (.dat 33)),.k (.d (.int .i64))],a0H⟩
theorem a5z:RK (b7p) :=
 okR [eR a5c,eR a0W,eR a8C] 113 b9U [.cell 4 33,.tmp 5] Go.Proofs.Tryz.func27 (by kernel_rfl)
def c5k:Hints I:=mkH [] [] [] [(105,⟨160,[],[],[(.normal,[(5,.k (.d (.bool)))])]⟩),
 (429,⟨2560,[],[],[(.normal,[(9,.k (.d (.bool)))])]⟩),
 (6909,⟨327680,[],[],[(.normal,[(16,.k (.d (.bool)))])]⟩)] [] [] [] []
def c2P:Row I:=⟨208,[.d (.int .i64)],[.k (.d (.dat 220)),.k (.d (.bool))],c2o⟩
theorem c3T:RK (c2P) :=
 okR [] 27 c5k [.cell 2 220,.tmp 3] Go.Proofs.Tryz.func208 (by kernel_rfl)
def b2c:Hints I:=mkH [(4,[[],[],[],[2],[1,2,3],[1,2,3,4],[],[],[6,7],[6,7,8],[0,1,2,3,4,5,6,7,8,9],[0,1,2,3,4,5,6,7,8,9,10]])] [] [] [] [(26,⟨16777200,[],[],[(5,.k (.d (.int .i64)))],[((.exit 0),[]),(.ret,[(4,.k (.d (.bool)))])],bnd tb (.len (.slot 0)) 1⟩)] [] [] []
def b1c:Row I:=⟨230,[.d (.sl 9),.fn [.str,.str] [.k (.d (.int .i64))]],[.k (.d (.bool))],a8d⟩
theorem b1N:RK (b1c) :=
 okR [] 24 b2c [.tmp 4] Go.Proofs.Tryz.func230 (by kernel_rfl)
def b7x:Hints I:=mkH [] [] [] [] [(58,⟨261140,[],[],[(10,.k (.d (.int .i64)))],[((.exit 0),[]),(.ret,[(2,.k (.d (.bool)))])],bnd tb (.slot 9) 1⟩)] [] [] []
def b5z:Row I:=⟨209,[.d (.sl 9)],[.k (.d (.bool))],b1l⟩
theorem b6j:RK (b5z) :=
 okR [eR b1N,eR a7a,eR a9D] 18 b7x [.tmp 2] Go.Proofs.Tryz.func209 (by kernel_rfl)
def b1t:Hints I:=mkH [(4,[[],[],[],[2],[1,2,3],[1,2,3,4],[],[],[6,7],[6,7,8],[0,1,2,3,4,5,6,7,8,9],[0,1,2,3,4,5,6,7,8,9,10]])] [] [] [] [(26,⟨16777200,[],[],[(5,.k (.d (.int .i64)))],[((.exit 0),[]),(.ret,[(4,.k (.d (.bool)))])],bnd tb (.len (.slot 0)) 1⟩)] [] [] []
def b0t:Row I:=⟨231,[.d (.sl 83),.fn [.dat 83,.dat 83] [.k (.d (.int .i64))]],[.k (.d (.bool))],a7N⟩
theorem b01:RK (b0t) :=
 okR [] 24 b1t [.tmp 4] Go.Proofs.Tryz.func231 (by kernel_rfl)
def c0M:Hints I:=mkH [] [] [] [] [(58,⟨534773780,[],[],[(21,.k (.d (.int .i64)))],[((.exit 0),[]),(.ret,[(2,.k (.d (.bool)))])],bnd tb (.slot 20) 1⟩)] [] [] []
def b7T:Row I:=⟨210,[.d (.dat 33)],[.k (.d (.bool))],b4V⟩
theorem b9S:RK (b7T) :=
 okR [eR b01,eR a1z,eR a5P] 29 c0M [.tmp 2] Go.Proofs.Tryz.func210 (by kernel_rfl)
def b0A:Hints I:=mkH [(4,[[],[],[],[2],[1,2,3],[1,2,3,4],[],[],[6,7],[6,7,8],[0,1,2,3,4,5,6,7,8,9],[0,1,2,3,4,5,6,7,8,9,10]])] [] [] [] [(26,⟨16777200,[],[],[(5,.k (.d (.int .i64)))],[((.exit 0),[]),(.ret,[(4,.k (.d (.bool)))])],bnd tb (.len (.slot 0)) 1⟩)] [] [] []
def a9x:Row I:=⟨232,[.d (.sl 138),.fn [.dat 138,.dat 138] [.k (.d (.int .i64))]],[.k (.d (.bool))],a63⟩
theorem a93:RK (a9x) :=
 okR [] 24 b0A [.tmp 4] Go.Proofs.Tryz.func232 (by kernel_rfl)
def a9a:Hints I:=mkH [(7,[[],[],[],[1,2],[1,2,3],[],[],[5,6],[5,6,7],[0,1,2,3,4,5,6,7,8],[0,1,2,3,4,5,6,7,8,9]])] [] [] [] [(58,⟨137437905728,[],[],[(20,.k (.d (.int .i64)))],[((.exit 0),[]),(.ret,[(6,.k (.d (.int .i64)))])],bnd tb (.slot 19) 1⟩)] [] [] []
def a8t:Row I:=⟨255,[.d (.sl 33),.d (.sl 33),.fn [.dat 33,.dat 33] [.k (.d (.int .i64))]],[.k (.d (.int .i64))],a6b⟩
theorem a8J:RK (a8t) :=
 okR [eR a2l] 37 a9a [.tmp 6] Go.Proofs.Tryz.func255 (by kernel_rfl)
def b7I:Row I:=⟨262,[.d (.int .i64)],[.k (.d (.bool))],a82⟩
theorem b74:RK (b7I) :=
 okR [] 6 Y4 [.tmp 2] Go.Proofs.Tryz.func262 (by kernel_rfl)
def b4T:Row I:=⟨256,[.d (.int .i64),.d (.int .i64)],[.k (.d (.int .i64))],b1k⟩
theorem b6K:RK (b4T) :=
 okR [eR b74] 20 Y4 [.tmp 4] Go.Proofs.Tryz.func256 (by kernel_rfl)
def b0c:Hints I:=mkH [(7,[[],[],[],[1,2],[1,2,3],[],[],[5,6],[5,6,7],[0,1,2,3,4,5,6,7,8],[0,1,2,3,4,5,6,7,8,9]])] [] [] [] [(58,⟨137437905728,[],[],[(20,.k (.d (.int .i64)))],[((.exit 0),[]),(.ret,[(6,.k (.d (.int .i64)))])],bnd tb (.slot 19) 1⟩)] [] [] []
def a9m:Row I:=⟨257,[.d (.sl 83),.d (.sl 83),.fn [.dat 83,.dat 83] [.k (.d (.int .i64))]],[.k (.d (.int .i64))],a6N⟩
theorem a9z:RK (a9m) :=
 okR [eR a2l] 37 b0c [.tmp 6] Go.Proofs.Tryz.func257 (by kernel_rfl)
def a9p:Hints I:=mkH [(7,[[],[],[],[1,2],[1,2,3],[],[],[5,6],[5,6,7],[0,1,2,3,4,5,6,7,8],[0,1,2,3,4,5,6,7,8,9]])] [] [] [] [(58,⟨137437905728,[],[],[(20,.k (.d (.int .i64)))],[((.exit 0),[]),(.ret,[(6,.k (.d (.int .i64)))])],bnd tb (.slot 19) 1⟩)] [] [] []
def a8u:Row I:=⟨258,[.d (.sl 138),.d (.sl 138),.fn [.dat 138,.dat 138] [.k (.d (.int .i64))]],[.k (.d (.int .i64))],a5Y⟩
theorem a8N:RK (a8u) :=
 okR [eR a2l] 37 a9p [.tmp 6] Go.Proofs.Tryz.func258 (by kernel_rfl)
def b0y:Hints I:=mkH [(7,[[],[],[],[1,2],[1,2,3],[],[],[5,6],[5,6,7],[0,1,2,3,4,5,6,7,8],[0,1,2,3,4,5,6,7,8,9]])] [] [] [] [(58,⟨137437905728,[],[],[(20,.k (.d (.int .i64)))],[((.exit 0),[]),(.ret,[(6,.k (.d (.int .i64)))])],bnd tb (.slot 19) 1⟩)] [] [] []
def a9s:Row I:=⟨259,[.d (.sl 9),.d (.sl 9),.fn [.str,.str] [.k (.d (.int .i64))]],[.k (.d (.int .i64))],a6Z⟩
theorem a99:RK (a9s) :=
 okR [eR a2l] 37 b0y [.tmp 6] Go.Proofs.Tryz.func259 (by kernel_rfl)
def a2Q (n:Nat):Row I:=⟨249,[.d (.dat 33),.d (.dat 33)],[.k (.d (.int .i64))],b7b n⟩
def a0B (n:Nat):Row I:=⟨233,[.d (.dat 138),.d (.dat 138)],[.k (.d (.int .i64))],a85 n⟩
def a1I (n:Nat):Row I:=⟨248,[.d (.sl 33),.d (.sl 33)],[.k (.d (.int .i64))],b7u n⟩
theorem b9E (n:Nat)(_:j6 Go.Proofs.Tryz.prog (a2Q n))(h_value_compareEntries:j6 Go.Proofs.Tryz.prog (a0B n))(h_value_compareValues:j6 Go.Proofs.Tryz.prog (a1I n)):RK (a2Q (n+1)) :=
 okR [eR a2l,eR b6K,eR a7a,eR a9z,eR a1z,eR h_value_compareValues,eR a8N,eR h_value_compareEntries,eR a99] 64 Y4 [.tmp 4] Go.Proofs.Tryz.func249 (by kernel_rfl)
theorem b2A (n:Nat)(h_value_Compare:j6 Go.Proofs.Tryz.prog (a2Q n))(_:j6 Go.Proofs.Tryz.prog (a0B n))(h_value_compareValues:j6 Go.Proofs.Tryz.prog (a1I n)):RK (a0B (n+1)) :=
 okR [eR h_value_compareValues,eR h_value_Compare] 26 Y4 [.tmp 4] Go.Proofs.Tryz.func233 (by kernel_rfl)
theorem b3j (n:Nat)(h_value_Compare:j6 Go.Proofs.Tryz.prog (a2Q n))(_:j6 Go.Proofs.Tryz.prog (a0B n))(_:j6 Go.Proofs.Tryz.prog (a1I n)):RK (a1I (n+1)) :=
 okR [eR a8J,eR h_value_Compare] 8 Y4 [.tmp 4] Go.Proofs.Tryz.func248 (by kernel_rfl)
theorem a6k:∀ n:Nat,j6 Go.Proofs.Tryz.prog (a2Q n)/\j6 Go.Proofs.Tryz.prog (a0B n)/\j6 Go.Proofs.Tryz.prog (a1I n)
 | 0=>⟨Y2 (by kernel_rfl),Y2 (by kernel_rfl),Y2 (by kernel_rfl)⟩
 | n+1=>by
   obtain ⟨h0,h1,h2⟩:=a6k n
   exact ⟨b9E n h0 h1 h2,b2A n h0 h1 h2,b3j n h0 h1 h2⟩
theorem c08 (n:Nat):j6 Go.Proofs.Tryz.prog (a2Q n):=(a6k n).1
theorem b3d (n:Nat):j6 Go.Proofs.Tryz.prog (a0B n):=(a6k n).2.1
def c1j (n:Nat):Row I:=⟨260,[.d (.dat 33),.d (.dat 33)],[.k (.d (.bool))],c0l n⟩
theorem c3a (n:Nat):RK (c1j n) :=
 okR [eR (c08 n)] 9 Y4 [.tmp 4] Go.Proofs.Tryz.func260 (by kernel_rfl)
def c0A (n:Nat):Row I:=⟨250,[.d (.dat 33)],[.k (.d (.bool))],b8E n⟩
theorem c19 (n:Nat):RK (c0A n) :=
 okR [eR (c3a n)] 6 Y4 [.tmp 2] Go.Proofs.Tryz.func250 (by kernel_rfl)
def b6b (n:Nat):Row I:=⟨234,[.d (.dat 138),.d (.int .i64)],[.k (.d (.bool))],b2x n⟩
theorem b7l (n:Nat):RK (b6b n) :=
 okR [eR (c19 n)] 20 Y4 [.tmp 4] Go.Proofs.Tryz.func234 (by kernel_rfl)
def b5M (_:Nat):Hints I:=mkH [] [] [] [] [(58,⟨4290773012,[],[],[(22,.k (.d (.int .i64)))],[((.exit 0),[]),(.ret,[(2,.k (.d (.bool)))])],bnd tb (.slot 21) 1⟩)] [] [] []
def b3h (n:Nat):Row I:=⟨211,[.d (.dat 33)],[.k (.d (.bool))],a9E n⟩
theorem b4i (n:Nat):RK (b3h n) :=
 okR [eR a93,eR (b3d n),eR (b7l n)] 32 (b5M n) [.tmp 2] Go.Proofs.Tryz.func211 (by kernel_rfl)
def b7t (n:Nat):Row I:=⟨160,[.d (.dat 33)],[.k (.d (.bool))],b3x n⟩
theorem b8w (n:Nat):RK (b7t n) :=
 okR [eR c3T,eR b6j,eR a8T,eR b9S,eR (b4i n)] 124 Y4 [.tmp 2] Go.Proofs.Tryz.func160 (by kernel_rfl)
def c34:Hints I:=mkH [] [] [] [] [(58,⟨536866856,[],[],[(3,.k (.row 33 false)),(12,.k (.d (.int .i64)))],[((.exit 0),[(3,.k (.row 33 false))])],bnd tb (.slot 11) 1⟩)] [] [] []
def c2i:Row I:=⟨161,[.d (.dat 33)],[.k (.row 33 false)],c0m⟩
theorem c3b:RK (c2i) :=
 okR [eR d2Y] 30 c34 [.tmp 2] Go.Proofs.Tryz.func161 (by kernel_rfl)
def b93 (_:Nat):Hints I:=mkH [] [] [] [] [(58,⟨522260,[9],[],[(11,.k (.d (.int .i64)))],[((.exit 0),[]),(.ret,[(2,.k (.d (.bool)))])],bnd tb (.slot 10) 1⟩)] [] [] []
def a6W (n:Nat):Row I:=⟨112,[.d (.dat 33)],[.k (.d (.bool))],a9q n⟩
theorem b7w (n:Nat)(h_value_validTree:j6 Go.Proofs.Tryz.prog (a6W n)):RK (a6W (n+1)) :=
 okR [eR (b8w n),eR c3b,eR h_value_validTree] 19 (b93 n) [.tmp 2] Go.Proofs.Tryz.func112 (by kernel_rfl)
theorem b0E:∀ n:Nat,j6 Go.Proofs.Tryz.prog (a6W n)
 | 0=>Y2 (by kernel_rfl)
 | n+1=>b7w n (b0E n)
def b8s (n:Nat):Row I:=⟨53,[.d (.dat 33)],[.k (.d (.int .i64))],a9X n⟩
theorem b1n (n:Nat):RK (b8s n) :=
 okR [eR (b0E n)] 6 Y4 [.tmp 2] Go.Proofs.Tryz.func53 (by kernel_rfl)
def b8K:Row I:=⟨54,[.d (.dat 71)],[.k (.d (.bool))],a6e⟩
theorem b1m:RK (b8K) :=
 okR [] 19 Y4 [.tmp 2] Go.Proofs.Tryz.func54 (by kernel_rfl)
def c2U:Hints I:=mkH [(1,[[],[0],[0,1],[],[3],[0,1,2,3,4],[0,1,2,3,4,5]])] [] [] [] [(58,⟨33521704,[],[],[(3,.k (.row 56 false)),(15,.k (.d (.int .i64)))],[((.exit 0),[(3,.k (.row 56 false))])],bnd tb (.slot 14) 1⟩)] [] [] []
def c0o:Row I:=⟨55,[.d (.dat 71)],[.k (.row 56 false)],b8Z⟩
theorem c12:RK (c0o) :=
 okR [eR d3q] 26 c2U [.tmp 2] Go.Proofs.Tryz.func55 (by kernel_rfl)
def c3W:Hints I:=mkH [(1,[[],[0],[0,1],[],[3],[0,1,2,3,4],[0,1,2,3,4,5],[]])] [] [] [] [(26,⟨268419152,[12],[],[(14,.k (.d (.int .i64)))],[((.exit 0),[]),(.ret,[(4,.k (.d (.bool)))])],bnd tb (.slot 13) 1⟩)] [] [] []
def c1y:Row I:=⟨56,[.d (.dat 27),.d (.dat 56)],[.k (.d (.bool))],b4s⟩
theorem b5q:RK (c1y) :=
 okR [eR c4b] 28 c3W [.tmp 4] Go.Proofs.Tryz.func56 (by kernel_rfl)
def a81:Hints I:=mkH [(4,[[],[],[],[1,2],[1,2,3],[0,1,2,3,4]])] [] [] [] [(26,⟨524080,[],[],[(8,.k (.d (.int .i64)))],[((.exit 0),[]),(.ret,[(4,.k (.d (.int .i64)))])],bnd tb (.slot 7) 1⟩)] [] [] []
def a8m:Row I:=⟨114,[.d (.sl 83),.d (.dat 83)],[.k (.d (.int .i64))],a1s⟩
theorem a48:RK (a8m) :=
 okR [] 19 a81 [.tmp 4] Go.Proofs.Tryz.func114 (by kernel_rfl)
def c18:Row I:=⟨178,[.d (.int .i64)],[.k (.d (.int .i64))],c0e⟩
theorem c2X:RK (c18) :=
 okR [] 14 Y4 [.tmp 2] Go.Proofs.Tryz.func178 (by kernel_rfl)
def a7I:Row I:=⟨58,[.d (.sl 83),.d (.dat 83)],[.k (.d (.bool))],V4⟩
theorem a1M:RK (a7I) :=
 okR [eR a48] 9 Y4 [.tmp 4] Go.Proofs.Tryz.func58 (by kernel_rfl)
def a92:Hints I:=mkH [] [] [] [] [(26,⟨524080,[],[],[(8,.k (.d (.int .i64)))],[((.exit 0),[]),(.ret,[(4,.k (.d (.int .i64)))])],bnd tb (.slot 7) 1⟩)] [] [] []
def a8Z:Row I:=⟨222,[.d (.sl 9),.d (.str)],[.k (.d (.int .i64))],a3T⟩
theorem a9t:RK (a8Z) :=
 okR [] 19 a92 [.tmp 4] Go.Proofs.Tryz.func222 (by kernel_rfl)
def a75:Row I:=⟨184,[.d (.sl 9),.d (.str)],[.k (.d (.bool))],a1m⟩
theorem a8n:RK (a75) :=
 okR [eR a9t] 9 Y4 [.tmp 4] Go.Proofs.Tryz.func184 (by kernel_rfl)
def c69 (_:Nat):Hints I:=mkH [(6,[[],[],[],[],[2,3],[2,3,4],[0,1,2,3,4,5],[0,1,2,3,4,5,6]])] [] [] [] [(58,⟨1073676736,[],[],[(16,.k (.d (.int .i64)))],[((.exit 0),[]),(.ret,[(6,.k (.d (.bool)))])],bnd tb (.slot 15) 1⟩)] [] [] []
def a2I (n:Nat):Row I:=⟨179,[.d (.sl 33),.d (.dat 27),.d (.sl 3)],[.k (.d (.bool))],a5G n⟩
def b7z (_:Nat):Hints I:=mkH [(2,[[],[0],[],[],[3],[],[3,4,5],[0,1,2,3,4,5,6],[0,1,2,3,4,5,6,7],[0,1,2,3,4,5,6,7,8],[0,1,2,3,4,5,6,7,8,9],[0,1,2,3,4,5,6,7,8,9,10],[0,1,2,3,4,5,6,7,8,9,10,11],[0,1,2,3,4,5,6,7,8,9,10,11,12],[0,1,2,3,4,5,6,7,8,9,10,11,12,13],[0,1,2,3,4,5,6,7,8,9,10,11,12,13,14],[0,1,2,3,4,5,6,7,8,9,10,11,12,13],[0,1,2,3,4,5,6,7,8,9,10,11,12,13],[0,1,2,3,4,5,6,7,8,9,10,11,12,13,17],[0,1,2,3,4,5,6,7,8,9,10,11,12,13],[0,1,2,3,4,5,6,7,8,9,10,11,12,13,17,18,19],[0,1,2,3,4,5,6,7,8,9,10,11,12,13,17,18,19,20],[0,1,2,3,4,5,6,7,8,9,10,11,12,13,14,15,16,17,18,19,20,21],[0,1,2,3,4,5,6,7,8,9,10,11,12,13,14,15,16,17,18,19,20,21,22],[0,1,2,3,4,5,6,7,8,9,10,11,12,13,14,15,16,17,18,19,20,21,22,23],[0,1,2,3,4,5,6,7,8,9,10,11,12,13,14,15,16,17,18,19,20,21,22,23,24]])] [] [] [] [] [] [] []
def W2 (n:Nat):Row I:=⟨221,[.d (.dat 138),.d (.dat 27),.d (.dat 77)],[.k (.d (.bool))],W7 n⟩
def b8B (_:Nat):Hints I:=mkH [] [] [] [] [(58,⟨536346944,[],[],[(19,.k (.d (.int .i64)))],[((.exit 0),[]),(.ret,[(6,.k (.d (.bool)))])],bnd tb (.slot 18) 1⟩)] [] [] []
def X3 (n:Nat):Row I:=⟨181,[.d (.dat 33),.d (.dat 27),.d (.dat 77)],[.k (.d (.bool))],a0k n⟩
def c7e (_:Nat):Hints I:=mkH [(17,[[],[0],[],[2],[2,3],[0,1,2,3,4],[0,1,2,3,4,5]]),(31,[[],[],[],[2],[2,3],[2,3,4],[0,1,2,3,4,5],[0,1,2,3,4,5,6],[0,1,2,3,4,5,6,7]])] [] [] [(60413,⟨144115188075855872000,[],[],[(.normal,[(60,.k (.d (.bool)))])]⟩)] [] [] [] []
def a19 (n:Nat):Row I:=⟨142,[.d (.dat 33),.d (.dat 27),.d (.int .i64)],[.k (.d (.bool))],X9 n⟩
def a1t (n:Nat):Row I:=⟨182,[.d (.int .i64),.var 33 (.k (.d (.dat 33))) false,.var 27 (.k (.d (.dat 27))) false],[.k (.d (.bool))],a3o n⟩
def a1A (n:Nat):Row I:=⟨183,[.d (.int .i64),.var 33 (.k (.d (.dat 33))) false,.var 27 (.k (.d (.dat 27))) false],[.k (.d (.bool))],a3q n⟩
def c32 (_:Nat):Hints I:=mkH [(10,[[],[0],[],[0,1,2],[0,1,2,3],[],[],[],[6,7],[0,1,2,3,4,5,6,7,8],[0,1,2,3,4,5,6,7,8,9]])] [] [] [] [(26,⟨1073725760,[],[],[(14,.k (.d (.int .i64)))],[((.exit 0),[]),(.ret,[(6,.k (.d (.bool)))])],bnd tb (.slot 13) 1⟩),
 (58,⟨1125891316909632,[],[],[(33,.k (.d (.int .i64)))],[((.exit 2),[]),(.ret,[(6,.k (.d (.bool)))])],bnd tb (.slot 32) 1⟩)] [] [] []
def a1f (n:Nat):Row I:=⟨180,[.d (.dat 33),.d (.dat 27),.d (.dat 77)],[.k (.d (.bool))],a2y n⟩
theorem c5y (n:Nat)(_:j6 Go.Proofs.Tryz.prog (a2I n))(_:j6 Go.Proofs.Tryz.prog (W2 n))(_:j6 Go.Proofs.Tryz.prog (X3 n))(h_core_Has:j6 Go.Proofs.Tryz.prog (a19 n))(_:j6 Go.Proofs.Tryz.prog (a1t n))(_:j6 Go.Proofs.Tryz.prog (a1A n))(_:j6 Go.Proofs.Tryz.prog (a1f n)):RK (a2I (n+1)) :=
 okR [eR h_core_Has] 30 (c69 n) [.tmp 6] Go.Proofs.Tryz.func179 (by kernel_rfl)
theorem b5h (n:Nat)(h_core_all:j6 Go.Proofs.Tryz.prog (a2I n))(_:j6 Go.Proofs.Tryz.prog (W2 n))(_:j6 Go.Proofs.Tryz.prog (X3 n))(h_core_Has:j6 Go.Proofs.Tryz.prog (a19 n))(_:j6 Go.Proofs.Tryz.prog (a1t n))(_:j6 Go.Proofs.Tryz.prog (a1A n))(_:j6 Go.Proofs.Tryz.prog (a1f n)):RK (W2 (n+1)) :=
 okR [eR h_core_all,eR h_core_Has] 37 (b7z n) [.tmp 6] Go.Proofs.Tryz.func221 (by kernel_rfl)
theorem b6P (n:Nat)(_:j6 Go.Proofs.Tryz.prog (a2I n))(h_core_EntryAllowed:j6 Go.Proofs.Tryz.prog (W2 n))(_:j6 Go.Proofs.Tryz.prog (X3 n))(_:j6 Go.Proofs.Tryz.prog (a19 n))(_:j6 Go.Proofs.Tryz.prog (a1t n))(_:j6 Go.Proofs.Tryz.prog (a1A n))(_:j6 Go.Proofs.Tryz.prog (a1f n)):RK (X3 (n+1)) :=
 okR [eR h_core_EntryAllowed] 29 (b8B n) [.tmp 6] Go.Proofs.Tryz.func181 (by kernel_rfl)
theorem c5u (n:Nat)(h_core_all:j6 Go.Proofs.Tryz.prog (a2I n))(_:j6 Go.Proofs.Tryz.prog (W2 n))(h_core_functionHas:j6 Go.Proofs.Tryz.prog (X3 n))(h_core_Has:j6 Go.Proofs.Tryz.prog (a19 n))(h_core_Has_1:j6 Go.Proofs.Tryz.prog (a1t n))(h_core_Has_2:j6 Go.Proofs.Tryz.prog (a1A n))(h_core_mapHas:j6 Go.Proofs.Tryz.prog (a1f n)):RK (a19 (n+1)) :=
 okR [eR c2X,eR h_core_all,eR h_core_mapHas,eR h_core_functionHas,eR a09,eR h_core_Has_1,eR h_core_Has_2,eR h_core_Has,eR a8n] 151 (c7e n) [.tmp 6] Go.Proofs.Tryz.func142 (by kernel_rfl)
theorem c2w (n:Nat)(_:j6 Go.Proofs.Tryz.prog (a2I n))(_:j6 Go.Proofs.Tryz.prog (W2 n))(_:j6 Go.Proofs.Tryz.prog (X3 n))(h_core_Has:j6 Go.Proofs.Tryz.prog (a19 n))(_:j6 Go.Proofs.Tryz.prog (a1t n))(_:j6 Go.Proofs.Tryz.prog (a1A n))(_:j6 Go.Proofs.Tryz.prog (a1f n)):RK (a1t (n+1)) :=
 okR [eR h_core_Has] 9 Y4 [.tmp 4] Go.Proofs.Tryz.func182 (by kernel_rfl)
theorem c2J (n:Nat)(_:j6 Go.Proofs.Tryz.prog (a2I n))(_:j6 Go.Proofs.Tryz.prog (W2 n))(_:j6 Go.Proofs.Tryz.prog (X3 n))(h_core_Has:j6 Go.Proofs.Tryz.prog (a19 n))(_:j6 Go.Proofs.Tryz.prog (a1t n))(_:j6 Go.Proofs.Tryz.prog (a1A n))(_:j6 Go.Proofs.Tryz.prog (a1f n)):RK (a1A (n+1)) :=
 okR [eR h_core_Has] 10 Y4 [.tmp 4] Go.Proofs.Tryz.func183 (by kernel_rfl)
theorem c1Y (n:Nat)(_:j6 Go.Proofs.Tryz.prog (a2I n))(_:j6 Go.Proofs.Tryz.prog (W2 n))(_:j6 Go.Proofs.Tryz.prog (X3 n))(h_core_Has:j6 Go.Proofs.Tryz.prog (a19 n))(_:j6 Go.Proofs.Tryz.prog (a1t n))(_:j6 Go.Proofs.Tryz.prog (a1A n))(_:j6 Go.Proofs.Tryz.prog (a1f n)):RK (a1f (n+1)) :=
 okR [eR a1M,eR b6H,eR h_core_Has] 50 (c32 n) [.tmp 6] Go.Proofs.Tryz.func180 (by kernel_rfl)
theorem b3O:∀ n:Nat,j6 Go.Proofs.Tryz.prog (a2I n)/\j6 Go.Proofs.Tryz.prog (W2 n)/\j6 Go.Proofs.Tryz.prog (X3 n)/\j6 Go.Proofs.Tryz.prog (a19 n)/\j6 Go.Proofs.Tryz.prog (a1t n)/\j6 Go.Proofs.Tryz.prog (a1A n)/\j6 Go.Proofs.Tryz.prog (a1f n)
 | 0=>⟨Y2 (by kernel_rfl),Y2 (by kernel_rfl),Y2 (by kernel_rfl),Y2 (by kernel_rfl),Y2 (by kernel_rfl),Y2 (by kernel_rfl),Y2 (by kernel_rfl)⟩
 | n+1=>by
   obtain ⟨h0,h1,h2,h3,h4,h5,h6⟩:=b3O n
   exact ⟨c5y n h0 h1 h2 h3 h4 h5 h6,b5h n h0 h1 h2 h3 h4 h5 h6,b6P n h0 h1 h2 h3 h4 h5 h6,c5u n h0 h1 h2 h3 h4 h5 h6,c2w n h0 h1 h2 h3 h4 h5 h6,c2J n h0 h1 h2 h3 h4 h5 h6,c1Y n h0 h1 h2 h3 h4 h5 h6⟩
theorem c0h (n:Nat):j6 Go.Proofs.Tryz.prog (a19 n):=(b3O n).2.2.2.1
def b9H (n:Nat):Row I:=⟨141,[.d (.int .i64),.var 33 (.k (.d (.dat 33))) false,.var 27 (.k (.d (.dat 27))) false],[.k (.d (.bool))],b7g n⟩
theorem c0H (n:Nat):RK (b9H n) :=
 okR [eR (c0h n)] 10 Y4 [.tmp 4] Go.Proofs.Tryz.func141 (by kernel_rfl)
def b9L (n:Nat):Row I:=⟨143,[.d (.int .i64),.var 33 (.k (.d (.dat 33))) false,.var 27 (.k (.d (.dat 27))) false],[.k (.d (.bool))],b7d n⟩
theorem c0t (n:Nat):RK (b9L n) :=
 okR [eR (c0h n)] 9 Y4 [.tmp 4] Go.Proofs.Tryz.func143 (by kernel_rfl)
def c10 (n:Nat):Row I:=⟨78,[.d (.dat 33),.d (.dat 27),.d (.sl 3),.d (.sl 3)],[.k (.d (.bool))],c0d n⟩
theorem c22 (n:Nat):RK (c10 n) :=
 okR [eR a09,eR (c0H n),eR (c0t n)] 19 Y4 [.tmp 8] Go.Proofs.Tryz.func78 (by kernel_rfl)
def c0P (n:Nat):Row I:=⟨38,[.d (.dat 33),.d (.dat 27),.d (.dat 56)],[.k (.d (.bool))],a59 n⟩
theorem a9g (n:Nat):RK (c0P n) :=
 okR [eR (b1n n),eR (a5H n),eR b5q,eR (c22 n)] 40 Y4 [.tmp 6] Go.Proofs.Tryz.func38 (by kernel_rfl)
def c02 (_:Nat):Hints I:=mkH [(6,[[],[0],[0,1],[0,1,2],[0,1,2,3],[0,1,2],[0,1,2,3,4,5],[0,1,2,3,4,5,6],[0,1,2],[0,1,2],[0,1,2,3,4,5,6,7,8,9],[0,1,2,3,4,5,6,7,8,9,10],[0,1,2,3,4,5,6,7,8,9,10,11]]),(8,[[],[0],[0,1],[0,1,2],[0,1,2,3],[0,1,2],[0,1,2,3,4,5],[0,1,2,3,4,5,6],[0,1,2],[0,1,2],[0,1,2,3,4,5,6,7,8,9],[0,1,2,3,4,5,6,7,8,9,10],[0,1,2,3,4,5,6,7,8,9,10,11]])] [] [] [] [] [] [] []
def b83 (n:Nat):Row I:=⟨57,[.d (.dat 33),.d (.dat 27),.d (.dat 83),.d (.int .i64),.d (.dat 56)],[.k (.d (.bool))],b5l n⟩
theorem b9Q (n:Nat):RK (b83 n) :=
 okR [eR a48,eR (a9g n)] 49 (c02 n) [.tmp 10] Go.Proofs.Tryz.func57 (by kernel_rfl)
def c0r (_:Nat):Hints I:=mkH [(4,[[],[0],[],[2],[0,1,2,3],[0,1,2,3,4],[0,1,2,3,4,5],[0,1,2,3,4,5],[0,1,2,3,4,5,6,7],[0,1,2,3,4,5,6,7,8],[0,1,2,3,4,5,6,7,8,9],[0,1,2,3,4,5,6,7,8,9,10],[0,1,2,3,4,5,6,7,8,9,10,11],[0,1,2,3,4,5,6,7,8,9,10,11,12],[0,1,2,3,4,5,6,7,8,9,10,11],[0,1,2,3,4,5,6,7,8,9,10,11,12,13,14],[0,1,2,3,4,5,6,7,8,9,10,11,12,13,14,15],[0,1,2,3,4,5,6,7,8,9,10,11],[0,1,2,3,4,5,6,7,8,9,10,11],[0,1,2,3,4,5,6,7,8,9,10,11,18],[0,1,2,3,4,5,6,7,8,9,10,11,12,13,14,15,16,17,18,19],[0,1,2,3,4,5,6,7,8,9,10,11,12,13,14,15,16,17,18,19,20]])] [] [] [] [(26,⟨4398046496512,[],[],[(14,.k (.d (.int .i64)))],[((.exit 0),[]),(.ret,[(8,.k (.d (.bool)))])],bnd tb (.slot 13) 1⟩)] [] [] []
def b73 (n:Nat):Row I:=⟨59,[.d (.dat 33),.d (.dat 27),.d (.sl 83),.d (.dat 85)],[.k (.d (.bool))],b50 n⟩
theorem b9T (n:Nat):RK (b73 n) :=
 okR [eR a1M,eR (a9g n)] 42 (c0r n) [.tmp 8] Go.Proofs.Tryz.func59 (by kernel_rfl)
def c04 (_:Nat):Hints I:=mkH [(12,[[],[],[],[],[3],[],[3,4,5],[3,4,5,6],[],[8],[],[8,9,10],[8,9,10,11],[0,1,2,3,4,5,6,7,8,9,10,11,12],[0,1,2,3,4,5,6,7,8,9,10,11,12,13]]),(18,[[],[0],[],[0,1,2],[0,1,2,3],[0,1,2,3,4],[0,1,2,3,4,5],[0,1,2,3,4,5,6],[0,1,2,3,4,5],[0,1,2,3,4,5,6,7,8],[0,1,2,3,4,5,6,7,8,9],[0,1,2,3,4,5],[0,1,2,3,4,5],[0,1,2,3,4,5,12],[0,1,2,3,4,5],[0,1,2,3,4,5,12,13,14],[0,1,2,3,4,5,12,13,14,15],[0,1,2,3,4,5,6,7,8,9,10,11,12,13,14,15,16],[0,1,2,3,4,5,6,7,8,9,10,11,12,13,14,15,16,17],[0,1,2,3,4,5,6,7,8,9,10,11,12,13,14,15,16,17,18]])] [] [] [] [(58,⟨35115652612416,[34],[],[(36,.k (.d (.int .i64)))],[((.exit 0),[]),(.ret,[(6,.k (.d (.bool)))])],bnd tb (.slot 35) 1⟩),
 (122,⟨590295528883728942656,[],[],[(48,.k (.d (.int .i64)))],[((.exit 2),[]),(.ret,[(6,.k (.d (.bool)))])],bnd tb (.slot 47) 1⟩),
 (250,⟨316912645334690867504530593856,[],[],[(72,.k (.d (.int .i64)))],[((.exit 4),[]),(.ret,[(6,.k (.d (.bool)))])],bnd tb (.slot 71) 1⟩),
 (506,⟨10382058415869198798257999252045888,[],[],[(101,.k (.d (.int .i64)))],[((.exit 6),[]),(.ret,[(6,.k (.d (.bool)))])],bnd tb (.slot 100) 1⟩)] [] [] []
def b76 (n:Nat):Row I:=⟨24,[.d (.dat 33),.d (.dat 27),.d (.dat 71)],[.k (.d (.bool))],b5g n⟩
theorem b9J (n:Nat):RK (b76 n) :=
 okR [eR (b1n n),eR (a5H n),eR b1m,eR c12,eR b5q,eR (b9Q n),eR a1M,eR (a9g n),eR (b9T n)] 113 (c04 n) [.tmp 6] Go.Proofs.Tryz.func24 (by kernel_rfl)
def b6n (_:Nat):Hints I:=mkH [(8,[[],[0],[0,1],[0,1],[0,1],[0,1],[0,1,4,5],[0,1,4,5,6],[0,1,2,3,4,5,6,7],[0,1,2,3,4,5,6,7,8],[0,1,2,3,4,5,6,7,8,9]])] [] [] [] [(506,⟨17591917609152,[2],[],[(6,.k (.d (.bool))),(7,.k (.d (.int .i64)))],[((.exit 0),[(6,.k (.d (.bool)))])],bnd tb (.len (.slot 2)) 1⟩)] [] [] []
noncomputable def b4t (n:Nat):Row I:=⟨18,[],[.k (.d (.bool))],a1p n⟩
theorem b47 (n:Nat):RK (b4t n) :=
 okR [eR (b2V n),eR a2m,eR a5z,eR (b9J n)] 53 (b6n n) [.tmp 0] Go.Proofs.Tryz.func18 (by kernel_rfl)
def b1D:Hints I:=mkH [(1,[[],[0],[0,1],[0,1,2],[0,1,2,3],[0,1,2,3,4],[0,1,2,3,4,5],[0,1,2],[0,1,2,7],[0,1,2,7,8],[0,1,2,7,8,9],[0,1,2,7,8,9,10],[0,1,2,3,4,5,6,7,8,9,10,11],[0,1,2,3,4,5,6,7,8,9,10,11,12]]),(3,[[],[0],[0,1],[0,1,2],[],[4],[4,5],[4,5,6],[0,1,2,3,4,5,6,7],[0,1,2,3,4,5,6,7,8],[],[0,1,2,3,4,5,6,7,8,9,10],[0,1,2,3,4,5,6,7,8,9,10,11]])] [] [] [] [] [] [] []
def b0w:Row I:=⟨22,[.var 44 (.k (.d (.dat 44))) true,.d (.int .i64)],[.k (.d (.int .i64))],z8⟩
theorem Z0:RK (b0w) :=
 okR [] 46 b1D [.tmp 4] Go.Proofs.Tryz.func22 (by kernel_rfl)
def a8M:Row I:=⟨99,[.var 44 (.k (.d (.dat 44))) true],[.k (.d (.str))],V6⟩
theorem a1c:RK (a8M) :=
 okR [eR Z0] 8 Y4 [.tmp 2] Go.Proofs.Tryz.func99 (by kernel_rfl)
def b0s:Row I:=⟨97,[.var 44 (.k (.d (.dat 44))) true],[.k (.d (.str))],a0e⟩
theorem a2b:RK (b0s) :=
 okR [eR Z0] 8 Y4 [.tmp 2] Go.Proofs.Tryz.func97 (by kernel_rfl)
def a9Q:Row I:=⟨130,[.var 44 (.k (.d (.dat 44))) true],[.k (.d (.str))],a0x⟩
theorem a6g:RK (a9Q) :=
 okR [eR Z0] 8 Y4 [.tmp 2] Go.Proofs.Tryz.func130 (by kernel_rfl)
def a9P:Hints I:=mkH [] [] [] [] [(28,⟨16776706,[],[(0,.k (.d (.dat 44)))],[(1,.k (.d (.int .i64))),(9,.k (.row 3 false))],[((.exit 0),[(9,.k (.row 3 false))])],bnd tb (.slot 1) 2⟩)] [] [] []
def a9n:Row I:=⟨131,[.var 44 (.k (.d (.dat 44))) true,.d (.int .i64),.d (.int .i64),.d (.int .i64)],[.k (.row 3 false)],w3⟩
theorem a9y:RK (a9n) :=
 okR [eR Z0] 25 a9P [.tmp 8] Go.Proofs.Tryz.func131 (by kernel_rfl)
def a9Z:Hints I:=mkH [(7,[[],[0],[],[],[2,3],[2,3,4],[],[],[6,7],[],[6,7,8,9],[6,7,8,9,10],[2,3,4,5,6,7,8,9,10,11],[2,3,4,5,6,7,8,9,10,11,12],[0,1,2,3,4,5,6,7,8,9,10,11,12,13],[0,1,2,3,4,5,6,7,8,9,10,11,12,13,14],[0,1,2,3,4,5,6,7,8,9,10,11,12,13,14,15]])] [] [] [(978,⟨8796076244992,[],[(0,.k (.d (.dat 44))),(5,.lvs [.d (.int .i64),.d (.int .i64),.d (.int .i64),.d (.str),.row 3 false,.row 101 false,.d (.int .i64),.d (.int .i64)])],[(.normal,[])]⟩)] [(122,⟨8796091973760,[6],[(0,.k (.d (.dat 44))),(5,.lvs [.d (.int .i64),.d (.int .i64),.d (.int .i64),.d (.str),.row 3 false,.row 101 false,.d (.int .i64),.d (.int .i64)])],[(7,.k (.d (.int .i64)))],[((.exit 0),[])],bnd tb (.cst 3) 1⟩)] [] [] []
def a8Y:Row I:=⟨132,[.var 44 (.k (.d (.dat 44))) true,.d (.int .i64)],[.k (.d (.dat 77))],a2c⟩
theorem a9v:RK (a8Y) :=
 okR [eR Z0] 44 a9Z [.cell 4 77] Go.Proofs.Tryz.func132 (by kernel_rfl)
def b1G:Hints I:=mkH [(8,[[],[],[0,1],[0,1,2],[],[],[],[],[7],[6,7,8],[5,6,7,8,9],[4,5,6,7,8,9,10],[4,5,6,7,8,9,10,11],[0,1,2,3,4,5,6,7,8,9,10,11,12],[0,1,2,3,4,5,6,7,8,9,10,11,12,13]])] [] [] [(29,⟨128,[],[],[(.normal,[(7,.k (.d (.int .i64)))])]⟩),
 (32243709,⟨47223664828696452136960,[],[],[(.normal,[(73,.k (.d (.bool)))])]⟩),
 (2063597565,⟨49517601571415210995964968960,[],[],[(.normal,[(93,.k (.d (.bool)))])]⟩)] [] [] [] []
def b0I:Row I:=⟨70,[.var 44 (.k (.d (.dat 44))) true,.d (.int .i64),.d (.int .i64)],[.k (.d (.dat 77))],a2U⟩
theorem b0S:RK (b0I) :=
 okR [eR Z0,eR a1c,eR a2b,eR a6g,eR a9y,eR a9v] 128 b1G [.cell 6 77] Go.Proofs.Tryz.func70 (by kernel_rfl)
def b1o:Hints I:=mkH [(6,[[],[0],[],[],[],[2,3,4],[2,3,4,5],[0,1,2,3,4,5,6],[0,1,2,3,4,5,6,7],[0,1,2,3,4,5,6,7,8]])] [] [] [] [(122,⟨16776256,[],[(0,.k (.d (.dat 44))),(5,.lvs [.row 77 false,.d (.int .i64)])],[(6,.k (.d (.int .i64)))],[((.exit 0),[])],bnd tb (.slot 1) 1⟩)] [] [] []
def b0q:Row I:=⟨33,[.var 44 (.k (.d (.dat 44))) true,.d (.int .i64)],[.lvs [.row 77 false,.d (.int .i64)]],a2V⟩
theorem b0R:RK (b0q) :=
 okR [eR b0S] 25 b1o [.cell 4 27] Go.Proofs.Tryz.func33 (by kernel_rfl)
def b7m:Hints I:=mkH [(14,[[],[0],[],[],[2,3],[2,3,4],[2,3,4,5],[],[],[7,8],[],[7,8,9,10],[7,8,9,10,11],[2,3,4,5,6,7,8,9,10,11,12],[2,3,4,5,6,7,8,9,10,11,12,13],[0,1,2,3,4,5,6,7,8,9,10,11,12,13,14],[0,1,2,3,4,5,6,7,8,9,10,11,12,13,14,15],[0,1,2,3,4,5,6,7,8,9,10,11,12,13,14,15,16]]),(21,[[],[],[0],[0,1,2]])] [] [] [(8146,⟨19807040628566084381206147072,[],[(7,.lvs [.row 77 false,.d (.int .i64)]),(8,.k (.d (.dat 44))),(9,.lvs [.d (.int .i64),.d (.int .i64),.row 277 false,.d (.bool),.row 9 false,.row 3 false,.row 3 false,.row 9 false,.row 9 false])],[(.normal,[])]⟩),
 (1042749,⟨19267255250108152471879680,[],[(9,.lvs [.d (.int .i64),.d (.int .i64),.row 277 false,.d (.bool),.row 9 false,.row 3 false,.row 3 false,.row 9 false,.row 9 false])],[(.normal,[])]⟩),
 (2085458,⟨73786905926094028800,[],[(8,.k (.d (.dat 44))),(12,.lvs [.d (.int .i64),.d (.int .i64),.d (.int .i64),.d (.str),.row 3 false,.row 101 false,.d (.int .i64),.d (.int .i64)])],[(.normal,[])]⟩)] [(1018,⟨19807040628566084397312276480,[],[(7,.lvs [.row 77 false,.d (.int .i64)]),(8,.k (.d (.dat 44))),(9,.lvs [.d (.int .i64),.d (.int .i64),.row 277 false,.d (.bool),.row 9 false,.row 3 false,.row 3 false,.row 9 false,.row 9 false])],[(11,.k (.d (.int .i64)))],[((.exit 0),[])],bnd tb (.cst 3) 1⟩),
 (260682,⟨73786971896791703552,[],[(8,.k (.d (.dat 44))),(12,.lvs [.d (.int .i64),.d (.int .i64),.d (.int .i64),.d (.str),.row 3 false,.row 101 false,.d (.int .i64),.d (.int .i64)])],[(13,.k (.d (.int .i64)))],[((.exit 2),[])],bnd tb (.cst 2) 1⟩)] [] [] []
def b5Z:Row I:=⟨19,[.d (.sl 3),.d (.sl 3)],[.k (.d (.dat 27)),.k (.d (.dat 40))],a5M⟩
theorem b6o:RK (b5Z) :=
 okR [eR Z0,eR b0R] 96 b7m [.cell 4 27,.cell 5 40] Go.Proofs.Tryz.func19 (by kernel_rfl)
def b72:Hints I:=mkH [(7,[[],[],[1],[0,1,2],[],[],[4,5],[0,1,2,3,4,5,6],[0,1,2,3,4,5,6,7]])] [] [] [] [(28,⟨2097056,[],[],[(5,.k (.d (.int .i64)))],[((.exit 0),[(5,.k (.d (.int .i64)))])],bnd tb (.len (.slot 0)) 1⟩)] [] [] []
def b63:Row I:=⟨207,[.d (.sl 3),.d (.int .i64)],[.k (.d (.sl 3))],a6p⟩
theorem b7Q:RK (b63) :=
 okR [] 46 b72 [.tmp 4] Go.Proofs.Tryz.func207 (by kernel_rfl)
def b7W:Hints I:=mkH [] [] [] [] [(58,⟨131064,[],[],[(3,.k (.d (.sl 3))),(4,.k (.d (.int .i64)))],[((.exit 0),[(3,.k (.d (.sl 3)))])],bnd tb (.len (.slot 0)) 1⟩)] [] [] []
def b65:Row I:=⟨159,[.d (.sl 3)],[.k (.d (.sl 3))],a4I⟩
theorem b7y:RK (b65) :=
 okR [eR b7Q] 18 b7W [.tmp 2] Go.Proofs.Tryz.func159 (by kernel_rfl)
def b6U:Hints I:=mkH [(1,[[],[0],[0,1],[],[3],[0,1,2,3,4],[],[6],[0,1,2,3,4,5,6,7],[0,1,2,3,4,5,6,7,8]])] [] [] [] [] [] [] []
def b4g:Row I:=⟨109,[.d (.dat 56)],[.k (.d (.dat 56))],a5o⟩
theorem b51:RK (b4g) :=
 okR [eR b7y] 12 b6U [.cell 2 56] Go.Proofs.Tryz.func109 (by kernel_rfl)
def b3f:Hints I:=mkH [(6,[[],[],[0,1],[0,1,2],[],[],[4,5],[4,5,6],[0,1,2,3,4,5,6,7]])] [] [] [] [(58,⟨67106864,[],[],[(5,.k (.d (.int .i64)))],[((.exit 0),[]),(.ret,[(4,.k (.d (.bool)))])],bnd tb (.len (.slot 0)) 1⟩)] [] [] []
def b1Q:Row I:=⟨158,[.d (.sl 3),.d (.sl 3)],[.k (.d (.bool))],a2i⟩
theorem b2C:RK (b1Q) :=
 okR [] 26 b3f [.tmp 4] Go.Proofs.Tryz.func158 (by kernel_rfl)
def b0X:Row I:=⟨108,[.d (.dat 56),.d (.dat 56)],[.k (.d (.bool))],a3m⟩
theorem b1s:RK (b0X) :=
 okR [eR b2C] 24 Y4 [.tmp 4] Go.Proofs.Tryz.func108 (by kernel_rfl)
def b5e:Row I:=⟨60,[.d (.dat 27),.d (.int .i64)],[.k (.d (.bool))],a0v⟩
theorem a6E:RK (b5e) :=
 okR [] 14 Y4 [.tmp 4] Go.Proofs.Tryz.func60 (by kernel_rfl)
def b5p:Hints I:=mkH [(1,[[],[0],[0,1],[],[3],[0,1,2,3,4],[0,1,2,3,4,5]]),(5,[[],[],[],[1,2],[1,2,3],[0,1,2,3,4],[0,1,2,3,4,5]])] [] [] [] [(58,⟨67100752,[5],[],[(6,.k (.d (.int .i64)))],[((.exit 0),[]),(.ret,[(4,.k (.d (.bool)))])],bnd tb (.len (.slot 5)) 1⟩)] [] [] []
def b3k:Row I:=⟨26,[.d (.dat 27),.d (.dat 56)],[.k (.d (.bool))],a27⟩
theorem a8a:RK (b3k) :=
 okR [eR a6E] 26 b5p [.tmp 4] Go.Proofs.Tryz.func26 (by kernel_rfl)
def b5Q:Hints I:=mkH [(1,[[],[],[1],[0,1,2],[0,1,2,3],[0,1,2,3,4],[0,1,2,3,4],[0,1,2,3,4,5,6],[0,1,2,3,4,5,6,7],[0,1,2,3,4,5,6,7,8]])] [] [] [] [] [] [] []
def b3o:Row I:=⟨50,[.d (.dat 27),.d (.dat 56)],[.k (.d (.bool))],a05⟩
theorem b4H:RK (b3o) :=
 okR [eR b51,eR b1s,eR a8a] 14 b5Q [.tmp 4] Go.Proofs.Tryz.func50 (by kernel_rfl)
def b6M:Hints I:=mkH [(4,[[],[],[0,1],[0,1,2],[],[0,1,2,3,4]])] [] [] [] [(26,⟨524272,[],[],[(5,.k (.d (.int .i64)))],[((.exit 0),[]),(.ret,[(4,.k (.d (.int .i64)))])],bnd tb (.len (.slot 0)) 1⟩)] [] [] []
def b4d:Row I:=⟨51,[.d (.sl 83),.d (.dat 83)],[.k (.d (.int .i64))],a0f⟩
theorem a8A:RK (b4d) :=
 okR [] 19 b6M [.tmp 4] Go.Proofs.Tryz.func51 (by kernel_rfl)
def b5n:Hints I:=mkH [(3,[[],[0],[0,1],[],[3],[0,1,2,3,4],[0,1,2,3,4,5]]),(7,[[],[0],[],[],[2,3],[2,3,4],[0,1,2,3,4,5],[0,1,2,3,4,5,6],[0,1,2,3,4,5,6,7],[0,1,2,3,4,5,6,7,8]]),(11,[[],[0],[],[],[2,3],[2,3,4],[2,3,4,5],[0,1,2,3,4,5,6],[0,1,2,3,4,5,6,7]]),(20,[[],[0],[],[],[2,3],[2,3,4],[0,1,2,3,4,5],[0,1,2,3,4,5,6],[0,1,2,3,4,5,6,7],[0,1,2,3,4,5,6,7,8]]),(24,[[],[0],[0,1],[0,1],[0,1,2,3],[0,1,2,3,4],[0,1,2,3,4,5],[0,1],[0,1,7],[0,1],[0,1,7,8,9],[0,1,7,8,9,10],[0,1,2,3,4,5,6,7,8,9,10,11],[0,1,2,3,4,5,6,7,8,9,10,11,12],[0,1,2,3,4,5,6,7,8,9,10,11,12,13]]),(26,[[],[0],[0,1],[0,1,2],[0,1,2,3],[0,1,2,3,4],[0,1,2,3,4,5],[0,1,2,3,4,5],[0,1,2,3,4,5,7],[0,1,2,3,4,5],[0,1,2,3,4,5,7,8,9],[0,1,2,3,4,5,7,8,9,10],[0,1,2,3,4,5,6,7,8,9,10,11],[0,1,2,3,4,5,6,7,8,9,10,11,12],[0,1,2,3,4,5,6,7,8,9,10,11,12,13],[0,1,2,3,4,5,6,7,8,9,10,11,12,13,14],[0,1,2,3,4,5,6,7,8,9,10,11,12,13,14,15],[0,1,2,3,4,5,6,7,8,9,10,11,12,13,14,15,16],[0,1,2,3,4,5,6,7,8,9,10,11,12,13,14,15,16,17],[0,1,2,3,4,5,6,7,8,9,10,11,12,13,14,15,16,17,18],[0,1,2,3,4,5,6,7,8,9,10,11,12,13,14,15,16,17,18,19],[0,1,2,3,4,5,6,7,8,9,10,11,12,13,14,15,16,17,18],[0,1,2,3,4,5,6,7,8,9,10,11,12,13,14,15,16,17,18,21],[0,1,2,3,4,5,6,7,8,9,10,11,12,13,14,15,16,17,18,19,20,21,22],[0,1,2,3,4,5,6,7,8,9,10,11,12,13,14,15,16,17,18,19,20,21,22,23],[0,1,2,3,4,5,6,7,8,9,10,11,12,13,14,15,16,17,18],[0,1,2,3,4,5,6,7,8,9,10,11,12,13,14,15,16,17,18,25],[0,1,2,3,4,5,6,7,8,9,10,11,12,13,14,15,16,17,18],[0,1,2,3,4,5,6,7,8,9,10,11,12,13,14,15,16,17,18,25,26,27],[0,1,2,3,4,5,6,7,8,9,10,11,12,13,14,15,16,17,18,25,26,27,28],[0,1,2,3,4,5,6,7,8,9,10,11,12,13,14,15,16,17,18,19,20,21,22,23,24,25,26,27,28,29],[0,1,2,3,4,5,6,7,8,9,10,11,12,13,14,15,16,17,18,19,20,21,22,23,24,25,26,27,28,29,30],[0,1,2,3,4,5,6,7,8,9,10,11,12,13,14,15,16,17,18,19,20,21,22,23,24,25,26,27,28,29,30,31],[0,1,2,3,4,5,6,7,8,9,10,11,12,13,14,15,16,17,18,19,20,21,22,23,24,25,26,27,28,29,30,31,32]]),(31,[[],[0],[],[0,1,2],[0,1,2,3],[0,1,2,3,4],[0,1,2,3,4,5],[0,1,2,3,4,5,6],[0,1,2,3,4,5,6,7],[0,1,2,3,4,5,6,7,8],[0,1,2,3,4,5,6,7],[0,1,2,3,4,5,6,7,8,9,10],[0,1,2,3,4,5,6,7,8,9,10,11],[0,1,2,3,4,5,6,7,8,9,10,11,12],[0,1,2,3,4,5,6,7,8,9,10,11,12,13],[0,1,2,3,4,5,6,7,8,9,10,11,12,13,14],[0,1,2,3,4,5,6,7,8,9,10,11,12,13,14,15],[0,1,2,3,4,5,6,7,8,9,10,11,12,13,14,15,16],[0,1,2,3,4,5,6,7,8,9,10,11,12,13,14,15,16],[0,1,2,3,4,5,6,7,8,9,10,11,12,13,14,15,16,18],[0,1,2,3,4,5,6,7,8,9,10,11,12,13,14,15,16],[0,1,2,3,4,5,6,7,8,9,10,11,12,13,14,15,16,18,19,20],[0,1,2,3,4,5,6,7,8,9,10,11,12,13,14,15,16,18,19,20,21],[0,1,2,3,4,5,6,7,8,9,10,11,12,13,14,15,16,18,19,20,21,22],[0,1,2,3,4,5,6,7,8,9,10,11,12,13,14,15,16,17,18,19,20,21,22,23],[0,1,2,3,4,5,6,7,8,9,10,11,12,13,14,15,16,17,18,19,20,21,22,23,24],[0,1,2,3,4,5,6,7,8,9,10,11,12,13,14,15,16,17,18,19,20,21,22,23,24,25]])] [] [] [] [(122,⟨77371252383278673143269184,[7],[],[(8,.k (.d (.int .i64)))],[((.exit 0),[]),(.ret,[(6,.k (.d (.bool)))])],bnd tb (.len (.slot 7)) 1⟩),
 (250,⟨100433627766186892221372630771322585286385231775157371140160,[],[],[(11,.k (.d (.int .i64)))],[((.exit 4),[]),(.ret,[(6,.k (.d (.bool)))])],bnd tb (.len (.ld 29 (.fld 71 0 (.slot 5)))) 1⟩),
 (506,⟨1725436586597207319092502073347883732341454580384958951679206503874624,[],[],[(17,.k (.d (.int .i64)))],[((.exit 10),[]),(.ret,[(6,.k (.d (.bool)))])],bnd tb (.len (.ld 69 (.fld 71 4 (.slot 5)))) 1⟩),
 (15654,⟨77368891272094832358589504,[],[],[(10,.k (.d (.int .i64)))],[((.exit 2),[]),(.ret,[(6,.k (.d (.bool)))])],bnd tb (.len (.slot 9)) 1⟩),
 (64074,⟨340282366911034943149091565232575279104,[],[],[(12,.k (.d (.bool))),(13,.k (.d (.int .i64)))],[((.exit 6),[(12,.k (.d (.bool)))])],bnd tb (.len (.slot 7)) 1⟩),
 (8201510,⟨340282042402384805036647824275747672064,[],[],[(12,.k (.d (.bool))),(15,.k (.d (.int .i64)))],[((.exit 8),[(12,.k (.d (.bool)))])],bnd tb (.len (.slot 14)) 1⟩)] [] [] []
def b3e:Row I:=⟨23,[.d (.dat 27),.d (.dat 40),.d (.dat 71)],[.k (.d (.bool))],a4Y⟩
theorem b4v:RK (b3e) :=
 okR [eR b4H,eR a8A,eR a0W] 230 b5n [.tmp 6] Go.Proofs.Tryz.func23 (by kernel_rfl)
def a9u:Row I:=⟨106,[.var 44 (.k (.d (.dat 44))) true],[.k (.d (.int .i64))],a2u⟩
theorem b0h:RK (a9u) :=
 okR [eR Z0] 8 Y4 [.tmp 2] Go.Proofs.Tryz.func106 (by kernel_rfl)
def b7o:Row I:=⟨95,[.d (.int .i64)],[.k (.d (.dat 33))],a89⟩
theorem b0M:RK (b7o) :=
 okR [] 5 Y4 [.cell 2 33] Go.Proofs.Tryz.func95 (by kernel_rfl)
def b6S:Row I:=⟨98,[.d (.str)],[.k (.d (.dat 33))],a6y⟩
theorem a9F:RK (b6S) :=
 okR [] 5 Y4 [.cell 2 33] Go.Proofs.Tryz.func98 (by kernel_rfl)
def b3Y:Row I:=⟨96,[.d (.str)],[.k (.d (.dat 33))],a5q⟩
theorem a8x:RK (b3Y) :=
 okR [] 5 Y4 [.cell 2 33] Go.Proofs.Tryz.func96 (by kernel_rfl)
def b7D:Row I:=⟨100,[.d (.int .i64)],[.k (.d (.dat 33))],a8Q⟩
theorem b0K:RK (b7D) :=
 okR [] 5 Y4 [.cell 2 33] Go.Proofs.Tryz.func100 (by kernel_rfl)
def b5S:Row I:=⟨107,[.d (.sl 33)],[.k (.d (.dat 33))],a4d⟩
theorem a9i:RK (b5S) :=
 okR [eR a8C] 6 Y4 [.cell 2 33] Go.Proofs.Tryz.func107 (by kernel_rfl)
def b0p:Row I:=⟨49,[.var 44 (.k (.d (.dat 44))) true],[.k (.d (.dat 33))],K8⟩
theorem a3Z:RK (b0p) :=
 okR [eR Z0,eR b0h,eR b0M,eR a1c,eR a9F,eR a2b,eR a8x,eR b0K,eR a2m,eR a9i] 29 Y4 [.cell 2 33] Go.Proofs.Tryz.func49 (by kernel_rfl)
def b5j:Row I:=⟨127,[.d (.int .i64),.d (.int .i64)],[.k (.d (.int .i64))],a0u⟩
theorem a9r:RK (b5j) :=
 okR [eR a6C] 8 Y4 [.tmp 4] Go.Proofs.Tryz.func127 (by kernel_rfl)
def b5s (_:Nat):Hints I:=mkH [(12,[[],[0],[],[0,1,2],[0,1,2,3],[],[5],[],[5,6,7],[5,6,7,8],[0,1,2,3,4,5,6,7,8,9],[0,1,2,3,4,5,6,7,8,9,10]]),(23,[[],[0],[],[0,1,2],[0,1,2,3],[],[5],[],[5,6,7],[5,6,7,8],[0,1,2,3,4,5,6,7,8,9],[0,1,2,3,4,5,6,7,8,9,10]]),(31,[[],[0],[],[0,1,2],[0,1,2,3],[],[5],[],[5,6,7],[5,6,7,8],[0,1,2,3,4,5,6,7,8,9],[0,1,2,3,4,5,6,7,8,9,10]])] [] [] [] [(506,⟨151115655394234608910448,[],[],[(5,.k (.d (.int .i64)))],[((.exit 0),[]),(.ret,[(4,.k (.d (.int .i64)))])],bnd tb (.len (.ld 29 (.fld 33 4 (.slot 2)))) 1⟩),
 (8186,⟨1329227361959615758789106311928742672,[],[],[(8,.k (.d (.int .i64)))],[((.exit 2),[]),(.ret,[(4,.k (.d (.int .i64)))])],bnd tb (.len (.ld 30 (.fld 33 5 (.slot 2)))) 1⟩),
 (32762,⟨45671904388519233253803489366408968731082361872,[],[],[(10,.k (.d (.int .i64)))],[((.exit 4),[]),(.ret,[(4,.k (.d (.int .i64)))])],bnd tb (.len (.ld 31 (.fld 33 6 (.slot 2)))) 1⟩)] [] [] []
def a0M (n:Nat):Row I:=⟨68,[.d (.dat 33),.d (.dat 33)],[.k (.d (.int .i64))],a0r n⟩
def b6s (_:Nat):Hints I:=mkH [(6,[[],[],[0,1],[0,1,2],[],[],[4,5],[4,5,6],[0,1,2,3,4,5,6,7],[0,1,2,3,4,5,6,7,8]])] [] [] [] [(58,⟨34359607408,[],[],[(5,.k (.d (.int .i64)))],[((.exit 0),[]),(.ret,[(4,.k (.d (.int .i64)))])],bnd tb (.len (.slot 0)) 1⟩)] [] [] []
def a1V (n:Nat):Row I:=⟨128,[.d (.sl 33),.d (.sl 33)],[.k (.d (.int .i64))],a3y n⟩
def W0 (n:Nat):Row I:=⟨129,[.d (.dat 138),.d (.dat 138)],[.k (.d (.int .i64))],Z9 n⟩
theorem b3c (n:Nat)(_:j6 Go.Proofs.Tryz.prog (a0M n))(h_semtyperef1_values:j6 Go.Proofs.Tryz.prog (a1V n))(h_semtyperef1_CompareEntries:j6 Go.Proofs.Tryz.prog (W0 n)):RK (a0M (n+1)) :=
 okR [eR a9r,eR a6C,eR a9C,eR a0W,eR h_semtyperef1_values,eR h_semtyperef1_CompareEntries] 155 (b5s n) [.tmp 4] Go.Proofs.Tryz.func68 (by kernel_rfl)
theorem b4L (n:Nat)(h_semtyperef1_Compare:j6 Go.Proofs.Tryz.prog (a0M n))(_:j6 Go.Proofs.Tryz.prog (a1V n))(_:j6 Go.Proofs.Tryz.prog (W0 n)):RK (a1V (n+1)) :=
 okR [eR a9r,eR h_semtyperef1_Compare] 35 (b6s n) [.tmp 4] Go.Proofs.Tryz.func128 (by kernel_rfl)
theorem a9f (n:Nat)(h_semtyperef1_Compare:j6 Go.Proofs.Tryz.prog (a0M n))(h_semtyperef1_values:j6 Go.Proofs.Tryz.prog (a1V n))(_:j6 Go.Proofs.Tryz.prog (W0 n)):RK (W0 (n+1)) :=
 okR [eR h_semtyperef1_values,eR h_semtyperef1_Compare] 26 Y4 [.tmp 4] Go.Proofs.Tryz.func129 (by kernel_rfl)
theorem a30:∀ n:Nat,j6 Go.Proofs.Tryz.prog (a0M n)/\j6 Go.Proofs.Tryz.prog (a1V n)/\j6 Go.Proofs.Tryz.prog (W0 n)
 | 0=>⟨Y2 (by kernel_rfl),Y2 (by kernel_rfl),Y2 (by kernel_rfl)⟩
 | n+1=>by
   obtain ⟨h0,h1,h2⟩:=a30 n
   exact ⟨b3c n h0 h1 h2,b4L n h0 h1 h2,a9f n h0 h1 h2⟩
theorem b4w (n:Nat):j6 Go.Proofs.Tryz.prog (a0M n):=(a30 n).1
theorem a5I (n:Nat):j6 Go.Proofs.Tryz.prog (W0 n):=(a30 n).2.2
def b5U (n:Nat):Row I:=⟨30,[.d (.dat 33),.d (.dat 33)],[.k (.d (.bool))],a02 n⟩
theorem a6A (n:Nat):RK (b5U n) :=
 okR [eR (b4w n)] 9 Y4 [.tmp 4] Go.Proofs.Tryz.func30 (by kernel_rfl)
def b45 (_:Nat):Hints I:=mkH [(6,[[],[],[1],[0,1,2],[0,1,2,3],[0,1,2,3,4],[0,1,2,3,4],[0,1,2,3,4,5,6],[0,1,2,3,4,5,6,7],[0,1,2,3,4],[0,1,2,3,4],[0,1,2,3,4,9,10],[0,1,2,3,4,9,10,11],[0,1,2,3,4,5,6,7,8,9,10,11,12],[0,1,2,3,4,5,6,7,8,9,10,11,12,13],[0,1,2,3,4,5,6,7,8,9,10,11,12,13,14]]),(8,[[],[],[1],[0,1,2],[0,1,2,3],[0,1,2,3,4],[0,1,2,3,4],[0,1,2,3,4,5,6],[0,1,2,3,4,5,6,7],[0,1,2,3,4],[0,1,2,3,4],[0,1,2,3,4,9,10],[0,1,2,3,4,9,10,11],[0,1,2,3,4,5,6,7,8,9,10,11,12],[0,1,2,3,4,5,6,7,8,9,10,11,12,13],[0,1,2,3,4,5,6,7,8,9,10,11,12,13,14]]),(10,[[],[],[],[1,2],[1,2,3],[1,2,3,4],[0,1,2,3,4,5],[],[],[7,8],[0,1,2,3,4,5,6,7,8,9],[0,1,2,3,4,5,6,7,8,9,10]])] [] [] [(466,⟨4611686018427379816,[],[],[(.normal,[(3,.k (.d (.sl 138)))])]⟩)] [(58,⟨4611686018427387896,[],[],[(3,.k (.d (.sl 138))),(4,.k (.d (.int .i64)))],[((.exit 0),[(3,.k (.d (.sl 138)))])],bnd tb (.len (.slot 0)) 1⟩),
 (7460,⟨2147475488,[3],[],[(5,.k (.d (.int .i64)))],[((.exit 2),[(5,.k (.d (.int .i64)))])],bnd tb (.len (.slot 3)) 1⟩)] [] [] []
def b3i (n:Nat):Row I:=⟨203,[.bor 138],[.k (.d (.sl 138))],a4V n⟩
theorem b4J (n:Nat):RK (b3i n) :=
 okR [eR (a5I n)] 63 (b45 n) [.tmp 2] Go.Proofs.Tryz.func203 (by kernel_rfl)
def b4B (_:Nat):Hints I:=mkH [] [] [] [] [(58,⟨70368744161376,[],[(4,.lvs [.d (.int .i64),.d (.int .i64),.d (.str),.row 33 false,.row 83 false,.row 138 false,.row 9 false])],[(6,.k (.d (.int .i64)))],[((.exit 0),[]),(.ret,[(5,.k (.d (.int .i64)))])],bnd tb (.len (.slot 1)) 1⟩)] [] [] []
def b2p (n:Nat):Row I:=⟨155,[.d (.int .i64),.bor 138],[.k (.d (.dat 33)),.k (.d (.int .i64))],a2G n⟩
theorem a7O (n:Nat):RK (b2p n) :=
 okR [eR (a6A n),eR (b4J n)] 50 (b4B n) [.cell 4 33,.tmp 5] Go.Proofs.Tryz.func155 (by kernel_rfl)
def b57:Hints I:=mkH [(6,[[],[],[1],[0,1,2],[0,1,2,3],[0,1,2,3,4],[0,1,2,3,4],[0,1,2,3,4,5,6],[0,1,2,3,4,5,6,7],[0,1,2,3,4],[0,1,2,3,4],[0,1,2,3,4,9,10],[0,1,2,3,4,9,10,11],[0,1,2,3,4,5,6,7,8,9,10,11,12],[0,1,2,3,4,5,6,7,8,9,10,11,12,13]]),(8,[[],[],[1],[0,1,2],[0,1,2,3],[0,1,2,3,4],[0,1,2,3,4],[0,1,2,3,4,5,6],[0,1,2,3,4,5,6,7],[0,1,2,3,4],[0,1,2,3,4],[0,1,2,3,4,9,10],[0,1,2,3,4,9,10,11],[0,1,2,3,4,5,6,7,8,9,10,11,12],[0,1,2,3,4,5,6,7,8,9,10,11,12,13]]),(10,[[],[],[],[1,2],[1,2,3],[1,2,3,4],[0,1,2,3,4,5],[],[],[7,8],[0,1,2,3,4,5,6,7,8,9],[0,1,2,3,4,5,6,7,8,9,10]])] [] [] [(466,⟨1152921504606838888,[],[],[(.normal,[(3,.k (.d (.sl 9)))])]⟩)] [(58,⟨1152921504606846968,[],[],[(3,.k (.d (.sl 9))),(4,.k (.d (.int .i64)))],[((.exit 0),[(3,.k (.d (.sl 9)))])],bnd tb (.len (.slot 0)) 1⟩),
 (7460,⟨1073733664,[3],[],[(5,.k (.d (.int .i64)))],[((.exit 2),[(5,.k (.d (.int .i64)))])],bnd tb (.len (.slot 3)) 1⟩)] [] [] []
def b36:Row I:=⟨103,[.d (.sl 9)],[.k (.d (.sl 9))],a0g⟩
theorem a54:RK (b36) :=
 okR [] 61 b57 [.tmp 2] Go.Proofs.Tryz.func103 (by kernel_rfl)
def b0V:Row I:=⟨104,[.d (.dat 33),.d (.sl 9)],[.k (.d (.dat 33))],a5E⟩
theorem b1P:RK (b0V) :=
 okR [eR a54] 9 Y4 [.cell 4 33] Go.Proofs.Tryz.func104 (by kernel_rfl)
def b6f:Row I:=⟨204,[.d (.dat 33),.d (.dat 33)],[.k (.d (.dat 33))],a6m⟩
theorem b7M:RK (b6f) :=
 okR [] 9 Y4 [.cell 4 33] Go.Proofs.Tryz.func204 (by kernel_rfl)
def b0B:Hints I:=mkH [] [] [] [(29,⟨1048456,[],[(0,.k (.d (.dat 44)))],[(.normal,[(3,.k (.row 9 false))])]⟩)] [] [] [] []
def a9w:Row I:=⟨157,[.var 44 (.k (.d (.dat 44))) true],[.k (.d (.sl 9))],a1g⟩
theorem a5V:RK (a9w) :=
 okR [eR Z0,eR a6g,eR a54] 22 b0B [.tmp 2] Go.Proofs.Tryz.func157 (by kernel_rfl)
def b1e:Row I:=⟨205,[.var 44 (.k (.d (.dat 44))) true],[.k (.d (.dat 83))],a3t⟩
theorem b1w:RK (b1e) :=
 okR [eR Z0,eR a1c,eR a2b] 12 Y4 [.cell 2 83] Go.Proofs.Tryz.func205 (by kernel_rfl)
def X5 (n:Nat):Row I:=⟨105,[.var 44 (.k (.d (.dat 44))) true,.d (.int .i64)],[.k (.d (.dat 33))],a2H n⟩
def b06 (_:Nat):Hints I:=mkH [(16,[[],[],[1],[0,1,2],[],[0,1,2,3,4],[0,1,2,3,4,5]])] [(13,[46])] [] [(29,⟨5316911983139663491615228241104863200,[],[(0,.k (.d (.dat 44))),(4,.lvs [.d (.int .i64),.d (.int .i64),.d (.str),.d (.sl 33),.d (.sl 83),.d (.sl 138),.d (.sl 9)])],[(.normal,[]),(.ret,[])]⟩),
 (7540,⟨2234207627640832,[],[(0,.k (.d (.dat 44)))],[(.normal,[(50,.k (.d (.bool)))])]⟩),
 (7541,⟨141863388262170624,[],[(0,.k (.d (.dat 44))),(7,.k (.d (.dat 33)))],[(.normal,[])]⟩)] [(3754,⟨549487378528,[],[(0,.k (.d (.dat 44)))],[(5,.k (.row 33 false)),(6,.k (.d (.int .i64)))],[((.exit 1),[(5,.k (.row 33 false))])],bnd tb (.slot 6) 2⟩),
 (120794,⟨77370071863715549769893632,[],[(0,.k (.d (.dat 44)))],[(8,.k (.row 83 false)),(9,.k (.row 33 false)),(10,.k (.d (.int .i64)))],[((.exit 3),[(8,.k (.row 83 false)),(9,.k (.row 33 false))])],bnd tb (.slot 10) 2⟩),
 (483290,⟨10382058415869198798257999252078592,[],[(0,.k (.d (.dat 44)))],[(14,.k (.row 138 false)),(15,.k (.d (.int .i64)))],[((.exit 5),[(14,.k (.row 138 false))])],bnd tb (.slot 15) 2⟩)] [] [] []
def a0y (n:Nat):Row I:=⟨156,[.var 44 (.k (.d (.dat 44))) true,.d (.int .i64)],[.k (.d (.dat 33))],b2H n⟩
def b1j (_:Nat):Hints I:=mkH [(4,[[],[0],[],[],[2,3],[2,3,4],[0,1,2,3,4,5],[0,1,2,3,4,5,6],[0,1,2,3,4,5,6,7]])] [] [] [] [(28,⟨1048322,[],[(0,.k (.d (.dat 44))),(7,.lvs [.row 33 false,.d (.bool),.d (.int .i64),.d (.int .i64),.d (.str),.row 33 false,.row 83 false,.row 138 false,.row 9 false])],[(1,.k (.d (.int .i64)))],[((.exit 0),[])],bnd tb (.slot 1) 2⟩)] [] [] []
def a0C (n:Nat):Row I:=⟨206,[.var 44 (.k (.d (.dat 44))) true,.d (.int .i64),.d (.int .i64)],[.k (.d (.dat 138))],b2X n⟩
theorem a9H (n:Nat)(_:j6 Go.Proofs.Tryz.prog (X5 n))(h_semtypebase_Source_value:j6 Go.Proofs.Tryz.prog (a0y n))(_:j6 Go.Proofs.Tryz.prog (a0C n)):RK (X5 (n+1)) :=
 okR [eR h_semtypebase_Source_value,eR a5V] 13 Y4 [.cell 4 33] Go.Proofs.Tryz.func105 (by kernel_rfl)
theorem a9I (n:Nat)(h_semtypebase_Source_Value:j6 Go.Proofs.Tryz.prog (X5 n))(_:j6 Go.Proofs.Tryz.prog (a0y n))(h_semtypebase_Source_entry:j6 Go.Proofs.Tryz.prog (a0C n)):RK (a0y (n+1)) :=
 okR [eR a3Z,eR Z0,eR h_semtypebase_Source_Value,eR a9i,eR a2m,eR b7M,eR a5V,eR b1w,eR a5z,eR h_semtypebase_Source_entry,eR (a7O n)] 124 (b06 n) [.cell 4 33] Go.Proofs.Tryz.func156 (by kernel_rfl)
theorem a9T (n:Nat)(h_semtypebase_Source_Value:j6 Go.Proofs.Tryz.prog (X5 n))(_:j6 Go.Proofs.Tryz.prog (a0y n))(_:j6 Go.Proofs.Tryz.prog (a0C n)):RK (a0C (n+1)) :=
 okR [eR h_semtypebase_Source_Value,eR Z0] 30 (b1j n) [.cell 6 138] Go.Proofs.Tryz.func206 (by kernel_rfl)
theorem a47:∀ n:Nat,j6 Go.Proofs.Tryz.prog (X5 n)/\j6 Go.Proofs.Tryz.prog (a0y n)/\j6 Go.Proofs.Tryz.prog (a0C n)
 | 0=>⟨Y2 (by kernel_rfl),Y2 (by kernel_rfl),Y2 (by kernel_rfl)⟩
 | n+1=>by
   obtain ⟨h0,h1,h2⟩:=a47 n
   exact ⟨a9H n h0 h1 h2,a9I n h0 h1 h2,a9T n h0 h1 h2⟩
theorem b0N (n:Nat):j6 Go.Proofs.Tryz.prog (X5 n):=(a47 n).1
def b5G:Row I:=⟨185,[.d (.int .u8)],[.k (.d (.bool))],a35⟩
theorem b68:RK (b5G) :=
 okR [] 9 Y4 [.tmp 2] Go.Proofs.Tryz.func185 (by kernel_rfl)
def b2G:Hints I:=mkH [] [] [] [] [(58,⟨562949953159180,[],[],[(3,.k (.d (.int .i64)))],[((.exit 0),[]),(.ret,[(2,.k (.d (.bool)))])],bnd tb (.len (.slot 0)) 1⟩)] [] [] []
def b0W:Row I:=⟨144,[.d (.str)],[.k (.d (.bool))],a1Z⟩
theorem a62:RK (b0W) :=
 okR [eR b68,eR a9k,eR a84] 49 b2G [.tmp 2] Go.Proofs.Tryz.func144 (by kernel_rfl)
def b8v (_:Nat):Hints I:=mkH [(4,[[],[0],[],[0,1,2],[0,1,2,3],[0,1,2,3,4],[0,1,2,3,4,5],[0,1,2,3,4,5,6],[0,1,2,3,4,5,6,7],[0,1,2,3,4,5,6,7,8],[0,1,2,3,4,5,6,7,8,9],[0,1,2,3,4,5,6,7,8,9,10],[0,1,2,3,4,5,6,7,8,9,10,11],[0,1,2,3,4,5,6,7,8,9,10],[0,1,2,3,4,5,6,7,8,9,10,13],[0,1,2,3,4,5,6,7,8,9,10,11,12,13,14],[0,1,2,3,4,5,6,7,8,9,10,11,12,13,14,15],[0,1,2,3,4,5,6,7,8,9,10],[0,1,2,3,4,5,6,7,8,9,10,17],[0,1,2,3,4,5,6,7,8,9,10],[0,1,2,3,4,5,6,7,8,9,10,17,18,19],[0,1,2,3,4,5,6,7,8,9,10,17,18,19,20],[0,1,2,3,4,5,6,7,8,9,10,11,12,13,14,15,16,17,18,19,20,21],[0,1,2,3,4,5,6,7,8,9,10,11,12,13,14,15,16,17,18,19,20,21,22],[0,1,2,3,4,5,6,7,8,9,10,11,12,13,14,15,16,17,18,19,20,21,22,23]]),(29,[[],[0],[],[0,1,2],[0,1,2,3],[0,1,2,3,4],[0,1,2,3,4,5],[0,1,2,3,4,5,6],[0,1,2,3,4,5,6,7],[0,1,2,3,4,5,6,7,8],[0,1,2,3,4,5,6,7,8,9],[0,1,2,3,4,5,6,7,8,9,10],[0,1,2,3,4,5,6,7,8,9,10,11],[0,1,2,3,4,5,6,7,8,9,10],[0,1,2,3,4,5,6,7,8,9,10,13],[0,1,2,3,4,5,6,7,8,9,10,11,12,13,14],[0,1,2,3,4,5,6,7,8,9,10,11,12,13,14,15],[0,1,2,3,4,5,6,7,8,9,10],[0,1,2,3,4,5,6,7,8,9,10,17],[0,1,2,3,4,5,6,7,8,9,10],[0,1,2,3,4,5,6,7,8,9,10,17,18,19],[0,1,2,3,4,5,6,7,8,9,10,17,18,19,20],[0,1,2,3,4,5,6,7,8,9,10,11,12,13,14,15,16,17,18,19,20,21],[0,1,2,3,4,5,6,7,8,9,10,11,12,13,14,15,16,17,18,19,20,21,22],[0,1,2,3,4,5,6,7,8,9,10,11,12,13,14,15,16,17,18,19,20,21,22,23],[0,1,2,3,4,5,6,7,8,9,10,11,12,13,14,15,16,17,18,19,20,21,22,23,24]]),(39,[[],[0],[0,1],[],[3],[0,1,2,3,4],[0,1,2,3,4,5],[0,1,2,3,4,5,6],[0,1,2,3,4,5,6,7],[0,1,2,3,4,5,6,7,8],[0,1,2,3,4,5,6,7,8,9],[0,1,2,3,4,5,6,7,8,9,10],[0,1,2,3,4,5,6,7,8,9],[0,1,2,3,4,5,6,7,8,9,10,11,12],[0,1,2,3,4,5,6,7,8,9,10,11,12,13],[0,1,2,3,4,5,6,7,8,9,10,11,12,13,14],[0,1,2,3,4,5,6,7,8,9,10,11,12,13,14,15],[0,1,2,3,4,5,6,7,8,9,10,11,12,13,14,15,16],[0,1,2,3,4,5,6,7,8,9,10,11,12,13,14,15,16,17],[0,1,2,3,4,5,6,7,8,9,10,11,12,13,14,15,16,17,18],[0,1,2,3,4,5,6,7,8,9,10,11,12,13,14,15,16,17,18,19],[0,1,2,3,4,5,6,7,8,9,10,11,12,13,14,15,16,17,18,19,20],[0,1,2,3,4,5,6,7,8,9,10,11,12,13,14,15,16,17,18,19,20,21],[0,1,2,3,4,5,6,7,8,9,10,11,12,13,14,15,16,17,18,19,20],[0,1,2,3,4,5,6,7,8,9,10,11,12,13,14,15,16,17,18,19,20,23],[0,1,2,3,4,5,6,7,8,9,10,11,12,13,14,15,16,17,18,19,20,21,22,23,24],[0,1,2,3,4,5,6,7,8,9,10,11,12,13,14,15,16,17,18,19,20,21,22,23,24,25],[0,1,2,3,4,5,6,7,8,9,10,11,12,13,14,15,16,17,18,19,20],[0,1,2,3,4,5,6,7,8,9,10,11,12,13,14,15,16,17,18,19,20,21,22,23,24,25,26,27],[0,1,2,3,4,5,6,7,8,9,10,11,12,13,14,15,16,17,18,19,20,21,22,23,24,25,26,27,28],[0,1,2,3,4,5,6,7,8,9,10,11,12,13,14,15,16,17,18,19,20,21,22,23,24,25,26,27,28,29],[0,1,2,3,4,5,6,7,8,9,10,11,12,13,14,15,16,17,18,19,20,21,22,23,24,25,26,27,28,29,30]])] [] [] [(4073,⟨425352958651173079329218259289710264320,[],[],[(.normal,[(126,.k (.d (.bool)))])]⟩)] [(26,⟨4398046510092,[],[],[(3,.k (.d (.int .i64)))],[((.exit 0),[]),(.ret,[(2,.k (.d (.bool)))])],bnd tb (.len (.ld 31 (.fld 33 6 (.slot 1)))) 1⟩),
 (133562354,⟨411376139282411024886683268815639281647236804420309368268914820,[],[],[(7,.k (.d (.int .i64)))],[((.exit 3),[]),(.ret,[(2,.k (.d (.bool)))])],bnd tb (.len (.ld 29 (.fld 33 4 (.slot 1)))) 1⟩),
 (1068498922,⟨948568795032040353016559207911582007103813675119580226322391447047862150789858052,[],[],[(8,.k (.d (.int .i64)))],[((.exit 5),[]),(.ret,[(2,.k (.d (.bool)))])],bnd tb (.len (.ld 30 (.fld 33 5 (.slot 1)))) 1⟩)] [] [] []
def b6k (n:Nat):Row I:=⟨79,[.d (.dat 33)],[.k (.d (.bool))],a6u n⟩
theorem b7q (n:Nat):RK (b6k n) :=
 okR [eR a62,eR a57,eR a5c,eR a0W,eR (a6A n),eR (a5I n)] 269 (b8v n) [.tmp 2] Go.Proofs.Tryz.func79 (by kernel_rfl)
def b7G (_:Nat):Hints I:=mkH [] [] [] [] [(58,⟨16776204,[],[],[(3,.k (.d (.int .i64)))],[((.exit 0),[]),(.ret,[(2,.k (.d (.bool)))])],bnd tb (.len (.ld 28 (.fld 33 3 (.slot 1)))) 1⟩),
 (122,⟨576460752286646388,[],[],[(4,.k (.d (.int .i64)))],[((.exit 2),[]),(.ret,[(2,.k (.d (.bool)))])],bnd tb (.len (.ld 30 (.fld 33 5 (.slot 1)))) 1⟩),
 (31306,⟨1125831187365956,[],[],[(6,.k (.d (.int .i64)))],[((.exit 4),[]),(.ret,[(2,.k (.d (.bool)))])],bnd tb (.len (.ld 28 (.fld 138 0 (.slot 5)))) 1⟩)] [] [] []
def a52 (n:Nat):Row I:=⟨39,[.d (.dat 33)],[.k (.d (.bool))],a0d n⟩
theorem b5c (n:Nat)(h_semtyperef1_Valid:j6 Go.Proofs.Tryz.prog (a52 n)):RK (a52 (n+1)) :=
 okR [eR (b7q n),eR h_semtyperef1_Valid] 59 (b7G n) [.tmp 2] Go.Proofs.Tryz.func39 (by kernel_rfl)
theorem a6v:∀ n:Nat,j6 Go.Proofs.Tryz.prog (a52 n)
 | 0=>Y2 (by kernel_rfl)
 | n+1=>b5c n (a6v n)
def V5 (n:Nat):Row I:=⟨21,[.var 44 (.k (.d (.dat 44))) true,.d (.dat 27),.d (.int .i64),.d (.int .i64)],[.k (.d (.dat 33))],a20 n⟩
def b1M (_:Nat):Hints I:=mkH [(7,[[],[0],[],[2],[],[4],[],[6],[6,7],[],[9],[9,10],[6,7,8,9,10,11],[4,5,6,7,8,9,10,11,12],[0,1,2,3,4,5,6,7,8,9,10,11,12,13],[],[15],[0,1,2,3,4,5,6,7,8,9,10,11,12,13,14,15,16],[0,1,2,3,4,5,6,7,8,9,10,11,12,13,14,15,16,17],[0,1,2,3,4,5,6,7,8,9,10,11,12,13,14,15,16,17,18],[0,1,2,3,4,5,6,7,8,9,10,11,12,13,14,15,16,17,18,19]]),(25,[[],[0],[],[],[],[4],[],[4,5,6],[4,5,6,7],[],[9],[2,3,4,5,6,7,8,9,10],[2,3,4,5,6,7,8,9,10,11],[0,1,2,3,4,5,6,7,8,9,10,11,12],[0,1,2,3,4,5,6,7,8,9,10,11,12,13],[0,1,2,3,4,5,6,7,8,9,10,11,12,13,14]]),(30,[[],[0],[],[0,1,2],[0,1,2,3]]),(37,[[],[],[],[2],[],[],[5],[5,6],[4,5,6,7],[2,3,4,5,6,7,8],[2,3,4,5,6,7,8,9],[],[0,1,2,3,4,5,6,7,8,9,10,11],[0,1,2,3,4,5,6,7,8,9,10,11,12]]),(39,[[],[],[],[2],[],[],[5],[5,6],[4,5,6,7],[2,3,4,5,6,7,8],[2,3,4,5,6,7,8,9],[],[0,1,2,3,4,5,6,7,8,9,10,11],[0,1,2,3,4,5,6,7,8,9,10,11,12]]),(43,[[],[0],[],[2],[],[2,3,4],[2,3,4,5],[0,1,2,3,4,5,6],[0,1,2,3,4,5,6,7],[0,1,2,3,4,5,6,7,8],[0,1,2,3,4,5,6,7,8,9]]),(44,[[],[0],[0,1],[],[3],[],[5],[],[5,6,7],[5,6,7,8],[3,4,5,6,7,8,9],[3,4,5,6,7,8,9,10],[3,4,5,6,7,8,9,10,11],[3,4,5,6,7,8,9,10,11,12],[0,1,2,3,4,5,6,7,8,9,10,11,12,13],[0,1,2,3,4,5,6,7,8,9,10,11,12,13,14],[0,1,2,3,4,5,6,7,8,9,10,11,12,13,14,15],[0,1,2,3,4,5,6,7,8,9,10,11,12,13,14,15,16]]),(47,[[],[0],[],[2],[2,3],[0,1,2,3,4],[0,1,2,3,4,5]])] [] [] [(16449533,⟨386856262276681335905976320,[],[],[(.normal,[(86,.k (.d (.bool)))])]⟩),
 (263192557,⟨85029053355366337244815407887308292096,[],[(10,.lvs [.d (.int .i64),.d (.int .i64),.d (.str),.row 33 false,.row 83 false,.row 138 false,.row 9 false])],[(.normal,[])]⟩),
 (539018395474,⟨102844034449451492418213359320247649773843695697413960913387520,[],[(10,.k (.d (.dat 33)))],[(.normal,[])]⟩)] [(131596274,⟨2596147810297394171575110715049984,[],[(0,.k (.d (.dat 44))),(10,.lvs [.d (.int .i64),.d (.int .i64),.d (.str),.row 33 false,.row 83 false,.row 138 false,.row 9 false])],[(11,.k (.d (.int .i64)))],[((.exit 1),[])],bnd tb (.len (.ld 22 (.fld 77 4 (.slot 9)))) 1⟩),
 (67377299434,⟨102844034829582222281431884733353260024018043977843391611277312,[],[(10,.k (.d (.dat 33)))],[(12,.k (.d (.int .i64)))],[((.exit 3),[])],bnd tb (.len (.ld 22 (.fld 77 4 (.slot 9)))) 1⟩)] [] [] []
def a0c (n:Nat):Row I:=⟨48,[.var 44 (.k (.d (.dat 44))) true,.d (.dat 27),.d (.int .i64),.d (.int .i64)],[.k (.d (.dat 33))],b3l n⟩
def a8c (_:Nat):Hints I:=mkH [(10,[[],[0],[],[],[],[4],[],[4,5,6],[4,5,6,7],[],[9],[2,3,4,5,6,7,8,9,10],[2,3,4,5,6,7,8,9,10,11],[0,1,2,3,4,5,6,7,8,9,10,11,12],[0,1,2,3,4,5,6,7,8,9,10,11,12,13],[0,1,2,3,4,5,6,7,8,9,10,11,12,13,14]]),(13,[[],[],[],[2],[],[2,3,4],[2,3,4,5],[],[7],[0,1,2,3,4,5,6,7,8],[0,1,2,3,4,5,6,7,8,9],[0,1,2,3,4,5,6,7,8,9,10]])] [] [] [(31309,⟨2305280059260272640,[],[(0,.k (.d (.dat 44))),(12,.lvs [.row 33 false,.d (.bool),.d (.int .i64),.d (.int .i64),.d (.str),.d (.sl 33),.d (.sl 83),.d (.sl 138),.d (.sl 9)])],[(.normal,[])]⟩)] [(122,⟨36893488147414923776,[],[(0,.k (.d (.dat 44)))],[(9,.k (.row 138 false)),(11,.k (.d (.int .i64)))],[((.exit 0),[(9,.k (.row 138 false))])],bnd tb (.slot 11) 2⟩),
 (31306,⟨70368677076992,[],[(0,.k (.d (.dat 44))),(12,.lvs [.row 33 false,.d (.bool),.d (.int .i64),.d (.int .i64),.d (.str),.row 33 false,.row 83 false,.row 138 false,.row 9 false])],[(13,.k (.d (.int .i64)))],[((.exit 2),[])],bnd tb (.slot 10) 1⟩)] [] [] []
def K0 (n:Nat):Row I:=⟨102,[.var 44 (.k (.d (.dat 44))) true,.d (.dat 27),.d (.dat 77),.d (.int .i64)],[.k (.d (.dat 33))],a8L n⟩
def b0j (_:Nat):Hints I:=mkH [(8,[[],[],[],[],[3],[],[3,4,5],[3,4,5,6],[3,4,5,6,7],[],[9],[1,2,3,4,5,6,7,8,9,10],[1,2,3,4,5,6,7,8,9,10,11],[0,1,2,3,4,5,6,7,8,9,10,11,12],[0,1,2,3,4,5,6,7,8,9,10,11,12,13]]),(12,[[],[],[],[],[3],[],[3,4,5],[3,4,5,6],[],[8],[1,2,3,4,5,6,7,8,9],[1,2,3,4,5,6,7,8,9,10],[0,1,2,3,4,5,6,7,8,9,10,11],[0,1,2,3,4,5,6,7,8,9,10,11,12]])] [(6,[28])] [] [(125,⟨604462333346562283935232,[],[(0,.k (.d (.dat 44)))],[(.normal,[(9,.k (.row 83 false)),(10,.k (.row 33 false))])]⟩),
 (978,⟨72057594033735168,[],[(0,.k (.d (.dat 44)))],[(.normal,[(9,.k (.row 83 false)),(10,.k (.row 33 false))])]⟩),
 (7824,⟨8585740288,[],[(0,.k (.d (.dat 44)))],[(.normal,[(32,.k (.d (.bool)))])]⟩)] [(122,⟨72057594037898752,[],[(0,.k (.d (.dat 44)))],[(9,.k (.row 83 false)),(10,.k (.row 33 false)),(11,.k (.d (.int .i64)))],[((.exit 0),[(9,.k (.row 83 false)),(10,.k (.row 33 false))])],bnd tb (.len (.ld 74 (.fld 77 5 (.slot 6)))) 1⟩)] [] [] []
def W1 (n:Nat):Row I:=⟨101,[.var 44 (.k (.d (.dat 44))) true,.d (.dat 27),.d (.dat 77),.d (.int .i64)],[.k (.d (.dat 33))],b1b n⟩
theorem b0L (n:Nat)(_:j6 Go.Proofs.Tryz.prog (V5 n))(h_semtypebase_Source_near:j6 Go.Proofs.Tryz.prog (a0c n))(_:j6 Go.Proofs.Tryz.prog (K0 n))(_:j6 Go.Proofs.Tryz.prog (W1 n)):RK (V5 (n+1)) :=
 okR [eR h_semtypebase_Source_near,eR (a6v n),eR a3Z] 21 Y4 [.cell 8 33] Go.Proofs.Tryz.func21 (by kernel_rfl)
theorem b0v (n:Nat)(h_semtypebase_Source_Near:j6 Go.Proofs.Tryz.prog (V5 n))(h_semtypebase_Source_near:j6 Go.Proofs.Tryz.prog (a0c n))(h_semtypebase_Source_nearFunction:j6 Go.Proofs.Tryz.prog (K0 n))(h_semtypebase_Source_nearMap:j6 Go.Proofs.Tryz.prog (W1 n)):RK (a0c (n+1)) :=
 okR [eR a3Z,eR Z0,eR b0M,eR a8x,eR a2b,eR a9F,eR a1c,eR b0K,eR a2m,eR h_semtypebase_Source_Near,eR h_semtypebase_Source_nearMap,eR h_semtypebase_Source_nearFunction,eR h_semtypebase_Source_near,eR a54,eR b1P,eR (b0N n)] 217 (b1M n) [.cell 8 33] Go.Proofs.Tryz.func48 (by kernel_rfl)
theorem a7D (n:Nat)(h_semtypebase_Source_Near:j6 Go.Proofs.Tryz.prog (V5 n))(_:j6 Go.Proofs.Tryz.prog (a0c n))(_:j6 Go.Proofs.Tryz.prog (K0 n))(_:j6 Go.Proofs.Tryz.prog (W1 n)):RK (K0 (n+1)) :=
 okR [eR Z0,eR h_semtypebase_Source_Near,eR (a7O n),eR a2m] 75 (a8c n) [.cell 8 33] Go.Proofs.Tryz.func102 (by kernel_rfl)
theorem a8X (n:Nat)(h_semtypebase_Source_Near:j6 Go.Proofs.Tryz.prog (V5 n))(_:j6 Go.Proofs.Tryz.prog (a0c n))(_:j6 Go.Proofs.Tryz.prog (K0 n))(_:j6 Go.Proofs.Tryz.prog (W1 n)):RK (W1 (n+1)) :=
 okR [eR Z0,eR h_semtypebase_Source_Near,eR a5z,eR a2m] 89 (b0j n) [.cell 8 33] Go.Proofs.Tryz.func101 (by kernel_rfl)
theorem a5x:∀ n:Nat,j6 Go.Proofs.Tryz.prog (V5 n)/\j6 Go.Proofs.Tryz.prog (a0c n)/\j6 Go.Proofs.Tryz.prog (K0 n)/\j6 Go.Proofs.Tryz.prog (W1 n)
 | 0=>⟨Y2 (by kernel_rfl),Y2 (by kernel_rfl),Y2 (by kernel_rfl),Y2 (by kernel_rfl)⟩
 | n+1=>by
   obtain ⟨h0,h1,h2,h3⟩:=a5x n
   exact ⟨b0L n h0 h1 h2 h3,b0v n h0 h1 h2 h3,a7D n h0 h1 h2 h3,a8X n h0 h1 h2 h3⟩
theorem b02 (n:Nat):j6 Go.Proofs.Tryz.prog (V5 n):=(a5x n).1
def b8x:Hints I:=mkH [(4,[[],[],[1],[],[1,2,3],[1,2,3,4],[0,1,2,3,4,5],[0,1,2,3,4,5,6]]),(47,[[],[],[1],[0,1,2],[0,1,2,3],[0,1,2,3,4],[0,1,2,3,4,5],[0,1,2,3,4,5,6],[0,1,2,3,4,5,6,7],[0,1,2,3,4,5,6,7,8],[0,1,2,3,4,5,6,7,8,9],[0,1,2,3,4,5,6,7,8,9,10],[0,1,2,3,4,5,6,7,8,9,10,11],[0,1,2,3,4,5,6,7,8,9,10,11,12],[0,1,2,3,4,5,6,7,8,9,10,11,12,13],[0,1,2,3,4,5,6,7,8,9,10,11,12,13,14],[0,1,2,3,4,5,6,7,8,9,10,11,12,13,14,15],[0,1,2,3,4,5,6,7,8,9,10,11,12,13,14],[0,1,2,3,4,5,6,7,8,9,10,11,12,13,14,17],[0,1,2,3,4,5,6,7,8,9,10,11,12,13,14,15,16,17,18],[0,1,2,3,4,5,6,7,8,9,10,11,12,13,14,15,16,17,18,19],[0,1,2,3,4,5,6,7,8,9,10,11,12,13,14,15,16,17,18,19,20],[0,1,2,3,4,5,6,7,8,9,10,11,12,13,14],[0,1,2,3,4,5,6,7,8,9,10,11,12,13,14,22],[0,1,2,3,4,5,6,7,8,9,10,11,12,13,14,15,16,17,18,19,20,21,22,23],[0,1,2,3,4,5,6,7,8,9,10,11,12,13,14,15,16,17,18,19,20,21,22,23,24],[0,1,2,3,4,5,6,7,8,9,10,11,12,13,14,15,16,17,18,19,20,21,22,23,24,25],[0,1,2,3,4,5,6,7,8,9,10,11,12,13,14,15,16,17,18,19,20,21,22,23,24,25,26]])] [] [] [(2092029,⟨2706308199418088717232151174730781556736,[],[],[(.normal,[(122,.k (.d (.bool)))])]⟩),
 (535560189,⟨3568119231764899702645714923623737840956866560,[],[],[(.normal,[(149,.k (.d (.bool)))])]⟩)] [(26,⟨67106864,[],[],[(5,.k (.d (.int .i64)))],[((.exit 0),[]),(.ret,[(4,.k (.d (.bool)))])],bnd tb (.len (.ld 22 (.fld 77 4 (.slot 3)))) 1⟩),
 (68551704562,⟨1606938044257528773904631189422958917689486710763136902759952,[],[],[(9,.k (.d (.int .i64)))],[((.exit 3),[]),(.ret,[(4,.k (.d (.bool)))])],bnd tb (.len (.ld 74 (.fld 77 5 (.slot 3)))) 1⟩)] [] [] []
def b7a:Row I:=⟨80,[.d (.dat 27),.d (.dat 77)],[.k (.d (.bool))],a6F⟩
theorem b7v:RK (b7a) :=
 okR [eR a6E,eR a57,eR a62,eR a5c,eR a0W] 216 b8x [.tmp 4] Go.Proofs.Tryz.func80 (by kernel_rfl)
def b3s:Row I:=⟨81,[.d (.dat 77)],[.k (.d (.bool))],a4Z⟩
theorem b3V:RK (b3s) :=
 okR [] 16 Y4 [.tmp 2] Go.Proofs.Tryz.func81 (by kernel_rfl)
def b2S (n:Nat):Hints I:=mkH [(6,[[],[],[1],[],[1,2,3],[1,2,3,4],[0,1,2,3,4,5],[0,1,2,3,4,5,6]])] [] [] [] [(58,⟨1073709068,[],[],[(3,.k (.d (.int .i64)))],[((.exit 0),[]),(.ret,[(2,.k (.d (.int .i64)))])],bnd tb (.len (.ld 25 (.fld 27 0 (.slot 1)))) 1⟩),
 (250,⟨4951760157141521082416628192,[],[],[(4,.k (.row 4 false)),(5,.k (.d (.int .i64)))],[((.exit 2),[(4,.k (.row 4 false))])],bnd tb (.len (.ld 25 (.fld 27 0 (.slot 1)))) 1⟩),
 (506,⟨10136253041668693690874029146628,[],[],[(4,.k (.row 4 false)),(9,.k (.d (.int .i64)))],[((.exit 8),[(4,.k (.row 4 false))]),(.ret,[(2,.k (.d (.int .i64))),(4,.k (.row 4 false))])],bnd tb (.len (.slot 4)) 1⟩),
 (16018,⟨4951760157141518900573241792,[],[],[(4,.k (.row 4 false)),(6,.k (.d (.int .i64)))],[((.exit 4),[(4,.k (.row 4 false))])],bnd tb (.len (.ld 25 (.fld 27 0 (.slot 1)))) 1⟩),
 (4100682,⟨4835703278177041722114432,[],[],[(4,.k (.row 4 false)),(7,.k (.d (.bool))),(8,.k (.d (.int .i64)))],[((.exit 6),[(4,.k (.row 4 false)),(7,.k (.d (.bool)))])],fun _=>some n⟩)] [] [] []
def b03 (n:Nat):Row I:=⟨40,[.d (.dat 27)],[.k (.d (.int .i64))],a01 n⟩
theorem b1q (n:Nat):RK (b03 n) :=
 okR [eR a6E,eR b7v,eR b3V] 103 (b2S n) [.tmp 2] Go.Proofs.Tryz.func40 (by kernel_rfl)
def b9P:Hints I:=mkH [(4,[[],[0],[],[0,1,2],[0,1,2,3],[],[0,1,2,3,4,5]])] [] [] [] [(26,⟨2097136,[],[],[(5,.k (.d (.int .i64)))],[((.exit 0),[]),(.ret,[(4,.k (.d (.int .i64)))])],bnd tb (.len (.ld 29 (.fld 33 4 (.slot 2)))) 1⟩)] [] [] []
def b7B:Row I:=⟨186,[.d (.dat 33),.d (.dat 83)],[.k (.d (.int .i64))],a64⟩
theorem b8I:RK (b7B) :=
 okR [] 21 b9P [.tmp 4] Go.Proofs.Tryz.func186 (by kernel_rfl)
def b7r:Hints I:=mkH [(4,[[],[0],[],[0,1,2],[0,1,2,3],[0,1,2,3,4],[],[0,1,2,3,4,5,6]])] [] [] [] [(26,⟨4194288,[],[],[(5,.k (.d (.int .i64)))],[((.exit 0),[]),(.ret,[(4,.k (.d (.int .i64)))])],bnd tb (.len (.ld 74 (.fld 77 5 (.slot 2)))) 1⟩)] [] [] []
def b42:Row I:=⟨187,[.d (.dat 77),.d (.dat 83)],[.k (.d (.int .i64))],a2O⟩
theorem b6a:RK (b42) :=
 okR [] 22 b7r [.tmp 4] Go.Proofs.Tryz.func187 (by kernel_rfl)
def b4l (_:Nat):Hints I:=mkH [(8,[[],[0],[],[],[3],[],[3,4,5],[0,1,2,3,4,5,6],[0,1,2,3,4,5,6,7],[0,1,2,3,4,5,6,7,8],[0,1,2,3,4,5,6,7,8,9],[0,1,2,3,4,5,6,7,8,9,10],[0,1,2,3,4,5,6,7,8,9,10,11],[0,1,2,3,4,5,6,7,8,9,10,11,12],[0,1,2,3,4,5,6,7,8,9,10,11],[0,1,2,3,4,5,6,7,8,9,10,11],[0,1,2,3,4,5,6,7,8,9,10,11,15],[0,1,2,3,4,5,6,7,8,9,10,11],[0,1,2,3,4,5,6,7,8,9,10,11,15,16,17],[0,1,2,3,4,5,6,7,8,9,10,11,15,16,17,18],[0,1,2,3,4,5,6,7,8,9,10,11,12,13,14,15,16,17,18,19],[0,1,2,3,4,5,6,7,8,9,10,11,12,13,14,15,16,17,18,19,20],[0,1,2,3,4,5,6,7,8,9,10,11,12,13,14,15,16,17,18,19,20,21],[0,1,2,3,4,5,6,7,8,9,10,11,12,13,14,15,16,17,18,19,20,21,22]])] [] [] [] [(122,⟨18014398509220672,[],[],[(8,.k (.d (.int .i64)))],[((.exit 0),[]),(.ret,[(6,.k (.d (.bool)))])],bnd tb (.len (.ld 30 (.fld 33 5 (.slot 3)))) 1⟩)] [] [] []
def a0z (n:Nat):Row I:=⟨147,[.d (.dat 33),.d (.dat 27),.d (.dat 77)],[.k (.d (.bool))],a0S n⟩
def b44 (_:Nat):Hints I:=mkH [(4,[[],[0],[],[0,1,2],[0,1,2,3],[0,1,2,3,4],[0,1,2,3,4,5],[0,1,2,3,4,5,6],[0,1,2,3,4,5,6,7],[0,1,2,3,4,5,6,7],[0,1,2,3,4,5,6,7,9],[0,1,2,3,4,5,6,7],[0,1,2,3,4,5,6,7,9,10,11],[0,1,2,3,4,5,6,7,9,10,11,12],[0,1,2,3,4,5,6,7,9,10,11,12,13],[0,1,2,3,4,5,6,7,8,9,10,11,12,13,14],[0,1,2,3,4,5,6,7,8,9,10,11,12,13,14,15],[0,1,2,3,4,5,6,7,8,9,10,11,12,13,14,15,16]]),(9,[[],[],[1],[],[1,2,3],[1,2,3,4],[0,1,2,3,4,5],[0,1,2,3,4,5,6]]),(13,[[],[0],[],[0,1,2],[0,1,2,3],[],[],[0,1,2,3,4,5,6],[0,1,2,3,4,5,6,7]])] [] [] [(3730,⟨575334852396581888,[],[],[(.normal,[(10,.k (.d (.int .i64)))])]⟩),
 (14925,⟨145268109580462720000,[],[],[(.normal,[(10,.k (.d (.int .i64)))])]⟩)] [(26,⟨68719474880,[],[],[(7,.k (.d (.int .i64)))],[((.exit 0),[]),(.ret,[(6,.k (.d (.bool)))])],bnd tb (.len (.ld 74 (.fld 77 5 (.slot 5)))) 1⟩),
 (58,⟨75557863725845603944256,[],[],[(8,.k (.d (.int .i64)))],[((.exit 2),[]),(.ret,[(6,.k (.d (.bool)))])],bnd tb (.len (.ld 29 (.fld 33 4 (.slot 3)))) 1⟩)] [] [] []
def a0N (n:Nat):Row I:=⟨146,[.d (.dat 33),.d (.dat 27),.d (.dat 77)],[.k (.d (.bool))],a03 n⟩
def b58 (_:Nat):Hints I:=mkH [(35,[[],[],[],[2],[],[2,3,4],[2,3,4,5],[0,1,2,3,4,5,6]]),(42,[[],[],[],[2],[],[2,3,4],[2,3,4,5],[0,1,2,3,4,5,6],[0,1,2,3,4,5,6,7]]),(46,[[],[],[],[2],[2,3],[2,3,4],[0,1,2,3,4,5],[0,1,2,3,4,5,6],[0,1,2,3,4,5,6,7]]),(51,[[],[0],[],[0,1,2],[0,1,2,3],[],[5],[0,1,2,3,4,5,6]])] [] [] [] [(506806140914,⟨365364258960126464239350440319934430733230145856,[],[],[(8,.k (.d (.int .i64)))],[((.exit 1),[]),(.ret,[(6,.k (.d (.bool)))])],bnd tb (.len (.ld 22 (.fld 77 4 (.slot 7)))) 1⟩),
 (2027224563698,⟨95779509802480722744478485512061607693151539203932736,[],[],[(9,.k (.d (.int .i64)))],[((.exit 3),[]),(.ret,[(6,.k (.d (.bool)))])],bnd tb (.len (.ld 22 (.fld 77 4 (.slot 7)))) 1⟩),
 (16217796509690,⟨12855112035213460536787957001890350341026617553047063680255040,[],[],[(10,.k (.d (.int .i64)))],[((.exit 5),[]),(.ret,[(6,.k (.d (.bool)))])],bnd tb (.len (.ld 31 (.fld 33 6 (.slot 3)))) 1⟩)] [] [] []
def a0l (n:Nat):Row I:=⟨82,[.d (.dat 33),.d (.dat 27),.d (.int .i64)],[.k (.d (.bool))],w8 n⟩
def b5R (_:Nat):Hints I:=mkH [(6,[[],[],[0,1],[0,1,2],[],[],[],[5,6],[5,6,7],[0,1,2,3,4,5,6,7,8],[0,1,2,3,4,5,6,7,8,9]])] [] [] [] [(58,⟨1073733824,[],[],[(7,.k (.d (.int .i64)))],[((.exit 0),[]),(.ret,[(6,.k (.d (.bool)))])],bnd tb (.len (.slot 0)) 1⟩)] [] [] []
def a0O (n:Nat):Row I:=⟨145,[.d (.sl 33),.d (.dat 27),.d (.sl 3)],[.k (.d (.bool))],a0s n⟩
theorem b2r (n:Nat)(_:j6 Go.Proofs.Tryz.prog (a0z n))(_:j6 Go.Proofs.Tryz.prog (a0N n))(h_semtyperef7_member:j6 Go.Proofs.Tryz.prog (a0l n))(h_semtyperef7_members:j6 Go.Proofs.Tryz.prog (a0O n)):RK (a0z (n+1)) :=
 okR [eR h_semtyperef7_members,eR h_semtyperef7_member] 54 (b4l n) [.tmp 6] Go.Proofs.Tryz.func147 (by kernel_rfl)
theorem b3p (n:Nat)(_:j6 Go.Proofs.Tryz.prog (a0z n))(_:j6 Go.Proofs.Tryz.prog (a0N n))(h_semtyperef7_member:j6 Go.Proofs.Tryz.prog (a0l n))(_:j6 Go.Proofs.Tryz.prog (a0O n)):RK (a0N (n+1)) :=
 okR [eR b8I,eR b6a,eR h_semtyperef7_member] 76 (b44 n) [.tmp 6] Go.Proofs.Tryz.func146 (by kernel_rfl)
theorem b4r (n:Nat)(h_semtyperef7_function:j6 Go.Proofs.Tryz.prog (a0z n))(h_semtyperef7_mapping:j6 Go.Proofs.Tryz.prog (a0N n))(h_semtyperef7_member:j6 Go.Proofs.Tryz.prog (a0l n))(h_semtyperef7_members:j6 Go.Proofs.Tryz.prog (a0O n)):RK (a0l (n+1)) :=
 okR [eR h_semtyperef7_members,eR h_semtyperef7_mapping,eR h_semtyperef7_function,eR h_semtyperef7_member] 203 (b58 n) [.tmp 6] Go.Proofs.Tryz.func82 (by kernel_rfl)
theorem b3n (n:Nat)(_:j6 Go.Proofs.Tryz.prog (a0z n))(_:j6 Go.Proofs.Tryz.prog (a0N n))(h_semtyperef7_member:j6 Go.Proofs.Tryz.prog (a0l n))(_:j6 Go.Proofs.Tryz.prog (a0O n)):RK (a0O (n+1)) :=
 okR [eR h_semtyperef7_member] 30 (b5R n) [.tmp 6] Go.Proofs.Tryz.func145 (by kernel_rfl)
theorem a6f:∀ n:Nat,j6 Go.Proofs.Tryz.prog (a0z n)/\j6 Go.Proofs.Tryz.prog (a0N n)/\j6 Go.Proofs.Tryz.prog (a0l n)/\j6 Go.Proofs.Tryz.prog (a0O n)
 | 0=>⟨Y2 (by kernel_rfl),Y2 (by kernel_rfl),Y2 (by kernel_rfl),Y2 (by kernel_rfl)⟩
 | n+1=>by
   obtain ⟨h0,h1,h2,h3⟩:=a6f n
   exact ⟨b2r n h0 h1 h2 h3,b3p n h0 h1 h2 h3,b4r n h0 h1 h2 h3,b3n n h0 h1 h2 h3⟩
theorem b4W (n:Nat):j6 Go.Proofs.Tryz.prog (a0l n):=(a6f n).2.2.1
def b6X (_:Nat):Hints I:=mkH [(4,[[],[],[],[2],[],[2,3,4],[2,3,4,5],[0,1,2,3,4,5,6],[0,1,2,3,4,5,6,7]]),(9,[[],[],[],[2],[],[2,3,4],[2,3,4,5],[0,1,2,3,4,5,6]])] [] [] [] [(26,⟨33554112,[],[],[(7,.k (.d (.int .i64)))],[((.exit 0),[]),(.ret,[(6,.k (.d (.bool)))])],bnd tb (.len (.ld 22 (.fld 56 0 (.slot 5)))) 1⟩),
 (58,⟨1099478073664,[],[],[(8,.k (.d (.int .i64)))],[((.exit 2),[]),(.ret,[(6,.k (.d (.bool)))])],bnd tb (.len (.ld 22 (.fld 56 1 (.slot 5)))) 1⟩)] [] [] []
def b4F (n:Nat):Row I:=⟨41,[.d (.dat 33),.d (.dat 27),.d (.dat 56)],[.k (.d (.bool))],a7i n⟩
theorem b5y (n:Nat):RK (b4F n) :=
 okR [eR (b4W n)] 53 (b6X n) [.tmp 6] Go.Proofs.Tryz.func41 (by kernel_rfl)
def b4h (n:Nat):Row I:=⟨15,[.d (.dat 33),.d (.dat 27),.d (.dat 56)],[.k (.d (.bool))],K6 n⟩
theorem a8E (n:Nat):RK (b4h n) :=
 okR [eR (a6v n),eR (b1q n),eR a8a,eR (b5y n)] 25 Y4 [.tmp 6] Go.Proofs.Tryz.func15 (by kernel_rfl)
def b7O:Hints I:=mkH [] [] [] [] [(58,⟨4094,[],[],[(1,.k (.row 5 false)),(2,.k (.d (.int .i64)))],[((.exit 0),[(1,.k (.row 5 false))])],bnd tb (.cst 256) 1⟩)] [] [] []
def b4X:Row I:=⟨116,[],[.k (.d (.str))],a7U⟩
theorem b6h:RK (b4X) :=
 okR [] 14 b7O [.tmp 0] Go.Proofs.Tryz.func116 (by kernel_rfl)
def b7C:Hints I:=mkH [] [] [] [] [(26,⟨262128,[],[],[(5,.k (.d (.int .i64)))],[((.exit 0),[]),(.ret,[(4,.k (.d (.bool)))])],bnd tb (.len (.slot 0)) 1⟩)] [] [] []
def b5a:Row I:=⟨117,[.d (.sl 9),.d (.str)],[.k (.d (.bool))],a5K⟩
theorem b61:RK (b5a) :=
 okR [] 18 b7C [.tmp 4] Go.Proofs.Tryz.func117 (by kernel_rfl)
def b8L:Hints I:=mkH [(9,[[],[],[1],[0,1,2],[0,1,2,3],[0,1,2,3,4],[0,1,2,3,4],[0,1,2,3,4,5,6],[0,1,2,3,4],[0,1,2,3,4],[0,1,2,3,4,8,9],[0,1,2,3,4,8,9,10],[0,1,2,3,4,5,6,7,8,9,10,11],[0,1,2,3,4,5,6,7,8,9,10,11,12]])] [] [] [(7461,⟨16777728,[],[],[(.normal,[(9,.k (.d (.str)))])]⟩)] [(58,⟨576460752303294272,[],[],[(7,.k (.row 5 false)),(8,.k (.d (.int .i64)))],[((.exit 0),[(7,.k (.row 5 false))]),(.ret,[(6,.k (.d (.sl 5))),(7,.k (.d (.sl 5)))])],bnd tb (.slot 8) 2⟩),
 (252,⟨18852572443331161751680,[],[],[(7,.k (.row 5 false))],[((.exit 4),[(7,.k (.row 5 false))])],bnd tb (.slot 11) 1⟩),
 (29852,⟨2198989702144,[],[],[(7,.k (.row 5 false)),(10,.k (.d (.int .i64)))],[((.exit 2),[(7,.k (.row 5 false)),(10,.k (.d (.int .i64)))])],bnd tb (.len (.slot 9)) 1⟩)] [] [] []
def b6N:Row I:=⟨118,[.d (.sl 5),.d (.str),.d (.str)],[.k (.d (.sl 5))],a4H⟩
theorem b7N:RK (b6N) :=
 okR [] 75 b8L [.tmp 6] Go.Proofs.Tryz.func118 (by kernel_rfl)
def b7P (n:Nat):Hints I:=mkH [] [] [] [(61,⟨6368,[],[],[(.normal,[(5,.k (.d (.str))),(6,.k (.d (.str))),(7,.k (.row 5 false))])]⟩)] [(124,⟨2089088,[],[],[(7,.k (.d (.sl 5)))],[((.exit 0),[(7,.k (.d (.sl 5)))])],fun _=>some n⟩)] [] [] []
def b5T (n:Nat):Row I:=⟨63,[.d (.int .i64),.d (.sl 9)],[.k (.d (.str))],a5L n⟩
theorem b6Z (n:Nat):RK (b5T n) :=
 okR [eR b6h,eR b61,eR b7N] 23 (b7P n) [.tmp 4] Go.Proofs.Tryz.func63 (by kernel_rfl)
def b4I (_:Nat):Hints I:=mkH [] [] [] [(978,⟨34358689824,[],[],[(.normal,[(5,.k (.row 9 false))])]⟩)] [(122,⟨34359722080,[],[],[(5,.k (.row 9 false)),(6,.k (.d (.int .i64)))],[((.exit 0),[(5,.k (.row 9 false))])],bnd tb (.len (.slot 1)) 1⟩)] [] [] []
def b2h (n:Nat):Row I:=⟨28,[.d (.int .i64),.d (.sl 83)],[.k (.d (.dat 83))],a4r n⟩
theorem b3t (n:Nat):RK (b2h n) :=
 okR [eR (b6Z n)] 40 (b4I n) [.cell 4 83] Go.Proofs.Tryz.func28 (by kernel_rfl)
def a6c:Hints I:=mkH [] [] [] [] [(26,⟨524080,[],[],[(8,.k (.d (.int .i64)))],[((.exit 0),[]),(.ret,[(4,.k (.d (.int .i64)))])],bnd tb (.slot 7) 1⟩)] [] [] []
def a5D:Row I:=⟨164,[.d (.sl 85),.fn [.dat 85] [.k (.d (.bool))]],[.k (.d (.int .i64))],a0U⟩
theorem a5J:RK (a5D) :=
 okR [] 19 a6c [.tmp 4] Go.Proofs.Tryz.func164 (by kernel_rfl)
def a44:Row I:=⟨120,[.d (.sl 85),.fn [.dat 85] [.k (.d (.bool))]],[.k (.d (.bool))],a0p⟩
theorem a5e:RK (a44) :=
 okR [eR a5J] 9 Y4 [.tmp 4] Go.Proofs.Tryz.func120 (by kernel_rfl)
def b66:Row I:=⟨121,[.d (.dat 85)],[.k (.d (.bool))],a3h⟩
theorem b7k:RK (b66) :=
 okR [] 11 Y4 [.tmp 2] Go.Proofs.Tryz.func121 (by kernel_rfl)
def c0C:Hints I:=mkH [(6,[[],[0],[0,1],[0,1,2],[0,1,2,3],[0,1,2,3,4],[0,1,2,3,4,5],[0,1,2,3,4,5,6],[0,1,2,3,4,5,6,7],[0,1,2,3,4,5,6],[0,1,2,3,4,5,6,9],[0,1,2,3,4,5,6,7,8,9,10],[0,1,2,3,4,5,6,7,8,9,10,11],[0,1,2,3,4,5,6],[0,1,2,3,4,5,6,7,8,9,10,11,12,13],[0,1,2,3,4,5,6,7,8,9,10,11,12,13,14],[0,1,2,3,4,5,6,7,8,9,10,11,12,13,14,15],[0,1,2,3,4,5,6,7,8,9,10,11,12,13,14,15,16]])] [] [] [] [(58,⟨36028794871480768,[],[],[(31,.k (.d (.int .i64)))],[((.exit 0),[]),(.ret,[(6,.k (.d (.bool)))])],bnd tb (.slot 30) 1⟩)] [] [] []
def b8M:Row I:=⟨64,[.d (.dat 71),.d (.sl 33),.d (.sl 33)],[.k (.d (.bool))],a7E⟩
theorem b9Z:RK (b8M) :=
 okR [eR b1m,eR a5P,eR a1z,eR a5e,eR b7k] 59 c0C [.tmp 6] Go.Proofs.Tryz.func64 (by kernel_rfl)
def c3d:Hints I:=mkH [] [] [] [] [(58,⟨1073739840,[],[],[(5,.k (.row 5 false)),(11,.k (.d (.int .i64)))],[((.exit 0),[(5,.k (.row 5 false))])],bnd tb (.slot 10) 1⟩)] [] [] []
def c01:Row I:=⟨122,[.d (.int .i64),.d (.int .i64)],[.k (.row 5 false)],a2E⟩
theorem b3H:RK (c01) :=
 okR [] 31 c3d [.tmp 4] Go.Proofs.Tryz.func122 (by kernel_rfl)
def b7n:Row I:=⟨165,[.d (.int .i64),.d (.int .i64),.d (.int .u8)],[.k (.d (.int .u8)),.k (.d (.bool))],b3R⟩
theorem b8n:RK (b7n) :=
 okR [] 33 Y4 [.tmp 6,.tmp 7] Go.Proofs.Tryz.func165 (by kernel_rfl)
def c4x:Hints I:=mkH [] [] [] [] [(58,⟨8796092957136,[],[],[(1,.k (.row 5 false)),(5,.k (.row 5 false)),(6,.k (.d (.int .i64)))],[((.exit 0),[(1,.k (.row 5 false)),(5,.k (.row 5 false))]),(.ret,[(4,.k (.row 5 false))])],bnd tb (.slot 6) 2⟩)] [] [] []
def c27:Row I:=⟨123,[.d (.int .i64),.row 5 false],[.k (.row 5 false)],a83⟩
theorem c31:RK (c27) :=
 okR [eR b3H,eR b8n] 48 c4x [.tmp 4] Go.Proofs.Tryz.func123 (by kernel_rfl)
def c0X (n:Nat):Hints I:=mkH [] [] [] [(253,⟨103079215360,[],[],[(.normal,[(8,.k (.row 5 false))])]⟩)] [(122,⟨2146959488,[],[],[(5,.k (.map 170 (.bool))),(19,.k (.d (.int .i64)))],[((.exit 0),[(5,.k (.map 170 (.bool)))])],bnd tb (.slot 18) 1⟩),
 (508,⟨17454747091200,[],[],[(5,.k (.map 170 (.bool))),(8,.k (.row 5 false))],[((.exit 2),[(5,.k (.map 170 (.bool))),(8,.k (.row 5 false))])],fun _=>some n⟩)] [] [] []
def b8D (n:Nat):Row I:=⟨66,[.d (.int .i64),.d (.sl 83)],[.k (.d (.dat 83))],a7G n⟩
theorem b98 (n:Nat):RK (b8D n) :=
 okR [eR b3H,eR c31] 48 (c0X n) [.cell 4 83] Go.Proofs.Tryz.func66 (by kernel_rfl)
def c33:Hints I:=mkH [(1,[[],[],[0,1],[0,1,2],[],[],[4,5],[4,5,6],[0,1,2,3,4,5,6,7],[0,1,2,3,4,5,6,7,8]])] [] [] [] [] [] [] []
def c1r:Row I:=⟨125,[.d (.int .i64),.d (.int .i64),.var 29 (.k (.d (.sl 83))) false],[.k (.d (.int .i64))],a2x⟩
theorem c29:RK (c1r) :=
 okR [eR a1z] 15 c33 [.tmp 5] Go.Proofs.Tryz.func125 (by kernel_rfl)
def a3H (n:Nat):Row I:=⟨126,[.d (.dat 33)],[.k (.d (.dat 33))],a7X n⟩
def c0E (_:Nat):Hints I:=mkH [] [] [] [] [(58,⟨261928,[],[],[(3,.k (.row 33 false)),(8,.k (.d (.int .i64)))],[((.exit 0),[(3,.k (.row 33 false))])],bnd tb (.slot 7) 1⟩)] [] [] []
def a3x (n:Nat):Row I:=⟨167,[.d (.sl 33)],[.k (.row 33 false)],c2T n⟩
def b6d (_:Nat):Hints I:=mkH [(5,[[],[],[1],[1,2],[],[4],[],[6],[1,2,3,6,7],[1,2,3,4,5,6,7,8],[1,2,3,4,5,6,7,8,9],[0,1,2,3,4,5,6,7,8,9,10],[0,1,2,3,4,5,6,7,8,9,10,11]])] [] [] [] [(58,⟨33554216,[],[],[(3,.k (.row 138 false)),(8,.k (.d (.int .i64)))],[((.exit 0),[(3,.k (.row 138 false))])],bnd tb (.slot 7) 1⟩)] [] [] []
def a13 (n:Nat):Row I:=⟨169,[.bor 138],[.k (.row 138 false)],b8i n⟩
theorem c2q (n:Nat)(_:j6 Go.Proofs.Tryz.prog (a3H n))(h_value_cloneAll:j6 Go.Proofs.Tryz.prog (a3x n))(h_value_cloneEntries:j6 Go.Proofs.Tryz.prog (a13 n)):RK (a3H (n+1)) :=
 okR [eR h_value_cloneAll,eR c79,eR d2S,eR h_value_cloneEntries] 20 Y4 [.cell 2 33] Go.Proofs.Tryz.func126 (by kernel_rfl)
theorem b8J (n:Nat)(h_value_clone:j6 Go.Proofs.Tryz.prog (a3H n))(_:j6 Go.Proofs.Tryz.prog (a3x n))(_:j6 Go.Proofs.Tryz.prog (a13 n)):RK (a3x (n+1)) :=
 okR [eR h_value_clone] 19 (c0E n) [.tmp 2] Go.Proofs.Tryz.func167 (by kernel_rfl)
theorem b38 (n:Nat)(h_value_clone:j6 Go.Proofs.Tryz.prog (a3H n))(h_value_cloneAll:j6 Go.Proofs.Tryz.prog (a3x n))(_:j6 Go.Proofs.Tryz.prog (a13 n)):RK (a13 (n+1)) :=
 okR [eR h_value_cloneAll,eR h_value_clone] 26 (b6d n) [.tmp 2] Go.Proofs.Tryz.func169 (by kernel_rfl)
theorem b0F:∀ n:Nat,j6 Go.Proofs.Tryz.prog (a3H n)/\j6 Go.Proofs.Tryz.prog (a3x n)/\j6 Go.Proofs.Tryz.prog (a13 n)
 | 0=>⟨Y2 (by kernel_rfl),Y2 (by kernel_rfl),Y2 (by kernel_rfl)⟩
 | n+1=>by
   obtain ⟨h0,h1,h2⟩:=b0F n
   exact ⟨c2q n h0 h1 h2,b8J n h0 h1 h2,b38 n h0 h1 h2⟩
theorem c2G (n:Nat):j6 Go.Proofs.Tryz.prog (a3H n):=(b0F n).1
def c56 (_:Nat):Hints I:=mkH [(21,[[],[0],[0,1],[0,1,2],[0,1,2,3],[0,1,2],[0,1,2,5],[0,1,2,3,4,5,6],[0,1,2,3,4,5,6,7],[0,1,2],[0,1,2],[0,1,2,9,10],[0,1,2,9,10,11],[0,1,2,3,4,5,6,7,8,9,10,11,12],[0,1,2,3,4,5,6,7,8,9,10,11,12,13]]),(23,[[],[0],[],[],[2,3],[2,3,4],[2,3,4,5],[0,1,2,3,4,5,6],[0,1,2,3,4,5,6,7],[0,1,2,3,4,5,6,7,8]]),(24,[[],[0],[],[],[2,3],[2,3,4],[2,3,4,5],[2,3,4,5,6],[0,1,2,3,4,5,6,7],[0,1,2,3,4,5,6,7,8],[0,1,2,3,4,5,6,7,8,9]])] [] [] [] [(58,⟨2143289504,[],[(4,.lvs [.d (.int .i64),.d (.int .i64),.d (.str),.row 33 false,.row 83 false,.row 138 false,.row 9 false])],[(22,.k (.d (.int .i64)))],[((.exit 0),[]),(.ret,[(5,.k (.d (.int .i64)))])],bnd tb (.slot 21) 1⟩),
 (250,⟨2190433321728,[],[],[(8,.k (.row 3 false)),(33,.k (.d (.int .i64)))],[((.exit 2),[(8,.k (.row 3 false))])],bnd tb (.slot 32) 1⟩),
 (2042,⟨1237940039285239537410781216,[45],[(4,.lvs [.d (.int .i64),.d (.int .i64),.d (.str),.row 33 false,.row 83 false,.row 138 false,.row 9 false]),(10,.lvs [.d (.int .i64),.d (.int .i64),.d (.str),.row 33 false,.row 83 false,.row 138 false,.row 9 false])],[(47,.k (.d (.int .i64)))],[((.exit 4),[]),(.ret,[(5,.k (.d (.int .i64)))])],bnd tb (.slot 46) 1⟩)] [] [] []
noncomputable def c3Y (n:Nat):Row I:=⟨67,[.d (.sl 83),.d (.sl 33)],[.k (.d (.dat 33)),.k (.d (.int .i64))],b0z n⟩
theorem c5h (n:Nat):RK (c3Y n) :=
 okR [eR a5P,eO d3o,eR c29,eR (c2G n)] 91 (c56 n) [.cell 4 33,.tmp 5] Go.Proofs.Tryz.func67 (by kernel_rfl)
def c1p (_:Nat):Hints I:=mkH [] [] [] [] [(250,⟨1125899772640256,[],[],[(10,.k (.row 83 false)),(11,.k (.row 33 false)),(27,.k (.d (.int .i64)))],[((.exit 0),[(10,.k (.row 83 false)),(11,.k (.row 33 false))])],bnd tb (.slot 26) 1⟩),
 (1018,⟨2417851567171664311733248,[14],[],[(10,.k (.row 83 false)),(11,.k (.row 33 false)),(14,.k (.row 83 true)),(56,.k (.d (.int .i64)))],[((.exit 2),[(10,.k (.row 83 false)),(11,.k (.row 33 false))])],bnd tb (.slot 55) 1⟩)] [] [] []
noncomputable def b9M (n:Nat):Row I:=⟨29,[.d (.dat 27),.d (.dat 71),.d (.sl 33),.d (.sl 33)],[.k (.d (.dat 33)),.k (.d (.int .i64))],a3V n⟩
theorem c0B (n:Nat):RK (b9M n) :=
 okR [eR b9Z,eR c79,eR (b98 n),eR (c5h n)] 86 (c1p n) [.cell 8 33,.tmp 9] Go.Proofs.Tryz.func29 (by kernel_rfl)
def b4M (_:Nat):Hints I:=mkH [(6,[[],[0],[],[2],[],[2,3,4],[2,3,4,5],[0,1,2,3,4,5,6],[0,1,2,3,4,5,6,7]]),(10,[[],[0],[0,1],[0,1,2],[0,1,2,3],[0,1,2],[0,1,2,3,4,5],[0,1,2,3,4,5,6],[0,1,2],[0,1,2],[0,1,2,9],[0,1,2],[0,1,2,9,10,11],[0,1,2,9,10,11,12],[0,1,2,3,4,5,6,7,8,9,10,11,12,13],[0,1,2,3,4,5,6,7,8,9,10,11,12,13,14],[0,1,2,3,4,5,6,7,8,9,10,11,12,13,14,15]]),(15,[[],[0],[],[2],[],[2,3,4],[2,3,4,5],[0,1,2,3,4,5,6],[0,1,2,3,4,5,6,7],[0,1,2,3,4,5,6,7,8],[0,1,2,3,4,5,6,7,8,9],[0,1,2,3,4,5,6,7,8,9,10],[0,1,2,3,4,5,6,7,8,9],[0,1,2,3,4,5,6,7,8,9,10,11,12],[0,1,2,3,4,5,6,7,8,9,10,11,12,13],[0,1,2,3,4,5,6,7,8,9],[0,1,2,3,4,5,6,7,8,9],[0,1,2,3,4,5,6,7,8,9,16],[0,1,2,3,4,5,6,7,8,9],[0,1,2,3,4,5,6,7,8,9,16,17,18],[0,1,2,3,4,5,6,7,8,9,16,17,18,19],[0,1,2,3,4,5,6,7,8,9,16,17,18,19,20],[0,1,2,3,4,5,6,7,8,9],[0,1,2,3,4,5,6,7,8,9,16,17,18,19,20,21,22],[0,1,2,3,4,5,6,7,8,9,16,17,18,19,20,21,22,23],[0,1,2,3,4,5,6,7,8,9,10,11,12,13,14,15,16,17,18,19,20,21,22,23,24],[0,1,2,3,4,5,6,7,8,9,10,11,12,13,14,15,16,17,18,19,20,21,22,23,24,25],[0,1,2,3,4,5,6,7,8,9,10,11,12,13,14,15,16,17,18,19,20,21,22,23,24,25,26]]),(24,[[],[0],[0,1],[0,1,2],[0,1],[0,1,4],[0,1],[0,1,4,5,6],[0,1,4,5,6,7],[0,1,2,3,4,5,6,7,8],[0,1,2,3,4,5,6,7,8,9],[0,1,2,3,4,5,6,7,8,9,10],[0,1,2,3,4,5,6,7,8,9,10,11],[0,1,2,3,4,5,6,7,8,9,10,11,12],[0,1,2,3,4,5,6,7,8,9,10,11],[0,1,2,3,4,5,6,7,8,9,10,11,12,13,14],[0,1,2,3,4,5,6,7,8,9,10,11,12,13,14,15],[0,1,2,3,4,5,6,7,8,9,10,11,12,13,14,15,16],[0,1,2,3,4,5,6,7,8,9,10,11],[0,1,2,3,4,5,6,7,8,9,10,11,18],[0,1,2,3,4,5,6,7,8,9,10,11],[0,1,2,3,4,5,6,7,8,9,10,11,18,19,20],[0,1,2,3,4,5,6,7,8,9,10,11,18,19,20,21],[0,1,2,3,4,5,6,7,8,9,10,11,18,19,20,21,22],[0,1,2,3,4,5,6,7,8,9,10,11,12,13,14,15,16,17,18,19,20,21,22,23],[0,1,2,3,4,5,6,7,8,9,10,11,12,13,14,15,16,17,18,19,20,21,22,23,24],[0,1,2,3,4,5,6,7,8,9,10,11,12,13,14,15,16,17,18,19,20,21,22,23,24,25],[0,1,2,3,4,5,6,7,8,9,10,11,12,13,14,15,16,17,18,19,20,21,22,23,24,25,26],[0,1,2,3,4,5,6,7,8,9,10,11,12,13,14,15,16,17,18,19,20,21,22,23,24,25,26,27],[0,1,2,3,4,5,6,7,8,9,10,11,12,13,14,15,16,17,18,19,20,21,22,23,24,25,26],[0,1,2,3,4,5,6,7,8,9,10,11,12,13,14,15,16,17,18,19,20,21,22,23,24,25,26,27,28,29],[0,1,2,3,4,5,6,7,8,9,10,11,12,13,14,15,16,17,18,19,20,21,22,23,24,25,26,27,28,29,30],[0,1,2,3,4,5,6,7,8,9,10,11,12,13,14,15,16,17,18,19,20,21,22,23,24,25,26],[0,1,2,3,4,5,6,7,8,9,10,11,12,13,14,15,16,17,18,19,20,21,22,23,24,25,26],[0,1,2,3,4,5,6,7,8,9,10,11,12,13,14,15,16,17,18,19,20,21,22,23,24,25,26,33],[0,1,2,3,4,5,6,7,8,9,10,11,12,13,14,15,16,17,18,19,20,21,22,23,24,25,26],[0,1,2,3,4,5,6,7,8,9,10,11,12,13,14,15,16,17,18,19,20,21,22,23,24,25,26,33,34,35],[0,1,2,3,4,5,6,7,8,9,10,11,12,13,14,15,16,17,18,19,20,21,22,23,24,25,26,33,34,35,36],[0,1,2,3,4,5,6,7,8,9,10,11,12,13,14,15,16,17,18,19,20,21,22,23,24,25,26,33,34,35,36,37],[0,1,2,3,4,5,6,7,8,9,10,11,12,13,14,15,16,17,18,19,20,21,22,23,24,25,26,27,28,29,30,31,32,33,34,35,36,37,38],[0,1,2,3,4,5,6,7,8,9,10,11,12,13,14,15,16,17,18,19,20,21,22,23,24,25,26,27,28,29,30,31,32,33,34,35,36,37,38,39],[0,1,2,3,4,5,6,7,8,9,10,11,12,13,14,15,16,17,18,19,20,21,22,23,24,25,26,27,28,29,30,31,32,33,34,35,36,37,38,39,40],[0,1,2,3,4,5,6,7,8,9,10,11,12,13,14,15,16,17,18,19,20,21,22,23,24,25,26,27,28,29,30,31,32,33,34,35,36,37,38,39,40,41]])] [] [] [] [(58,⟨75557863725914323289024,[],[],[(7,.k (.d (.int .i64)))],[((.exit 0),[]),(.ret,[(6,.k (.d (.bool)))])],bnd tb (.len (.ld 29 (.fld 71 0 (.slot 5)))) 1⟩),
 (122,⟨2596148429191855950539333841192000,[],[],[(10,.k (.d (.int .i64)))],[((.exit 2),[]),(.ret,[(6,.k (.d (.bool)))])],bnd tb (.len (.ld 29 (.fld 33 4 (.slot 3)))) 1⟩),
 (250,⟨748288838313422291524138205083323091798589297408064,[],[],[(11,.k (.d (.int .i64)))],[((.exit 4),[]),(.ret,[(6,.k (.d (.bool)))])],bnd tb (.len (.ld 69 (.fld 71 4 (.slot 5)))) 1⟩),
 (64074,⟨187072209578355241223072712358716000564194295427072,[],[],[(12,.k (.d (.bool))),(13,.k (.d (.int .i64)))],[((.exit 6),[(12,.k (.d (.bool)))])],bnd tb (.len (.ld 29 (.fld 33 4 (.slot 3)))) 1⟩)] [] [] []
end Go.Qx
end
section
namespace Go.Qx
open Go Go.RowKit Go.Sx
set_option maxHeartbeats 1600000
set_option maxRecDepth 100000
def b2t (n:Nat):Row I:=⟨25,[.d (.dat 33),.d (.dat 27),.d (.dat 71)],[.k (.d (.bool))],a2A n⟩
theorem b3q (n:Nat):RK (b2t n) :=
 okR [eR a8A,eR (a8E n)] 169 (b4M n) [.tmp 6] Go.Proofs.Tryz.func25 (by kernel_rfl)
def a98 (_:Nat):Hints I:=mkH [(19,[[],[],[],[],[3],[3,4],[2,3,4,5],[0,1,2,3,4,5,6],[],[0,1,2,3,4,5,6,7,8]]),(22,[[],[0],[0,1],[0,1],[0,1],[0,1,4],[0,1],[0,1,4,5,6],[0,1,4,5,6,7],[0,1,2,3,4,5,6,7,8],[0,1,2,3,4,5,6,7,8,9],[0,1,2,3,4,5,6,7,8,9,10]]),(28,[[],[],[],[],[3],[3,4],[2,3,4,5],[0,1,2,3,4,5,6],[],[0,1,2,3,4,5,6,7,8]]),(30,[[],[0],[0,1],[0,1],[0,1],[0,1,4],[0,1],[0,1,4,5,6],[0,1,4,5,6,7],[0,1,4,5,6,7,8],[0,1,2,3,4,5,6,7,8,9],[0,1,2,3,4,5,6,7,8,9,10],[0,1,2,3,4,5,6,7,8,9,10,11],[0,1,2,3,4,5,6,7,8,9,10,11,12],[0,1,2,3,4,5,6,7,8,9,10,11,12],[0,1,2,3,4,5,6,7,8,9,10,11,12],[0,1,2,3,4,5,6,7,8,9,10,11,12,15],[0,1,2,3,4,5,6,7,8,9,10,11,12],[0,1,2,3,4,5,6,7,8,9,10,11,12,15,16,17],[0,1,2,3,4,5,6,7,8,9,10,11,12,15,16,17,18],[0,1,2,3,4,5,6,7,8,9,10,11,12,15,16,17,18,19],[0,1,2,3,4,5,6,7,8,9,10,11,12],[0,1,2,3,4,5,6,7,8,9,10,11,12,15,16,17,18,19,20,21],[0,1,2,3,4,5,6,7,8,9,10,11,12,15,16,17,18,19,20,21,22],[0,1,2,3,4,5,6,7,8,9,10,11,12,13,14,15,16,17,18,19,20,21,22,23],[0,1,2,3,4,5,6,7,8,9,10,11,12,13,14,15,16,17,18,19,20,21,22,23,24],[0,1,2,3,4,5,6,7,8,9,10,11,12,13,14,15,16,17,18,19,20,21,22,23,24,25]]),(39,[[],[],[],[],[3],[2,3,4],[],[0,1,2,3,4,5,6],[0,1,2,3,4,5,6,7],[0,1,2,3,4,5,6,7,8],[0,1,2,3,4,5,6,7,8],[],[0,1,2,3,4,5,6,7,8,9,11],[0,1,2,3,4,5,6,7,8,9,10,11,12]])] [] [] [(1048530,⟨174224571863441265130733534667471785459712,[],[(14,.k (.d (.dat 44)))],[(.normal,[(15,.k (.row 33 false)),(17,.k (.d (.bool))),(18,.k (.row 83 false)),(19,.k (.row 33 false))])]⟩)] [(131066,⟨174224571863519874323228156314927881945088,[],[(14,.k (.d (.dat 44)))],[(15,.k (.row 33 false)),(17,.k (.d (.bool))),(18,.k (.row 83 false)),(19,.k (.row 33 false)),(21,.k (.d (.int .i64)))],[((.exit 0),[(15,.k (.row 33 false)),(17,.k (.d (.bool))),(18,.k (.row 83 false)),(19,.k (.row 33 false))])],bnd tb (.len (.ld 29 (.fld 71 0 (.slot 13)))) 1⟩),
 (262138,⟨6427752177035961101993623797501129916795564176126106077691904,[20],[(14,.k (.d (.dat 44)))],[(16,.k (.row 33 false)),(17,.k (.d (.bool))),(18,.k (.row 83 false)),(19,.k (.row 33 false)),(20,.k (.row 83 true)),(23,.k (.d (.int .i64)))],[((.exit 2),[(16,.k (.row 33 false)),(17,.k (.d (.bool))),(18,.k (.row 83 false)),(19,.k (.row 33 false))])],bnd tb (.len (.ld 69 (.fld 71 4 (.slot 13)))) 1⟩)] [] [] []
noncomputable def a8S (n:Nat):Row I:=⟨7,[.d (.sl 3),.d (.sl 3),.d (.sl 3),.d (.int .i64)],[.k (.d (.bool))],a0V n⟩
theorem a9B (n:Nat):RK (a8S n) :=
 okR [eR b5d,eR (b47 n),eR b6o,eR (b2V n),eR b4v,eR Z0,eR (b02 n),eR (a8E n),eR (b3t n),eR (c0B n),eR a5z,eR (a6A n),eR (b3q n)] 254 (a98 n) [.tmp 8] Go.Proofs.Tryz.func7 (by kernel_rfl)
end Go.Qx
end
section
namespace Go.Pl
open Go Go.RowKit Go.Sx Go.Qx Go.Proofs.YtmcfcgaiecgdhaaGreat
def a9U (w:World):S:=⟨w,fun b=>match w.heap[b]? with | some (.cells c _ _)=>(c.size,0) | _=>(0,0)⟩
theorem c74 {w:World}{b o:Nat}{cs:List Value}(hn:cs≠[])(h:w.rangeAt b o cs):a36 (a9U w) b o cs:=by
 refine ⟨?_,h⟩
 have hl:0<cs.length:=List.length_pos_iff.2 hn
 have hj:=h (cs.length-1) _ (List.getElem?_eq_getElem (by omega))
 unfold World.cell? at hj
 simp only at hj
 split at hj
 ·rename_i c e f hb
  have h2:o+(cs.length-1)<c.size:=by
   simp only [Option.isSome_none,Bool.false_eq_true,if_false] at hj
   exact (Array.getElem?_eq_some_iff.1 hj).1
  show o+cs.length<=(match w.heap[b]? with | some (.cells c _ _)=>(c.size,0) | _=>(0,0)).1
  rw [hb]
  show o+cs.length<=c.size
  omega
 ·cases hj
theorem c7n {w:World}{base:Nat}{a:Addr}{n:Nat}{cs:List Value}(h:w.cells? base a n=some cs) :
 cs.length=n/\∀ (i:Nat) (v:Value),cs[i]?=some v->w.cell? (a.add i)=some v:=by
 unfold World.cells? at h
 split at h
 ·have hl:cs.length=n:=by simpa using mapM_some_length h
  refine ⟨hl,fun i v hv=>?_⟩
  have hi:i<n:=by have:=(List.getElem?_eq_some_iff.1 hv).1; omega
  have:=mapM_some_get h i i (by simp [hi])
  rw [this,hv]
 ·cases h
theorem d16 (a:Addr)(x j:Nat):(a.add x).add j=a.add (x+j):=by
 unfold Addr.add
 by_cases hx:x=0
 ·subst hx; simp
 ·by_cases hj:j=0
  ·subst hj; simp [hx]
  ·rw [if_neg hj,if_neg hx,if_neg (by omega),Nat.add_assoc]
theorem c8M {w:World}{a:Addr}{v:Value}(h:w.cell? a=some v):a.spot=none:=by
 unfold World.cell? at h
 split at h
 ·split at h
  ·cases h
  ·rename_i hs; simpa using hs
 ·cases h
section
variable {H:Type}{enc:TypeId×Value->H}{P:Program}{w:World}{base:Nat}{spare:Nat->Bool}{held:Bool}
theorem b6r {α:Type} [Rp α] {fuel:Nat}{t e:TypeId}{cs:List Value}{x:DataW H×List MemPlace}(ht:P.underlying t=some (.slice e))(hc:P.cellsOf e=Rp.sz α)(bk:α->Nat)
 (hrd:∀ (n:Nat) (cs:List Value) (x:DataW H×List MemPlace),n<fuel->DataW.trod enc P w base spare held n e cs=some x->∃ d:α,Rp.cells (a9U w) d cs/\bk d<=Rows.uptoBulk x.1)
 (h:DataW.trod enc P w base spare held fuel t cs=some x) :
 ∃ (ds:List α) (A:Option Addr) (c:Nat),cs=[.slice A ds.length c]/\Sl (a9U w) ds A c/\(ds.map bk).sum+1<=Rows.uptoBulk x.1:=by
 rcases DataW.trod_slice ht h with ⟨rfl,rfl⟩ | ⟨a,len,cap,elems,rest,n,rfl,rfl,rfl,hb,hl,hm,hle,hget,-,-⟩
 ·exact ⟨[],none,0,rfl,Sl.nil_ _ _ _ (Nat.zero_le _),by simp [Rows.uptoBulk]⟩
 have key:∀ (m i:Nat),i+m=len->∃ (ds:List α) (cs:List Value),ds.length=m/\K2 (a9U w) ds cs /\
  (∀ (j:Nat) (v:Value),cs[j]?=some v->w.cell? (a.add (i*Rp.sz α+j))=some v)/\(ds.map bk).sum<=Rows.uptoBulkAll ((elems.drop i).map (·.1)):=by
  intro m
  induction m with
  | zero=>intro i _; exact ⟨[],[],rfl,rfl,fun j v hv=>by simp at hv,by simp⟩
  | succ m ih =>
    intro i hi
    obtain ⟨ds,cs,h1,h2,h3,h4⟩:=ih (i+1) (by omega)
    have hlt:i<elems.length:=by omega
    have hg:=hget i (by omega)
    rw [List.getElem?_eq_getElem hlt,Option.bind_eq_some_iff] at hg
    obtain ⟨cs0,hcs,htr⟩:=hg
    obtain ⟨d,hd,hbk⟩:=hrd n cs0 _ (by omega) htr
    obtain ⟨hcl,hci⟩:=c7n hcs
    rw [hc] at hcl hci
    refine ⟨d::ds,cs0++cs,by simp [h1],⟨cs0,cs,rfl,hd,h2⟩,?_,?_⟩
    ·intro j v hv
     by_cases hj:j<Rp.sz α
     ·rw [List.getElem?_append_left (by omega)] at hv
      rw [<- d16]
      exact hci j v hv
     ·rw [List.getElem?_append_right (by omega)] at hv
      have:=h3 _ v hv
      rw [hcl,Nat.add_mul,Nat.one_mul] at this
      have e:i*Rp.sz α+Rp.sz α+(j-Rp.sz α)=i*Rp.sz α+j:=by omega
      rw [e] at this
      exact this
    ·rw [List.drop_eq_getElem_cons hlt]
     simp only [List.map_cons,List.sum_cons,Rows.uptoBulkAll]
     omega
 obtain ⟨ds,cs,h1,h2,h3,h4⟩:=key len 0 (by omega)
 simp only [Nat.zero_mul,Nat.zero_add,List.drop_zero] at h3 h4
 refine ⟨ds,some a,cap,by rw [h1],⟨by omega,hm,cs,h2,fun hn=>?_⟩,by simp only [Rows.uptoBulk]; omega⟩
 have hne:=h2.ne_nil hn
 cases cs with
 | nil=>exact absurd rfl hne
 | cons v0 r =>
   have h0:=h3 0 v0 rfl
   have hs:a.spot=none:=c8M (by simpa [Addr.add] using h0)
   obtain ⟨b,o,sp⟩:=a
   simp only at hs
   subst hs
   refine ⟨b,o,rfl,c74 (by simp) ?_⟩
   intro j v hv
   have:=h3 j v hv
   unfold Addr.add at this
   by_cases hj:j=0
   ·subst hj; simpa using this
   ·rw [if_neg hj] at this
    exact this
end
theorem c98 {α:Type}{l:List α}(h:l.length=2):∃ a b,l=[a,b]:=by
 match l,h with
 | [a,b],_=>exact ⟨a,b,rfl⟩
end Go.Pl
end
section
namespace Go.Pl
open Go Go.RowKit Go.Sx Go.Qx
def b5w (_:Int):Nat:=1
def c0G (l:List Int):Nat:=(l.map b5w).sum+1
end Go.Pl
end
section
namespace Go.Pl
open Go Go.RowKit Go.Sx Go.Qx Go.Proofs.YtmcfcgaiecgdhaaGreat
theorem c3:Go.Proofs.Tryz.prog.cellsOf 3=1:=by kernel_rfl
section
variable {H:Type}{enc:TypeId×Value->H}{w:World}{base:Nat}{spare:Nat->Bool}{held:Bool}
theorem c9J {n:Nat}{cs:List Value}{x:DataW H×List MemPlace}(h:DataW.trod enc Go.Proofs.Tryz.prog w base spare held n 3 cs=some x):∃ d:Int,(rpK .i64).cells (a9U w) d cs/\b5w d<=Rows.uptoBulk x.1:=by
 obtain ⟨k,e0,rfl,_⟩:=DataW.trod_int Go.Proofs.Tryz.underlying3 h
 exact ⟨k,e0,by simp [b5w,Rows.uptoBulk]⟩
end
end Go.Pl
end

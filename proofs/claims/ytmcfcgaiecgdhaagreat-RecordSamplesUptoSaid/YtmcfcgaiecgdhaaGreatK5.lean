/- Part 5. -/
import Derived.Test.YtmcfcgaiecgdhaaGreatK3
import Derived.Test.YtmcfcgaiecgdhaaGreatK4
import Derived.ChangeArms
import Derived.KernelRfl
import Derived.OpenShut
import Derived.Shelf.Lays
import Derived.Shelf.SlLaysF
import Derived.Shelf.SlLaysF0
import Derived.Test.YtmcfcgaiecgdhaaGreatProg
import Derived.Test.YtmcfcgaiecgdhaaGreatRows
section
namespace Go.Pl
open Go Go.RowKit Go.Sx Go.Qx
def sq (kd:Int)(i:Nat):List Int:=if kd=1 then (if i=0 then [] else [(i:Int)-1]) else
 if i<26 then [97+(i:Int)] else if i<36 then [97,48+((i:Int)-26)] else if i=36 then [97,95] else [97,97+((i:Int)-37)]
def nm (kd:Int)(i:Nat):ByteArray:=b2R (sq kd i)
def abA:ByteArray:=⟨#[97,98,99,100,101,102,103,104,105,106,107,108,109,110,111,112,113,114,115,116,117,118,119,120,121,122]⟩
def abB:ByteArray:=⟨#[48,49,50,51,52,53,54,55,56,57,95,97,98,99,100,101,102,103,104,105,106,107,108,109,110,111,112,113,114,115,116,117,118,119,120,121,122]⟩
def c0y:ByteArray:=⟨((List.range 256).map fun i=>UInt8.ofNat i).toArray⟩
theorem d3W:∀ i,i<60->a9p 0 (sq 0 i)=some (sq 0 (i+1)):=by decide +kernel
theorem d4a:∀ i,i<60->a9p 1 (sq 1 i)=some (sq 1 (i+1)):=by decide +kernel
theorem d2z:∀ i,i<60->a4N (sq 0 i) abA abB=some (sq 0 (i+1)):=by decide +kernel
theorem d3h:∀ i,i<60->a4N (sq 1 i) c0y c0y=some (sq 1 (i+1)):=by decide +kernel
theorem c9J:a7P=some c0y:=by kernel_rfl
theorem c8D:((List.range 60).map fun i=>(nm 0 i).data.toList).Nodup:=by decide +kernel
theorem c9g:((List.range 60).map fun i=>(nm 1 i).data.toList).Nodup:=by decide +kernel
theorem d4Z:∀ i,i<60->Z8 (Key.mk 0 (nm 0 i))=true:=by decide +kernel
theorem d4V:∀ i,i<60->Z8 (Key.mk 1 (nm 1 i))=true:=by decide +kernel
theorem pig {α:Type} [BEq α] [LawfulBEq α]:∀ (l m:List α),l.Nodup->(∀ x∈l,x∈m)->l.length<=m.length
 | [],_,_,_=>Nat.zero_le _
 | x::l,m,hn,h=>by
   rw [List.nodup_cons] at hn
   have hx:=h x (List.mem_cons_self ..)
   have ih:=pig l (m.erase x) hn.2 fun y hy=>(List.mem_erase_of_ne (fun e=>hn.1 (by rw [<- e]; exact hy))).2 (h y (List.mem_cons_of_mem _ hy))
   rw [List.length_erase_of_mem hx] at ih
   have:=List.length_pos_of_mem hx
   rw [List.length_cons]
   omega
theorem d02 (u:Nat->Bool):∀ m,(∃ i,i<=m/\u i=false)->∃ i,i<=m/\u i=false/\∀ j,j<i->u j=true
 | 0,⟨i,h1,h2⟩=>⟨i,h1,h2,fun j hj=>by omega⟩
 | m+1,⟨i,h1,h2⟩=>by
   by_cases h:∃ i,i<=m/\u i=false
   ·obtain ⟨i,a,b⟩:=d02 u m h
    exact ⟨i,by omega,b⟩
   ·refine ⟨i,h1,h2,fun j hj=>?_⟩
    cases hu:u j with
    | true=>rfl
    | false=>exact absurd ⟨j,by omega,hu⟩ h
theorem b1x (x y:ByteArray):Y6 x y=true↔x=y:=by
 rw [b54,decide_eq_true_iff]
 exact ⟨c7S,fun h=>by subst h; exact d3N.self x⟩
def a1N (kd:Int)(used:List Key):List ByteArray:=(used.filter fun k=>k.Kind==kd).map (·.Text)
def inT (l:List ByteArray)(t:ByteArray):Bool:=l.any fun x=>Y6 x t
theorem c6C {l:List ByteArray}{t:ByteArray}:inT l t=true↔t∈l:=by
 unfold inT
 rw [List.any_eq_true]
 exact ⟨fun ⟨x,h1,h2⟩=>by rw [<- (b1x x t).1 h2]; exact h1,fun h=>⟨t,h,(b1x t t).2 rfl⟩⟩
theorem c3M (kd:Int)(l:List Key)(k:Key):a1N kd (l++[k])=if (k.Kind==kd)=true then a1N kd l++[k.Text] else a1N kd l:=by
 unfold a1N
 rw [List.filter_append]
 cases h:(k.Kind==kd) with
 | true=>simp [List.filter,h]
 | false=>simp [List.filter,h]
theorem c0Y (kd:Int)(l:List Key):(a1N kd l).length<=l.length:=by
 unfold a1N
 rw [List.length_map]
 exact List.length_filter_le _ _
def frN (kd:Int)(used:List Key):Nat:=((List.range 60).find? fun i=>!inT (a1N kd used) (nm kd i)).getD 0
def frK (kd:Int)(used:List Key):Key:=Key.mk kd (nm kd (frN kd used))
theorem d20 {kd:Int}(hk:kd=0\/kd=1):((List.range 60).map fun i=>nm kd i).Nodup:=by
 have h:((List.range 60).map fun i=>(nm kd i).data.toList).Nodup:=by
  rcases hk with rfl | rfl
  ·exact c8D
  ·exact c9g
 have e:((List.range 60).map fun i=>(nm kd i).data.toList)=((List.range 60).map fun i=>nm kd i).map fun s=>s.data.toList:=by rw [List.map_map]; rfl
 rw [e] at h
 exact (List.pairwise_map.1 h).imp fun hne e=>hne (by rw [e])
theorem c5U {kd:Int}(hk:kd=0\/kd=1){used:List Key}(hl:used.length<=50):frN kd used<=50/\inT (a1N kd used) (nm kd (frN kd used))=false/\∀ j,j<frN kd used->inT (a1N kd used) (nm kd j)=true:=by
 have htl:=c0Y kd used
 have hex:∃ i,i<=50/\inT (a1N kd used) (nm kd i)=false:=by
  apply Classical.byContradiction
  intro hno
  have hall:∀ x∈(List.range 51).map fun i=>nm kd i,x∈a1N kd used:=fun x hx=>by
   obtain ⟨i,hi,rfl⟩:=List.mem_map.1 hx
   rw [List.mem_range] at hi
   cases hu:inT (a1N kd used) (nm kd i) with
   | true=>exact c6C.1 hu
   | false=>exact absurd ⟨i,by omega,hu⟩ hno
  have hnd:((List.range 51).map fun i=>nm kd i).Nodup:=by
   have h:=d20 hk
   have e:(List.range 51).map (fun i=>nm kd i)=((List.range 60).map fun i=>nm kd i).take 51:=by rw [<- List.map_take,List.take_range]; rfl
   rw [e]
   exact h.sublist (List.take_sublist _ _)
  have:LawfulBEq ByteArray:={ eq_of_beq:=fun h=>(MapKept.bytes_beq _ _).1 h,rfl:=(MapKept.bytes_beq _ _).2 rfl }
  have:=pig _ _ hnd hall
  rw [List.length_map,List.length_range] at this
  omega
 obtain ⟨i,h1,h2,h3⟩:=d02 (fun i=>inT (a1N kd used) (nm kd i)) 50 hex
 have hf:frN kd used=i:=by
  unfold frN
  rw [b2a (l:=List.range 60) (i:=i) (x:=i) (by rw [List.getElem?_range (by omega)]) (by rw [h2]; rfl) fun j hj y hy=>by
   rw [List.getElem?_range (by omega)] at hy
   cases hy
   rw [h3 j hj]
   rfl]
  rfl
 rw [hf]
 exact ⟨h1,h2,h3⟩
section
variable {kd:Int}{used:List Key}
theorem d2p (kd:Int):a2z kd 0=some []:=by rfl
theorem d2y (hl:used.length<=4194304) :
 ∃ m,z7 (a32 kd used) (used.length+1) (([]:List (ByteArray×Bool)),0)=some m/\∀ t,(a5a m t).getD false=inT (a1N kd used) t:=by
 obtain ⟨r,e,h⟩:=a7k (σ:=List (ByteArray×Bool)) (step:=a32 kd used) (fun m i=>(m,i)) used.length (fun j m=>∀ t,(a5a m t).getD false=inT (a1N kd (used.take j)) t) (fun m=>∀ t,(a5a m t).getD false=inT (a1N kd used) t)
  (fun j m hj hI=>by
    have ej:=List.getElem?_eq_getElem hj
    unfold a32
    simp only [k8]
    rw [k9 hj,y4 ej,j5 j (by omega),a2n ej,c3M]
    simp only [cond_true,Option.bind_some]
    cases hk:(used[j].Kind==kd) with
    | false=>exact .inl ⟨m,rfl,fun t=>by rw [if_neg (by simp)]; exact hI t⟩
    | true =>
      refine .inl ⟨a7Q m used[j].Text true,rfl,fun t=>?_⟩
      rw [if_pos rfl,c9V]
      unfold inT
      rw [List.any_append]
      have hI':=hI t
      unfold inT at hI'
      by_cases e:t=used[j].Text
      ·rw [if_pos e]
       simp [e,(b1x used[j].Text used[j].Text).2 rfl]
      ·rw [if_neg e,hI']
       have:Y6 used[j].Text t=false:=by
        cases hs:Y6 used[j].Text t with
        | false=>rfl
        | true=>exact absurd ((b1x _ _).1 hs).symm e
       simp [this])
  (fun m hI=>⟨m,by
    unfold a32
    simp,by rw [List.take_length] at hI; exact hI⟩) [] (fun t=>by simp [a1N,inT,a5a])
 exact ⟨r,e,h⟩
theorem d0s (hk:kd=0\/kd=1)(hl:used.length<=50)(n:Nat)(hn:60<=n):a7F n kd used=some (frK kd used):=by
 obtain ⟨h1,h2,h3⟩:=c5U hk hl
 obtain ⟨m,em,hm⟩:=d2y (kd:=kd) (used:=used) (by omega)
 have hnext:∀ i,i<60->a9p kd (sq kd i)=some (sq kd (i+1)):=by
  rcases hk with rfl | rfl
  ·exact d3W
  ·exact d4a
 have h4:=a3g (step:=a4c kd) (fun i=>(m,sq kd i)) (frN kd used) (m,sq kd (frN kd used)) (fun i hi=>by
  unfold a4c
  rw [hm,show b2R (sq kd i)=nm kd i from rfl,h3 i hi]
  simp only [cond_true]
  rw [hnext i (by omega)]
  rfl) (by
  unfold a4c
  rw [hm,show b2R (sq kd (frN kd used))=nm kd (frN kd used) from rfl,h2]
  rfl) n (by omega)
 have hb:(Option.bind (a2z kd 0) fun r5=>Option.bind (bif kd==0 then (Option.bind (a2z kd 1) fun r6=>some r6) else (some r5)) fun b7=>Option.bind (z7 (a4c kd) n (m,b7)) fun b10=>some (Key.mk kd (b2R b10.2)))=some (frK kd used):=by
  have hq:(bif kd==0 then (Option.bind (a2z kd 1) fun r6=>some r6) else (some ([]:List Int)))=some (sq kd 0):=by
   rcases hk with rfl | rfl
   ·rfl
   ·rfl
  rw [d2p]
  simp only [Option.bind_some]
  rw [hq]
  simp only [Option.bind_some]
  rw [h4]
  rfl
 have hc:(bif kd != 0 then (some (kd != 1)) else (some false))=some false:=by rcases hk with rfl | rfl<;>rfl
 unfold a7F
 rw [hc,w6,em]
 simp only [Option.bind_some,cond_false]
 exact hb
theorem c8U (hk:kd=0\/kd=1)(hl:used.length<=50)(n:Nat)(hn:60<=n):a4r n kd used=some (frK kd used):=by
 obtain ⟨h1,h2,h3⟩:=c5U hk hl
 have htl:=c0Y kd used
 have e1:=a3g (step:=a1J kd used) (fun j=>(a1N kd (used.take j),(j:Int))) used.length (a1N kd used) (fun j hj=>by
  have ej:=List.getElem?_eq_getElem hj
  have hj2:=c0Y kd (used.take j)
  rw [List.length_take] at hj2
  unfold a1J
  simp only [k8]
  rw [k9 hj,y4 ej,j5 j (by omega),a2n ej,c3M]
  simp only [cond_true,Option.bind_some]
  cases hk:(used[j].Kind==kd) with
  | false=>rfl
  | true =>
    simp only [cond_true]
    rw [v7 (by simp only [List.length_cons,List.length_nil]; omega)]
    rfl) (by
  unfold a1J
  rw [List.take_length]
  simp) (used.length+1) (Nat.le_refl _)
 have e1':z7 (a1J kd used) (used.length+1) ([],0)=some (a1N kd used):=e1
 have among:∀ t,a5L (a1N kd used) t=some (inT (a1N kd used) t):=fun t=>by
  unfold a5L
  rw [w6]
  rcases a4A (step:=a4s (a1N kd used) t) (a1N kd used) (fun x=>Y6 x t) (fun _ _=>true) (fun i x hx=>by
   have hi:=(List.getElem?_eq_some_iff.1 hx).1
   unfold a4s
   rw [k9 hi,y4 hx]
   simp only [cond_true,Option.bind_some,k8]
   rw [j5 i (by omega)]
   cases Y6 x t<;>rfl) (by
   unfold a4s
   simp) with ⟨i,x,hx,hp,_,e⟩ | ⟨h,e⟩
  ·rw [e]
   have:inT (a1N kd used) t=true:=List.any_eq_true.2 ⟨x,List.mem_of_getElem? hx,hp⟩
   rw [this]
   rfl
  ·rw [e]
   have:inT (a1N kd used) t=false:=h
   rw [this]
   rfl
 have core:∀ (f o:ByteArray),(∀ i,i<60->a4N (sq kd i) f o=some (sq kd (i+1)))->z7 (a0T (a1N kd used) (f,o,sq kd 0)) n (sq kd 0)=some (sq kd (frN kd used)):=fun f o hnext =>
  a3g (step:=a0T (a1N kd used) (f,o,sq kd 0)) (fun i=>sq kd i) (frN kd used) (sq kd (frN kd used)) (fun i hi=>by
   unfold a0T
   rw [show b2R (sq kd i)=nm kd i from rfl,among,h3 i hi]
   simp only [Option.bind_some,cond_true]
   rw [hnext i (by omega)]
   rfl) (by
   unfold a0T
   rw [show b2R (sq kd (frN kd used))=nm kd (frN kd used) from rfl,among,h2]
   rfl) n (by omega)
 have e2:a5K n kd (a1N kd used)=some (nm kd (frN kd used)):=by
  unfold a5K
  rcases hk with rfl | rfl
  ·have hc:=core abA abB d2z
   show Option.bind (z7 (a0T (a1N 0 used) (abA,abB,sq 0 0)) n (sq 0 0)) _=_
   rw [hc]
   rfl
  ·have hc:=core c0y c0y d3h
   rw [c9J]
   show Option.bind (z7 (a0T (a1N 1 used) (c0y,c0y,sq 1 0)) n (sq 1 0)) _=_
   rw [hc]
   rfl
 have hc:(bif kd != 0 then (some (kd != 1)) else (some false))=some false:=by rcases hk with rfl | rfl<;>rfl
 unfold a4r
 rw [hc,w6,e1']
 simp only [Option.bind_some,cond_false]
 rw [e2]
 rfl
theorem d22 (hk:kd=0\/kd=1)(hl:used.length<=50):Z8 (frK kd used)=true/\frK kd used ∉ used:=by
 obtain ⟨h1,h2,_⟩:=c5U hk hl
 refine ⟨?_,fun hm=>?_⟩
 ·unfold frK
  rcases hk with rfl | rfl
  ·exact d4Z _ (by omega)
  ·exact d4V _ (by omega)
 ·have:nm kd (frN kd used)∈a1N kd used:=by
   unfold a1N
   refine List.mem_map.2 ⟨frK kd used,List.mem_filter.2 ⟨hm,?_⟩,rfl⟩
   show (kd==kd)=true
   simp
  rw [c6C.2 this] at h2
  cases h2
end
end Go.Pl
end
section
namespace Go.Pl
open Go Go.RowKit Go.Sx Go.Qx
theorem c3t {α:Type}{step:List α×Int->Option (Fl (List α×Int) (List α))}(xs:List α)(bytes:Nat)
 (hst:∀ (i:Nat) (s:List α) (x:α),xs[i]?=some x->step (s,(i:Int))=Option.bind (w5 (s.length+1) bytes) fun _=>some (.next (s++[x],w64 ((i:Int)+1))))
 (hend:∀ s,step (s,(xs.length:Int))=some (.done s))
 (hb:bytes<=1024) (hl:xs.length<=4194304) :
 z7 step (xs.length+1) (([]:List α),0)=some xs:=by
 have:=a2T (σ:=List α) (step:=step) xs (fun s i=>(s,(i:Int))) (fun s x=>s++[x]) (fun i s=>s=xs.take i) (fun s=>s)
  ?_ (fun s _=>hend s) [] (by simp) _ (Nat.le_refl _)
 ·have hf:∀ (l:List α) (s:List α),l.foldl (fun s x=>s++[x]) s=s++l:=by
   intro l
   induction l with
   | nil=>intro s; simp
   | cons x r ih=>intro s; rw [List.foldl_cons,ih]; simp
  rw [hf] at this
  simpa using this
 ·intro i s x hx hI
  have hi:i<xs.length:=(List.getElem?_eq_some_iff.1 hx).1
  have hs:s.length=i:=by rw [hI,List.length_take]; omega
  refine ⟨?_,by rw [a2n hx,hI]⟩
  rw [hst i s x hx,v7 (by
   have:(s.length+1)*bytes<=4194305*1024:=Nat.mul_le_mul (by omega) hb
   omega)]
  simp only [Option.bind_some]
  rw [K6 (x:=(i:Int)+1) (by omega) (by omega)]
  rfl
theorem a7j:∀ (k:Nat),
 (∀ v,2*w9 v<=k->w9 v<=4194304->(Z2 k).1 v=some v) /\
 (∀ vs,2*v8 vs+1<=k->v8 vs<=4194304->(Z2 k).2.1 vs=some vs) /\
 (∀ es,2*Z3 es+1<=k->Z3 es<=4194304->(Z2 k).2.2 es=some es)
 | 0=>⟨fun v h=>by have:=b0D v; omega,fun _ h=>by omega,fun _ h=>by omega⟩
 | k+1=>by
   obtain ⟨i2,i1,i3⟩:=a7j k
   refine ⟨?_,?_,?_⟩
   ·intro v h hb
    show b04 k (Z2 k).1 (Z2 k).2.1 (Z2 k).2.2 v=_
    have hbe:=a3R v
    have hk:=a7d v.Keys
    have hs:=a5W v.Labels
    unfold b04 a0n
    rw [i1 v.Kids (by omega) (by omega),i3 v.Entries (by omega) (by omega),v7 (by omega),v7 (by omega)]
    simp only [Option.bind_some]
    cases v
    rfl
   ·intro vs h hb
    show a8n k (Z2 k).1 (Z2 k).2.1 (Z2 k).2.2 vs=_
    unfold a8n
    have hl:=a6j vs
    rw [w6,c3t (step:=a5P vs (Z2 k).1) vs 128 ?_ ?_ (by omega) (by omega)]
    ·simp only [Option.bind_some]
    ·intro i s x hx
     have hi:i<vs.length:=(List.getElem?_eq_some_iff.1 hx).1
     have hm:=a2H (List.mem_of_getElem? hx)
     unfold a5P
     simp only [X6,k8]
     rw [if_pos (by simp; omega),y4 hx]
     simp only [Option.bind_some]
     rw [i2 x (by omega) (by omega)]
     rfl
    ·intro s
     unfold a5P
     simp
   ·intro es h hb
    show a6p k (Z2 k).1 (Z2 k).2.1 (Z2 k).2.2 es=_
    unfold a6p
    have hl:=a5s es
    rw [w6,c3t (step:=a3E es (Z2 k).2.1 (Z2 k).1) es 160 ?_ ?_ (by omega) (by omega)]
    ·simp only [Option.bind_some]
    ·intro i s x hx
     have hi:i<es.length:=(List.getElem?_eq_some_iff.1 hx).1
     have hm:=a2a (List.mem_of_getElem? hx)
     have he:=a3b x
     unfold a3E
     simp only [X6,k8]
     rw [if_pos (by simp; omega),y4 hx]
     simp only [Option.bind_some,Int.toNat_natCast,hx]
     rw [i1 x.Args (by omega) (by omega)]
     simp only [Option.bind_some]
     rw [i2 x.Result (by omega) (by omega)]
     simp only [Option.bind_some]
     cases x
     rfl
    ·intro s
     unfold a3E
     simp
end Go.Pl
end
section
namespace Go.Pl
open Go Go.RowKit Go.Sx Go.Qx
theorem d21 (fuel:Nat)(v:Val)(h:2*w9 v<=fuel)(hb:w9 v<=4194304):a8c fuel v=some v:=(a7j fuel).1 v h hb
def rng (n:Nat):List Int:=(List.range n).map fun i:Nat=>(i:Int)
theorem d0v (n:Nat):rng (n+1)=rng n++[(n:Int)]:=by simp [rng,List.range_succ]
theorem b1Z (n:Nat):(rng n).length=n:=by simp [rng]
theorem a5i {n:Nat}{x:Int}(h:x∈rng n):∃ i:Nat,i<n/\x=(i:Int):=by
 obtain ⟨i,hi,e⟩:=List.mem_map.1 h
 exact ⟨i,List.mem_range.1 hi,e.symm⟩
theorem d0y (keys:List Key)(hl:keys.length<=4194304):z7 (a4G keys) (keys.length+1) ([],0)=some (rng keys.length):=by
 have key:∀ (m i k:Nat),i+m=keys.length->m+1<=k->z7 (a4G keys) k (rng i,(i:Int))=some (rng keys.length):=by
  intro m
  induction m with
  | zero =>
    intro i k h1 h2
    obtain ⟨k,rfl⟩:∃ m,k=m+1:=⟨k-1,by omega⟩
    have e:i=keys.length:=by omega
    subst e
    have:a4G keys (rng keys.length,(keys.length:Int))=some (.done (rng keys.length)):=by
     unfold a4G
     simp
    simp only [z7,this,Option.bind_some]
  | succ m ih =>
    intro i k h1 h2
    obtain ⟨k,rfl⟩:∃ m,k=m+1:=⟨k-1,by omega⟩
    have:a4G keys (rng i,(i:Int))=some (.next (rng (i+1),((i+1:Nat):Int))):=by
     unfold a4G
     simp only [X6,k8]
     rw [if_pos (by simp; omega),v7 (by rw [b1Z]; simp; omega),d0v,j5 i (by omega)]
     rfl
    simp only [z7,this,Option.bind_some]
    exact ih (i+1) k (by omega) (by omega)
 exact key keys.length 0 (keys.length+1) (by omega) (Nat.le_refl _)
theorem c9r (fuel:Nat)(keys:List Key)(l:List Val)(r:Unit×List Int)(i:Nat)(z:Int)(k:Key)(x:Val)(hz:r.2[i]?=some z)(hk:idx keys z=some k)(hx:idx l z=some x)(hc:a8c fuel x=some x)
 (s:List Val×List Key) (hs:s.1.length=s.2.length) (hl:s.2.length<=4194304) (hi:i<=4194304) :
 a3z keys l r fuel ((i:Int),K4,a21 s)=some (match b85 s (k,x) with | some t=>.next (((i+1:Nat):Int),K4,a21 t) | none=>.done (.inr (6,K4,a21 s))):=by
 have hlt:i<r.2.length:=(List.getElem?_eq_some_iff.1 hz).1
 have hiz:idx r.2 (i:Int)=some z:=y4 hz
 unfold a3z
 simp only [X6,k8]
 rw [if_pos (by simp; omega),hiz]
 simp only [Option.bind_some,hk,hx,hc]
 have rmk:w5 (s.2.length+[k].length) 24=some ():=v7 (by simp; omega)
 have rmv:w5 (s.1.length+[x].length) 128=some ():=v7 (by simp; omega)
 rw [rmk,rmv,j5 i (by omega)]
 simp only [Option.bind_some]
 unfold b85
 cases hg:s.2.getLast? with
 | none =>
   have e:=List.getLast?_eq_none_iff.1 hg
   rw [if_neg (by simp [e]),if_neg (by simp)]
   rfl
 | some y =>
   have hgl:=hg
   rw [List.getLast?_eq_getElem?] at hgl
   have hpos:s.2.length-1<s.2.length:=(List.getElem?_eq_some_iff.1 hgl).1
   have ew:w64 ((s.2.length:Int)-1)=((s.2.length-1:Nat):Int):=by rw [K6 (by omega) (by omega)]; omega
   rw [if_pos (by simp; omega),ew,y4 hgl]
   simp only [Option.bind_some,Option.map_some]
   rw [show ((s.2.length-1:Nat):Int).toNat=s.2.length-1 by omega,hgl]
   simp only [Option.bind_some]
   cases hq:Z7 y k
   ·unfold Z7 at hq
    rw [hq,if_neg (by simp),if_neg (by simp)]
   ·unfold Z7 at hq
    rw [hq,if_pos rfl,if_pos rfl]
theorem d0N {s t:List Val×List Key}{x:Key×Val}(h:b85 s x=some t)(hs:s.1.length=s.2.length):t.1.length=t.2.length/\t.2.length=s.2.length+1:=by
 unfold b85 at h
 split at h
 ·cases h
 ·cases h
  exact ⟨by simp [hs],by simp⟩
theorem c9h (fuel:Nat)(keys:List Key)(l:List Val)(r:Unit×List Int)(ps:List (Key×Val))(hps:ps.length=r.2.length)(hl:r.2.length<=4194304)
 (hat:∀ (i:Nat) (z:Int) (q:Key×Val),r.2[i]?=some z->ps[i]?=some q->idx keys z=some q.1/\idx l z=some q.2/\a8c fuel q.2=some q.2) :
 ∃ y,z7 (a3z keys l r fuel) (r.2.length+1) (0,K4,a21 ([],[]))=some (match a8e ps ([],[]) with | some t=>.inl (K4,a21 t) | none=>.inr (6,K4,y)):=by
 have key:∀ (m i k:Nat) (s:List Val×List Key),i+m=r.2.length->m+1<=k->s.1.length=s.2.length->s.2.length<=i ->
  ∃ y,z7 (a3z keys l r fuel) k ((i:Int),K4,a21 s)=some (match a8e (ps.drop i) s with | some t=>.inl (K4,a21 t) | none=>.inr (6,K4,y)):=by
  intro m
  induction m with
  | zero =>
    intro i k s h1 h2 hs hn
    obtain ⟨k,rfl⟩:∃ m,k=m+1:=⟨k-1,by omega⟩
    have e:i=r.2.length:=by omega
    subst e
    rw [<- hps,List.drop_length,hps]
    have:a3z keys l r fuel ((r.2.length:Int),K4,a21 s)=some (.done (.inl (K4,a21 s))):=by
     unfold a3z
     simp
    exact ⟨K4,by simp only [z7,this,a8e,Option.bind_some]⟩
  | succ m ih =>
    intro i k s h1 h2 hs hn
    obtain ⟨k,rfl⟩:∃ m,k=m+1:=⟨k-1,by omega⟩
    have hlt:i<ps.length:=by omega
    have hlt2:i<r.2.length:=by omega
    rw [List.drop_eq_getElem_cons hlt]
    obtain ⟨a1,a2,a3⟩:=hat i _ _ (List.getElem?_eq_getElem hlt2) (List.getElem?_eq_getElem hlt)
    have hy:=c9r fuel keys l r i _ _ _ (List.getElem?_eq_getElem hlt2) a1 a2 a3 s hs (by omega) (by omega)
    simp only [z7,hy,a8e]
    cases hi:b85 s ps[i] with
    | none=>exact ⟨a21 s,by simp⟩
    | some t =>
      obtain ⟨h3,h4⟩:=d0N hi hs
      simp only [Option.bind_some]
      exact ih (i+1) k t (by omega) (by omega) h3 (by omega)
 obtain ⟨y,hy⟩:=key r.2.length 0 (r.2.length+1) ([],[]) (by omega) (Nat.le_refl _) rfl (Nat.le_refl _)
 exact ⟨y,by simpa using hy⟩
theorem d1S (fuel:Nat)(keys:List Key)(l:List Val)(hl:keys.length<=4194304)(hf:∀ v∈l,2*w9 v<=fuel/\w9 v<=4194304) :
 b0N fuel keys l=some (if keys.length=l.length/\keys.all Z8=true then (match a1F (keys.zip l) ([],[]) with | some t=>((a1K t,0):Val×Int) | none=>(a5y,6)) else (a5y,1)):=by
 unfold b0N
 simp only [w6]
 by_cases hkl:keys.length=l.length
 ·have e1:((keys.length:Int) != (l.length:Int))=false:=by simp; omega
  rw [e1]
  have k1:=K9 (step:=a6e keys) keys Z8 (fun i=>((i:Int),K4)) K4 (1,K4) ?_ ?_
  ·have e2:z7 (a6e keys) (keys.length+1) (0,(0,0,(⟨#[]⟩:ByteArray),[],[],[],[]))=z7 (a6e keys) (keys.length+1) (((0:Nat):Int),K4):=rfl
   rw [e2,k1]
   by_cases ha:keys.all Z8=true
   ·rw [if_pos ha,if_pos ⟨hkl,ha⟩,d0y keys hl]
    simp only [Option.bind_some,j9,cond_false]
    have hg:∀ i j:Nat,(hi:i<keys.length)->(hj:j<keys.length)->(Option.bind (a2x (i:Int) (j:Int) keys) fun r=>some r)=some (cK keys[i] keys[j]):=by
     intro i j hi hj
     unfold a2x
     rw [y4 (List.getElem?_eq_getElem hi),y4 (List.getElem?_eq_getElem hj)]
     simp only [Option.bind_some,b0o]
    have hlt:∀ i j:Nat,(hi:i<keys.length)->(hj:j<keys.length)->ltB (fun z10 z11=>Option.bind (a2x z10 z11 keys) fun r=>some r) (i:Int) (j:Int)=decide (cK keys[i] keys[j]<0):=by
     intro i j hi hj
     have:=hg i j hi hj
     simp only [ltB,this]
    have hwk:Swk (ltB fun z10 z11=>Option.bind (a2x z10 z11 keys) fun r=>some r) (rng keys.length):=by
     refine ⟨fun x hx=>?_,fun x hx y hy z hz h1 h2=>?_,fun x hx y hy z hz h1 h2=>?_⟩
     ·obtain ⟨i,hi,rfl⟩:=a5i hx
      rw [hlt i i hi hi,b9y]; rfl
     ·obtain ⟨i,hi,rfl⟩:=a5i hx
      obtain ⟨j,hj,rfl⟩:=a5i hy
      obtain ⟨n,hn,rfl⟩:=a5i hz
      rw [hlt _ _ hi hj] at h1
      rw [hlt _ _ hj hn] at h2
      rw [hlt _ _ hi hn]
      simp only [decide_eq_true_eq] at *
      exact b3A h1 (by omega)
     ·obtain ⟨i,hi,rfl⟩:=a5i hx
      obtain ⟨j,hj,rfl⟩:=a5i hy
      obtain ⟨n,hn,rfl⟩:=a5i hz
      rw [hlt _ _ hi hj] at h1
      rw [hlt _ _ hj hn] at h2
      rw [hlt _ _ hi hn]
      simp only [decide_eq_false_iff_not] at *
      have a1:=a3O keys[i] keys[j]
      have a2:=a3O keys[j] keys[n]
      have a3:=a3O keys[i] keys[n]
      have:=b2Q keys[n] keys[j] keys[i] (by omega) (by omega)
      omega
    have hok:OkCmp (rng keys.length) fun z10 z11=>Option.bind (a2x z10 z11 keys) fun r=>some r:=by
     refine ⟨by rw [b1Z]; omega,fun x hx y hy=>?_,hwk⟩
     obtain ⟨i,hi,rfl⟩:=a5i hx
     obtain ⟨j,hj,rfl⟩:=a5i hy
     exact ⟨_,hg i j hi hj⟩
    have hsort:a64 (α:=Int) (rng keys.length) (fun z10 z11=>Option.bind (a2x z10 z11 keys) fun r=>some r)=some ((),a7x (ltB fun z10 z11=>Option.bind (a2x z10 z11 keys) fun r=>some r) (rng keys.length)):=by
     unfold a64 c1S
     rw [if_pos hok]
     rfl
    rw [hsort]
    obtain ⟨hp,hsr⟩:=b38 hwk
    generalize a7x (ltB fun z10 z11=>Option.bind (a2x z10 z11 keys) fun r=>some r) (rng keys.length)=p at hp hsr
    simp only [Option.bind_some]
    let f:Int->Key×Val:=fun z=>((keys[z.toNat]?).getD ⟨0,⟨#[]⟩⟩,(l[z.toNat]?).getD a5y)
    have hf2:∀ i:Nat,(hi:i<keys.length)->f (i:Int)=(keys[i],l[i]'(by omega)):=by
     intro i hi
     have h2:i<l.length:=by omega
     simp [f,hi,h2]
    have hzip:(rng keys.length).map f=keys.zip l:=by
     apply List.ext_getElem
     ·rw [List.length_map,b1Z,List.length_zip]; omega
     ·intro i h1 h2
      have hi:i<keys.length:=by rw [List.length_map,b1Z] at h1; exact h1
      rw [List.getElem_map,List.getElem_zip]
      have:(rng keys.length)[i]'(by rw [b1Z]; exact hi)=(i:Int):=by simp [rng]
      rw [this,hf2 i hi]
    have hpp:(p.map f).Perm (keys.zip l):=by rw [<- hzip]; exact hp.map f
    have hsorted:((p.map f).map (·.1)).Pairwise fun a b=>¬ cK b a<0:=by
     rw [List.map_map,List.pairwise_map]
     refine List.Pairwise.imp_of_mem (fun {a b} ha hb h=>?_) hsr
     obtain ⟨i,hi,rfl⟩:=a5i (hp.mem_iff.1 ha)
     obtain ⟨j,hj,rfl⟩:=a5i (hp.mem_iff.1 hb)
     rw [hlt _ _ hj hi] at h
     simp only [Function.comp,hf2 i hi,hf2 j hj]
     simpa using h
    have hplen:p.length=keys.length:=by rw [hp.length_eq,b1Z]
    obtain ⟨y,hy⟩:=c9h fuel keys l ((),p) (p.map f) (by simp) (by simp only; omega) (by
     intro i z q hz hq
     simp only at hz
     rw [List.getElem?_map,hz] at hq
     obtain ⟨j,hj,rfl⟩:=a5i (hp.mem_iff.1 (List.mem_of_getElem? hz))
     simp only [Option.map_some,Option.some.injEq] at hq
     rw [hf2 j hj] at hq
     subst hq
     have h2:j<l.length:=by omega
     obtain ⟨b1,b2⟩:=hf l[j] (List.getElem_mem h2)
     exact ⟨y4 (List.getElem?_eq_getElem hj),y4 (List.getElem?_eq_getElem h2),d21 fuel _ b1 b2⟩)
    rw [c7B hkl hpp hsorted] at hy
    simp only at hy
    have hy':z7 (a3z keys l ((),p) fuel) (p.length+1) (0,(K4.1,K4.2.1,K4.2.2.1,K4.2.2.2.1,K4.2.2.2.2.1,K4.2.2.2.2.2.1,K4.2.2.2.2.2.2),(8,0,(⟨#[]⟩:ByteArray),[],[],[],[]))=_:=hy
    rw [hy']
    cases a1F (keys.zip l) ([],[])<;>rfl
   ·rw [if_neg ha,if_neg (fun h=>ha h.2)]
    rfl
  ·intro i x hx
   have hi:i<keys.length:=(List.getElem?_eq_some_iff.1 hx).1
   unfold a6e
   simp only [X6,k8]
   rw [if_pos (by simp; omega),y4 hx]
   simp only [Option.bind_some,c4r,j5 i (by omega)]
   cases Z8 x<;>rfl
  ·unfold a6e
   simp
 ·have e1:((keys.length:Int) != (l.length:Int))=true:=by simp; omega
  rw [e1,if_neg (fun h=>hkl h.1)]
  rfl
theorem d2u {keys:List Key}{l:List Val}(ha:keys.all Z8=true)(hv:a03 l=true){t:List Val×List Key}(h:a1F (keys.zip l) ([],[])=some t):vOK (a1K t)=true/\w9 (a1K t)<=8+w3 keys+v8 l:=by
 obtain ⟨m1,m2,m3,m4,m5,m6⟩:=a8Z _ _ _ h rfl rfl
 have hz:=b3R keys l
 simp only [v8,w3] at m6
 refine ⟨?_,?_⟩
 ·rw [c62]
  have a1:t.2.all Z8=true:=List.all_eq_true.2 fun y hy=>by
   rcases m4 y hy with hy | ⟨x,hx,rfl⟩
   ·simp at hy
   ·exact List.all_eq_true.1 ha _ (List.of_mem_zip hx).1
  have a2:a03 t.1=true:=by
   rw [a3P]
   rw [a3P] at hv
   exact List.all_eq_true.2 fun y hy=>by
    rcases m5 y hy with hy | ⟨x,hx,rfl⟩
    ·simp at hy
    ·exact List.all_eq_true.1 hv _ (List.of_mem_zip hx).2
  rw [a2]
  simp only [b1C,a1K,Val.Keys,Val.Kids]
  rw [a1,m1,m2]
  simp
 ·simp only [a1K,V3,a20,Z3]
  omega
theorem c3s {b:Nat}:∀ {l:List Val},(∀ v∈l,w9 v<=b)->v8 l<=l.length*b
 | [],_=>by simp [v8]
 | x::r,h=>by
   have h1:=h x (by simp)
   have h2:=c3s (l:=r) fun v hv=>h v (by simp [hv])
   simp only [v8,List.length_cons,Nat.add_mul]
   omega
end Go.Pl
end
section
namespace Go.Pl
open Go Go.RowKit Go.Sx Go.Qx
def V9 (s:Api_Shape)(parts:List Val):List (Key×Val):=((s.Keys.zip (s.States.zip parts)).filter fun q=>q.2.1==1).map fun q=>(q.1,q.2.2)
def a6i (T:Api_Type)(s:Api_Shape)(parts:List Val):Bool:=(s.Parts.zip (s.States.zip parts)).all fun q=>q.2.1 != 1||gM T q.2.2 q.1
def a4X (T:Api_Type)(s:Api_Shape)(vals:List Val):Bool:=(s.Some.zip vals).all fun q=>gM T q.2 q.1.Goal&&gM T q.2 (a8f s q.1.Kind)
def frL:List Api_SomeKey->List Key->List Key
 | [],_=>[]
 | w::r,u=>frK w.Kind u::frL r (u++[frK w.Kind u])
theorem a97 {α β:Type}:∀ {l:List α} {m:List β} {x:α} {y:β},l[m.length]?=some x->l.zip (m++[y])=l.zip m++[(x,y)]
 | [],m,_,_,h=>by simp at h
 | a::l,[],x,y,h=>by
   have h:some a=some x:=h
   cases h
   simp
 | a::l,b::m,x,y,h=>by
   have h:l[m.length]?=some x:=by simpa using h
   simp only [List.cons_append,List.zip_cons_cons,a97 h]
theorem c6u {α β:Type}:∀ (l:List α) (m:List β),((l.zip m).map (·.1)).Sublist l
 | [],_=>by simp
 | a::l,[]=>by simp
 | a::l,b::m=>by
   simp only [List.zip_cons_cons,List.map_cons]
   exact (c6u l m).cons_cons a
theorem c0Q:∀ (l:List Api_SomeKey) (u:List Key) (w:Api_SomeKey),frL (l++[w]) u=frL l u++[frK w.Kind (u++frL l u)]
 | [],u,w=>by simp [frL]
 | x::l,u,w=>by
   simp only [List.cons_append,frL,c0Q l,List.append_assoc,List.nil_append]
theorem b5x:∀ (l:List Api_SomeKey) (u:List Key),(frL l u).length=l.length
 | [],_=>rfl
 | x::l,u=>by simp only [frL,List.length_cons,b5x l]
theorem c5t:∀ (l:List Api_SomeKey) (u:List Key),u.length+l.length<=50->(∀ w∈l,w.Kind=0\/w.Kind=1) ->
 (∀ k∈frL l u,Z8 k=true/\k ∉ u)/\(frL l u).Nodup/\∀ (i:Nat) (w:Api_SomeKey),l[i]?=some w->∃ k,(frL l u)[i]?=some k/\k.Kind=w.Kind
 | [],u,_,_=>⟨fun k h=>(by cases h),List.nodup_nil,fun i w h=>(by simp at h)⟩
 | x::l,u,hl,hk=>by
   have h1:=hk x (List.mem_cons_self ..)
   rw [List.length_cons] at hl
   obtain ⟨a1,a2⟩:=d22 h1 (used:=u) (by omega)
   obtain ⟨b1,b2,b3⟩:=c5t l (u++[frK x.Kind u]) (by rw [List.length_append]; simp only [List.length_cons,List.length_nil]; omega) fun w hw=>hk w (List.mem_cons_of_mem _ hw)
   simp only [frL]
   refine ⟨fun k hm=>?_,?_,fun i w h=>?_⟩
   ·rcases List.mem_cons.1 hm with rfl | hm
    ·exact ⟨a1,a2⟩
    ·obtain ⟨c1,c2⟩:=b1 k hm
     exact ⟨c1,fun h=>c2 (List.mem_append_left _ h)⟩
   ·rw [List.nodup_cons]
    exact ⟨fun hm=>(b1 _ hm).2 (List.mem_append_right _ (List.mem_singleton.2 rfl)),b2⟩
   ·cases i with
    | zero =>
      have h:some x=some w:=h
      cases h
      exact ⟨_,rfl,rfl⟩
    | succ i =>
      have h:l[i]?=some w:=by simpa using h
      obtain ⟨k,e1,e2⟩:=b3 i w h
      exact ⟨k,by simpa using e1,e2⟩
section
variable {T:Api_Type}{s:Api_Shape}{ks:List Key}
theorem c1z {parts:List Val}{k:Key}{st:Int}{v:Val}(hk:s.Keys[parts.length]?=some k)(hs:s.States[parts.length]?=some st):V9 s (parts++[v])=V9 s parts++(if (st==1)=true then [(k,v)] else []):=by
 have h1:(s.States.zip parts).length=parts.length:=by
  have:=(List.getElem?_eq_some_iff.1 hs).1
  rw [List.length_zip]
  omega
 unfold V9
 rw [a97 hs,a97 (by rw [h1]; exact hk),List.filter_append,List.map_append]
 cases h:(st==1)<;>simp [List.filter,h]
theorem c7d {parts:List Val}{g:Api_Goal}{st:Int}{v:Val}(hk:s.Parts[parts.length]?=some g)(hs:s.States[parts.length]?=some st):a6i T s (parts++[v])=(a6i T s parts&&(st != 1||gM T v g)):=by
 have h1:(s.States.zip parts).length=parts.length:=by
  have:=(List.getElem?_eq_some_iff.1 hs).1
  rw [List.length_zip]
  omega
 unfold a6i
 rw [a97 hs,a97 (by rw [h1]; exact hk),List.all_append]
 simp
theorem c7f {vals:List Val}{w:Api_SomeKey}{v:Val}(hk:s.Some[vals.length]?=some w):a4X T s (vals++[v])=(a4X T s vals&&(gM T v w.Goal&&gM T v (a8f s w.Kind))):=by
 unfold a4X
 rw [a97 hk,List.all_append]
 simp
theorem b3E (s:Api_Shape)(parts:List Val):(V9 s parts).length<=s.Keys.length:=by
 unfold V9
 rw [List.length_map]
 exact Nat.le_trans (List.length_filter_le _ _) (by rw [List.length_zip]; omega)
theorem c1B (s:Api_Shape)(parts:List Val):((V9 s parts).map (·.1)).Sublist s.Keys:=by
 unfold V9
 rw [List.map_map]
 have h1:((s.Keys.zip (s.States.zip parts)).map (·.1)).Sublist s.Keys:=by
  exact c6u _ _
 exact (List.filter_sublist.map _).trans h1
theorem c9z {parts:List Val}{q:Key×Val}(h:q∈V9 s parts):q.2∈parts:=by
 unfold V9 at h
 obtain ⟨x,hx,rfl⟩:=List.mem_map.1 h
 exact (List.of_mem_zip (List.of_mem_zip (List.mem_filter.1 hx).1).2).2
def smK (s:Api_Shape)(parts:List Val):List Key:=(V9 s parts).map (·.1)++frL s.Some s.Keys
def smV (s:Api_Shape)(parts vals:List Val):List Val:=(V9 s parts).map (·.2)++vals
theorem d3D {parts vals:List Val}(hv:vals.length=s.Some.length):(smK s parts).zip (smV s parts vals)=V9 s parts++(frL s.Some s.Keys).zip vals:=by
 unfold smK smV
 rw [List.zip_append (by rw [List.length_map,List.length_map])]
 congr 1
 generalize V9 s parts=l
 induction l with
 | nil=>rfl
 | cons x l ih=>simp [ih]
structure ShF (T:Api_Type)(ks:List Key)(s:Api_Shape):Prop where
 fm:SFm T ks s
 ok:SOk T s
 asc:asc cK ks=true
 kok:ks.all Z8=true
 kl:ks.length<=36
theorem c6q (h:ShF T ks s)(parts:List Val):(smK s parts).Nodup/\(smK s parts).all Z8=true/\(smK s parts).length<=42:=by
 have hK:=h.fm.keys
 have hkl:=h.kl
 have hfew:=h.fm.few
 obtain ⟨f1,f2,_⟩:=c5t s.Some s.Keys (by rw [hK]; omega) fun w hw=>(h.fm.some w hw).1
 have hsub:=c1B s parts
 have hnd:s.Keys.Nodup:=by rw [hK]; exact CmpOk.nodup c2X ((CmpOk.asc_pw c2X _).1 h.asc)
 refine ⟨?_,?_,?_⟩
 ·unfold smK
  rw [List.nodup_append]
  exact ⟨hnd.sublist hsub,f2,fun a ha b hb e=>(f1 b hb).2 (by rw [<- e]; exact hsub.subset ha)⟩
 ·unfold smK
  rw [List.all_append,Bool.and_eq_true]
  refine ⟨List.all_eq_true.2 fun k hk=>?_,List.all_eq_true.2 fun k hk=>(f1 k hk).1⟩
  have:=hsub.subset hk
  rw [hK] at this
  exact List.all_eq_true.1 h.kok k this
 ·unfold smK
  have:=hsub.length_le
  rw [List.length_append,b5x]
  rw [hK] at this
  omega
def VS (v:Val):Prop:=vOK v=true/\w9 v<=25500
theorem c6s {parts vals:List Val}(hp:∀ v∈parts,VS v)(hv:∀ v∈vals,VS v):∀ v∈smV s parts vals,VS v:=fun v h=>by
 unfold smV at h
 rcases List.mem_append.1 h with h | h
 ·obtain ⟨q,hq,rfl⟩:=List.mem_map.1 h
  exact hp _ (c9z hq)
 ·exact hv v h
theorem c0j:∀ {l:List Key},l.all Z8=true->w3 l<=l.length*100
 | [],_=>by simp [w3]
 | k::l,h=>by
   rw [List.all_cons,Bool.and_eq_true] at h
   have ih:=c0j h.2
   have h1:a5k k<=100:=by
    have hk:=h.1
    unfold Z8 at hk
    unfold a5k a3a
    split at hk
    ·unfold a4O b2v at hk
     rw [b3B]
     split at hk
     ·cases hk
     ·rename_i c r e
      simp only [Bool.and_eq_true,decide_eq_true_eq] at hk
      rw [e,List.length_cons]
      omega
    ·split at hk
     ·rw [decide_eq_true_eq] at hk
      omega
     ·cases hk
   simp only [w3,List.length_cons,Nat.add_mul]
   omega
theorem d3C (h:ShF T ks s){parts vals:List Val}(hpl:parts.length=s.Keys.length)(hvl:vals.length=s.Some.length)(hp:∀ v∈parts,VS v)(hv:∀ v∈vals,VS v) :
 ∃ t,a1F ((smK s parts).zip (smV s parts vals)) ([],[])=some t/\(smK s parts).length=(smV s parts vals).length/\(t.2.zip t.1).Perm ((smK s parts).zip (smV s parts vals))/\MOk (a1K t)/\vOK (a1K t)=true/\w9 (a1K t)<=1200000:=by
 obtain ⟨k1,k2,k3⟩:=c6q h parts
 have hlen:(smK s parts).length=(smV s parts vals).length:=by
  unfold smK smV
  rw [List.length_append,List.length_append,List.length_map,List.length_map,b5x,hvl]
 have hV:=c6s (s:=s) hp hv
 have hm:=b7R ((smK s parts).zip (smV s parts vals)) ([],[]) rfl rfl
 cases hc:a1F ((smK s parts).zip (smV s parts vals)) ([],[]) with
 | none =>
   rw [hc] at hm
   simp only [List.nil_append] at hm
   rw [List.map_fst_zip (by omega)] at hm
   exact absurd k1 hm
 | some t =>
   rw [hc] at hm
   obtain ⟨m1,m2,m3⟩:=hm
   have m3:(t.2.zip t.1).Perm ((smK s parts).zip (smV s parts vals)):=by simpa using m3
   have hvs:a03 (smV s parts vals)=true:=by
    rw [a3P]
    exact List.all_eq_true.2 fun v hv=>(hV v hv).1
   obtain ⟨o1,o2⟩:=d2u k2 hvs hc
   have b1:=c0j k2
   have b2:=c3s (l:=smV s parts vals) fun v hv=>(hV v hv).2
   have hbulk:w9 (a1K t)<=1200000:=by
    have e:(smV s parts vals).length*25500<=42*25500:=Nat.mul_le_mul_right _ (by omega)
    have e2:(smK s parts).length*100<=42*100:=Nat.mul_le_mul_right _ (by omega)
    omega
   have hl2:t.2.length=(smK s parts).length:=by
    have:=m3.length_eq
    rw [List.length_zip,List.length_zip] at this
    omega
   have hkp:t.2.Perm (smK s parts):=by
    have:=m3.map (·.1)
    rwa [List.map_fst_zip (by omega),List.map_fst_zip (by omega)] at this
   have hvp:t.1.Perm (smV s parts vals):=by
    have:=m3.map (·.2)
    rwa [List.map_snd_zip (by omega),List.map_snd_zip (by omega)] at this
   refine ⟨t,rfl,hlen,m3,⟨by show t.2.length=t.1.length; omega,by show t.2.length<=_; omega,fun k hk=>List.all_eq_true.1 k2 k (hkp.subset hk),m1,fun u hu=>?_⟩,o1,hbulk⟩
   have:=hV u (hvp.subset hu)
   exact ⟨this.1,by have:=this.2; omega⟩
theorem d3Q (h:ShF T ks s){parts vals:List Val}(hpl:parts.length=s.Keys.length)(hvl:vals.length=s.Some.length){t:List Val×List Key}(hM:MOk (a1K t))(hperm:(t.2.zip t.1).Perm ((smK s parts).zip (smV s parts vals)))
 (h1:a6i T s parts=true) (h2:a4X T s vals=true):c2i T (a1K t) s=true:=by
 have hK:=h.fm.keys
 have hst:=h.ok.st
 have hpa:=h.ok.pa
 have hkl:=h.kl
 have hfew:=h.fm.few
 obtain ⟨f1,f2,f3⟩:=c5t s.Some s.Keys (by rw [hK]; omega) fun w hw=>(h.fm.some w hw).1
 have hkv:kv (a1K t)=t.2.zip t.1:=rfl
 have hmem:∀ q,q∈kv (a1K t)↔q∈V9 s parts\/q∈(frL s.Some s.Keys).zip vals:=fun q=>by
  rw [hkv,hperm.mem_iff,d3D hvl,List.mem_append]
 have hnd:s.Keys.Nodup:=by rw [hK]; exact CmpOk.nodup c2X ((CmpOk.asc_pw c2X _).1 h.asc)
 have huniq:=d0c hM
 unfold c2i
 rw [Bool.and_eq_true,Bool.and_eq_true]
 refine ⟨List.all_eq_true.2 fun q hq=>?_,List.all_eq_true.2 fun q hq=>?_,List.all_eq_true.2 fun w hw=>?_⟩
 ·obtain ⟨i,hi,e⟩:=List.getElem_of_mem hq
  have e1:(s.Keys.zip (s.States.zip s.Parts))[i]?=some q:=by rw [List.getElem?_eq_getElem hi,e]
  obtain ⟨eK,e2⟩:=a4K e1
  obtain ⟨eS,eP⟩:=a4K e2
  have hik:=(List.getElem?_eq_some_iff.1 eK).1
  have hip:i<parts.length:=by omega
  have ev:=List.getElem?_eq_getElem hip
  have ez:(s.States.zip parts)[i]?=some (q.2.1,parts[i]):=by rw [List.getElem?_zip_eq_some]; exact ⟨eS,ev⟩
  have ezk:(s.Keys.zip (s.States.zip parts))[i]?=some (q.1,q.2.1,parts[i]):=by rw [List.getElem?_zip_eq_some]; exact ⟨eK,ez⟩
  have ezp:(s.Parts.zip (s.States.zip parts))[i]?=some (q.2.2,q.2.1,parts[i]):=by rw [List.getElem?_zip_eq_some]; exact ⟨eP,ez⟩
  unfold c22
  cases h0:(q.2.1==1) with
  | true =>
    have hst1:q.2.1=1:=by simpa using h0
    have hin:(q.1,parts[i])∈kv (a1K t):=(hmem _).2 (.inl (by
     unfold V9
     exact List.mem_map.2 ⟨_,List.mem_filter.2 ⟨List.mem_of_getElem? ezk,by simpa using h0⟩,rfl⟩))
    have hg:gM T parts[i] q.2.2=true:=by
     have:=List.all_eq_true.1 h1 _ (List.mem_of_getElem? ezp)
     simp only [hst1] at this
     simpa using this
    cases hf:(kv (a1K t)).find? fun p=>Z7 p.1 q.1 with
    | none =>
      have:=List.find?_eq_none.1 hf _ hin
      rw [a7f.2 rfl] at this
      exact absurd rfl this
    | some p =>
      have hp1:p.1=q.1:=a7f.1 (by have:=List.find?_some hf; exact this)
      have:=huniq p (List.mem_of_find?_eq_some hf) _ hin hp1
      rw [this]
      simp only [hst1,hg]
      rfl
  | false =>
    have hnone:(kv (a1K t)).find? (fun p=>Z7 p.1 q.1)=none:=by
     rw [List.find?_eq_none]
     intro p hp hk
     have hk:=a7f.1 hk
     rcases (hmem p).1 hp with hp | hp
     ·unfold V9 at hp
      obtain ⟨x,hx,rfl⟩:=List.mem_map.1 hp
      obtain ⟨hx1,hx2⟩:=List.mem_filter.1 hx
      obtain ⟨j,hj,ej⟩:=List.getElem_of_mem hx1
      have ej1:(s.Keys.zip (s.States.zip parts))[j]?=some x:=by rw [List.getElem?_eq_getElem hj,ej]
      obtain ⟨jK,_⟩:=a4K ej1
      have hjk:=(List.getElem?_eq_some_iff.1 jK).1
      have hij:j=i:=c5k hnd hjk hik (by
       rw [List.getElem?_eq_getElem hjk] at jK
       rw [List.getElem?_eq_getElem hik] at eK
       rw [Option.some.inj jK,Option.some.inj eK]
       exact hk)
      subst hij
      rw [ezk] at ej1
      cases ej1
      simp only at hx2
      rw [h0] at hx2
      cases hx2
     ·have hmk:=(List.of_mem_zip hp).1
      exact (f1 _ hmk).2 (by rw [hk]; exact List.mem_of_getElem? eK)
    rw [hnone]
    unfold bne
    rw [h0]
    rfl
 ·rcases (hmem q).1 hq with hq | hq
  ·have:q.1∈s.Keys:=(c1B s parts).subset (List.mem_map.2 ⟨q,hq,rfl⟩)
   rw [b2u.2 this]
   rfl
  ·obtain ⟨i,hi,e⟩:=List.getElem_of_mem hq
   have e1:((frL s.Some s.Keys).zip vals)[i]?=some q:=by rw [List.getElem?_eq_getElem hi,e]
   obtain ⟨eF,eV⟩:=a4K e1
   have hil:=(List.getElem?_eq_some_iff.1 eV).1
   have eS:s.Some[i]?=some (s.Some[i]'(by omega)):=List.getElem?_eq_getElem (by omega)
   obtain ⟨k,ek,hk⟩:=f3 i _ eS
   rw [ek] at eF
   have eF:=Option.some.inj eF
   have ez:(s.Some.zip vals)[i]?=some (s.Some[i]'(by omega),q.2):=by rw [List.getElem?_zip_eq_some]; exact ⟨eS,eV⟩
   have:=List.all_eq_true.1 h2 _ (List.mem_of_getElem? ez)
   rw [Bool.and_eq_true] at this
   rw [<- eF,hk,this.2,Bool.or_true]
 ·obtain ⟨i,hi,e⟩:=List.getElem_of_mem hw
  have eS:s.Some[i]?=some w:=by rw [List.getElem?_eq_getElem hi,e]
  have hiv:i<vals.length:=by omega
  have eV:=List.getElem?_eq_getElem hiv
  obtain ⟨k,ek,hk⟩:=f3 i w eS
  have ez:(s.Some.zip vals)[i]?=some (w,vals[i]):=by rw [List.getElem?_zip_eq_some]; exact ⟨eS,eV⟩
  have hg:=List.all_eq_true.1 h2 _ (List.mem_of_getElem? ez)
  rw [Bool.and_eq_true] at hg
  have ef:((frL s.Some s.Keys).zip vals)[i]?=some (k,vals[i]):=by rw [List.getElem?_zip_eq_some]; exact ⟨ek,eV⟩
  refine List.any_eq_true.2 ⟨(k,vals[i]),(hmem _).2 (.inr (List.mem_of_getElem? ef)),?_⟩
  have hno:a6s s.Keys k=false:=by
   cases hh:a6s s.Keys k with
   | false=>rfl
   | true=>exact absurd (b2u.1 hh) (f1 k (List.mem_of_getElem? ek)).2
  simp only [hno,hk,hg.1]
  simp
end
end Go.Pl
end
section
namespace Go.Pl
open Go Go.RowKit Go.Sx Go.Qx
section
variable {T:Api_Type}{s:Api_Shape}{ks:List Key}{m:List Int}
theorem d1i (hm:m.length<=4194304)(hT:GT T)(h1:1<=T.Nodes.length)(n:Nat)(hn:200000000<=n){u:Semtypebase_Source}(hu:OS m u) :
 ∃ k u1 v u2,z8 u (T.Nodes.length:Int)=some (k,u1)/\a2V n u1 T k 2=some (v,u2)/\OS m u2/\VS v:=by
 have hl:=hT.len
 obtain ⟨x,t1,e1,g1,x0,x1⟩:=Y0 (L:=m) hm hu (n:=(T.Nodes.length:Int)) (by omega) (by omega)
 obtain ⟨x,rfl⟩:=b2n x0
 obtain ⟨v,u2,e2,g2,ho,hb⟩:=c1u (L:=m) hm hT (h:=2) (by omega) (c5W hm hT 2 (by omega)) n (by omega) x t1 (by omega) g1
 exact ⟨_,t1,v,u2,e1,e2,g2,ho,hb⟩
theorem d4W (hm:m.length<=4194304)(hT:GT T)(hr:inR T.Nodes.length T.Root=true)(h1:1<=T.Nodes.length)(L:Api_Line)(h:ShF T ks s)(n:Nat)(hn:200000000<=n) :
 ∃ parts u,z7 (W8 n (T,L) s) (s.Keys.length+1) (([]:List Val),true,([]:List Key),([]:List Val),0,Semtypebase_Source.mk m 0)=some (parts,a6i T s parts,(V9 s parts).map (·.1),(V9 s parts).map (·.2),u)/\OS m u/\parts.length=s.Keys.length/\∀ v∈parts,VS v:=by
 have hK:=h.fm.keys
 have hst:=h.ok.st
 have hpa:=h.ok.pa
 have hkl:=h.kl
 have hkl2:s.Keys.length<=36:=by rw [hK]; exact h.kl
 obtain ⟨r,e,parts,u,hR,h2,h3,h4⟩:=a7k (σ:=List Val×Semtypebase_Source) (step:=W8 n (T,L) s)
  (fun x i=>(x.1,a6i T s x.1,(V9 s x.1).map (·.1),(V9 s x.1).map (·.2),i,x.2)) s.Keys.length
  (fun j x=>OS m x.2/\x.1.length=j/\∀ v∈x.1,VS v)
  (fun r=>∃ parts u,r=(parts,a6i T s parts,(V9 s parts).map (·.1),(V9 s parts).map (·.2),u)/\OS m u/\parts.length=s.Keys.length/\∀ v∈parts,VS v)
  (fun j x hj hI=>by
    obtain ⟨parts,u⟩:=x
    obtain ⟨hu,hl,hv⟩:=hI
    have hl:parts.length=j:=hl
    obtain ⟨k,u1,v,u2,e1,e2,hu2,hvs⟩:=d1i hm hT h1 n hn hu
    have eK:=List.getElem?_eq_getElem hj
    have eS:s.States[j]?=some (s.States[j]'(by omega)):=List.getElem?_eq_getElem (by omega)
    have eP:s.Parts[j]?=some (s.Parts[j]'(by omega)):=List.getElem?_eq_getElem (by omega)
    have hg:=h.ok.parts _ (List.mem_of_getElem? eP)
    generalize s.Keys[j]=key at eK
    generalize s.States[j]'(by omega)=st at eS
    generalize s.Parts[j]'(by omega)=g at eP hg
    have p1:=c1z (parts:=parts) (v:=v) (by rw [hl]; exact eK) (by rw [hl]; exact eS)
    have p2:=c7d (T:=T) (parts:=parts) (v:=v) (by rw [hl]; exact eP) (by rw [hl]; exact eS)
    have pl:=b3E s parts
    refine .inl ⟨(parts++[v],u2),?_,hu2,by show (parts++[v]).length=_; rw [List.length_append,hl]; rfl,fun w hw=>?_⟩
    ·unfold W8
     simp only [k8]
     rw [k9 hj,e1]
     simp only [cond_true,Option.bind_some]
     rw [e2]
     simp only [Option.bind_some]
     rw [v7 (by simp only [List.length_cons,List.length_nil]; omega),y4 eS,y4 eP,y4 eK,j5 j (by omega)]
     simp only [Option.bind_some]
     rw [p1,p2]
     cases h0:(st==1) with
     | false =>
       have hb:(st != 1)=true:=by unfold bne; rw [h0]; rfl
       rw [hb,if_neg (by simp)]
       simp only [cond_false,Option.bind_some,List.append_nil,Bool.true_or,Bool.and_true]
     | true =>
       have hb:(st != 1)=false:=by unfold bne; rw [h0]; rfl
       rw [hb,if_pos rfl]
       simp only [cond_true,Bool.false_or]
       rw [b0w hT hr ⟨hvs.1,by have:=hvs.2; omega⟩ hg n hn]
       have hq:(bif a6i T s parts then (Option.bind (some (gM T v g)) fun r20=>some r20) else (some false))=some (a6i T s parts&&gM T v g):=by cases a6i T s parts<;>rfl
       rw [hq]
       simp only [Option.bind_some]
       rw [v7 (by simp only [List.length_map,List.length_cons,List.length_nil]; omega),v7 (by simp only [List.length_map,List.length_cons,List.length_nil]; omega)]
       simp only [Option.bind_some,List.map_append,List.map_cons,List.map_nil]
    ·rcases List.mem_append.1 hw with hw | hw
     ·exact hv w hw
     ·rw [List.mem_singleton.1 hw]; exact hvs)
  (fun x hI=>⟨_,by
    unfold W8
    simp,_,_,rfl,hI.1,hI.2.1,hI.2.2⟩) ([],Semtypebase_Source.mk m 0) ⟨⟨rfl,by show (0:Int)<=0; omega,by show (0:Int)<=_; omega⟩,rfl,fun v hv=>by cases hv⟩
 subst hR
 have hg0:a6i T s []=true:=by unfold a6i; simp
 have hp0:V9 s []=[]:=by unfold V9; simp
 have e':z7 (W8 n (T,L) s) (s.Keys.length+1) (([]:List Val),a6i T s [],(V9 s []).map (·.1),(V9 s []).map (·.2),0,Semtypebase_Source.mk m 0)=_:=e
 rw [hg0,hp0] at e'
 exact ⟨parts,u,e',h2,h3,h4⟩
theorem d43 (hm:m.length<=4194304)(hT:GT T)(hr:inR T.Nodes.length T.Root=true)(h1:1<=T.Nodes.length)(L:Api_Line)(h:ShF T ks s)(b:Bool)(K1:List Key)(V1:List Val)(hk1:K1.length<=36)(hv1:V1.length<=36){u:Semtypebase_Source}(hu:OS m u)(n:Nat)(hn:200000000<=n) :
 ∃ vals u',z7 (X0 n (T,L) s) (s.Some.length+1) (([]:List Val),b,K1,V1,s.Keys,0,u)=some (vals,(b&&a4X T s vals),K1++frL s.Some s.Keys,V1++vals,u')/\vals.length=s.Some.length/\∀ v∈vals,VS v:=by
 have hK:=h.fm.keys
 have hkl:=h.kl
 have hkl2:s.Keys.length<=36:=by rw [hK]; exact h.kl
 have hfew:=h.fm.few
 obtain ⟨r,e,vals,u',hR,h3,h4⟩:=a7k (σ:=List Val×Semtypebase_Source) (step:=X0 n (T,L) s)
  (fun x i=>(x.1,(b&&a4X T s x.1),K1++frL (s.Some.take x.1.length) s.Keys,V1++x.1,s.Keys++frL (s.Some.take x.1.length) s.Keys,i,x.2)) s.Some.length
  (fun j x=>OS m x.2/\x.1.length=j/\∀ v∈x.1,VS v)
  (fun r=>∃ vals u',r=(vals,(b&&a4X T s vals),K1++frL s.Some s.Keys,V1++vals,u')/\vals.length=s.Some.length/\∀ v∈vals,VS v)
  (fun j x hj hI=>by
    obtain ⟨vals,u⟩:=x
    obtain ⟨hu,hl,hv⟩:=hI
    have hl:vals.length=j:=hl
    obtain ⟨k,u1,v,u2,e1,e2,hu2,hvs⟩:=d1i hm hT h1 n hn hu
    have eS:=List.getElem?_eq_getElem hj
    have hfm:=h.fm.some _ (List.getElem_mem hj)
    have hok:=h.ok.some _ (List.getElem_mem hj)
    generalize s.Some[j]=w at eS hfm hok
    have p2:=c7f (T:=T) (vals:=vals) (v:=v) (by rw [hl]; exact eS)
    have hfl:=b5x (s.Some.take j) s.Keys
    rw [List.length_take] at hfl
    have htk:s.Some.take (vals++[v]).length=s.Some.take j++[w]:=by rw [List.length_append,hl]; exact a2n eS
    have hul:(s.Keys++frL (s.Some.take j) s.Keys).length<=50:=by rw [List.length_append]; omega
    have efr:=c8U hfm.1 hul n (by omega)
    refine .inl ⟨(vals++[v],u2),?_,hu2,by show (vals++[v]).length=_; rw [List.length_append,hl]; rfl,fun w' hw=>?_⟩
    ·unfold X0
     simp only [k8]
     rw [htk,c0Q,hl,k9 hj,e1]
     simp only [cond_true,Option.bind_some]
     rw [e2]
     simp only [Option.bind_some]
     rw [v7 (by simp only [List.length_cons,List.length_nil]; omega),y4 eS,j5 j (by omega)]
     simp only [Option.bind_some]
     rw [efr,b0w hT hr ⟨hvs.1,by have:=hvs.2; omega⟩ hok n hn,b0w hT hr ⟨hvs.1,by have:=hvs.2; omega⟩ h.ok.rest.1 n hn,b0w hT hr ⟨hvs.1,by have:=hvs.2; omega⟩ h.ok.rest.2 n hn]
     have hq:(bif (b&&a4X T s vals) then (Option.bind (some (gM T v w.Goal)) fun r32=>some r32) else (some false))=some (b&&a4X T s vals&&gM T v w.Goal):=by cases (b&&a4X T s vals)<;>rfl
     rw [hq]
     simp only [Option.bind_some]
     have hq2:(bif (b&&a4X T s vals&&gM T v w.Goal) then (bif w.Kind==0 then (some (gM T v s.Rest.1)) else (bif w.Kind==1 then (some (gM T v s.Rest.2)) else (none))) else (some false))=some (b&&a4X T s vals&&gM T v w.Goal&&gM T v (a8f s w.Kind)):=by
      unfold a8f
      rcases hfm.1 with h0 | h0
      ·rw [h0]
       cases (b&&a4X T s vals&&gM T v w.Goal)<;>rfl
      ·rw [h0]
       cases (b&&a4X T s vals&&gM T v w.Goal)<;>rfl
     rw [hq2]
     simp only [Option.bind_some]
     rw [v7 (by simp only [List.length_append,List.length_cons,List.length_nil]; omega),v7 (by simp only [List.length_append,List.length_cons,List.length_nil]; omega),v7 (by simp only [List.length_append,List.length_cons,List.length_nil]; omega)]
     simp only [Option.bind_some,List.append_assoc]
     rw [p2]
     simp only [Bool.and_assoc]
    ·rcases List.mem_append.1 hw with hw | hw
     ·exact hv w' hw
     ·rw [List.mem_singleton.1 hw]; exact hvs)
  (fun x hI=>⟨_,by
    unfold X0
    rw [hI.2.1,List.take_length]
    simp,x.1,x.2,rfl,hI.2.1,hI.2.2⟩) ([],u) ⟨hu,rfl,fun v hv=>by cases hv⟩
 subst hR
 have hg0:a4X T s []=true:=by unfold a4X; simp
 have e':z7 (X0 n (T,L) s) (s.Some.length+1) (([]:List Val),(b&&a4X T s []),K1++frL (s.Some.take 0) s.Keys,V1++[],s.Keys++frL (s.Some.take 0) s.Keys,0,u)=_:=e
 rw [hg0,List.take_zero] at e'
 simp only [frL,Bool.and_true,List.append_nil] at e'
 exact ⟨vals,u',e',h3,h4⟩
theorem c2h (h:ShF T ks s){parts vals:List Val}(hvl:vals.length=s.Some.length):a7D s parts vals=some ((parts.length:Int)==(s.Keys.length:Int)):=by
 have hK:=h.fm.keys
 have hst:=h.ok.st
 have hpa:=h.ok.pa
 have hkl:=h.kl
 have hkl2:s.Keys.length<=36:=by rw [hK]; exact h.kl
 have hfew:=h.fm.few
 have hal:a5S s=some true:=by
  unfold a5S
  rw [hst,hpa]
  simp
 have b2:((vals.length:Int) != (s.Some.length:Int))=false:=by rw [hvl]; simp
 have h1:=a3g (step:=a36 s) (fun i=>(i:Int)) s.Keys.length (.inl ()) (fun i hi=>by
  have e:=List.getElem?_eq_getElem hi
  have hm:=List.getElem_mem hi
  have hcmp:(bif decide (0<(i:Int)) then (Option.bind (idx s.Keys (wr .i64 ((i:Int)-1))) fun e7=>Option.bind (V2 e7 s.Keys[i]) fun r8=>some (decide (0<=r8))) else (some false))=some false:=by
   by_cases h0:0<(i:Int)
   ·have h1:1<=i:=by omega
    have e1:s.Keys[i-1]?=some (s.Keys[i-1]'(by omega)):=List.getElem?_eq_getElem (by omega)
    rw [decide_eq_true h0,k8,a7u i (by omega) h1,y4 e1]
    simp only [cond_true,Option.bind_some]
    rw [b0o]
    have:=(b1S cK s.Keys).1 (by rw [hK]; exact h.asc) i h1 hi
    simp only [Option.bind_some]
    rw [decide_eq_false (by omega)]
   ·rw [decide_eq_false h0]
    rfl
  unfold a36
  rw [k9 hi,y4 e]
  simp only [cond_true,Option.bind_some]
  rw [c4r,List.all_eq_true.1 h.kok _ (by rw [<- hK]; exact hm)]
  simp only [Option.bind_some,Bool.not_true,cond_false]
  rw [hcmp]
  simp only [Option.bind_some,cond_false]
  rw [k8,j5 i (by omega)]) (by
  unfold a36
  simp) (s.Keys.length+1) (Nat.le_refl _)
 have h2:=a3g (step:=J3 s.Some fun z14=>Option.bind (a3c z14) fun r15=>some r15) (fun i=>(i:Int)) s.Some.length (.inl ()) (fun i hi=>by
  have e:=List.getElem?_eq_getElem hi
  have hkd:=(h.fm.some _ (List.getElem_mem hi)).1
  have h0:a3c s.Some[i]=some false:=by
   unfold a3c
   rcases hkd with h | h<;>rw [h]<;>rfl
  unfold J3
  rw [k9 hi,y4 e]
  simp only [cond_true,Option.bind_some]
  rw [h0]
  simp only [Option.bind_some,cond_false]
  rw [k8,j5 i (by omega)]) (by
  unfold J3
  simp) (s.Some.length+1) (Nat.le_refl _)
 have h1':z7 (a36 s) (s.Keys.length+1) 0=some (.inl ()):=h1
 have h2':z7 (J3 s.Some fun z14=>Option.bind (a3c z14) fun r15=>some r15) (s.Some.length+1) 0=some (.inl ()):=h2
 unfold a7D a0q a0Q
 rw [hal,b2,w6,w6,h1',h2']
 unfold bne
 cases ((parts.length:Int)==(s.Keys.length:Int))<;>rfl
theorem c8a (h:ShF T ks s){parts vals:List Val}(hpl:parts.length=s.Keys.length)(hvl:vals.length=s.Some.length)(hp:∀ v∈parts,VS v)(hv:∀ v∈vals,VS v)(n:Nat)(hn:200000000<=n) :
 a3U n T s parts vals=Option.bind (b0N n (smK s parts) (smV s parts vals)) fun r18=>some (r18.1,r18.2):=by
 have hK:=h.fm.keys
 have hst:=h.ok.st
 have hkl:=h.kl
 have hkl2:s.Keys.length<=36:=by rw [hK]; exact h.kl
 have hfew:=h.fm.few
 have b1:((parts.length:Int)==(s.Keys.length:Int))=true:=by rw [hpl]; simp
 have e1:=a3g (step:=a4F s parts) (fun j=>((V9 s (parts.take j)).map (·.1),(V9 s (parts.take j)).map (·.2),(j:Int))) s.Keys.length ((V9 s parts).map (·.1),(V9 s parts).map (·.2)) (fun j hj=>by
  have eK:=List.getElem?_eq_getElem hj
  have eS:s.States[j]?=some (s.States[j]'(by omega)):=List.getElem?_eq_getElem (by omega)
  have eV:parts[j]?=some (parts[j]'(by omega)):=List.getElem?_eq_getElem (by omega)
  generalize s.Keys[j]=key at eK
  generalize s.States[j]'(by omega)=st at eS
  generalize parts[j]'(by omega)=v at eV
  have hl:(parts.take j).length=j:=by rw [List.length_take]; omega
  have p1:=c1z (parts:=parts.take j) (v:=v) (by rw [hl]; exact eK) (by rw [hl]; exact eS)
  have pl:=b3E s (parts.take j)
  unfold a4F
  simp only [k8]
  rw [k9 hj,y4 eK,y4 eS,y4 eV,j5 j (by omega),a2n eV,p1]
  simp only [cond_true,Option.bind_some]
  cases h0:(st==1) with
  | false=>simp
  | true =>
    rw [if_pos rfl]
    simp only [cond_true]
    rw [v7 (by simp only [List.length_map,List.length_cons,List.length_nil]; omega),v7 (by simp only [List.length_map,List.length_cons,List.length_nil]; omega)]
    simp only [Option.bind_some,List.map_append,List.map_cons,List.map_nil]) (by
  unfold a4F
  rw [<- hpl,List.take_length]
  simp) (s.Keys.length+1) (Nat.le_refl _)
 have hp0:V9 s []=[]:=by unfold V9; simp
 have e1':z7 (a4F s parts) (s.Keys.length+1) (([]:List Key),([]:List Val),0)=some ((V9 s parts).map (·.1),(V9 s parts).map (·.2)):=by
  have e:=e1
  simp only [List.take_zero,hp0] at e
  exact e
 have pl:=b3E s parts
 have e2:=a3g (step:=a4S s vals n) (fun j=>((V9 s parts).map (·.1)++frL (s.Some.take j) s.Keys,(V9 s parts).map (·.2)++vals.take j,s.Keys++frL (s.Some.take j) s.Keys,(j:Int))) s.Some.length (smK s parts,smV s parts vals) (fun j hj=>by
  have eS:=List.getElem?_eq_getElem hj
  have eV:vals[j]?=some (vals[j]'(by omega)):=List.getElem?_eq_getElem (by omega)
  have hfm:=h.fm.some _ (List.getElem_mem hj)
  generalize s.Some[j]=w at eS hfm
  generalize vals[j]'(by omega)=v at eV
  have hfl:=b5x (s.Some.take j) s.Keys
  rw [List.length_take] at hfl
  have hul:(s.Keys++frL (s.Some.take j) s.Keys).length<=50:=by rw [List.length_append]; omega
  unfold a4S
  simp only [k8]
  rw [k9 hj,y4 eS,y4 eV,j5 j (by omega),a2n eV,a2n eS,c0Q]
  simp only [cond_true,Option.bind_some]
  rw [d0s hfm.1 hul n (by omega)]
  simp only [Option.bind_some]
  rw [v7 (by simp only [List.length_append,List.length_cons,List.length_nil]; omega),v7 (by simp only [List.length_append,List.length_map,List.length_cons,List.length_nil]; omega),v7 (by simp only [List.length_append,List.length_map,List.length_take,List.length_cons,List.length_nil]; omega)]
  simp only [Option.bind_some,List.append_assoc]) (by
  unfold a4S smK smV
  rw [List.take_length,<- hvl,List.take_length]
  simp) (s.Some.length+1) (Nat.le_refl _)
 have e2':z7 (a4S s vals n) (s.Some.length+1) ((V9 s parts).map (·.1),(V9 s parts).map (·.2),s.Keys,0)=some (smK s parts,smV s parts vals):=by
  have e:=e2
  simp only [List.take_zero,frL,List.append_nil] at e
  exact e
 have hcl:a0n 24 s.Keys=some s.Keys:=by unfold a0n; rw [v7 (by omega)]; rfl
 unfold a3U
 rw [c2h h hvl,b1,w6,w6,e1']
 simp only [Option.bind_some,Bool.not_true,cond_false]
 rw [hcl]
 simp only [Option.bind_some]
 rw [e2']
 rfl
theorem c9f (h:ShF T ks s){parts vals:List Val}(hpl:parts.length≠s.Keys.length)(hvl:vals.length=s.Some.length)(n:Nat):a3U n T s parts vals=some (a5y,1):=by
 have b1:((parts.length:Int)==(s.Keys.length:Int))=false:=by simp; omega
 unfold a3U
 rw [c2h h hvl,b1]
 rfl
end
end Go.Pl
end
section
namespace Go.Pl
open Go Go.RowKit Go.Sx Go.Qx
def tB:Api_Type:=Api_Type.mk ([Api_TypeNode.mk 2 0 0 (⟨#[]⟩:ByteArray) ([]:List Int) ([]:List Api_Field) (0,0),Api_TypeNode.mk 13 0 0 (⟨#[]⟩:ByteArray) ([]:List Int) ([]:List Api_Field) (0,0)]:List Api_TypeNode) 0
def lB:Api_Line:=Api_Line.mk 8 0 ([]:List Api_Range) (Api_Names.mk false ([]:List ByteArray)) ([1]:List Int) ([]:List Int) ([]:List ByteArray) ([]:List ByteArray)
theorem d4i:GT tB:=by
 refine ⟨by decide,fun i x hx=>?_⟩
 match i,hx with
 | 0,hx =>
   cases hx
   exact b8K (by decide)
 | 1,hx =>
   cases hx
   exact ⟨by kernel_rfl,fun h=>absurd h (show ¬ (false=true) by simp),by show (0:Nat)<=4; omega,by show (⟨#[]⟩:ByteArray).size<=5; decide,by show (0:Nat)<=3; omega,fun f hf=>(by cases hf),by show (-9223372036854775808:Int)<=0/\(0:Int)<=9223372036854775807/\(-9223372036854775808:Int)<=0/\(0:Int)<=9223372036854775807; decide⟩
 | i+2,hx=>simp [tB] at hx
theorem d34:a5j tB ([1]++[])=some []:=by
 obtain ⟨ks,e,_,_,hm⟩:=c3P d4i ([1]++[]) (by decide) (by kernel_rfl)
 have:ks=[]:=by
  cases ks with
  | nil=>rfl
  | cons y r =>
    have h:=(hm y).1 (by simp)
    have h2:a4W tB ([1]++[])=[]:=rfl
    rw [h2] at h
    cases h
 rw [e,this]
theorem d1U:a3V 200000000 tB lB=(Option.bind (a5j tB ([1]++[])) fun r8=>Option.bind (a6M 0 0 24) fun m9=>Option.bind (a0H 200000000 0 lB tB r8 (List.replicate m9 (Record_place.mk 0 false 0:Record_place)) [] ()) fun r10=>some (r10.2,0)):=by kernel_rfl
theorem d1Q:a1n 200000000=some true:=by
 unfold a1n
 show Option.bind (a3V 200000000 tB lB) _=_
 rw [d1U,d34]
 decide +kernel
end Go.Pl
end
section
namespace Go.Pl
open Go Go.RowKit Go.Sx Go.Qx
theorem d0o (l:List (List Int))(hl:l.length<=1000):a5r l=some (l.all fun x=>!decide (80<(x.length:Int))):=by
 have l1:=K9 (step:=a2i l) l (fun x=>!decide (80<(x.length:Int))) (fun i=>(i:Int)) () false (fun i x hx=>by
  have hi:i<l.length:=(List.getElem?_eq_some_iff.1 hx).1
  unfold a2i
  rw [k9 hi,y4 hx]
  simp only [cond_true,Option.bind_some,k8]
  rw [j5 i (by omega)]
  cases decide (80<(x.length:Int))<;>rfl) (by
  unfold a2i
  simp)
 have l1':z7 (a2i l) (l.length+1) 0=_:=l1
 unfold a5r
 rw [w6,l1']
 cases l.all fun x=>!decide (80<(x.length:Int))<;>rfl
end Go.Pl
end
section
namespace Go.Pl
open Go Go.RowKit Go.Sx Go.Qx
theorem d3r (x:Int){n:Int}(h1:1<=n)(h2:n<=1000000):∃ m:Nat,(m:Int)<n/\b4a (wr .u64 x) n=some (m:Int):=by
 have h0:0<=wr .u64 x:=by
  have:wr .u64 x=x%18446744073709551616:=by
   unfold wr IntKind.wrap
   rfl
  rw [this]
  omega
 have b1:=Int.tmod_lt_of_pos (wr .u64 x) (show 0<n by omega)
 have b2:=Int.tmod_nonneg n h0
 refine ⟨((wr .u64 x).tmod n).toNat,by omega,?_⟩
 unfold b4a
 rw [if_neg (by omega)]
 congr 1
 omega
end Go.Pl
end
section
namespace Go.Pl
open Go Go.RowKit Go.Sx Go.Qx
theorem b9L (d t m:List Int)(pick:Int):∃ n,a0V n d t m pick=some true:=by
 have key:∀ n,200000000<=n->a1n n=some true->a0V n d t m pick=some true:=by
  intro n hn ha
  unfold a0V
  rw [d0o _ (by simp),ha]
  simp only [Option.bind_some]
  by_cases hd:80<(d.length:Int)
  ·have:(List.all [d,t,m] fun x=>!decide (80<(x.length:Int)))=false:=by simp only [List.all_cons,decide_eq_true hd]; rfl
   rw [this]
   rfl
  by_cases ht:80<(t.length:Int)
  ·have:(List.all [d,t,m] fun x=>!decide (80<(x.length:Int)))=false:=by simp only [List.all_cons,decide_eq_false hd,decide_eq_true ht]; rfl
   rw [this]
   rfl
  by_cases hm:80<(m.length:Int)
  ·have:(List.all [d,t,m] fun x=>!decide (80<(x.length:Int)))=false:=by simp only [List.all_cons,decide_eq_false hd,decide_eq_false ht,decide_eq_true hm]; rfl
   rw [this]
   rfl
  have hs:(List.all [d,t,m] fun x=>!decide (80<(x.length:Int)))=true:=by simp only [List.all_cons,decide_eq_false hd,decide_eq_false ht,decide_eq_false hm]; rfl
  rw [hs]
  simp only [Bool.not_true,cond_false]
  obtain ⟨N,ns,P,Q,hN,hN4,el,hI⟩:=d0F (L:=t) (d:=d) (by omega) (by omega)
  have hlen:ns.length=N+3:=hI.len
  generalize hT0:Api_Type.mk ns 0=T at el
  have hns:T.Nodes=ns:=by rw [<- hT0]
  have hT:GT T:=⟨by rw [hns]; omega,by rw [hns,hlen]; exact hI.nodes⟩
  have hroot:inR T.Nodes.length T.Root=true:=by rw [<- hT0]; exact a9i (show (0:Int)<=0 by omega) (by show (0:Int)<(ns.length:Int); omega)
  have hmp:∀ k:Int,(∃ j:Nat,k=(j:Int)/\N<=j/\j<N+3)->mpB T k=true:=fun k ⟨j,e,h1,h2⟩=>by
   subst e
   have hj:j<ns.length:=by omega
   have e:=List.getElem?_eq_getElem hj
   have hk:=(hI.maps j _ h1 e).1
   unfold mpB
   rw [hns,Int.toNat_natCast,e,a9i (by omega) (by omega)]
   simp [hk]
  have hp:P.all (mpB T)=true:=List.all_eq_true.2 fun k hk=>hmp k (hI.pos k hk)
  have hq:Q.all (mpB T)=true:=List.all_eq_true.2 fun k hk=>hmp k (hI.neg k hk)
  have hpl:P.length<=3:=hI.few.1
  have hql:Q.length<=3:=hI.few.2
  generalize hL0:Api_Line.mk 8 0 [] (Api_Names.mk false []) P Q [] []=L at el
  have hLp:L.Pos=P:=by rw [<- hL0]
  have hLn:L.Neg=Q:=by rw [<- hL0]
  have hLk:L.Kind=8:=by rw [<- hL0]
  rw [el]
  simp only [Option.bind_some]
  obtain ⟨ks,hks,hkm,hkl,hok,es⟩:=c9a (L:=L) hT hroot hLk (by rw [hLp]; exact hp) (by rw [hLn]; exact hq) (by rw [hLp]; omega) (by rw [hLn]; omega) n (by omega)
  rw [es]
  simp only [Option.bind_some,bne_self_eq_false,cond_false]
  cases hemp:(((a9O T L.Pos L.Neg ks).length:Int)==0) with
  | true=>rfl
  | false =>
  have hne:0<(a9O T L.Pos L.Neg ks).length:=by
   have:((a9O T L.Pos L.Neg ks).length:Int)≠0:=by simpa using hemp
   omega
  simp only [cond_false,Option.bind_some]
  by_cases hmany:2000<((a9O T L.Pos L.Neg ks).length:Int)
  ·rw [decide_eq_true hmany]
   rfl
  rw [decide_eq_false hmany]
  simp only [cond_false]
  have hu64:wr .u64 ((a9O T L.Pos L.Neg ks).length:Int)=((a9O T L.Pos L.Neg ks).length:Int):=by
   show ((a9O T L.Pos L.Neg ks).length:Int)%18446744073709551616=_
   omega
  obtain ⟨q,hq3,hqz⟩:=d3r pick (n:=((a9O T L.Pos L.Neg ks).length:Int)) (by omega) (by omega)
  have hwq:wr .i64 (q:Int)=(q:Int):=by rw [k8,K6 (by omega) (by omega)]
  have hql2:q<(a9O T L.Pos L.Neg ks).length:=by omega
  have eq:=List.getElem?_eq_getElem hql2
  obtain ⟨hfm,hso⟩:=d1N hT (by rw [hLp]; exact hp) (by rw [hLn]; exact hq) (by rw [hLp]; omega) (by rw [hLn]; omega) hok (by omega) (List.getElem_mem hql2)
  generalize (a9O T L.Pos L.Neg ks)[q]=s at eq hfm hso
  have hS:ShF T ks s:=⟨hfm,hso,hks,hok,by omega⟩
  rw [hu64,hqz]
  simp only [Option.bind_some,hwq]
  rw [y4 eq,Int.toNat_natCast,eq]
  simp only [Option.bind_some]
  rw [c8O hT (by rw [hLp]; exact hp) (by rw [hLn]; exact hq) (by rw [hLp]; omega) (by rw [hLn]; omega) hks hkm (by omega) hfm]
  simp only [Option.bind_some,Bool.not_true,cond_false]
  have hK:=hfm.keys
  rw [v7 (by rw [hK]; omega)]
  simp only [Option.bind_some,w6]
  obtain ⟨parts,u,e1,hu,hpl1,hp1⟩:=d4W (m:=m) (by omega) hT hroot (by rw [hns]; omega) L hS n hn
  rw [e1]
  simp only [Option.bind_some]
  have pl:=b3E s parts
  have hkl2:s.Keys.length<=36:=by rw [hK]; omega
  obtain ⟨vals,u',e2,hvl,hv2⟩:=d43 (m:=m) (by omega) hT hroot (by rw [hns]; omega) L hS (a6i T s parts) ((V9 s parts).map (·.1)) ((V9 s parts).map (·.2)) (by rw [List.length_map]; omega) (by rw [List.length_map]; omega) hu n hn
  rw [e2]
  simp only [Option.bind_some]
  obtain ⟨w,ew,hlw,hperm,hM,how,hbw⟩:=d3C hS hpl1 hvl hp1 hv2
  obtain ⟨k1,k2,k3⟩:=c6q hS parts
  have hVb:=c6s (s:=s) hp1 hv2
  rw [c8a hS hpl1 hvl hp1 hv2 n hn,d1S n (smK s parts) (smV s parts vals) (by omega) (fun v hv=>by have:=(hVb v hv).2; omega),if_pos ⟨hlw,k2⟩,ew]
  simp only [Option.bind_some]
  have e7:a0F ((V9 s parts).map (·.1)++frL s.Some s.Keys) ((V9 s parts).map (·.2)++vals)=some (a1K w,0):=by
   have:=b61 (smK s parts) (smV s parts vals) (by omega)
   rw [if_pos ⟨hlw,k2⟩,ew] at this
   exact this
  rw [e7]
  simp only [Option.bind_some,bne_self_eq_false,cond_false]
  have heq:a02 n (a1K w) (a1K w)=some true:=by
   unfold a02
   rw [(a4v n).1 (a1K w) (a1K w) (by omega) (by omega),c6Q]
   rfl
  rw [heq]
  simp only [Option.bind_some,Bool.not_true,cond_false]
  rw [v7 (by simp only [List.length_cons,List.length_nil]; rw [hpl1,hK]; omega),c9f hS (by rw [List.length_append,hpl1]; simp) hvl n]
  simp only [Option.bind_some]
  have hin:a2C n (a1K w) T s=some (c2i T (a1K w) s):=c6l hT hroot rfl hM hso n hn
  rw [hin]
  cases hg:(a6i T s parts&&a4X T s vals) with
  | false=>rfl
  | true =>
    rw [Bool.and_eq_true] at hg
    rw [d3Q hS hpl1 hvl hM hperm hg.1 hg.2]
    rfl
 exact ⟨_,key _ (Nat.le_refl _) d1Q⟩
end Go.Pl
end
section
namespace Go.Proofs
open Go.Shelf
set_option maxRecDepth 100000
def Tryz.lay124_ren:Go.Shelf.Ren:=⟨fun | 6=>124 | 15=>150 | 14=>166 | 28=>196 | 29=>197 | 20=>213 | 21=>214 | 22=>215 | 23=>216 | 24=>217 | 25=>218 | 26=>219 | 27=>220 | 46=>235 | 47=>224 | 48=>225 | 49=>236 | 50=>237 | 57=>251 | n=>n,fun | 22=>22 | 24=>3 | 25=>174 | 3=>3 | 39=>81 | 0=>0 | 53=>211 | 55=>213 | 4=>4 | 46=>204 | 45=>203 | 50=>208 | 5=>5 | 9=>9 | 66=>231 | 70=>235 | 76=>244 | 77=>245 | n=>n,fun | n=>n⟩
theorem Tryz.lay124:Go.Proofs.SlLaysF.n6 Tryz.prog Tryz.lay124_ren:={
 mixed:=by kernel_rfl
 f6:=⟨Tryz.f124.name,by decide,Tryz.func124.trans (congrArg some (by kernel_rfl))⟩
 f14:=⟨Tryz.f166.name,by decide,Tryz.func166.trans (congrArg some (by kernel_rfl))⟩
 f15:=Tryz.func150.trans (congrArg some (by kernel_rfl))
 f20:=⟨Tryz.f213.name,by decide,Tryz.func213.trans (congrArg some (by kernel_rfl))⟩
 f21:=⟨Tryz.f214.name,by decide,Tryz.func214.trans (congrArg some (by kernel_rfl))⟩
 f22:=⟨Tryz.f215.name,by decide,Tryz.func215.trans (congrArg some (by kernel_rfl))⟩
 f23:=⟨Tryz.f216.name,by decide,Tryz.func216.trans (congrArg some (by kernel_rfl))⟩
 f24:=⟨Tryz.f217.name,by decide,Tryz.func217.trans (congrArg some (by kernel_rfl))⟩
 f25:=⟨Tryz.f218.name,by decide,Tryz.func218.trans (congrArg some (by kernel_rfl))⟩
 f26:=⟨Tryz.f219.name,by decide,Tryz.func219.trans (congrArg some (by kernel_rfl))⟩
 f27:=⟨Tryz.f220.name,by decide,Tryz.func220.trans (congrArg some (by kernel_rfl))⟩
 f28:=Tryz.func196.trans (congrArg some (by kernel_rfl))
 f29:=Tryz.func197.trans (congrArg some (by kernel_rfl))
 f46:=⟨Tryz.f235.name,by decide,Tryz.func235.trans (congrArg some (by kernel_rfl))⟩
 f47:=Tryz.func224.trans (congrArg some (by kernel_rfl))
 f48:=Tryz.func225.trans (congrArg some (by kernel_rfl))
 f49:=⟨Tryz.f236.name,by decide,Tryz.func236.trans (congrArg some (by kernel_rfl))⟩
 f50:=⟨Tryz.f237.name,by decide,Tryz.func237.trans (congrArg some (by kernel_rfl))⟩
 f57:=⟨Tryz.f251.name,by decide,Tryz.func251.trans (congrArg some (by kernel_rfl))⟩
 t0:=Tryz.underlying0
 a0:=Tryz.isAgg0
 z0:=Tryz.sizeOf0
 v0:=Tryz.zeroValue0
 t3:=Tryz.underlying3
 a3:=Tryz.isAgg3
 z3:=Tryz.sizeOf3
 v3:=Tryz.zeroValue3
 t4:=Tryz.underlying4
 a4:=Tryz.isAgg4
 z4:=Tryz.sizeOf4
 v4:=Tryz.zeroValue4
 t5:=Tryz.underlying5
 a5:=Tryz.isAgg5
 z5:=Tryz.sizeOf5
 v5:=Tryz.zeroValue5
 t9:=Tryz.underlying9
 a9:=Tryz.isAgg9
 z9:=Tryz.sizeOf9
 v9:=Tryz.zeroValue9
 t22:=Tryz.underlying22
 a22:=Tryz.isAgg22
 z22:=Tryz.sizeOf22
 v22:=Tryz.zeroValue22
 a24:=Tryz.isAgg3
 z24:=Tryz.sizeOf3
 t25:=Tryz.underlying174
 a25:=Tryz.isAgg174
 z25:=Tryz.sizeOf174
 v25:=Tryz.zeroValue174
 t39:=Tryz.underlying81
 a39:=Tryz.isAgg81
 z39:=Tryz.sizeOf81
 v39:=Tryz.zeroValue81
 t45:=Tryz.underlying203
 a45:=Tryz.isAgg203
 z45:=Tryz.sizeOf203
 v45:=Tryz.zeroValue203
 t46:=Tryz.underlying204
 a46:=Tryz.isAgg204
 z46:=Tryz.sizeOf204
 v46:=Tryz.zeroValue204
 t50:=Tryz.underlying208
 a50:=Tryz.isAgg208
 z50:=Tryz.sizeOf208
 v50:=Tryz.zeroValue208
 t53:=Tryz.underlying211
 a53:=Tryz.isAgg211
 z53:=Tryz.sizeOf211
 v53:=Tryz.zeroValue211
 t55:=Tryz.underlying213
 a55:=Tryz.isAgg213
 z55:=Tryz.sizeOf213
 v55:=Tryz.zeroValue213
 t66:=Tryz.underlying231
 a66:=Tryz.isAgg231
 z66:=Tryz.sizeOf231
 v66:=Tryz.zeroValue231
 t70:=Tryz.underlying235
 a70:=Tryz.isAgg235
 z70:=Tryz.sizeOf235
 v70:=Tryz.zeroValue235
 t76:=Tryz.underlying244
 a76:=Tryz.isAgg244
 z76:=Tryz.sizeOf244
 v76:=Tryz.zeroValue244
 t77:=Tryz.underlying245
 a77:=Tryz.isAgg245
 z77:=Tryz.sizeOf245
 v77:=Tryz.zeroValue245 }
def Tryz.lay85_ren:Go.Shelf.Ren:=⟨fun | 6=>85 | 15=>150 | 14=>149 | 28=>196 | 29=>197 | 20=>188 | 21=>189 | 22=>190 | 23=>191 | 24=>192 | 25=>193 | 26=>194 | 27=>195 | 46=>223 | 47=>224 | 48=>225 | 49=>226 | 50=>227 | 57=>238 | n=>n,fun | 22=>29 | 24=>83 | 25=>113 | 3=>3 | 39=>81 | 0=>0 | 53=>211 | 55=>213 | 4=>4 | 46=>204 | 45=>203 | 50=>208 | 5=>5 | 9=>9 | 66=>231 | 70=>235 | 76=>244 | 77=>245 | n=>n,fun | n=>n⟩
theorem Tryz.lay85:Go.Proofs.SlLaysF0.n6 Tryz.prog Tryz.lay85_ren:={
 mixed:=by kernel_rfl
 f6:=⟨Tryz.f85.name,by decide,Tryz.func85.trans (congrArg some (by kernel_rfl))⟩
 f14:=⟨Tryz.f149.name,by decide,Tryz.func149.trans (congrArg some (by kernel_rfl))⟩
 f15:=Tryz.func150.trans (congrArg some (by kernel_rfl))
 f20:=⟨Tryz.f188.name,by decide,Tryz.func188.trans (congrArg some (by kernel_rfl))⟩
 f21:=⟨Tryz.f189.name,by decide,Tryz.func189.trans (congrArg some (by kernel_rfl))⟩
 f22:=⟨Tryz.f190.name,by decide,Tryz.func190.trans (congrArg some (by kernel_rfl))⟩
 f23:=⟨Tryz.f191.name,by decide,Tryz.func191.trans (congrArg some (by kernel_rfl))⟩
 f24:=⟨Tryz.f192.name,by decide,Tryz.func192.trans (congrArg some (by kernel_rfl))⟩
 f25:=⟨Tryz.f193.name,by decide,Tryz.func193.trans (congrArg some (by kernel_rfl))⟩
 f26:=⟨Tryz.f194.name,by decide,Tryz.func194.trans (congrArg some (by kernel_rfl))⟩
 f27:=⟨Tryz.f195.name,by decide,Tryz.func195.trans (congrArg some (by kernel_rfl))⟩
 f28:=Tryz.func196.trans (congrArg some (by kernel_rfl))
 f29:=Tryz.func197.trans (congrArg some (by kernel_rfl))
 f46:=⟨Tryz.f223.name,by decide,Tryz.func223.trans (congrArg some (by kernel_rfl))⟩
 f47:=Tryz.func224.trans (congrArg some (by kernel_rfl))
 f48:=Tryz.func225.trans (congrArg some (by kernel_rfl))
 f49:=⟨Tryz.f226.name,by decide,Tryz.func226.trans (congrArg some (by kernel_rfl))⟩
 f50:=⟨Tryz.f227.name,by decide,Tryz.func227.trans (congrArg some (by kernel_rfl))⟩
 f57:=⟨Tryz.f238.name,by decide,Tryz.func238.trans (congrArg some (by kernel_rfl))⟩
 t0:=Tryz.underlying0
 a0:=Tryz.isAgg0
 z0:=Tryz.sizeOf0
 v0:=Tryz.zeroValue0
 t3:=Tryz.underlying3
 a3:=Tryz.isAgg3
 z3:=Tryz.sizeOf3
 v3:=Tryz.zeroValue3
 t4:=Tryz.underlying4
 a4:=Tryz.isAgg4
 z4:=Tryz.sizeOf4
 v4:=Tryz.zeroValue4
 t5:=Tryz.underlying5
 a5:=Tryz.isAgg5
 z5:=Tryz.sizeOf5
 v5:=Tryz.zeroValue5
 t9:=Tryz.underlying9
 a9:=Tryz.isAgg9
 z9:=Tryz.sizeOf9
 v9:=Tryz.zeroValue9
 t22:=Tryz.underlying29
 a22:=Tryz.isAgg29
 z22:=Tryz.sizeOf29
 v22:=Tryz.zeroValue29
 t25:=Tryz.underlying113
 a25:=Tryz.isAgg113
 z25:=Tryz.sizeOf113
 v25:=Tryz.zeroValue113
 t39:=Tryz.underlying81
 a39:=Tryz.isAgg81
 z39:=Tryz.sizeOf81
 v39:=Tryz.zeroValue81
 t45:=Tryz.underlying203
 a45:=Tryz.isAgg203
 z45:=Tryz.sizeOf203
 v45:=Tryz.zeroValue203
 t46:=Tryz.underlying204
 a46:=Tryz.isAgg204
 z46:=Tryz.sizeOf204
 v46:=Tryz.zeroValue204
 t50:=Tryz.underlying208
 a50:=Tryz.isAgg208
 z50:=Tryz.sizeOf208
 v50:=Tryz.zeroValue208
 t53:=Tryz.underlying211
 a53:=Tryz.isAgg211
 z53:=Tryz.sizeOf211
 v53:=Tryz.zeroValue211
 t55:=Tryz.underlying213
 a55:=Tryz.isAgg213
 z55:=Tryz.sizeOf213
 v55:=Tryz.zeroValue213
 t66:=Tryz.underlying231
 a66:=Tryz.isAgg231
 z66:=Tryz.sizeOf231
 v66:=Tryz.zeroValue231
 t70:=Tryz.underlying235
 a70:=Tryz.isAgg235
 z70:=Tryz.sizeOf235
 v70:=Tryz.zeroValue235
 t76:=Tryz.underlying244
 a76:=Tryz.isAgg244
 z76:=Tryz.sizeOf244
 v76:=Tryz.zeroValue244
 t77:=Tryz.underlying245
 a77:=Tryz.isAgg245
 z77:=Tryz.sizeOf245
 v77:=Tryz.zeroValue245 }
def Tryz.lay200_ren:Go.Shelf.Ren:=⟨fun | 189=>200 | 125=>150 | 257=>229 | 128=>196 | 129=>197 | 294=>239 | 295=>240 | 296=>241 | 297=>242 | 298=>243 | 299=>244 | 216=>245 | 300=>246 | 301=>247 | 328=>252 | 329=>224 | 330=>225 | 331=>253 | 332=>254 | 215=>198 | 343=>261 | n=>n,fun | 28=>22 | 3=>3 | 46=>81 | 0=>0 | 51=>211 | 53=>213 | 4=>4 | 183=>204 | 182=>203 | 131=>208 | 5=>5 | 9=>9 | 218=>231 | 222=>235 | 228=>244 | 229=>245 | n=>n,fun | n=>n⟩
theorem Tryz.lay200:Go.Proofs.Lays.n189 Tryz.prog Tryz.lay200_ren:={
 mixed:=by kernel_rfl
 f125:=Tryz.func150.trans (congrArg some (by kernel_rfl))
 f128:=Tryz.func196.trans (congrArg some (by kernel_rfl))
 f129:=Tryz.func197.trans (congrArg some (by kernel_rfl))
 f189:=Tryz.func200.trans (congrArg some (by kernel_rfl))
 f215:=Tryz.func198.trans (congrArg some (by kernel_rfl))
 f216:=Tryz.func245.trans (congrArg some (by kernel_rfl))
 f257:=Tryz.func229.trans (congrArg some (by kernel_rfl))
 f294:=Tryz.func239.trans (congrArg some (by kernel_rfl))
 f295:=Tryz.func240.trans (congrArg some (by kernel_rfl))
 f296:=Tryz.func241.trans (congrArg some (by kernel_rfl))
 f297:=Tryz.func242.trans (congrArg some (by kernel_rfl))
 f298:=Tryz.func243.trans (congrArg some (by kernel_rfl))
 f299:=Tryz.func244.trans (congrArg some (by kernel_rfl))
 f300:=Tryz.func246.trans (congrArg some (by kernel_rfl))
 f301:=Tryz.func247.trans (congrArg some (by kernel_rfl))
 f328:=Tryz.func252.trans (congrArg some (by kernel_rfl))
 f329:=Tryz.func224.trans (congrArg some (by kernel_rfl))
 f330:=Tryz.func225.trans (congrArg some (by kernel_rfl))
 f331:=Tryz.func253.trans (congrArg some (by kernel_rfl))
 f332:=Tryz.func254.trans (congrArg some (by kernel_rfl))
 f343:=Tryz.func261.trans (congrArg some (by kernel_rfl))
 t0:=Tryz.underlying0
 a0:=Tryz.isAgg0
 z0:=Tryz.sizeOf0
 v0:=Tryz.zeroValue0
 t3:=Tryz.underlying3
 a3:=Tryz.isAgg3
 z3:=Tryz.sizeOf3
 v3:=Tryz.zeroValue3
 t4:=Tryz.underlying4
 a4:=Tryz.isAgg4
 z4:=Tryz.sizeOf4
 v4:=Tryz.zeroValue4
 t5:=Tryz.underlying5
 a5:=Tryz.isAgg5
 z5:=Tryz.sizeOf5
 v5:=Tryz.zeroValue5
 t9:=Tryz.underlying9
 a9:=Tryz.isAgg9
 z9:=Tryz.sizeOf9
 v9:=Tryz.zeroValue9
 t28:=Tryz.underlying22
 a28:=Tryz.isAgg22
 z28:=Tryz.sizeOf22
 v28:=Tryz.zeroValue22
 t46:=Tryz.underlying81
 a46:=Tryz.isAgg81
 z46:=Tryz.sizeOf81
 v46:=Tryz.zeroValue81
 t51:=Tryz.underlying211
 a51:=Tryz.isAgg211
 z51:=Tryz.sizeOf211
 v51:=Tryz.zeroValue211
 t53:=Tryz.underlying213
 a53:=Tryz.isAgg213
 z53:=Tryz.sizeOf213
 v53:=Tryz.zeroValue213
 t131:=Tryz.underlying208
 a131:=Tryz.isAgg208
 z131:=Tryz.sizeOf208
 v131:=Tryz.zeroValue208
 t182:=Tryz.underlying203
 a182:=Tryz.isAgg203
 z182:=Tryz.sizeOf203
 v182:=Tryz.zeroValue203
 t183:=Tryz.underlying204
 a183:=Tryz.isAgg204
 z183:=Tryz.sizeOf204
 v183:=Tryz.zeroValue204
 t218:=Tryz.underlying231
 a218:=Tryz.isAgg231
 z218:=Tryz.sizeOf231
 v218:=Tryz.zeroValue231
 t222:=Tryz.underlying235
 a222:=Tryz.isAgg235
 z222:=Tryz.sizeOf235
 v222:=Tryz.zeroValue235
 t228:=Tryz.underlying244
 a228:=Tryz.isAgg244
 z228:=Tryz.sizeOf244
 v228:=Tryz.zeroValue244
 t229:=Tryz.underlying245
 a229:=Tryz.isAgg245
 z229:=Tryz.sizeOf245
 v229:=Tryz.zeroValue245 }
end Go.Proofs
end
section
namespace Go.Qx
open Go Go.RowKit Go.Sx
set_option maxRecDepth 100000
abbrev b8V (v:Api_Field):Key×Int×Bool:=(v.Key_,v.Node,v.Optional)
abbrev c5l (x:Key×Int×Bool):Api_Field:=⟨x.1,x.2.1,x.2.2⟩
@[reducible] def a5T:Rp Api_Field:=a8h b8V (Y7 (rpKey) (Y7 (rpK .i64) (rpBool)))
abbrev b3I (v:Api_TypeNode):Int×Int×Int×ByteArray×(List Int)×(List Api_Field)×(Int×Int):=(v.Kind,v.Lo,v.Hi,v.Text,v.Kids,v.Fields,v.Rest)
abbrev c1C (x:Int×Int×Int×ByteArray×(List Int)×(List Api_Field)×(Int×Int)):Api_TypeNode:=⟨x.1,x.2.1,x.2.2.1,x.2.2.2.1,x.2.2.2.2.1,x.2.2.2.2.2.1,x.2.2.2.2.2.2⟩
@[reducible] def a3D:Rp Api_TypeNode:=a8h b3I (Y7 (rpK .i64) (Y7 (rpK .i64) (Y7 (rpK .i64) (Y7 (rpStr) (Y7 (@rpList _ (rpK .i64)) (Y7 (@rpList _ (a5T)) (Y7 (rpK .i64) (rpK .i64))))))))
abbrev c0e (v:Api_Type):(List Api_TypeNode)×Int:=(v.Nodes,v.Root)
abbrev c6b (x:(List Api_TypeNode)×Int):Api_Type:=⟨x.1,x.2⟩
@[reducible] def b4A:Rp Api_Type:=a8h c0e (Y7 (@rpList _ (a3D)) (rpK .i64))
abbrev b8f (v:Api_Names):Bool×(List ByteArray):=(v.Cofinite,v.List_)
abbrev c5a (x:Bool×(List ByteArray)):Api_Names:=⟨x.1,x.2⟩
@[reducible] def a7n:Rp Api_Names:=a8h b8f (Y7 (rpBool) (@rpList _ (rpStr)))
abbrev b8j (v:Api_Range):Int×Int:=(v.Lo,v.Hi)
abbrev c5w (x:Int×Int):Api_Range:=⟨x.1,x.2⟩
@[reducible] def a6c:Rp Api_Range:=a8h b8j (Y7 (rpK .i64) (rpK .i64))
abbrev c0k (v:Api_Line):Int×Int×(List Api_Range)×Api_Names×(List Int)×(List Int)×(List ByteArray)×(List ByteArray):=(v.Kind,v.Arity,v.Ints,v.Names,v.Pos,v.Neg,v.Vars,v.NotVars)
abbrev c6o (x:Int×Int×(List Api_Range)×Api_Names×(List Int)×(List Int)×(List ByteArray)×(List ByteArray)):Api_Line:=⟨x.1,x.2.1,x.2.2.1,x.2.2.2.1,x.2.2.2.2.1,x.2.2.2.2.2.1,x.2.2.2.2.2.2.1,x.2.2.2.2.2.2.2⟩
@[reducible] def b4h:Rp Api_Line:=a8h c0k (Y7 (rpK .i64) (Y7 (rpK .i64) (Y7 (@rpList _ (a6c)) (Y7 (a7n) (Y7 (@rpList _ (rpK .i64)) (Y7 (@rpList _ (rpK .i64)) (Y7 (@rpList _ (rpStr)) (@rpList _ (rpStr)))))))))
abbrev a8H (v:Semtypebase_Source):(List Int)×Int:=(v.L,v.At)
abbrev b5Q (x:(List Int)×Int):Semtypebase_Source:=⟨x.1,x.2⟩
@[reducible] def a5U:Rp Semtypebase_Source:=a8h a8H (Y7 (@rpList _ (rpK .i64)) (rpK .i64))
abbrev c0d (v:Api_Goal):(List Int)×(List Int)×Bool:=(v.Pos,v.Neg,v.Lists)
abbrev c52 (x:(List Int)×(List Int)×Bool):Api_Goal:=⟨x.1,x.2.1,x.2.2⟩
@[reducible] def W3:Rp Api_Goal:=a8h c0d (Y7 (@rpList _ (rpK .i64)) (Y7 (@rpList _ (rpK .i64)) (rpBool)))
abbrev b5X (v:Api_SomeKey):Int×Api_Goal:=(v.Kind,v.Goal)
abbrev c2V (x:Int×Api_Goal):Api_SomeKey:=⟨x.1,x.2⟩
@[reducible] def a4y:Rp Api_SomeKey:=a8h b5X (Y7 (rpK .i64) (W3))
abbrev b72 (v:Api_Shape):(List Key)×(List Int)×(List Api_Goal)×(Api_Goal×Api_Goal)×(List Api_SomeKey):=(v.Keys,v.States,v.Parts,v.Rest,v.Some)
abbrev c5X (x:(List Key)×(List Int)×(List Api_Goal)×(Api_Goal×Api_Goal)×(List Api_SomeKey)):Api_Shape:=⟨x.1,x.2.1,x.2.2.1,x.2.2.2.1,x.2.2.2.2⟩
@[reducible] def b2i:Rp Api_Shape:=a8h b72 (Y7 (@rpList _ (rpKey)) (Y7 (@rpList _ (rpK .i64)) (Y7 (@rpList _ (W3)) (Y7 (Y7 (W3) (W3)) (@rpList _ (a4y))))))
abbrev b3N (v:Record_place):Int×Bool×Int:=(v.key,v.absent,v.kind)
abbrev c12 (x:Int×Bool×Int):Record_place:=⟨x.1,x.2.1,x.2.2⟩
@[reducible] def a9c:Rp Record_place:=a8h b3N (Y7 (rpK .i64) (Y7 (rpBool) (rpK .i64)))
abbrev b7e (v:Value_used):Bool×Bool×Bool×Bool×Bool:=(v.number,v.text_,v.kids,v.keys,v.entries)
abbrev c30 (x:Bool×Bool×Bool×Bool×Bool):Value_used:=⟨x.1,x.2.1,x.2.2.1,x.2.2.2.1,x.2.2.2.2⟩
@[reducible] def b0S:Rp Value_used:=a8h b7e (Y7 (rpBool) (Y7 (rpBool) (Y7 (rpBool) (Y7 (rpBool) (rpBool)))))
def tyL:List TE:=[⟨2,Int,rpK .i64⟩,
 ⟨3,Int,rpK .i64⟩,
 ⟨4,Bool,rpBool⟩,
 ⟨5,Int,rpK .u8⟩,
 ⟨9,ByteArray,rpStr⟩,
 ⟨22,List Int,@rpList _ (rpK .i64)⟩,
 ⟨25,List Api_TypeNode,@rpList _ (a3D)⟩,
 ⟨27,Api_Type,b4A⟩,
 ⟨28,List Val,@rpList _ (rpVal)⟩,
 ⟨29,List Key,@rpList _ (rpKey)⟩,
 ⟨30,List Ent,@rpList _ (rpEnt)⟩,
 ⟨31,List ByteArray,@rpList _ (rpStr)⟩,
 ⟨33,Val,rpVal⟩,
 ⟨36,List Api_Range,@rpList _ (a6c)⟩,
 ⟨38,Api_Names,a7n⟩,
 ⟨40,Api_Line,b4h⟩,
 ⟨44,Semtypebase_Source,a5U⟩,
 ⟨50,List Api_Goal,@rpList _ (W3)⟩,
 ⟨56,Api_Goal,W3⟩,
 ⟨68,Api_Goal×Api_Goal,Y7 (W3) (W3)⟩,
 ⟨69,List Api_SomeKey,@rpList _ (a4y)⟩,
 ⟨71,Api_Shape,b2i⟩,
 ⟨74,List Api_Field,@rpList _ (a5T)⟩,
 ⟨75,Int×Int,Y7 (rpK .i64) (rpK .i64)⟩,
 ⟨77,Api_TypeNode,a3D⟩,
 ⟨83,Key,rpKey⟩,
 ⟨85,Api_SomeKey,a4y⟩,
 ⟨101,Api_Field,a5T⟩,
 ⟨111,Record_place,a9c⟩,
 ⟨138,Ent,rpEnt⟩,
 ⟨220,Value_used,b0S⟩,
 ⟨277,Api_Range,a6c⟩]
abbrev I (E:TypeId):Type:=(c7y tyL E).α
instance rI (E:TypeId):Rp (I E):=(c7y tyL E).rp
def c6p:Fd I (I 27) inferInstance:=(a6u (rg:=b4A) (J2 (a2e 77:Fd I (List Api_TypeNode) (@rpList _ (a3D))) ((a3i .i64:Fd I Int (rpK .i64)))) c0e c6b (fun _=>rfl) (fun _ _ _=>Iff.rfl):Fd I Api_Type b4A)
def c8R:Fd I (I 33) inferInstance:=(a6u (rg:=rpVal) (J2 (a3i .i64:Fd I Int (rpK .i64)) (J2 (a3i .i64:Fd I Int (rpK .i64)) (J2 (c4f:Fd I ByteArray (rpStr)) (J2 (a2e 33:Fd I (List Val) (@rpList _ (rpVal))) (J2 (a2e 83:Fd I (List Key) (@rpList _ (rpKey))) (J2 (a2e 138:Fd I (List Ent) (@rpList _ (rpEnt))) ((a2e 9:Fd I (List ByteArray) (@rpList _ (rpStr)))))))))) Val.to Val.of (fun _=>rfl) Val.cells_to:Fd I Val rpVal)
def b8v:Fd I (I 38) inferInstance:=(a6u (rg:=a7n) (J2 (a69:Fd I Bool (rpBool)) ((a2e 9:Fd I (List ByteArray) (@rpList _ (rpStr))))) b8f c5a (fun _=>rfl) (fun _ _ _=>Iff.rfl):Fd I Api_Names a7n)
def c6k:Fd I (I 40) inferInstance:=(a6u (rg:=b4h) (J2 (a3i .i64:Fd I Int (rpK .i64)) (J2 (a3i .i64:Fd I Int (rpK .i64)) (J2 (a2e 277:Fd I (List Api_Range) (@rpList _ (a6c))) (J2 (b3J 38 b8v:Fd I Api_Names (a7n)) (J2 (a2e 3:Fd I (List Int) (@rpList _ (rpK .i64))) (J2 (a2e 3:Fd I (List Int) (@rpList _ (rpK .i64))) (J2 (a2e 9:Fd I (List ByteArray) (@rpList _ (rpStr))) ((a2e 9:Fd I (List ByteArray) (@rpList _ (rpStr))))))))))) c0k c6o (fun _=>rfl) (fun _ _ _=>Iff.rfl):Fd I Api_Line b4h)
def b5e:Fd I (I 44) inferInstance:=(a6u (rg:=a5U) (J2 (a2e 3:Fd I (List Int) (@rpList _ (rpK .i64))) ((a3i .i64:Fd I Int (rpK .i64)))) a8H b5Q (fun _=>rfl) (fun _ _ _=>Iff.rfl):Fd I Semtypebase_Source a5U)
def b0m:Fd I (I 56) inferInstance:=(a6u (rg:=W3) (J2 (a2e 3:Fd I (List Int) (@rpList _ (rpK .i64))) (J2 (a2e 3:Fd I (List Int) (@rpList _ (rpK .i64))) ((a69:Fd I Bool (rpBool))))) c0d c52 (fun _=>rfl) (fun _ _ _=>Iff.rfl):Fd I Api_Goal W3)
def c8m:Fd I (I 68) inferInstance:=(J2 (b3J 56 b0m:Fd I Api_Goal (W3)) ((b3J 56 b0m:Fd I Api_Goal (W3))):Fd I (Api_Goal×Api_Goal) (Y7 (W3) (W3)))
def c4M:Fd I (I 71) inferInstance:=(a6u (rg:=b2i) (J2 (a2e 83:Fd I (List Key) (@rpList _ (rpKey))) (J2 (a2e 3:Fd I (List Int) (@rpList _ (rpK .i64))) (J2 (a2e 56:Fd I (List Api_Goal) (@rpList _ (W3))) (J2 (b3J 68 c8m:Fd I (Api_Goal×Api_Goal) (Y7 (W3) (W3))) ((a2e 85:Fd I (List Api_SomeKey) (@rpList _ (a4y)))))))) b72 c5X (fun _=>rfl) (fun _ _ _=>Iff.rfl):Fd I Api_Shape b2i)
def c9d:Fd I (I 75) inferInstance:=(J2 (a3i .i64:Fd I Int (rpK .i64)) ((a3i .i64:Fd I Int (rpK .i64))):Fd I (Int×Int) (Y7 (rpK .i64) (rpK .i64)))
def c1w:Fd I (I 77) inferInstance:=(a6u (rg:=a3D) (J2 (a3i .i64:Fd I Int (rpK .i64)) (J2 (a3i .i64:Fd I Int (rpK .i64)) (J2 (a3i .i64:Fd I Int (rpK .i64)) (J2 (c4f:Fd I ByteArray (rpStr)) (J2 (a2e 3:Fd I (List Int) (@rpList _ (rpK .i64))) (J2 (a2e 101:Fd I (List Api_Field) (@rpList _ (a5T))) ((b3J 75 c9d:Fd I (Int×Int) (Y7 (rpK .i64) (rpK .i64)))))))))) b3I c1C (fun _=>rfl) (fun _ _ _=>Iff.rfl):Fd I Api_TypeNode a3D)
def c8E:Fd I (I 83) inferInstance:=(a6u (rg:=rpKey) (J2 (a3i .i64:Fd I Int (rpK .i64)) ((c4f:Fd I ByteArray (rpStr)))) Key.to Key.of (fun _=>rfl) Key.cells_to:Fd I Key rpKey)
def c2M:Fd I (I 85) inferInstance:=(a6u (rg:=a4y) (J2 (a3i .i64:Fd I Int (rpK .i64)) ((b3J 56 b0m:Fd I Api_Goal (W3)))) b5X c2V (fun _=>rfl) (fun _ _ _=>Iff.rfl):Fd I Api_SomeKey a4y)
def c4W:Fd I (I 101) inferInstance:=(a6u (rg:=a5T) (J2 (b3J 83 c8E:Fd I Key (rpKey)) (J2 (a3i .i64:Fd I Int (rpK .i64)) ((a69:Fd I Bool (rpBool))))) b8V c5l (fun _=>rfl) (fun _ _ _=>Iff.rfl):Fd I Api_Field a5T)
def c1Q:Fd I (I 111) inferInstance:=(a6u (rg:=a9c) (J2 (a3i .i64:Fd I Int (rpK .i64)) (J2 (a69:Fd I Bool (rpBool)) ((a3i .i64:Fd I Int (rpK .i64))))) b3N c12 (fun _=>rfl) (fun _ _ _=>Iff.rfl):Fd I Record_place a9c)
def d2V:Fd I (I 138) inferInstance:=(a6u (rg:=rpEnt) (J2 (a2e 33:Fd I (List Val) (@rpList _ (rpVal))) (J2 (a69:Fd I Bool (rpBool)) ((b3J 33 c8R:Fd I Val (rpVal))))) Ent.to Ent.of (fun _=>rfl) Ent.cells_to:Fd I Ent rpEnt)
def c3Y:Fd I (I 220) inferInstance:=(a6u (rg:=b0S) (J2 (a69:Fd I Bool (rpBool)) (J2 (a69:Fd I Bool (rpBool)) (J2 (a69:Fd I Bool (rpBool)) (J2 (a69:Fd I Bool (rpBool)) ((a69:Fd I Bool (rpBool))))))) b7e c30 (fun _=>rfl) (fun _ _ _=>Iff.rfl):Fd I Value_used b0S)
def c4N:Fd I (I 277) inferInstance:=(a6u (rg:=a6c) (J2 (a3i .i64:Fd I Int (rpK .i64)) ((a3i .i64:Fd I Int (rpK .i64)))) b8j c5w (fun _=>rfl) (fun _ _ _=>Iff.rfl):Fd I Api_Range a6c)
def feL:List (FE I):=[⟨2,a3i .i64⟩,
 ⟨3,a3i .i64⟩,
 ⟨4,a69⟩,
 ⟨5,a3i .u8⟩,
 ⟨9,c4f⟩,
 ⟨22,a2e 3⟩,
 ⟨25,a2e 77⟩,
 ⟨27,c6p⟩,
 ⟨28,a2e 33⟩,
 ⟨29,a2e 83⟩,
 ⟨30,a2e 138⟩,
 ⟨31,a2e 9⟩,
 ⟨33,c8R⟩,
 ⟨36,a2e 277⟩,
 ⟨38,b8v⟩,
 ⟨40,c6k⟩,
 ⟨44,b5e⟩,
 ⟨50,a2e 56⟩,
 ⟨56,b0m⟩,
 ⟨68,c8m⟩,
 ⟨69,a2e 85⟩,
 ⟨71,c4M⟩,
 ⟨74,a2e 101⟩,
 ⟨75,c9d⟩,
 ⟨77,c1w⟩,
 ⟨83,c8E⟩,
 ⟨85,c2M⟩,
 ⟨101,c4W⟩,
 ⟨111,c1Q⟩,
 ⟨138,d2V⟩,
 ⟨220,c3Y⟩,
 ⟨277,c4N⟩]
def d3s:TabL I where
 sz:=[(27,2),(33,7),(40,9),(56,3),(71,10),(75,2),(77,8),(83,2),(85,4),(101,4),(111,3),(138,9),(220,5)]
 one:=[(2,()),(3,()),(4,()),(5,()),(9,()),(22,()),(25,()),(28,()),(29,()),(30,()),(31,()),(50,()),(62,()),(69,()),(74,()),(98,()),(105,()),(106,())]
 fld:=[(27,[(0,25),(1,3)]),(33,[(0,3),(1,2),(2,9),(3,28),(4,29),(5,30),(6,31)]),(40,[(0,3),(1,3),(2,36),(3,38),(5,22),(6,22),(7,31),(8,31)]),(44,[(0,22),(1,3)]),(56,[(0,22),(1,22),(2,4)]),(71,[(0,29),(1,22),(2,50),(3,68),(9,69)]),(77,[(0,3),(1,2),(2,2),(3,9),(4,22),(5,74),(6,75)]),(83,[(0,3),(1,9)]),(85,[(0,3),(1,56)]),(101,[(0,83),(2,3),(3,4)]),(111,[(0,3),(1,4),(2,3)]),(138,[(0,28),(1,4),(2,33)]),(220,[(0,4),(1,4),(2,4),(3,4),(4,4)])]
 el:=[(22,3),(25,77),(28,33),(29,83),(30,138),(31,9),(50,56),(62,71),(69,85),(74,101),(90,22),(105,111),(140,4),(151,2),(165,5)]
 str:=[(9,())]
 bool:=[(4,())]
 ik:=[(3,.i64),(5,.u8),(81,.u64)]
 fe:=feL
 inf:=[(2,1,8,[.int .i64 0]),(3,1,8,[.int .i64 0]),(4,1,1,[.bool false]),(5,1,1,[.int .u8 0]),(9,1,16,[.str ⟨#[]⟩]),(22,1,24,[.nl 3]),(25,1,24,[.nl 77]),(27,2,32,[.nl 77,.int .i64 0]),(28,1,24,[.nl 33]),(29,1,24,[.nl 83]),(30,1,24,[.nl 138]),(31,1,24,[.nl 9]),(33,7,128,[.int .i64 0,.int .i64 0,.str ⟨#[]⟩,.nl 33,.nl 83,.nl 138,.nl 9]),(40,9,168,[.int .i64 0,.int .i64 0,.nl 277,.bool false,.nl 9,.nl 3,.nl 3,.nl 9,.nl 9]),(44,2,32,[.nl 3,.int .i64 0]),(50,1,24,[.nl 56]),(56,3,56,[.nl 3,.nl 3,.bool false]),(62,1,24,[.nl 71]),(69,1,24,[.nl 85]),(71,10,208,[.nl 83,.nl 3,.nl 56,.nl 3,.nl 3,.bool false,.nl 3,.nl 3,.bool false,.nl 85]),(74,1,24,[.nl 101]),(75,2,16,[.int .i64 0,.int .i64 0]),(77,8,104,[.int .i64 0,.int .i64 0,.int .i64 0,.str ⟨#[]⟩,.nl 3,.nl 101,.int .i64 0,.int .i64 0]),(83,2,24,[.int .i64 0,.str ⟨#[]⟩]),(85,4,64,[.int .i64 0,.nl 3,.nl 3,.bool false]),(98,1,8,[.any]),(101,4,40,[.int .i64 0,.str ⟨#[]⟩,.int .i64 0,.bool false]),(105,1,24,[.nl 111]),(106,1,8,[.any]),(111,3,24,[.int .i64 0,.bool false,.int .i64 0]),(138,9,160,[.nl 33,.bool false,.int .i64 0,.int .i64 0,.str ⟨#[]⟩,.nl 33,.nl 83,.nl 138,.nl 9]),(220,5,5,[.bool false,.bool false,.bool false,.bool false,.bool false])]
 st:=[(27,[(0,1),(1,1)]),(33,[(0,1),(1,1),(2,1),(3,1),(4,1),(5,1),(6,1)]),(40,[(0,1),(1,1),(2,1),(3,2),(5,1),(6,1),(7,1),(8,1)]),(44,[(0,1),(1,1)]),(56,[(0,1),(1,1),(2,1)]),(71,[(0,1),(1,1),(2,1),(3,6),(9,1)]),(75,[(0,1),(1,1)]),(77,[(0,1),(1,1),(2,1),(3,1),(4,1),(5,1),(6,2)]),(83,[(0,1),(1,1)]),(85,[(0,1),(1,3)]),(101,[(0,2),(2,1),(3,1)]),(111,[(0,1),(1,1),(2,1)]),(138,[(0,1),(1,1),(2,7)]),(220,[(0,1),(1,1),(2,1),(3,1),(4,1)])]
 eq:=[(75,c4s feL 75 b2A),(83,c4s feL 83 a3A)]
 nest:=[(22,3,0)]
 arr:=[(68,56,2,3),(75,3,2,1)]
 u8:=[(5,())]
 mp:=[(170,.bool)]
 fb:=[(84,()),(86,()),(121,()),(125,()),(141,()),(143,()),(152,()),(171,()),(172,()),(174,()),(175,()),(177,()),(182,()),(183,()),(233,()),(249,())]
abbrev tb:Tab I:=d1j d3s
theorem ti2:Q7 Go.Proofs.Tryz.prog 2 (.int .i64 0) 1 8:=Q1 (by kernel_rfl)
theorem ti3:Q7 Go.Proofs.Tryz.prog 3 (.int .i64 0) 1 8:=Q1 (by kernel_rfl)
theorem ti4:Q7 Go.Proofs.Tryz.prog 4 (.bool false) 1 1:=Q1 (by kernel_rfl)
theorem ti5:Q7 Go.Proofs.Tryz.prog 5 (.int .u8 0) 1 1:=Q1 (by kernel_rfl)
theorem ti9:Q7 Go.Proofs.Tryz.prog 9 (.string ⟨#[]⟩) 1 16:=Q1 (by kernel_rfl)
theorem d2Q:Q7 Go.Proofs.Tryz.prog 22 (.slice none 0 0) 1 24:=Q1 (by kernel_rfl)
theorem d4M:Q7 Go.Proofs.Tryz.prog 25 (.slice none 0 0) 1 24:=Q1 (by kernel_rfl)
theorem d4D:Q7 Go.Proofs.Tryz.prog 27 (.agg #[.slice none 0 0,.int .i64 0]) 2 32:=Q1 (by kernel_rfl)
theorem d45:Q7 Go.Proofs.Tryz.prog 28 (.slice none 0 0) 1 24:=Q1 (by kernel_rfl)
theorem d4Y:Q7 Go.Proofs.Tryz.prog 29 (.slice none 0 0) 1 24:=Q1 (by kernel_rfl)
theorem d5c:Q7 Go.Proofs.Tryz.prog 30 (.slice none 0 0) 1 24:=Q1 (by kernel_rfl)
theorem d5j:Q7 Go.Proofs.Tryz.prog 31 (.slice none 0 0) 1 24:=Q1 (by kernel_rfl)
theorem d2Z:Q7 Go.Proofs.Tryz.prog 33 (.agg #[.int .i64 0,.int .i64 0,.string ⟨#[]⟩,.slice none 0 0,.slice none 0 0,.slice none 0 0,.slice none 0 0]) 7 128:=Q1 (by kernel_rfl)
theorem d4P:Q7 Go.Proofs.Tryz.prog 40 (.agg #[.int .i64 0,.int .i64 0,.slice none 0 0,.bool false,.slice none 0 0,.slice none 0 0,.slice none 0 0,.slice none 0 0,.slice none 0 0]) 9 168:=Q1 (by kernel_rfl)
theorem d5g:Q7 Go.Proofs.Tryz.prog 44 (.agg #[.slice none 0 0,.int .i64 0]) 2 32:=Q1 (by kernel_rfl)
theorem d4X:Q7 Go.Proofs.Tryz.prog 50 (.slice none 0 0) 1 24:=Q1 (by kernel_rfl)
theorem d3b:Q7 Go.Proofs.Tryz.prog 56 (.agg #[.slice none 0 0,.slice none 0 0,.bool false]) 3 56:=Q1 (by kernel_rfl)
theorem d4G:Q7 Go.Proofs.Tryz.prog 62 (.slice none 0 0) 1 24:=Q1 (by kernel_rfl)
theorem d4A:Q7 Go.Proofs.Tryz.prog 69 (.slice none 0 0) 1 24:=Q1 (by kernel_rfl)
theorem d3F:Q7 Go.Proofs.Tryz.prog 71 (.agg #[.slice none 0 0,.slice none 0 0,.slice none 0 0,.slice none 0 0,.slice none 0 0,.bool false,.slice none 0 0,.slice none 0 0,.bool false,.slice none 0 0]) 10 208:=Q1 (by kernel_rfl)
theorem d44:Q7 Go.Proofs.Tryz.prog 74 (.slice none 0 0) 1 24:=Q1 (by kernel_rfl)
theorem d46:Q7 Go.Proofs.Tryz.prog 75 (.agg #[.int .i64 0,.int .i64 0]) 2 16:=Q1 (by kernel_rfl)
theorem d3c:Q7 Go.Proofs.Tryz.prog 77 (.agg #[.int .i64 0,.int .i64 0,.int .i64 0,.string ⟨#[]⟩,.slice none 0 0,.slice none 0 0,.int .i64 0,.int .i64 0]) 8 104:=Q1 (by kernel_rfl)
theorem d3B:Q7 Go.Proofs.Tryz.prog 83 (.agg #[.int .i64 0,.string ⟨#[]⟩]) 2 24:=Q1 (by kernel_rfl)
theorem d3x:Q7 Go.Proofs.Tryz.prog 85 (.agg #[.int .i64 0,.slice none 0 0,.slice none 0 0,.bool false]) 4 64:=Q1 (by kernel_rfl)
theorem d4L:Q7 Go.Proofs.Tryz.prog 98 (.nilFunc) 1 8:=Q1 (by kernel_rfl)
theorem d1o:Q7 Go.Proofs.Tryz.prog 101 (.agg #[.int .i64 0,.string ⟨#[]⟩,.int .i64 0,.bool false]) 4 40:=Q1 (by kernel_rfl)
theorem d3U:Q7 Go.Proofs.Tryz.prog 105 (.slice none 0 0) 1 24:=Q1 (by kernel_rfl)
theorem d4v:Q7 Go.Proofs.Tryz.prog 106 (.nilFunc) 1 8:=Q1 (by kernel_rfl)
theorem d1m:Q7 Go.Proofs.Tryz.prog 111 (.agg #[.int .i64 0,.bool false,.int .i64 0]) 3 24:=Q1 (by kernel_rfl)
theorem d0Z:Q7 Go.Proofs.Tryz.prog 138 (.agg #[.slice none 0 0,.bool false,.int .i64 0,.int .i64 0,.string ⟨#[]⟩,.slice none 0 0,.slice none 0 0,.slice none 0 0,.slice none 0 0]) 9 160:=Q1 (by kernel_rfl)
theorem d4t:Q7 Go.Proofs.Tryz.prog 220 (.agg #[.bool false,.bool false,.bool false,.bool false,.bool false]) 5 5:=Q1 (by kernel_rfl)
theorem to2:a2A Go.Proofs.Tryz.prog 2:=⟨_,Go.Proofs.Tryz.underlying2,rfl,by kernel_rfl⟩
theorem to3:a2A Go.Proofs.Tryz.prog 3:=⟨_,Go.Proofs.Tryz.underlying3,rfl,by kernel_rfl⟩
theorem to4:a2A Go.Proofs.Tryz.prog 4:=⟨_,Go.Proofs.Tryz.underlying4,rfl,by kernel_rfl⟩
theorem to5:a2A Go.Proofs.Tryz.prog 5:=⟨_,Go.Proofs.Tryz.underlying5,rfl,by kernel_rfl⟩
theorem to9:a2A Go.Proofs.Tryz.prog 9:=⟨_,Go.Proofs.Tryz.underlying9,rfl,by kernel_rfl⟩
theorem d4T:a2A Go.Proofs.Tryz.prog 22:=⟨_,Go.Proofs.Tryz.underlying22,rfl,by kernel_rfl⟩
theorem d4R:a2A Go.Proofs.Tryz.prog 25:=⟨_,Go.Proofs.Tryz.underlying25,rfl,by kernel_rfl⟩
theorem d5a:a2A Go.Proofs.Tryz.prog 28:=⟨_,Go.Proofs.Tryz.underlying28,rfl,by kernel_rfl⟩
theorem d4E:a2A Go.Proofs.Tryz.prog 29:=⟨_,Go.Proofs.Tryz.underlying29,rfl,by kernel_rfl⟩
theorem d4B:a2A Go.Proofs.Tryz.prog 30:=⟨_,Go.Proofs.Tryz.underlying30,rfl,by kernel_rfl⟩
theorem d5f:a2A Go.Proofs.Tryz.prog 31:=⟨_,Go.Proofs.Tryz.underlying31,rfl,by kernel_rfl⟩
theorem d4I:a2A Go.Proofs.Tryz.prog 50:=⟨_,Go.Proofs.Tryz.underlying50,rfl,by kernel_rfl⟩
theorem d4O:a2A Go.Proofs.Tryz.prog 62:=⟨_,Go.Proofs.Tryz.underlying62,rfl,by kernel_rfl⟩
theorem d4H:a2A Go.Proofs.Tryz.prog 69:=⟨_,Go.Proofs.Tryz.underlying69,rfl,by kernel_rfl⟩
theorem d4N:a2A Go.Proofs.Tryz.prog 74:=⟨_,Go.Proofs.Tryz.underlying74,rfl,by kernel_rfl⟩
theorem d49:a2A Go.Proofs.Tryz.prog 98:=⟨_,Go.Proofs.Tryz.underlying98,rfl,by kernel_rfl⟩
theorem d4q:a2A Go.Proofs.Tryz.prog 105:=⟨_,Go.Proofs.Tryz.underlying105,rfl,by kernel_rfl⟩
theorem d38:a2A Go.Proofs.Tryz.prog 106:=⟨_,Go.Proofs.Tryz.underlying106,rfl,by kernel_rfl⟩
theorem d48 {σ:S}{x y:Int×Int}{cs ds:List Value}(h:(rI 75).cells σ x cs)(k:(rI 75).cells σ y ds):Sx.EqAt Go.Proofs.Tryz.prog 2 75 (.agg cs.toArray) (.agg ds.toArray) (b2A x y):=by
 obtain ⟨_,_,rfl,rfl,rfl⟩:=h
 obtain ⟨_,_,rfl,rfl,rfl⟩:=k
 exact c9C Go.Proofs.Tryz.underlying75 ti3 (c3y (a6B to3 rfl) (a6B to3 rfl) (c0H Go.Proofs.Tryz.underlying3) (c3y (a6B to3 rfl) (a6B to3 rfl) (c0H Go.Proofs.Tryz.underlying3) d0r))
theorem d4J {σ:S}{x y:Key}{cs ds:List Value}(h:(rI 83).cells σ x cs)(k:(rI 83).cells σ y ds):Sx.EqAt Go.Proofs.Tryz.prog 2 83 (.agg cs.toArray) (.agg ds.toArray) (a3A x y):=by
 obtain ⟨_,_,rfl,rfl,rfl⟩:=h
 obtain ⟨_,_,rfl,rfl,rfl⟩:=k
 exact c55 Go.Proofs.Tryz.underlying83 (by kernel_rfl) (c3Q (by decide) (a6B to3 rfl) (a6B to3 rfl) (c0H Go.Proofs.Tryz.underlying3) (c3Q (by decide) (a6B to9 rfl) (a6B to9 rfl) (d0A Go.Proofs.Tryz.underlying9) d0k))
theorem eqT (T:TypeId)(g:I T->I T->Bool){K:Nat}(h:∀ {σ:S} {x y:I T} {cs ds:List Value},Rp.cells σ x cs->Rp.cells σ y ds->Sx.EqAt Go.Proofs.Tryz.prog K T (.agg cs.toArray) (.agg ds.toArray) (g x y))(hg:Go.Proofs.Tryz.prog.eqGuardType (Go.Proofs.Tryz.prog).depth T=false)(hK:Nat.ble K 10000=true)
 {X:Cxt} {c:Cx} {σ:S} {ls ms:List (PV I)} {r:Bool} {cs ds:List Value} (h1:c4s feL T g ls ms=some r) (h2:RG X c σ ls cs) (h3:RG X c σ ms ds) :
 Go.Proofs.Tryz.prog.eqGuardType (Go.Proofs.Tryz.prog).depth T=false/\∃ j,Nat.ble j 10000=true/\Sx.EqAt Go.Proofs.Tryz.prog j T (.agg cs.toArray) (.agg ds.toArray) r:=by
 obtain ⟨x,y,k1,k2,rfl⟩:=d19 h1 h2 h3
 exact ⟨hg,K,hK,h k1 k2⟩
theorem d3m:TabLOk Go.Proofs.Tryz.prog d3s where
 sz:=⟨⟨_,Go.Proofs.Tryz.underlying27,rfl,by kernel_rfl⟩,⟨⟨_,Go.Proofs.Tryz.underlying33,rfl,by kernel_rfl⟩,⟨⟨_,Go.Proofs.Tryz.underlying40,rfl,by kernel_rfl⟩,⟨⟨_,Go.Proofs.Tryz.underlying56,rfl,by kernel_rfl⟩,⟨⟨_,Go.Proofs.Tryz.underlying71,rfl,by kernel_rfl⟩,⟨⟨_,Go.Proofs.Tryz.underlying75,rfl,by kernel_rfl⟩,⟨⟨_,Go.Proofs.Tryz.underlying77,rfl,by kernel_rfl⟩,⟨⟨_,Go.Proofs.Tryz.underlying83,rfl,by kernel_rfl⟩,⟨⟨_,Go.Proofs.Tryz.underlying85,rfl,by kernel_rfl⟩,⟨⟨_,Go.Proofs.Tryz.underlying101,rfl,by kernel_rfl⟩,⟨⟨_,Go.Proofs.Tryz.underlying111,rfl,by kernel_rfl⟩,⟨⟨_,Go.Proofs.Tryz.underlying138,rfl,by kernel_rfl⟩,⟨⟨_,Go.Proofs.Tryz.underlying220,rfl,by kernel_rfl⟩,trivial⟩⟩⟩⟩⟩⟩⟩⟩⟩⟩⟩⟩⟩
 one:=⟨to2,⟨to3,⟨to4,⟨to5,⟨to9,⟨d4T,⟨d4R,⟨d5a,⟨d4E,⟨d4B,⟨d5f,⟨d4I,⟨d4O,⟨d4H,⟨d4N,⟨d49,⟨d4q,⟨d38,trivial⟩⟩⟩⟩⟩⟩⟩⟩⟩⟩⟩⟩⟩⟩⟩⟩⟩⟩
 fld:=⟨⟨⟨_,_,Go.Proofs.Tryz.underlying27,rfl,rfl,by kernel_rfl⟩,⟨⟨_,_,Go.Proofs.Tryz.underlying27,rfl,rfl⟩,⟨⟨_,_,Go.Proofs.Tryz.underlying27,rfl,rfl,by kernel_rfl⟩,⟨⟨_,_,Go.Proofs.Tryz.underlying27,rfl,rfl⟩,trivial⟩⟩⟩⟩,⟨⟨⟨_,_,Go.Proofs.Tryz.underlying33,rfl,rfl,by kernel_rfl⟩,⟨⟨_,_,Go.Proofs.Tryz.underlying33,rfl,rfl⟩,⟨⟨_,_,Go.Proofs.Tryz.underlying33,rfl,rfl,by kernel_rfl⟩,⟨⟨_,_,Go.Proofs.Tryz.underlying33,rfl,rfl⟩,⟨⟨_,_,Go.Proofs.Tryz.underlying33,rfl,rfl,by kernel_rfl⟩,⟨⟨_,_,Go.Proofs.Tryz.underlying33,rfl,rfl⟩,⟨⟨_,_,Go.Proofs.Tryz.underlying33,rfl,rfl,by kernel_rfl⟩,⟨⟨_,_,Go.Proofs.Tryz.underlying33,rfl,rfl⟩,⟨⟨_,_,Go.Proofs.Tryz.underlying33,rfl,rfl,by kernel_rfl⟩,⟨⟨_,_,Go.Proofs.Tryz.underlying33,rfl,rfl⟩,⟨⟨_,_,Go.Proofs.Tryz.underlying33,rfl,rfl,by kernel_rfl⟩,⟨⟨_,_,Go.Proofs.Tryz.underlying33,rfl,rfl⟩,⟨⟨_,_,Go.Proofs.Tryz.underlying33,rfl,rfl,by kernel_rfl⟩,⟨⟨_,_,Go.Proofs.Tryz.underlying33,rfl,rfl⟩,trivial⟩⟩⟩⟩⟩⟩⟩⟩⟩⟩⟩⟩⟩⟩,⟨⟨⟨_,_,Go.Proofs.Tryz.underlying40,rfl,rfl,by kernel_rfl⟩,⟨⟨_,_,Go.Proofs.Tryz.underlying40,rfl,rfl⟩,⟨⟨_,_,Go.Proofs.Tryz.underlying40,rfl,rfl,by kernel_rfl⟩,⟨⟨_,_,Go.Proofs.Tryz.underlying40,rfl,rfl⟩,⟨⟨_,_,Go.Proofs.Tryz.underlying40,rfl,rfl,by kernel_rfl⟩,⟨⟨_,_,Go.Proofs.Tryz.underlying40,rfl,rfl⟩,⟨⟨_,_,Go.Proofs.Tryz.underlying40,rfl,rfl,by kernel_rfl⟩,⟨⟨_,_,Go.Proofs.Tryz.underlying40,rfl,rfl⟩,⟨⟨_,_,Go.Proofs.Tryz.underlying40,rfl,rfl,by kernel_rfl⟩,⟨⟨_,_,Go.Proofs.Tryz.underlying40,rfl,rfl⟩,⟨⟨_,_,Go.Proofs.Tryz.underlying40,rfl,rfl,by kernel_rfl⟩,⟨⟨_,_,Go.Proofs.Tryz.underlying40,rfl,rfl⟩,⟨⟨_,_,Go.Proofs.Tryz.underlying40,rfl,rfl,by kernel_rfl⟩,⟨⟨_,_,Go.Proofs.Tryz.underlying40,rfl,rfl⟩,⟨⟨_,_,Go.Proofs.Tryz.underlying40,rfl,rfl,by kernel_rfl⟩,⟨⟨_,_,Go.Proofs.Tryz.underlying40,rfl,rfl⟩,trivial⟩⟩⟩⟩⟩⟩⟩⟩⟩⟩⟩⟩⟩⟩⟩⟩,⟨⟨⟨_,_,Go.Proofs.Tryz.underlying44,rfl,rfl,by kernel_rfl⟩,⟨⟨_,_,Go.Proofs.Tryz.underlying44,rfl,rfl⟩,⟨⟨_,_,Go.Proofs.Tryz.underlying44,rfl,rfl,by kernel_rfl⟩,⟨⟨_,_,Go.Proofs.Tryz.underlying44,rfl,rfl⟩,trivial⟩⟩⟩⟩,⟨⟨⟨_,_,Go.Proofs.Tryz.underlying56,rfl,rfl,by kernel_rfl⟩,⟨⟨_,_,Go.Proofs.Tryz.underlying56,rfl,rfl⟩,⟨⟨_,_,Go.Proofs.Tryz.underlying56,rfl,rfl,by kernel_rfl⟩,⟨⟨_,_,Go.Proofs.Tryz.underlying56,rfl,rfl⟩,⟨⟨_,_,Go.Proofs.Tryz.underlying56,rfl,rfl,by kernel_rfl⟩,⟨⟨_,_,Go.Proofs.Tryz.underlying56,rfl,rfl⟩,trivial⟩⟩⟩⟩⟩⟩,⟨⟨⟨_,_,Go.Proofs.Tryz.underlying71,rfl,rfl,by kernel_rfl⟩,⟨⟨_,_,Go.Proofs.Tryz.underlying71,rfl,rfl⟩,⟨⟨_,_,Go.Proofs.Tryz.underlying71,rfl,rfl,by kernel_rfl⟩,⟨⟨_,_,Go.Proofs.Tryz.underlying71,rfl,rfl⟩,⟨⟨_,_,Go.Proofs.Tryz.underlying71,rfl,rfl,by kernel_rfl⟩,⟨⟨_,_,Go.Proofs.Tryz.underlying71,rfl,rfl⟩,⟨⟨_,_,Go.Proofs.Tryz.underlying71,rfl,rfl,by kernel_rfl⟩,⟨⟨_,_,Go.Proofs.Tryz.underlying71,rfl,rfl⟩,⟨⟨_,_,Go.Proofs.Tryz.underlying71,rfl,rfl,by kernel_rfl⟩,⟨⟨_,_,Go.Proofs.Tryz.underlying71,rfl,rfl⟩,trivial⟩⟩⟩⟩⟩⟩⟩⟩⟩⟩,⟨⟨⟨_,_,Go.Proofs.Tryz.underlying77,rfl,rfl,by kernel_rfl⟩,⟨⟨_,_,Go.Proofs.Tryz.underlying77,rfl,rfl⟩,⟨⟨_,_,Go.Proofs.Tryz.underlying77,rfl,rfl,by kernel_rfl⟩,⟨⟨_,_,Go.Proofs.Tryz.underlying77,rfl,rfl⟩,⟨⟨_,_,Go.Proofs.Tryz.underlying77,rfl,rfl,by kernel_rfl⟩,⟨⟨_,_,Go.Proofs.Tryz.underlying77,rfl,rfl⟩,⟨⟨_,_,Go.Proofs.Tryz.underlying77,rfl,rfl,by kernel_rfl⟩,⟨⟨_,_,Go.Proofs.Tryz.underlying77,rfl,rfl⟩,⟨⟨_,_,Go.Proofs.Tryz.underlying77,rfl,rfl,by kernel_rfl⟩,⟨⟨_,_,Go.Proofs.Tryz.underlying77,rfl,rfl⟩,⟨⟨_,_,Go.Proofs.Tryz.underlying77,rfl,rfl,by kernel_rfl⟩,⟨⟨_,_,Go.Proofs.Tryz.underlying77,rfl,rfl⟩,⟨⟨_,_,Go.Proofs.Tryz.underlying77,rfl,rfl,by kernel_rfl⟩,⟨⟨_,_,Go.Proofs.Tryz.underlying77,rfl,rfl⟩,trivial⟩⟩⟩⟩⟩⟩⟩⟩⟩⟩⟩⟩⟩⟩,⟨⟨⟨_,_,Go.Proofs.Tryz.underlying83,rfl,rfl,by kernel_rfl⟩,⟨⟨_,_,Go.Proofs.Tryz.underlying83,rfl,rfl⟩,⟨⟨_,_,Go.Proofs.Tryz.underlying83,rfl,rfl,by kernel_rfl⟩,⟨⟨_,_,Go.Proofs.Tryz.underlying83,rfl,rfl⟩,trivial⟩⟩⟩⟩,⟨⟨⟨_,_,Go.Proofs.Tryz.underlying85,rfl,rfl,by kernel_rfl⟩,⟨⟨_,_,Go.Proofs.Tryz.underlying85,rfl,rfl⟩,⟨⟨_,_,Go.Proofs.Tryz.underlying85,rfl,rfl,by kernel_rfl⟩,⟨⟨_,_,Go.Proofs.Tryz.underlying85,rfl,rfl⟩,trivial⟩⟩⟩⟩,⟨⟨⟨_,_,Go.Proofs.Tryz.underlying101,rfl,rfl,by kernel_rfl⟩,⟨⟨_,_,Go.Proofs.Tryz.underlying101,rfl,rfl⟩,⟨⟨_,_,Go.Proofs.Tryz.underlying101,rfl,rfl,by kernel_rfl⟩,⟨⟨_,_,Go.Proofs.Tryz.underlying101,rfl,rfl⟩,⟨⟨_,_,Go.Proofs.Tryz.underlying101,rfl,rfl,by kernel_rfl⟩,⟨⟨_,_,Go.Proofs.Tryz.underlying101,rfl,rfl⟩,trivial⟩⟩⟩⟩⟩⟩,⟨⟨⟨_,_,Go.Proofs.Tryz.underlying111,rfl,rfl,by kernel_rfl⟩,⟨⟨_,_,Go.Proofs.Tryz.underlying111,rfl,rfl⟩,⟨⟨_,_,Go.Proofs.Tryz.underlying111,rfl,rfl,by kernel_rfl⟩,⟨⟨_,_,Go.Proofs.Tryz.underlying111,rfl,rfl⟩,⟨⟨_,_,Go.Proofs.Tryz.underlying111,rfl,rfl,by kernel_rfl⟩,⟨⟨_,_,Go.Proofs.Tryz.underlying111,rfl,rfl⟩,trivial⟩⟩⟩⟩⟩⟩,⟨⟨⟨_,_,Go.Proofs.Tryz.underlying138,rfl,rfl,by kernel_rfl⟩,⟨⟨_,_,Go.Proofs.Tryz.underlying138,rfl,rfl⟩,⟨⟨_,_,Go.Proofs.Tryz.underlying138,rfl,rfl,by kernel_rfl⟩,⟨⟨_,_,Go.Proofs.Tryz.underlying138,rfl,rfl⟩,⟨⟨_,_,Go.Proofs.Tryz.underlying138,rfl,rfl,by kernel_rfl⟩,⟨⟨_,_,Go.Proofs.Tryz.underlying138,rfl,rfl⟩,trivial⟩⟩⟩⟩⟩⟩,⟨⟨⟨_,_,Go.Proofs.Tryz.underlying220,rfl,rfl,by kernel_rfl⟩,⟨⟨_,_,Go.Proofs.Tryz.underlying220,rfl,rfl⟩,⟨⟨_,_,Go.Proofs.Tryz.underlying220,rfl,rfl,by kernel_rfl⟩,⟨⟨_,_,Go.Proofs.Tryz.underlying220,rfl,rfl⟩,⟨⟨_,_,Go.Proofs.Tryz.underlying220,rfl,rfl,by kernel_rfl⟩,⟨⟨_,_,Go.Proofs.Tryz.underlying220,rfl,rfl⟩,⟨⟨_,_,Go.Proofs.Tryz.underlying220,rfl,rfl,by kernel_rfl⟩,⟨⟨_,_,Go.Proofs.Tryz.underlying220,rfl,rfl⟩,⟨⟨_,_,Go.Proofs.Tryz.underlying220,rfl,rfl,by kernel_rfl⟩,⟨⟨_,_,Go.Proofs.Tryz.underlying220,rfl,rfl⟩,trivial⟩⟩⟩⟩⟩⟩⟩⟩⟩⟩,trivial⟩⟩⟩⟩⟩⟩⟩⟩⟩⟩⟩⟩⟩
 el:=⟨⟨Go.Proofs.Tryz.underlying22,_,_,ti3,rfl,by decide⟩,⟨⟨Go.Proofs.Tryz.underlying25,_,_,d3c,rfl,by decide⟩,⟨⟨Go.Proofs.Tryz.underlying28,_,_,d2Z,rfl,by decide⟩,⟨⟨Go.Proofs.Tryz.underlying29,_,_,d3B,rfl,by decide⟩,⟨⟨Go.Proofs.Tryz.underlying30,_,_,d0Z,rfl,by decide⟩,⟨⟨Go.Proofs.Tryz.underlying31,_,_,ti9,rfl,by decide⟩,⟨⟨Go.Proofs.Tryz.underlying50,_,_,d3b,rfl,by decide⟩,⟨⟨Go.Proofs.Tryz.underlying62,_,_,d3F,rfl,by decide⟩,⟨⟨Go.Proofs.Tryz.underlying69,_,_,d3x,rfl,by decide⟩,⟨⟨Go.Proofs.Tryz.underlying74,_,_,d1o,rfl,by decide⟩,⟨⟨Go.Proofs.Tryz.underlying90,_,_,d2Q,rfl,by decide⟩,⟨⟨Go.Proofs.Tryz.underlying105,_,_,d1m,rfl,by decide⟩,⟨⟨Go.Proofs.Tryz.underlying140,_,_,ti4,rfl,by decide⟩,⟨⟨Go.Proofs.Tryz.underlying151,_,_,ti2,rfl,by decide⟩,⟨⟨Go.Proofs.Tryz.underlying165,_,_,ti5,rfl,by decide⟩,trivial⟩⟩⟩⟩⟩⟩⟩⟩⟩⟩⟩⟩⟩⟩⟩
 str:=⟨Go.Proofs.Tryz.underlying9,trivial⟩
 bool:=⟨Go.Proofs.Tryz.underlying4,trivial⟩
 ik:=⟨Go.Proofs.Tryz.underlying3,⟨Go.Proofs.Tryz.underlying5,⟨Go.Proofs.Tryz.underlying81,trivial⟩⟩⟩
 inf:=⟨⟨_,ti2,fun X c σ=>RG.cns rfl a2t (RG.nl)⟩,⟨⟨_,ti3,fun X c σ=>RG.cns rfl a2t (RG.nl)⟩,⟨⟨_,ti4,fun X c σ=>RG.cns rfl a5v (RG.nl)⟩,⟨⟨_,ti5,fun X c σ=>RG.cns rfl a2t (RG.nl)⟩,⟨⟨_,ti9,fun X c σ=>RG.cns rfl b9u (RG.nl)⟩,⟨⟨_,d2Q,fun X c σ=>RG.cns rfl a0p (RG.nl)⟩,⟨⟨_,d4M,fun X c σ=>RG.cns rfl a0p (RG.nl)⟩,⟨⟨_,d4D,fun X c σ=>RG.cns rfl a0p (RG.cns rfl a2t (RG.nl))⟩,⟨⟨_,d45,fun X c σ=>RG.cns rfl a0p (RG.nl)⟩,⟨⟨_,d4Y,fun X c σ=>RG.cns rfl a0p (RG.nl)⟩,⟨⟨_,d5c,fun X c σ=>RG.cns rfl a0p (RG.nl)⟩,⟨⟨_,d5j,fun X c σ=>RG.cns rfl a0p (RG.nl)⟩,⟨⟨_,d2Z,fun X c σ=>RG.cns rfl a2t (RG.cns rfl a2t (RG.cns rfl b9u (RG.cns rfl a0p (RG.cns rfl a0p (RG.cns rfl a0p (RG.cns rfl a0p (RG.nl)))))))⟩,⟨⟨_,d4P,fun X c σ=>RG.cns rfl a2t (RG.cns rfl a2t (RG.cns rfl a0p (RG.cns rfl a5v (RG.cns rfl a0p (RG.cns rfl a0p (RG.cns rfl a0p (RG.cns rfl a0p (RG.cns rfl a0p (RG.nl)))))))))⟩,⟨⟨_,d5g,fun X c σ=>RG.cns rfl a0p (RG.cns rfl a2t (RG.nl))⟩,⟨⟨_,d4X,fun X c σ=>RG.cns rfl a0p (RG.nl)⟩,⟨⟨_,d3b,fun X c σ=>RG.cns rfl a0p (RG.cns rfl a0p (RG.cns rfl a5v (RG.nl)))⟩,⟨⟨_,d4G,fun X c σ=>RG.cns rfl a0p (RG.nl)⟩,⟨⟨_,d4A,fun X c σ=>RG.cns rfl a0p (RG.nl)⟩,⟨⟨_,d3F,fun X c σ=>RG.cns rfl a0p (RG.cns rfl a0p (RG.cns rfl a0p (RG.cns rfl a0p (RG.cns rfl a0p (RG.cns rfl a5v (RG.cns rfl a0p (RG.cns rfl a0p (RG.cns rfl a5v (RG.cns rfl a0p (RG.nl))))))))))⟩,⟨⟨_,d44,fun X c σ=>RG.cns rfl a0p (RG.nl)⟩,⟨⟨_,d46,fun X c σ=>RG.cns rfl a2t (RG.cns rfl a2t (RG.nl))⟩,⟨⟨_,d3c,fun X c σ=>RG.cns rfl a2t (RG.cns rfl a2t (RG.cns rfl a2t (RG.cns rfl b9u (RG.cns rfl a0p (RG.cns rfl a0p (RG.cns rfl a2t (RG.cns rfl a2t (RG.nl))))))))⟩,⟨⟨_,d3B,fun X c σ=>RG.cns rfl a2t (RG.cns rfl b9u (RG.nl))⟩,⟨⟨_,d3x,fun X c σ=>RG.cns rfl a2t (RG.cns rfl a0p (RG.cns rfl a0p (RG.cns rfl a5v (RG.nl))))⟩,⟨⟨_,d4L,fun X c σ=>RG.cns rfl d1b (RG.nl)⟩,⟨⟨_,d1o,fun X c σ=>RG.cns rfl a2t (RG.cns rfl b9u (RG.cns rfl a2t (RG.cns rfl a5v (RG.nl))))⟩,⟨⟨_,d3U,fun X c σ=>RG.cns rfl a0p (RG.nl)⟩,⟨⟨_,d4v,fun X c σ=>RG.cns rfl d1b (RG.nl)⟩,⟨⟨_,d1m,fun X c σ=>RG.cns rfl a2t (RG.cns rfl a5v (RG.cns rfl a2t (RG.nl)))⟩,⟨⟨_,d0Z,fun X c σ=>RG.cns rfl a0p (RG.cns rfl a5v (RG.cns rfl a2t (RG.cns rfl a2t (RG.cns rfl b9u (RG.cns rfl a0p (RG.cns rfl a0p (RG.cns rfl a0p (RG.cns rfl a0p (RG.nl)))))))))⟩,⟨⟨_,d4t,fun X c σ=>RG.cns rfl a5v (RG.cns rfl a5v (RG.cns rfl a5v (RG.cns rfl a5v (RG.cns rfl a5v (RG.nl)))))⟩,trivial⟩⟩⟩⟩⟩⟩⟩⟩⟩⟩⟩⟩⟩⟩⟩⟩⟩⟩⟩⟩⟩⟩⟩⟩⟩⟩⟩⟩⟩⟩⟩⟩
 st:=⟨.inl ⟨_,Go.Proofs.Tryz.underlying27,by kernel_rfl⟩,⟨.inl ⟨_,Go.Proofs.Tryz.underlying33,by kernel_rfl⟩,⟨.inl ⟨_,Go.Proofs.Tryz.underlying40,by kernel_rfl⟩,⟨.inl ⟨_,Go.Proofs.Tryz.underlying44,by kernel_rfl⟩,⟨.inl ⟨_,Go.Proofs.Tryz.underlying56,by kernel_rfl⟩,⟨.inl ⟨_,Go.Proofs.Tryz.underlying71,by kernel_rfl⟩,⟨.inr (d2U Go.Proofs.Tryz.underlying75 ti3 rfl),⟨.inl ⟨_,Go.Proofs.Tryz.underlying77,by kernel_rfl⟩,⟨.inl ⟨_,Go.Proofs.Tryz.underlying83,by kernel_rfl⟩,⟨.inl ⟨_,Go.Proofs.Tryz.underlying85,by kernel_rfl⟩,⟨.inl ⟨_,Go.Proofs.Tryz.underlying101,by kernel_rfl⟩,⟨.inl ⟨_,Go.Proofs.Tryz.underlying111,by kernel_rfl⟩,⟨.inl ⟨_,Go.Proofs.Tryz.underlying138,by kernel_rfl⟩,⟨.inl ⟨_,Go.Proofs.Tryz.underlying220,by kernel_rfl⟩,trivial⟩⟩⟩⟩⟩⟩⟩⟩⟩⟩⟩⟩⟩⟩
 eq:=⟨fun X c σ ls ms r cs ds h1 h2 h3=>eqT 75 b2A (fun h k=>d48 h k) (by kernel_rfl) (by decide) h1 h2 h3,⟨fun X c σ ls ms r cs ds h1 h2 h3=>eqT 83 a3A (fun h k=>d4J h k) (by kernel_rfl) (by decide) h1 h2 h3,trivial⟩⟩
 arr:=⟨⟨Go.Proofs.Tryz.underlying68,by kernel_rfl⟩,⟨⟨Go.Proofs.Tryz.underlying75,by kernel_rfl⟩,trivial⟩⟩
 u8:=⟨⟨Go.Proofs.Tryz.underlying5,fun y=>⟨y,rfl⟩⟩,trivial⟩
 mp:=⟨⟨_,_,_,_,_,Go.Proofs.Tryz.underlying170,Go.Proofs.Tryz.underlying9,ti4,fun x h σ=>by cases h; exact rfl⟩,trivial⟩
 fb:=⟨⟨_,_,Go.Proofs.Tryz.func84,rfl,by kernel_rfl⟩,⟨⟨_,_,Go.Proofs.Tryz.func86,rfl,by kernel_rfl⟩,⟨⟨_,_,Go.Proofs.Tryz.func121,rfl,by kernel_rfl⟩,⟨⟨_,_,Go.Proofs.Tryz.func125,rfl,by kernel_rfl⟩,⟨⟨_,_,Go.Proofs.Tryz.func141,rfl,by kernel_rfl⟩,⟨⟨_,_,Go.Proofs.Tryz.func143,rfl,by kernel_rfl⟩,⟨⟨_,_,Go.Proofs.Tryz.func152,rfl,by kernel_rfl⟩,⟨⟨_,_,Go.Proofs.Tryz.func171,rfl,by kernel_rfl⟩,⟨⟨_,_,Go.Proofs.Tryz.func172,rfl,by kernel_rfl⟩,⟨⟨_,_,Go.Proofs.Tryz.func174,rfl,by kernel_rfl⟩,⟨⟨_,_,Go.Proofs.Tryz.func175,rfl,by kernel_rfl⟩,⟨⟨_,_,Go.Proofs.Tryz.func177,rfl,by kernel_rfl⟩,⟨⟨_,_,Go.Proofs.Tryz.func182,rfl,by kernel_rfl⟩,⟨⟨_,_,Go.Proofs.Tryz.func183,rfl,by kernel_rfl⟩,⟨⟨_,_,Go.Proofs.Tryz.func233,rfl,by kernel_rfl⟩,⟨⟨_,_,Go.Proofs.Tryz.func249,rfl,by kernel_rfl⟩,trivial⟩⟩⟩⟩⟩⟩⟩⟩⟩⟩⟩⟩⟩⟩⟩⟩
theorem a8U:TabOk Go.Proofs.Tryz.prog tb:=c9W d3m
theorem mixed:(Go.Proofs.Tryz.prog).follows .mixedOrders=true:=by kernel_rfl
end Go.Qx
end
section
namespace Go.Qx
open Go Go.RowKit Go.Sx
set_option maxHeartbeats 1600000
set_option maxRecDepth 100000
abbrev RK (r:Row I):Prop:=j6 Go.Proofs.Tryz.prog r
abbrev RO (r:Rio I):Prop:=b3Q Go.Proofs.Tryz.prog r
def mkH (a:List (Nat×List (List Nat)))(b c:List (Nat×List Nat))(j:List (Nat×JH))(l:List (Nat×LH I))(k:List (Nat×KH I))(ns:List (Nat×NH I))(u:List (Nat×Nat)):Hints I :=
 ⟨fun i=>(asc a i).getD [],fun i=>(asc b i).getD [],fun i=>(asc c i).getD [],asc j,asc l,asc k,asc ns,fun i=>(asc u i).getD 0⟩
def Y2:Hints I:=mkH [] [] [] [] [] [] [] []
structure En where
 ans:Ans I
 ok:EntOk Go.Proofs.Tryz.prog ans
def enL:List En->List (Ans I)
 | []=>[]
 | e::r=>e.ans::enL r
theorem c2n:∀ l:List En,c7T Go.Proofs.Tryz.prog (enL l)
 | []=>trivial
 | e::r=>⟨e.ok,c2n r⟩
def eR {r:Row I}(h:RK r):En:=⟨d3e tb r,d1T a8U h⟩
def eO {r:Rio I}(h:RO r):En:=⟨d23 tb r,d15 a8U h⟩
def eS {r:Row I}(T f j:Nat)(is:List Nat)(h:a7v Go.Proofs.Tryz.prog r (b1F T f j is)):En:=⟨d03 tb r (c2Z T f j is),c5H a8U h (fun _ _ _ _ _ _ _ _ _ hO h hc hv=>c7N hO h hc hv)⟩
theorem okR {r:Row I}(l:List En){fn:Func}(nt:Nat)(H:Hints I)(rl:List ResultVar)(hf:(Go.Proofs.Tryz.prog).funcs[r.f]?=some fn)
 (h : (fn.body, fn.name == "runtime.NumGoroutine", fn.ntmps, fn.results.toList, Nat.ble r.ps.length nt, a37 H (c4v fn) 1, r.run) = (some (c4v fn), false, nt, rl, true, true, c0M r.ps (d09 tb (c1s (enL l) 3) H (c4v fn) nt r.ps r.rs rl))) : RK r := by
 simp only [Prod.mk.injEq] at h
 obtain ⟨h1,h2,h3,h4,h5,h6,h7⟩:=h
 exact d2I a8U (b6x (c2n l) 3) mixed nt hf h1 h2 h3 h4 h5 h6 h7
def d18:Row I:=⟨228,[.d (.str),.d (.str)],[.k (.d (.int .i64))],c5F⟩
theorem d2S:j6 Go.Proofs.Tryz.prog d18:=d3u Go.Proofs.Tryz.func228 (by kernel_rfl) rfl (by kernel_rfl) (by kernel_rfl)
def d2H:Row I:=⟨44,[.d (.sl 3)],[.k (.row 3 false)],a0n 8⟩
theorem c4b:j6 Go.Proofs.Tryz.prog d2H:=a7j a8U mixed Go.Proofs.Tryz.func44 (by kernel_rfl) (by kernel_rfl) (by kernel_rfl) Go.Proofs.Tryz.underlying22 rfl (by kernel_rfl) (fun _=>by kernel_rfl)
noncomputable def d3i:Rio I:=⟨85,83,[.fn [.dat 83,.dat 83] [.k (.d (.int .i64))]],[],a64⟩
theorem d30:b3Q Go.Proofs.Tryz.prog d3i:=c8K Go.Proofs.Tryz.lay85 85 (by kernel_rfl) (by kernel_rfl) Go.Proofs.Tryz.underlying83 (by kernel_rfl)
def d2K:Row I:=⟨65,[.d (.sl 83)],[.k (.row 83 false)],a0n 24⟩
theorem c7p:j6 Go.Proofs.Tryz.prog d2K:=a7j a8U mixed Go.Proofs.Tryz.func65 (by kernel_rfl) (by kernel_rfl) (by kernel_rfl) Go.Proofs.Tryz.underlying29 rfl (by kernel_rfl) (fun _=>by kernel_rfl)
def d1u:Rio I:=⟨200,3,[],[],c2z⟩
theorem d3E:b3Q Go.Proofs.Tryz.prog d1u:=c9s (I:=I) (E:=3) Go.Proofs.Tryz.lay200 200 (by kernel_rfl) (fun x=>x) Iff.rfl ⟨_,_,Go.Proofs.Tryz.func200,rfl,by kernel_rfl⟩
def d2k:Row I:=⟨212,[.d (.sl 33)],[.k (.row 33 false)],a0n 128⟩
theorem d2x:j6 Go.Proofs.Tryz.prog d2k:=a7j a8U mixed Go.Proofs.Tryz.func212 (by kernel_rfl) (by kernel_rfl) (by kernel_rfl) Go.Proofs.Tryz.underlying28 rfl (by kernel_rfl) (fun _=>by kernel_rfl)
def d1O:Row I:=⟨113,[.d (.sl 56)],[.k (.row 56 false)],a0n 56⟩
theorem d2M:j6 Go.Proofs.Tryz.prog d1O:=a7j a8U mixed Go.Proofs.Tryz.func113 (by kernel_rfl) (by kernel_rfl) (by kernel_rfl) Go.Proofs.Tryz.underlying50 rfl (by kernel_rfl) (fun _=>by kernel_rfl)
noncomputable def d1Y:Rio I:=⟨124,3,[.fn [.int .i64,.int .i64] [.k (.d (.int .i64))]],[],(a64 (α:=Int))⟩
theorem d3q:b3Q Go.Proofs.Tryz.prog d1Y:=c8l (I:=I) (E:=3) Go.Proofs.Tryz.lay124 124 (by kernel_rfl) (fun x=>x) Iff.rfl
def d1Z:Row I:=⟨168,[.d (.sl 9)],[.k (.row 9 false)],a0n 16⟩
theorem d2w:j6 Go.Proofs.Tryz.prog d1Z:=a7j a8U mixed Go.Proofs.Tryz.func168 (by kernel_rfl) (by kernel_rfl) (by kernel_rfl) Go.Proofs.Tryz.underlying31 rfl (by kernel_rfl) (fun _=>by kernel_rfl)
def b6v:Hints I:=mkH [] [] [] [] [(26,⟨65532,[],[],[(3,.k (.d (.int .i64)))],[((.exit 0),[]),(.ret,[(2,.k (.d (.bool)))])],bnd tb (.len (.slot 0)) 1⟩)] [] [] []
def b4i:Row I:=⟨17,[.d (.sl 22)],[.k (.d (.bool))],a5r⟩
theorem b5c:RK (b4i) :=
 okR [] 16 b6v [.tmp 2] Go.Proofs.Tryz.func17 (by kernel_rfl)
def b6N:Hints I:=mkH [] [] [] [(29,⟨16776824,[],[],[(.normal,[(3,.k (.d (.bool))),(4,.k (.d (.bool))),(5,.k (.d (.bool))),(6,.k (.d (.bool)))])]⟩),
 (941,⟨26624,[],[],[(.normal,[(11,.k (.d (.bool)))])]⟩),
 (3773,⟨4096000,[],[],[(.normal,[(15,.k (.d (.bool)))])]⟩)] [] [] [] []
def b4g:Row I:=⟨71,[.d (.dat 77)],[.k (.d (.bool))],a5l⟩
theorem b5z:RK (b4g) :=
 okR [] 67 b6N [.tmp 2] Go.Proofs.Tryz.func71 (by kernel_rfl)
def c29:Hints I:=mkH [] [] [] [] [(58,⟨34351349952,[],[],[(7,.k (.d (.int .i64)))],[((.exit 0),[]),(.ret,[(6,.k (.d (.bool)))])],bnd tb (.len (.slot 0)) 1⟩)] [] [] []
def c0I:Row I:=⟨170,[.d (.str),.fn [.int .u8] [.k (.d (.bool))],.fn [.int .u8] [.k (.d (.bool))]],[.k (.d (.bool))],a7r⟩
theorem b3F:RK (c0I) :=
 okR [] 35 c29 [.tmp 6] Go.Proofs.Tryz.func170 (by kernel_rfl)
def b9M:Row I:=⟨171,[.d (.int .u8)],[.k (.d (.bool))],a5h⟩
theorem a8s:RK (b9M) :=
 okR [] 9 Y2 [.tmp 2] Go.Proofs.Tryz.func171 (by kernel_rfl)
def c0b:Row I:=⟨173,[.d (.int .u8)],[.k (.d (.bool))],a6J⟩
theorem b3b:RK (c0b) :=
 okR [] 9 Y2 [.tmp 2] Go.Proofs.Tryz.func173 (by kernel_rfl)
def b8L:Row I:=⟨172,[.d (.int .u8)],[.k (.d (.bool))],a9K⟩
theorem b91:RK (b8L) :=
 okR [eR a8s,eR b3b] 13 Y2 [.tmp 2] Go.Proofs.Tryz.func172 (by kernel_rfl)
def c0q:Row I:=⟨133,[.d (.str)],[.k (.d (.bool))],a5X⟩
theorem a8Q:RK (c0q) :=
 okR [eR b3F,eR a8s,eR b91] 5 Y2 [.tmp 2] Go.Proofs.Tryz.func133 (by kernel_rfl)
def b9K:Row I:=⟨174,[.d (.int .u8)],[.k (.d (.bool))],a6O⟩
theorem b2o:RK (b9K) :=
 okR [] 9 Y2 [.tmp 2] Go.Proofs.Tryz.func174 (by kernel_rfl)
def b4l:Row I:=⟨175,[.d (.int .u8)],[.k (.d (.bool))],a7e⟩
theorem b5Z:RK (b4l) :=
 okR [eR a8s,eR b2o,eR b3b] 17 Y2 [.tmp 2] Go.Proofs.Tryz.func175 (by kernel_rfl)
def b6q:Row I:=⟨134,[.d (.str)],[.k (.d (.bool))],a4Q⟩
theorem a9F:RK (b6q) :=
 okR [eR b3F,eR b2o,eR b5Z] 5 Y2 [.tmp 2] Go.Proofs.Tryz.func134 (by kernel_rfl)
def b8F:Row I:=⟨119,[.d (.dat 83)],[.k (.d (.bool))],a3e⟩
theorem a5O:RK (b8F) :=
 okR [eR a8Q] 16 Y2 [.tmp 2] Go.Proofs.Tryz.func119 (by kernel_rfl)
def b9F:Row I:=⟨198,[.d (.int .i64)],[.k (.d (.bool))],a8g⟩
theorem c1h:RK (b9F) :=
 okR [] 6 Y2 [.tmp 2] Go.Proofs.Tryz.func198 (by kernel_rfl)
def b7N:Row I:=⟨151,[.d (.int .i64),.d (.int .i64)],[.k (.d (.int .i64))],a1h⟩
theorem a2r:RK (b7N) :=
 okR [eR c1h] 20 Y2 [.tmp 4] Go.Proofs.Tryz.func151 (by kernel_rfl)
def a7U:Row I:=⟨199,[.d (.str),.d (.str)],[.k (.d (.int .i64))],a2G⟩
theorem a7Y:RK (a7U) :=
 okR [eR d2S] 8 Y2 [.tmp 4] Go.Proofs.Tryz.func199 (by kernel_rfl)
def b7P:Row I:=⟨152,[.d (.str),.d (.str)],[.k (.d (.int .i64))],a2B⟩
theorem a7q:RK (b7P) :=
 okR [eR a7Y] 8 Y2 [.tmp 4] Go.Proofs.Tryz.func152 (by kernel_rfl)
def b5W:Row I:=⟨86,[.d (.dat 83),.d (.dat 83)],[.k (.d (.int .i64))],V2⟩
theorem a1v:RK (b5W) :=
 okR [eR a2r,eR a7q] 19 Y2 [.tmp 4] Go.Proofs.Tryz.func86 (by kernel_rfl)
def b4R:Hints I:=mkH [(4,[[],[0],[0,1],[0,1,2],[0,1,2,3],[0,1,2,3,4],[0,1,2,3,4,5],[0,1,2,3,4,5,6],[0,1,2,3,4,5,6,7],[0,1,2,3,4,5,6,7],[0,1,2,3,4,5,6,7,9],[0,1,2,3,4,5,6,7,8,9,10],[0,1,2,3,4,5,6,7,8,9,10,11],[0,1,2,3,4,5,6,7,8,9,10,11,12],[0,1,2,3,4,5,6,7],[0,1,2,3,4,5,6,7,14],[0,1,2,3,4,5,6,7,8,9,10,11,12,13,14,15],[0,1,2,3,4,5,6,7,8,9,10,11,12,13,14,15,16],[0,1,2,3,4,5,6,7,8,9,10,11,12,13,14,15,16,17],[0,1,2,3,4,5,6,7,8,9,10,11,12,13,14,15,16,17,18]])] [] [] [] [(26,⟨8589934492,[],[],[(7,.k (.d (.int .i64)))],[((.exit 0),[]),(.ret,[(2,.k (.d (.bool)))])],bnd tb (.slot 6) 1⟩)] [] [] []
def b2e:Row I:=⟨135,[.d (.sl 101)],[.k (.d (.bool))],a4o⟩
theorem b3n:RK (b2e) :=
 okR [eR a5O,eR a1v] 33 b4R [.tmp 2] Go.Proofs.Tryz.func135 (by kernel_rfl)
def b6C:Hints I:=mkH [] [] [] [(105,⟨16288,[],[],[(.normal,[(5,.k (.d (.bool)))])]⟩),
 (28311549,⟨368934881474191032320,[],[],[(.normal,[(66,.k (.d (.bool)))])]⟩)] [] [] [] []
def b4C:Row I:=⟨72,[.d (.dat 77)],[.k (.d (.bool))],a5p⟩
theorem b5h:RK (b4C) :=
 okR [eR a8Q,eR a9F,eR b3n] 79 b6C [.tmp 2] Go.Proofs.Tryz.func72 (by kernel_rfl)
def c08:Hints I:=mkH [] [] [] [] [(58,⟨4190248,[],[],[(3,.k (.row 3 false)),(12,.k (.d (.int .i64)))],[((.exit 0),[(3,.k (.row 3 false))])],bnd tb (.slot 11) 1⟩)] [] [] []
def b8J:Row I:=⟨73,[.d (.dat 77)],[.k (.row 3 false)],a7C⟩
theorem c0c:RK (b8J) :=
 okR [eR c4b] 35 c08 [.tmp 2] Go.Proofs.Tryz.func73 (by kernel_rfl)
def b4d:Row I:=⟨137,[.d (.int .i64)],[.k (.d (.bool))],a5x⟩
theorem b4V:RK (b4d) :=
 okR [] 13 Y2 [.tmp 2] Go.Proofs.Tryz.func137 (by kernel_rfl)
def b2s (_:Nat):Hints I:=mkH [] [] [] [] [(122,⟨140462610448544,[],[(1,.k (.row 3 false))],[(38,.k (.d (.int .i64)))],[((.exit 0),[]),(.ret,[(5,.k (.d (.bool)))])],bnd tb (.slot 37) 1⟩)] [] [] []
def a3X (n:Nat):Row I:=⟨136,[.d (.int .i64),.var 22 (.k (.row 3 false)) true,.var 27 (.k (.d (.dat 27))) false,.var 98 (.k (.d .any)) false],[.k (.d (.bool))],Q5 n⟩
theorem b0Y (n:Nat)(h_typeexpr_contractive_1:a7v Go.Proofs.Tryz.prog (a3X n) (b1F 98 136 3 [1,2,3])):a7v Go.Proofs.Tryz.prog (a3X (n+1)) (b1F 98 136 3 [1,2,3]) :=
 c6I a8U (b6x (c2n [eR b4V,eS 98 136 3 [1,2,3] h_typeexpr_contractive_1]) 3) mixed 50 (s0:=fun a=>c7O 98 136 3 3 [1,2,3] (b2I tb 50 [.d (.int .i64),.var 22 (.k (.row 3 false)) true,.var 27 (.k (.d (.dat 27))) false,.var 98 (.k (.d .any)) false] a)) (fn:=Go.Proofs.Tryz.f136) (cd:=c4v Go.Proofs.Tryz.f136) (H:=(b2s n)) (rl:=[.tmp 5]) (fun X c σ a vs F h hv hC=>c4u rfl rfl rfl h hv hC) Go.Proofs.Tryz.func136 (by kernel_rfl) (by kernel_rfl) (by kernel_rfl) (by kernel_rfl) (by kernel_rfl) (by kernel_rfl) (by kernel_rfl)
theorem a6Z:∀ n:Nat,a7v Go.Proofs.Tryz.prog (a3X n) (b1F 98 136 3 [1,2,3])
 | 0=>c3B (Y3 (by kernel_rfl))
 | n+1=>b0Y n (a6Z n)
def b4H (_:Nat):Hints I:=mkH [] [] [] [] [(250,⟨4177956,[],[(3,.k (.row 3 false))],[(14,.k (.d (.int .i64)))],[((.exit 0),[]),(.ret,[(2,.k (.d (.bool)))])],bnd tb (.slot 13) 1⟩)] [] [] []
def b3a (n:Nat):Row I:=⟨74,[.d (.dat 27)],[.k (.d (.bool))],a4n n⟩
theorem b3p (n:Nat):RK (b3a n) :=
 okR [eS 98 136 3 [1,2,3] (a6Z n)] 22 (b4H n) [.tmp 2] Go.Proofs.Tryz.func74 (by kernel_rfl)
def b5d (_:Nat):Hints I:=mkH [] [] [] [] [(58,⟨2251799811588180,[],[],[(21,.k (.d (.int .i64)))],[((.exit 0),[]),(.ret,[(2,.k (.d (.int .i64)))])],bnd tb (.slot 20) 1⟩),
 (29902,⟨1125831187365956,[34],[],[(36,.k (.d (.int .i64)))],[((.exit 2),[]),(.ret,[(2,.k (.d (.int .i64)))])],bnd tb (.slot 35) 1⟩)] [] [] []
def b3d (n:Nat):Row I:=⟨34,[.d (.dat 27)],[.k (.d (.int .i64))],a0s n⟩
theorem a5D (n:Nat):RK (b3d n) :=
 okR [eR b5z,eR b5h,eR c0c,eR (b3p n)] 54 (b5d n) [.tmp 2] Go.Proofs.Tryz.func34 (by kernel_rfl)
def b1b:Hints I:=mkH [] [] [] [] [(26,⟨524080,[],[],[(8,.k (.d (.int .i64)))],[((.exit 0),[]),(.ret,[(4,.k (.d (.int .i64)))])],bnd tb (.slot 7) 1⟩)] [] [] []
def a9S:Row I:=⟨148,[.d (.sl 3),.fn [.int .i64] [.k (.d (.bool))]],[.k (.d (.int .i64))],a4L⟩
theorem b0r:RK (a9S) :=
 okR [] 19 b1b [.tmp 4] Go.Proofs.Tryz.func148 (by kernel_rfl)
def a8N:Row I:=⟨83,[.d (.sl 3),.fn [.int .i64] [.k (.d (.bool))]],[.k (.d (.bool))],Y1⟩
theorem a1e:RK (a8N) :=
 okR [eR b0r] 9 Y2 [.tmp 4] Go.Proofs.Tryz.func83 (by kernel_rfl)
def b9V:Row I:=⟨84,[.d (.int .i64),.var 27 (.k (.d (.dat 27))) false],[.k (.d (.bool))],b0Z⟩
theorem c0P:RK (b9V) :=
 okR [] 22 Y2 [.tmp 3] Go.Proofs.Tryz.func84 (by kernel_rfl)
def c1V:Row I:=⟨42,[.d (.dat 27),.d (.sl 3)],[.k (.d (.bool))],a73⟩
theorem c23:RK (c1V) :=
 okR [eR a1e,eR c0P] 9 Y2 [.tmp 4] Go.Proofs.Tryz.func42 (by kernel_rfl)
def a8o:Hints I:=mkH [(6,[[],[],[0,1],[0,1,2],[],[],[5],[4,5,6],[4,5,6,7],[0,1,2,3,4,5,6,7,8]]),(11,[[],[],[0,1],[0,1,2],[],[],[5],[4,5,6],[4,5,6,7],[0,1,2,3,4,5,6,7,8]])] [] [] [] [(58,⟨1152921504606846012,[],[],[(0,.k (.row 83 false)),(3,.k (.d (.int .i64)))],[((.exit 0),[(0,.k (.row 83 false))]),(.ret,[(2,.k (.row 83 false))])],bnd tb (.len (.slot 0)) 1⟩)] [(59690,⟨18014397972611112,0,83,[(3,.k (.d (.int .i64))),(5,.k (.d (.int .i64)))],[((.exit 2),[(3,.k (.d (.int .i64)))])],bnd tb (.len (.slot 4)) 1⟩)] [] []
def a7R:Row I:=⟨88,[.row 83 false],[.k (.row 83 false)],a1d⟩
theorem a78:RK (a7R) :=
 okR [] 61 a8o [.tmp 2] Go.Proofs.Tryz.func88 (by kernel_rfl)
def a8P:Row I:=⟨87,[.d (.sl 83)],[.k (.row 83 true)],a3v⟩
theorem a8W:RK (a8P) :=
 okR [] 9 Y2 [.tmp 2] Go.Proofs.Tryz.func87 (by kernel_rfl)
def c1H:Hints I:=mkH [] [] [] [] [(58,⟨17179865760,[],[],[(5,.k (.row 83 false)),(12,.k (.d (.int .i64)))],[((.exit 0),[(5,.k (.row 83 false))])],bnd tb (.slot 11) 1⟩),
 (14950,⟨8581546528,[],[],[(5,.k (.row 83 false)),(23,.k (.d (.int .i64)))],[((.exit 2),[(5,.k (.row 83 false))])],bnd tb (.slot 22) 1⟩)] [] [] []
noncomputable def b9Q:Row I:=⟨43,[.d (.dat 27),.d (.sl 3)],[.k (.row 83 true)],a5j⟩
theorem c0x:RK (b9Q) :=
 okR [eO d30,eR a1v,eR a78,eR a8W] 39 c1H [.tmp 4] Go.Proofs.Tryz.func43 (by kernel_rfl)
def c9c:Hints I:=mkH [] [] [] [] [(26,⟨2096208,[],[],[(10,.k (.d (.int .i64)))],[((.exit 0),[]),(.ret,[(4,.k (.d (.int .i64)))])],bnd tb (.slot 9) 1⟩)] [] [] []
def c6f:Row I:=⟨93,[.d (.dat 77),.d (.dat 83)],[.k (.d (.int .i64))],a7A⟩
theorem b6S:RK (c6f) :=
 okR [] 26 c9c [.tmp 4] Go.Proofs.Tryz.func93 (by kernel_rfl)
def c2u:Hints I:=mkH [] [] [] [] [(26,⟨4193360,[],[],[(10,.k (.d (.int .i64)))],[((.exit 0),[]),(.ret,[(4,.k (.d (.bool)))])],bnd tb (.slot 9) 1⟩)] [] [] []
def b9R:Row I:=⟨94,[.d (.dat 77),.d (.dat 83)],[.k (.d (.bool))],a3T⟩
theorem b2d:RK (b9R) :=
 okR [] 22 c2u [.tmp 4] Go.Proofs.Tryz.func94 (by kernel_rfl)
def b2W:Hints I:=mkH [(6,[[],[],[0,1],[0,1,2],[],[],[5],[4,5,6],[4,5,6,7],[0,1,2,3,4,5,6,7,8]]),(11,[[],[],[0,1],[0,1,2],[],[],[5],[4,5,6],[4,5,6,7],[0,1,2,3,4,5,6,7,8]])] [] [] [] [(58,⟨1152921504606846012,[],[],[(0,.k (.row 3 false)),(3,.k (.d (.int .i64)))],[((.exit 0),[(0,.k (.row 3 false))]),(.ret,[(2,.k (.row 3 false))])],bnd tb (.len (.slot 0)) 1⟩)] [(59690,⟨18014397972611112,0,3,[(3,.k (.d (.int .i64))),(5,.k (.d (.int .i64)))],[((.exit 2),[(3,.k (.d (.int .i64)))])],bnd tb (.len (.slot 4)) 1⟩)] [] []
def b0V:Row I:=⟨202,[.row 3 false],[.k (.row 3 false)],a3n⟩
theorem b1O:RK (b0V) :=
 okR [] 61 b2W [.tmp 2] Go.Proofs.Tryz.func202 (by kernel_rfl)
def b3u:Row I:=⟨201,[.d (.sl 3)],[.k (.row 3 true)],a6Q⟩
theorem b4x:RK (b3u) :=
 okR [] 9 Y2 [.tmp 2] Go.Proofs.Tryz.func201 (by kernel_rfl)
def c2d:Row I:=⟨153,[.d (.sl 3)],[.k (.row 3 true)],a7W⟩
theorem c28:RK (c2d) :=
 okR [eR c4b,eO d3E,eR b1O,eR b4x] 11 Y2 [.tmp 2] Go.Proofs.Tryz.func153 (by kernel_rfl)
def c3V:Hints I:=mkH [(1,[[],[0],[0,1],[],[3],[0,1,2,3,4],[],[6],[0,1,2,3,4,5,6,7],[0,1,2,3,4,5,6,7,8]])] [] [] [] [] [] [] []
def c2q:Row I:=⟨90,[.d (.dat 56)],[.k (.d (.dat 56))],a6P⟩
theorem b5Y:RK (c2q) :=
 okR [eR c28] 12 c3V [.cell 2 56] Go.Proofs.Tryz.func90 (by kernel_rfl)
def b3W:Hints I:=mkH [] [] [] [] [(26,⟨524080,[],[],[(8,.k (.d (.int .i64)))],[((.exit 0),[]),(.ret,[(4,.k (.d (.int .i64)))])],bnd tb (.slot 7) 1⟩)] [] [] []
def b2B:Row I:=⟨154,[.d (.sl 3),.d (.int .i64)],[.k (.d (.int .i64))],a6w⟩
theorem b3t:RK (b2B) :=
 okR [] 19 b3W [.tmp 4] Go.Proofs.Tryz.func154 (by kernel_rfl)
def b0O:Row I:=⟨91,[.d (.sl 3),.d (.int .i64)],[.k (.d (.bool))],a0O⟩
theorem a6H:RK (b0O) :=
 okR [eR b3t] 9 Y2 [.tmp 4] Go.Proofs.Tryz.func91 (by kernel_rfl)
def b7F:Row I:=⟨177,[.d (.int .i64),.var 22 (.k (.d (.sl 3))) false],[.k (.d (.bool))],a9h⟩
theorem b8s:RK (b7F) :=
 okR [eR a6H] 7 Y2 [.tmp 3] Go.Proofs.Tryz.func177 (by kernel_rfl)
def b9X:Row I:=⟨140,[.d (.sl 3),.d (.sl 3)],[.k (.d (.bool))],a8j⟩
theorem c0C:RK (b9X) :=
 okR [eR a1e,eR b8s] 8 Y2 [.tmp 4] Go.Proofs.Tryz.func140 (by kernel_rfl)
def c1c:Hints I:=mkH [(6,[[],[0],[],[2],[],[2,3,4],[2,3,4,5],[],[2,3,4,5,6,7],[2,3,4,5,6,7,8],[0,1,2,3,4,5,6,7,8,9],[0,1,2,3,4,5,6,7,8,9,10],[0,1,2,3,4,5,6,7,8,9,10,11]]),(7,[[],[0],[],[0,1,2],[0,1,2,3],[],[0,1,2,3,4,5]]),(15,[[],[0],[],[2],[],[4],[],[4,5,6],[4,5,6,7],[2,3,4,5,6,7,8],[2,3,4,5,6,7,8,9],[],[2,3,4,5,6,7,8,9,10,11],[2,3,4,5,6,7,8,9,10,11,12],[0,1,2,3,4,5,6,7,8,9,10,11,12,13],[0,1,2,3,4,5,6,7,8,9,10,11,12,13,14],[0,1,2,3,4,5,6,7,8,9,10,11,12,13,14,15]]),(22,[[],[],[1],[],[3],[],[5],[1,2,3,4,5,6],[1,2,3,4,5,6,7],[0,1,2,3,4,5,6,7],[0,1,2,3,4,5,6,7,9],[0,1,2,3,4,5,6,7,8,9,10]])] [] [(22,[13])] [] [(122,⟨140737480048640,[],[(13,.lvs [.row 3 false,.row 3 false,.d (.bool)])],[(14,.k (.d (.int .i64))),(23,.k (.d (.int .i64)))],[((.exit 0),[(14,.k (.d (.int .i64)))])],bnd tb (.slot 22) 1⟩),
 (506,⟨604462909244364634865664,[],[(13,.lvs [.row 3 false,.row 3 false,.d (.bool)])],[(14,.k (.d (.int .i64))),(17,.k (.d (.bool))),(49,.k (.d (.int .i64)))],[((.exit 2),[(14,.k (.d (.int .i64))),(17,.k (.d (.bool)))])],bnd tb (.slot 48) 1⟩)] [] [] []
def b7W:Row I:=⟨89,[.d (.dat 27),.d (.dat 40),.d (.int .i64),.d (.dat 83),.bor 111],[.k (.d (.int .i64)),.k (.d (.dat 56)),.k (.d (.bool))],a7I⟩
theorem b90:RK (b7W) :=
 okR [eR b6S,eR b2d,eR b5Y,eR c0C] 92 c1c [.tmp 10,.cell 11 56,.tmp 12] Go.Proofs.Tryz.func89 (by kernel_rfl)
def c2I:Hints I:=mkH [(17,[[],[],[],[1,2],[1,2,3],[1,2,3,4],[],[6],[],[],[6,7,8],[6,7,8,10],[6,7,8,9,10,11],[6,7,8,9,10,11,12],[6,7,8,9,10,11,12,13],[1,2,3,4,5,6,7,8,9,10,11,12,13,14],[],[0,1,2,3,4,5,6,7,8,9,10,11,12,13,14,15,16],[0,1,2,3,4,5,6,7,8,9,10,11,12,13,14,15,16,17],[0,1,2,3,4,5,6,7,8,9,10,11,12,13,14,15,16,17,18]]),(29,[[],[0],[],[2],[],[2,3,4],[2,3,4,5],[],[7],[0,1,2,3,4,5,6],[0,1,2,3,4,5,6,9],[0,1,2,3,4,5,6,7,8,9,10],[0,1,2,3,4,5,6,7,8,9,10,11],[0,1,2,3,4,5,6,7,8,9,10,11,12]])] [] [(7,[10]),(8,[10]),(9,[10]),(10,[10])] [(129638,⟨42530103568258773105293295432646000640,[],[],[(.normal,[(22,.k (.d (.int .i64)))])]⟩),
 (518556,⟨10846500445604913522895065611887611740160,[],[],[(.normal,[(132,.k (.d (.bool)))])]⟩)] [(58,⟨576460752035052032,[10],[(8,.lvs [.d (.sl 83),.d (.sl 3),.d (.sl 56),.d (.sl 3),.d (.sl 3),.d (.bool),.d (.sl 3),.d (.sl 3),.d (.bool),.d (.sl 85)]),(10,.lvs [.row 83 true,.row 3 true,.row 56 true,.row 3 true,.row 3 true,.d (.bool),.row 3 true,.row 3 true,.d (.bool),.row 85 true])],[(28,.k (.d (.int .i64)))],[((.exit 0),[]),(.ret,[(9,.k (.d (.bool)))])],bnd tb (.slot 27) 1⟩),
 (122,⟨1237940034673694256472129536,[],[(10,.lvs [.row 83 true,.row 3 true,.row 56 true,.row 3 true,.row 3 true,.d (.bool),.row 3 true,.row 3 true,.d (.bool),.row 85 true])],[(62,.k (.d (.int .i64)))],[((.exit 2),[])],bnd tb (.slot 61) 1⟩),
 (506,⟨89202980794102210156539221420169498779976192,[],[(8,.k (.d (.dat 71))),(10,.lvs [.row 83 true,.row 3 true,.row 56 true,.d (.sl 3),.d (.sl 3),.d (.bool),.d (.sl 3),.d (.sl 3),.d (.bool),.row 85 true])],[(104,.k (.d (.int .i64)))],[((.exit 8),[]),(.ret,[(9,.k (.d (.bool)))])],bnd tb (.slot 103) 1⟩)] [] [] [(250,3),(31334,3)]
def c0B:Row I:=⟨46,[.d (.dat 27),.d (.dat 40),.d (.sl 83),.bor 111],[.k (.d (.dat 71)),.k (.d (.bool))],a9a⟩
theorem c16:RK (c0B) :=
 okR [eR c7p,eR b90,eR b5Y,eR a6H] 147 c2I [.cell 8 71,.tmp 9] Go.Proofs.Tryz.func46 (by kernel_rfl)
def b7o:Row I:=⟨92,[.d (.int .i64),.var 27 (.k (.d (.dat 27))) false],[.k (.d (.bool))],a07⟩
theorem b7T:RK (b7o) :=
 okR [] 11 Y2 [.tmp 3] Go.Proofs.Tryz.func92 (by kernel_rfl)
def c1M:Hints I:=mkH [] [] [] [(16024,⟨105553116272640,[],[],[(.normal,[(11,.k (.d (.int .i64))),(12,.k (.d (.int .i64)))])]⟩),
 (31333,⟨4160749824,[],[],[(.normal,[(8,.k (.row 111 false))])]⟩)] [(122,⟨2199023191808,[],[],[(8,.k (.row 111 false)),(16,.k (.d (.int .i64)))],[((.exit 0),[(8,.k (.row 111 false))])],bnd tb (.slot 15) 1⟩),
 (250,⟨144106391982840064,[],[],[(8,.k (.row 111 false)),(43,.k (.d (.int .i64)))],[((.exit 2),[(8,.k (.row 111 false))])],bnd tb (.cst 2) 1⟩)] [] [] []
def b99:Row I:=⟨47,[.d (.dat 27),.d (.dat 77),.d (.sl 83)],[.k (.row 111 false)],a5g⟩
theorem c1g:RK (b99) :=
 okR [eR b6S,eR b7T,eR b2d] 58 c1M [.tmp 6] Go.Proofs.Tryz.func47 (by kernel_rfl)
def b9Y (_:Nat):Hints I:=mkH [(4,[[],[],[1],[],[3],[],[3,4,5],[3,4,5,6],[1,2,3,4,5,6,7],[1,2,3,4,5,6,7,8],[],[0,1,2,3,4,5,6,7,8,9,10],[0,1,2,3,4,5,6,7,8,9,10,11],[]])] [] [] [(83,⟨1006632960,[],[(5,.k (.row 71 false))],[(.normal,[])]⟩)] [(14,⟨72048797944907776,[],[(4,.k (.row 111 false)),(5,.k (.row 71 false))],[(41,.k (.row 111 false)),(43,.k (.d (.int .i64)))],[((.exit 0),[(41,.k (.row 111 false))])],bnd tb (.slot 42) 1⟩)] [] [] []
def a6R (n:Nat):Row I:=⟨45,[.d (.int .i64),.var 40 (.k (.d (.dat 40))) false,.var 27 (.k (.d (.dat 27))) false,.var 29 (.k (.d (.sl 83))) false,.var 105 (.k (.row 111 false)) true,.var 62 (.k (.row 71 false)) true,.var 106 (.k (.d .any)) false],[],a0H n⟩
theorem b7L (n:Nat)(h_record_Shapes_1:a7v Go.Proofs.Tryz.prog (a6R n) (b1F 106 45 6 [1,2,3,4,5,6])):a7v Go.Proofs.Tryz.prog (a6R (n+1)) (b1F 106 45 6 [1,2,3,4,5,6]) :=
 c6I a8U (b6x (c2n [eR c16,eR c1g,eS 106 45 6 [1,2,3,4,5,6] h_record_Shapes_1]) 3) mixed 56 (s0:=fun a=>c7O 106 45 7 6 [1,2,3,4,5,6] (b2I tb 56 [.d (.int .i64),.var 40 (.k (.d (.dat 40))) false,.var 27 (.k (.d (.dat 27))) false,.var 29 (.k (.d (.sl 83))) false,.var 105 (.k (.row 111 false)) true,.var 62 (.k (.row 71 false)) true,.var 106 (.k (.d .any)) false] a)) (fn:=Go.Proofs.Tryz.f45) (cd:=c4v Go.Proofs.Tryz.f45) (H:=(b9Y n)) (rl:=[]) (fun X c σ a vs F h hv hC=>c4u rfl rfl rfl h hv hC) Go.Proofs.Tryz.func45 (by kernel_rfl) (by kernel_rfl) (by kernel_rfl) (by kernel_rfl) (by kernel_rfl) (by kernel_rfl) (by kernel_rfl)
theorem b0q:∀ n:Nat,a7v Go.Proofs.Tryz.prog (a6R n) (b1F 106 45 6 [1,2,3,4,5,6])
 | 0=>c3B (Y3 (by kernel_rfl))
 | n+1=>b7L n (b0q n)
def c1j (_:Nat):Hints I:=mkH [(5,[[],[],[1],[1,2],[],[4],[1,2,3,4,5],[0,1,2,3,4,5,6],[],[0,1,2,3,4,5,6,7,8]])] [] [] [] [] [] [] []
noncomputable def b93 (n:Nat):Row I:=⟨20,[.d (.dat 27),.d (.dat 40)],[.k (.row 71 false),.k (.d (.int .i64))],a3V n⟩
theorem b2c (n:Nat):RK (b93 n) :=
 okR [eR (a5D n),eR c23,eR c4b,eR c0x,eS 106 45 6 [1,2,3,4,5,6] (b0q n)] 46 (c1j n) [.tmp 4,.tmp 5] Go.Proofs.Tryz.func20 (by kernel_rfl)
def b7l:Row I:=⟨32,[],[.k (.d (.dat 33))],X8⟩
theorem a2p:RK (b7l) :=
 okR [] 2 Y2 [.cell 0 33] Go.Proofs.Tryz.func32 (by kernel_rfl)
def b5i:Row I:=⟨162,[.d (.int .u8)],[.k (.d (.bool))],a2Q⟩
theorem a9r:RK (b5i) :=
 okR [] 9 Y2 [.tmp 2] Go.Proofs.Tryz.func162 (by kernel_rfl)
def b5y:Row I:=⟨163,[.d (.int .u8)],[.k (.d (.bool))],a38⟩
theorem a80:RK (b5y) :=
 okR [] 9 Y2 [.tmp 2] Go.Proofs.Tryz.func163 (by kernel_rfl)
def b6g:Hints I:=mkH [] [] [] [] [(58,⟨4398046248972,[],[],[(3,.k (.d (.int .i64)))],[((.exit 0),[]),(.ret,[(2,.k (.d (.bool)))])],bnd tb (.len (.slot 0)) 1⟩)] [] [] []
def b4p:Row I:=⟨115,[.d (.str)],[.k (.d (.bool))],a2k⟩
theorem a59:RK (b4p) :=
 okR [eR a9r,eR a80] 42 b6g [.tmp 2] Go.Proofs.Tryz.func115 (by kernel_rfl)
def b2g:Row I:=⟨61,[.d (.dat 83)],[.k (.d (.bool))],a1r⟩
theorem a5d:RK (b2g) :=
 okR [eR a59] 22 Y2 [.tmp 2] Go.Proofs.Tryz.func61 (by kernel_rfl)
def b4J:Row I:=⟨62,[.d (.sl 33)],[.k (.row 33 false)],a1q⟩
theorem a8G:RK (b4J) :=
 okR [] 5 Y2 [.tmp 2] Go.Proofs.Tryz.func62 (by kernel_rfl)
def b5U:Row I:=⟨110,[.d (.int .i64),.d (.int .i64)],[.k (.d (.int .i64))],a2R⟩
theorem a6n:RK (b5U) :=
 okR [] 11 Y2 [.tmp 4] Go.Proofs.Tryz.func110 (by kernel_rfl)
def b62:Row I:=⟨111,[.d (.str),.d (.str)],[.k (.d (.int .i64))],a1o⟩
theorem a9C:RK (b62) :=
 okR [] 11 Y2 [.tmp 4] Go.Proofs.Tryz.func111 (by kernel_rfl)
def b0G:Row I:=⟨52,[.d (.dat 83),.d (.dat 83)],[.k (.d (.int .i64))],J4⟩
theorem a0W:RK (b0G) :=
 okR [eR a6n,eR a9C] 20 Y2 [.tmp 4] Go.Proofs.Tryz.func52 (by kernel_rfl)
def c0a:Hints I:=mkH [(13,[[],[],[1],[1,2],[0,1,2,3],[0,1,2,3,4],[0,1,2,3,4,5],[0,1,2,3,4,5,6],[0,1,2,3,4,5],[0,1,2,3,4,5,6,7,8],[0,1,2,3,4,5,6,7,8,9],[0,1,2,3,4,5],[0,1,2,3,4,5],[0,1,2,3,4,5,11,12],[0,1,2,3,4,5,11,12,13],[0,1,2,3,4,5,6,7,8,9,10,11,12,13,14],[0,1,2,3,4,5,6,7,8,9,10,11,12,13,14,15],[0,1,2,3,4,5,6,7,8,9,10,11,12,13,14,15,16]]),(15,[[],[],[1],[1,2],[0,1,2,3],[0,1,2,3,4],[0,1,2,3,4,5],[0,1,2,3,4,5,6],[0,1,2,3,4,5],[0,1,2,3,4,5,6,7,8],[0,1,2,3,4,5,6,7,8,9],[0,1,2,3,4,5],[0,1,2,3,4,5],[0,1,2,3,4,5,11,12],[0,1,2,3,4,5,11,12,13],[0,1,2,3,4,5,6,7,8,9,10,11,12,13,14],[0,1,2,3,4,5,6,7,8,9,10,11,12,13,14,15]]),(17,[[],[0],[],[0,1,2],[0,1,2,3],[],[5],[],[5,6,7],[0,1,2,3,4,5,6,7,8],[0,1,2,3,4,5,6,7,8,9],[0,1,2,3,4,5,6,7,8,9,10]]),(18,[[],[],[],[1,2],[1,2,3],[1,2,3,4],[0,1,2,3,4,5],[],[7],[],[7,8,9],[0,1,2,3,4,5,6,7,8,9,10],[0,1,2,3,4,5,6,7,8,9,10,11],[0,1,2,3,4,5,6,7,8,9,10,11,12]]),(19,[[],[],[],[1,2],[1,2,3],[1,2,3,4],[0,1,2,3,4,5],[],[7],[],[7,8,9],[0,1,2,3,4,5,6,7,8,9,10],[0,1,2,3,4,5,6,7,8,9,10,11],[0,1,2,3,4,5,6,7,8,9,10,11,12]])] [] [] [] [(58,⟨2147221600,[],[(4,.lvs [.d (.int .i64),.d (.int .i64),.d (.str),.row 33 false,.row 83 false,.row 138 false,.row 9 false])],[(6,.k (.d (.int .i64)))],[((.exit 0),[]),(.ret,[(5,.k (.d (.int .i64)))])],bnd tb (.len (.slot 0)) 1⟩),
 (250,⟨5192296858534827628530492034256672,[7],[(4,.lvs [.d (.int .i64),.d (.int .i64),.d (.str),.row 33 false,.row 83 false,.row 138 false,.row 9 false]),(7,.lvs [.d (.int .i64),.d (.int .i64),.d (.str),.d (.sl 33),.d (.sl 83),.row 138 true,.row 9 true])],[(8,.k (.d (.int .i64)))],[((.exit 2),[]),(.ret,[(5,.k (.d (.int .i64)))])],bnd tb (.len (.slot 0)) 1⟩),
 (32036,⟨288230101273805312,[7],[],[(9,.k (.d (.int .i64)))],[((.exit 4),[(9,.k (.d (.int .i64)))])],bnd tb (.len (.ld 29 (.fld 33 4 (.slot 7)))) 1⟩)] [] [] []
def b7n:Row I:=⟨27,[.d (.sl 83),.d (.sl 33)],[.k (.d (.dat 33)),.k (.d (.int .i64))],a0F⟩
theorem a5z:RK (b7n) :=
 okR [eR a5d,eR a0W,eR a8G] 113 c0a [.cell 4 33,.tmp 5] Go.Proofs.Tryz.func27 (by kernel_rfl)
def c4z:Hints I:=mkH [] [] [] [(105,⟨160,[],[],[(.normal,[(5,.k (.d (.bool)))])]⟩),
 (429,⟨2560,[],[],[(.normal,[(9,.k (.d (.bool)))])]⟩),
 (6909,⟨327680,[],[],[(.normal,[(16,.k (.d (.bool)))])]⟩)] [] [] [] []
def c3c:Row I:=⟨208,[.d (.int .i64)],[.k (.d (.dat 220)),.k (.d (.bool))],c1k⟩
theorem c32:RK (c3c) :=
 okR [] 27 c4z [.cell 2 220,.tmp 3] Go.Proofs.Tryz.func208 (by kernel_rfl)
def b2m:Hints I:=mkH [(4,[[],[],[],[2],[1,2,3],[1,2,3,4],[],[],[6,7],[6,7,8],[0,1,2,3,4,5,6,7,8,9],[0,1,2,3,4,5,6,7,8,9,10]])] [] [] [] [(26,⟨16777200,[],[],[(5,.k (.d (.int .i64)))],[((.exit 0),[]),(.ret,[(4,.k (.d (.bool)))])],bnd tb (.len (.slot 0)) 1⟩)] [] [] []
def b00:Row I:=⟨230,[.d (.sl 9),.fn [.str,.str] [.k (.d (.int .i64))]],[.k (.d (.bool))],a71⟩
theorem b1v:RK (b00) :=
 okR [] 24 b2m [.tmp 4] Go.Proofs.Tryz.func230 (by kernel_rfl)
def b7I:Hints I:=mkH [] [] [] [] [(58,⟨261140,[],[],[(10,.k (.d (.int .i64)))],[((.exit 0),[]),(.ret,[(2,.k (.d (.bool)))])],bnd tb (.slot 9) 1⟩)] [] [] []
def b5k:Row I:=⟨209,[.d (.sl 9)],[.k (.d (.bool))],b1l⟩
theorem b6o:RK (b5k) :=
 okR [eR b1v,eR a7q,eR a9F] 18 b7I [.tmp 2] Go.Proofs.Tryz.func209 (by kernel_rfl)
def b1J:Hints I:=mkH [(4,[[],[],[],[2],[1,2,3],[1,2,3,4],[],[],[6,7],[6,7,8],[0,1,2,3,4,5,6,7,8,9],[0,1,2,3,4,5,6,7,8,9,10]])] [] [] [] [(26,⟨16777200,[],[],[(5,.k (.d (.int .i64)))],[((.exit 0),[]),(.ret,[(4,.k (.d (.bool)))])],bnd tb (.len (.slot 0)) 1⟩)] [] [] []
def b0Q:Row I:=⟨231,[.d (.sl 83),.fn [.dat 83,.dat 83] [.k (.d (.int .i64))]],[.k (.d (.bool))],a7N⟩
theorem b07:RK (b0Q) :=
 okR [] 24 b1J [.tmp 4] Go.Proofs.Tryz.func231 (by kernel_rfl)
def c0T:Hints I:=mkH [] [] [] [] [(58,⟨534773780,[],[],[(21,.k (.d (.int .i64)))],[((.exit 0),[]),(.ret,[(2,.k (.d (.bool)))])],bnd tb (.slot 20) 1⟩)] [] [] []
def b8c:Row I:=⟨210,[.d (.dat 33)],[.k (.d (.bool))],b5j⟩
theorem b97:RK (b8c) :=
 okR [eR b07,eR a1v,eR a5O] 29 c0T [.tmp 2] Go.Proofs.Tryz.func210 (by kernel_rfl)
def b0p:Hints I:=mkH [(4,[[],[],[],[2],[1,2,3],[1,2,3,4],[],[],[6,7],[6,7,8],[0,1,2,3,4,5,6,7,8,9],[0,1,2,3,4,5,6,7,8,9,10]])] [] [] [] [(26,⟨16777200,[],[],[(5,.k (.d (.int .i64)))],[((.exit 0),[]),(.ret,[(4,.k (.d (.bool)))])],bnd tb (.len (.slot 0)) 1⟩)] [] [] []
def a9A:Row I:=⟨232,[.d (.sl 138),.fn [.dat 138,.dat 138] [.k (.d (.int .i64))]],[.k (.d (.bool))],a62⟩
theorem a9L:RK (a9A) :=
 okR [] 24 b0p [.tmp 4] Go.Proofs.Tryz.func232 (by kernel_rfl)
def a9f:Hints I:=mkH [(7,[[],[],[],[1,2],[1,2,3],[],[],[5,6],[5,6,7],[0,1,2,3,4,5,6,7,8],[0,1,2,3,4,5,6,7,8,9]])] [] [] [] [(58,⟨137437905728,[],[],[(20,.k (.d (.int .i64)))],[((.exit 0),[]),(.ret,[(6,.k (.d (.int .i64)))])],bnd tb (.slot 19) 1⟩)] [] [] []
def a8v:Row I:=⟨255,[.d (.sl 33),.d (.sl 33),.fn [.dat 33,.dat 33] [.k (.d (.int .i64))]],[.k (.d (.int .i64))],a6d⟩
theorem a8K:RK (a8v) :=
 okR [eR a2r] 37 a9f [.tmp 6] Go.Proofs.Tryz.func255 (by kernel_rfl)
def b7w:Row I:=⟨262,[.d (.int .i64)],[.k (.d (.bool))],a9n⟩
theorem b8h:RK (b7w) :=
 okR [] 6 Y2 [.tmp 2] Go.Proofs.Tryz.func262 (by kernel_rfl)
def b50:Row I:=⟨256,[.d (.int .i64),.d (.int .i64)],[.k (.d (.int .i64))],b1n⟩
theorem b6I:RK (b50) :=
 okR [eR b8h] 20 Y2 [.tmp 4] Go.Proofs.Tryz.func256 (by kernel_rfl)
def a9T:Hints I:=mkH [(7,[[],[],[],[1,2],[1,2,3],[],[],[5,6],[5,6,7],[0,1,2,3,4,5,6,7,8],[0,1,2,3,4,5,6,7,8,9]])] [] [] [] [(58,⟨137437905728,[],[],[(20,.k (.d (.int .i64)))],[((.exit 0),[]),(.ret,[(6,.k (.d (.int .i64)))])],bnd tb (.slot 19) 1⟩)] [] [] []
def a9e:Row I:=⟨257,[.d (.sl 83),.d (.sl 83),.fn [.dat 83,.dat 83] [.k (.d (.int .i64))]],[.k (.d (.int .i64))],a6L⟩
theorem a9y:RK (a9e) :=
 okR [eR a2r] 37 a9T [.tmp 6] Go.Proofs.Tryz.func257 (by kernel_rfl)
def a88:Hints I:=mkH [(7,[[],[],[],[1,2],[1,2,3],[],[],[5,6],[5,6,7],[0,1,2,3,4,5,6,7,8],[0,1,2,3,4,5,6,7,8,9]])] [] [] [] [(58,⟨137437905728,[],[],[(20,.k (.d (.int .i64)))],[((.exit 0),[]),(.ret,[(6,.k (.d (.int .i64)))])],bnd tb (.slot 19) 1⟩)] [] [] []
def a8k:Row I:=⟨258,[.d (.sl 138),.d (.sl 138),.fn [.dat 138,.dat 138] [.k (.d (.int .i64))]],[.k (.d (.int .i64))],a5R⟩
theorem a8O:RK (a8k) :=
 okR [eR a2r] 37 a88 [.tmp 6] Go.Proofs.Tryz.func258 (by kernel_rfl)
def b0P:Hints I:=mkH [(7,[[],[],[],[1,2],[1,2,3],[],[],[5,6],[5,6,7],[0,1,2,3,4,5,6,7,8],[0,1,2,3,4,5,6,7,8,9]])] [] [] [] [(58,⟨137437905728,[],[],[(20,.k (.d (.int .i64)))],[((.exit 0),[]),(.ret,[(6,.k (.d (.int .i64)))])],bnd tb (.slot 19) 1⟩)] [] [] []
def a9u:Row I:=⟨259,[.d (.sl 9),.d (.sl 9),.fn [.str,.str] [.k (.d (.int .i64))]],[.k (.d (.int .i64))],a61⟩
theorem a9R:RK (a9u) :=
 okR [eR a2r] 37 b0P [.tmp 6] Go.Proofs.Tryz.func259 (by kernel_rfl)
def a2P (n:Nat):Row I:=⟨249,[.d (.dat 33),.d (.dat 33)],[.k (.d (.int .i64))],b7h n⟩
def a0C (n:Nat):Row I:=⟨233,[.d (.dat 138),.d (.dat 138)],[.k (.d (.int .i64))],a8X n⟩
def a1E (n:Nat):Row I:=⟨248,[.d (.sl 33),.d (.sl 33)],[.k (.d (.int .i64))],b7E n⟩
theorem b9H (n:Nat)(_:j6 Go.Proofs.Tryz.prog (a2P n))(h_value_compareEntries:j6 Go.Proofs.Tryz.prog (a0C n))(h_value_compareValues:j6 Go.Proofs.Tryz.prog (a1E n)):RK (a2P (n+1)) :=
 okR [eR a2r,eR b6I,eR a7q,eR a9y,eR a1v,eR h_value_compareValues,eR a8O,eR h_value_compareEntries,eR a9R] 64 Y2 [.tmp 4] Go.Proofs.Tryz.func249 (by kernel_rfl)
theorem b2x (n:Nat)(h_value_Compare:j6 Go.Proofs.Tryz.prog (a2P n))(_:j6 Go.Proofs.Tryz.prog (a0C n))(h_value_compareValues:j6 Go.Proofs.Tryz.prog (a1E n)):RK (a0C (n+1)) :=
 okR [eR h_value_compareValues,eR h_value_Compare] 26 Y2 [.tmp 4] Go.Proofs.Tryz.func233 (by kernel_rfl)
theorem b3l (n:Nat)(h_value_Compare:j6 Go.Proofs.Tryz.prog (a2P n))(_:j6 Go.Proofs.Tryz.prog (a0C n))(_:j6 Go.Proofs.Tryz.prog (a1E n)):RK (a1E (n+1)) :=
 okR [eR a8K,eR h_value_Compare] 8 Y2 [.tmp 4] Go.Proofs.Tryz.func248 (by kernel_rfl)
theorem a6k:∀ n:Nat,j6 Go.Proofs.Tryz.prog (a2P n)/\j6 Go.Proofs.Tryz.prog (a0C n)/\j6 Go.Proofs.Tryz.prog (a1E n)
 | 0=>⟨Y3 (by kernel_rfl),Y3 (by kernel_rfl),Y3 (by kernel_rfl)⟩
 | n+1=>by
   obtain ⟨h0,h1,h2⟩:=a6k n
   exact ⟨b9H n h0 h1 h2,b2x n h0 h1 h2,b3l n h0 h1 h2⟩
theorem c01 (n:Nat):j6 Go.Proofs.Tryz.prog (a2P n):=(a6k n).1
theorem b3k (n:Nat):j6 Go.Proofs.Tryz.prog (a0C n):=(a6k n).2.1
def c1A (n:Nat):Row I:=⟨260,[.d (.dat 33),.d (.dat 33)],[.k (.d (.bool))],c0l n⟩
theorem c25 (n:Nat):RK (c1A n) :=
 okR [eR (c01 n)] 9 Y2 [.tmp 4] Go.Proofs.Tryz.func260 (by kernel_rfl)
def c0r (n:Nat):Row I:=⟨250,[.d (.dat 33)],[.k (.d (.bool))],b8D n⟩
theorem c1U (n:Nat):RK (c0r n) :=
 okR [eR (c25 n)] 6 Y2 [.tmp 2] Go.Proofs.Tryz.func250 (by kernel_rfl)
def b6V (n:Nat):Row I:=⟨234,[.d (.dat 138),.d (.int .i64)],[.k (.d (.bool))],b2E n⟩
theorem b7A (n:Nat):RK (b6V n) :=
 okR [eR (c1U n)] 20 Y2 [.tmp 4] Go.Proofs.Tryz.func234 (by kernel_rfl)
def b42 (_:Nat):Hints I:=mkH [] [] [] [] [(58,⟨4290773012,[],[],[(22,.k (.d (.int .i64)))],[((.exit 0),[]),(.ret,[(2,.k (.d (.bool)))])],bnd tb (.slot 21) 1⟩)] [] [] []
def b3h (n:Nat):Row I:=⟨211,[.d (.dat 33)],[.k (.d (.bool))],a9E n⟩
theorem b4D (n:Nat):RK (b3h n) :=
 okR [eR a9L,eR (b3k n),eR (b7A n)] 32 (b42 n) [.tmp 2] Go.Proofs.Tryz.func211 (by kernel_rfl)
def b7m (n:Nat):Row I:=⟨160,[.d (.dat 33)],[.k (.d (.bool))],b3H n⟩
theorem b8M (n:Nat):RK (b7m n) :=
 okR [eR c32,eR b6o,eR a8Q,eR b97,eR (b4D n)] 124 Y2 [.tmp 2] Go.Proofs.Tryz.func160 (by kernel_rfl)
def c3Z:Hints I:=mkH [] [] [] [] [(58,⟨536866856,[],[],[(3,.k (.row 33 false)),(12,.k (.d (.int .i64)))],[((.exit 0),[(3,.k (.row 33 false))])],bnd tb (.slot 11) 1⟩)] [] [] []
def c1E:Row I:=⟨161,[.d (.dat 33)],[.k (.row 33 false)],c0i⟩
theorem c26:RK (c1E) :=
 okR [eR d2x] 30 c3Z [.tmp 2] Go.Proofs.Tryz.func161 (by kernel_rfl)
def b9E (_:Nat):Hints I:=mkH [] [] [] [] [(58,⟨522260,[9],[],[(11,.k (.d (.int .i64)))],[((.exit 0),[]),(.ret,[(2,.k (.d (.bool)))])],bnd tb (.slot 10) 1⟩)] [] [] []
def a6U (n:Nat):Row I:=⟨112,[.d (.dat 33)],[.k (.d (.bool))],a8T n⟩
theorem b7H (n:Nat)(h_value_validTree:j6 Go.Proofs.Tryz.prog (a6U n)):RK (a6U (n+1)) :=
 okR [eR (b8M n),eR c26,eR h_value_validTree] 19 (b9E n) [.tmp 2] Go.Proofs.Tryz.func112 (by kernel_rfl)
theorem b0I:∀ n:Nat,j6 Go.Proofs.Tryz.prog (a6U n)
 | 0=>Y3 (by kernel_rfl)
 | n+1=>b7H n (b0I n)
def b8P (n:Nat):Row I:=⟨53,[.d (.dat 33)],[.k (.d (.int .i64))],b0i n⟩
theorem b1k (n:Nat):RK (b8P n) :=
 okR [eR (b0I n)] 6 Y2 [.tmp 2] Go.Proofs.Tryz.func53 (by kernel_rfl)
def b8p:Row I:=⟨54,[.d (.dat 71)],[.k (.d (.bool))],a5S⟩
theorem b1m:RK (b8p) :=
 okR [] 19 Y2 [.tmp 2] Go.Proofs.Tryz.func54 (by kernel_rfl)
def c2O:Hints I:=mkH [(1,[[],[0],[0,1],[],[3],[0,1,2,3,4],[0,1,2,3,4,5]])] [] [] [] [(58,⟨33521704,[],[],[(3,.k (.row 56 false)),(15,.k (.d (.int .i64)))],[((.exit 0),[(3,.k (.row 56 false))])],bnd tb (.slot 14) 1⟩)] [] [] []
def c04:Row I:=⟨55,[.d (.dat 71)],[.k (.row 56 false)],b8e⟩
theorem c18:RK (c04) :=
 okR [eR d2M] 26 c2O [.tmp 2] Go.Proofs.Tryz.func55 (by kernel_rfl)
def c33:Hints I:=mkH [(1,[[],[0],[0,1],[],[3],[0,1,2,3,4],[0,1,2,3,4,5],[]])] [] [] [] [(26,⟨268419152,[12],[],[(14,.k (.d (.int .i64)))],[((.exit 0),[]),(.ret,[(4,.k (.d (.bool)))])],bnd tb (.slot 13) 1⟩)] [] [] []
def c2b:Row I:=⟨56,[.d (.dat 27),.d (.dat 56)],[.k (.d (.bool))],b4L⟩
theorem b5N:RK (c2b) :=
 okR [eR c4b] 28 c33 [.tmp 4] Go.Proofs.Tryz.func56 (by kernel_rfl)
def a87:Hints I:=mkH [(4,[[],[],[],[1,2],[1,2,3],[0,1,2,3,4]])] [] [] [] [(26,⟨524080,[],[],[(8,.k (.d (.int .i64)))],[((.exit 0),[]),(.ret,[(4,.k (.d (.int .i64)))])],bnd tb (.slot 7) 1⟩)] [] [] []
def a8m:Row I:=⟨114,[.d (.sl 83),.d (.dat 83)],[.k (.d (.int .i64))],a1A⟩
theorem a47:RK (a8m) :=
 okR [] 19 a87 [.tmp 4] Go.Proofs.Tryz.func114 (by kernel_rfl)
def c1o:Row I:=⟨178,[.d (.int .i64)],[.k (.d (.int .i64))],c0g⟩
theorem c2v:RK (c1o) :=
 okR [] 14 Y2 [.tmp 2] Go.Proofs.Tryz.func178 (by kernel_rfl)
def a7G:Row I:=⟨58,[.d (.sl 83),.d (.dat 83)],[.k (.d (.bool))],V4⟩
theorem a1L:RK (a7G) :=
 okR [eR a47] 9 Y2 [.tmp 4] Go.Proofs.Tryz.func58 (by kernel_rfl)
def a96:Hints I:=mkH [] [] [] [] [(26,⟨524080,[],[],[(8,.k (.d (.int .i64)))],[((.exit 0),[]),(.ret,[(4,.k (.d (.int .i64)))])],bnd tb (.slot 7) 1⟩)] [] [] []
def a83:Row I:=⟨222,[.d (.sl 9),.d (.str)],[.k (.d (.int .i64))],a30⟩
theorem a9s:RK (a83) :=
 okR [] 19 a96 [.tmp 4] Go.Proofs.Tryz.func222 (by kernel_rfl)
def a7X:Row I:=⟨184,[.d (.sl 9),.d (.str)],[.k (.d (.bool))],a1m⟩
theorem a8l:RK (a7X) :=
 okR [eR a9s] 9 Y2 [.tmp 4] Go.Proofs.Tryz.func184 (by kernel_rfl)
def c7t (_:Nat):Hints I:=mkH [(6,[[],[],[],[],[2,3],[2,3,4],[0,1,2,3,4,5],[0,1,2,3,4,5,6]])] [] [] [] [(58,⟨1073676736,[],[],[(16,.k (.d (.int .i64)))],[((.exit 0),[]),(.ret,[(6,.k (.d (.bool)))])],bnd tb (.slot 15) 1⟩)] [] [] []
def a2I (n:Nat):Row I:=⟨179,[.d (.sl 33),.d (.dat 27),.d (.sl 3)],[.k (.d (.bool))],a5F n⟩
def b7t (_:Nat):Hints I:=mkH [(2,[[],[0],[],[],[3],[],[3,4,5],[0,1,2,3,4,5,6],[0,1,2,3,4,5,6,7],[0,1,2,3,4,5,6,7,8],[0,1,2,3,4,5,6,7,8,9],[0,1,2,3,4,5,6,7,8,9,10],[0,1,2,3,4,5,6,7,8,9,10,11],[0,1,2,3,4,5,6,7,8,9,10,11,12],[0,1,2,3,4,5,6,7,8,9,10,11,12,13],[0,1,2,3,4,5,6,7,8,9,10,11,12,13,14],[0,1,2,3,4,5,6,7,8,9,10,11,12,13],[0,1,2,3,4,5,6,7,8,9,10,11,12,13],[0,1,2,3,4,5,6,7,8,9,10,11,12,13,17],[0,1,2,3,4,5,6,7,8,9,10,11,12,13],[0,1,2,3,4,5,6,7,8,9,10,11,12,13,17,18,19],[0,1,2,3,4,5,6,7,8,9,10,11,12,13,17,18,19,20],[0,1,2,3,4,5,6,7,8,9,10,11,12,13,14,15,16,17,18,19,20,21],[0,1,2,3,4,5,6,7,8,9,10,11,12,13,14,15,16,17,18,19,20,21,22],[0,1,2,3,4,5,6,7,8,9,10,11,12,13,14,15,16,17,18,19,20,21,22,23],[0,1,2,3,4,5,6,7,8,9,10,11,12,13,14,15,16,17,18,19,20,21,22,23,24]])] [] [] [] [] [] [] []
def W2 (n:Nat):Row I:=⟨221,[.d (.dat 138),.d (.dat 27),.d (.dat 77)],[.k (.d (.bool))],W6 n⟩
def b8X (_:Nat):Hints I:=mkH [] [] [] [] [(58,⟨536346944,[],[],[(19,.k (.d (.int .i64)))],[((.exit 0),[]),(.ret,[(6,.k (.d (.bool)))])],bnd tb (.slot 18) 1⟩)] [] [] []
def X2 (n:Nat):Row I:=⟨181,[.d (.dat 33),.d (.dat 27),.d (.dat 77)],[.k (.d (.bool))],a0l n⟩
def c7H (_:Nat):Hints I:=mkH [(17,[[],[0],[],[2],[2,3],[0,1,2,3,4],[0,1,2,3,4,5]]),(31,[[],[],[],[2],[2,3],[2,3,4],[0,1,2,3,4,5],[0,1,2,3,4,5,6],[0,1,2,3,4,5,6,7]])] [] [] [(60413,⟨144115188075855872000,[],[],[(.normal,[(60,.k (.d (.bool)))])]⟩)] [] [] [] []
def a1Z (n:Nat):Row I:=⟨142,[.d (.dat 33),.d (.dat 27),.d (.int .i64)],[.k (.d (.bool))],a0a n⟩
def a1C (n:Nat):Row I:=⟨182,[.d (.int .i64),.var 33 (.k (.d (.dat 33))) false,.var 27 (.k (.d (.dat 27))) false],[.k (.d (.bool))],a3o n⟩
def a1u (n:Nat):Row I:=⟨183,[.d (.int .i64),.var 33 (.k (.d (.dat 33))) false,.var 27 (.k (.d (.dat 27))) false],[.k (.d (.bool))],a3u n⟩
def c3X (_:Nat):Hints I:=mkH [(10,[[],[0],[],[0,1,2],[0,1,2,3],[],[],[],[6,7],[0,1,2,3,4,5,6,7,8],[0,1,2,3,4,5,6,7,8,9]])] [] [] [] [(26,⟨1073725760,[],[],[(14,.k (.d (.int .i64)))],[((.exit 0),[]),(.ret,[(6,.k (.d (.bool)))])],bnd tb (.slot 13) 1⟩),
 (58,⟨1125891316909632,[],[],[(33,.k (.d (.int .i64)))],[((.exit 2),[]),(.ret,[(6,.k (.d (.bool)))])],bnd tb (.slot 32) 1⟩)] [] [] []
def a1c (n:Nat):Row I:=⟨180,[.d (.dat 33),.d (.dat 27),.d (.dat 77)],[.k (.d (.bool))],a2y n⟩
theorem c4Y (n:Nat)(_:j6 Go.Proofs.Tryz.prog (a2I n))(_:j6 Go.Proofs.Tryz.prog (W2 n))(_:j6 Go.Proofs.Tryz.prog (X2 n))(h_core_Has:j6 Go.Proofs.Tryz.prog (a1Z n))(_:j6 Go.Proofs.Tryz.prog (a1C n))(_:j6 Go.Proofs.Tryz.prog (a1u n))(_:j6 Go.Proofs.Tryz.prog (a1c n)):RK (a2I (n+1)) :=
 okR [eR h_core_Has] 30 (c7t n) [.tmp 6] Go.Proofs.Tryz.func179 (by kernel_rfl)
theorem b5b (n:Nat)(h_core_all:j6 Go.Proofs.Tryz.prog (a2I n))(_:j6 Go.Proofs.Tryz.prog (W2 n))(_:j6 Go.Proofs.Tryz.prog (X2 n))(h_core_Has:j6 Go.Proofs.Tryz.prog (a1Z n))(_:j6 Go.Proofs.Tryz.prog (a1C n))(_:j6 Go.Proofs.Tryz.prog (a1u n))(_:j6 Go.Proofs.Tryz.prog (a1c n)):RK (W2 (n+1)) :=
 okR [eR h_core_all,eR h_core_Has] 37 (b7t n) [.tmp 6] Go.Proofs.Tryz.func221 (by kernel_rfl)
theorem b65 (n:Nat)(_:j6 Go.Proofs.Tryz.prog (a2I n))(h_core_EntryAllowed:j6 Go.Proofs.Tryz.prog (W2 n))(_:j6 Go.Proofs.Tryz.prog (X2 n))(_:j6 Go.Proofs.Tryz.prog (a1Z n))(_:j6 Go.Proofs.Tryz.prog (a1C n))(_:j6 Go.Proofs.Tryz.prog (a1u n))(_:j6 Go.Proofs.Tryz.prog (a1c n)):RK (X2 (n+1)) :=
 okR [eR h_core_EntryAllowed] 29 (b8X n) [.tmp 6] Go.Proofs.Tryz.func181 (by kernel_rfl)
theorem c5D (n:Nat)(h_core_all:j6 Go.Proofs.Tryz.prog (a2I n))(_:j6 Go.Proofs.Tryz.prog (W2 n))(h_core_functionHas:j6 Go.Proofs.Tryz.prog (X2 n))(h_core_Has:j6 Go.Proofs.Tryz.prog (a1Z n))(h_core_Has_1:j6 Go.Proofs.Tryz.prog (a1C n))(h_core_Has_2:j6 Go.Proofs.Tryz.prog (a1u n))(h_core_mapHas:j6 Go.Proofs.Tryz.prog (a1c n)):RK (a1Z (n+1)) :=
 okR [eR c2v,eR h_core_all,eR h_core_mapHas,eR h_core_functionHas,eR a1e,eR h_core_Has_1,eR h_core_Has_2,eR h_core_Has,eR a8l] 151 (c7H n) [.tmp 6] Go.Proofs.Tryz.func142 (by kernel_rfl)
theorem c2B (n:Nat)(_:j6 Go.Proofs.Tryz.prog (a2I n))(_:j6 Go.Proofs.Tryz.prog (W2 n))(_:j6 Go.Proofs.Tryz.prog (X2 n))(h_core_Has:j6 Go.Proofs.Tryz.prog (a1Z n))(_:j6 Go.Proofs.Tryz.prog (a1C n))(_:j6 Go.Proofs.Tryz.prog (a1u n))(_:j6 Go.Proofs.Tryz.prog (a1c n)):RK (a1C (n+1)) :=
 okR [eR h_core_Has] 9 Y2 [.tmp 4] Go.Proofs.Tryz.func182 (by kernel_rfl)
theorem c2R (n:Nat)(_:j6 Go.Proofs.Tryz.prog (a2I n))(_:j6 Go.Proofs.Tryz.prog (W2 n))(_:j6 Go.Proofs.Tryz.prog (X2 n))(h_core_Has:j6 Go.Proofs.Tryz.prog (a1Z n))(_:j6 Go.Proofs.Tryz.prog (a1C n))(_:j6 Go.Proofs.Tryz.prog (a1u n))(_:j6 Go.Proofs.Tryz.prog (a1c n)):RK (a1u (n+1)) :=
 okR [eR h_core_Has] 10 Y2 [.tmp 4] Go.Proofs.Tryz.func183 (by kernel_rfl)
theorem c2k (n:Nat)(_:j6 Go.Proofs.Tryz.prog (a2I n))(_:j6 Go.Proofs.Tryz.prog (W2 n))(_:j6 Go.Proofs.Tryz.prog (X2 n))(h_core_Has:j6 Go.Proofs.Tryz.prog (a1Z n))(_:j6 Go.Proofs.Tryz.prog (a1C n))(_:j6 Go.Proofs.Tryz.prog (a1u n))(_:j6 Go.Proofs.Tryz.prog (a1c n)):RK (a1c (n+1)) :=
 okR [eR a1L,eR b6S,eR h_core_Has] 50 (c3X n) [.tmp 6] Go.Proofs.Tryz.func180 (by kernel_rfl)
theorem b3y:∀ n:Nat,j6 Go.Proofs.Tryz.prog (a2I n)/\j6 Go.Proofs.Tryz.prog (W2 n)/\j6 Go.Proofs.Tryz.prog (X2 n)/\j6 Go.Proofs.Tryz.prog (a1Z n)/\j6 Go.Proofs.Tryz.prog (a1C n)/\j6 Go.Proofs.Tryz.prog (a1u n)/\j6 Go.Proofs.Tryz.prog (a1c n)
 | 0=>⟨Y3 (by kernel_rfl),Y3 (by kernel_rfl),Y3 (by kernel_rfl),Y3 (by kernel_rfl),Y3 (by kernel_rfl),Y3 (by kernel_rfl),Y3 (by kernel_rfl)⟩
 | n+1=>by
   obtain ⟨h0,h1,h2,h3,h4,h5,h6⟩:=b3y n
   exact ⟨c4Y n h0 h1 h2 h3 h4 h5 h6,b5b n h0 h1 h2 h3 h4 h5 h6,b65 n h0 h1 h2 h3 h4 h5 h6,c5D n h0 h1 h2 h3 h4 h5 h6,c2B n h0 h1 h2 h3 h4 h5 h6,c2R n h0 h1 h2 h3 h4 h5 h6,c2k n h0 h1 h2 h3 h4 h5 h6⟩
theorem c0n (n:Nat):j6 Go.Proofs.Tryz.prog (a1Z n):=(b3y n).2.2.2.1
def b98 (n:Nat):Row I:=⟨141,[.d (.int .i64),.var 33 (.k (.d (.dat 33))) false,.var 27 (.k (.d (.dat 27))) false],[.k (.d (.bool))],b7i n⟩
theorem c0v (n:Nat):RK (b98 n) :=
 okR [eR (c0n n)] 10 Y2 [.tmp 4] Go.Proofs.Tryz.func141 (by kernel_rfl)
def b9I (n:Nat):Row I:=⟨143,[.d (.int .i64),.var 33 (.k (.d (.dat 33))) false,.var 27 (.k (.d (.dat 27))) false],[.k (.d (.bool))],b7g n⟩
theorem c1f (n:Nat):RK (b9I n) :=
 okR [eR (c0n n)] 9 Y2 [.tmp 4] Go.Proofs.Tryz.func143 (by kernel_rfl)
def c1J (n:Nat):Row I:=⟨78,[.d (.dat 33),.d (.dat 27),.d (.sl 3),.d (.sl 3)],[.k (.d (.bool))],c0f n⟩
theorem c2H (n:Nat):RK (c1J n) :=
 okR [eR a1e,eR (c0v n),eR (c1f n)] 19 Y2 [.tmp 8] Go.Proofs.Tryz.func78 (by kernel_rfl)
def c05 (n:Nat):Row I:=⟨38,[.d (.dat 33),.d (.dat 27),.d (.dat 56)],[.k (.d (.bool))],a5Y n⟩
theorem a8Y (n:Nat):RK (c05 n) :=
 okR [eR (b1k n),eR (a5D n),eR b5N,eR (c2H n)] 40 Y2 [.tmp 6] Go.Proofs.Tryz.func38 (by kernel_rfl)
def c0R (_:Nat):Hints I:=mkH [(6,[[],[0],[0,1],[0,1,2],[0,1,2,3],[0,1,2],[0,1,2,3,4,5],[0,1,2,3,4,5,6],[0,1,2],[0,1,2],[0,1,2,3,4,5,6,7,8,9],[0,1,2,3,4,5,6,7,8,9,10],[0,1,2,3,4,5,6,7,8,9,10,11]]),(8,[[],[0],[0,1],[0,1,2],[0,1,2,3],[0,1,2],[0,1,2,3,4,5],[0,1,2,3,4,5,6],[0,1,2],[0,1,2],[0,1,2,3,4,5,6,7,8,9],[0,1,2,3,4,5,6,7,8,9,10],[0,1,2,3,4,5,6,7,8,9,10,11]])] [] [] [] [] [] [] []
def b75 (n:Nat):Row I:=⟨57,[.d (.dat 33),.d (.dat 27),.d (.dat 83),.d (.int .i64),.d (.dat 56)],[.k (.d (.bool))],b5q n⟩
theorem b9Z (n:Nat):RK (b75 n) :=
 okR [eR a47,eR (a8Y n)] 49 (c0R n) [.tmp 10] Go.Proofs.Tryz.func57 (by kernel_rfl)
def c0E (_:Nat):Hints I:=mkH [(4,[[],[0],[],[2],[0,1,2,3],[0,1,2,3,4],[0,1,2,3,4,5],[0,1,2,3,4,5],[0,1,2,3,4,5,6,7],[0,1,2,3,4,5,6,7,8],[0,1,2,3,4,5,6,7,8,9],[0,1,2,3,4,5,6,7,8,9,10],[0,1,2,3,4,5,6,7,8,9,10,11],[0,1,2,3,4,5,6,7,8,9,10,11,12],[0,1,2,3,4,5,6,7,8,9,10,11],[0,1,2,3,4,5,6,7,8,9,10,11,12,13,14],[0,1,2,3,4,5,6,7,8,9,10,11,12,13,14,15],[0,1,2,3,4,5,6,7,8,9,10,11],[0,1,2,3,4,5,6,7,8,9,10,11],[0,1,2,3,4,5,6,7,8,9,10,11,18],[0,1,2,3,4,5,6,7,8,9,10,11,12,13,14,15,16,17,18,19],[0,1,2,3,4,5,6,7,8,9,10,11,12,13,14,15,16,17,18,19,20]])] [] [] [] [(26,⟨4398046496512,[],[],[(14,.k (.d (.int .i64)))],[((.exit 0),[]),(.ret,[(8,.k (.d (.bool)))])],bnd tb (.slot 13) 1⟩)] [] [] []
def b8U (n:Nat):Row I:=⟨59,[.d (.dat 33),.d (.dat 27),.d (.sl 83),.d (.dat 85)],[.k (.d (.bool))],b5D n⟩
theorem b9N (n:Nat):RK (b8U n) :=
 okR [eR a1L,eR (a8Y n)] 42 (c0E n) [.tmp 8] Go.Proofs.Tryz.func59 (by kernel_rfl)
def c0Z (_:Nat):Hints I:=mkH [(12,[[],[],[],[],[3],[],[3,4,5],[3,4,5,6],[],[8],[],[8,9,10],[8,9,10,11],[0,1,2,3,4,5,6,7,8,9,10,11,12],[0,1,2,3,4,5,6,7,8,9,10,11,12,13]]),(18,[[],[0],[],[0,1,2],[0,1,2,3],[0,1,2,3,4],[0,1,2,3,4,5],[0,1,2,3,4,5,6],[0,1,2,3,4,5],[0,1,2,3,4,5,6,7,8],[0,1,2,3,4,5,6,7,8,9],[0,1,2,3,4,5],[0,1,2,3,4,5],[0,1,2,3,4,5,12],[0,1,2,3,4,5],[0,1,2,3,4,5,12,13,14],[0,1,2,3,4,5,12,13,14,15],[0,1,2,3,4,5,6,7,8,9,10,11,12,13,14,15,16],[0,1,2,3,4,5,6,7,8,9,10,11,12,13,14,15,16,17],[0,1,2,3,4,5,6,7,8,9,10,11,12,13,14,15,16,17,18]])] [] [] [] [(58,⟨35115652612416,[34],[],[(36,.k (.d (.int .i64)))],[((.exit 0),[]),(.ret,[(6,.k (.d (.bool)))])],bnd tb (.slot 35) 1⟩),
 (122,⟨590295528883728942656,[],[],[(48,.k (.d (.int .i64)))],[((.exit 2),[]),(.ret,[(6,.k (.d (.bool)))])],bnd tb (.slot 47) 1⟩),
 (250,⟨316912645334690867504530593856,[],[],[(72,.k (.d (.int .i64)))],[((.exit 4),[]),(.ret,[(6,.k (.d (.bool)))])],bnd tb (.slot 71) 1⟩),
 (506,⟨10382058415869198798257999252045888,[],[],[(101,.k (.d (.int .i64)))],[((.exit 6),[]),(.ret,[(6,.k (.d (.bool)))])],bnd tb (.slot 100) 1⟩)] [] [] []
def b79 (n:Nat):Row I:=⟨24,[.d (.dat 33),.d (.dat 27),.d (.dat 71)],[.k (.d (.bool))],b5s n⟩
theorem b94 (n:Nat):RK (b79 n) :=
 okR [eR (b1k n),eR (a5D n),eR b1m,eR c18,eR b5N,eR (b9Z n),eR a1L,eR (a8Y n),eR (b9N n)] 113 (c0Z n) [.tmp 6] Go.Proofs.Tryz.func24 (by kernel_rfl)
def b55 (_:Nat):Hints I:=mkH [(8,[[],[0],[0,1],[0,1],[0,1],[0,1],[0,1,4,5],[0,1,4,5,6],[0,1,2,3,4,5,6,7],[0,1,2,3,4,5,6,7,8],[0,1,2,3,4,5,6,7,8,9]])] [] [] [] [(506,⟨17591917609152,[2],[],[(6,.k (.d (.bool))),(7,.k (.d (.int .i64)))],[((.exit 0),[(6,.k (.d (.bool)))])],bnd tb (.len (.slot 2)) 1⟩)] [] [] []
noncomputable def b4G (n:Nat):Row I:=⟨18,[],[.k (.d (.bool))],a1n n⟩
theorem b5R (n:Nat):RK (b4G n) :=
 okR [eR (b2c n),eR a2p,eR a5z,eR (b94 n)] 53 (b55 n) [.tmp 0] Go.Proofs.Tryz.func18 (by kernel_rfl)
def b1M:Hints I:=mkH [(1,[[],[0],[0,1],[0,1,2],[0,1,2,3],[0,1,2,3,4],[0,1,2,3,4,5],[0,1,2],[0,1,2,7],[0,1,2,7,8],[0,1,2,7,8,9],[0,1,2,7,8,9,10],[0,1,2,3,4,5,6,7,8,9,10,11],[0,1,2,3,4,5,6,7,8,9,10,11,12]]),(3,[[],[0],[0,1],[0,1,2],[],[4],[4,5],[4,5,6],[0,1,2,3,4,5,6,7],[0,1,2,3,4,5,6,7,8],[],[0,1,2,3,4,5,6,7,8,9,10],[0,1,2,3,4,5,6,7,8,9,10,11]])] [] [] [] [] [] [] []
def b0B:Row I:=⟨22,[.var 44 (.k (.d (.dat 44))) true,.d (.int .i64)],[.k (.d (.int .i64))],z8⟩
theorem Z0:RK (b0B) :=
 okR [] 46 b1M [.tmp 4] Go.Proofs.Tryz.func22 (by kernel_rfl)
def a8J:Row I:=⟨99,[.var 44 (.k (.d (.dat 44))) true],[.k (.d (.str))],V5⟩
theorem a09:RK (a8J) :=
 okR [eR Z0] 8 Y2 [.tmp 2] Go.Proofs.Tryz.func99 (by kernel_rfl)
def b0v:Row I:=⟨97,[.var 44 (.k (.d (.dat 44))) true],[.k (.d (.str))],a0e⟩
theorem a2b:RK (b0v) :=
 okR [eR Z0] 8 Y2 [.tmp 2] Go.Proofs.Tryz.func97 (by kernel_rfl)
def a90:Row I:=⟨130,[.var 44 (.k (.d (.dat 44))) true],[.k (.d (.str))],a0y⟩
theorem a6g:RK (a90) :=
 okR [eR Z0] 8 Y2 [.tmp 2] Go.Proofs.Tryz.func130 (by kernel_rfl)
def a92:Hints I:=mkH [] [] [] [] [(28,⟨16776706,[],[(0,.k (.d (.dat 44)))],[(1,.k (.d (.int .i64))),(9,.k (.row 3 false))],[((.exit 0),[(9,.k (.row 3 false))])],bnd tb (.slot 1) 2⟩)] [] [] []
def a86:Row I:=⟨131,[.var 44 (.k (.d (.dat 44))) true,.d (.int .i64),.d (.int .i64),.d (.int .i64)],[.k (.row 3 false)],w4⟩
theorem a9z:RK (a86) :=
 okR [eR Z0] 25 a92 [.tmp 8] Go.Proofs.Tryz.func131 (by kernel_rfl)
def a9V:Hints I:=mkH [(7,[[],[0],[],[],[2,3],[2,3,4],[],[],[6,7],[],[6,7,8,9],[6,7,8,9,10],[2,3,4,5,6,7,8,9,10,11],[2,3,4,5,6,7,8,9,10,11,12],[0,1,2,3,4,5,6,7,8,9,10,11,12,13],[0,1,2,3,4,5,6,7,8,9,10,11,12,13,14],[0,1,2,3,4,5,6,7,8,9,10,11,12,13,14,15]])] [] [] [(978,⟨8796076244992,[],[(0,.k (.d (.dat 44))),(5,.lvs [.d (.int .i64),.d (.int .i64),.d (.int .i64),.d (.str),.row 3 false,.row 101 false,.d (.int .i64),.d (.int .i64)])],[(.normal,[])]⟩)] [(122,⟨8796091973760,[6],[(0,.k (.d (.dat 44))),(5,.lvs [.d (.int .i64),.d (.int .i64),.d (.int .i64),.d (.str),.row 3 false,.row 101 false,.d (.int .i64),.d (.int .i64)])],[(7,.k (.d (.int .i64)))],[((.exit 0),[])],bnd tb (.cst 3) 1⟩)] [] [] []
def a9q:Row I:=⟨132,[.var 44 (.k (.d (.dat 44))) true,.d (.int .i64)],[.k (.d (.dat 77))],a2c⟩
theorem a9v:RK (a9q) :=
 okR [eR Z0] 44 a9V [.cell 4 77] Go.Proofs.Tryz.func132 (by kernel_rfl)
def b1z:Hints I:=mkH [(8,[[],[],[0,1],[0,1,2],[],[],[],[],[7],[6,7,8],[5,6,7,8,9],[4,5,6,7,8,9,10],[4,5,6,7,8,9,10,11],[0,1,2,3,4,5,6,7,8,9,10,11,12],[0,1,2,3,4,5,6,7,8,9,10,11,12,13]])] [] [] [(29,⟨128,[],[],[(.normal,[(7,.k (.d (.int .i64)))])]⟩),
 (32243709,⟨47223664828696452136960,[],[],[(.normal,[(73,.k (.d (.bool)))])]⟩),
 (2063597565,⟨49517601571415210995964968960,[],[],[(.normal,[(93,.k (.d (.bool)))])]⟩)] [] [] [] []
def b0F:Row I:=⟨70,[.var 44 (.k (.d (.dat 44))) true,.d (.int .i64),.d (.int .i64)],[.k (.d (.dat 77))],a2X⟩
theorem b1f:RK (b0F) :=
 okR [eR Z0,eR a09,eR a2b,eR a6g,eR a9z,eR a9v] 128 b1z [.cell 6 77] Go.Proofs.Tryz.func70 (by kernel_rfl)
def b1G:Hints I:=mkH [(6,[[],[0],[],[],[],[2,3,4],[2,3,4,5],[0,1,2,3,4,5,6],[0,1,2,3,4,5,6,7],[0,1,2,3,4,5,6,7,8]])] [] [] [] [(122,⟨16776256,[],[(0,.k (.d (.dat 44))),(5,.lvs [.row 77 false,.d (.int .i64)])],[(6,.k (.d (.int .i64)))],[((.exit 0),[])],bnd tb (.slot 1) 1⟩)] [] [] []
def b0M:Row I:=⟨33,[.var 44 (.k (.d (.dat 44))) true,.d (.int .i64)],[.lvs [.row 77 false,.d (.int .i64)]],a23⟩
theorem b01:RK (b0M) :=
 okR [eR b1f] 25 b1G [.cell 4 27] Go.Proofs.Tryz.func33 (by kernel_rfl)
def b7D:Hints I:=mkH [(14,[[],[0],[],[],[2,3],[2,3,4],[2,3,4,5],[],[],[7,8],[],[7,8,9,10],[7,8,9,10,11],[2,3,4,5,6,7,8,9,10,11,12],[2,3,4,5,6,7,8,9,10,11,12,13],[0,1,2,3,4,5,6,7,8,9,10,11,12,13,14],[0,1,2,3,4,5,6,7,8,9,10,11,12,13,14,15],[0,1,2,3,4,5,6,7,8,9,10,11,12,13,14,15,16]]),(21,[[],[],[0],[0,1,2]])] [] [] [(8146,⟨19807040628566084381206147072,[],[(7,.lvs [.row 77 false,.d (.int .i64)]),(8,.k (.d (.dat 44))),(9,.lvs [.d (.int .i64),.d (.int .i64),.row 277 false,.d (.bool),.row 9 false,.row 3 false,.row 3 false,.row 9 false,.row 9 false])],[(.normal,[])]⟩),
 (1042749,⟨19267255250108152471879680,[],[(9,.lvs [.d (.int .i64),.d (.int .i64),.row 277 false,.d (.bool),.row 9 false,.row 3 false,.row 3 false,.row 9 false,.row 9 false])],[(.normal,[])]⟩),
 (2085458,⟨73786905926094028800,[],[(8,.k (.d (.dat 44))),(12,.lvs [.d (.int .i64),.d (.int .i64),.d (.int .i64),.d (.str),.row 3 false,.row 101 false,.d (.int .i64),.d (.int .i64)])],[(.normal,[])]⟩)] [(1018,⟨19807040628566084397312276480,[],[(7,.lvs [.row 77 false,.d (.int .i64)]),(8,.k (.d (.dat 44))),(9,.lvs [.d (.int .i64),.d (.int .i64),.row 277 false,.d (.bool),.row 9 false,.row 3 false,.row 3 false,.row 9 false,.row 9 false])],[(11,.k (.d (.int .i64)))],[((.exit 0),[])],bnd tb (.cst 3) 1⟩),
 (260682,⟨73786971896791703552,[],[(8,.k (.d (.dat 44))),(12,.lvs [.d (.int .i64),.d (.int .i64),.d (.int .i64),.d (.str),.row 3 false,.row 101 false,.d (.int .i64),.d (.int .i64)])],[(13,.k (.d (.int .i64)))],[((.exit 2),[])],bnd tb (.cst 2) 1⟩)] [] [] []
def b5o:Row I:=⟨19,[.d (.sl 3),.d (.sl 3)],[.k (.d (.dat 27)),.k (.d (.dat 40))],a5N⟩
theorem b6e:RK (b5o) :=
 okR [eR Z0,eR b01] 96 b7D [.cell 4 27,.cell 5 40] Go.Proofs.Tryz.func19 (by kernel_rfl)
def b8a:Hints I:=mkH [(7,[[],[],[1],[0,1,2],[],[],[4,5],[0,1,2,3,4,5,6],[0,1,2,3,4,5,6,7]])] [] [] [] [(28,⟨2097056,[],[],[(5,.k (.d (.int .i64)))],[((.exit 0),[(5,.k (.d (.int .i64)))])],bnd tb (.len (.slot 0)) 1⟩)] [] [] []
def b6D:Row I:=⟨207,[.d (.sl 3),.d (.int .i64)],[.k (.d (.sl 3))],a6G⟩
theorem b7C:RK (b6D) :=
 okR [] 46 b8a [.tmp 4] Go.Proofs.Tryz.func207 (by kernel_rfl)
def b8l:Hints I:=mkH [] [] [] [] [(58,⟨131064,[],[],[(3,.k (.d (.sl 3))),(4,.k (.d (.int .i64)))],[((.exit 0),[(3,.k (.d (.sl 3)))])],bnd tb (.len (.slot 0)) 1⟩)] [] [] []
def b6Q:Row I:=⟨159,[.d (.sl 3)],[.k (.d (.sl 3))],a4M⟩
theorem b7k:RK (b6Q) :=
 okR [eR b7C] 18 b8l [.tmp 2] Go.Proofs.Tryz.func159 (by kernel_rfl)
def b6b:Hints I:=mkH [(1,[[],[0],[0,1],[],[3],[0,1,2,3,4],[],[6],[0,1,2,3,4,5,6,7],[0,1,2,3,4,5,6,7,8]])] [] [] [] [] [] [] []
def b4v:Row I:=⟨109,[.d (.dat 56)],[.k (.d (.dat 56))],a5B⟩
theorem b5H:RK (b4v) :=
 okR [eR b7k] 12 b6b [.cell 2 56] Go.Proofs.Tryz.func109 (by kernel_rfl)
def b3c:Hints I:=mkH [(6,[[],[],[0,1],[0,1,2],[],[],[4,5],[4,5,6],[0,1,2,3,4,5,6,7]])] [] [] [] [(58,⟨67106864,[],[],[(5,.k (.d (.int .i64)))],[((.exit 0),[]),(.ret,[(4,.k (.d (.bool)))])],bnd tb (.len (.slot 0)) 1⟩)] [] [] []
def b1t:Row I:=⟨158,[.d (.sl 3),.d (.sl 3)],[.k (.d (.bool))],a2j⟩
theorem b2Y:RK (b1t) :=
 okR [] 26 b3c [.tmp 4] Go.Proofs.Tryz.func158 (by kernel_rfl)
def b1j:Row I:=⟨108,[.d (.dat 56),.d (.dat 56)],[.k (.d (.bool))],a3t⟩
theorem b1o:RK (b1j) :=
 okR [eR b2Y] 24 Y2 [.tmp 4] Go.Proofs.Tryz.func108 (by kernel_rfl)
def b5J:Row I:=⟨60,[.d (.dat 27),.d (.int .i64)],[.k (.d (.bool))],a0v⟩
theorem a6t:RK (b5J) :=
 okR [] 14 Y2 [.tmp 4] Go.Proofs.Tryz.func60 (by kernel_rfl)
def b5K:Hints I:=mkH [(1,[[],[0],[0,1],[],[3],[0,1,2,3,4],[0,1,2,3,4,5]]),(5,[[],[],[],[1,2],[1,2,3],[0,1,2,3,4],[0,1,2,3,4,5]])] [] [] [] [(58,⟨67100752,[5],[],[(6,.k (.d (.int .i64)))],[((.exit 0),[]),(.ret,[(4,.k (.d (.bool)))])],bnd tb (.len (.slot 5)) 1⟩)] [] [] []
def b3q:Row I:=⟨26,[.d (.dat 27),.d (.dat 56)],[.k (.d (.bool))],a27⟩
theorem a75:RK (b3q) :=
 okR [eR a6t] 26 b5K [.tmp 4] Go.Proofs.Tryz.func26 (by kernel_rfl)
def b5C:Hints I:=mkH [(1,[[],[],[1],[0,1,2],[0,1,2,3],[0,1,2,3,4],[0,1,2,3,4],[0,1,2,3,4,5,6],[0,1,2,3,4,5,6,7],[0,1,2,3,4,5,6,7,8]])] [] [] [] [] [] [] []
def b3f:Row I:=⟨50,[.d (.dat 27),.d (.dat 56)],[.k (.d (.bool))],a04⟩
theorem b4I:RK (b3f) :=
 okR [eR b5H,eR b1o,eR a75] 14 b5C [.tmp 4] Go.Proofs.Tryz.func50 (by kernel_rfl)
def b6X:Hints I:=mkH [(4,[[],[],[0,1],[0,1,2],[],[0,1,2,3,4]])] [] [] [] [(26,⟨524272,[],[],[(5,.k (.d (.int .i64)))],[((.exit 0),[]),(.ret,[(4,.k (.d (.int .i64)))])],bnd tb (.len (.slot 0)) 1⟩)] [] [] []
def b4s:Row I:=⟨51,[.d (.sl 83),.d (.dat 83)],[.k (.d (.int .i64))],a0f⟩
theorem a8E:RK (b4s) :=
 okR [] 19 b6X [.tmp 4] Go.Proofs.Tryz.func51 (by kernel_rfl)
def b4T:Hints I:=mkH [(3,[[],[0],[0,1],[],[3],[0,1,2,3,4],[0,1,2,3,4,5]]),(7,[[],[0],[],[],[2,3],[2,3,4],[0,1,2,3,4,5],[0,1,2,3,4,5,6],[0,1,2,3,4,5,6,7],[0,1,2,3,4,5,6,7,8]]),(11,[[],[0],[],[],[2,3],[2,3,4],[2,3,4,5],[0,1,2,3,4,5,6],[0,1,2,3,4,5,6,7]]),(20,[[],[0],[],[],[2,3],[2,3,4],[0,1,2,3,4,5],[0,1,2,3,4,5,6],[0,1,2,3,4,5,6,7],[0,1,2,3,4,5,6,7,8]]),(24,[[],[0],[0,1],[0,1],[0,1,2,3],[0,1,2,3,4],[0,1,2,3,4,5],[0,1],[0,1,7],[0,1],[0,1,7,8,9],[0,1,7,8,9,10],[0,1,2,3,4,5,6,7,8,9,10,11],[0,1,2,3,4,5,6,7,8,9,10,11,12],[0,1,2,3,4,5,6,7,8,9,10,11,12,13]]),(26,[[],[0],[0,1],[0,1,2],[0,1,2,3],[0,1,2,3,4],[0,1,2,3,4,5],[0,1,2,3,4,5],[0,1,2,3,4,5,7],[0,1,2,3,4,5],[0,1,2,3,4,5,7,8,9],[0,1,2,3,4,5,7,8,9,10],[0,1,2,3,4,5,6,7,8,9,10,11],[0,1,2,3,4,5,6,7,8,9,10,11,12],[0,1,2,3,4,5,6,7,8,9,10,11,12,13],[0,1,2,3,4,5,6,7,8,9,10,11,12,13,14],[0,1,2,3,4,5,6,7,8,9,10,11,12,13,14,15],[0,1,2,3,4,5,6,7,8,9,10,11,12,13,14,15,16],[0,1,2,3,4,5,6,7,8,9,10,11,12,13,14,15,16,17],[0,1,2,3,4,5,6,7,8,9,10,11,12,13,14,15,16,17,18],[0,1,2,3,4,5,6,7,8,9,10,11,12,13,14,15,16,17,18,19],[0,1,2,3,4,5,6,7,8,9,10,11,12,13,14,15,16,17,18],[0,1,2,3,4,5,6,7,8,9,10,11,12,13,14,15,16,17,18,21],[0,1,2,3,4,5,6,7,8,9,10,11,12,13,14,15,16,17,18,19,20,21,22],[0,1,2,3,4,5,6,7,8,9,10,11,12,13,14,15,16,17,18,19,20,21,22,23],[0,1,2,3,4,5,6,7,8,9,10,11,12,13,14,15,16,17,18],[0,1,2,3,4,5,6,7,8,9,10,11,12,13,14,15,16,17,18,25],[0,1,2,3,4,5,6,7,8,9,10,11,12,13,14,15,16,17,18],[0,1,2,3,4,5,6,7,8,9,10,11,12,13,14,15,16,17,18,25,26,27],[0,1,2,3,4,5,6,7,8,9,10,11,12,13,14,15,16,17,18,25,26,27,28],[0,1,2,3,4,5,6,7,8,9,10,11,12,13,14,15,16,17,18,19,20,21,22,23,24,25,26,27,28,29],[0,1,2,3,4,5,6,7,8,9,10,11,12,13,14,15,16,17,18,19,20,21,22,23,24,25,26,27,28,29,30],[0,1,2,3,4,5,6,7,8,9,10,11,12,13,14,15,16,17,18,19,20,21,22,23,24,25,26,27,28,29,30,31],[0,1,2,3,4,5,6,7,8,9,10,11,12,13,14,15,16,17,18,19,20,21,22,23,24,25,26,27,28,29,30,31,32]]),(31,[[],[0],[],[0,1,2],[0,1,2,3],[0,1,2,3,4],[0,1,2,3,4,5],[0,1,2,3,4,5,6],[0,1,2,3,4,5,6,7],[0,1,2,3,4,5,6,7,8],[0,1,2,3,4,5,6,7],[0,1,2,3,4,5,6,7,8,9,10],[0,1,2,3,4,5,6,7,8,9,10,11],[0,1,2,3,4,5,6,7,8,9,10,11,12],[0,1,2,3,4,5,6,7,8,9,10,11,12,13],[0,1,2,3,4,5,6,7,8,9,10,11,12,13,14],[0,1,2,3,4,5,6,7,8,9,10,11,12,13,14,15],[0,1,2,3,4,5,6,7,8,9,10,11,12,13,14,15,16],[0,1,2,3,4,5,6,7,8,9,10,11,12,13,14,15,16],[0,1,2,3,4,5,6,7,8,9,10,11,12,13,14,15,16,18],[0,1,2,3,4,5,6,7,8,9,10,11,12,13,14,15,16],[0,1,2,3,4,5,6,7,8,9,10,11,12,13,14,15,16,18,19,20],[0,1,2,3,4,5,6,7,8,9,10,11,12,13,14,15,16,18,19,20,21],[0,1,2,3,4,5,6,7,8,9,10,11,12,13,14,15,16,18,19,20,21,22],[0,1,2,3,4,5,6,7,8,9,10,11,12,13,14,15,16,17,18,19,20,21,22,23],[0,1,2,3,4,5,6,7,8,9,10,11,12,13,14,15,16,17,18,19,20,21,22,23,24],[0,1,2,3,4,5,6,7,8,9,10,11,12,13,14,15,16,17,18,19,20,21,22,23,24,25]])] [] [] [] [(122,⟨77371252383278673143269184,[7],[],[(8,.k (.d (.int .i64)))],[((.exit 0),[]),(.ret,[(6,.k (.d (.bool)))])],bnd tb (.len (.slot 7)) 1⟩),
 (250,⟨100433627766186892221372630771322585286385231775157371140160,[],[],[(11,.k (.d (.int .i64)))],[((.exit 4),[]),(.ret,[(6,.k (.d (.bool)))])],bnd tb (.len (.ld 29 (.fld 71 0 (.slot 5)))) 1⟩),
 (506,⟨1725436586597207319092502073347883732341454580384958951679206503874624,[],[],[(17,.k (.d (.int .i64)))],[((.exit 10),[]),(.ret,[(6,.k (.d (.bool)))])],bnd tb (.len (.ld 69 (.fld 71 4 (.slot 5)))) 1⟩),
 (15654,⟨77368891272094832358589504,[],[],[(10,.k (.d (.int .i64)))],[((.exit 2),[]),(.ret,[(6,.k (.d (.bool)))])],bnd tb (.len (.slot 9)) 1⟩),
 (64074,⟨340282366911034943149091565232575279104,[],[],[(12,.k (.d (.bool))),(13,.k (.d (.int .i64)))],[((.exit 6),[(12,.k (.d (.bool)))])],bnd tb (.len (.slot 7)) 1⟩),
 (8201510,⟨340282042402384805036647824275747672064,[],[],[(12,.k (.d (.bool))),(15,.k (.d (.int .i64)))],[((.exit 8),[(12,.k (.d (.bool)))])],bnd tb (.len (.slot 14)) 1⟩)] [] [] []
def b3e:Row I:=⟨23,[.d (.dat 27),.d (.dat 40),.d (.dat 71)],[.k (.d (.bool))],a41⟩
theorem b36:RK (b3e) :=
 okR [eR b4I,eR a8E,eR a0W] 230 b4T [.tmp 6] Go.Proofs.Tryz.func23 (by kernel_rfl)
def a9x:Row I:=⟨106,[.var 44 (.k (.d (.dat 44))) true],[.k (.d (.int .i64))],a2u⟩
theorem b0d:RK (a9x) :=
 okR [eR Z0] 8 Y2 [.tmp 2] Go.Proofs.Tryz.func106 (by kernel_rfl)
def b7r:Row I:=⟨95,[.d (.int .i64)],[.k (.d (.dat 33))],a8V⟩
theorem b0t:RK (b7r) :=
 okR [] 5 Y2 [.cell 2 33] Go.Proofs.Tryz.func95 (by kernel_rfl)
def b6h:Row I:=⟨98,[.d (.str)],[.k (.d (.dat 33))],a6D⟩
theorem a9D:RK (b6h) :=
 okR [] 5 Y2 [.cell 2 33] Go.Proofs.Tryz.func98 (by kernel_rfl)
def b4O:Row I:=⟨96,[.d (.str)],[.k (.d (.dat 33))],a5o⟩
theorem a8B:RK (b4O) :=
 okR [] 5 Y2 [.cell 2 33] Go.Proofs.Tryz.func96 (by kernel_rfl)
def b7p:Row I:=⟨100,[.d (.int .i64)],[.k (.d (.dat 33))],a9k⟩
theorem b0H:RK (b7p) :=
 okR [] 5 Y2 [.cell 2 33] Go.Proofs.Tryz.func100 (by kernel_rfl)
def b45:Row I:=⟨107,[.d (.sl 33)],[.k (.d (.dat 33))],a33⟩
theorem a84:RK (b45) :=
 okR [eR a8G] 6 Y2 [.cell 2 33] Go.Proofs.Tryz.func107 (by kernel_rfl)
def b0z:Row I:=⟨49,[.var 44 (.k (.d (.dat 44))) true],[.k (.d (.dat 33))],K8⟩
theorem a3W:RK (b0z) :=
 okR [eR Z0,eR b0d,eR b0t,eR a09,eR a9D,eR a2b,eR a8B,eR b0H,eR a2p,eR a84] 29 Y2 [.cell 2 33] Go.Proofs.Tryz.func49 (by kernel_rfl)
def b47:Row I:=⟨127,[.d (.int .i64),.d (.int .i64)],[.k (.d (.int .i64))],a0u⟩
theorem a9g:RK (b47) :=
 okR [eR a6n] 8 Y2 [.tmp 4] Go.Proofs.Tryz.func127 (by kernel_rfl)
def b4Z (_:Nat):Hints I:=mkH [(12,[[],[0],[],[0,1,2],[0,1,2,3],[],[5],[],[5,6,7],[5,6,7,8],[0,1,2,3,4,5,6,7,8,9],[0,1,2,3,4,5,6,7,8,9,10]]),(23,[[],[0],[],[0,1,2],[0,1,2,3],[],[5],[],[5,6,7],[5,6,7,8],[0,1,2,3,4,5,6,7,8,9],[0,1,2,3,4,5,6,7,8,9,10]]),(31,[[],[0],[],[0,1,2],[0,1,2,3],[],[5],[],[5,6,7],[5,6,7,8],[0,1,2,3,4,5,6,7,8,9],[0,1,2,3,4,5,6,7,8,9,10]])] [] [] [] [(506,⟨151115655394234608910448,[],[],[(5,.k (.d (.int .i64)))],[((.exit 0),[]),(.ret,[(4,.k (.d (.int .i64)))])],bnd tb (.len (.ld 29 (.fld 33 4 (.slot 2)))) 1⟩),
 (8186,⟨1329227361959615758789106311928742672,[],[],[(8,.k (.d (.int .i64)))],[((.exit 2),[]),(.ret,[(4,.k (.d (.int .i64)))])],bnd tb (.len (.ld 30 (.fld 33 5 (.slot 2)))) 1⟩),
 (32762,⟨45671904388519233253803489366408968731082361872,[],[],[(10,.k (.d (.int .i64)))],[((.exit 4),[]),(.ret,[(4,.k (.d (.int .i64)))])],bnd tb (.len (.ld 31 (.fld 33 6 (.slot 2)))) 1⟩)] [] [] []
def a0N (n:Nat):Row I:=⟨68,[.d (.dat 33),.d (.dat 33)],[.k (.d (.int .i64))],a0t n⟩
def b7a (_:Nat):Hints I:=mkH [(6,[[],[],[0,1],[0,1,2],[],[],[4,5],[4,5,6],[0,1,2,3,4,5,6,7],[0,1,2,3,4,5,6,7,8]])] [] [] [] [(58,⟨34359607408,[],[],[(5,.k (.d (.int .i64)))],[((.exit 0),[]),(.ret,[(4,.k (.d (.int .i64)))])],bnd tb (.len (.slot 0)) 1⟩)] [] [] []
def a14 (n:Nat):Row I:=⟨128,[.d (.sl 33),.d (.sl 33)],[.k (.d (.int .i64))],a3y n⟩
def W1 (n:Nat):Row I:=⟨129,[.d (.dat 138),.d (.dat 138)],[.k (.d (.int .i64))],Z9 n⟩
theorem b3o (n:Nat)(_:j6 Go.Proofs.Tryz.prog (a0N n))(h_semtyperef1_values:j6 Go.Proofs.Tryz.prog (a14 n))(h_semtyperef1_CompareEntries:j6 Go.Proofs.Tryz.prog (W1 n)):RK (a0N (n+1)) :=
 okR [eR a9g,eR a6n,eR a9C,eR a0W,eR h_semtyperef1_values,eR h_semtyperef1_CompareEntries] 155 (b4Z n) [.tmp 4] Go.Proofs.Tryz.func68 (by kernel_rfl)
theorem b4E (n:Nat)(h_semtyperef1_Compare:j6 Go.Proofs.Tryz.prog (a0N n))(_:j6 Go.Proofs.Tryz.prog (a14 n))(_:j6 Go.Proofs.Tryz.prog (W1 n)):RK (a14 (n+1)) :=
 okR [eR a9g,eR h_semtyperef1_Compare] 35 (b7a n) [.tmp 4] Go.Proofs.Tryz.func128 (by kernel_rfl)
theorem a9m (n:Nat)(h_semtyperef1_Compare:j6 Go.Proofs.Tryz.prog (a0N n))(h_semtyperef1_values:j6 Go.Proofs.Tryz.prog (a14 n))(_:j6 Go.Proofs.Tryz.prog (W1 n)):RK (W1 (n+1)) :=
 okR [eR h_semtyperef1_values,eR h_semtyperef1_Compare] 26 Y2 [.tmp 4] Go.Proofs.Tryz.func129 (by kernel_rfl)
theorem a3Z:∀ n:Nat,j6 Go.Proofs.Tryz.prog (a0N n)/\j6 Go.Proofs.Tryz.prog (a14 n)/\j6 Go.Proofs.Tryz.prog (W1 n)
 | 0=>⟨Y3 (by kernel_rfl),Y3 (by kernel_rfl),Y3 (by kernel_rfl)⟩
 | n+1=>by
   obtain ⟨h0,h1,h2⟩:=a3Z n
   exact ⟨b3o n h0 h1 h2,b4E n h0 h1 h2,a9m n h0 h1 h2⟩
theorem b4j (n:Nat):j6 Go.Proofs.Tryz.prog (a0N n):=(a3Z n).1
theorem a5I (n:Nat):j6 Go.Proofs.Tryz.prog (W1 n):=(a3Z n).2.2
def b5u (n:Nat):Row I:=⟨30,[.d (.dat 33),.d (.dat 33)],[.k (.d (.bool))],a02 n⟩
theorem a6l (n:Nat):RK (b5u n) :=
 okR [eR (b4j n)] 9 Y2 [.tmp 4] Go.Proofs.Tryz.func30 (by kernel_rfl)
def b4U (_:Nat):Hints I:=mkH [(6,[[],[],[1],[0,1,2],[0,1,2,3],[0,1,2,3,4],[0,1,2,3,4],[0,1,2,3,4,5,6],[0,1,2,3,4,5,6,7],[0,1,2,3,4],[0,1,2,3,4],[0,1,2,3,4,9,10],[0,1,2,3,4,9,10,11],[0,1,2,3,4,5,6,7,8,9,10,11,12],[0,1,2,3,4,5,6,7,8,9,10,11,12,13],[0,1,2,3,4,5,6,7,8,9,10,11,12,13,14]]),(8,[[],[],[1],[0,1,2],[0,1,2,3],[0,1,2,3,4],[0,1,2,3,4],[0,1,2,3,4,5,6],[0,1,2,3,4,5,6,7],[0,1,2,3,4],[0,1,2,3,4],[0,1,2,3,4,9,10],[0,1,2,3,4,9,10,11],[0,1,2,3,4,5,6,7,8,9,10,11,12],[0,1,2,3,4,5,6,7,8,9,10,11,12,13],[0,1,2,3,4,5,6,7,8,9,10,11,12,13,14]]),(10,[[],[],[],[1,2],[1,2,3],[1,2,3,4],[0,1,2,3,4,5],[],[],[7,8],[0,1,2,3,4,5,6,7,8,9],[0,1,2,3,4,5,6,7,8,9,10]])] [] [] [(466,⟨4611686018427379816,[],[],[(.normal,[(3,.k (.d (.sl 138)))])]⟩)] [(58,⟨4611686018427387896,[],[],[(3,.k (.d (.sl 138))),(4,.k (.d (.int .i64)))],[((.exit 0),[(3,.k (.d (.sl 138)))])],bnd tb (.len (.slot 0)) 1⟩),
 (7460,⟨2147475488,[3],[],[(5,.k (.d (.int .i64)))],[((.exit 2),[(5,.k (.d (.int .i64)))])],bnd tb (.len (.slot 3)) 1⟩)] [] [] []
def b3i (n:Nat):Row I:=⟨203,[.bor 138],[.k (.d (.sl 138))],a4U n⟩
theorem b3Z (n:Nat):RK (b3i n) :=
 okR [eR (a5I n)] 63 (b4U n) [.tmp 2] Go.Proofs.Tryz.func203 (by kernel_rfl)
def b4t (_:Nat):Hints I:=mkH [] [] [] [] [(58,⟨70368744161376,[],[(4,.lvs [.d (.int .i64),.d (.int .i64),.d (.str),.row 33 false,.row 83 false,.row 138 false,.row 9 false])],[(6,.k (.d (.int .i64)))],[((.exit 0),[]),(.ret,[(5,.k (.d (.int .i64)))])],bnd tb (.len (.slot 1)) 1⟩)] [] [] []
def b2w (n:Nat):Row I:=⟨155,[.d (.int .i64),.bor 138],[.k (.d (.dat 33)),.k (.d (.int .i64))],a2D n⟩
theorem a7O (n:Nat):RK (b2w n) :=
 okR [eR (a6l n),eR (b3Z n)] 50 (b4t n) [.cell 4 33,.tmp 5] Go.Proofs.Tryz.func155 (by kernel_rfl)
def b6J:Hints I:=mkH [(6,[[],[],[1],[0,1,2],[0,1,2,3],[0,1,2,3,4],[0,1,2,3,4],[0,1,2,3,4,5,6],[0,1,2,3,4,5,6,7],[0,1,2,3,4],[0,1,2,3,4],[0,1,2,3,4,9,10],[0,1,2,3,4,9,10,11],[0,1,2,3,4,5,6,7,8,9,10,11,12],[0,1,2,3,4,5,6,7,8,9,10,11,12,13]]),(8,[[],[],[1],[0,1,2],[0,1,2,3],[0,1,2,3,4],[0,1,2,3,4],[0,1,2,3,4,5,6],[0,1,2,3,4,5,6,7],[0,1,2,3,4],[0,1,2,3,4],[0,1,2,3,4,9,10],[0,1,2,3,4,9,10,11],[0,1,2,3,4,5,6,7,8,9,10,11,12],[0,1,2,3,4,5,6,7,8,9,10,11,12,13]]),(10,[[],[],[],[1,2],[1,2,3],[1,2,3,4],[0,1,2,3,4,5],[],[],[7,8],[0,1,2,3,4,5,6,7,8,9],[0,1,2,3,4,5,6,7,8,9,10]])] [] [] [(466,⟨1152921504606838888,[],[],[(.normal,[(3,.k (.d (.sl 9)))])]⟩)] [(58,⟨1152921504606846968,[],[],[(3,.k (.d (.sl 9))),(4,.k (.d (.int .i64)))],[((.exit 0),[(3,.k (.d (.sl 9)))])],bnd tb (.len (.slot 0)) 1⟩),
 (7460,⟨1073733664,[3],[],[(5,.k (.d (.int .i64)))],[((.exit 2),[(5,.k (.d (.int .i64)))])],bnd tb (.len (.slot 3)) 1⟩)] [] [] []
def b3Y:Row I:=⟨103,[.d (.sl 9)],[.k (.d (.sl 9))],a0g⟩
theorem a56:RK (b3Y) :=
 okR [] 61 b6J [.tmp 2] Go.Proofs.Tryz.func103 (by kernel_rfl)
def b0U:Row I:=⟨104,[.d (.dat 33),.d (.sl 9)],[.k (.d (.dat 33))],a5H⟩
theorem b1D:RK (b0U) :=
 okR [eR a56] 9 Y2 [.cell 4 33] Go.Proofs.Tryz.func104 (by kernel_rfl)
def b6f:Row I:=⟨204,[.d (.dat 33),.d (.dat 33)],[.k (.d (.dat 33))],a6o⟩
theorem b7j:RK (b6f) :=
 okR [] 9 Y2 [.cell 4 33] Go.Proofs.Tryz.func204 (by kernel_rfl)
def b0s:Hints I:=mkH [] [] [] [(29,⟨1048456,[],[(0,.k (.d (.dat 44)))],[(.normal,[(3,.k (.row 9 false))])]⟩)] [] [] [] []
def a9w:Row I:=⟨157,[.var 44 (.k (.d (.dat 44))) true],[.k (.d (.sl 9))],a08⟩
theorem a6b:RK (a9w) :=
 okR [eR Z0,eR a6g,eR a56] 22 b0s [.tmp 2] Go.Proofs.Tryz.func157 (by kernel_rfl)
def b1c:Row I:=⟨205,[.var 44 (.k (.d (.dat 44))) true],[.k (.d (.dat 83))],a3l⟩
theorem b1N:RK (b1c) :=
 okR [eR Z0,eR a09,eR a2b] 12 Y2 [.cell 2 83] Go.Proofs.Tryz.func205 (by kernel_rfl)
def X5 (n:Nat):Row I:=⟨105,[.var 44 (.k (.d (.dat 44))) true,.d (.int .i64)],[.k (.d (.dat 33))],a2F n⟩
def b09 (_:Nat):Hints I:=mkH [(16,[[],[],[1],[0,1,2],[],[0,1,2,3,4],[0,1,2,3,4,5]])] [(13,[46])] [] [(29,⟨5316911983139663491615228241104863200,[],[(0,.k (.d (.dat 44))),(4,.lvs [.d (.int .i64),.d (.int .i64),.d (.str),.d (.sl 33),.d (.sl 83),.d (.sl 138),.d (.sl 9)])],[(.normal,[]),(.ret,[])]⟩),
 (7540,⟨2234207627640832,[],[(0,.k (.d (.dat 44)))],[(.normal,[(50,.k (.d (.bool)))])]⟩),
 (7541,⟨141863388262170624,[],[(0,.k (.d (.dat 44))),(7,.k (.d (.dat 33)))],[(.normal,[])]⟩)] [(3754,⟨549487378528,[],[(0,.k (.d (.dat 44)))],[(5,.k (.row 33 false)),(6,.k (.d (.int .i64)))],[((.exit 1),[(5,.k (.row 33 false))])],bnd tb (.slot 6) 2⟩),
 (120794,⟨77370071863715549769893632,[],[(0,.k (.d (.dat 44)))],[(8,.k (.row 83 false)),(9,.k (.row 33 false)),(10,.k (.d (.int .i64)))],[((.exit 3),[(8,.k (.row 83 false)),(9,.k (.row 33 false))])],bnd tb (.slot 10) 2⟩),
 (483290,⟨10382058415869198798257999252078592,[],[(0,.k (.d (.dat 44)))],[(14,.k (.row 138 false)),(15,.k (.d (.int .i64)))],[((.exit 5),[(14,.k (.row 138 false))])],bnd tb (.slot 15) 2⟩)] [] [] []
def a0w (n:Nat):Row I:=⟨156,[.var 44 (.k (.d (.dat 44))) true,.d (.int .i64)],[.k (.d (.dat 33))],b2Z n⟩
def b1h (_:Nat):Hints I:=mkH [(4,[[],[0],[],[],[2,3],[2,3,4],[0,1,2,3,4,5],[0,1,2,3,4,5,6],[0,1,2,3,4,5,6,7]])] [] [] [] [(28,⟨1048322,[],[(0,.k (.d (.dat 44))),(7,.lvs [.row 33 false,.d (.bool),.d (.int .i64),.d (.int .i64),.d (.str),.row 33 false,.row 83 false,.row 138 false,.row 9 false])],[(1,.k (.d (.int .i64)))],[((.exit 0),[])],bnd tb (.slot 1) 2⟩)] [] [] []
def a0A (n:Nat):Row I:=⟨206,[.var 44 (.k (.d (.dat 44))) true,.d (.int .i64),.d (.int .i64)],[.k (.d (.dat 138))],b2q n⟩
theorem a99 (n:Nat)(_:j6 Go.Proofs.Tryz.prog (X5 n))(h_semtypebase_Source_value:j6 Go.Proofs.Tryz.prog (a0w n))(_:j6 Go.Proofs.Tryz.prog (a0A n)):RK (X5 (n+1)) :=
 okR [eR h_semtypebase_Source_value,eR a6b] 13 Y2 [.cell 4 33] Go.Proofs.Tryz.func105 (by kernel_rfl)
theorem b0e (n:Nat)(h_semtypebase_Source_Value:j6 Go.Proofs.Tryz.prog (X5 n))(_:j6 Go.Proofs.Tryz.prog (a0w n))(h_semtypebase_Source_entry:j6 Go.Proofs.Tryz.prog (a0A n)):RK (a0w (n+1)) :=
 okR [eR a3W,eR Z0,eR h_semtypebase_Source_Value,eR a84,eR a2p,eR b7j,eR a6b,eR b1N,eR a5z,eR h_semtypebase_Source_entry,eR (a7O n)] 124 (b09 n) [.cell 4 33] Go.Proofs.Tryz.func156 (by kernel_rfl)
theorem a9M (n:Nat)(h_semtypebase_Source_Value:j6 Go.Proofs.Tryz.prog (X5 n))(_:j6 Go.Proofs.Tryz.prog (a0w n))(_:j6 Go.Proofs.Tryz.prog (a0A n)):RK (a0A (n+1)) :=
 okR [eR h_semtypebase_Source_Value,eR Z0] 30 (b1h n) [.cell 6 138] Go.Proofs.Tryz.func206 (by kernel_rfl)
theorem a48:∀ n:Nat,j6 Go.Proofs.Tryz.prog (X5 n)/\j6 Go.Proofs.Tryz.prog (a0w n)/\j6 Go.Proofs.Tryz.prog (a0A n)
 | 0=>⟨Y3 (by kernel_rfl),Y3 (by kernel_rfl),Y3 (by kernel_rfl)⟩
 | n+1=>by
   obtain ⟨h0,h1,h2⟩:=a48 n
   exact ⟨a99 n h0 h1 h2,b0e n h0 h1 h2,a9M n h0 h1 h2⟩
theorem b0x (n:Nat):j6 Go.Proofs.Tryz.prog (X5 n):=(a48 n).1
def b53:Row I:=⟨185,[.d (.int .u8)],[.k (.d (.bool))],a4b⟩
theorem b67:RK (b53) :=
 okR [] 9 Y2 [.tmp 2] Go.Proofs.Tryz.func185 (by kernel_rfl)
def b2r:Hints I:=mkH [] [] [] [] [(58,⟨562949953159180,[],[],[(3,.k (.d (.int .i64)))],[((.exit 0),[]),(.ret,[(2,.k (.d (.bool)))])],bnd tb (.len (.slot 0)) 1⟩)] [] [] []
def b1e:Row I:=⟨144,[.d (.str)],[.k (.d (.bool))],a10⟩
theorem a65:RK (b1e) :=
 okR [eR b67,eR a9r,eR a80] 49 b2r [.tmp 2] Go.Proofs.Tryz.func144 (by kernel_rfl)
def b80 (_:Nat):Hints I:=mkH [(4,[[],[0],[],[0,1,2],[0,1,2,3],[0,1,2,3,4],[0,1,2,3,4,5],[0,1,2,3,4,5,6],[0,1,2,3,4,5,6,7],[0,1,2,3,4,5,6,7,8],[0,1,2,3,4,5,6,7,8,9],[0,1,2,3,4,5,6,7,8,9,10],[0,1,2,3,4,5,6,7,8,9,10,11],[0,1,2,3,4,5,6,7,8,9,10],[0,1,2,3,4,5,6,7,8,9,10,13],[0,1,2,3,4,5,6,7,8,9,10,11,12,13,14],[0,1,2,3,4,5,6,7,8,9,10,11,12,13,14,15],[0,1,2,3,4,5,6,7,8,9,10],[0,1,2,3,4,5,6,7,8,9,10,17],[0,1,2,3,4,5,6,7,8,9,10],[0,1,2,3,4,5,6,7,8,9,10,17,18,19],[0,1,2,3,4,5,6,7,8,9,10,17,18,19,20],[0,1,2,3,4,5,6,7,8,9,10,11,12,13,14,15,16,17,18,19,20,21],[0,1,2,3,4,5,6,7,8,9,10,11,12,13,14,15,16,17,18,19,20,21,22],[0,1,2,3,4,5,6,7,8,9,10,11,12,13,14,15,16,17,18,19,20,21,22,23]]),(29,[[],[0],[],[0,1,2],[0,1,2,3],[0,1,2,3,4],[0,1,2,3,4,5],[0,1,2,3,4,5,6],[0,1,2,3,4,5,6,7],[0,1,2,3,4,5,6,7,8],[0,1,2,3,4,5,6,7,8,9],[0,1,2,3,4,5,6,7,8,9,10],[0,1,2,3,4,5,6,7,8,9,10,11],[0,1,2,3,4,5,6,7,8,9,10],[0,1,2,3,4,5,6,7,8,9,10,13],[0,1,2,3,4,5,6,7,8,9,10,11,12,13,14],[0,1,2,3,4,5,6,7,8,9,10,11,12,13,14,15],[0,1,2,3,4,5,6,7,8,9,10],[0,1,2,3,4,5,6,7,8,9,10,17],[0,1,2,3,4,5,6,7,8,9,10],[0,1,2,3,4,5,6,7,8,9,10,17,18,19],[0,1,2,3,4,5,6,7,8,9,10,17,18,19,20],[0,1,2,3,4,5,6,7,8,9,10,11,12,13,14,15,16,17,18,19,20,21],[0,1,2,3,4,5,6,7,8,9,10,11,12,13,14,15,16,17,18,19,20,21,22],[0,1,2,3,4,5,6,7,8,9,10,11,12,13,14,15,16,17,18,19,20,21,22,23],[0,1,2,3,4,5,6,7,8,9,10,11,12,13,14,15,16,17,18,19,20,21,22,23,24]]),(39,[[],[0],[0,1],[],[3],[0,1,2,3,4],[0,1,2,3,4,5],[0,1,2,3,4,5,6],[0,1,2,3,4,5,6,7],[0,1,2,3,4,5,6,7,8],[0,1,2,3,4,5,6,7,8,9],[0,1,2,3,4,5,6,7,8,9,10],[0,1,2,3,4,5,6,7,8,9],[0,1,2,3,4,5,6,7,8,9,10,11,12],[0,1,2,3,4,5,6,7,8,9,10,11,12,13],[0,1,2,3,4,5,6,7,8,9,10,11,12,13,14],[0,1,2,3,4,5,6,7,8,9,10,11,12,13,14,15],[0,1,2,3,4,5,6,7,8,9,10,11,12,13,14,15,16],[0,1,2,3,4,5,6,7,8,9,10,11,12,13,14,15,16,17],[0,1,2,3,4,5,6,7,8,9,10,11,12,13,14,15,16,17,18],[0,1,2,3,4,5,6,7,8,9,10,11,12,13,14,15,16,17,18,19],[0,1,2,3,4,5,6,7,8,9,10,11,12,13,14,15,16,17,18,19,20],[0,1,2,3,4,5,6,7,8,9,10,11,12,13,14,15,16,17,18,19,20,21],[0,1,2,3,4,5,6,7,8,9,10,11,12,13,14,15,16,17,18,19,20],[0,1,2,3,4,5,6,7,8,9,10,11,12,13,14,15,16,17,18,19,20,23],[0,1,2,3,4,5,6,7,8,9,10,11,12,13,14,15,16,17,18,19,20,21,22,23,24],[0,1,2,3,4,5,6,7,8,9,10,11,12,13,14,15,16,17,18,19,20,21,22,23,24,25],[0,1,2,3,4,5,6,7,8,9,10,11,12,13,14,15,16,17,18,19,20],[0,1,2,3,4,5,6,7,8,9,10,11,12,13,14,15,16,17,18,19,20,21,22,23,24,25,26,27],[0,1,2,3,4,5,6,7,8,9,10,11,12,13,14,15,16,17,18,19,20,21,22,23,24,25,26,27,28],[0,1,2,3,4,5,6,7,8,9,10,11,12,13,14,15,16,17,18,19,20,21,22,23,24,25,26,27,28,29],[0,1,2,3,4,5,6,7,8,9,10,11,12,13,14,15,16,17,18,19,20,21,22,23,24,25,26,27,28,29,30]])] [] [] [(4073,⟨425352958651173079329218259289710264320,[],[],[(.normal,[(126,.k (.d (.bool)))])]⟩)] [(26,⟨4398046510092,[],[],[(3,.k (.d (.int .i64)))],[((.exit 0),[]),(.ret,[(2,.k (.d (.bool)))])],bnd tb (.len (.ld 31 (.fld 33 6 (.slot 1)))) 1⟩),
 (133562354,⟨411376139282411024886683268815639281647236804420309368268914820,[],[],[(7,.k (.d (.int .i64)))],[((.exit 3),[]),(.ret,[(2,.k (.d (.bool)))])],bnd tb (.len (.ld 29 (.fld 33 4 (.slot 1)))) 1⟩),
 (1068498922,⟨948568795032040353016559207911582007103813675119580226322391447047862150789858052,[],[],[(8,.k (.d (.int .i64)))],[((.exit 5),[]),(.ret,[(2,.k (.d (.bool)))])],bnd tb (.len (.ld 30 (.fld 33 5 (.slot 1)))) 1⟩)] [] [] []
def b6K (n:Nat):Row I:=⟨79,[.d (.dat 33)],[.k (.d (.bool))],a6z n⟩
theorem b7x (n:Nat):RK (b6K n) :=
 okR [eR a65,eR a59,eR a5d,eR a0W,eR (a6l n),eR (a5I n)] 269 (b80 n) [.tmp 2] Go.Proofs.Tryz.func79 (by kernel_rfl)
def b7y (_:Nat):Hints I:=mkH [] [] [] [] [(58,⟨16776204,[],[],[(3,.k (.d (.int .i64)))],[((.exit 0),[]),(.ret,[(2,.k (.d (.bool)))])],bnd tb (.len (.ld 28 (.fld 33 3 (.slot 1)))) 1⟩),
 (122,⟨576460752286646388,[],[],[(4,.k (.d (.int .i64)))],[((.exit 2),[]),(.ret,[(2,.k (.d (.bool)))])],bnd tb (.len (.ld 30 (.fld 33 5 (.slot 1)))) 1⟩),
 (31306,⟨1125831187365956,[],[],[(6,.k (.d (.int .i64)))],[((.exit 4),[]),(.ret,[(2,.k (.d (.bool)))])],bnd tb (.len (.ld 28 (.fld 138 0 (.slot 5)))) 1⟩)] [] [] []
def a57 (n:Nat):Row I:=⟨39,[.d (.dat 33)],[.k (.d (.bool))],a0d n⟩
theorem b5L (n:Nat)(h_semtyperef1_Valid:j6 Go.Proofs.Tryz.prog (a57 n)):RK (a57 (n+1)) :=
 okR [eR (b7x n),eR h_semtyperef1_Valid] 59 (b7y n) [.tmp 2] Go.Proofs.Tryz.func39 (by kernel_rfl)
theorem a6m:∀ n:Nat,j6 Go.Proofs.Tryz.prog (a57 n)
 | 0=>Y3 (by kernel_rfl)
 | n+1=>b5L n (a6m n)
def V6 (n:Nat):Row I:=⟨21,[.var 44 (.k (.d (.dat 44))) true,.d (.dat 27),.d (.int .i64),.d (.int .i64)],[.k (.d (.dat 33))],a2V n⟩
def b1s (_:Nat):Hints I:=mkH [(7,[[],[0],[],[2],[],[4],[],[6],[6,7],[],[9],[9,10],[6,7,8,9,10,11],[4,5,6,7,8,9,10,11,12],[0,1,2,3,4,5,6,7,8,9,10,11,12,13],[],[15],[0,1,2,3,4,5,6,7,8,9,10,11,12,13,14,15,16],[0,1,2,3,4,5,6,7,8,9,10,11,12,13,14,15,16,17],[0,1,2,3,4,5,6,7,8,9,10,11,12,13,14,15,16,17,18],[0,1,2,3,4,5,6,7,8,9,10,11,12,13,14,15,16,17,18,19]]),(25,[[],[0],[],[],[],[4],[],[4,5,6],[4,5,6,7],[],[9],[2,3,4,5,6,7,8,9,10],[2,3,4,5,6,7,8,9,10,11],[0,1,2,3,4,5,6,7,8,9,10,11,12],[0,1,2,3,4,5,6,7,8,9,10,11,12,13],[0,1,2,3,4,5,6,7,8,9,10,11,12,13,14]]),(30,[[],[0],[],[0,1,2],[0,1,2,3]]),(37,[[],[],[],[2],[],[],[5],[5,6],[4,5,6,7],[2,3,4,5,6,7,8],[2,3,4,5,6,7,8,9],[],[0,1,2,3,4,5,6,7,8,9,10,11],[0,1,2,3,4,5,6,7,8,9,10,11,12]]),(39,[[],[],[],[2],[],[],[5],[5,6],[4,5,6,7],[2,3,4,5,6,7,8],[2,3,4,5,6,7,8,9],[],[0,1,2,3,4,5,6,7,8,9,10,11],[0,1,2,3,4,5,6,7,8,9,10,11,12]]),(43,[[],[0],[],[2],[],[2,3,4],[2,3,4,5],[0,1,2,3,4,5,6],[0,1,2,3,4,5,6,7],[0,1,2,3,4,5,6,7,8],[0,1,2,3,4,5,6,7,8,9]]),(44,[[],[0],[0,1],[],[3],[],[5],[],[5,6,7],[5,6,7,8],[3,4,5,6,7,8,9],[3,4,5,6,7,8,9,10],[3,4,5,6,7,8,9,10,11],[3,4,5,6,7,8,9,10,11,12],[0,1,2,3,4,5,6,7,8,9,10,11,12,13],[0,1,2,3,4,5,6,7,8,9,10,11,12,13,14],[0,1,2,3,4,5,6,7,8,9,10,11,12,13,14,15],[0,1,2,3,4,5,6,7,8,9,10,11,12,13,14,15,16]]),(47,[[],[0],[],[2],[2,3],[0,1,2,3,4],[0,1,2,3,4,5]])] [] [] [(16449533,⟨386856262276681335905976320,[],[],[(.normal,[(86,.k (.d (.bool)))])]⟩),
 (263192557,⟨85029053355366337244815407887308292096,[],[(10,.lvs [.d (.int .i64),.d (.int .i64),.d (.str),.row 33 false,.row 83 false,.row 138 false,.row 9 false])],[(.normal,[])]⟩),
 (539018395474,⟨102844034449451492418213359320247649773843695697413960913387520,[],[(10,.k (.d (.dat 33)))],[(.normal,[])]⟩)] [(131596274,⟨2596147810297394171575110715049984,[],[(0,.k (.d (.dat 44))),(10,.lvs [.d (.int .i64),.d (.int .i64),.d (.str),.row 33 false,.row 83 false,.row 138 false,.row 9 false])],[(11,.k (.d (.int .i64)))],[((.exit 1),[])],bnd tb (.len (.ld 22 (.fld 77 4 (.slot 9)))) 1⟩),
 (67377299434,⟨102844034829582222281431884733353260024018043977843391611277312,[],[(10,.k (.d (.dat 33)))],[(12,.k (.d (.int .i64)))],[((.exit 3),[])],bnd tb (.len (.ld 22 (.fld 77 4 (.slot 9)))) 1⟩)] [] [] []
def a0c (n:Nat):Row I:=⟨48,[.var 44 (.k (.d (.dat 44))) true,.d (.dat 27),.d (.int .i64),.d (.int .i64)],[.k (.d (.dat 33))],b3m n⟩
def a8d (_:Nat):Hints I:=mkH [(10,[[],[0],[],[],[],[4],[],[4,5,6],[4,5,6,7],[],[9],[2,3,4,5,6,7,8,9,10],[2,3,4,5,6,7,8,9,10,11],[0,1,2,3,4,5,6,7,8,9,10,11,12],[0,1,2,3,4,5,6,7,8,9,10,11,12,13],[0,1,2,3,4,5,6,7,8,9,10,11,12,13,14]]),(13,[[],[],[],[2],[],[2,3,4],[2,3,4,5],[],[7],[0,1,2,3,4,5,6,7,8],[0,1,2,3,4,5,6,7,8,9],[0,1,2,3,4,5,6,7,8,9,10]])] [] [] [(31309,⟨2305280059260272640,[],[(0,.k (.d (.dat 44))),(12,.lvs [.row 33 false,.d (.bool),.d (.int .i64),.d (.int .i64),.d (.str),.d (.sl 33),.d (.sl 83),.d (.sl 138),.d (.sl 9)])],[(.normal,[])]⟩)] [(122,⟨36893488147414923776,[],[(0,.k (.d (.dat 44)))],[(9,.k (.row 138 false)),(11,.k (.d (.int .i64)))],[((.exit 0),[(9,.k (.row 138 false))])],bnd tb (.slot 11) 2⟩),
 (31306,⟨70368677076992,[],[(0,.k (.d (.dat 44))),(12,.lvs [.row 33 false,.d (.bool),.d (.int .i64),.d (.int .i64),.d (.str),.row 33 false,.row 83 false,.row 138 false,.row 9 false])],[(13,.k (.d (.int .i64)))],[((.exit 2),[])],bnd tb (.slot 10) 1⟩)] [] [] []
def K0 (n:Nat):Row I:=⟨102,[.var 44 (.k (.d (.dat 44))) true,.d (.dat 27),.d (.dat 77),.d (.int .i64)],[.k (.d (.dat 33))],a8M n⟩
def a93 (_:Nat):Hints I:=mkH [(8,[[],[],[],[],[3],[],[3,4,5],[3,4,5,6],[3,4,5,6,7],[],[9],[1,2,3,4,5,6,7,8,9,10],[1,2,3,4,5,6,7,8,9,10,11],[0,1,2,3,4,5,6,7,8,9,10,11,12],[0,1,2,3,4,5,6,7,8,9,10,11,12,13]]),(12,[[],[],[],[],[3],[],[3,4,5],[3,4,5,6],[],[8],[1,2,3,4,5,6,7,8,9],[1,2,3,4,5,6,7,8,9,10],[0,1,2,3,4,5,6,7,8,9,10,11],[0,1,2,3,4,5,6,7,8,9,10,11,12]])] [(6,[28])] [] [(125,⟨604462333346562283935232,[],[(0,.k (.d (.dat 44)))],[(.normal,[(9,.k (.row 83 false)),(10,.k (.row 33 false))])]⟩),
 (978,⟨72057594033735168,[],[(0,.k (.d (.dat 44)))],[(.normal,[(9,.k (.row 83 false)),(10,.k (.row 33 false))])]⟩),
 (7824,⟨8585740288,[],[(0,.k (.d (.dat 44)))],[(.normal,[(32,.k (.d (.bool)))])]⟩)] [(122,⟨72057594037898752,[],[(0,.k (.d (.dat 44)))],[(9,.k (.row 83 false)),(10,.k (.row 33 false)),(11,.k (.d (.int .i64)))],[((.exit 0),[(9,.k (.row 83 false)),(10,.k (.row 33 false))])],bnd tb (.len (.ld 74 (.fld 77 5 (.slot 6)))) 1⟩)] [] [] []
def W0 (n:Nat):Row I:=⟨101,[.var 44 (.k (.d (.dat 44))) true,.d (.dat 27),.d (.dat 77),.d (.int .i64)],[.k (.d (.dat 33))],b1a n⟩
theorem b0C (n:Nat)(_:j6 Go.Proofs.Tryz.prog (V6 n))(h_semtypebase_Source_near:j6 Go.Proofs.Tryz.prog (a0c n))(_:j6 Go.Proofs.Tryz.prog (K0 n))(_:j6 Go.Proofs.Tryz.prog (W0 n)):RK (V6 (n+1)) :=
 okR [eR h_semtypebase_Source_near,eR (a6m n),eR a3W] 21 Y2 [.cell 8 33] Go.Proofs.Tryz.func21 (by kernel_rfl)
theorem b0K (n:Nat)(h_semtypebase_Source_Near:j6 Go.Proofs.Tryz.prog (V6 n))(h_semtypebase_Source_near:j6 Go.Proofs.Tryz.prog (a0c n))(h_semtypebase_Source_nearFunction:j6 Go.Proofs.Tryz.prog (K0 n))(h_semtypebase_Source_nearMap:j6 Go.Proofs.Tryz.prog (W0 n)):RK (a0c (n+1)) :=
 okR [eR a3W,eR Z0,eR b0t,eR a8B,eR a2b,eR a9D,eR a09,eR b0H,eR a2p,eR h_semtypebase_Source_Near,eR h_semtypebase_Source_nearMap,eR h_semtypebase_Source_nearFunction,eR h_semtypebase_Source_near,eR a56,eR b1D,eR (b0x n)] 217 (b1s n) [.cell 8 33] Go.Proofs.Tryz.func48 (by kernel_rfl)
theorem a7J (n:Nat)(h_semtypebase_Source_Near:j6 Go.Proofs.Tryz.prog (V6 n))(_:j6 Go.Proofs.Tryz.prog (a0c n))(_:j6 Go.Proofs.Tryz.prog (K0 n))(_:j6 Go.Proofs.Tryz.prog (W0 n)):RK (K0 (n+1)) :=
 okR [eR Z0,eR h_semtypebase_Source_Near,eR (a7O n),eR a2p] 75 (a8d n) [.cell 8 33] Go.Proofs.Tryz.func102 (by kernel_rfl)
theorem a8S (n:Nat)(h_semtypebase_Source_Near:j6 Go.Proofs.Tryz.prog (V6 n))(_:j6 Go.Proofs.Tryz.prog (a0c n))(_:j6 Go.Proofs.Tryz.prog (K0 n))(_:j6 Go.Proofs.Tryz.prog (W0 n)):RK (W0 (n+1)) :=
 okR [eR Z0,eR h_semtypebase_Source_Near,eR a5z,eR a2p] 89 (a93 n) [.cell 8 33] Go.Proofs.Tryz.func101 (by kernel_rfl)
theorem a5C:∀ n:Nat,j6 Go.Proofs.Tryz.prog (V6 n)/\j6 Go.Proofs.Tryz.prog (a0c n)/\j6 Go.Proofs.Tryz.prog (K0 n)/\j6 Go.Proofs.Tryz.prog (W0 n)
 | 0=>⟨Y3 (by kernel_rfl),Y3 (by kernel_rfl),Y3 (by kernel_rfl),Y3 (by kernel_rfl)⟩
 | n+1=>by
   obtain ⟨h0,h1,h2,h3⟩:=a5C n
   exact ⟨b0C n h0 h1 h2 h3,b0K n h0 h1 h2 h3,a7J n h0 h1 h2 h3,a8S n h0 h1 h2 h3⟩
theorem b06 (n:Nat):j6 Go.Proofs.Tryz.prog (V6 n):=(a5C n).1
def b74:Hints I:=mkH [(4,[[],[],[1],[],[1,2,3],[1,2,3,4],[0,1,2,3,4,5],[0,1,2,3,4,5,6]]),(47,[[],[],[1],[0,1,2],[0,1,2,3],[0,1,2,3,4],[0,1,2,3,4,5],[0,1,2,3,4,5,6],[0,1,2,3,4,5,6,7],[0,1,2,3,4,5,6,7,8],[0,1,2,3,4,5,6,7,8,9],[0,1,2,3,4,5,6,7,8,9,10],[0,1,2,3,4,5,6,7,8,9,10,11],[0,1,2,3,4,5,6,7,8,9,10,11,12],[0,1,2,3,4,5,6,7,8,9,10,11,12,13],[0,1,2,3,4,5,6,7,8,9,10,11,12,13,14],[0,1,2,3,4,5,6,7,8,9,10,11,12,13,14,15],[0,1,2,3,4,5,6,7,8,9,10,11,12,13,14],[0,1,2,3,4,5,6,7,8,9,10,11,12,13,14,17],[0,1,2,3,4,5,6,7,8,9,10,11,12,13,14,15,16,17,18],[0,1,2,3,4,5,6,7,8,9,10,11,12,13,14,15,16,17,18,19],[0,1,2,3,4,5,6,7,8,9,10,11,12,13,14,15,16,17,18,19,20],[0,1,2,3,4,5,6,7,8,9,10,11,12,13,14],[0,1,2,3,4,5,6,7,8,9,10,11,12,13,14,22],[0,1,2,3,4,5,6,7,8,9,10,11,12,13,14,15,16,17,18,19,20,21,22,23],[0,1,2,3,4,5,6,7,8,9,10,11,12,13,14,15,16,17,18,19,20,21,22,23,24],[0,1,2,3,4,5,6,7,8,9,10,11,12,13,14,15,16,17,18,19,20,21,22,23,24,25],[0,1,2,3,4,5,6,7,8,9,10,11,12,13,14,15,16,17,18,19,20,21,22,23,24,25,26]])] [] [] [(2092029,⟨2706308199418088717232151174730781556736,[],[],[(.normal,[(122,.k (.d (.bool)))])]⟩),
 (535560189,⟨3568119231764899702645714923623737840956866560,[],[],[(.normal,[(149,.k (.d (.bool)))])]⟩)] [(26,⟨67106864,[],[],[(5,.k (.d (.int .i64)))],[((.exit 0),[]),(.ret,[(4,.k (.d (.bool)))])],bnd tb (.len (.ld 22 (.fld 77 4 (.slot 3)))) 1⟩),
 (68551704562,⟨1606938044257528773904631189422958917689486710763136902759952,[],[],[(9,.k (.d (.int .i64)))],[((.exit 3),[]),(.ret,[(4,.k (.d (.bool)))])],bnd tb (.len (.ld 74 (.fld 77 5 (.slot 3)))) 1⟩)] [] [] []
def b6R:Row I:=⟨80,[.d (.dat 27),.d (.dat 77)],[.k (.d (.bool))],a6r⟩
theorem b7K:RK (b6R) :=
 okR [eR a6t,eR a59,eR a65,eR a5d,eR a0W] 216 b74 [.tmp 4] Go.Proofs.Tryz.func80 (by kernel_rfl)
def b3s:Row I:=⟨81,[.d (.dat 77)],[.k (.d (.bool))],a4Z⟩
theorem b3S:RK (b3s) :=
 okR [] 16 Y2 [.tmp 2] Go.Proofs.Tryz.func81 (by kernel_rfl)
def b2y (n:Nat):Hints I:=mkH [(6,[[],[],[1],[],[1,2,3],[1,2,3,4],[0,1,2,3,4,5],[0,1,2,3,4,5,6]])] [] [] [] [(58,⟨1073709068,[],[],[(3,.k (.d (.int .i64)))],[((.exit 0),[]),(.ret,[(2,.k (.d (.int .i64)))])],bnd tb (.len (.ld 25 (.fld 27 0 (.slot 1)))) 1⟩),
 (250,⟨4951760157141521082416628192,[],[],[(4,.k (.row 4 false)),(5,.k (.d (.int .i64)))],[((.exit 2),[(4,.k (.row 4 false))])],bnd tb (.len (.ld 25 (.fld 27 0 (.slot 1)))) 1⟩),
 (506,⟨10136253041668693690874029146628,[],[],[(4,.k (.row 4 false)),(9,.k (.d (.int .i64)))],[((.exit 8),[(4,.k (.row 4 false))]),(.ret,[(2,.k (.d (.int .i64))),(4,.k (.row 4 false))])],bnd tb (.len (.slot 4)) 1⟩),
 (16018,⟨4951760157141518900573241792,[],[],[(4,.k (.row 4 false)),(6,.k (.d (.int .i64)))],[((.exit 4),[(4,.k (.row 4 false))])],bnd tb (.len (.ld 25 (.fld 27 0 (.slot 1)))) 1⟩),
 (4100682,⟨4835703278177041722114432,[],[],[(4,.k (.row 4 false)),(7,.k (.d (.bool))),(8,.k (.d (.int .i64)))],[((.exit 6),[(4,.k (.row 4 false)),(7,.k (.d (.bool)))])],fun _=>some n⟩)] [] [] []
def b08 (n:Nat):Row I:=⟨40,[.d (.dat 27)],[.k (.d (.int .i64))],a01 n⟩
theorem b1P (n:Nat):RK (b08 n) :=
 okR [eR a6t,eR b7K,eR b3S] 103 (b2y n) [.tmp 2] Go.Proofs.Tryz.func40 (by kernel_rfl)
def b9S:Hints I:=mkH [(4,[[],[0],[],[0,1,2],[0,1,2,3],[],[0,1,2,3,4,5]])] [] [] [] [(26,⟨2097136,[],[],[(5,.k (.d (.int .i64)))],[((.exit 0),[]),(.ret,[(4,.k (.d (.int .i64)))])],bnd tb (.len (.ld 29 (.fld 33 4 (.slot 2)))) 1⟩)] [] [] []
def b7J:Row I:=⟨186,[.d (.dat 33),.d (.dat 83)],[.k (.d (.int .i64))],a60⟩
theorem b8R:RK (b7J) :=
 okR [] 21 b9S [.tmp 4] Go.Proofs.Tryz.func186 (by kernel_rfl)
def b7z:Hints I:=mkH [(4,[[],[0],[],[0,1,2],[0,1,2,3],[0,1,2,3,4],[],[0,1,2,3,4,5,6]])] [] [] [] [(26,⟨4194288,[],[],[(5,.k (.d (.int .i64)))],[((.exit 0),[]),(.ret,[(4,.k (.d (.int .i64)))])],bnd tb (.len (.ld 74 (.fld 77 5 (.slot 2)))) 1⟩)] [] [] []
def b5t:Row I:=⟨187,[.d (.dat 77),.d (.dat 83)],[.k (.d (.int .i64))],a2L⟩
theorem b6t:RK (b5t) :=
 okR [] 22 b7z [.tmp 4] Go.Proofs.Tryz.func187 (by kernel_rfl)
def b4w (_:Nat):Hints I:=mkH [(8,[[],[0],[],[],[3],[],[3,4,5],[0,1,2,3,4,5,6],[0,1,2,3,4,5,6,7],[0,1,2,3,4,5,6,7,8],[0,1,2,3,4,5,6,7,8,9],[0,1,2,3,4,5,6,7,8,9,10],[0,1,2,3,4,5,6,7,8,9,10,11],[0,1,2,3,4,5,6,7,8,9,10,11,12],[0,1,2,3,4,5,6,7,8,9,10,11],[0,1,2,3,4,5,6,7,8,9,10,11],[0,1,2,3,4,5,6,7,8,9,10,11,15],[0,1,2,3,4,5,6,7,8,9,10,11],[0,1,2,3,4,5,6,7,8,9,10,11,15,16,17],[0,1,2,3,4,5,6,7,8,9,10,11,15,16,17,18],[0,1,2,3,4,5,6,7,8,9,10,11,12,13,14,15,16,17,18,19],[0,1,2,3,4,5,6,7,8,9,10,11,12,13,14,15,16,17,18,19,20],[0,1,2,3,4,5,6,7,8,9,10,11,12,13,14,15,16,17,18,19,20,21],[0,1,2,3,4,5,6,7,8,9,10,11,12,13,14,15,16,17,18,19,20,21,22]])] [] [] [] [(122,⟨18014398509220672,[],[],[(8,.k (.d (.int .i64)))],[((.exit 0),[]),(.ret,[(6,.k (.d (.bool)))])],bnd tb (.len (.ld 30 (.fld 33 5 (.slot 3)))) 1⟩)] [] [] []
def a0D (n:Nat):Row I:=⟨147,[.d (.dat 33),.d (.dat 27),.d (.dat 77)],[.k (.d (.bool))],a0S n⟩
def b5B (_:Nat):Hints I:=mkH [(4,[[],[0],[],[0,1,2],[0,1,2,3],[0,1,2,3,4],[0,1,2,3,4,5],[0,1,2,3,4,5,6],[0,1,2,3,4,5,6,7],[0,1,2,3,4,5,6,7],[0,1,2,3,4,5,6,7,9],[0,1,2,3,4,5,6,7],[0,1,2,3,4,5,6,7,9,10,11],[0,1,2,3,4,5,6,7,9,10,11,12],[0,1,2,3,4,5,6,7,9,10,11,12,13],[0,1,2,3,4,5,6,7,8,9,10,11,12,13,14],[0,1,2,3,4,5,6,7,8,9,10,11,12,13,14,15],[0,1,2,3,4,5,6,7,8,9,10,11,12,13,14,15,16]]),(9,[[],[],[1],[],[1,2,3],[1,2,3,4],[0,1,2,3,4,5],[0,1,2,3,4,5,6]]),(13,[[],[0],[],[0,1,2],[0,1,2,3],[],[],[0,1,2,3,4,5,6],[0,1,2,3,4,5,6,7]])] [] [] [(3730,⟨575334852396581888,[],[],[(.normal,[(10,.k (.d (.int .i64)))])]⟩),
 (14925,⟨145268109580462720000,[],[],[(.normal,[(10,.k (.d (.int .i64)))])]⟩)] [(26,⟨68719474880,[],[],[(7,.k (.d (.int .i64)))],[((.exit 0),[]),(.ret,[(6,.k (.d (.bool)))])],bnd tb (.len (.ld 74 (.fld 77 5 (.slot 5)))) 1⟩),
 (58,⟨75557863725845603944256,[],[],[(8,.k (.d (.int .i64)))],[((.exit 2),[]),(.ret,[(6,.k (.d (.bool)))])],bnd tb (.len (.ld 29 (.fld 33 4 (.slot 3)))) 1⟩)] [] [] []
def a0M (n:Nat):Row I:=⟨146,[.d (.dat 33),.d (.dat 27),.d (.dat 77)],[.k (.d (.bool))],a06 n⟩
def b6y (_:Nat):Hints I:=mkH [(35,[[],[],[],[2],[],[2,3,4],[2,3,4,5],[0,1,2,3,4,5,6]]),(42,[[],[],[],[2],[],[2,3,4],[2,3,4,5],[0,1,2,3,4,5,6],[0,1,2,3,4,5,6,7]]),(46,[[],[],[],[2],[2,3],[2,3,4],[0,1,2,3,4,5],[0,1,2,3,4,5,6],[0,1,2,3,4,5,6,7]]),(51,[[],[0],[],[0,1,2],[0,1,2,3],[],[5],[0,1,2,3,4,5,6]])] [] [] [] [(506806140914,⟨365364258960126464239350440319934430733230145856,[],[],[(8,.k (.d (.int .i64)))],[((.exit 1),[]),(.ret,[(6,.k (.d (.bool)))])],bnd tb (.len (.ld 22 (.fld 77 4 (.slot 7)))) 1⟩),
 (2027224563698,⟨95779509802480722744478485512061607693151539203932736,[],[],[(9,.k (.d (.int .i64)))],[((.exit 3),[]),(.ret,[(6,.k (.d (.bool)))])],bnd tb (.len (.ld 22 (.fld 77 4 (.slot 7)))) 1⟩),
 (16217796509690,⟨12855112035213460536787957001890350341026617553047063680255040,[],[],[(10,.k (.d (.int .i64)))],[((.exit 5),[]),(.ret,[(6,.k (.d (.bool)))])],bnd tb (.len (.ld 31 (.fld 33 6 (.slot 3)))) 1⟩)] [] [] []
def a0h (n:Nat):Row I:=⟨82,[.d (.dat 33),.d (.dat 27),.d (.int .i64)],[.k (.d (.bool))],w7 n⟩
def b5E (_:Nat):Hints I:=mkH [(6,[[],[],[0,1],[0,1,2],[],[],[],[5,6],[5,6,7],[0,1,2,3,4,5,6,7,8],[0,1,2,3,4,5,6,7,8,9]])] [] [] [] [(58,⟨1073733824,[],[],[(7,.k (.d (.int .i64)))],[((.exit 0),[]),(.ret,[(6,.k (.d (.bool)))])],bnd tb (.len (.slot 0)) 1⟩)] [] [] []
def a0L (n:Nat):Row I:=⟨145,[.d (.sl 33),.d (.dat 27),.d (.sl 3)],[.k (.d (.bool))],a0r n⟩
theorem b2L (n:Nat)(_:j6 Go.Proofs.Tryz.prog (a0D n))(_:j6 Go.Proofs.Tryz.prog (a0M n))(h_semtyperef7_member:j6 Go.Proofs.Tryz.prog (a0h n))(h_semtyperef7_members:j6 Go.Proofs.Tryz.prog (a0L n)):RK (a0D (n+1)) :=
 okR [eR h_semtyperef7_members,eR h_semtyperef7_member] 54 (b4w n) [.tmp 6] Go.Proofs.Tryz.func147 (by kernel_rfl)
theorem b3r (n:Nat)(_:j6 Go.Proofs.Tryz.prog (a0D n))(_:j6 Go.Proofs.Tryz.prog (a0M n))(h_semtyperef7_member:j6 Go.Proofs.Tryz.prog (a0h n))(_:j6 Go.Proofs.Tryz.prog (a0L n)):RK (a0M (n+1)) :=
 okR [eR b8R,eR b6t,eR h_semtyperef7_member] 76 (b5B n) [.tmp 6] Go.Proofs.Tryz.func146 (by kernel_rfl)
theorem b37 (n:Nat)(h_semtyperef7_function:j6 Go.Proofs.Tryz.prog (a0D n))(h_semtyperef7_mapping:j6 Go.Proofs.Tryz.prog (a0M n))(h_semtyperef7_member:j6 Go.Proofs.Tryz.prog (a0h n))(h_semtyperef7_members:j6 Go.Proofs.Tryz.prog (a0L n)):RK (a0h (n+1)) :=
 okR [eR h_semtyperef7_members,eR h_semtyperef7_mapping,eR h_semtyperef7_function,eR h_semtyperef7_member] 203 (b6y n) [.tmp 6] Go.Proofs.Tryz.func82 (by kernel_rfl)
theorem b3j (n:Nat)(_:j6 Go.Proofs.Tryz.prog (a0D n))(_:j6 Go.Proofs.Tryz.prog (a0M n))(h_semtyperef7_member:j6 Go.Proofs.Tryz.prog (a0h n))(_:j6 Go.Proofs.Tryz.prog (a0L n)):RK (a0L (n+1)) :=
 okR [eR h_semtyperef7_member] 30 (b5E n) [.tmp 6] Go.Proofs.Tryz.func145 (by kernel_rfl)
theorem a6f:∀ n:Nat,j6 Go.Proofs.Tryz.prog (a0D n)/\j6 Go.Proofs.Tryz.prog (a0M n)/\j6 Go.Proofs.Tryz.prog (a0h n)/\j6 Go.Proofs.Tryz.prog (a0L n)
 | 0=>⟨Y3 (by kernel_rfl),Y3 (by kernel_rfl),Y3 (by kernel_rfl),Y3 (by kernel_rfl)⟩
 | n+1=>by
   obtain ⟨h0,h1,h2,h3⟩:=a6f n
   exact ⟨b2L n h0 h1 h2 h3,b3r n h0 h1 h2 h3,b37 n h0 h1 h2 h3,b3j n h0 h1 h2 h3⟩
theorem b5m (n:Nat):j6 Go.Proofs.Tryz.prog (a0h n):=(a6f n).2.2.1
def b6l (_:Nat):Hints I:=mkH [(4,[[],[],[],[2],[],[2,3,4],[2,3,4,5],[0,1,2,3,4,5,6],[0,1,2,3,4,5,6,7]]),(9,[[],[],[],[2],[],[2,3,4],[2,3,4,5],[0,1,2,3,4,5,6]])] [] [] [] [(26,⟨33554112,[],[],[(7,.k (.d (.int .i64)))],[((.exit 0),[]),(.ret,[(6,.k (.d (.bool)))])],bnd tb (.len (.ld 22 (.fld 56 0 (.slot 5)))) 1⟩),
 (58,⟨1099478073664,[],[],[(8,.k (.d (.int .i64)))],[((.exit 2),[]),(.ret,[(6,.k (.d (.bool)))])],bnd tb (.len (.ld 22 (.fld 56 1 (.slot 5)))) 1⟩)] [] [] []
def b3V (n:Nat):Row I:=⟨41,[.d (.dat 33),.d (.dat 27),.d (.dat 56)],[.k (.d (.bool))],a7c n⟩
theorem b5M (n:Nat):RK (b3V n) :=
 okR [eR (b5m n)] 53 (b6l n) [.tmp 6] Go.Proofs.Tryz.func41 (by kernel_rfl)
def b4N (n:Nat):Row I:=⟨15,[.d (.dat 33),.d (.dat 27),.d (.dat 56)],[.k (.d (.bool))],K5 n⟩
theorem a8A (n:Nat):RK (b4N n) :=
 okR [eR (a6m n),eR (b1P n),eR a75,eR (b5M n)] 25 Y2 [.tmp 6] Go.Proofs.Tryz.func15 (by kernel_rfl)
def b7s:Hints I:=mkH [] [] [] [] [(58,⟨4094,[],[],[(1,.k (.row 5 false)),(2,.k (.d (.int .i64)))],[((.exit 0),[(1,.k (.row 5 false))])],bnd tb (.cst 256) 1⟩)] [] [] []
def b5n:Row I:=⟨116,[],[.k (.d (.str))],a7P⟩
theorem b6T:RK (b5n) :=
 okR [] 14 b7s [.tmp 0] Go.Proofs.Tryz.func116 (by kernel_rfl)
def b7q:Hints I:=mkH [] [] [] [] [(26,⟨262128,[],[],[(5,.k (.d (.int .i64)))],[((.exit 0),[]),(.ret,[(4,.k (.d (.bool)))])],bnd tb (.len (.slot 0)) 1⟩)] [] [] []
def b5V:Row I:=⟨117,[.d (.sl 9),.d (.str)],[.k (.d (.bool))],a5L⟩
theorem b6M:RK (b5V) :=
 okR [] 18 b7q [.tmp 4] Go.Proofs.Tryz.func117 (by kernel_rfl)
def b87:Hints I:=mkH [(9,[[],[],[1],[0,1,2],[0,1,2,3],[0,1,2,3,4],[0,1,2,3,4],[0,1,2,3,4,5,6],[0,1,2,3,4],[0,1,2,3,4],[0,1,2,3,4,8,9],[0,1,2,3,4,8,9,10],[0,1,2,3,4,5,6,7,8,9,10,11],[0,1,2,3,4,5,6,7,8,9,10,11,12]])] [] [] [(7461,⟨16777728,[],[],[(.normal,[(9,.k (.d (.str)))])]⟩)] [(58,⟨576460752303294272,[],[],[(7,.k (.row 5 false)),(8,.k (.d (.int .i64)))],[((.exit 0),[(7,.k (.row 5 false))]),(.ret,[(6,.k (.d (.sl 5))),(7,.k (.d (.sl 5)))])],bnd tb (.slot 8) 2⟩),
 (252,⟨18852572443331161751680,[],[],[(7,.k (.row 5 false))],[((.exit 4),[(7,.k (.row 5 false))])],bnd tb (.slot 11) 1⟩),
 (29852,⟨2198989702144,[],[],[(7,.k (.row 5 false)),(10,.k (.d (.int .i64)))],[((.exit 2),[(7,.k (.row 5 false)),(10,.k (.d (.int .i64)))])],bnd tb (.len (.slot 9)) 1⟩)] [] [] []
def b6s:Row I:=⟨118,[.d (.sl 5),.d (.str),.d (.str)],[.k (.d (.sl 5))],a4N⟩
theorem b7u:RK (b6s) :=
 okR [] 75 b87 [.tmp 6] Go.Proofs.Tryz.func118 (by kernel_rfl)
def b7B (n:Nat):Hints I:=mkH [] [] [] [(61,⟨6368,[],[],[(.normal,[(5,.k (.d (.str))),(6,.k (.d (.str))),(7,.k (.row 5 false))])]⟩)] [(124,⟨2089088,[],[],[(7,.k (.d (.sl 5)))],[((.exit 0),[(7,.k (.d (.sl 5)))])],fun _=>some n⟩)] [] [] []
def b5F (n:Nat):Row I:=⟨63,[.d (.int .i64),.d (.sl 9)],[.k (.d (.str))],a5K n⟩
theorem b6w (n:Nat):RK (b5F n) :=
 okR [eR b6T,eR b6M,eR b7u] 23 (b7B n) [.tmp 4] Go.Proofs.Tryz.func63 (by kernel_rfl)
def b4e (_:Nat):Hints I:=mkH [] [] [] [(978,⟨34358689824,[],[],[(.normal,[(5,.k (.row 9 false))])]⟩)] [(122,⟨34359722080,[],[],[(5,.k (.row 9 false)),(6,.k (.d (.int .i64)))],[((.exit 0),[(5,.k (.row 9 false))])],bnd tb (.len (.slot 1)) 1⟩)] [] [] []
def b2z (n:Nat):Row I:=⟨28,[.d (.int .i64),.d (.sl 83)],[.k (.d (.dat 83))],a4r n⟩
theorem b3v (n:Nat):RK (b2z n) :=
 okR [eR (b6w n)] 40 (b4e n) [.cell 4 83] Go.Proofs.Tryz.func28 (by kernel_rfl)
def a5Z:Hints I:=mkH [] [] [] [] [(26,⟨524080,[],[],[(8,.k (.d (.int .i64)))],[((.exit 0),[]),(.ret,[(4,.k (.d (.int .i64)))])],bnd tb (.slot 7) 1⟩)] [] [] []
def a5G:Row I:=⟨164,[.d (.sl 85),.fn [.dat 85] [.k (.d (.bool))]],[.k (.d (.int .i64))],a0Q⟩
theorem a5J:RK (a5G) :=
 okR [] 19 a5Z [.tmp 4] Go.Proofs.Tryz.func164 (by kernel_rfl)
def a44:Row I:=⟨120,[.d (.sl 85),.fn [.dat 85] [.k (.d (.bool))]],[.k (.d (.bool))],a0q⟩
theorem a5c:RK (a44) :=
 okR [eR a5J] 9 Y2 [.tmp 4] Go.Proofs.Tryz.func120 (by kernel_rfl)
def b6u:Row I:=⟨121,[.d (.dat 85)],[.k (.d (.bool))],a3c⟩
theorem b7v:RK (b6u) :=
 okR [] 11 Y2 [.tmp 2] Go.Proofs.Tryz.func121 (by kernel_rfl)
def c0A:Hints I:=mkH [(6,[[],[0],[0,1],[0,1,2],[0,1,2,3],[0,1,2,3,4],[0,1,2,3,4,5],[0,1,2,3,4,5,6],[0,1,2,3,4,5,6,7],[0,1,2,3,4,5,6],[0,1,2,3,4,5,6,9],[0,1,2,3,4,5,6,7,8,9,10],[0,1,2,3,4,5,6,7,8,9,10,11],[0,1,2,3,4,5,6],[0,1,2,3,4,5,6,7,8,9,10,11,12,13],[0,1,2,3,4,5,6,7,8,9,10,11,12,13,14],[0,1,2,3,4,5,6,7,8,9,10,11,12,13,14,15],[0,1,2,3,4,5,6,7,8,9,10,11,12,13,14,15,16]])] [] [] [] [(58,⟨36028794871480768,[],[],[(31,.k (.d (.int .i64)))],[((.exit 0),[]),(.ret,[(6,.k (.d (.bool)))])],bnd tb (.slot 30) 1⟩)] [] [] []
def b8m:Row I:=⟨64,[.d (.dat 71),.d (.sl 33),.d (.sl 33)],[.k (.d (.bool))],a7D⟩
theorem b95:RK (b8m) :=
 okR [eR b1m,eR a5O,eR a1v,eR a5c,eR b7v] 59 c0A [.tmp 6] Go.Proofs.Tryz.func64 (by kernel_rfl)
def c24:Hints I:=mkH [] [] [] [] [(58,⟨1073739840,[],[],[(5,.k (.row 5 false)),(11,.k (.d (.int .i64)))],[((.exit 0),[(5,.k (.row 5 false))])],bnd tb (.slot 10) 1⟩)] [] [] []
def c0D:Row I:=⟨122,[.d (.int .i64),.d (.int .i64)],[.k (.row 5 false)],a2z⟩
theorem b3w:RK (c0D) :=
 okR [] 31 c24 [.tmp 4] Go.Proofs.Tryz.func122 (by kernel_rfl)
def b7G:Row I:=⟨165,[.d (.int .i64),.d (.int .i64),.d (.int .u8)],[.k (.d (.int .u8)),.k (.d (.bool))],b3K⟩
theorem b8S:RK (b7G) :=
 okR [] 33 Y2 [.tmp 6,.tmp 7] Go.Proofs.Tryz.func165 (by kernel_rfl)
def c5m:Hints I:=mkH [] [] [] [] [(58,⟨8796092957136,[],[],[(1,.k (.row 5 false)),(5,.k (.row 5 false)),(6,.k (.d (.int .i64)))],[((.exit 0),[(1,.k (.row 5 false)),(5,.k (.row 5 false))]),(.ret,[(4,.k (.row 5 false))])],bnd tb (.slot 6) 2⟩)] [] [] []
def c2G:Row I:=⟨123,[.d (.int .i64),.row 5 false],[.k (.row 5 false)],a9p⟩
theorem c35:RK (c2G) :=
 okR [eR b3w,eR b8S] 48 c5m [.tmp 4] Go.Proofs.Tryz.func123 (by kernel_rfl)
def c0G (n:Nat):Hints I:=mkH [] [] [] [(253,⟨103079215360,[],[],[(.normal,[(8,.k (.row 5 false))])]⟩)] [(122,⟨2146959488,[],[],[(5,.k (.map 170 (.bool))),(19,.k (.d (.int .i64)))],[((.exit 0),[(5,.k (.map 170 (.bool)))])],bnd tb (.slot 18) 1⟩),
 (508,⟨17454747091200,[],[],[(5,.k (.map 170 (.bool))),(8,.k (.row 5 false))],[((.exit 2),[(5,.k (.map 170 (.bool))),(8,.k (.row 5 false))])],fun _=>some n⟩)] [] [] []
def b88 (n:Nat):Row I:=⟨66,[.d (.int .i64),.d (.sl 83)],[.k (.d (.dat 83))],a7F n⟩
theorem b9P (n:Nat):RK (b88 n) :=
 okR [eR b3w,eR c35] 48 (c0G n) [.cell 4 83] Go.Proofs.Tryz.func66 (by kernel_rfl)
def c3S:Hints I:=mkH [(1,[[],[],[0,1],[0,1,2],[],[],[4,5],[4,5,6],[0,1,2,3,4,5,6,7],[0,1,2,3,4,5,6,7,8]])] [] [] [] [] [] [] []
def c1T:Row I:=⟨125,[.d (.int .i64),.d (.int .i64),.var 29 (.k (.d (.sl 83))) false],[.k (.d (.int .i64))],a2x⟩
theorem c27:RK (c1T) :=
 okR [eR a1v] 15 c3S [.tmp 5] Go.Proofs.Tryz.func125 (by kernel_rfl)
def a3L (n:Nat):Row I:=⟨126,[.d (.dat 33)],[.k (.d (.dat 33))],a8c n⟩
def c1a (_:Nat):Hints I:=mkH [] [] [] [] [(58,⟨261928,[],[],[(3,.k (.row 33 false)),(8,.k (.d (.int .i64)))],[((.exit 0),[(3,.k (.row 33 false))])],bnd tb (.slot 7) 1⟩)] [] [] []
def a3x (n:Nat):Row I:=⟨167,[.d (.sl 33)],[.k (.row 33 false)],c20 n⟩
def b6G (_:Nat):Hints I:=mkH [(5,[[],[],[1],[1,2],[],[4],[],[6],[1,2,3,6,7],[1,2,3,4,5,6,7,8],[1,2,3,4,5,6,7,8,9],[0,1,2,3,4,5,6,7,8,9,10],[0,1,2,3,4,5,6,7,8,9,10,11]])] [] [] [] [(58,⟨33554216,[],[],[(3,.k (.row 138 false)),(8,.k (.d (.int .i64)))],[((.exit 0),[(3,.k (.row 138 false))])],bnd tb (.slot 7) 1⟩)] [] [] []
def a11 (n:Nat):Row I:=⟨169,[.bor 138],[.k (.row 138 false)],b8A n⟩
theorem c1D (n:Nat)(_:j6 Go.Proofs.Tryz.prog (a3L n))(h_value_cloneAll:j6 Go.Proofs.Tryz.prog (a3x n))(h_value_cloneEntries:j6 Go.Proofs.Tryz.prog (a11 n)):RK (a3L (n+1)) :=
 okR [eR h_value_cloneAll,eR c7p,eR d2w,eR h_value_cloneEntries] 20 Y2 [.cell 2 33] Go.Proofs.Tryz.func126 (by kernel_rfl)
theorem b7V (n:Nat)(h_value_clone:j6 Go.Proofs.Tryz.prog (a3L n))(_:j6 Go.Proofs.Tryz.prog (a3x n))(_:j6 Go.Proofs.Tryz.prog (a11 n)):RK (a3x (n+1)) :=
 okR [eR h_value_clone] 19 (c1a n) [.tmp 2] Go.Proofs.Tryz.func167 (by kernel_rfl)
theorem b4q (n:Nat)(h_value_clone:j6 Go.Proofs.Tryz.prog (a3L n))(h_value_cloneAll:j6 Go.Proofs.Tryz.prog (a3x n))(_:j6 Go.Proofs.Tryz.prog (a11 n)):RK (a11 (n+1)) :=
 okR [eR h_value_cloneAll,eR h_value_clone] 26 (b6G n) [.tmp 2] Go.Proofs.Tryz.func169 (by kernel_rfl)
theorem b0L:∀ n:Nat,j6 Go.Proofs.Tryz.prog (a3L n)/\j6 Go.Proofs.Tryz.prog (a3x n)/\j6 Go.Proofs.Tryz.prog (a11 n)
 | 0=>⟨Y3 (by kernel_rfl),Y3 (by kernel_rfl),Y3 (by kernel_rfl)⟩
 | n+1=>by
   obtain ⟨h0,h1,h2⟩:=b0L n
   exact ⟨c1D n h0 h1 h2,b7V n h0 h1 h2,b4q n h0 h1 h2⟩
theorem c21 (n:Nat):j6 Go.Proofs.Tryz.prog (a3L n):=(b0L n).1
def c6c (_:Nat):Hints I:=mkH [(21,[[],[0],[0,1],[0,1,2],[0,1,2,3],[0,1,2],[0,1,2,5],[0,1,2,3,4,5,6],[0,1,2,3,4,5,6,7],[0,1,2],[0,1,2],[0,1,2,9,10],[0,1,2,9,10,11],[0,1,2,3,4,5,6,7,8,9,10,11,12],[0,1,2,3,4,5,6,7,8,9,10,11,12,13]]),(23,[[],[0],[],[],[2,3],[2,3,4],[2,3,4,5],[0,1,2,3,4,5,6],[0,1,2,3,4,5,6,7],[0,1,2,3,4,5,6,7,8]]),(24,[[],[0],[],[],[2,3],[2,3,4],[2,3,4,5],[2,3,4,5,6],[0,1,2,3,4,5,6,7],[0,1,2,3,4,5,6,7,8],[0,1,2,3,4,5,6,7,8,9]])] [] [] [] [(58,⟨2143289504,[],[(4,.lvs [.d (.int .i64),.d (.int .i64),.d (.str),.row 33 false,.row 83 false,.row 138 false,.row 9 false])],[(22,.k (.d (.int .i64)))],[((.exit 0),[]),(.ret,[(5,.k (.d (.int .i64)))])],bnd tb (.slot 21) 1⟩),
 (250,⟨2190433321728,[],[],[(8,.k (.row 3 false)),(33,.k (.d (.int .i64)))],[((.exit 2),[(8,.k (.row 3 false))])],bnd tb (.slot 32) 1⟩),
 (2042,⟨1237940039285239537410781216,[45],[(4,.lvs [.d (.int .i64),.d (.int .i64),.d (.str),.row 33 false,.row 83 false,.row 138 false,.row 9 false]),(10,.lvs [.d (.int .i64),.d (.int .i64),.d (.str),.row 33 false,.row 83 false,.row 138 false,.row 9 false])],[(47,.k (.d (.int .i64)))],[((.exit 4),[]),(.ret,[(5,.k (.d (.int .i64)))])],bnd tb (.slot 46) 1⟩)] [] [] []
noncomputable def c31 (n:Nat):Row I:=⟨67,[.d (.sl 83),.d (.sl 33)],[.k (.d (.dat 33)),.k (.d (.int .i64))],b0N n⟩
theorem c5N (n:Nat):RK (c31 n) :=
 okR [eR a5O,eO d3q,eR c27,eR (c21 n)] 91 (c6c n) [.cell 4 33,.tmp 5] Go.Proofs.Tryz.func67 (by kernel_rfl)
def c1r (_:Nat):Hints I:=mkH [] [] [] [] [(250,⟨1125899772640256,[],[],[(10,.k (.row 83 false)),(11,.k (.row 33 false)),(27,.k (.d (.int .i64)))],[((.exit 0),[(10,.k (.row 83 false)),(11,.k (.row 33 false))])],bnd tb (.slot 26) 1⟩),
 (1018,⟨2417851567171664311733248,[14],[],[(10,.k (.row 83 false)),(11,.k (.row 33 false)),(14,.k (.row 83 true)),(56,.k (.d (.int .i64)))],[((.exit 2),[(10,.k (.row 83 false)),(11,.k (.row 33 false))])],bnd tb (.slot 55) 1⟩)] [] [] []
noncomputable def b9W (n:Nat):Row I:=⟨29,[.d (.dat 27),.d (.dat 71),.d (.sl 33),.d (.sl 33)],[.k (.d (.dat 33)),.k (.d (.int .i64))],a3U n⟩
theorem c0J (n:Nat):RK (b9W n) :=
 okR [eR b95,eR c7p,eR (b9P n),eR (c5N n)] 86 (c1r n) [.cell 8 33,.tmp 9] Go.Proofs.Tryz.func29 (by kernel_rfl)
def b4S (_:Nat):Hints I:=mkH [(6,[[],[0],[],[2],[],[2,3,4],[2,3,4,5],[0,1,2,3,4,5,6],[0,1,2,3,4,5,6,7]]),(10,[[],[0],[0,1],[0,1,2],[0,1,2,3],[0,1,2],[0,1,2,3,4,5],[0,1,2,3,4,5,6],[0,1,2],[0,1,2],[0,1,2,9],[0,1,2],[0,1,2,9,10,11],[0,1,2,9,10,11,12],[0,1,2,3,4,5,6,7,8,9,10,11,12,13],[0,1,2,3,4,5,6,7,8,9,10,11,12,13,14],[0,1,2,3,4,5,6,7,8,9,10,11,12,13,14,15]]),(15,[[],[0],[],[2],[],[2,3,4],[2,3,4,5],[0,1,2,3,4,5,6],[0,1,2,3,4,5,6,7],[0,1,2,3,4,5,6,7,8],[0,1,2,3,4,5,6,7,8,9],[0,1,2,3,4,5,6,7,8,9,10],[0,1,2,3,4,5,6,7,8,9],[0,1,2,3,4,5,6,7,8,9,10,11,12],[0,1,2,3,4,5,6,7,8,9,10,11,12,13],[0,1,2,3,4,5,6,7,8,9],[0,1,2,3,4,5,6,7,8,9],[0,1,2,3,4,5,6,7,8,9,16],[0,1,2,3,4,5,6,7,8,9],[0,1,2,3,4,5,6,7,8,9,16,17,18],[0,1,2,3,4,5,6,7,8,9,16,17,18,19],[0,1,2,3,4,5,6,7,8,9,16,17,18,19,20],[0,1,2,3,4,5,6,7,8,9],[0,1,2,3,4,5,6,7,8,9,16,17,18,19,20,21,22],[0,1,2,3,4,5,6,7,8,9,16,17,18,19,20,21,22,23],[0,1,2,3,4,5,6,7,8,9,10,11,12,13,14,15,16,17,18,19,20,21,22,23,24],[0,1,2,3,4,5,6,7,8,9,10,11,12,13,14,15,16,17,18,19,20,21,22,23,24,25],[0,1,2,3,4,5,6,7,8,9,10,11,12,13,14,15,16,17,18,19,20,21,22,23,24,25,26]]),(24,[[],[0],[0,1],[0,1,2],[0,1],[0,1,4],[0,1],[0,1,4,5,6],[0,1,4,5,6,7],[0,1,2,3,4,5,6,7,8],[0,1,2,3,4,5,6,7,8,9],[0,1,2,3,4,5,6,7,8,9,10],[0,1,2,3,4,5,6,7,8,9,10,11],[0,1,2,3,4,5,6,7,8,9,10,11,12],[0,1,2,3,4,5,6,7,8,9,10,11],[0,1,2,3,4,5,6,7,8,9,10,11,12,13,14],[0,1,2,3,4,5,6,7,8,9,10,11,12,13,14,15],[0,1,2,3,4,5,6,7,8,9,10,11,12,13,14,15,16],[0,1,2,3,4,5,6,7,8,9,10,11],[0,1,2,3,4,5,6,7,8,9,10,11,18],[0,1,2,3,4,5,6,7,8,9,10,11],[0,1,2,3,4,5,6,7,8,9,10,11,18,19,20],[0,1,2,3,4,5,6,7,8,9,10,11,18,19,20,21],[0,1,2,3,4,5,6,7,8,9,10,11,18,19,20,21,22],[0,1,2,3,4,5,6,7,8,9,10,11,12,13,14,15,16,17,18,19,20,21,22,23],[0,1,2,3,4,5,6,7,8,9,10,11,12,13,14,15,16,17,18,19,20,21,22,23,24],[0,1,2,3,4,5,6,7,8,9,10,11,12,13,14,15,16,17,18,19,20,21,22,23,24,25],[0,1,2,3,4,5,6,7,8,9,10,11,12,13,14,15,16,17,18,19,20,21,22,23,24,25,26],[0,1,2,3,4,5,6,7,8,9,10,11,12,13,14,15,16,17,18,19,20,21,22,23,24,25,26,27],[0,1,2,3,4,5,6,7,8,9,10,11,12,13,14,15,16,17,18,19,20,21,22,23,24,25,26],[0,1,2,3,4,5,6,7,8,9,10,11,12,13,14,15,16,17,18,19,20,21,22,23,24,25,26,27,28,29],[0,1,2,3,4,5,6,7,8,9,10,11,12,13,14,15,16,17,18,19,20,21,22,23,24,25,26,27,28,29,30],[0,1,2,3,4,5,6,7,8,9,10,11,12,13,14,15,16,17,18,19,20,21,22,23,24,25,26],[0,1,2,3,4,5,6,7,8,9,10,11,12,13,14,15,16,17,18,19,20,21,22,23,24,25,26],[0,1,2,3,4,5,6,7,8,9,10,11,12,13,14,15,16,17,18,19,20,21,22,23,24,25,26,33],[0,1,2,3,4,5,6,7,8,9,10,11,12,13,14,15,16,17,18,19,20,21,22,23,24,25,26],[0,1,2,3,4,5,6,7,8,9,10,11,12,13,14,15,16,17,18,19,20,21,22,23,24,25,26,33,34,35],[0,1,2,3,4,5,6,7,8,9,10,11,12,13,14,15,16,17,18,19,20,21,22,23,24,25,26,33,34,35,36],[0,1,2,3,4,5,6,7,8,9,10,11,12,13,14,15,16,17,18,19,20,21,22,23,24,25,26,33,34,35,36,37],[0,1,2,3,4,5,6,7,8,9,10,11,12,13,14,15,16,17,18,19,20,21,22,23,24,25,26,27,28,29,30,31,32,33,34,35,36,37,38],[0,1,2,3,4,5,6,7,8,9,10,11,12,13,14,15,16,17,18,19,20,21,22,23,24,25,26,27,28,29,30,31,32,33,34,35,36,37,38,39],[0,1,2,3,4,5,6,7,8,9,10,11,12,13,14,15,16,17,18,19,20,21,22,23,24,25,26,27,28,29,30,31,32,33,34,35,36,37,38,39,40],[0,1,2,3,4,5,6,7,8,9,10,11,12,13,14,15,16,17,18,19,20,21,22,23,24,25,26,27,28,29,30,31,32,33,34,35,36,37,38,39,40,41]])] [] [] [] [(58,⟨75557863725914323289024,[],[],[(7,.k (.d (.int .i64)))],[((.exit 0),[]),(.ret,[(6,.k (.d (.bool)))])],bnd tb (.len (.ld 29 (.fld 71 0 (.slot 5)))) 1⟩),
 (122,⟨2596148429191855950539333841192000,[],[],[(10,.k (.d (.int .i64)))],[((.exit 2),[]),(.ret,[(6,.k (.d (.bool)))])],bnd tb (.len (.ld 29 (.fld 33 4 (.slot 3)))) 1⟩),
 (250,⟨748288838313422291524138205083323091798589297408064,[],[],[(11,.k (.d (.int .i64)))],[((.exit 4),[]),(.ret,[(6,.k (.d (.bool)))])],bnd tb (.len (.ld 69 (.fld 71 4 (.slot 5)))) 1⟩),
 (64074,⟨187072209578355241223072712358716000564194295427072,[],[],[(12,.k (.d (.bool))),(13,.k (.d (.int .i64)))],[((.exit 6),[(12,.k (.d (.bool)))])],bnd tb (.len (.ld 29 (.fld 33 4 (.slot 3)))) 1⟩)] [] [] []
end Go.Qx
end
section
namespace Go.Qx
open Go Go.RowKit Go.Sx
set_option maxHeartbeats 1600000
set_option maxRecDepth 100000
def b2O (n:Nat):Row I:=⟨25,[.d (.dat 33),.d (.dat 27),.d (.dat 71)],[.k (.d (.bool))],a2C n⟩
theorem b3g (n:Nat):RK (b2O n) :=
 okR [eR a8E,eR (a8A n)] 169 (b4S n) [.tmp 6] Go.Proofs.Tryz.func25 (by kernel_rfl)
def a9J (_:Nat):Hints I:=mkH [(19,[[],[],[],[],[3],[3,4],[2,3,4,5],[0,1,2,3,4,5,6],[],[0,1,2,3,4,5,6,7,8]]),(22,[[],[0],[0,1],[0,1],[0,1],[0,1,4],[0,1],[0,1,4,5,6],[0,1,4,5,6,7],[0,1,2,3,4,5,6,7,8],[0,1,2,3,4,5,6,7,8,9],[0,1,2,3,4,5,6,7,8,9,10]]),(28,[[],[],[],[],[3],[3,4],[2,3,4,5],[0,1,2,3,4,5,6],[],[0,1,2,3,4,5,6,7,8]]),(30,[[],[0],[0,1],[0,1],[0,1],[0,1,4],[0,1],[0,1,4,5,6],[0,1,4,5,6,7],[0,1,4,5,6,7,8],[0,1,2,3,4,5,6,7,8,9],[0,1,2,3,4,5,6,7,8,9,10],[0,1,2,3,4,5,6,7,8,9,10,11],[0,1,2,3,4,5,6,7,8,9,10,11,12],[0,1,2,3,4,5,6,7,8,9,10,11,12],[0,1,2,3,4,5,6,7,8,9,10,11,12],[0,1,2,3,4,5,6,7,8,9,10,11,12,15],[0,1,2,3,4,5,6,7,8,9,10,11,12],[0,1,2,3,4,5,6,7,8,9,10,11,12,15,16,17],[0,1,2,3,4,5,6,7,8,9,10,11,12,15,16,17,18],[0,1,2,3,4,5,6,7,8,9,10,11,12,15,16,17,18,19],[0,1,2,3,4,5,6,7,8,9,10,11,12],[0,1,2,3,4,5,6,7,8,9,10,11,12,15,16,17,18,19,20,21],[0,1,2,3,4,5,6,7,8,9,10,11,12,15,16,17,18,19,20,21,22],[0,1,2,3,4,5,6,7,8,9,10,11,12,13,14,15,16,17,18,19,20,21,22,23],[0,1,2,3,4,5,6,7,8,9,10,11,12,13,14,15,16,17,18,19,20,21,22,23,24],[0,1,2,3,4,5,6,7,8,9,10,11,12,13,14,15,16,17,18,19,20,21,22,23,24,25]]),(39,[[],[],[],[],[3],[2,3,4],[],[0,1,2,3,4,5,6],[0,1,2,3,4,5,6,7],[0,1,2,3,4,5,6,7,8],[0,1,2,3,4,5,6,7,8],[],[0,1,2,3,4,5,6,7,8,9,11],[0,1,2,3,4,5,6,7,8,9,10,11,12]])] [] [] [(1048530,⟨174224571863441265130733534667471785459712,[],[(14,.k (.d (.dat 44)))],[(.normal,[(15,.k (.row 33 false)),(17,.k (.d (.bool))),(18,.k (.row 83 false)),(19,.k (.row 33 false))])]⟩)] [(131066,⟨174224571863519874323228156314927881945088,[],[(14,.k (.d (.dat 44)))],[(15,.k (.row 33 false)),(17,.k (.d (.bool))),(18,.k (.row 83 false)),(19,.k (.row 33 false)),(21,.k (.d (.int .i64)))],[((.exit 0),[(15,.k (.row 33 false)),(17,.k (.d (.bool))),(18,.k (.row 83 false)),(19,.k (.row 33 false))])],bnd tb (.len (.ld 29 (.fld 71 0 (.slot 13)))) 1⟩),
 (262138,⟨6427752177035961101993623797501129916795564176126106077691904,[20],[(14,.k (.d (.dat 44)))],[(16,.k (.row 33 false)),(17,.k (.d (.bool))),(18,.k (.row 83 false)),(19,.k (.row 33 false)),(20,.k (.row 83 true)),(23,.k (.d (.int .i64)))],[((.exit 2),[(16,.k (.row 33 false)),(17,.k (.d (.bool))),(18,.k (.row 83 false)),(19,.k (.row 33 false))])],bnd tb (.len (.ld 69 (.fld 71 4 (.slot 13)))) 1⟩)] [] [] []
noncomputable def a9b (n:Nat):Row I:=⟨7,[.d (.sl 3),.d (.sl 3),.d (.sl 3),.d (.int .i64)],[.k (.d (.bool))],a0V n⟩
theorem a9t (n:Nat):RK (a9b n) :=
 okR [eR b5c,eR (b5R n),eR b6e,eR (b2c n),eR b36,eR Z0,eR (b06 n),eR (a8A n),eR (b3v n),eR (c0J n),eR a5z,eR (a6l n),eR (b3g n)] 254 (a9J n) [.tmp 8] Go.Proofs.Tryz.func7 (by kernel_rfl)
end Go.Qx
end
section
namespace Go.Pl
open Go Go.RowKit Go.Sx Go.Qx Go.Proofs.YtmcfcgaiecgdhaaGreat
def a9U (w:World):S:=⟨w,fun b=>match w.heap[b]? with | some (.cells c _ _)=>(c.size,0) | _=>(0,0)⟩
theorem c7G {w:World}{b o:Nat}{cs:List Value}(hn:cs≠[])(h:w.rangeAt b o cs):a31 (a9U w) b o cs:=by
 refine ⟨?_,h⟩
 have hl:0<cs.length:=List.length_pos_iff.2 hn
 have hj:=h (cs.length-1) _ (List.getElem?_eq_getElem (by omega))
 unfold World.cell? at hj
 simp only at hj
 split at hj
 ·rename_i c e f hb
  have h2:o+(cs.length-1)<c.size:=by
   simp only [Option.isSome_none,Bool.false_eq_true,if_false] at hj
   exact (Array.getElem?_eq_some_iff.1 hj).1
  show o+cs.length<=(match w.heap[b]? with | some (.cells c _ _)=>(c.size,0) | _=>(0,0)).1
  rw [hb]
  show o+cs.length<=c.size
  omega
 ·cases hj
theorem c7x {w:World}{base:Nat}{a:Addr}{n:Nat}{cs:List Value}(h:w.cells? base a n=some cs) :
 cs.length=n/\∀ (i:Nat) (v:Value),cs[i]?=some v->w.cell? (a.add i)=some v:=by
 unfold World.cells? at h
 split at h
 ·have hl:cs.length=n:=by simpa using mapM_some_length h
  refine ⟨hl,fun i v hv=>?_⟩
  have hi:i<n:=by have:=(List.getElem?_eq_some_iff.1 hv).1; omega
  have:=mapM_some_get h i i (by simp [hi])
  rw [this,hv]
 ·cases h
theorem d17 (a:Addr)(x j:Nat):(a.add x).add j=a.add (x+j):=by
 unfold Addr.add
 by_cases hx:x=0
 ·subst hx; simp
 ·by_cases hj:j=0
  ·subst hj; simp [hx]
  ·rw [if_neg hj,if_neg hx,if_neg (by omega),Nat.add_assoc]
theorem c8C {w:World}{a:Addr}{v:Value}(h:w.cell? a=some v):a.spot=none:=by
 unfold World.cell? at h
 split at h
 ·split at h
  ·cases h
  ·rename_i hs; simpa using hs
 ·cases h
section
variable {H:Type}{enc:TypeId×Value->H}{P:Program}{w:World}{base:Nat}{spare:Nat->Bool}{held:Bool}
theorem b6P {α:Type} [Rp α] {fuel:Nat}{t e:TypeId}{cs:List Value}{x:DataW H×List MemPlace}(ht:P.underlying t=some (.slice e))(hc:P.cellsOf e=Rp.sz α)(bk:α->Nat)
 (hrd:∀ (n:Nat) (cs:List Value) (x:DataW H×List MemPlace),n<fuel->DataW.trod enc P w base spare held n e cs=some x->∃ d:α,Rp.cells (a9U w) d cs/\bk d<=Rows.uptoBulk x.1)
 (h:DataW.trod enc P w base spare held fuel t cs=some x) :
 ∃ (ds:List α) (A:Option Addr) (c:Nat),cs=[.slice A ds.length c]/\Sl (a9U w) ds A c/\(ds.map bk).sum+1<=Rows.uptoBulk x.1:=by
 rcases DataW.trod_slice ht h with ⟨rfl,rfl⟩ | ⟨a,len,cap,elems,rest,n,rfl,rfl,rfl,hb,hl,hm,hle,hget,-,-⟩
 ·exact ⟨[],none,0,rfl,Sl.nil_ _ _ _ (Nat.zero_le _),by simp [Rows.uptoBulk]⟩
 have key:∀ (m i:Nat),i+m=len->∃ (ds:List α) (cs:List Value),ds.length=m/\K2 (a9U w) ds cs /\
  (∀ (j:Nat) (v:Value),cs[j]?=some v->w.cell? (a.add (i*Rp.sz α+j))=some v)/\(ds.map bk).sum<=Rows.uptoBulkAll ((elems.drop i).map (·.1)):=by
  intro m
  induction m with
  | zero=>intro i _; exact ⟨[],[],rfl,rfl,fun j v hv=>by simp at hv,by simp⟩
  | succ m ih =>
    intro i hi
    obtain ⟨ds,cs,h1,h2,h3,h4⟩:=ih (i+1) (by omega)
    have hlt:i<elems.length:=by omega
    have hg:=hget i (by omega)
    rw [List.getElem?_eq_getElem hlt,Option.bind_eq_some_iff] at hg
    obtain ⟨cs0,hcs,htr⟩:=hg
    obtain ⟨d,hd,hbk⟩:=hrd n cs0 _ (by omega) htr
    obtain ⟨hcl,hci⟩:=c7x hcs
    rw [hc] at hcl hci
    refine ⟨d::ds,cs0++cs,by simp [h1],⟨cs0,cs,rfl,hd,h2⟩,?_,?_⟩
    ·intro j v hv
     by_cases hj:j<Rp.sz α
     ·rw [List.getElem?_append_left (by omega)] at hv
      rw [<- d17]
      exact hci j v hv
     ·rw [List.getElem?_append_right (by omega)] at hv
      have:=h3 _ v hv
      rw [hcl,Nat.add_mul,Nat.one_mul] at this
      have e:i*Rp.sz α+Rp.sz α+(j-Rp.sz α)=i*Rp.sz α+j:=by omega
      rw [e] at this
      exact this
    ·rw [List.drop_eq_getElem_cons hlt]
     simp only [List.map_cons,List.sum_cons,Rows.uptoBulkAll]
     omega
 obtain ⟨ds,cs,h1,h2,h3,h4⟩:=key len 0 (by omega)
 simp only [Nat.zero_mul,Nat.zero_add,List.drop_zero] at h3 h4
 refine ⟨ds,some a,cap,by rw [h1],⟨by omega,hm,cs,h2,fun hn=>?_⟩,by simp only [Rows.uptoBulk]; omega⟩
 have hne:=h2.ne_nil hn
 cases cs with
 | nil=>exact absurd rfl hne
 | cons v0 r =>
   have h0:=h3 0 v0 rfl
   have hs:a.spot=none:=c8C (by simpa [Addr.add] using h0)
   obtain ⟨b,o,sp⟩:=a
   simp only at hs
   subst hs
   refine ⟨b,o,rfl,c7G (by simp) ?_⟩
   intro j v hv
   have:=h3 j v hv
   unfold Addr.add at this
   by_cases hj:j=0
   ·subst hj; simpa using this
   ·rw [if_neg hj] at this
    exact this
end
theorem c9A {α:Type}{l:List α}(h:l.length=2):∃ a b,l=[a,b]:=by
 match l,h with
 | [a,b],_=>exact ⟨a,b,rfl⟩
end Go.Pl
end
section
namespace Go.Pl
open Go Go.RowKit Go.Sx Go.Qx
def b5f (_:Int):Nat:=1
def c07 (l:List Int):Nat:=(l.map b5f).sum+1
end Go.Pl
end
section
namespace Go.Pl
open Go Go.RowKit Go.Sx Go.Qx Go.Proofs.YtmcfcgaiecgdhaaGreat
theorem c3:Go.Proofs.Tryz.prog.cellsOf 3=1:=by kernel_rfl
section
variable {H:Type}{enc:TypeId×Value->H}{w:World}{base:Nat}{spare:Nat->Bool}{held:Bool}
theorem d0Q {n:Nat}{cs:List Value}{x:DataW H×List MemPlace}(h:DataW.trod enc Go.Proofs.Tryz.prog w base spare held n 3 cs=some x):∃ d:Int,(rpK .i64).cells (a9U w) d cs/\b5f d<=Rows.uptoBulk x.1:=by
 obtain ⟨k,e0,rfl,_⟩:=DataW.trod_int Go.Proofs.Tryz.underlying3 h
 exact ⟨k,e0,by simp [b5f,Rows.uptoBulk]⟩
end
end Go.Pl
end

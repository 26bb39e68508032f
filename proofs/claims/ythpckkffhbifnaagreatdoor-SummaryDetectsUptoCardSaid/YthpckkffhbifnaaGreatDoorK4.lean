/- Part 4. -/
import Derived.Test.YthpckkffhbifnaaGreatDoorK2
import Derived.Test.YthpckkffhbifnaaGreatDoorK3
import Derived.ChangeArms
import Derived.KernelRfl
import Derived.OpenShut
import Derived.Shelf.Lays
import Derived.Shelf.Strconv.Itoa3
import Derived.Shelf.Strings.Builder1
import Derived.Test.YthpckkffhbifnaaGreatDoorProg
import Derived.Test.YthpckkffhbifnaaGreatDoorRows
section
namespace Go.Pl
open Go Go.RowKit Go.Sx Go.Qx
structure GN (N i:Nat)(x:Api_TypeNode):Prop where
 ok:a1b N x=true
 ord:isB x=true->∀ k∈x.Kids,(i:Int)<k
 kids:x.Kids.length<=4
 text:x.Text.size<=5
 flds:x.Fields.length<=3
 keys:∀ f∈x.Fields,b4I f.Key_<=8
 rng : -9223372036854775808<=x.Lo/\x.Lo<=9223372036854775807 /\ -9223372036854775808<=x.Hi/\x.Hi<=9223372036854775807
theorem b1N {N M:Nat}(h:N<=M){k:Int}(hk:inR N k=true):inR M k=true:=by
 unfold inR at *
 simp only [Bool.and_eq_true,decide_eq_true_eq] at *
 omega
theorem b9n {α:Type}{p q:α->Bool}{l:List α}(h:∀ x,p x=true->q x=true)(k:l.all p=true):l.all q=true:=List.all_eq_true.2 fun x hx=>h x (List.all_eq_true.1 k x hx)
theorem c1k {N M:Nat}(h:N<=M){x:Api_TypeNode}(hx:a1b N x=true):a1b M x=true:=by
 unfold a1b at *
 simp only [Bool.and_eq_true] at *
 refine ⟨b9n (fun k=>b1N h) hx.1,hx.2.1,hx.2.2.1,hx.2.2.2.1,?_⟩
 have hk:=hx.2.2.2.2
 unfold a39 at *
 split<;>rename_i h3
 ·rwa [if_pos h3] at hk
 rw [if_neg h3] at hk
 split<;>rename_i h4
 ·rwa [if_pos h4] at hk
 rw [if_neg h4] at hk
 split<;>rename_i h6
 ·rwa [if_pos h6] at hk
 rw [if_neg h6] at hk
 split<;>rename_i h19
 ·rwa [if_pos h19] at hk
 rw [if_neg h19] at hk
 split<;>rename_i hs
 ·rwa [if_pos hs] at hk
 rw [if_neg hs] at hk
 split<;>rename_i h10
 ·rwa [if_pos h10] at hk
 rw [if_neg h10] at hk
 split<;>rename_i h12
 ·rwa [if_pos h12] at hk
 rw [if_neg h12] at hk
 split<;>rename_i h14
 ·rwa [if_pos h14] at hk
 rw [if_neg h14] at hk
 split<;>rename_i h16
 ·rwa [if_pos h16] at hk
 rw [if_neg h16] at hk
 split<;>rename_i h18
 ·rwa [if_pos h18] at hk
 rw [if_neg h18] at hk
 split<;>rename_i h13
 ·rw [if_pos h13] at hk
  unfold a8p at *
  simp only [Bool.and_eq_true] at *
  exact ⟨⟨hk.1.1,hk.1.2.1,b9n (fun f=>b1N h) hk.1.2.2⟩,hk.2.1,b1N h hk.2.2.1,b1N h hk.2.2.2⟩
 ·rwa [if_neg h13] at hk
theorem GN.mono {N M i:Nat}{x:Api_TypeNode}(h:GN N i x)(k:N<=M):GN M i x:=⟨c1k k h.ok,h.ord,h.kids,h.text,h.flds,h.keys,h.rng⟩
abbrev b7b (k:Int)(l:List Int):Api_TypeNode:=Api_TypeNode.mk k 0 0 (⟨#[]⟩:ByteArray) l ([]:List Api_Field) (0,0)
abbrev c7o (k:Int)(s:ByteArray):Api_TypeNode:=Api_TypeNode.mk k 0 0 s ([]:List Int) ([]:List Api_Field) (0,0)
theorem a8z {N i:Nat}{k:Int}{l:List Int}(hl:l.all (inR N)=true)(h4:l.length<=4)(hk:a39 N (b7b k l)=true)(ho:k=16\/k=17\/k=18->∀ x∈l,(i:Int)<x):GN N i (b7b k l):=by
 refine ⟨?_,fun hb=>ho ?_,h4,by show (⟨#[]⟩:ByteArray).size<=5; decide,by show (0:Nat)<=3; omega,(fun f hf=>by cases hf),by show (-9223372036854775808:Int)<=0/\(0:Int)<=9223372036854775807/\(-9223372036854775808:Int)<=0/\(0:Int)<=9223372036854775807; decide⟩
 ·unfold a1b
  rw [hk]
  simp [hl,b8K,a3c]
 ·unfold isB at hb
  simp at hb
  omega
theorem b8J {N i:Nat}{k:Int}{s:ByteArray}(hs:s.size<=5)(hk:(k=4)\/(k=6/\a41 s=true)\/(k=19/\a9Z s=true)):GN N i (c7o k s):=by
 refine ⟨?_,fun hb=>?_,by show (0:Nat)<=4; omega,hs,by show (0:Nat)<=3; omega,(fun f hf=>by cases hf),by show (-9223372036854775808:Int)<=0/\(0:Int)<=9223372036854775807/\(-9223372036854775808:Int)<=0/\(0:Int)<=9223372036854775807; decide⟩
 ·have h64:(s.size:Int)<=64:=by omega
  rcases hk with rfl | ⟨rfl,h⟩ | ⟨rfl,h⟩
  ·simp [a1b,a39,a3c,h64]
  ·simp [a1b,a39,a3c,h]
  ·simp [a1b,a39,a3c,h]
 ·intro x hx; cases hx
section
variable {L:List Int}
theorem c58 {γ σ τ:Type}{step:σ->Option (Fl σ τ)}(pack:γ->Int->Semtypebase_Source->σ)(out:γ->Semtypebase_Source->τ)(Inv:Nat->γ->Prop)(J:Nat)
 (hst:∀ (j:Nat) (g:γ) (s:Semtypebase_Source),j<J->Inv j g->OS L s->∃ g' s',step (pack g (j:Int) s)=some (.next (pack g' ((j+1:Nat):Int) s'))/\OS L s'/\Inv (j+1) g')
 (hend:∀ g s,step (pack g (J:Int) s)=some (.done (out g s))) :
 ∀ (n j k:Nat) (g:γ) (s:Semtypebase_Source),j+n=J->n+1<=k->Inv j g->OS L s->∃ g' s',y0 step k (pack g (j:Int) s)=some (out g' s')/\OS L s'/\Inv J g':=by
 intro n
 induction n with
 | zero =>
   intro j k g s hJ hk hI hs
   obtain ⟨k,rfl⟩:∃ m,k=m+1:=⟨k-1,by omega⟩
   have e:j=J:=by omega
   subst e
   exact ⟨g,s,by have:=hend g s; simp [y0,this],hs,hI⟩
 | succ n ih =>
   intro j k g s hJ hk hI hs
   obtain ⟨k,rfl⟩:∃ m,k=m+1:=⟨k-1,by omega⟩
   obtain ⟨g1,s1,e,hs1,hI1⟩:=hst j g s (by omega) hI hs
   obtain ⟨g2,s2,e2,hs2,hI2⟩:=ih (j+1) k g1 s1 (by omega) (by omega) hI1 hs1
   refine ⟨g2,s2,?_,hs2,hI2⟩
   simp only [y0,e,Option.bind_some]
   exact e2
theorem b95 (hL:L.length<=4194304){s:Semtypebase_Source}(h:OS L s)(m i N:Nat)(hm:m<=4)(hi:i<N)(hN:N<=100) :
 ∃ l t,y8 s (m:Int) (i:Int) (N:Int)=some (l,t)/\OS L t/\l.length=m/\∀ k∈l,(i:Int)<=k/\k<(N:Int):=by
 unfold y8
 obtain ⟨g,s',e,hs',h1,h2⟩:=c28 (γ:=List Int) (L:=L) (step:=X1 (i:Int) (N:Int)) (fun g j s=>(j,g,s)) (fun g s=>(g,s)) (fun j g=>g.length=j/\∀ k∈g,(i:Int)<=k/\k<(N:Int)) m
  (fun j n g s hj hn hI hs=>by
    obtain ⟨x,t,e,ht,a,b⟩:=J4 hL hs (n:=w64 ((N:Int)-(i:Int))) (by rw [W5 (by omega) (by omega)]; omega) (by rw [W5 (by omega) (by omega)]; omega)
    rw [W5 (by omega) (by omega)] at b
    have hw:w64 ((i:Int)+x)=(i:Int)+x:=W5 (by omega) (by omega)
    refine ⟨g++[(i:Int)+x],t,?_,ht,?_,?_⟩
    ·unfold X1
     simp only [a08]
     rw [show decide (0<((n+1:Nat):Int))=true from decide_eq_true (by omega),e]
     simp only [cond_true,Option.bind_some,hw]
     rw [a6d (by simp only [List.length_cons,List.length_nil]; have:=hI.1; omega),show w64 (((n+1:Nat):Int)-1)=(n:Int) by rw [W5 (by omega) (by omega)]; omega]
     rfl
    ·simp [hI.1]
    ·intro k hk
     rcases List.mem_append.1 hk with hk | hk
     ·exact hI.2 k hk
     ·rw [List.mem_singleton.1 hk]; omega) (fun g s=>by
    unfold X1
    rfl) m 0 ((m:Int).toNat+2) [] s (by omega) (by omega) ⟨rfl,fun k hk=>by cases hk⟩ h
 rw [e]
 exact ⟨g,s',rfl,hs',by simpa using h1,h2⟩
theorem b6a {N:Nat}{k:Int}(h0:0<=k)(h1:k<(N:Int)):inR N k=true:=by
 unfold inR
 simp [h0,h1]
theorem a8o {N i:Nat}{l:List Int}(h:∀ k∈l,(i:Int)<=k/\k<(N:Int)):l.all (inR N)=true:=List.all_eq_true.2 fun k hk=>by
 have:=h k hk
 exact b6a (by omega) this.2
abbrev c49:Key:=Key.mk 0 ⟨#[97]⟩
abbrev c5S:Key:=Key.mk 0 ⟨#[98]⟩
abbrev c5w:Key:=Key.mk 1 ⟨#[115]⟩
abbrev c7R:Type:=Int×Int×Int×ByteArray×(List Int)×(List Api_Field)×Int×Int
abbrev b7f (F:List Api_Field)(a b:Int):c7R:=(13,0,0,(⟨#[]⟩:ByteArray),[],F,a,b)
theorem b3h (hL:L.length<=4194304){s:Semtypebase_Source}(h:OS L s)(N j:Nat)(hN:1<=N)(hN2:N<=100)(hj:j<3)(K:Key)(hK:[c49,c5S,c5w][j]?=some K)(F:List Api_Field)(hF:F.length<=j)(a b:Int) :
 ∃ O t,J2 (N:Int) ((j:Int),s,b7f F a b)=some (.next (((j+1:Nat):Int),t,b7f (F++O) a b))/\OS L t/\(O=[]\/∃ n o,O=[Api_Field.mk K n o]/\inR N n=true):=by
 obtain ⟨x,t,e,ht,_,_⟩:=J4 hL h (n:=2) (by omega) (by omega)
 unfold J2
 simp only [a08]
 rw [show decide ((j:Int)<3)=true from decide_eq_true (by omega),e]
 simp only [cond_true,Option.bind_some]
 rw [a1h j (by omega)]
 cases hx:x==1
 ·exact ⟨[],t,by simp only [cond_false,Option.bind_some,List.append_nil],ht,.inl rfl⟩
 ·simp only [cond_true]
  rw [K6 hK]
  obtain ⟨n,t2,e2,ht2,n0,n1⟩:=J4 hL ht (n:=(N:Int)) (by omega) (by omega)
  obtain ⟨o,t3,e3,ht3,_,_⟩:=J4 hL ht2 (n:=2) (by omega) (by omega)
  simp only [Option.bind_some,e2,e3]
  rw [a6d (by simp only [List.length_cons,List.length_nil]; omega)]
  exact ⟨[Api_Field.mk K n (o==1)],t3,rfl,ht3,.inr ⟨n,_,rfl,b6a n0 n1⟩⟩
theorem b9Z (hL:L.length<=4194304){s:Semtypebase_Source}(h:OS L s)(N i:Nat)(hN:1<=N)(hN2:N<=100):∃ x t,a0n s (N:Int)=some (x,t)/\OS L t/\GN N i x:=by
 obtain ⟨a,t1,e1,ht1,a0,a1⟩:=J4 hL h (n:=(N:Int)) (by omega) (by omega)
 obtain ⟨b,t2,e2,ht2,b0,b1⟩:=J4 hL ht1 (n:=(N:Int)) (by omega) (by omega)
 obtain ⟨O0,t3,e3,ht3,h0⟩:=b3h hL ht2 N 0 hN hN2 (by omega) c49 rfl [] (by simp) a b
 have l0:O0.length<=1:=by rcases h0 with rfl | ⟨n,o,rfl,_⟩<;>simp
 obtain ⟨O1,t4,e4,ht4,h1⟩:=b3h hL ht3 N 1 hN hN2 (by omega) c5S rfl ([]++O0) (by simpa using l0) a b
 have l1:O1.length<=1:=by rcases h1 with rfl | ⟨n,o,rfl,_⟩<;>simp
 obtain ⟨O2,t5,e5,ht5,h2⟩:=b3h hL ht4 N 2 hN hN2 (by omega) c5w rfl (([]++O0)++O1) (by simp; omega) a b
 have e6:J2 (N:Int) (((2+1:Nat):Int),t5,b7f ((([]++O0)++O1)++O2) a b)=some (.done (t5,b7f ((([]++O0)++O1)++O2) a b)):=rfl
 refine ⟨Api_TypeNode.mk 13 0 0 (⟨#[]⟩:ByteArray) [] (O0++O1++O2) (a,b),t5,?_,ht5,?_⟩
 ·unfold a0n
  rw [e1]
  simp only [Option.bind_some]
  rw [e2]
  simp only [Option.bind_some]
  have ei:y0 (J2 (N:Int)) ((3:Int).toNat+1) (0,t2,(13,0,0,(⟨#[]⟩:ByteArray),[],[],a,b))=some (t5,b7f ((([]++O0)++O1)++O2) a b):=by
   show y0 (J2 (N:Int)) (3+1) (((0:Nat):Int),t2,b7f [] a b)=_
   simp only [y0,e3,e4,e5,e6,Option.bind_some]
  rw [ei]
  rfl
 ·refine ⟨?_,fun hb=>absurd hb (show ¬ (false=true) by simp),by show (0:Nat)<=4; omega,by show (⟨#[]⟩:ByteArray).size<=5; decide,?_,?_,by show (-9223372036854775808:Int)<=0/\(0:Int)<=9223372036854775807/\(-9223372036854775808:Int)<=0/\(0:Int)<=9223372036854775807; decide⟩
  ·have ha:=b6a (N:=N) a0 a1
   have hb:=b6a (N:=N) b0 b1
   have hF:a8p N (O0++O1++O2)=true:=by
    unfold a8p
    rw [Bool.and_eq_true,Bool.and_eq_true]
    refine ⟨?_,?_,?_⟩
    ·rcases h0 with rfl | ⟨n,o,rfl,_⟩<;>rcases h1 with rfl | ⟨n',o',rfl,_⟩<;>rcases h2 with rfl | ⟨n'',o'',rfl,_⟩<;>kernel_rfl
    ·rcases h0 with rfl | ⟨n,o,rfl,_⟩<;>rcases h1 with rfl | ⟨n',o',rfl,_⟩<;>rcases h2 with rfl | ⟨n'',o'',rfl,_⟩<;>kernel_rfl
    ·rcases h0 with rfl | ⟨n,o,rfl,q0⟩<;>rcases h1 with rfl | ⟨n',o',rfl,q1⟩<;>rcases h2 with rfl | ⟨n'',o'',rfl,q2⟩<;>simp_all
   unfold a1b a39
   simp only [hF,ha,hb,b8K]
   simp
  ·show (O0++O1++O2).length<=3
   have l2:O2.length<=1:=by rcases h2 with rfl | ⟨n,o,rfl,_⟩<;>simp
   simp only [List.length_append]
   omega
  ·intro f hf
   have hf:f∈O0++O1++O2:=hf
   have one:∀ {O:List Api_Field} {K:Key},(O=[]\/∃ n o,O=[Api_Field.mk K n o]/\inR N n=true)->f∈O->f.Key_=K:=fun hO hm=>by
    rcases hO with rfl | ⟨n,o,rfl,_⟩
    ·cases hm
    ·rw [List.mem_singleton.1 hm]
   rcases List.mem_append.1 hf with hf | hf
   ·rcases List.mem_append.1 hf with hf | hf
    ·rw [one h0 hf]; decide
    ·rw [one h1 hf]; decide
   ·rw [one h2 hf]; decide
end
end Go.Pl
namespace Go.Pl
open Go Go.RowKit Go.Sx Go.Qx
theorem b6n {N i:Nat}{k:Int}(hk:k=1\/k=2\/k=5\/k=7\/k=8\/k=9\/k=11\/k=15):GN N i (b7b k []) :=
 a8z rfl (by simp) (by rcases hk with rfl | rfl | rfl | rfl | rfl | rfl | rfl | rfl<;>rfl) (fun _ x hx=>by cases hx)
theorem c5c {N i:Nat}{lo hi:Int}(h:lo<=hi)(h2 : -9223372036854775808<=lo/\lo<=9223372036854775807 /\ -9223372036854775808<=hi/\hi<=9223372036854775807):GN N i (Api_TypeNode.mk 3 lo hi (⟨#[]⟩:ByteArray) ([]:List Int) ([]:List Api_Field) (0,0)) :=
 ⟨by simp [a1b,a39,a3c,b8K,h],(fun _ x hx=>by cases hx),(by show (0:Nat)<=4; omega),(by show (⟨#[]⟩:ByteArray).size<=5; decide),(by show (0:Nat)<=3; omega),(fun f hf=>by cases hf),h2⟩
theorem c1X:c0G.all (fun x=>a9Z x&&decide (x.size<=5))=true:=by kernel_rfl
section
variable {L:List Int}
theorem b9t {x:Int}(h:0<=x):∃ m:Nat,x=(m:Int):=⟨x.toNat,by omega⟩
theorem c3K (hL:L.length<=4194304){s:Semtypebase_Source}(h:OS L s)(N i:Nat)(hi:i<N)(hN2:N<=100):∃ x t,a0R s (i:Int) (N:Int)=some (x,t)/\OS L t/\GN N i x:=by
 have hw:w64 ((N:Int)-1)=(N:Int)-1:=W5 (by omega) (by omega)
 have hwi:=a1h i (by omega)
 obtain ⟨b,hb,hlast,hb18⟩:∃ b:Int,(bif ((i:Int)==(wr .i64 ((N:Int)-1))) then (some 14:Option Int) else some 18)=some b/\(14<b->i+1<N)/\(b=14\/b=18):=by
  by_cases e:i+1=N
  ·refine ⟨14,?_,fun h=>by omega,.inl rfl⟩
   have:((i:Int)==(N:Int)-1)=true:=by simp; omega
   simp only [a08,hw,this,cond_true]
  ·refine ⟨18,?_,fun _=>by omega,.inr rfl⟩
   have:((i:Int)==(N:Int)-1)=false:=by simp; omega
   simp only [a08,hw,this,cond_false]
 unfold a0R
 rw [hb]
 simp only [Option.bind_some]
 obtain ⟨c,t,e,ht,c0,c1⟩:=J4 hL h (n:=b) (by omega) (by omega)
 rw [e]
 simp only [Option.bind_some]
 have ix:∀ {s:Semtypebase_Source},OS L s->∀ (m f:Nat),m<=4->f<N->∃ l t,y8 s (m:Int) (f:Int) (N:Int)=some (l,t)/\OS L t/\l.length=m/\∀ k∈l,(f:Int)<=k/\k<(N:Int):=fun hs m f hm hf=>b95 hL hs m f N hm hf hN2
 have hc:c=0\/c=1\/c=2\/c=3\/c=4\/c=5\/c=6\/c=7\/c=8\/c=9\/c=10\/c=11\/c=12\/c=13\/c=14\/c=15\/c=16\/c=17:=by omega
 have tup:∀ {s:Semtypebase_Source},OS L s->∃ x t,(Option.bind (z8 s 3) fun r19=>Option.bind (y8 r19.2 r19.1 0 (N:Int)) fun r20=>some (b7b 10 r20.1,r20.2))=some (x,t)/\OS L t/\GN N i x:=fun hs=>by
  obtain ⟨m,t2,e2,ht2,m0,m1⟩:=J4 hL hs (n:=3) (by omega) (by omega)
  obtain ⟨m,rfl⟩:=b9t m0
  obtain ⟨l,t3,e3,ht3,hl,hr⟩:=ix ht2 m 0 (by omega) (by omega)
  rw [e2]
  simp only [Option.bind_some]
  have e3':y8 t2 (m:Int) 0 (N:Int)=some (l,t3):=e3
  rw [e3']
  refine ⟨_,t3,rfl,ht3,a8z (l:=l) (a8o hr) (show l.length<=4 by omega) ?_ (fun h=>by omega)⟩
  show decide ((l.length:Int)<=4)=true
  exact decide_eq_true (by omega)
 have fun_:∀ {s:Semtypebase_Source},OS L s->∃ x t,(Option.bind (z8 s 3) fun r24=>Option.bind (y8 r24.2 (w64 (1+r24.1)) 0 (N:Int)) fun r25=>some (b7b 14 r25.1,r25.2))=some (x,t)/\OS L t/\GN N i x:=fun hs=>by
  obtain ⟨m,t2,e2,ht2,m0,m1⟩:=J4 hL hs (n:=3) (by omega) (by omega)
  obtain ⟨m,rfl⟩:=b9t m0
  obtain ⟨l,t3,e3,ht3,hl,hr⟩:=ix ht2 (m+1) 0 (by omega) (by omega)
  rw [e2]
  simp only [Option.bind_some]
  have e3':y8 t2 (w64 (1+(m:Int))) 0 (N:Int)=some (l,t3):=by
   rw [W5 (by omega) (by omega),show 1+(m:Int)=((m+1:Nat):Int) by omega]
   exact e3
  rw [e3']
  refine ⟨_,t3,rfl,ht3,a8z (l:=l) (a8o hr) (show l.length<=4 by omega) ?_ (fun h=>by omega)⟩
  show (decide (1<=(l.length:Int))&&decide ((l.length:Int)<=5))=true
  rw [Bool.and_eq_true]
  exact ⟨decide_eq_true (by omega),decide_eq_true (by omega)⟩
 have uni:i+1<N->∀ {s:Semtypebase_Source},OS L s->∃ x t,(Option.bind (z8 s 2) fun r28=>Option.bind (y8 r28.2 (w64 (2+r28.1)) (w64 ((i:Int)+1)) (N:Int)) fun r29=>some (b7b 16 r29.1,r29.2))=some (x,t)/\OS L t/\GN N i x:=fun hlt s hs=>by
  obtain ⟨m,t2,e2,ht2,m0,m1⟩:=J4 hL hs (n:=2) (by omega) (by omega)
  obtain ⟨m,rfl⟩:=b9t m0
  obtain ⟨l,t3,e3,ht3,hl,hr⟩:=ix ht2 (m+2) (i+1) (by omega) hlt
  rw [e2]
  simp only [Option.bind_some]
  have e3':y8 t2 (w64 (2+(m:Int))) (w64 ((i:Int)+1)) (N:Int)=some (l,t3):=by
   rw [W5 (x:=2+(m:Int)) (by omega) (by omega),hwi,show 2+(m:Int)=((m+2:Nat):Int) by omega]
   exact e3
  rw [e3']
  refine ⟨_,t3,rfl,ht3,a8z (l:=l) (a8o hr) (show l.length<=4 by omega) ?_ (fun _ x hx=>by have:=hr x hx; omega)⟩
  show decide (1<=(l.length:Int))=true
  exact decide_eq_true (by omega)
 rcases hc with rfl | rfl | rfl | rfl | rfl | rfl | rfl | rfl | rfl | rfl | rfl | rfl | rfl | rfl | rfl | rfl | rfl | rfl<;>simp only [Int.reduceBEq,cond_true,cond_false,Option.bind_some,a08]
 ·obtain ⟨a,t2,e2,ht2,a0,a1⟩:=J4 hL ht (n:=5) (by omega) (by omega)
  obtain ⟨d,t3,e3,ht3,d0,d1⟩:=J4 hL ht2 (n:=w64 (5-a)) (by rw [W5 (by omega) (by omega)]; omega) (by rw [W5 (by omega) (by omega)]; omega)
  rw [W5 (x:=5-a) (by omega) (by omega)] at d1
  rw [e2]
  simp only [Option.bind_some]
  rw [e3]
  simp only [Option.bind_some]
  rw [W5 (x:=a+d) (by omega) (by omega)]
  have ha:a=0\/a=1\/a=2\/a=3\/a=4:=by omega
  have hd:d=0\/d=1\/d=2\/d=3\/d=4:=by omega
  rcases ha with rfl | rfl | rfl | rfl | rfl<;>rcases hd with rfl | rfl | rfl | rfl | rfl<;>first | (exfalso; omega) | exact ⟨_,t3,rfl,ht3,c5c (by decide) (by decide)⟩
 ·obtain ⟨x,t2,e2,ht2,hx⟩:=b90 hL ht
  have hf:=List.all_eq_true.1 c07 x hx
  simp only [Bool.and_eq_true,decide_eq_true_eq] at hf
  rw [e2]
  exact ⟨_,t2,rfl,ht2,b8J hf.2 (.inr (.inl ⟨rfl,hf.1⟩))⟩
 ·exact ⟨_,t,rfl,ht,b6n (by omega)⟩
 ·obtain ⟨x,t2,e2,ht2,hx⟩:=c4L hL ht
  have hf:=List.all_eq_true.1 c1c x hx
  simp only [decide_eq_true_eq] at hf
  rw [e2]
  exact ⟨_,t2,rfl,ht2,b8J hf (.inl rfl)⟩
 ·obtain ⟨a,t2,e2,ht2,a0,a1⟩:=J4 hL ht (n:=4) (by omega) (by omega)
  rw [e2]
  have ha:a=0\/a=1\/a=2\/a=3:=by omega
  rcases ha with rfl | rfl | rfl | rfl<;>exact ⟨_,t2,rfl,ht2,b6n (by omega)⟩
 ·exact ⟨_,t,rfl,ht,b6n (by omega)⟩
 ·obtain ⟨a,t2,e2,ht2,a0,a1⟩:=J4 hL ht (n:=2) (by omega) (by omega)
  rw [e2]
  have ha:a=0\/a=1:=by omega
  rcases ha with rfl | rfl<;>exact ⟨_,t2,rfl,ht2,b6n (by omega)⟩
 ·obtain ⟨x,t2,e2,ht2,hx⟩:=c3I hL ht
  have hf:=List.all_eq_true.1 c1X x hx
  simp only [Bool.and_eq_true,decide_eq_true_eq] at hf
  rw [e2]
  exact ⟨_,t2,rfl,ht2,b8J hf.2 (.inr (.inr ⟨rfl,hf.1⟩))⟩
 ·exact tup ht
 ·exact tup ht
 ·obtain ⟨l,t3,e3,ht3,hl,hr⟩:=ix ht 2 0 (by omega) (by omega)
  have e3':y8 t 2 0 (N:Int)=some (l,t3):=e3
  rw [e3']
  refine ⟨_,t3,rfl,ht3,a8z (l:=l) (a8o hr) (show l.length<=4 by omega) ?_ (fun h=>by omega)⟩
  show ((l.length:Int)==2)=true
  simp [hl]
 ·obtain ⟨x,t2,e2,ht2,hg⟩:=b9Z hL ht N i (by omega) hN2
  rw [e2]
  exact ⟨x,t2,rfl,ht2,hg⟩
 ·exact fun_ ht
 ·exact fun_ ht
 ·have hlt:=hlast (by omega)
  obtain ⟨l,t3,e3,ht3,hl,hr⟩:=ix ht 1 (i+1) (by omega) hlt
  have e3':y8 t 1 (w64 ((i:Int)+1)) (N:Int)=some (l,t3):=by rw [hwi]; exact e3
  rw [e3']
  refine ⟨_,t3,rfl,ht3,a8z (l:=l) (a8o hr) (show l.length<=4 by omega) ?_ (fun _ x hx=>by have:=hr x hx; omega)⟩
  show ((l.length:Int)==1)=true
  simp [hl]
 ·have hlt:=hlast (by omega)
  obtain ⟨l,t3,e3,ht3,hl,hr⟩:=ix ht 2 (i+1) (by omega) hlt
  have e3':y8 t 2 (w64 ((i:Int)+1)) (N:Int)=some (l,t3):=by rw [hwi]; exact e3
  rw [e3']
  refine ⟨_,t3,rfl,ht3,a8z (l:=l) (a8o hr) (show l.length<=4 by omega) ?_ (fun _ x hx=>by have:=hr x hx; omega)⟩
  show decide (1<=(l.length:Int))=true
  exact decide_eq_true (by omega)
 ·exact uni (hlast (by omega)) ht
 ·exact uni (hlast (by omega)) ht
def GNs (N:Nat)(ns:List Api_TypeNode):Prop:=∀ (i:Nat) (x:Api_TypeNode),ns[i]?=some x->GN N i x
theorem GNs.snoc {N:Nat}{ns:List Api_TypeNode}{x:Api_TypeNode}(h:GNs N ns)(hx:GN N ns.length x):GNs N (ns++[x]):=fun i y hy=>by
 by_cases hi:i<ns.length
 ·rw [List.getElem?_append_left hi] at hy
  exact h i y hy
 ·have hlt:=(List.getElem?_eq_some_iff.1 hy).1
  simp only [List.length_append,List.length_cons,List.length_nil] at hlt
  have e:i=ns.length:=by omega
  subst e
  simp at hy
  subst hy
  exact hx
theorem c29 (hL:L.length<=4194304){s:Semtypebase_Source}(h:OS L s)(N:Nat)(hN:1<=N)(hN2:N<=100):∃ ns t,a0Q s (N:Int)=some (Api_Type.mk ns 0,t)/\OS L t/\ns.length=N/\GNs N ns:=by
 unfold a0Q
 have hmax:max (N:Int) 1=(N:Int):=by omega
 rw [hmax,Int.toNat_natCast]
 obtain ⟨g,s',e,hs',h1,h2⟩:=c58 (γ:=List Api_TypeNode) (L:=L) (step:=V7 (N:Int)) (fun g j s=>(j,s,(g,0))) (fun g s=>(s,(g,0))) (fun j g=>g.length=j/\GNs N g) N
  (fun j g s hj hI hs=>by
    obtain ⟨x,t,e,ht,hx⟩:=c3K hL hs N j hj hN2
    refine ⟨g++[x],t,?_,ht,by simp [hI.1],hI.2.snoc (by rw [hI.1]; exact hx)⟩
    unfold V7
    simp only [a08,hmax]
    rw [a3H hj,e]
    simp only [cond_true,Option.bind_some]
    rw [a6d (by simp only [List.length_cons,List.length_nil]; have:=hI.1; omega),a1h j (by omega)]
    rfl) (fun g s=>by
    unfold V7
    simp [hmax]) N 0 (N+1) [] s (by omega) (Nat.le_refl _) ⟨rfl,fun i x hx=>by simp at hx⟩ h
 have e':y0 (V7 (N:Int)) (N+1) (0,s,([],0))=some (s',(g,0)):=e
 rw [e']
 exact ⟨g,s',rfl,hs',h1,h2⟩
end
end Go.Pl
end
section
namespace Go.Pl
open Go Go.RowKit Go.Sx Go.Qx
end Go.Pl
end
section
namespace Go.Qx
open Go Go.RowKit Go.Sx
def zig (k:Int):Nat:=if 0<=k then (2*k).toNat else (-2*k-1).toNat
def b1O:Nat->Nat->List Int
 | 0,z=>[(z:Int)]
 | f+1,z=>if z<128 then [(z:Int)] else ((z%128+128:Nat):Int)::b1O f (z / 128)
theorem wrU (n:Int):wr .u64 n=n%18446744073709551616:=rfl
theorem b9A (n:Int):wr .u8 n=n%256:=rfl
theorem c50 {k:Int}(h : -9223372036854775808<=k/\k<=9223372036854775807):zig k<18446744073709551616:=by
 unfold zig; split<;>omega
theorem c6f {k:Int}(h : -9223372036854775808<=k/\k<=9223372036854775807):∃ a c,b3w .u64 (wr .u64 k) 1=some a/\a2I .i64 k 63=some c/\a7z .u64 a (wr .u64 c)=(zig k:Int):=by
 refine ⟨wr .u64 (wr .u64 k*2),if 0<=k then 0 else -1,?_,?_,?_⟩
 ·unfold b3w
  rw [if_neg (by omega)]
  rfl
 ·unfold a2I
  rw [if_neg (by omega)]
  have e:(2:Int)^(min (63:Int).toNat (IntKind.bits .i64))=9223372036854775808:=by decide
  rw [e]
  congr 1
  rw [Int.fdiv_eq_ediv_of_nonneg _ (by decide)]
  split<;>omega
 ·unfold zig
  split
  ·rename_i hk
   have e:wr .u64 (wr .u64 k*2)=((2*k).toNat:Int):=by rw [wrU,wrU]; omega
   rw [e]
   show IntKind.wrap .u64 (((BitVec.ofInt 64 ((2*k).toNat:Int)) ^^^ BitVec.ofInt 64 (wr .u64 0)).toNat:Int)=_
   have e2:BitVec.ofInt 64 (wr .u64 0)=0#64:=by decide
   rw [e2,BitVec.xor_zero,BitVec.toNat_ofInt]
   show ((_:Nat):Int)%18446744073709551616=_
   omega
  ·rename_i hk
   have e:wr .u64 (wr .u64 k*2)=((2*k+18446744073709551616).toNat:Int):=by rw [wrU,wrU]; omega
   rw [e]
   show IntKind.wrap .u64 (((BitVec.ofInt 64 ((2*k+18446744073709551616).toNat:Int)) ^^^ BitVec.ofInt 64 (wr .u64 (-1))).toNat:Int)=_
   have e2:BitVec.ofInt 64 (wr .u64 (-1))=BitVec.allOnes 64:=by decide
   rw [e2,BitVec.xor_allOnes,BitVec.toNat_not,BitVec.toNat_ofInt]
   show ((_:Nat):Int)%18446744073709551616=_
   omega
theorem c6Y (z:Nat):bOr .u8 (wr .u8 (z:Int)) 128=((z%128+128:Nat):Int):=by
 have h:∀ x,x<256->x ||| 128=x%128+128:=by decide +kernel
 show IntKind.wrap .u8 (((BitVec.ofInt 8 (wr .u8 (z:Int))) ||| BitVec.ofInt 8 128).toNat:Int)=_
 have e:BitVec.ofInt 8 (wr .u8 (z:Int))=BitVec.ofNat 8 (z%256):=by
  apply BitVec.eq_of_toNat_eq
  rw [b9A,BitVec.toNat_ofInt,BitVec.toNat_ofNat]
  omega
 have e2:BitVec.ofInt 8 128=BitVec.ofNat 8 128:=by decide
 rw [e,e2,BitVec.toNat_or,BitVec.toNat_ofNat,BitVec.toNat_ofNat]
 rw [show z%256%2^8=z%256 from by omega,show 128%2^8=128 from rfl,h _ (Nat.mod_lt _ (by omega))]
 show ((_:Nat):Int)%256=_
 omega
theorem c7I (z:Nat):a2I .u64 (z:Int) 7=some ((z / 128:Nat):Int):=by
 unfold a2I
 rw [if_neg (by omega)]
 have e:(2:Int)^(min (7:Int).toNat (IntKind.bits .u64))=128:=by decide
 rw [e,Int.fdiv_eq_ediv_of_nonneg _ (by decide)]
 congr 1
end Go.Qx
end
section
namespace Go.Qx
open Go Go.RowKit Go.Sx
theorem c4G (c:BitVec 32):(cst c).getLsbD 31=c.getLsbD 0:=by
 unfold cst
 rw [BitVec.getLsbD_xor,BitVec.getLsbD_ushiftRight,BitVec.getLsbD_of_ge c (1+31) (by omega)]
 cases c.getLsbD 0
 ·simp
 ·have:(0x82f63b78#32).getLsbD 31=true:=by decide
  simp [this]
theorem c3c {c:BitVec 32}(h:cst c=0#32):c=0#32:=by
 have h0:c.getLsbD 0=false:=by rw [<- c4G,h]; simp
 rw [b5N h0] at h
 apply BitVec.eq_of_getLsbD_eq
 intro i hi
 rcases i with _ | i
 ·rw [h0]; simp
 ·have:=congrArg (fun x=>x.getLsbD i) h
  simp only [BitVec.getLsbD_ushiftRight] at this
  rw [Nat.add_comm] at this
  rw [this]
  simp
theorem b7N:∀ (n:Nat) {c:BitVec 32},a21 n c=0#32->c=0#32
 | 0,_,h=>h
 | n+1,_,h=>c3c (b7N n h)
theorem b96 {a b:BitVec 32}(h:a ^^^ b=0#32):a=b:=BitVec.xor_eq_zero_iff.1 h
theorem b8R {n:Nat}{a b:BitVec 32}(h:a21 n a=a21 n b):a=b:=by
 refine b96 (b7N n ?_)
 rw [b5S,h,BitVec.xor_self]
theorem b9l {r a b:BitVec 32}(h:r ^^^ a=r ^^^ b):a=b:=by
 have:r ^^^ (r ^^^ a)=r ^^^ (r ^^^ b):=by rw [h]
 rw [<- BitVec.xor_assoc,<- BitVec.xor_assoc,BitVec.xor_self] at this
 simpa using this
theorem c4O {a b:UInt8}(h:b32 a=b32 b):a=b:=by
 unfold b32 at h
 have h:=congrArg BitVec.toNat h
 rw [BitVec.toNat_ofNat,BitVec.toNat_ofNat] at h
 have ha:=a.toNat_lt
 have hb:=b.toNat_lt
 exact UInt8.toNat_inj.1 (by omega)
theorem c2G {r r':BitVec 32}{b:UInt8}(h:a7D r b=a7D r' b):r=r':=by
 have h:=b8R h
 rw [BitVec.xor_comm r,BitVec.xor_comm r'] at h
 exact b9l h
theorem c05 {r:BitVec 32}{b b':UInt8}(h:a7D r b=a7D r b'):b=b':=c4O (b9l (b8R h))
theorem b7L:∀ {l:List UInt8} {r r':BitVec 32},a2Z l r=a2Z l r'->r=r'
 | [],_,_,h=>h
 | _::l,_,_,h=>c2G (b7L (l:=l) h)
theorem b5V:∀ (l m:List UInt8) (r:BitVec 32),a2Z (l++m) r=a2Z m (a2Z l r)
 | [],_,_=>rfl
 | b::l,m,r=>b5V l m (a7D r b)
theorem c3l {l:List UInt8}{k:Nat}{b c:UInt8}{r:BitVec 32}(hb:l[k]?=some b)(h:a2Z (l.set k c) r=a2Z l r):c=b:=by
 obtain ⟨hk,hv⟩:=List.getElem?_eq_some_iff.1 hb
 have e1:l=l.take k++b::l.drop (k+1):=by
  have:=List.take_append_drop k l
  rw [List.drop_eq_getElem_cons hk,hv] at this
  exact this.symm
 have e2:l.set k c=l.take k++c::l.drop (k+1):=by rw [List.set_eq_take_append_cons_drop,if_pos hk]
 rw [e2,b5V] at h
 conv at h=>rhs; rw [e1]
 rw [b5V] at h
 exact c05 (b7L (l:=l.drop (k+1)) h)
def a8M (v:BitVec 32):List Int:=[wr .u8 (nB v),wr .u8 (nB (v >>> 8)),wr .u8 (nB (v >>> 16)),wr .u8 (nB (v >>> 24))]
def a3s (s:ByteArray):BitVec 32:=~~~ (a2Z s.data.toList (BitVec.allOnes 32))
theorem wr8 (n:Int):wr .u8 n=n%256:=by
 show IntKind.wrap .u8 n=_
 rfl
theorem c0q {n:Int}(h0:0<=n)(h1:n<256):((UInt8.ofNat n.toNat).toNat:Int)=n:=by
 rw [UInt8.toNat_ofNat']
 omega
theorem c3b {v u:BitVec 32}(h:a19 (a8M v)=a19 (a8M u)):v=u:=by
 have key:∀ (j:Nat),j<=24->nB (v >>> j)%256=nB (u >>> j)%256->(v.toNat / 2^j)%256=(u.toNat / 2^j)%256:=fun j _ e=>by
  unfold nB at e
  rw [BitVec.toNat_ushiftRight,BitVec.toNat_ushiftRight,Nat.shiftRight_eq_div_pow,Nat.shiftRight_eq_div_pow] at e
  omega
 have hl:=congrArg (fun s=>s.data.toList.map fun b=>(b.toNat:Int)) h
 have hs:∀ w:BitVec 32,(a19 (a8M w)).data.toList.map (fun b=>(b.toNat:Int))=a8M w:=fun w=>by
  have hb:∀ n:Int,((UInt8.ofNat (wr .u8 n).toNat).toNat:Int)=wr .u8 n:=fun n=>c0q (by rw [wr8]; omega) (by rw [wr8]; omega)
  show List.map _ (List.toArray (List.map _ (a8M w))).toList=_
  simp only [a8M,List.map_cons,List.map_nil,hb]
 simp only [hs] at hl
 simp only [a8M,List.cons.injEq,wr8,and_true] at hl
 obtain ⟨h0,h1,h2,h3⟩:=hl
 have k0:=key 0 (by omega) (by simpa using h0)
 have k1:=key 8 (by omega) h1
 have k2:=key 16 (by omega) h2
 have k3:=key 24 (by omega) h3
 apply BitVec.eq_of_toNat_eq
 have:=v.isLt
 have:=u.isLt
 simp only [Nat.pow_zero,Nat.div_one] at k0
 rw [show (2:Nat)^8=256 from rfl] at k1
 rw [show (2:Nat)^16=65536 from rfl] at k2
 rw [show (2:Nat)^24=16777216 from rfl] at k3
 omega
def Q1 (s:ByteArray):ByteArray:=s++a19 (a8M (a3s s))
theorem b3n (s t:ByteArray):(s++t).data.toList=s.data.toList++t.data.toList:=by
 rw [ByteArray.data_append,Array.toList_append]
theorem c0n (s:ByteArray)(a b:Nat):(s.extract a b).data.toList=(s.data.toList.take b).drop a:=by
 rw [ByteArray.data_extract,Array.toList_extract,List.extract_eq_drop_take']
theorem b93 {s:ByteArray}{k:Nat}(hk:k<s.size)(c:Int):((s.extract 0 k++a19 ([c]:List Int))++s.extract (k+1) s.size).data.toList=s.data.toList.set k (UInt8.ofNat c.toNat):=by
 have hl:s.data.toList.length=s.size:=Array.length_toList
 rw [b3n,b3n,c0n,c0n,<- hl,List.take_length,List.drop_zero,List.set_eq_take_append_cons_drop,if_pos (by omega),List.append_assoc]
 rfl
theorem c3g {s u:ByteArray}{k:Nat}{c b:UInt8}(hb:(Q1 s).data.toList[k]?=some b)(hc:c≠b)(hl:u.data.toList.length=s.data.toList.length):(Q1 u).data.toList≠(Q1 s).data.toList.set k c:=by
 intro h
 unfold Q1 at h hb
 rw [b3n,b3n] at h
 rw [b3n] at hb
 by_cases hk:k<s.data.toList.length
 ·rw [List.set_append_left _ _ hk] at h
  obtain ⟨e1,e2⟩:=List.append_inj h (by rw [List.length_set,hl])
  rw [List.getElem?_append_left hk] at hb
  have e3:a3s u=a3s s:=c3b (by apply ByteArray.ext; exact Array.toList_inj.1 e2)
  unfold a3s at e3
  have e4:a2Z u.data.toList (BitVec.allOnes 32)=a2Z s.data.toList (BitVec.allOnes 32):=by
   have:=congrArg (fun x=>~~~ x) e3
   simpa using this
  rw [e1] at e4
  exact hc (c3l hb e4)
 ·rw [List.set_append_right _ _ (Nat.le_of_not_lt hk)] at h
  obtain ⟨e1,e2⟩:=List.append_inj h hl
  have e3:u=s:=by apply ByteArray.ext; exact Array.toList_inj.1 e1
  subst e3
  rw [List.getElem?_append_right (Nat.le_of_not_lt hk)] at hb
  have e4:((a19 (a8M (a3s u))).data.toList.set (k-u.data.toList.length) c)[k-u.data.toList.length]?=some c:=by
   rw [List.getElem?_set_self (List.getElem?_eq_some_iff.1 hb).1]
  rw [<- e2,hb] at e4
  exact hc (Option.some.inj e4).symm
end Go.Qx
end
section
namespace Go.Pl
open Go Go.RowKit Go.Sx Go.Qx
theorem c5O {s:ByteArray}(hs:s.size<=1000000):b3J s=some (nB (a3s s)):=by
 unfold b3J
 rw [Nat.ble_eq_true_of_le hs]
 rfl
theorem b7F (v:BitVec 32):(a19 (a8M v)).size=4:=rfl
theorem c0u {s:ByteArray}(hs:s.size<=1000000):a3u s=some (Q1 s):=by
 have h8:a2I .u32 (nB (a3s s)) 8=some (nB (a3s s >>> 8)):=b4z _ 8 (by omega)
 have h16:a2I .u32 (nB (a3s s)) 16=some (nB (a3s s >>> 16)):=b4z _ 16 (by omega)
 have h24:a2I .u32 (nB (a3s s)) 24=some (nB (a3s s >>> 24)):=b4z _ 24 (by omega)
 have ha:a2S s (a19 (a8M (a3s s)))=some (Q1 s):=by
  unfold a2S
  rw [b7F,if_pos (by omega)]
  rfl
 unfold a3u
 rw [c5O hs]
 simp only [Option.bind_some,h8,h16,h24]
 rw [show a2S s (a19 ([wr .u8 (nB (a3s s)),wr .u8 (nB (a3s s >>> 8)),wr .u8 (nB (a3s s >>> 16)),wr .u8 (nB (a3s s >>> 24))]:List Int))=some (Q1 s) from ha]
 rfl
theorem c10 {s:ByteArray}{k:Nat}(hk:k<=s.size):a1z s 0 (k:Int)=some (s.extract 0 k):=by
 unfold a1z
 rw [if_pos ⟨by omega,by omega,by omega⟩]
 rfl
theorem c5B {s:ByteArray}{k:Nat}(hk:k<=s.size):a1z s (k:Int) (s.size:Int)=some (s.extract k s.size):=by
 unfold a1z
 rw [if_pos ⟨by omega,by omega,by omega⟩]
 rfl
theorem b9Q {s:ByteArray}{k:Nat}(hk:k<=s.size):(s.extract 0 k).size=k:=by
 rw [ByteArray.size_extract]
 omega
theorem c6o {s:ByteArray}(h:s.size<=1000000):wr .i64 ((s.size:Int)-4)=(s.size:Int)-4:=by
 rw [a08,W5 (by omega) (by omega)]
theorem b5c (s:ByteArray):(Q1 s).size=s.size+4:=by
 unfold Q1
 rw [ByteArray.size_append,b7F]
theorem b8I {s t:ByteArray}{k:Nat}{c b:UInt8}(hs:s.size<=900000)(hb:(Q1 s).data.toList[k]?=some b)(hc:c≠b)(ht:t.data.toList=(Q1 s).data.toList.set k c):∃ x e,a3k t=some (x,e)/\(e==0)=false:=by
 have hz:=b5c s
 have hts:t.size=s.size+4:=by
  have h1:t.data.toList.length=t.size:=Array.length_toList
  have h2:(Q1 s).data.toList.length=(Q1 s).size:=Array.length_toList
  rw [ht,List.length_set] at h1
  omega
 unfold a3k
 rw [c6o (by omega)]
 rw [show decide ((t.size:Int)<4)=false from decide_eq_false (by omega)]
 have e:(t.size:Int)-4=((t.size-4:Nat):Int):=by omega
 rw [e,c10 (by omega)]
 have hu:=b9Q (s:=t) (k:=t.size-4) (by omega)
 have hne:j8 (Q1 (t.extract 0 (t.size-4))) t=false:=by
  cases hh:j8 (Q1 (t.extract 0 (t.size-4))) t with
  | false=>rfl
  | true =>
    have e2:Q1 (t.extract 0 (t.size-4))=t:=by
     rw [j8,ByteArray.toList_eq,ByteArray.toList_eq] at hh
     exact ByteArray.ext (Array.toList_inj.1 (eq_of_beq hh))
    have e3:=congrArg (fun x=>x.data.toList) e2
    simp only [ht] at e3
    have h1:(t.extract 0 (t.size-4)).data.toList.length=(t.extract 0 (t.size-4)).size:=Array.length_toList
    have h2:s.data.toList.length=s.size:=Array.length_toList
    exact absurd e3 (c3g hb hc (by omega))
 simp only [cond_false,Option.bind_some,c0u (s:=t.extract 0 (t.size-4)) (by omega),hne,Bool.not_false,cond_true]
 exact ⟨_,_,rfl,rfl⟩
end Go.Pl
end
section
namespace Go.Pl
open Go Go.RowKit Go.Sx Go.Qx
def isI (k:Int):Prop := -9223372036854775808<=k/\k<=9223372036854775807
theorem a3d {k:Int}(h0:0<=k)(h1:k<=1000000):isI k:=⟨by omega,by omega⟩
def a2z (k:Int):List Int:=b1O 9 (zig k)
theorem b9w:∀ (f z:Nat),(b1O f z).length<=f+1
 | 0,z=>by simp [b1O]
 | f+1,z=>by
   unfold b1O
   split
   ·simp
   ·have:=b9w f (z / 128)
    simp only [List.length_cons]
    omega
theorem K2 (k:Int):(a2z k).length<=10:=b9w 9 (zig k)
theorem b4r {a:Nat}(h:a<=100000000):Y4 a 1=some ():=by
 unfold Y4
 rw [if_pos (by omega)]
theorem c0v {z:Nat}(h:z<256):wr .u8 (z:Int)=(z:Int):=by rw [b9A]; omega
theorem b9L:∀ (f m z:Nat) (w:List Int),z<128^(f+1)->w.length+f<=90000000->z+1<=m->∃ z':Int,∃ w':List Int,y0 a0x m ((z:Int),w)=some (z',w')/\w'++[wr .u8 z']=w++b1O f z/\w'.length<=w.length+f
 | 0,m,z,w,hz,_,hm=>by
   obtain ⟨m,rfl⟩:∃ k,m=k+1:=⟨m-1,by omega⟩
   have h1:decide (128<=(z:Int))=false:=decide_eq_false (by omega)
   refine ⟨(z:Int),w,?_,?_,by omega⟩
   ·rw [y0]
    unfold a0x
    simp only [h1,cond_false]
    rfl
   ·unfold b1O
    rw [c0v (by omega)]
 | f+1,m,z,w,hz,hw,hm=>by
   obtain ⟨m,rfl⟩:∃ k,m=k+1:=⟨m-1,by omega⟩
   rw [y0]
   unfold a0x
   by_cases h:z<128
   ·have h1:decide (128<=(z:Int))=false:=decide_eq_false (by omega)
    refine ⟨(z:Int),w,?_,?_,by omega⟩
    ·simp only [h1,cond_false]
     rfl
    ·unfold b1O
     rw [if_pos h,c0v (by omega)]
   ·have h1:decide (128<=(z:Int))=true:=decide_eq_true (by omega)
    have hd:z / 128<128^(f+1):=by
     rw [Nat.pow_succ] at hz
     exact Nat.div_lt_of_lt_mul (by rw [Nat.mul_comm]; exact hz)
    obtain ⟨z',w',k1,k2,k3⟩:=b9L f m (z / 128) (w++[((z%128+128:Nat):Int)]) hd (by rw [List.length_append]; simp only [List.length_cons,List.length_nil]; omega) (by omega)
    refine ⟨z',w',?_,?_,?_⟩
    ·simp only [h1,cond_true,Option.bind_some,c6Y,c7I,b4r (show w.length+([((z%128+128:Nat):Int)]:List Int).length<=100000000 by simp only [List.length_cons,List.length_nil]; omega)]
     exact k1
    ·rw [k2,List.append_assoc]
     congr 1
     conv=>rhs; unfold b1O
     rw [if_neg h]
     rfl
    ·rw [List.length_append] at k3
     simp only [List.length_cons,List.length_nil] at k3
     omega
theorem a4J {k:Int}(hk:isI k){w:List Int}(hw:w.length<=50000000):Y1 w k=some (w++a2z k):=by
 obtain ⟨a,c,h1,h2,h3⟩:=c6f hk
 have hz:=c50 hk
 obtain ⟨z',w',k1,k2,k3⟩:=b9L 9 (zig k+2) (zig k) w (by
  have:(18446744073709551616:Nat)<=128^(9+1):=by decide
  omega) (by omega) (by omega)
 unfold Y1
 rw [h1,Option.bind_some,h2,Option.bind_some,h3,show ((zig k:Int)).toNat+2=zig k+2 from rfl,k1,Option.bind_some]
 simp only [b4r (show w'.length+([wr .u8 z']:List Int).length<=100000000 by simp only [List.length_cons,List.length_nil]; omega),Option.bind_some]
 rw [k2]
 rfl
theorem a12 {k:Int}(hk:isI k){w:List Int}(hw:w.length<=50000000):Y7 w k=some (w++a2z k):=by
 unfold Y7
 rw [a4J hk hw]
 rfl
def b3z (s:ByteArray):List Int:=a2z (s.size:Int)++b80 s
def c1B (b:Bool):List Int:=if b=true then [1] else [0]
theorem b9y (s:ByteArray):(b80 s).length=s.size:=by
 unfold b80
 rw [List.length_map]
 exact Array.length_toList
def OkT (s:ByteArray):Prop:=s.size<=20
theorem a3l {s:ByteArray}(h:OkT s):(b3z s).length<=30:=by
 have:=K2 (s.size:Int)
 unfold b3z
 rw [List.length_append,b9y]
 unfold OkT at h
 omega
theorem b4A {s:ByteArray}(h:OkT s){w:List Int}(hw:w.length<=50000000):W2 w s=some (w++b3z s):=by
 have h1:s.size<=20:=h
 have h2:=K2 (s.size:Int)
 unfold W2
 rw [a4J (a3d (by omega) (by omega)) hw,Option.bind_some,b4r (by rw [List.length_append,b9y]; omega),Option.bind_some]
 unfold b3z
 rw [List.append_assoc]
theorem b9X (b:Bool){w:List Int}(hw:w.length<=50000000):a0E w b=some (w++c1B b):=by
 unfold a0E
 cases b
 ·rw [cond_false,b4r (by simp only [List.length_cons,List.length_nil]; omega)]
  rfl
 ·rw [cond_true,b4r (by simp only [List.length_cons,List.length_nil]; omega)]
  rfl
theorem b9f {α:Type}(enc:α->List Int)(B:Nat):∀ (l:List α),(∀ x∈l,(enc x).length<=B)->(l.flatMap enc).length<=l.length*B
 | [],_=>by simp
 | x::l,h=>by
   have h1:=h x List.mem_cons_self
   have h2:=b9f enc B l fun y hy=>h y (List.mem_cons_of_mem _ hy)
   rw [List.flatMap_cons,List.length_append,List.length_cons,Nat.add_mul]
   omega
theorem c11 {α:Type}{step:Int×List Int->Option (Fl (Int×List Int) (List Int))}(wr1:List Int->α->Option (List Int))(enc:α->List Int)(l:List α)(B M:Nat)
 (hstep:∀ i w,step (i,w)=bif decide (i<(l.length:Int)) then (Option.bind (idx l i) fun e=>Option.bind (wr1 w e) fun r=>some (.next (wr .i64 (i+1),r))) else some (.done w))
 (hw1:∀ x∈l,∀ w:List Int,w.length<=M->wr1 w x=some (w++enc x)) (hB:∀ x∈l,(enc x).length<=B) (hl:l.length<=1000) {w:List Int} (hw:w.length+l.length*B<=M) :
 y0 step ((l.length:Int).toNat+1) (0,w)=some (w++l.flatMap enc):=by
 have key:∀ (m j:Nat) (v:List Int),l.length-j=m->j<=l.length->v.length<=w.length+j*B->y0 step (m+1) ((j:Int),v)=some (v++(l.drop j).flatMap enc):=by
  intro m
  induction m with
  | zero =>
    intro j v hm hj hv
    have e:j=l.length:=by omega
    subst e
    rw [y0,hstep,show decide ((l.length:Int)<(l.length:Int))=false from decide_eq_false (by omega),cond_false,List.drop_length]
    simp
  | succ m ih =>
    intro j v hm hj hv
    have hlt:j<l.length:=by omega
    have hjB:j*B<=l.length*B:=Nat.mul_le_mul_right _ (Nat.le_of_lt hlt)
    have hx:l[j]∈l:=List.getElem_mem hlt
    have hx1:=hB _ hx
    rw [y0,hstep,show decide ((j:Int)<(l.length:Int))=true from decide_eq_true (by omega),cond_true,K6 (List.getElem?_eq_getElem hlt),Option.bind_some,hw1 _ hx v (by omega),Option.bind_some]
    have e:wr .i64 ((j:Int)+1)=((j+1:Nat):Int):=by
     rw [a08,W5 (by omega) (by omega)]
     omega
    show y0 step (m+1) (wr .i64 ((j:Int)+1),v++enc l[j])=_
    rw [e,ih (j+1) (v++enc l[j]) (by omega) (by omega) (by rw [List.length_append,Nat.add_mul]; omega),List.append_assoc,List.drop_eq_getElem_cons hlt,List.flatMap_cons]
 have:=key l.length 0 w (by omega) (by omega) (by omega)
 rw [List.drop_zero] at this
 exact this
def a3j {α:Type}(enc:α->List Int)(l:List α):List Int:=a2z (l.length:Int)++l.flatMap enc
theorem a9d {α:Type}{enc:α->List Int}{l:List α}(B n:Nat)(h:∀ x∈l,(enc x).length<=B)(hl:l.length<=n):(a3j enc l).length<=10+n*B:=by
 have h1:=b9f enc B l h
 have h2:=K2 (l.length:Int)
 have h3:l.length*B<=n*B:=Nat.mul_le_mul_right _ hl
 unfold a3j
 rw [List.length_append]
 omega
theorem b4o {α:Type}{step:Int×List Int->Option (Fl (Int×List Int) (List Int))}(wr1:List Int->α->Option (List Int))(enc:α->List Int)(l:List α)(B M:Nat)
 (hstep:∀ i w,step (i,w)=bif decide (i<(l.length:Int)) then (Option.bind (idx l i) fun e=>Option.bind (wr1 w e) fun r=>some (.next (wr .i64 (i+1),r))) else some (.done w))
 (hw1:∀ x∈l,∀ w:List Int,w.length<=M->wr1 w x=some (w++enc x)) (hB:∀ x∈l,(enc x).length<=B) (hl:l.length<=1000) {w:List Int} (hw0:w.length<=50000000) (hw:w.length+10+l.length*B<=M) :
 (Option.bind (Y1 w (l.length:Int)) fun r1=>Option.bind (y0 step ((l.length:Int).toNat+1) (0,r1)) fun b5=>some b5)=some (w++a3j enc l):=by
 have h2:=K2 (l.length:Int)
 rw [a4J (a3d (by omega) (by omega)) hw0,Option.bind_some,c11 wr1 enc l B M hstep hw1 hB hl (by rw [List.length_append]; omega),Option.bind_some]
 unfold a3j
 rw [List.append_assoc]
def b4b (f:Api_Field):List Int:=a2z f.Key_.Kind++(b3z f.Key_.Text++(a2z f.Node++c1B f.Optional))
def OkF (f:Api_Field):Prop:=isI f.Key_.Kind/\OkT f.Key_.Text/\isI f.Node
theorem b5y (b:Bool):(c1B b).length=1:=by cases b<;>rfl
theorem b8B {f:Api_Field}(h:OkF f):(b4b f).length<=51:=by
 have h1:=K2 f.Key_.Kind
 have h2:=a3l h.2.1
 have h3:=K2 f.Node
 unfold b4b
 simp only [List.length_append,b5y]
 omega
theorem c3t {f:Api_Field}(h:OkF f){w:List Int}(hw:w.length<=40000000):a0G w f=some (w++b4b f):=by
 have h1:=K2 f.Key_.Kind
 have h2:=a3l h.2.1
 have h3:=K2 f.Node
 unfold a0G
 rw [a12 h.1 (by omega),Option.bind_some,b4A h.2.1 (by simp only [List.length_append]; omega),Option.bind_some,a12 h.2.2 (by simp only [List.length_append]; omega),Option.bind_some,
  b9X _ (by simp only [List.length_append]; omega),Option.bind_some]
 unfold b4b
 simp only [List.append_assoc]
def b2E (x:Api_TypeNode):List Int:=a2z x.Kind++(a2z x.Lo++(a2z x.Hi++(b3z x.Text++(a3j a2z x.Kids++(a3j b4b x.Fields++(a2z x.Rest.1++a2z x.Rest.2))))))
structure OkN (x:Api_TypeNode):Prop where
 kind:isI x.Kind
 lo:isI x.Lo
 hi:isI x.Hi
 text:OkT x.Text
 kids:∀ k∈x.Kids,isI k
 kidl:x.Kids.length<=8
 flds:∀ f∈x.Fields,OkF f
 fldl:x.Fields.length<=8
 r1:isI x.Rest.1
 r2:isI x.Rest.2
theorem b7B {x:Api_TypeNode}(h:OkN x):(a3j a2z x.Kids).length<=90/\(a3j b4b x.Fields).length<=418 :=
 ⟨a9d 10 8 (fun k _=>K2 k) h.kidl,a9d 51 8 (fun f hf=>b8B (h.flds f hf)) h.fldl⟩
theorem b5K {x:Api_TypeNode}(h:OkN x):(b2E x).length<=588:=by
 have h1:=K2 x.Kind
 have h2:=K2 x.Lo
 have h3:=K2 x.Hi
 have h4:=a3l h.text
 have h5:=b7B h
 have h6:=K2 x.Rest.1
 have h7:=K2 x.Rest.2
 unfold b2E
 simp only [List.length_append]
 omega
theorem c0D {x:Api_TypeNode}(h:OkN x){w:List Int}(hw:w.length<=20000000):a0U w x=some (w++b2E x):=by
 have h1:=K2 x.Kind
 have h2:=K2 x.Lo
 have h3:=K2 x.Hi
 have h4:=a3l h.text
 have h5:=b7B h
 have h6:=K2 x.Rest.1
 have hkl:=h.kidl
 have hfl:=h.fldl
 have hk:∀ w:List Int,w.length<=30000000->a4d w x.Kids ()=some (w++a3j a2z x.Kids):=fun w hw =>
  b4o Y7 a2z x.Kids 10 50000000 (fun i w=>rfl) (fun k hk w hw=>a12 (h.kids k hk) hw) (fun k _=>K2 k) (by omega) (by omega) (by omega)
 have hf:∀ w:List Int,w.length<=30000000->a2a w x.Fields ()=some (w++a3j b4b x.Fields):=fun w hw =>
  b4o a0G b4b x.Fields 51 40000000 (fun i w=>rfl) (fun f hf w hw=>c3t (h.flds f hf) hw) (fun f hf=>b8B (h.flds f hf)) (by omega) (by omega) (by omega)
 unfold a0U
 rw [a12 h.kind (by omega),Option.bind_some,a4J h.lo (by simp only [List.length_append]; omega),Option.bind_some,a4J h.hi (by simp only [List.length_append]; omega),Option.bind_some,
  b4A h.text (by simp only [List.length_append]; omega),Option.bind_some,hk _ (by simp only [List.length_append]; omega),Option.bind_some,hf _ (by simp only [List.length_append]; omega),Option.bind_some,
  a12 h.r1 (by simp only [List.length_append]; omega),Option.bind_some,a12 h.r2 (by simp only [List.length_append]; omega),Option.bind_some]
 unfold b2E
 simp only [List.append_assoc]
def b6k (t:Api_Type):List Int:=a3j b2E t.Nodes++a2z t.Root
structure OkTy (t:Api_Type):Prop where
 nodes:∀ x∈t.Nodes,OkN x
 len:t.Nodes.length<=64
 root:isI t.Root
theorem c2A {t:Api_Type}(h:OkTy t):(b6k t).length<=37652:=by
 have h1:(a3j b2E t.Nodes).length<=10+64*588:=a9d 588 64 (fun x hx=>b5K (h.nodes x hx)) h.len
 have h2:=K2 t.Root
 unfold b6k
 rw [List.length_append]
 omega
theorem c46 {t:Api_Type}(h:OkTy t){w:List Int}(hw:w.length<=15000000):a15 w t=some (w++b6k t):=by
 have h1:(a3j b2E t.Nodes).length<=10+64*588:=a9d 588 64 (fun x hx=>b5K (h.nodes x hx)) h.len
 have hl:=h.len
 have hn:a1q w t.Nodes ()=some (w++a3j b2E t.Nodes) :=
  b4o a0U b2E t.Nodes 588 20000000 (fun i w=>rfl) (fun x hx w hw=>c0D (h.nodes x hx) hw) (fun x hx=>b5K (h.nodes x hx)) (by omega) (by omega) (by omega)
 unfold a15
 rw [hn,Option.bind_some,a12 h.root (by simp only [List.length_append]; omega),Option.bind_some]
 unfold b6k
 rw [List.append_assoc]
def b3T (s:Api_Signature):List Int:=b3z s.Ref.Name++(a2z s.Ref.Arity++b6k s.Type_)
structure OkS (s:Api_Signature):Prop where
 name:OkT s.Ref.Name
 ar:isI s.Ref.Arity
 ty:OkTy s.Type_
theorem b9g {s:Api_Signature}(h:OkS s):(b3T s).length<=37692:=by
 have h1:=a3l h.name
 have h2:=K2 s.Ref.Arity
 have h3:=c2A h.ty
 unfold b3T
 simp only [List.length_append]
 omega
theorem b88 {s:Api_Signature}(h:OkS s){w:List Int}(hw:w.length<=10000000):X7 w s=some (w++b3T s):=by
 have h1:=a3l h.name
 have h2:=K2 s.Ref.Arity
 unfold X7
 rw [b4A h.name (by omega),Option.bind_some,a12 h.ar (by simp only [List.length_append]; omega),Option.bind_some,c46 h.ty (by simp only [List.length_append]; omega),Option.bind_some]
 unfold b3T
 simp only [List.append_assoc]
def a76 (i:Api_Interface):List Int:=b3z i.Module++(c1B i.Checked++a3j b3T i.Signatures)
end Go.Pl
end
section
namespace Go.Pl
open Go Go.RowKit Go.Sx Go.Qx
def a88 (k:Int):Bool:=decide (-9223372036854775808<=k)&&decide (k<=9223372036854775807)
def c5A (f:Api_Field):Bool:=a88 f.Key_.Kind&&(decide (f.Key_.Text.size<=20)&&a88 f.Node)
def c5C (x:Api_TypeNode):Bool:=a88 x.Kind&&(a88 x.Lo&&(a88 x.Hi&&(decide (x.Text.size<=20)&&(x.Kids.all a88&&(decide (x.Kids.length<=8)&&(x.Fields.all c5A&&(decide (x.Fields.length<=8)&&(a88 x.Rest.1&&a88 x.Rest.2))))))))
def c0S (t:Api_Type):Bool:=t.Nodes.all c5C&&(decide (t.Nodes.length<=64)&&a88 t.Root)
theorem a3F {k:Int}(h:a88 k=true):isI k:=by
 unfold a88 at h
 simpa [isI] using h
theorem c3M {t:Api_Type}(h:c0S t=true):OkTy t:=by
 unfold c0S at h
 simp only [Bool.and_eq_true,decide_eq_true_eq] at h
 refine ⟨fun x hx=>?_,h.2.1,a3F h.2.2⟩
 have hx:=List.all_eq_true.1 h.1 x hx
 unfold c5C at hx
 simp only [Bool.and_eq_true,decide_eq_true_eq] at hx
 obtain ⟨h1,h2,h3,h4,h5,h6,h7,h8,h9,h10⟩:=hx
 refine ⟨a3F h1,a3F h2,a3F h3,h4,fun k hk=>a3F (List.all_eq_true.1 h5 k hk),h6,fun f hf=>?_,h8,a3F h9,a3F h10⟩
 have hf:=List.all_eq_true.1 h7 f hf
 unfold c5A at hf
 simp only [Bool.and_eq_true,decide_eq_true_eq] at hf
 exact ⟨a3F hf.1,hf.2.1,a3F hf.2.2⟩
def b7q:Api_TypeNode:=⟨3,-9223372036854775808,9223372036854775807,⟨#[]⟩,[],[],(0,0)⟩
def a4W:List Api_Type:=[⟨[b7q],0⟩,
 ⟨[⟨6,0,0,⟨#[116,114,117,101]⟩,[],[],(0,0)⟩,⟨6,0,0,⟨#[102,97,108,115,101]⟩,[],[],(0,0)⟩,⟨16,0,0,⟨#[]⟩,[0,1],[],(0,0)⟩],2⟩,
 ⟨[⟨7,0,0,⟨#[]⟩,[],[],(0,0)⟩],0⟩,
 ⟨[b7q,⟨9,0,0,⟨#[]⟩,[],[],(0,0)⟩,⟨12,0,0,⟨#[]⟩,[0,3],[],(0,0)⟩,⟨16,0,0,⟨#[]⟩,[1,2],[],(0,0)⟩],3⟩,
 ⟨[⟨7,0,0,⟨#[]⟩,[],[],(0,0)⟩,b7q,⟨10,0,0,⟨#[]⟩,[0,1],[],(0,0)⟩],2⟩,
 ⟨[b7q,b7q,⟨14,0,0,⟨#[]⟩,[0,1],[],(0,0)⟩],2⟩,
 ⟨[b7q,⟨2,0,0,⟨#[]⟩,[],[],(0,0)⟩,⟨2,0,0,⟨#[]⟩,[],[],(0,0)⟩,⟨13,0,0,⟨#[]⟩,[],[⟨⟨0,⟨#[97]⟩⟩,0,false⟩],(1,2)⟩],3⟩,
 ⟨[⟨2,0,0,⟨#[]⟩,[],[],(0,0)⟩],0⟩]
theorem c6x:J8 200000000 0=a4W[0]?:=by kernel_rfl
theorem c68:J8 200000000 1=a4W[1]?:=by kernel_rfl
theorem c6R:J8 200000000 2=a4W[2]?:=by kernel_rfl
theorem c6p:J8 200000000 3=a4W[3]?:=by kernel_rfl
theorem c6Z:J8 200000000 4=a4W[4]?:=by kernel_rfl
theorem c62:J8 200000000 5=a4W[5]?:=by kernel_rfl
theorem c6P:J8 200000000 6=a4W[6]?:=by kernel_rfl
theorem c6Q:J8 200000000 7=a4W[7]?:=by kernel_rfl
def c36 (k:Int):Option Api_Type:=bif decide (0<=k) then a4W[k.toNat]? else none
theorem c3H {k:Int}(h0:0<=k)(h1:k<8):J8 200000000 k=c36 k:=by
 have e:k=0\/k=1\/k=2\/k=3\/k=4\/k=5\/k=6\/k=7:=by omega
 rcases e with rfl | rfl | rfl | rfl | rfl | rfl | rfl | rfl
 ·exact c6x
 ·exact c68
 ·exact c6R
 ·exact c6p
 ·exact c6Z
 ·exact c62
 ·exact c6P
 ·exact c6Q
def b4x (d:Semtypeprog_Callee)(x3:(List Api_TypeNode)×Int×(Int×Int×Int×ByteArray×(List Int)×(List Api_Field)×Int×Int)):Option (Fl ((List Api_TypeNode)×Int×(Int×Int×Int×ByteArray×(List Int)×(List Api_Field)×Int×Int)) ((List Api_TypeNode)×(Int×Int×Int×ByteArray×(List Int)×(List Api_Field)×Int×Int))) :=
 bif decide (x3.2.1<((d.Params++([d.Result]:List Int)).length:Int))
 then (Option.bind (idx (d.Params++([d.Result]:List Int)) x3.2.1) fun e4 =>
 Option.bind (c36 e4) fun r5 =>
 Option.bind (Y4 (x3.2.2.2.2.2.2.1.length+([wr .i64 ((x3.1.length:Int)+r5.Root)]:List Int).length) 8) fun u6 =>
 Option.bind (y0 (a3w x3 r5) ((r5.Nodes.length:Int).toNat+1) (x3.1,0)) fun b19 =>
 some (.next (b19,wr .i64 (x3.2.1+1),(x3.2.2.1,x3.2.2.2.1,x3.2.2.2.2.1,x3.2.2.2.2.2.1,x3.2.2.2.2.2.2.1++([wr .i64 ((x3.1.length:Int)+r5.Root)]:List Int),x3.2.2.2.2.2.2.2.1,x3.2.2.2.2.2.2.2.2.1,x3.2.2.2.2.2.2.2.2.2))))
 else (some (.done (x3.1,(x3.2.2.1,x3.2.2.2.1,x3.2.2.2.2.1,x3.2.2.2.2.2.1,x3.2.2.2.2.2.2.1,x3.2.2.2.2.2.2.2.1,x3.2.2.2.2.2.2.2.2.1,x3.2.2.2.2.2.2.2.2.2))))
def b5q (d:Semtypeprog_Callee):Option Api_Signature :=
 Option.bind (Y4 (0+d.Params.length) 8) fun u1 =>
 Option.bind (Y4 (d.Params.length+([d.Result]:List Int).length) 8) fun u2 =>
 Option.bind (y0 (b4x d) (((d.Params++([d.Result]:List Int)).length:Int).toNat+1) (([Api_TypeNode.mk 0 0 0 (⟨#[]⟩:ByteArray) ([]:List Int) ([]:List Api_Field) (0,0)]:List Api_TypeNode),0,(14,0,0,(⟨#[]⟩:ByteArray),[],[],0,0))) fun b20 =>
 Option.bind (idx b20.1 0) fun e21 =>
 Option.bind (b20.1[(0:Int).toNat]?) fun e22 =>
 some (Api_Signature.mk (Api_Ref.mk d.Name (d.Params.length:Int)) (Api_Type.mk (b20.1.set ((0:Int).toNat) (Api_TypeNode.mk b20.2.1 b20.2.2.1 b20.2.2.2.1 b20.2.2.2.2.1 b20.2.2.2.2.2.1 b20.2.2.2.2.2.2.1 (b20.2.2.2.2.2.2.2.1,b20.2.2.2.2.2.2.2.2))) 0))
theorem c3m {d:Semtypeprog_Callee}(h:∀ x∈d.Params++([d.Result]:List Int),0<=x/\x<8):a1y d 200000000=b4x d:=by
 funext x3
 unfold a1y b4x
 cases decide (x3.2.1<((d.Params++([d.Result]:List Int)).length:Int))
 ·rfl
 ·simp only [cond_true]
  cases he:idx (d.Params++([d.Result]:List Int)) x3.2.1 with
  | none=>rfl
  | some e =>
    have hm:=h e (List.mem_of_getElem? (a4b he).2)
    simp only [Option.bind_some,c3H hm.1 hm.2]
theorem c4A {d:Semtypeprog_Callee}(h:∀ x∈d.Params++([d.Result]:List Int),0<=x/\x<8):a0r 200000000 d=b5q d:=by
 unfold a0r b5q
 rw [c3m h]
theorem c17 (m nm:ByteArray)(ps:List Int)(r:Int):b5q (Semtypeprog_Callee.mk m nm ps r)=(b5q (Semtypeprog_Callee.mk (⟨#[]⟩:ByteArray) (⟨#[]⟩:ByteArray) ps r)).map fun s=>Api_Signature.mk (Api_Ref.mk nm (ps.length:Int)) s.Type_:=by
 have e:b4x (Semtypeprog_Callee.mk m nm ps r)=b4x (Semtypeprog_Callee.mk (⟨#[]⟩:ByteArray) (⟨#[]⟩:ByteArray) ps r):=rfl
 unfold b5q
 rw [e]
 simp only [Option.map_bind]
 cases Y4 (0+ps.length) 8<;>try rfl
 cases Y4 (ps.length+([r]:List Int).length) 8<;>try rfl
 simp only [Option.bind_some]
 cases y0 (b4x (Semtypeprog_Callee.mk (⟨#[]⟩:ByteArray) (⟨#[]⟩:ByteArray) ps r)) (((ps++([r]:List Int)).length:Int).toNat+1) (([Api_TypeNode.mk 0 0 0 (⟨#[]⟩:ByteArray) ([]:List Int) ([]:List Api_Field) (0,0)]:List Api_TypeNode),0,(14,0,0,(⟨#[]⟩:ByteArray),[],[],0,0)) with
 | none=>rfl
 | some b =>
   simp only [Option.bind_some,Function.comp_def]
   cases idx b.1 0 with
   | none=>rfl
   | some e =>
     simp only [Option.bind_some,Function.comp_def]
     cases b.1[(0:Int).toNat]? with
     | none=>rfl
     | some e2=>rfl
def a3y (ps:List Int)(r:Int):Bool:=match b5q (Semtypeprog_Callee.mk (⟨#[]⟩:ByteArray) (⟨#[]⟩:ByteArray) ps r) with
 | some s=>c0S s.Type_&&(match a0N 200000000 s.Type_ (ps.length:Int) with
   | some _=>true
   | none=>false)
 | none=>false
end Go.Pl
end
section
namespace Go.Pl
open Go Go.RowKit Go.Sx Go.Qx
theorem b3v {i:Nat}(h:i<=2000000):wr .i64 ((i:Int)+1)=((i+1:Nat):Int):=by
 rw [a08,W5 (by omega) (by omega)]
 omega
theorem b56 {a b:Nat}(ha:a<=1000)(hb:b<=1000):Y4 a b=some ():=by
 unfold Y4
 have:a*b<=1000*1000:=Nat.mul_le_mul ha hb
 rw [if_pos (by omega)]
section
variable {L:List Int}
theorem c2q (hL:L.length<=4194304)(m nm:ByteArray)(r:Int):∀ (k f:Nat) (ps:List Int) (s:Semtypebase_Source),k+1<=f->OS L s->ps.length+k<=2->(∀ x∈ps,0<=x/\x<8) ->
 ∃ ps' s',y0 X9 f ((k:Int),(m,nm,ps,r),s)=some ((m,nm,ps',r),s')/\OS L s'/\ps'.length<=2/\∀ x∈ps',0<=x/\x<8
 | 0,f,ps,s,hf,hs,hl,hp=>by
   obtain ⟨f,rfl⟩:∃ k,f=k+1:=⟨f-1,by omega⟩
   refine ⟨ps,s,?_,hs,by omega,hp⟩
   rw [y0]
   rfl
 | k+1,f,ps,s,hf,hs,hl,hp=>by
   obtain ⟨f,rfl⟩:∃ k,f=k+1:=⟨f-1,by omega⟩
   obtain ⟨x,t,h1,h2,h3,h4⟩:=J4 hL hs (n:=8) (by omega) (by omega)
   have hstep:X9 (((k+1:Nat):Int),(m,nm,ps,r),s)=some (.next ((k:Int),(m,nm,ps++[x],r),t)):=by
    unfold X9
    have e1:decide ((0:Int)<((k+1:Nat):Int))=true:=decide_eq_true (by omega)
    have e2:wr .i64 (((k+1:Nat):Int)-1)=(k:Int):=by rw [a08,W5 (by omega) (by omega)]; omega
    simp only [e1,cond_true,h1,Option.bind_some,b56 (show ps.length+([x]:List Int).length<=1000 by simp only [List.length_cons,List.length_nil]; omega) (show 8<=1000 by omega),e2]
   obtain ⟨ps',s',k1,k2,k3,k4⟩:=c2q hL m nm r k f (ps++[x]) t (by omega) h2 (by rw [List.length_append]; simp only [List.length_cons,List.length_nil]; omega) (fun y hy=>by
    rcases List.mem_append.1 hy with hy | hy
    ·exact hp y hy
    ·rw [List.mem_singleton.1 hy]; exact ⟨h3,h4⟩)
   refine ⟨ps',s',?_,k2,k3,k4⟩
   rw [y0,hstep]
   exact k1
def a3n:List ByteArray:=[⟨#[102]⟩,⟨#[103]⟩,⟨#[104]⟩]
structure Cal (c:Semtypeprog_Callee):Prop where
 name:c.Name∈a3n
 ps:c.Params.length<=2
 pr:∀ x∈c.Params,0<=x/\x<8
 res:0<=c.Result/\c.Result<8
def b6Z (l:List Semtypeprog_Callee):Prop:=(∀ c∈l,Cal c)/\l.map (·.Name)=a3n.take l.length
theorem c2m (hL:L.length<=4194304)(m:ByteArray)(n:Nat)(hn:n<=3)(q:(List Semtypeprog_Callee)×Int×Bool×Int):∀ (k j:Nat) (acc:List Semtypeprog_Callee) (s:Semtypebase_Source),j+k=n->acc.length=j->b6Z acc->OS L s ->
 ∃ acc' s',y0 (J5 m (n:Int)) (k+1) (acc,(j:Int),(s,q))=some (acc',(s',q))/\OS L s'/\acc'.length=n/\b6Z acc'
 | 0,j,acc,s,hk,hj,ha,hs=>by
   refine ⟨acc,s,?_,hs,by omega,ha⟩
   rw [y0]
   unfold J5
   rw [show decide ((j:Int)<(n:Int))=false from decide_eq_false (by omega)]
   rfl
 | k+1,j,acc,s,hk,hj,ha,hs=>by
   obtain ⟨nm,hnm⟩:∃ nm,a3n[j]?=some nm:=⟨a3n[j]'(by show j<3; omega),List.getElem?_eq_getElem (by show j<3; omega)⟩
   obtain ⟨r,t,h1,h2,h3,h4⟩:=J4 hL hs (n:=8) (by omega) (by omega)
   obtain ⟨x,t2,g1,g2,g3,g4⟩:=J4 hL h2 (n:=3) (by omega) (by omega)
   obtain ⟨x',rfl⟩:∃ x':Nat,x=(x':Int):=⟨x.toNat,by omega⟩
   obtain ⟨ps',t3,k1,k2,k3,k4⟩:=c2q hL m nm r x' (((x':Int)).toNat+2) [] t2 (by omega) g2 (by simp only [List.length_nil]; omega) (fun y hy=>by cases hy)
   have hstep:J5 m (n:Int) (acc,(j:Int),(s,q))=some (.next (acc++[Semtypeprog_Callee.mk m nm ps' r],((j+1:Nat):Int),(t3,q))):=by
    unfold J5
    have e1:decide ((j:Int)<(n:Int))=true:=decide_eq_true (by omega)
    have e2:idx ([(⟨#[102]⟩:ByteArray),(⟨#[103]⟩:ByteArray),(⟨#[104]⟩:ByteArray)]:List ByteArray) (j:Int)=some nm:=K6 hnm
    have e3:([(⟨#[102]⟩:ByteArray),(⟨#[103]⟩:ByteArray),(⟨#[104]⟩:ByteArray)]:List ByteArray)[((j:Int)).toNat]?=some nm:=hnm
    simp only [e1,cond_true,e2,Option.bind_some,e3,h1,g1,k1,b56 (show acc.length+([Semtypeprog_Callee.mk m nm ps' r]:List Semtypeprog_Callee).length<=1000 by simp only [List.length_cons,List.length_nil]; omega) (show 64<=1000 by omega),b3v (show j<=2000000 by omega)]
   have hc:b6Z (acc++[Semtypeprog_Callee.mk m nm ps' r]):=by
    refine ⟨fun c hc=>?_,?_⟩
    ·rcases List.mem_append.1 hc with hc | hc
     ·exact ha.1 c hc
     ·rw [List.mem_singleton.1 hc]; exact ⟨List.mem_of_getElem? hnm,k3,k4,h3,h4⟩
    ·rw [List.map_append,ha.2,List.length_append,hj]
     show a3n.take j++[nm]=a3n.take (j+1)
     rw [List.take_add_one,hnm]
     rfl
   obtain ⟨acc',s',q1,q2,q3,q4⟩:=c2m hL m n hn q k (j+1) (acc++[Semtypeprog_Callee.mk m nm ps' r]) t3 (by omega) (by rw [List.length_append,hj]; rfl) hc k2
   refine ⟨acc',s',?_,q2,q3,q4⟩
   rw [y0,hstep]
   exact q1
theorem c1s (hL:L.length<=4194304)(m:ByteArray)(n:Nat)(hn:n<=3)(q:(List Semtypeprog_Callee)×Int×Bool×Int){s:Semtypebase_Source}(hs:OS L s) :
 ∃ l s',a0w (s,q) m (n:Int)=some (l,(s',q))/\OS L s'/\l.length=n/\b6Z l:=by
 obtain ⟨l,s',k1,k2,k3,k4⟩:=c2m hL m n hn q n 0 [] s (by omega) rfl ⟨fun c hc=>(List.not_mem_nil hc).elim,rfl⟩ hs
 refine ⟨l,s',?_,k2,k3,k4⟩
 unfold a0w a1r
 have k1':y0 (J5 m (n:Int)) (((n:Int)).toNat+1) ([],0,(s,q))=some (l,(s',q)):=k1
 simp only [k1',Option.bind_some]
end
def b1T (c:Semtypeprog_Callee):Api_Ref:=Api_Ref.mk c.Name (c.Params.length:Int)
theorem c5m (l:List Semtypeprog_Callee)(hl:l.length<=3):y0 (K9 l) ((l.length:Int).toNat+1) ([],0)=some (l.map b1T):=by
 have key:∀ (k j:Nat) (acc:List Api_Ref),j+k=l.length->acc.length=j->y0 (K9 l) (k+1) (acc,(j:Int))=some (acc++(l.drop j).map b1T):=by
  intro k
  induction k with
  | zero =>
    intro j acc hj ha
    rw [y0]
    unfold K9
    rw [show decide ((j:Int)<(l.length:Int))=false from decide_eq_false (by omega),List.drop_of_length_le (by omega)]
    simp
  | succ k ih =>
    intro j acc hj ha
    have hlt:j<l.length:=by omega
    have hstep:K9 l (acc,(j:Int))=some (.next (acc++[b1T l[j]],((j+1:Nat):Int))):=by
     unfold K9
     simp only [show decide ((j:Int)<(l.length:Int))=true from decide_eq_true (by omega),cond_true,K6 (List.getElem?_eq_getElem hlt),Option.bind_some,b56 (show acc.length+([Api_Ref.mk l[j].Name (l[j].Params.length:Int)]:List Api_Ref).length<=1000 by simp only [List.length_cons,List.length_nil]; omega) (show 24<=1000 by omega),b3v (show j<=2000000 by omega)]
     rfl
    rw [y0,hstep]
    have:=ih (j+1) (acc++[b1T l[j]]) (by omega) (by rw [List.length_append,ha]; rfl)
    rw [List.append_assoc] at this
    rw [List.drop_eq_getElem_cons hlt]
    exact this
 have:=key l.length 0 [] (by omega) rfl
 simpa using this
def a8d (l:List Api_Ref):Bool:=match a0s l with
 | some r=>decide (r.length<=3)
 | none=>false
theorem sr1:∀ a,a<3->a8d [⟨⟨#[102]⟩,((a:Nat):Int)⟩]=true:=by decide +kernel
theorem sr2:∀ a,a<3->∀ b,b<3->a8d [⟨⟨#[102]⟩,((a:Nat):Int)⟩,⟨⟨#[103]⟩,((b:Nat):Int)⟩]=true:=by decide +kernel
theorem sr3:∀ a,a<3->∀ b,b<3->∀ c,c<3->a8d [⟨⟨#[102]⟩,((a:Nat):Int)⟩,⟨⟨#[103]⟩,((b:Nat):Int)⟩,⟨⟨#[104]⟩,((c:Nat):Int)⟩]=true:=by decide +kernel
theorem sr0:a8d []=true:=by decide +kernel
theorem c6v {l:List Semtypeprog_Callee}(h:b6Z l)(hl:l.length<=3):∃ r,a0s (l.map b1T)=some r/\r.length<=3:=by
 have hc:a8d (l.map b1T)=true:=by
  obtain ⟨h1,h2⟩:=h
  match l,hl,h1,h2 with
  | [],_,_,_=>exact sr0
  | [x],_,h1,h2 =>
    have e:x.Name=⟨#[102]⟩:=by simpa [a3n] using h2
    show a8d [⟨x.Name,_⟩]=true
    rw [e]
    exact sr1 _ (by have:=(h1 x List.mem_cons_self).ps; omega)
  | [x,y],_,h1,h2 =>
    have e:x.Name=⟨#[102]⟩/\y.Name=⟨#[103]⟩:=by simpa [a3n] using h2
    show a8d [⟨x.Name,_⟩,⟨y.Name,_⟩]=true
    rw [e.1,e.2]
    exact sr2 _ (by have:=(h1 x (by simp)).ps; omega) _ (by have:=(h1 y (by simp)).ps; omega)
  | [x,y,z],_,h1,h2 =>
    have e:x.Name=⟨#[102]⟩/\y.Name=⟨#[103]⟩/\z.Name=⟨#[104]⟩:=by simpa [a3n] using h2
    show a8d [⟨x.Name,_⟩,⟨y.Name,_⟩,⟨z.Name,_⟩]=true
    rw [e.1,e.2.1,e.2.2]
    exact sr3 _ (by have:=(h1 x (by simp)).ps; omega) _ (by have:=(h1 y (by simp)).ps; omega) _ (by have:=(h1 z (by simp)).ps; omega)
  | x::y::z::u::l,hl,_,_=>simp only [List.length_cons] at hl; omega
 unfold a8d at hc
 cases hs:a0s (l.map b1T) with
 | none=>rw [hs] at hc; cases hc
 | some r =>
   rw [hs] at hc
   exact ⟨r,rfl,of_decide_eq_true hc⟩
end Go.Pl
end
section
namespace Go.Pl
open Go Go.RowKit Go.Sx Go.Qx
theorem sg0:∀ r,r<8->a3y [] ((r:Nat):Int)=true:=by decide +kernel
theorem sg1:∀ a,a<8->∀ r,r<8->a3y [((a:Nat):Int)] ((r:Nat):Int)=true:=by decide +kernel
theorem c61:∀ b,b<8->∀ r,r<8->a3y [0,((b:Nat):Int)] ((r:Nat):Int)=true:=by decide +kernel
theorem c64:∀ b,b<8->∀ r,r<8->a3y [1,((b:Nat):Int)] ((r:Nat):Int)=true:=by decide +kernel
theorem c6J:∀ b,b<8->∀ r,r<8->a3y [2,((b:Nat):Int)] ((r:Nat):Int)=true:=by decide +kernel
theorem c7e:∀ b,b<8->∀ r,r<8->a3y [3,((b:Nat):Int)] ((r:Nat):Int)=true:=by decide +kernel
end Go.Pl
end
section
namespace Go.Pl
open Go Go.RowKit Go.Sx Go.Qx
theorem c60:∀ b,b<8->∀ r,r<8->a3y [4,((b:Nat):Int)] ((r:Nat):Int)=true:=by decide +kernel
theorem c6O:∀ b,b<8->∀ r,r<8->a3y [5,((b:Nat):Int)] ((r:Nat):Int)=true:=by decide +kernel
theorem c63:∀ b,b<8->∀ r,r<8->a3y [6,((b:Nat):Int)] ((r:Nat):Int)=true:=by decide +kernel
theorem c6M:∀ b,b<8->∀ r,r<8->a3y [7,((b:Nat):Int)] ((r:Nat):Int)=true:=by decide +kernel
theorem sg2 {a b r:Nat}(ha:a<8)(hb:b<8)(hr:r<8):a3y [(a:Int),(b:Int)] (r:Int)=true:=by
 have e:a=0\/a=1\/a=2\/a=3\/a=4\/a=5\/a=6\/a=7:=by omega
 rcases e with rfl | rfl | rfl | rfl | rfl | rfl | rfl | rfl
 ·exact c61 b hb r hr
 ·exact c64 b hb r hr
 ·exact c6J b hb r hr
 ·exact c7e b hb r hr
 ·exact c60 b hb r hr
 ·exact c6O b hb r hr
 ·exact c63 b hb r hr
 ·exact c6M b hb r hr
theorem c1A {x:Int}(h:0<=x/\x<8):∃ a:Nat,a<8/\x=(a:Int):=⟨x.toNat,by omega,by omega⟩
theorem c5v {ps:List Int}{r:Int}(hl:ps.length<=2)(hp:∀ x∈ps,0<=x/\x<8)(hr:0<=r/\r<8):a3y ps r=true:=by
 obtain ⟨r',hr',rfl⟩:=c1A hr
 match ps,hl,hp with
 | [],_,_=>exact sg0 r' hr'
 | [x],_,hp =>
   obtain ⟨a,ha,rfl⟩:=c1A (hp x List.mem_cons_self)
   exact sg1 a ha r' hr'
 | [x,y],_,hp =>
   obtain ⟨a,ha,rfl⟩:=c1A (hp x List.mem_cons_self)
   obtain ⟨b,hb,rfl⟩:=c1A (hp y (List.mem_cons_of_mem _ List.mem_cons_self))
   exact sg2 ha hb hr'
 | x::y::z::l,hl,_=>simp only [List.length_cons] at hl; omega
end Go.Pl
end
section
namespace Go.Pl
open Go Go.RowKit Go.Sx Go.Qx
structure b39 (s:Api_Signature):Prop where
 ok:OkS s
 named:a0A s.Ref.Name=some true
 call:∃ b,a0N 200000000 s.Type_ s.Ref.Arity=some b
theorem c1J:∀ s∈a3n,a0A s=some true/\s.size<=20:=by
 have h:(a3n.all fun s=>a0A s==some true&&decide (s.size<=20))=true:=by decide +kernel
 intro s hs
 have:=List.all_eq_true.1 h s hs
 simpa using this
theorem c2S {c:Semtypeprog_Callee}(h:Cal c):∃ s,a0r 200000000 c=some s/\b39 s:=by
 obtain ⟨m,nm,ps,r⟩:=c
 obtain ⟨h1,h2,h3,h4⟩:=h
 have hg:=c5v h2 h3 h4
 rw [c4A (fun x hx=>by
  rcases List.mem_append.1 hx with hx | hx
  ·exact h3 x hx
  ·rw [List.mem_singleton.1 hx]; exact h4),c17]
 unfold a3y at hg
 cases hs:b5q (Semtypeprog_Callee.mk (⟨#[]⟩:ByteArray) (⟨#[]⟩:ByteArray) ps r) with
 | none=>rw [hs] at hg; cases hg
 | some s =>
   rw [hs] at hg
   simp only [Bool.and_eq_true] at hg
   obtain ⟨g1,g2⟩:=hg
   refine ⟨_,rfl,⟨(c1J nm h1).2,a3d (Int.natCast_nonneg _) (by have:ps.length<=2:=h2; show (ps.length:Int)<=1000000; omega),c3M g1⟩,(c1J nm h1).1,?_⟩
   show ∃ b,a0N 200000000 s.Type_ (ps.length:Int)=some b
   cases hb:a0N 200000000 s.Type_ (ps.length:Int) with
   | none=>rw [hb] at g2; cases g2
   | some b=>exact ⟨b,rfl⟩
theorem c6a {i:Nat}(h:1<=i)(h2:i<=2000000):wr .i64 ((i:Int)-1)=((i-1:Nat):Int):=by
 rw [a08,W5 (by omega) (by omega)]
 omega
theorem c5o (l:List Semtypeprog_Callee)(hl:l.length<=3)(hc:∀ c∈l,Cal c)(e:Api_Ref)(d:ByteArray)(t:Bool):∀ (k j:Nat) (acc:List Api_Signature),j+k=l.length->acc.length+k<=100->(∀ s∈acc,b39 s) ->
 ∃ acc',y0 (J7 l e 200000000) (k+1) ((j:Int),(d,t,acc))=some (d,t,acc')/\acc'.length<=acc.length+k/\∀ s∈acc',b39 s:=by
 intro k
 induction k with
 | zero =>
   intro j acc hj hn ha
   refine ⟨acc,?_,by omega,ha⟩
   rw [y0]
   unfold J7
   rw [show decide ((j:Int)<(l.length:Int))=false from decide_eq_false (by omega)]
   rfl
 | succ k ih =>
   intro j acc hj hn ha
   have hlt:j<l.length:=by omega
   obtain ⟨s,hs,hg⟩:=c2S (hc l[j] (List.getElem_mem hlt))
   have hstep:J7 l e 200000000 ((j:Int),(d,t,acc))=some (.next (((j+1:Nat):Int),(d,t,acc++[s])))\/J7 l e 200000000 ((j:Int),(d,t,acc))=some (.next (((j+1:Nat):Int),(d,t,acc))):=by
    have hr:Y4 (acc.length+([s]:List Api_Signature).length) 56=some ():=b56 (by simp only [List.length_cons,List.length_nil]; omega) (by omega)
    unfold J7
    simp only [show decide ((j:Int)<(l.length:Int))=true from decide_eq_true (by omega),cond_true,K6 (List.getElem?_eq_getElem hlt),Option.bind_some,hs,hr,b3v (show j<=2000000 by omega)]
    cases a6S s.Ref e
    ·exact .inr rfl
    ·simp only [cond_true]
     cases hz:((acc.length:Int)==0)
     ·simp only [cond_false]
      have hpos:1<=acc.length:=by
       have:(acc.length:Int)≠0:=by simpa using hz
       omega
      rw [c6a hpos (by omega),K6 (List.getElem?_eq_getElem (show acc.length-1<acc.length by omega))]
      simp only [Option.bind_some]
      cases !a6S (acc[acc.length-1]'(by omega)).Ref e
      ·exact .inr rfl
      ·exact .inl rfl
     ·exact .inl rfl
   rcases hstep with hstep | hstep
   ·obtain ⟨acc',k1,k2,k3⟩:=ih (j+1) (acc++[s]) (by omega) (by rw [List.length_append]; simp only [List.length_cons,List.length_nil]; omega) (fun y hy=>by
     rcases List.mem_append.1 hy with hy | hy
     ·exact ha y hy
     ·rw [List.mem_singleton.1 hy]; exact hg)
    refine ⟨acc',by rw [y0,hstep]; exact k1,?_,k3⟩
    rw [List.length_append] at k2
    simp only [List.length_cons,List.length_nil] at k2
    omega
   ·obtain ⟨acc',k1,k2,k3⟩:=ih (j+1) acc (by omega) (by omega) ha
    exact ⟨acc',by rw [y0,hstep]; exact k1,by omega,k3⟩
theorem c5x (l:List Semtypeprog_Callee)(hl:l.length<=3)(hc:∀ c∈l,Cal c)(r:List Api_Ref)(hr:r.length<=3)(d:ByteArray)(t:Bool):∀ (k j:Nat) (acc:List Api_Signature),j+k=r.length->acc.length+3*k<=9->(∀ s∈acc,b39 s) ->
 ∃ acc',y0 (V0 l r 200000000) (k+1) ((j:Int),(d,t,acc))=some (d,t,acc')/\acc'.length<=acc.length+3*k/\∀ s∈acc',b39 s:=by
 intro k
 induction k with
 | zero =>
   intro j acc hj hn ha
   refine ⟨acc,?_,by omega,ha⟩
   rw [y0]
   unfold V0
   rw [show decide ((j:Int)<(r.length:Int))=false from decide_eq_false (by omega)]
   rfl
 | succ k ih =>
   intro j acc hj hn ha
   have hlt:j<r.length:=by omega
   obtain ⟨acc1,k1,k2,k3⟩:=c5o l hl hc r[j] d t l.length 0 acc (by omega) (by omega) ha
   have k1':y0 (J7 l r[j] 200000000) ((l.length:Int).toNat+1) (0,(d,t,acc))=some (d,t,acc1):=k1
   have hstep:V0 l r 200000000 ((j:Int),(d,t,acc))=some (.next (((j+1:Nat):Int),(d,t,acc1))):=by
    unfold V0
    simp only [show decide ((j:Int)<(r.length:Int))=true from decide_eq_true (by omega),cond_true,K6 (List.getElem?_eq_getElem hlt),Option.bind_some,k1',b3v (show j<=2000000 by omega)]
   obtain ⟨acc',q1,q2,q3⟩:=ih (j+1) acc1 (by omega) (by omega) k3
   exact ⟨acc',by rw [y0,hstep]; exact q1,by omega,q3⟩
theorem b9s {l:List Semtypeprog_Callee}(h:b6Z l)(hl:l.length<=3)(d:ByteArray)(t:Bool):∃ ss,a09 200000000 d t l=some (d,t,ss)/\ss.length<=9/\∀ s∈ss,b39 s:=by
 obtain ⟨r,h1,h2⟩:=c6v h hl
 obtain ⟨ss,k1,k2,k3⟩:=c5x l hl h.1 r h2 d t r.length 0 [] (by omega) (by simp only [List.length_nil]; omega) (fun s hs=>by cases hs)
 refine ⟨ss,?_,by simp only [List.length_nil] at k2; omega,k3⟩
 have k1':y0 (V0 l r 200000000) ((r.length:Int).toNat+1) (0,(d,t,[]))=some (d,t,ss):=k1
 unfold a09
 simp only [c5m l hl,Option.bind_some,h1,k1']
structure Drw (s:Api_Signature):Prop where
 ok:OkS s
 named:a0A s.Ref.Name=some true
structure Mde (i:Api_Interface):Prop where
 mod:a0A i.Module=some true/\i.Module.size<=20
 len:i.Signatures.length<=10
 sigs:∀ s∈i.Signatures,Drw s
 call:i.Checked=false->∀ s∈i.Signatures,∃ b,a0N 200000000 s.Type_ s.Ref.Arity=some b
def b78:List ByteArray:=[⟨#[109]⟩,⟨#[97]⟩,⟨#[120,49]⟩]
theorem c7P:∀ s∈b78,a0A s=some true/\s.size<=20:=by
 have h:(b78.all fun s=>a0A s==some true&&decide (s.size<=20))=true:=by decide +kernel
 intro s hs
 have:=List.all_eq_true.1 h s hs
 simpa using this
theorem c5u:a0A ⟨#[122]⟩=some true:=by decide +kernel
theorem b4E {N:Nat}(hN:N<=1000){k:Int}(h:inR N k=true):isI k:=by
 unfold inR at h
 simp only [Bool.and_eq_true,decide_eq_true_eq] at h
 exact a3d (by omega) (by omega)
theorem c3F {N:Nat}{x:Api_TypeNode}(h:a39 N x=true):1<=x.Kind/\x.Kind<=19:=by
 rcases a7U x.Kind with hk | hk
 ·omega
 ·have hne:∀ n:Int,1<=n->n<=19->¬ x.Kind=n:=fun n h1 h2 e=>by
   have:=hk n h1 h2
   rw [e] at this
   simp at this
  unfold a39 at h
  rw [if_neg (hne 3 (by omega) (by omega)),if_neg (hne 4 (by omega) (by omega)),if_neg (hne 6 (by omega) (by omega)),if_neg (hne 19 (by omega) (by omega)),if_neg,if_neg (hne 10 (by omega) (by omega)),if_neg (hne 12 (by omega) (by omega)),
   if_neg (hne 14 (by omega) (by omega)),if_neg,if_neg (hne 18 (by omega) (by omega)),if_neg (hne 13 (by omega) (by omega))] at h
  ·cases h
  ·rintro (e | e)
   ·exact hne 16 (by omega) (by omega) e
   ·exact hne 17 (by omega) (by omega) e
  ·rintro (e | e | e | e | e | e | e | e)
   ·exact hne 1 (by omega) (by omega) e
   ·exact hne 2 (by omega) (by omega) e
   ·exact hne 5 (by omega) (by omega) e
   ·exact hne 7 (by omega) (by omega) e
   ·exact hne 8 (by omega) (by omega) e
   ·exact hne 9 (by omega) (by omega) e
   ·exact hne 11 (by omega) (by omega) e
   ·exact hne 15 (by omega) (by omega) e
theorem c2Q:isI 0:=⟨by omega,by omega⟩
theorem c5X {N i:Nat}{x:Api_TypeNode}(hN:N<=1000)(h:GN N i x):OkN x:=by
 have h1:=h.ok
 unfold a1b at h1
 simp only [Bool.and_eq_true] at h1
 obtain ⟨k1,_,_,k4,k5⟩:=h1
 have hk:=c3F k5
 have hr:=h.rng
 have hrest:(∀ f∈x.Fields,OkF f)/\isI x.Rest.1/\isI x.Rest.2:=by
  by_cases h13:x.Kind=13
  ·unfold a39 at k5
   rw [if_neg (by omega),if_neg (by omega),if_neg (by omega),if_neg (by omega),if_neg (by omega),if_neg (by omega),if_neg (by omega),if_neg (by omega),if_neg (by omega),if_neg (by omega),if_pos h13] at k5
   simp only [Bool.and_eq_true] at k5
   obtain ⟨f1,_,f2,f3⟩:=k5
   refine ⟨fun f hf=>?_,b4E hN f2,b4E hN f3⟩
   unfold a8p at f1
   simp only [Bool.and_eq_true] at f1
   have hb:=h.keys f hf
   have g1:=List.all_eq_true.1 f1.2.1 f hf
   have g2:=List.all_eq_true.1 f1.2.2 f hf
   refine ⟨?_,?_,b4E hN g2⟩
   ·have:f.Key_.Kind=0\/f.Key_.Kind=1:=by
     unfold a5c at g1
     by_cases e0:f.Key_.Kind=0
     ·exact .inl e0
     ·by_cases e1:f.Key_.Kind=1
      ·exact .inr e1
      ·rw [if_neg e0,if_neg e1] at g1
       cases g1
    rcases this with e | e<;>rw [e]<;>exact a3d (by omega) (by omega)
   ·show f.Key_.Text.size<=20
    unfold b4I a6o at hb
    omega
  ·simp only [Bool.or_eq_true,beq_iff_eq,h13,false_or,Bool.and_eq_true] at k4
   obtain ⟨e1,e2⟩:=k4
   have e1:x.Fields=[]:=by simpa using e1
   unfold a3c at e2
   simp only [Bool.and_eq_true,beq_iff_eq] at e2
   refine ⟨fun f hf=>?_,by rw [e2.1]; exact c2Q,by rw [e2.2]; exact c2Q⟩
   rw [e1] at hf
   cases hf
 exact ⟨a3d (by omega) (by omega),⟨hr.1,hr.2.1⟩,⟨hr.2.2.1,hr.2.2.2⟩,by have:=h.text; show x.Text.size<=20; omega,fun k hk=>b4E hN (List.all_eq_true.1 k1 k hk),by have:=h.kids; omega,hrest.1,by have:=h.flds; omega,hrest.2.1,hrest.2.2⟩
theorem c0L {N:Nat}{ns:List Api_TypeNode}(hN:N<=60)(hl:ns.length=N)(h:GNs N ns):OkTy (Api_Type.mk ns 0) :=
 ⟨fun x hx=>by
  obtain ⟨i,hi⟩:=List.getElem?_of_mem hx
  exact c5X (by omega) (h i x hi),by show ns.length<=64; omega,c2Q⟩
theorem b9x {s:Api_Signature}(h:b39 s):Drw s:=⟨h.ok,h.named⟩
theorem c4S (l:List Int)(hl:l.length<=4194304):∃ i,a2f 200000000 l=some i/\Mde i:=by
 have hL:(l.take 50).length<=4194304:=by rw [List.length_take]; omega
 obtain ⟨x1,s1,a1,a2,a3,a4⟩:=J4 hL (s:=Semtypebase_Source.mk (l.take 50) 0) ⟨rfl,Int.le_refl _,Int.natCast_nonneg _⟩ (n:=3) (by omega) (by omega)
 obtain ⟨x2,s2,b1,b2,b3,b4⟩:=J4 hL a2 (n:=2) (by omega) (by omega)
 obtain ⟨x3,s3,c1,c2,c3,c4⟩:=J4 hL b2 (n:=3) (by omega) (by omega)
 obtain ⟨m1,rfl⟩:∃ m:Nat,x1=(m:Int):=⟨x1.toNat,by omega⟩
 obtain ⟨m3,rfl⟩:∃ m:Nat,x3=(m:Int):=⟨x3.toNat,by omega⟩
 obtain ⟨nm,hnm⟩:∃ nm,b78[m1]?=some nm:=⟨b78[m1]'(by show m1<3; omega),List.getElem?_eq_getElem (by show m1<3; omega)⟩
 have e3:wr .i64 (1+(m3:Int))=((m3+1:Nat):Int):=by rw [Int.add_comm]; exact b3v (by omega)
 obtain ⟨cs,s4,d1,d2,d3,d4⟩:=c1s hL (⟨#[]⟩:ByteArray) (m3+1) (by omega) (([]:List Semtypeprog_Callee),0,false,0) c2
 obtain ⟨ss,f1,f2,f3⟩:=b9s d4 (by omega) nm (x2==0)
 obtain ⟨x8,s8,g1,g2,g3,g4⟩:=J4 hL d2 (n:=3) (by omega) (by omega)
 have hi1:idx ([(⟨#[109]⟩:ByteArray),(⟨#[97]⟩:ByteArray),(⟨#[120,49]⟩:ByteArray)]:List ByteArray) (m1:Int)=some nm:=K6 hnm
 have hi2:([(⟨#[109]⟩:ByteArray),(⟨#[97]⟩:ByteArray),(⟨#[120,49]⟩:ByteArray)]:List ByteArray)[((m1:Int)).toNat]?=some nm:=hnm
 have hmod:=c7P nm (List.mem_of_getElem? hnm)
 unfold a2f
 simp only [a1,Option.bind_some,hi1,hi2,b1,c1,e3,d1,f1,g1]
 cases hz:(x8==1)
 ·refine ⟨_,rfl,hmod,by show ss.length<=10; omega,fun s hs=>b9x (f3 s hs),fun _ s hs=>(f3 s hs).call⟩
 ·simp only [cond_true]
  obtain ⟨x9,s9,p1,p2,p3,p4⟩:=J4 hL g2 (n:=4) (by omega) (by omega)
  obtain ⟨x10,s10,q1,q2,q3,q4⟩:=J4 hl (s:=Semtypebase_Source.mk l 0) ⟨rfl,Int.le_refl _,Int.natCast_nonneg _⟩ (n:=6) (by omega) (by omega)
  obtain ⟨m10,rfl⟩:∃ m:Nat,x10=(m:Int):=⟨x10.toNat,by omega⟩
  have e10:wr .i64 (1+(m10:Int))=((m10+1:Nat):Int):=by rw [Int.add_comm]; exact b3v (by omega)
  obtain ⟨ns,t,r1,r2,r3,r4⟩:=c29 hl q2 (m10+1) (by omega) (by omega)
  have hr:=b56 (a:=ss.length+([Api_Signature.mk (Api_Ref.mk (⟨#[122]⟩:ByteArray) x9) (Api_Type.mk ns 0)]:List Api_Signature).length) (b:=56) (by simp only [List.length_cons,List.length_nil]; omega) (by omega)
  simp only [p1,Option.bind_some,q1,e10,r1,hr]
  refine ⟨_,rfl,hmod,?_,fun s hs=>?_,fun h=>by cases h⟩
  ·show (ss++[_]).length<=10
   rw [List.length_append]
   simp only [List.length_cons,List.length_nil]
   omega
  ·rcases List.mem_append.1 hs with hs | hs
   ·exact b9x (f3 s hs)
   ·rw [List.mem_singleton.1 hs]
    exact ⟨⟨show (⟨#[122]⟩:ByteArray).size<=20 from by decide,show isI x9 from a3d p3 (by omega),c0L (by omega) r3 r4⟩,c5u⟩
end Go.Pl
end
section
namespace Go.Pl
open Go Go.RowKit Go.Sx Go.Qx
structure OkJ (i:Api_Interface):Prop where
 mod:OkT i.Module
 sigs:∀ s∈i.Signatures,OkS s
 len:i.Signatures.length<=10
theorem b8u {i:Api_Interface}(h:OkJ i):(a76 i).length<=400000:=by
 have h1:=a3l h.mod
 have h2:(a3j b3T i.Signatures).length<=10+10*37692:=a9d 37692 10 (fun x hx=>b9g (h.sigs x hx)) h.len
 unfold a76
 simp only [List.length_append,b5y]
 omega
theorem c3J {i:Api_Interface}(h:OkJ i):a1H [] i=some (a76 i):=by
 have h1:=a3l h.mod
 have hl:=h.len
 have e1:=b4A h.mod (w:=[]) (by simp)
 rw [List.nil_append] at e1
 have hn:∀ w:List Int,w.length<=1000->a1i w i.Signatures ()=some (w++a3j b3T i.Signatures):=fun w hw =>
  b4o X7 b3T i.Signatures 37692 10000000 (fun i w=>rfl) (fun x hx w hw=>b88 (h.sigs x hx) hw) (fun x hx=>b9g (h.sigs x hx)) (by omega) (by omega) (by omega)
 unfold a1H
 rw [e1,Option.bind_some,b9X _ (by omega),Option.bind_some,hn _ (by simp only [List.length_append,b5y]; omega),Option.bind_some]
 unfold a76
 simp only [List.append_assoc]
end Go.Pl
end
section
namespace Go.Pl
open Go Go.RowKit Go.Sx Go.Qx
theorem c1E (x y:ByteArray):∃ r,a1Y x y=some r:=by
 unfold a1Y a2A
 simp only [Option.bind_some]
 generalize j8 x x=a
 generalize j8 y y=b
 generalize a16 x y=c
 generalize j8 x y=d
 cases a<;>cases b<;>cases c<;>cases d<;>exact ⟨_,rfl⟩
theorem c2D (x y:Int):∃ r,a0g x y=some r:=by
 unfold a0g a2Q
 simp only [Option.bind_some]
 cases (x != x)<;>cases (y != y)<;>cases decide (x<y)<;>cases decide (y<x)<;>exact ⟨_,rfl⟩
theorem c27 (a b:Int):∃ r,a8i [a,b]=some r:=by
 have h0:a1S [a,b] 0=(bif a != 0 then some (.done (.inr a)) else some (.next 1)):=by
  cases h:(a != 0)<;>simp [a1S,idx,h]<;>rfl
 have h1:a1S [a,b] 1=(bif b != 0 then some (.done (.inr b)) else some (.next 2)):=by
  cases h:(b != 0)<;>simp [a1S,idx,h]<;>rfl
 have h2:a1S [a,b] 2=some (.done (.inl ())):=rfl
 unfold a8i
 rw [show ((([a,b]:List Int).length:Int)).toNat+1=3 from rfl]
 simp only [y0,h0]
 cases (a != 0)
 ·simp only [cond_false,Option.bind_some,h1]
  cases (b != 0)
  ·simp only [cond_false,Option.bind_some,h2]
   exact ⟨_,rfl⟩
  ·exact ⟨_,rfl⟩
 ·exact ⟨_,rfl⟩
theorem b8P (a b:Api_Signature):∃ r,a3x a b=some r:=by
 obtain ⟨r1,h1⟩:=c1E a.Ref.Name b.Ref.Name
 obtain ⟨r2,h2⟩:=c2D a.Ref.Arity b.Ref.Arity
 obtain ⟨r3,h3⟩:=c27 r1 r2
 unfold a3x
 simp only [h1,h2,Option.bind_some]
 rw [h3]
 exact ⟨_,rfl⟩
theorem c41 {t:Api_Type}(h:OkTy t):∃ r,J9 200000000 t=some r :=
 ⟨_,c6g t (fun x hx=>⟨by have:=(h.nodes x hx).kidl; omega,by have:=(h.nodes x hx).fldl; omega⟩) (by have:=h.len; omega) 200000000 (by have:=h.len; omega)⟩
theorem c0M {i:Api_Interface}(h:Mde i){j:Nat}(hj:j<i.Signatures.length):(∃ b,a1e i 200000000 (j:Int)=some (.done (.inr b)))\/a1e i 200000000 (j:Int)=some (.next ((j+1:Nat):Int)):=by
 have hs:=List.getElem_mem hj
 have hd:=h.sigs _ hs
 have hlen:=h.len
 obtain ⟨w,hw⟩:=c41 hd.ok.ty
 unfold a1e
 simp only [show decide ((j:Int)<(i.Signatures.length:Int))=true from decide_eq_true (by omega),cond_true,K6 (List.getElem?_eq_getElem hj),Option.bind_some,hd.named,Bool.not_true,cond_false,hw,b3v (show j<=2000000 by omega)]
 generalize hq:(bif decide (i.Signatures[j].Ref.Arity<0) then some true else some (decide (4<i.Signatures[j].Ref.Arity)))=q
 obtain ⟨b1,rfl⟩:∃ b1,q=some b1:=by
  rw [<- hq]
  cases decide (i.Signatures[j].Ref.Arity<0)
  ·exact ⟨_,rfl⟩
  ·exact ⟨_,rfl⟩
 simp only [Option.bind_some]
 generalize hq2:(bif b1 then some true else some (w != 0))=q2
 obtain ⟨b2,rfl⟩:∃ b2,q2=some b2:=by
  rw [<- hq2]
  cases b1
  ·exact ⟨_,rfl⟩
  ·exact ⟨_,rfl⟩
 simp only [Option.bind_some]
 cases b2
 ·simp only [cond_false]
  have hcall:∃ b,(bif !i.Checked then (Option.bind (a0N 200000000 i.Signatures[j].Type_ i.Signatures[j].Ref.Arity) fun r13=>some (!r13)) else some false)=some b:=by
   cases hc:i.Checked
   ·obtain ⟨b,hb⟩:=h.call hc _ hs
    rw [hb]
    exact ⟨_,rfl⟩
   ·exact ⟨_,rfl⟩
  obtain ⟨b3,hb3⟩:=hcall
  rw [hb3]
  have hcmp:∃ b,(bif decide ((0:Int)<(j:Int)) then (Option.bind (idx i.Signatures (wr .i64 ((j:Int)-1))) fun e10=>Option.bind (a3x e10 i.Signatures[j]) fun r11=>some (decide (0<=r11))) else some false)=some b:=by
   by_cases h0:0<j
   ·rw [show decide ((0:Int)<(j:Int))=true from decide_eq_true (by omega),c6a h0 (by omega),K6 (List.getElem?_eq_getElem (show j-1<i.Signatures.length by omega))]
    obtain ⟨r,hr⟩:=b8P (i.Signatures[j-1]'(by omega)) i.Signatures[j]
    simp only [cond_true,Option.bind_some,hr]
    exact ⟨_,rfl⟩
   ·rw [show decide ((0:Int)<(j:Int))=false from decide_eq_false (by omega)]
    exact ⟨_,rfl⟩
  obtain ⟨b4,hb4⟩:=hcmp
  rw [hb4]
  cases b4
  ·cases b3
   ·exact .inr rfl
   ·exact .inl ⟨_,rfl⟩
  ·exact .inl ⟨_,rfl⟩
 ·exact .inl ⟨_,rfl⟩
theorem c03 {i:Api_Interface}(h:Mde i):∃ b,a3J 200000000 i=some b:=by
 have key:∀ (k j:Nat),j+k=i.Signatures.length->∃ r,y0 (a1e i 200000000) (k+1) (j:Int)=some r:=by
  intro k
  induction k with
  | zero =>
    intro j hj
    refine ⟨.inl (),?_⟩
    rw [y0]
    unfold a1e
    rw [show decide ((j:Int)<(i.Signatures.length:Int))=false from decide_eq_false (by omega)]
    rfl
  | succ k ih =>
    intro j hj
    rcases c0M h (show j<i.Signatures.length by omega) with ⟨b,hb⟩ | hb
    ·exact ⟨_,by rw [y0,hb]; rfl⟩
    ·obtain ⟨r,hr⟩:=ih (j+1) (by omega)
     exact ⟨r,by rw [y0,hb]; exact hr⟩
 obtain ⟨r,hr⟩:=key i.Signatures.length 0 (by omega)
 have hr':y0 (a1e i 200000000) ((i.Signatures.length:Int).toNat+1) 0=some r:=hr
 unfold a3J
 have hlen:=h.len
 simp only [h.mod.1,Option.bind_some,Bool.not_true,cond_false,show decide ((10:Int)<(i.Signatures.length:Int))=false from decide_eq_false (by omega),hr']
 cases r<;>exact ⟨_,rfl⟩
theorem c0A {i:Api_Interface}(h:Mde i):OkJ i:=⟨h.mod.2,fun s hs=>(h.sigs s hs).ok,h.len⟩
theorem b7V (l:List Int):(a19 l).size=l.length:=by
 show (List.map _ l).toArray.size=_
 simp
theorem c2z {i:Api_Interface}(h:Mde i):a1t 200000000 i=some ((⟨#[]⟩:ByteArray),1)\/(a1t 200000000 i=some (Q1 (a19 (a76 i)),0)/\a3J 200000000 i=some true):=by
 obtain ⟨b,hb⟩:=c03 h
 have hJ:=c0A h
 have hl:=b8u hJ
 unfold a1t
 rw [hb]
 cases b
 ·exact .inl rfl
 ·refine .inr ⟨?_,rfl⟩
  simp only [Option.bind_some,Bool.not_true,cond_false,c3J hJ,c0u (s:=a19 (a76 i)) (by rw [b7V]; omega)]
end Go.Pl
end
section
namespace Go.Pl
open Go Go.RowKit Go.Sx Go.Qx
def b3i (_:Int):Nat:=1
def a8C (l:List Int):Nat:=(l.map b3i).sum+1
theorem c0x {α:Type}(b:α->Nat)(h:∀ x,1<=b x):∀ l:List α,l.length<=(l.map b).sum
 | []=>Nat.zero_le _
 | y::l=>by
   have h1:=h y
   have h2:=c0x b h l
   rw [List.map_cons,List.sum_cons,List.length_cons]
   omega
end Go.Pl
end
section
namespace Go.Pl
open Go Go.RowKit Go.Sx Go.Qx
theorem c44:a17 200000000=some true:=by decide +kernel
theorem c6k {b:UInt8}{v:Int}(h0:0<=v)(h1:v<256)(hne:(b.toNat:Int)≠v):UInt8.ofNat v.toNat≠b:=by
 intro e
 apply hne
 rw [<- e]
 exact c0q h0 h1
theorem c2b {s t:ByteArray}(h:s.size+t.size<=2000000):a2S s t=some (s++t):=by
 unfold a2S
 rw [if_pos (by omega)]
theorem c1w {n:Nat}{s x:ByteArray}{e:Int}(h:a3k s=some (x,e))(he:(e==0)=false):∃ i,a2i n s=some (i,e):=by
 unfold a2i
 rw [h]
 have h1:(e != 0)=true:=by simp [bne,he]
 simp only [Option.bind_some,h1,cond_true]
 exact ⟨_,rfl⟩
theorem c48 (a:Int){s:Nat}(h0:0<s)(h1:s<=1000000):∃ k:Nat,b0g (wr .u64 a) (wr .u64 (s:Int))=some (k:Int)/\k<s:=by
 have e:wr .u64 (s:Int)=(s:Int):=by rw [wrU]; omega
 have ha:0<=wr .u64 a:=by rw [wrU]; omega
 obtain ⟨b,hb⟩:∃ b:Nat,wr .u64 a=(b:Int):=⟨(wr .u64 a).toNat,by omega⟩
 refine ⟨b%s,?_,Nat.mod_lt _ h0⟩
 unfold b0g
 rw [e,hb,if_neg (by omega)]
 congr 1
theorem c5N:∀ l:List Int,l.length<=a8C l:=fun l=>by
 unfold a8C
 have:=c0x b3i (fun _=>Nat.le_refl _) l
 omega
theorem b3d (l:List Int)(a c:Int)(hb:a8C l<=1048576)(hc:0<=c/\c<256):∃ n,a0j n l a c=some true:=by
 refine ⟨200000000,?_⟩
 obtain ⟨i,h1,h2⟩:=c4S l (by have:=c5N l; omega)
 unfold a0j
 rw [h1,c44]
 simp only [Option.bind_some]
 rcases c2z h2 with he | ⟨he,_⟩
 ·rw [he]
  rfl
 ·rw [he]
  have hJ:=c0A h2
  have hs:(a19 (a76 i)).size<=400000:=by rw [b7V]; exact b8u hJ
  have hz:=b5c (a19 (a76 i))
  generalize a19 (a76 i)=s at *
  obtain ⟨k,hk,hkl⟩:=c48 a (s:=(Q1 s).size) (by omega) (by omega)
  have hlen:(Q1 s).data.toList.length=(Q1 s).size:=Array.length_toList
  obtain ⟨b,hbk⟩:∃ b,(Q1 s).data.toList[k]?=some b:=⟨_,List.getElem?_eq_getElem (by omega)⟩
  have w1:wr .i64 (k:Int)=(k:Int):=by rw [a08,W5 (by omega) (by omega)]
  have hsx:a0O (Q1 s) (k:Int)=some b:=by
   unfold a0O
   rw [if_pos (Int.natCast_nonneg k),Int.toNat_natCast,<- hbk,Array.getElem?_toList]
   rfl
  have hz0:((((Q1 s).size:Int))==0)=false:=by
   have:((Q1 s).size:Int)≠0:=by omega
   simpa using this
  simp only [Option.bind_some,bne_self_eq_false,cond_false,hz0,hk,w1,hsx]
  obtain ⟨v,hv,hv0,hv1,hvn⟩:∃ v:Int,(bif ((b.toNat:Int)==c) then some (wr .u8 (c+1)) else some c)=some v/\0<=v/\v<256/\(b.toNat:Int)≠v:=by
   cases hbc:((b.toNat:Int)==c)
   ·exact ⟨c,rfl,hc.1,hc.2,by simpa using hbc⟩
   ·have e:(b.toNat:Int)=c:=by simpa using hbc
    refine ⟨wr .u8 (c+1),rfl,by rw [b9A]; omega,by rw [b9A]; omega,by rw [e,b9A]; omega⟩
  rw [hv]
  have hx1:((Q1 s).extract 0 k).size=k:=b9Q (by omega)
  have hx2:(a19 ([v]:List Int)).size=1:=rfl
  have hx3:((Q1 s).extract (k+1) (Q1 s).size).size=(Q1 s).size-(k+1):=by rw [ByteArray.size_extract]; omega
  have w2:wr .i64 ((k:Int)+1)=((k+1:Nat):Int):=b3v (by omega)
  simp only [Option.bind_some,c10 (s:=Q1 s) (k:=k) (by omega),c2b (s:=(Q1 s).extract 0 k) (t:=a19 ([v]:List Int)) (by omega),w2,c5B (s:=Q1 s) (k:=k+1) (by omega),
   c2b (s:=(Q1 s).extract 0 k++a19 ([v]:List Int)) (t:=(Q1 s).extract (k+1) (Q1 s).size) (by rw [ByteArray.size_append]; omega)]
  obtain ⟨x,e,ho,he0⟩:=b8I (s:=s) (by omega) hbk (c6k hv0 hv1 hvn) (b93 (s:=Q1 s) (by omega) v)
  obtain ⟨j,hj⟩:=c1w (n:=200000000) ho he0
  have h1:(e != 0)=true:=by simp [bne,he0]
  rw [hj]
  simp only [Option.bind_some,h1,cond_true]
end Go.Pl
end
section
namespace Go.Proofs
open Go.Shelf
set_option maxRecDepth 100000
def Tryz.lay110_ren:Go.Shelf.Ren:=⟨fun | 190=>110 | 125=>141 | 258=>140 | 128=>163 | 129=>164 | 302=>154 | 303=>155 | 304=>156 | 305=>157 | 306=>158 | 307=>159 | 308=>160 | 309=>161 | 310=>162 | 333=>173 | 329=>174 | 330=>175 | 334=>176 | 335=>177 | 336=>82 | 344=>185 | n=>n,fun | 31=>41 | 9=>9 | 3=>3 | 46=>35 | 0=>0 | 51=>71 | 53=>143 | 4=>4 | 183=>197 | 182=>196 | 131=>181 | 5=>5 | 218=>206 | 222=>210 | 228=>219 | 229=>220 | n=>n,fun | n=>n⟩
theorem Tryz.lay110:Go.Proofs.Lays.n190 Tryz.prog Tryz.lay110_ren:={
 mixed:=by kernel_rfl
 f125:=Tryz.func141.trans (congrArg some (by kernel_rfl))
 f128:=Tryz.func163.trans (congrArg some (by kernel_rfl))
 f129:=Tryz.func164.trans (congrArg some (by kernel_rfl))
 f190:=Tryz.func110.trans (congrArg some (by kernel_rfl))
 f258:=Tryz.func140.trans (congrArg some (by kernel_rfl))
 f302:=Tryz.func154.trans (congrArg some (by kernel_rfl))
 f303:=Tryz.func155.trans (congrArg some (by kernel_rfl))
 f304:=Tryz.func156.trans (congrArg some (by kernel_rfl))
 f305:=Tryz.func157.trans (congrArg some (by kernel_rfl))
 f306:=Tryz.func158.trans (congrArg some (by kernel_rfl))
 f307:=Tryz.func159.trans (congrArg some (by kernel_rfl))
 f308:=Tryz.func160.trans (congrArg some (by kernel_rfl))
 f309:=Tryz.func161.trans (congrArg some (by kernel_rfl))
 f310:=Tryz.func162.trans (congrArg some (by kernel_rfl))
 f329:=Tryz.func174.trans (congrArg some (by kernel_rfl))
 f330:=Tryz.func175.trans (congrArg some (by kernel_rfl))
 f333:=Tryz.func173.trans (congrArg some (by kernel_rfl))
 f334:=Tryz.func176.trans (congrArg some (by kernel_rfl))
 f335:=Tryz.func177.trans (congrArg some (by kernel_rfl))
 f336:=Tryz.func82.trans (congrArg some (by kernel_rfl))
 f344:=Tryz.func185.trans (congrArg some (by kernel_rfl))
 t0:=Tryz.underlying0
 a0:=Tryz.isAgg0
 z0:=Tryz.sizeOf0
 v0:=Tryz.zeroValue0
 t3:=Tryz.underlying3
 a3:=Tryz.isAgg3
 z3:=Tryz.sizeOf3
 v3:=Tryz.zeroValue3
 t4:=Tryz.underlying4
 a4:=Tryz.isAgg4
 z4:=Tryz.sizeOf4
 v4:=Tryz.zeroValue4
 t5:=Tryz.underlying5
 a5:=Tryz.isAgg5
 z5:=Tryz.sizeOf5
 v5:=Tryz.zeroValue5
 t9:=Tryz.underlying9
 a9:=Tryz.isAgg9
 z9:=Tryz.sizeOf9
 v9:=Tryz.zeroValue9
 t31:=Tryz.underlying41
 a31:=Tryz.isAgg41
 z31:=Tryz.sizeOf41
 v31:=Tryz.zeroValue41
 t46:=Tryz.underlying35
 a46:=Tryz.isAgg35
 z46:=Tryz.sizeOf35
 v46:=Tryz.zeroValue35
 t51:=Tryz.underlying71
 a51:=Tryz.isAgg71
 z51:=Tryz.sizeOf71
 v51:=Tryz.zeroValue71
 t53:=Tryz.underlying143
 a53:=Tryz.isAgg143
 z53:=Tryz.sizeOf143
 v53:=Tryz.zeroValue143
 t131:=Tryz.underlying181
 a131:=Tryz.isAgg181
 z131:=Tryz.sizeOf181
 v131:=Tryz.zeroValue181
 t182:=Tryz.underlying196
 a182:=Tryz.isAgg196
 z182:=Tryz.sizeOf196
 v182:=Tryz.zeroValue196
 t183:=Tryz.underlying197
 a183:=Tryz.isAgg197
 z183:=Tryz.sizeOf197
 v183:=Tryz.zeroValue197
 t218:=Tryz.underlying206
 a218:=Tryz.isAgg206
 z218:=Tryz.sizeOf206
 v218:=Tryz.zeroValue206
 t222:=Tryz.underlying210
 a222:=Tryz.isAgg210
 z222:=Tryz.sizeOf210
 v222:=Tryz.zeroValue210
 t228:=Tryz.underlying219
 a228:=Tryz.isAgg219
 z228:=Tryz.sizeOf219
 v228:=Tryz.zeroValue219
 t229:=Tryz.underlying220
 a229:=Tryz.isAgg220
 z229:=Tryz.sizeOf220
 v229:=Tryz.zeroValue220 }
end Go.Proofs
end
section
namespace Go.Qx
open Go Go.RowKit Go.Sx
set_option maxRecDepth 100000
abbrev b6f (v:Api_Ref):ByteArray×Int:=(v.Name,v.Arity)
abbrev c1r (x:ByteArray×Int):Api_Ref:=⟨x.1,x.2⟩
@[reducible] def a48:Rp Api_Ref:=a38 b6f (Q6 (rpStr) (rpK .i64))
abbrev b3E (v:Api_Field):Key×Int×Bool:=(v.Key_,v.Node,v.Optional)
abbrev b9m (x:Key×Int×Bool):Api_Field:=⟨x.1,x.2.1,x.2.2⟩
@[reducible] def a2u:Rp Api_Field:=a38 b3E (Q6 (rpKey) (Q6 (rpK .i64) (rpBool)))
abbrev a9S (v:Api_TypeNode):Int×Int×Int×ByteArray×(List Int)×(List Api_Field)×(Int×Int):=(v.Kind,v.Lo,v.Hi,v.Text,v.Kids,v.Fields,v.Rest)
abbrev b6Q (x:Int×Int×Int×ByteArray×(List Int)×(List Api_Field)×(Int×Int)):Api_TypeNode:=⟨x.1,x.2.1,x.2.2.1,x.2.2.2.1,x.2.2.2.2.1,x.2.2.2.2.2.1,x.2.2.2.2.2.2⟩
@[reducible] def a1d:Rp Api_TypeNode:=a38 a9S (Q6 (rpK .i64) (Q6 (rpK .i64) (Q6 (rpK .i64) (Q6 (rpStr) (Q6 (@rpList _ (rpK .i64)) (Q6 (@rpList _ (a2u)) (Q6 (rpK .i64) (rpK .i64))))))))
abbrev b5e (v:Api_Type):(List Api_TypeNode)×Int:=(v.Nodes,v.Root)
abbrev b92 (x:(List Api_TypeNode)×Int):Api_Type:=⟨x.1,x.2⟩
@[reducible] def a0z:Rp Api_Type:=a38 b5e (Q6 (@rpList _ (a1d)) (rpK .i64))
abbrev a9j (v:Api_Signature):Api_Ref×Api_Type:=(v.Ref,v.Type_)
abbrev b5H (x:Api_Ref×Api_Type):Api_Signature:=⟨x.1,x.2⟩
@[reducible] def a0Y:Rp Api_Signature:=a38 a9j (Q6 (a48) (a0z))
abbrev a82 (v:Api_Interface):ByteArray×Bool×(List Api_Signature):=(v.Module,v.Checked,v.Signatures)
abbrev b5D (x:ByteArray×Bool×(List Api_Signature)):Api_Interface:=⟨x.1,x.2.1,x.2.2⟩
@[reducible] def a4c:Rp Api_Interface:=a38 a82 (Q6 (rpStr) (Q6 (rpBool) (@rpList _ (a0Y))))
abbrev a4w (v:Semtypebase_Source):(List Int)×Int:=(v.L,v.At)
abbrev b0T (x:(List Int)×Int):Semtypebase_Source:=⟨x.1,x.2⟩
@[reducible] def a2q:Rp Semtypebase_Source:=a38 a4w (Q6 (@rpList _ (rpK .i64)) (rpK .i64))
abbrev a7E (v:Summary_writer):(List Int):=v.b
abbrev b47 (x:(List Int)):Summary_writer:=⟨x⟩
@[reducible] def a3P:Rp Summary_writer:=a38 a7E (@rpList _ (rpK .u8))
abbrev a7J (v:Summary_reader):ByteArray×Int×Int:=(v.s,v.at_,v.code)
abbrev b4Y (x:ByteArray×Int×Int):Summary_reader:=⟨x.1,x.2.1,x.2.2⟩
@[reducible] def a3U:Rp Summary_reader:=a38 a7J (Q6 (rpStr) (Q6 (rpK .i64) (rpK .i64)))
abbrev a4u (v:Semtypeprog_Callee):ByteArray×ByteArray×(List Int)×Int:=(v.Module,v.Name,v.Params,v.Result)
abbrev b0W (x:ByteArray×ByteArray×(List Int)×Int):Semtypeprog_Callee:=⟨x.1,x.2.1,x.2.2.1,x.2.2.2⟩
@[reducible] def a2p:Rp Semtypeprog_Callee:=a38 a4u (Q6 (rpStr) (Q6 (rpStr) (Q6 (@rpList _ (rpK .i64)) (rpK .i64))))
abbrev b3g (v:Api_Arrow):(List Api_Type)×Api_Type:=(v.Params,v.Result)
abbrev b9S (x:(List Api_Type)×Api_Type):Api_Arrow:=⟨x.1,x.2⟩
@[reducible] def a8V:Rp Api_Arrow:=a38 b3g (Q6 (@rpList _ (a0z)) (a0z))
abbrev a4x (v:Semtyperef18_token):Int×ByteArray:=(v.Kind,v.Text)
abbrev b02 (x:Int×ByteArray):Semtyperef18_token:=⟨x.1,x.2⟩
@[reducible] def a2n:Rp Semtyperef18_token:=a38 a4x (Q6 (rpK .i64) (rpStr))
def tyL:List TE:=[⟨2,Int,rpK .i64⟩,
 ⟨3,Int,rpK .i64⟩,
 ⟨4,Bool,rpBool⟩,
 ⟨5,Int,rpK .u8⟩,
 ⟨9,ByteArray,rpStr⟩,
 ⟨22,List Int,@rpList _ (rpK .i64)⟩,
 ⟨23,List Api_Signature,@rpList _ (a0Y)⟩,
 ⟨25,Api_Interface,a4c⟩,
 ⟨27,Int,rpK .i64⟩,
 ⟨36,List Int,@rpList _ (rpK .u8)⟩,
 ⟨49,Semtypebase_Source,a2q⟩,
 ⟨51,Api_Ref,a48⟩,
 ⟨52,List Api_TypeNode,@rpList _ (a1d)⟩,
 ⟨54,Api_Type,a0z⟩,
 ⟨57,Api_Signature,a0Y⟩,
 ⟨61,Summary_writer,a3P⟩,
 ⟨67,Summary_reader,a3U⟩,
 ⟨75,Semtypeprog_Callee,a2p⟩,
 ⟨78,List Api_Field,@rpList _ (a2u)⟩,
 ⟨79,Int×Int,Q6 (rpK .i64) (rpK .i64)⟩,
 ⟨81,Api_TypeNode,a1d⟩,
 ⟨100,Key,rpKey⟩,
 ⟨102,Api_Field,a2u⟩,
 ⟨115,List Api_Type,@rpList _ (a0z)⟩,
 ⟨117,Api_Arrow,a8V⟩,
 ⟨174,Semtyperef18_token,a2n⟩,
 ⟨290,Bool×Bool,Q6 (rpBool) (rpBool)⟩]
abbrev I (E:TypeId):Type:=(c04 tyL E).α
instance rI (E:TypeId):Rp (I E):=(c04 tyL E).rp
def b5I:Fd I (I 25) inferInstance:=(a3C (rg:=a4c) (W7 (a8k:Fd I ByteArray (rpStr)) (W7 (b3l:Fd I Bool (rpBool)) ((a4Q 57:Fd I (List Api_Signature) (@rpList _ (a0Y)))))) a82 b5D (fun _=>rfl) (fun _ _ _=>Iff.rfl):Fd I Api_Interface a4c)
def b1q:Fd I (I 49) inferInstance:=(a3C (rg:=a2q) (W7 (a4Q 3:Fd I (List Int) (@rpList _ (rpK .i64))) ((a1I .i64:Fd I Int (rpK .i64)))) a4w b0T (fun _=>rfl) (fun _ _ _=>Iff.rfl):Fd I Semtypebase_Source a2q)
def b6h:Fd I (I 51) inferInstance:=(a3C (rg:=a48) (W7 (a8k:Fd I ByteArray (rpStr)) ((a1I .i64:Fd I Int (rpK .i64)))) b6f c1r (fun _=>rfl) (fun _ _ _=>Iff.rfl):Fd I Api_Ref a48)
def b0b:Fd I (I 54) inferInstance:=(a3C (rg:=a0z) (W7 (a4Q 81:Fd I (List Api_TypeNode) (@rpList _ (a1d))) ((a1I .i64:Fd I Int (rpK .i64)))) b5e b92 (fun _=>rfl) (fun _ _ _=>Iff.rfl):Fd I Api_Type a0z)
def b5v:Fd I (I 57) inferInstance:=(a3C (rg:=a0Y) (W7 (b6C 51 b6h:Fd I Api_Ref (a48)) ((b6C 54 b0b:Fd I Api_Type (a0z)))) a9j b5H (fun _=>rfl) (fun _ _ _=>Iff.rfl):Fd I Api_Signature a0Y)
def b41:Fd I (I 61) inferInstance:=(a3C (rg:=a3P) ((a4Q 5:Fd I (List Int) (@rpList _ (rpK .u8)))) a7E b47 (fun _=>rfl) (fun _ _ _=>Iff.rfl):Fd I Summary_writer a3P)
def b5a:Fd I (I 67) inferInstance:=(a3C (rg:=a3U) (W7 (a8k:Fd I ByteArray (rpStr)) (W7 (a1I .i64:Fd I Int (rpK .i64)) ((a1I .i64:Fd I Int (rpK .i64))))) a7J b4Y (fun _=>rfl) (fun _ _ _=>Iff.rfl):Fd I Summary_reader a3U)
def b1k:Fd I (I 75) inferInstance:=(a3C (rg:=a2p) (W7 (a8k:Fd I ByteArray (rpStr)) (W7 (a8k:Fd I ByteArray (rpStr)) (W7 (a4Q 3:Fd I (List Int) (@rpList _ (rpK .i64))) ((a1I .i64:Fd I Int (rpK .i64)))))) a4u b0W (fun _=>rfl) (fun _ _ _=>Iff.rfl):Fd I Semtypeprog_Callee a2p)
def c12:Fd I (I 79) inferInstance:=(W7 (a1I .i64:Fd I Int (rpK .i64)) ((a1I .i64:Fd I Int (rpK .i64))):Fd I (Int×Int) (Q6 (rpK .i64) (rpK .i64)))
def b6i:Fd I (I 81) inferInstance:=(a3C (rg:=a1d) (W7 (a1I .i64:Fd I Int (rpK .i64)) (W7 (a1I .i64:Fd I Int (rpK .i64)) (W7 (a1I .i64:Fd I Int (rpK .i64)) (W7 (a8k:Fd I ByteArray (rpStr)) (W7 (a4Q 3:Fd I (List Int) (@rpList _ (rpK .i64))) (W7 (a4Q 102:Fd I (List Api_Field) (@rpList _ (a2u))) ((b6C 79 c12:Fd I (Int×Int) (Q6 (rpK .i64) (rpK .i64)))))))))) a9S b6Q (fun _=>rfl) (fun _ _ _=>Iff.rfl):Fd I Api_TypeNode a1d)
def c2r:Fd I (I 100) inferInstance:=(a3C (rg:=rpKey) (W7 (a1I .i64:Fd I Int (rpK .i64)) ((a8k:Fd I ByteArray (rpStr)))) Key.to Key.of (fun _=>rfl) Key.cells_to:Fd I Key rpKey)
def b9J:Fd I (I 102) inferInstance:=(a3C (rg:=a2u) (W7 (b6C 100 c2r:Fd I Key (rpKey)) (W7 (a1I .i64:Fd I Int (rpK .i64)) ((b3l:Fd I Bool (rpBool))))) b3E b9m (fun _=>rfl) (fun _ _ _=>Iff.rfl):Fd I Api_Field a2u)
def b9N:Fd I (I 117) inferInstance:=(a3C (rg:=a8V) (W7 (a4Q 54:Fd I (List Api_Type) (@rpList _ (a0z))) ((b6C 54 b0b:Fd I Api_Type (a0z)))) b3g b9S (fun _=>rfl) (fun _ _ _=>Iff.rfl):Fd I Api_Arrow a8V)
def b1j:Fd I (I 174) inferInstance:=(a3C (rg:=a2n) (W7 (a1I .i64:Fd I Int (rpK .i64)) ((a8k:Fd I ByteArray (rpStr)))) a4x b02 (fun _=>rfl) (fun _ _ _=>Iff.rfl):Fd I Semtyperef18_token a2n)
def c4n:Fd I (I 290) inferInstance:=(W7 (b3l:Fd I Bool (rpBool)) ((b3l:Fd I Bool (rpBool))):Fd I (Bool×Bool) (Q6 (rpBool) (rpBool)))
def feL:List (FE I):=[⟨2,a1I .i64⟩,
 ⟨3,a1I .i64⟩,
 ⟨4,b3l⟩,
 ⟨5,a1I .u8⟩,
 ⟨9,a8k⟩,
 ⟨22,a4Q 3⟩,
 ⟨23,a4Q 57⟩,
 ⟨25,b5I⟩,
 ⟨27,a1I .i64⟩,
 ⟨36,a4Q 5⟩,
 ⟨49,b1q⟩,
 ⟨51,b6h⟩,
 ⟨52,a4Q 81⟩,
 ⟨54,b0b⟩,
 ⟨57,b5v⟩,
 ⟨61,b41⟩,
 ⟨67,b5a⟩,
 ⟨75,b1k⟩,
 ⟨78,a4Q 102⟩,
 ⟨79,c12⟩,
 ⟨81,b6i⟩,
 ⟨100,c2r⟩,
 ⟨102,b9J⟩,
 ⟨115,a4Q 54⟩,
 ⟨117,b9N⟩,
 ⟨174,b1j⟩,
 ⟨290,c4n⟩]
def c5b:TabL I where
 sz:=[(25,3),(51,2),(54,2),(57,4),(75,4),(79,2),(81,8),(100,2),(102,4),(117,3),(174,2)]
 one:=[(2,()),(3,()),(4,()),(9,()),(22,()),(23,()),(27,()),(36,()),(41,()),(42,()),(52,()),(78,()),(115,()),(120,()),(135,()),(149,()),(153,())]
 fld:=[(25,[(0,9),(1,4),(2,23)]),(45,[(0,42),(1,43),(2,3),(3,4),(4,3)]),(49,[(0,22),(1,3)]),(51,[(0,9),(1,3)]),(54,[(0,52),(1,3)]),(57,[(0,51),(2,54)]),(61,[(0,36)]),(67,[(0,9),(1,3),(2,27)]),(75,[(0,9),(1,9),(2,22),(3,3)]),(81,[(0,3),(1,2),(2,2),(3,9),(4,22),(5,78),(6,79)]),(100,[(0,3),(1,9)]),(102,[(0,100),(2,3),(3,4)]),(117,[(0,115),(1,54)]),(155,[(0,149),(1,3),(2,4),(3,4),(4,4),(5,3),(6,54),(8,41),(9,22),(10,153),(11,41)]),(174,[(0,3),(1,9)])]
 el:=[(22,3),(23,57),(36,5),(41,9),(43,75),(52,81),(73,51),(78,102),(103,2),(112,117),(115,54),(129,100),(149,174),(153,4)]
 str:=[(9,())]
 bool:=[]
 ik:=[(2,.i64),(3,.i64),(5,.u8),(35,.u64),(71,.u32),(143,.u64)]
 fe:=feL
 inf:=[(2,1,8,[.int .i64 0]),(3,1,8,[.int .i64 0]),(4,1,1,[.bool false]),(5,1,1,[.int .u8 0]),(9,1,16,[.str ⟨#[]⟩]),(22,1,24,[.nl 3]),(23,1,24,[.nl 57]),(25,3,48,[.str ⟨#[]⟩,.bool false,.nl 57]),(27,1,8,[.int .i64 0]),(36,1,24,[.nl 5]),(45,5,56,[.any,.nl 75,.int .i64 0,.bool false,.int .i64 0]),(49,2,32,[.nl 3,.int .i64 0]),(51,2,24,[.str ⟨#[]⟩,.int .i64 0]),(52,1,24,[.nl 81]),(54,2,32,[.nl 81,.int .i64 0]),(57,4,56,[.str ⟨#[]⟩,.int .i64 0,.nl 81,.int .i64 0]),(61,1,24,[.nl 5]),(67,3,32,[.str ⟨#[]⟩,.int .i64 0,.int .i64 0]),(75,4,64,[.str ⟨#[]⟩,.str ⟨#[]⟩,.nl 3,.int .i64 0]),(78,1,24,[.nl 102]),(79,2,16,[.int .i64 0,.int .i64 0]),(81,8,104,[.int .i64 0,.int .i64 0,.int .i64 0,.str ⟨#[]⟩,.nl 3,.nl 102,.int .i64 0,.int .i64 0]),(100,2,24,[.int .i64 0,.str ⟨#[]⟩]),(102,4,40,[.int .i64 0,.str ⟨#[]⟩,.int .i64 0,.bool false]),(115,1,24,[.nl 54]),(117,3,56,[.nl 54,.nl 81,.int .i64 0]),(120,1,8,[.any]),(135,1,8,[.any]),(153,1,24,[.nl 4]),(155,12,176,[.nl 174,.int .i64 0,.bool false,.bool false,.bool false,.int .i64 0,.nl 81,.int .i64 0,.nl 9,.nl 3,.nl 4,.nl 9]),(174,2,24,[.int .i64 0,.str ⟨#[]⟩]),(290,2,2,[.bool false,.bool false])]
 st:=[(25,[(0,1),(1,1),(2,1)]),(45,[(0,1),(1,1),(2,1),(3,1),(4,1)]),(49,[(0,1),(1,1)]),(51,[(0,1),(1,1)]),(54,[(0,1),(1,1)]),(57,[(0,2),(2,2)]),(61,[(0,1)]),(67,[(0,1),(1,1),(2,1)]),(75,[(0,1),(1,1),(2,1),(3,1)]),(79,[(0,1),(1,1)]),(81,[(0,1),(1,1),(2,1),(3,1),(4,1),(5,1),(6,2)]),(100,[(0,1),(1,1)]),(102,[(0,2),(2,1),(3,1)]),(117,[(0,1),(1,2)]),(155,[(0,1),(1,1),(2,1),(3,1),(4,1),(5,1),(6,2),(8,1),(9,1),(10,1),(11,1)]),(174,[(0,1),(1,1)]),(290,[(0,1),(1,1)])]
 eq:=[(51,b6U feL 51 a6S),(79,b6U feL 79 a9l),(100,b6U feL 100 b4u)]
 nest:=[(22,3,0),(191,3,1)]
 arr:=[(79,3,2,1),(290,4,2,1)]
 u8:=[(5,())]
 u8g:=[⟨5,fun y=>y⟩]
 mp:=[(132,.bool)]
 fb:=[(74,()),(75,()),(91,()),(103,()),(104,()),(115,())]
abbrev tb:Tab I:=c4c c5b
theorem ti2:Z9 Go.Proofs.Tryz.prog 2 (.int .i64 0) 1 8:=Z5 (by kernel_rfl)
theorem ti3:Z9 Go.Proofs.Tryz.prog 3 (.int .i64 0) 1 8:=Z5 (by kernel_rfl)
theorem ti4:Z9 Go.Proofs.Tryz.prog 4 (.bool false) 1 1:=Z5 (by kernel_rfl)
theorem ti5:Z9 Go.Proofs.Tryz.prog 5 (.int .u8 0) 1 1:=Z5 (by kernel_rfl)
theorem ti9:Z9 Go.Proofs.Tryz.prog 9 (.string ⟨#[]⟩) 1 16:=Z5 (by kernel_rfl)
theorem c7A:Z9 Go.Proofs.Tryz.prog 22 (.slice none 0 0) 1 24:=Z5 (by kernel_rfl)
theorem c7W:Z9 Go.Proofs.Tryz.prog 23 (.slice none 0 0) 1 24:=Z5 (by kernel_rfl)
theorem c7x:Z9 Go.Proofs.Tryz.prog 25 (.agg #[.string ⟨#[]⟩,.bool false,.slice none 0 0]) 3 48:=Z5 (by kernel_rfl)
theorem c7v:Z9 Go.Proofs.Tryz.prog 27 (.int .i64 0) 1 8:=Z5 (by kernel_rfl)
theorem c7K:Z9 Go.Proofs.Tryz.prog 36 (.slice none 0 0) 1 24:=Z5 (by kernel_rfl)
theorem c7Q:Z9 Go.Proofs.Tryz.prog 45 (.agg #[.pointer none,.slice none 0 0,.int .i64 0,.bool false,.int .i64 0]) 5 56:=Z5 (by kernel_rfl)
theorem c7r:Z9 Go.Proofs.Tryz.prog 49 (.agg #[.slice none 0 0,.int .i64 0]) 2 32:=Z5 (by kernel_rfl)
theorem c5I:Z9 Go.Proofs.Tryz.prog 51 (.agg #[.string ⟨#[]⟩,.int .i64 0]) 2 24:=Z5 (by kernel_rfl)
theorem c7M:Z9 Go.Proofs.Tryz.prog 52 (.slice none 0 0) 1 24:=Z5 (by kernel_rfl)
theorem c5G:Z9 Go.Proofs.Tryz.prog 54 (.agg #[.slice none 0 0,.int .i64 0]) 2 32:=Z5 (by kernel_rfl)
theorem c5e:Z9 Go.Proofs.Tryz.prog 57 (.agg #[.string ⟨#[]⟩,.int .i64 0,.slice none 0 0,.int .i64 0]) 4 56:=Z5 (by kernel_rfl)
theorem c7G:Z9 Go.Proofs.Tryz.prog 61 (.agg #[.slice none 0 0]) 1 24:=Z5 (by kernel_rfl)
theorem c7C:Z9 Go.Proofs.Tryz.prog 67 (.agg #[.string ⟨#[]⟩,.int .i64 0,.int .i64 0]) 3 32:=Z5 (by kernel_rfl)
theorem c47:Z9 Go.Proofs.Tryz.prog 75 (.agg #[.string ⟨#[]⟩,.string ⟨#[]⟩,.slice none 0 0,.int .i64 0]) 4 64:=Z5 (by kernel_rfl)
theorem c7q:Z9 Go.Proofs.Tryz.prog 78 (.slice none 0 0) 1 24:=Z5 (by kernel_rfl)
theorem c7F:Z9 Go.Proofs.Tryz.prog 79 (.agg #[.int .i64 0,.int .i64 0]) 2 16:=Z5 (by kernel_rfl)
theorem c5D:Z9 Go.Proofs.Tryz.prog 81 (.agg #[.int .i64 0,.int .i64 0,.int .i64 0,.string ⟨#[]⟩,.slice none 0 0,.slice none 0 0,.int .i64 0,.int .i64 0]) 8 104:=Z5 (by kernel_rfl)
theorem c4e:Z9 Go.Proofs.Tryz.prog 100 (.agg #[.int .i64 0,.string ⟨#[]⟩]) 2 24:=Z5 (by kernel_rfl)
theorem c4b:Z9 Go.Proofs.Tryz.prog 102 (.agg #[.int .i64 0,.string ⟨#[]⟩,.int .i64 0,.bool false]) 4 40:=Z5 (by kernel_rfl)
theorem c69:Z9 Go.Proofs.Tryz.prog 115 (.slice none 0 0) 1 24:=Z5 (by kernel_rfl)
theorem c33:Z9 Go.Proofs.Tryz.prog 117 (.agg #[.slice none 0 0,.slice none 0 0,.int .i64 0]) 3 56:=Z5 (by kernel_rfl)
theorem c6E:Z9 Go.Proofs.Tryz.prog 120 (.nilFunc) 1 8:=Z5 (by kernel_rfl)
theorem c7d:Z9 Go.Proofs.Tryz.prog 135 (.nilFunc) 1 8:=Z5 (by kernel_rfl)
theorem c6T:Z9 Go.Proofs.Tryz.prog 153 (.slice none 0 0) 1 24:=Z5 (by kernel_rfl)
theorem c6q:Z9 Go.Proofs.Tryz.prog 155 (.agg #[.slice none 0 0,.int .i64 0,.bool false,.bool false,.bool false,.int .i64 0,.slice none 0 0,.int .i64 0,.slice none 0 0,.slice none 0 0,.slice none 0 0,.slice none 0 0]) 12 176:=Z5 (by kernel_rfl)
theorem c3W:Z9 Go.Proofs.Tryz.prog 174 (.agg #[.int .i64 0,.string ⟨#[]⟩]) 2 24:=Z5 (by kernel_rfl)
theorem c6i:Z9 Go.Proofs.Tryz.prog 290 (.agg #[.bool false,.bool false]) 2 2:=Z5 (by kernel_rfl)
theorem to2:a0C Go.Proofs.Tryz.prog 2:=⟨_,Go.Proofs.Tryz.underlying2,rfl,by kernel_rfl⟩
theorem to3:a0C Go.Proofs.Tryz.prog 3:=⟨_,Go.Proofs.Tryz.underlying3,rfl,by kernel_rfl⟩
theorem to4:a0C Go.Proofs.Tryz.prog 4:=⟨_,Go.Proofs.Tryz.underlying4,rfl,by kernel_rfl⟩
theorem to9:a0C Go.Proofs.Tryz.prog 9:=⟨_,Go.Proofs.Tryz.underlying9,rfl,by kernel_rfl⟩
theorem c7u:a0C Go.Proofs.Tryz.prog 22:=⟨_,Go.Proofs.Tryz.underlying22,rfl,by kernel_rfl⟩
theorem c7l:a0C Go.Proofs.Tryz.prog 23:=⟨_,Go.Proofs.Tryz.underlying23,rfl,by kernel_rfl⟩
theorem c7X:a0C Go.Proofs.Tryz.prog 27:=⟨_,Go.Proofs.Tryz.underlying27,rfl,by kernel_rfl⟩
theorem c7z:a0C Go.Proofs.Tryz.prog 36:=⟨_,Go.Proofs.Tryz.underlying36,rfl,by kernel_rfl⟩
theorem c7J:a0C Go.Proofs.Tryz.prog 41:=⟨_,Go.Proofs.Tryz.underlying41,rfl,by kernel_rfl⟩
theorem c7V:a0C Go.Proofs.Tryz.prog 42:=⟨_,Go.Proofs.Tryz.underlying42,rfl,by kernel_rfl⟩
theorem c7N:a0C Go.Proofs.Tryz.prog 52:=⟨_,Go.Proofs.Tryz.underlying52,rfl,by kernel_rfl⟩
theorem c7m:a0C Go.Proofs.Tryz.prog 78:=⟨_,Go.Proofs.Tryz.underlying78,rfl,by kernel_rfl⟩
theorem c6y:a0C Go.Proofs.Tryz.prog 115:=⟨_,Go.Proofs.Tryz.underlying115,rfl,by kernel_rfl⟩
theorem c6K:a0C Go.Proofs.Tryz.prog 120:=⟨_,Go.Proofs.Tryz.underlying120,rfl,by kernel_rfl⟩
theorem c6S:a0C Go.Proofs.Tryz.prog 135:=⟨_,Go.Proofs.Tryz.underlying135,rfl,by kernel_rfl⟩
theorem c6n:a0C Go.Proofs.Tryz.prog 149:=⟨_,Go.Proofs.Tryz.underlying149,rfl,by kernel_rfl⟩
theorem c7c:a0C Go.Proofs.Tryz.prog 153:=⟨_,Go.Proofs.Tryz.underlying153,rfl,by kernel_rfl⟩
theorem c7U {σ:S}{x y:Api_Ref}{cs ds:List Value}(h:(rI 51).cells σ x cs)(k:(rI 51).cells σ y ds):Sx.EqAt Go.Proofs.Tryz.prog 2 51 (.agg cs.toArray) (.agg ds.toArray) (a6S x y):=by
 obtain ⟨_,_,rfl,rfl,rfl⟩:=h
 obtain ⟨_,_,rfl,rfl,rfl⟩:=k
 exact b5b Go.Proofs.Tryz.underlying51 (by kernel_rfl) (a9W (by decide) (a0Z to9 rfl) (a0Z to9 rfl) (b9C Go.Proofs.Tryz.underlying9) (a9W (by decide) (a0Z to3 rfl) (a0Z to3 rfl) (b1E Go.Proofs.Tryz.underlying3) b8U))
theorem c7p {σ:S}{x y:Int×Int}{cs ds:List Value}(h:(rI 79).cells σ x cs)(k:(rI 79).cells σ y ds):Sx.EqAt Go.Proofs.Tryz.prog 2 79 (.agg cs.toArray) (.agg ds.toArray) (a9l x y):=by
 obtain ⟨_,_,rfl,rfl,rfl⟩:=h
 obtain ⟨_,_,rfl,rfl,rfl⟩:=k
 exact c3x Go.Proofs.Tryz.underlying79 ti3 (b7P (a0Z to3 rfl) (a0Z to3 rfl) (b1E Go.Proofs.Tryz.underlying3) (b7P (a0Z to3 rfl) (a0Z to3 rfl) (b1E Go.Proofs.Tryz.underlying3) c2W))
theorem c6j {σ:S}{x y:Key}{cs ds:List Value}(h:(rI 100).cells σ x cs)(k:(rI 100).cells σ y ds):Sx.EqAt Go.Proofs.Tryz.prog 2 100 (.agg cs.toArray) (.agg ds.toArray) (b4u x y):=by
 obtain ⟨_,_,rfl,rfl,rfl⟩:=h
 obtain ⟨_,_,rfl,rfl,rfl⟩:=k
 exact b5b Go.Proofs.Tryz.underlying100 (by kernel_rfl) (a9W (by decide) (a0Z to3 rfl) (a0Z to3 rfl) (b1E Go.Proofs.Tryz.underlying3) (a9W (by decide) (a0Z to9 rfl) (a0Z to9 rfl) (b9C Go.Proofs.Tryz.underlying9) b8U))
theorem eqT (T:TypeId)(g:I T->I T->Bool){K:Nat}(h:∀ {σ:S} {x y:I T} {cs ds:List Value},Rp.cells σ x cs->Rp.cells σ y ds->Sx.EqAt Go.Proofs.Tryz.prog K T (.agg cs.toArray) (.agg ds.toArray) (g x y))(hg:Go.Proofs.Tryz.prog.eqGuardType (Go.Proofs.Tryz.prog).depth T=false)(hK:Nat.ble K 10000=true)
 {X:Cxt} {c:Cx} {σ:S} {ls ms:List (PV I)} {r:Bool} {cs ds:List Value} (h1:b6U feL T g ls ms=some r) (h2:RG X c σ ls cs) (h3:RG X c σ ms ds) :
 Go.Proofs.Tryz.prog.eqGuardType (Go.Proofs.Tryz.prog).depth T=false/\∃ j,Nat.ble j 10000=true/\Sx.EqAt Go.Proofs.Tryz.prog j T (.agg cs.toArray) (.agg ds.toArray) r:=by
 obtain ⟨x,y,k1,k2,rfl⟩:=c4v h1 h2 h3
 exact ⟨hg,K,hK,h k1 k2⟩
theorem c6b:TabLOk Go.Proofs.Tryz.prog c5b where
 sz:=⟨⟨_,Go.Proofs.Tryz.underlying25,rfl,by kernel_rfl⟩,⟨⟨_,Go.Proofs.Tryz.underlying51,rfl,by kernel_rfl⟩,⟨⟨_,Go.Proofs.Tryz.underlying54,rfl,by kernel_rfl⟩,⟨⟨_,Go.Proofs.Tryz.underlying57,rfl,by kernel_rfl⟩,⟨⟨_,Go.Proofs.Tryz.underlying75,rfl,by kernel_rfl⟩,⟨⟨_,Go.Proofs.Tryz.underlying79,rfl,by kernel_rfl⟩,⟨⟨_,Go.Proofs.Tryz.underlying81,rfl,by kernel_rfl⟩,⟨⟨_,Go.Proofs.Tryz.underlying100,rfl,by kernel_rfl⟩,⟨⟨_,Go.Proofs.Tryz.underlying102,rfl,by kernel_rfl⟩,⟨⟨_,Go.Proofs.Tryz.underlying117,rfl,by kernel_rfl⟩,⟨⟨_,Go.Proofs.Tryz.underlying174,rfl,by kernel_rfl⟩,trivial⟩⟩⟩⟩⟩⟩⟩⟩⟩⟩⟩
 one:=⟨to2,⟨to3,⟨to4,⟨to9,⟨c7u,⟨c7l,⟨c7X,⟨c7z,⟨c7J,⟨c7V,⟨c7N,⟨c7m,⟨c6y,⟨c6K,⟨c6S,⟨c6n,⟨c7c,trivial⟩⟩⟩⟩⟩⟩⟩⟩⟩⟩⟩⟩⟩⟩⟩⟩⟩
 fld:=⟨⟨⟨_,_,Go.Proofs.Tryz.underlying25,rfl,rfl,by kernel_rfl⟩,⟨⟨_,_,Go.Proofs.Tryz.underlying25,rfl,rfl⟩,⟨⟨_,_,Go.Proofs.Tryz.underlying25,rfl,rfl,by kernel_rfl⟩,⟨⟨_,_,Go.Proofs.Tryz.underlying25,rfl,rfl⟩,⟨⟨_,_,Go.Proofs.Tryz.underlying25,rfl,rfl,by kernel_rfl⟩,⟨⟨_,_,Go.Proofs.Tryz.underlying25,rfl,rfl⟩,trivial⟩⟩⟩⟩⟩⟩,⟨⟨⟨_,_,Go.Proofs.Tryz.underlying45,rfl,rfl,by kernel_rfl⟩,⟨⟨_,_,Go.Proofs.Tryz.underlying45,rfl,rfl⟩,⟨⟨_,_,Go.Proofs.Tryz.underlying45,rfl,rfl,by kernel_rfl⟩,⟨⟨_,_,Go.Proofs.Tryz.underlying45,rfl,rfl⟩,⟨⟨_,_,Go.Proofs.Tryz.underlying45,rfl,rfl,by kernel_rfl⟩,⟨⟨_,_,Go.Proofs.Tryz.underlying45,rfl,rfl⟩,⟨⟨_,_,Go.Proofs.Tryz.underlying45,rfl,rfl,by kernel_rfl⟩,⟨⟨_,_,Go.Proofs.Tryz.underlying45,rfl,rfl⟩,⟨⟨_,_,Go.Proofs.Tryz.underlying45,rfl,rfl,by kernel_rfl⟩,⟨⟨_,_,Go.Proofs.Tryz.underlying45,rfl,rfl⟩,trivial⟩⟩⟩⟩⟩⟩⟩⟩⟩⟩,⟨⟨⟨_,_,Go.Proofs.Tryz.underlying49,rfl,rfl,by kernel_rfl⟩,⟨⟨_,_,Go.Proofs.Tryz.underlying49,rfl,rfl⟩,⟨⟨_,_,Go.Proofs.Tryz.underlying49,rfl,rfl,by kernel_rfl⟩,⟨⟨_,_,Go.Proofs.Tryz.underlying49,rfl,rfl⟩,trivial⟩⟩⟩⟩,⟨⟨⟨_,_,Go.Proofs.Tryz.underlying51,rfl,rfl,by kernel_rfl⟩,⟨⟨_,_,Go.Proofs.Tryz.underlying51,rfl,rfl⟩,⟨⟨_,_,Go.Proofs.Tryz.underlying51,rfl,rfl,by kernel_rfl⟩,⟨⟨_,_,Go.Proofs.Tryz.underlying51,rfl,rfl⟩,trivial⟩⟩⟩⟩,⟨⟨⟨_,_,Go.Proofs.Tryz.underlying54,rfl,rfl,by kernel_rfl⟩,⟨⟨_,_,Go.Proofs.Tryz.underlying54,rfl,rfl⟩,⟨⟨_,_,Go.Proofs.Tryz.underlying54,rfl,rfl,by kernel_rfl⟩,⟨⟨_,_,Go.Proofs.Tryz.underlying54,rfl,rfl⟩,trivial⟩⟩⟩⟩,⟨⟨⟨_,_,Go.Proofs.Tryz.underlying57,rfl,rfl,by kernel_rfl⟩,⟨⟨_,_,Go.Proofs.Tryz.underlying57,rfl,rfl⟩,⟨⟨_,_,Go.Proofs.Tryz.underlying57,rfl,rfl,by kernel_rfl⟩,⟨⟨_,_,Go.Proofs.Tryz.underlying57,rfl,rfl⟩,trivial⟩⟩⟩⟩,⟨⟨⟨_,_,Go.Proofs.Tryz.underlying61,rfl,rfl,by kernel_rfl⟩,⟨⟨_,_,Go.Proofs.Tryz.underlying61,rfl,rfl⟩,trivial⟩⟩,⟨⟨⟨_,_,Go.Proofs.Tryz.underlying67,rfl,rfl,by kernel_rfl⟩,⟨⟨_,_,Go.Proofs.Tryz.underlying67,rfl,rfl⟩,⟨⟨_,_,Go.Proofs.Tryz.underlying67,rfl,rfl,by kernel_rfl⟩,⟨⟨_,_,Go.Proofs.Tryz.underlying67,rfl,rfl⟩,⟨⟨_,_,Go.Proofs.Tryz.underlying67,rfl,rfl,by kernel_rfl⟩,⟨⟨_,_,Go.Proofs.Tryz.underlying67,rfl,rfl⟩,trivial⟩⟩⟩⟩⟩⟩,⟨⟨⟨_,_,Go.Proofs.Tryz.underlying75,rfl,rfl,by kernel_rfl⟩,⟨⟨_,_,Go.Proofs.Tryz.underlying75,rfl,rfl⟩,⟨⟨_,_,Go.Proofs.Tryz.underlying75,rfl,rfl,by kernel_rfl⟩,⟨⟨_,_,Go.Proofs.Tryz.underlying75,rfl,rfl⟩,⟨⟨_,_,Go.Proofs.Tryz.underlying75,rfl,rfl,by kernel_rfl⟩,⟨⟨_,_,Go.Proofs.Tryz.underlying75,rfl,rfl⟩,⟨⟨_,_,Go.Proofs.Tryz.underlying75,rfl,rfl,by kernel_rfl⟩,⟨⟨_,_,Go.Proofs.Tryz.underlying75,rfl,rfl⟩,trivial⟩⟩⟩⟩⟩⟩⟩⟩,⟨⟨⟨_,_,Go.Proofs.Tryz.underlying81,rfl,rfl,by kernel_rfl⟩,⟨⟨_,_,Go.Proofs.Tryz.underlying81,rfl,rfl⟩,⟨⟨_,_,Go.Proofs.Tryz.underlying81,rfl,rfl,by kernel_rfl⟩,⟨⟨_,_,Go.Proofs.Tryz.underlying81,rfl,rfl⟩,⟨⟨_,_,Go.Proofs.Tryz.underlying81,rfl,rfl,by kernel_rfl⟩,⟨⟨_,_,Go.Proofs.Tryz.underlying81,rfl,rfl⟩,⟨⟨_,_,Go.Proofs.Tryz.underlying81,rfl,rfl,by kernel_rfl⟩,⟨⟨_,_,Go.Proofs.Tryz.underlying81,rfl,rfl⟩,⟨⟨_,_,Go.Proofs.Tryz.underlying81,rfl,rfl,by kernel_rfl⟩,⟨⟨_,_,Go.Proofs.Tryz.underlying81,rfl,rfl⟩,⟨⟨_,_,Go.Proofs.Tryz.underlying81,rfl,rfl,by kernel_rfl⟩,⟨⟨_,_,Go.Proofs.Tryz.underlying81,rfl,rfl⟩,⟨⟨_,_,Go.Proofs.Tryz.underlying81,rfl,rfl,by kernel_rfl⟩,⟨⟨_,_,Go.Proofs.Tryz.underlying81,rfl,rfl⟩,trivial⟩⟩⟩⟩⟩⟩⟩⟩⟩⟩⟩⟩⟩⟩,⟨⟨⟨_,_,Go.Proofs.Tryz.underlying100,rfl,rfl,by kernel_rfl⟩,⟨⟨_,_,Go.Proofs.Tryz.underlying100,rfl,rfl⟩,⟨⟨_,_,Go.Proofs.Tryz.underlying100,rfl,rfl,by kernel_rfl⟩,⟨⟨_,_,Go.Proofs.Tryz.underlying100,rfl,rfl⟩,trivial⟩⟩⟩⟩,⟨⟨⟨_,_,Go.Proofs.Tryz.underlying102,rfl,rfl,by kernel_rfl⟩,⟨⟨_,_,Go.Proofs.Tryz.underlying102,rfl,rfl⟩,⟨⟨_,_,Go.Proofs.Tryz.underlying102,rfl,rfl,by kernel_rfl⟩,⟨⟨_,_,Go.Proofs.Tryz.underlying102,rfl,rfl⟩,⟨⟨_,_,Go.Proofs.Tryz.underlying102,rfl,rfl,by kernel_rfl⟩,⟨⟨_,_,Go.Proofs.Tryz.underlying102,rfl,rfl⟩,trivial⟩⟩⟩⟩⟩⟩,⟨⟨⟨_,_,Go.Proofs.Tryz.underlying117,rfl,rfl,by kernel_rfl⟩,⟨⟨_,_,Go.Proofs.Tryz.underlying117,rfl,rfl⟩,⟨⟨_,_,Go.Proofs.Tryz.underlying117,rfl,rfl,by kernel_rfl⟩,⟨⟨_,_,Go.Proofs.Tryz.underlying117,rfl,rfl⟩,trivial⟩⟩⟩⟩,⟨⟨⟨_,_,Go.Proofs.Tryz.underlying155,rfl,rfl,by kernel_rfl⟩,⟨⟨_,_,Go.Proofs.Tryz.underlying155,rfl,rfl⟩,⟨⟨_,_,Go.Proofs.Tryz.underlying155,rfl,rfl,by kernel_rfl⟩,⟨⟨_,_,Go.Proofs.Tryz.underlying155,rfl,rfl⟩,⟨⟨_,_,Go.Proofs.Tryz.underlying155,rfl,rfl,by kernel_rfl⟩,⟨⟨_,_,Go.Proofs.Tryz.underlying155,rfl,rfl⟩,⟨⟨_,_,Go.Proofs.Tryz.underlying155,rfl,rfl,by kernel_rfl⟩,⟨⟨_,_,Go.Proofs.Tryz.underlying155,rfl,rfl⟩,⟨⟨_,_,Go.Proofs.Tryz.underlying155,rfl,rfl,by kernel_rfl⟩,⟨⟨_,_,Go.Proofs.Tryz.underlying155,rfl,rfl⟩,⟨⟨_,_,Go.Proofs.Tryz.underlying155,rfl,rfl,by kernel_rfl⟩,⟨⟨_,_,Go.Proofs.Tryz.underlying155,rfl,rfl⟩,⟨⟨_,_,Go.Proofs.Tryz.underlying155,rfl,rfl,by kernel_rfl⟩,⟨⟨_,_,Go.Proofs.Tryz.underlying155,rfl,rfl⟩,⟨⟨_,_,Go.Proofs.Tryz.underlying155,rfl,rfl,by kernel_rfl⟩,⟨⟨_,_,Go.Proofs.Tryz.underlying155,rfl,rfl⟩,⟨⟨_,_,Go.Proofs.Tryz.underlying155,rfl,rfl,by kernel_rfl⟩,⟨⟨_,_,Go.Proofs.Tryz.underlying155,rfl,rfl⟩,⟨⟨_,_,Go.Proofs.Tryz.underlying155,rfl,rfl,by kernel_rfl⟩,⟨⟨_,_,Go.Proofs.Tryz.underlying155,rfl,rfl⟩,⟨⟨_,_,Go.Proofs.Tryz.underlying155,rfl,rfl,by kernel_rfl⟩,⟨⟨_,_,Go.Proofs.Tryz.underlying155,rfl,rfl⟩,trivial⟩⟩⟩⟩⟩⟩⟩⟩⟩⟩⟩⟩⟩⟩⟩⟩⟩⟩⟩⟩⟩⟩,⟨⟨⟨_,_,Go.Proofs.Tryz.underlying174,rfl,rfl,by kernel_rfl⟩,⟨⟨_,_,Go.Proofs.Tryz.underlying174,rfl,rfl⟩,⟨⟨_,_,Go.Proofs.Tryz.underlying174,rfl,rfl,by kernel_rfl⟩,⟨⟨_,_,Go.Proofs.Tryz.underlying174,rfl,rfl⟩,trivial⟩⟩⟩⟩,trivial⟩⟩⟩⟩⟩⟩⟩⟩⟩⟩⟩⟩⟩⟩⟩
 el:=⟨⟨Go.Proofs.Tryz.underlying22,_,_,ti3,rfl,by decide⟩,⟨⟨Go.Proofs.Tryz.underlying23,_,_,c5e,rfl,by decide⟩,⟨⟨Go.Proofs.Tryz.underlying36,_,_,ti5,rfl,by decide⟩,⟨⟨Go.Proofs.Tryz.underlying41,_,_,ti9,rfl,by decide⟩,⟨⟨Go.Proofs.Tryz.underlying43,_,_,c47,rfl,by decide⟩,⟨⟨Go.Proofs.Tryz.underlying52,_,_,c5D,rfl,by decide⟩,⟨⟨Go.Proofs.Tryz.underlying73,_,_,c5I,rfl,by decide⟩,⟨⟨Go.Proofs.Tryz.underlying78,_,_,c4b,rfl,by decide⟩,⟨⟨Go.Proofs.Tryz.underlying103,_,_,ti2,rfl,by decide⟩,⟨⟨Go.Proofs.Tryz.underlying112,_,_,c33,rfl,by decide⟩,⟨⟨Go.Proofs.Tryz.underlying115,_,_,c5G,rfl,by decide⟩,⟨⟨Go.Proofs.Tryz.underlying129,_,_,c4e,rfl,by decide⟩,⟨⟨Go.Proofs.Tryz.underlying149,_,_,c3W,rfl,by decide⟩,⟨⟨Go.Proofs.Tryz.underlying153,_,_,ti4,rfl,by decide⟩,trivial⟩⟩⟩⟩⟩⟩⟩⟩⟩⟩⟩⟩⟩⟩
 str:=⟨Go.Proofs.Tryz.underlying9,trivial⟩
 bool:=trivial
 ik:=⟨Go.Proofs.Tryz.underlying2,⟨Go.Proofs.Tryz.underlying3,⟨Go.Proofs.Tryz.underlying5,⟨Go.Proofs.Tryz.underlying35,⟨Go.Proofs.Tryz.underlying71,⟨Go.Proofs.Tryz.underlying143,trivial⟩⟩⟩⟩⟩⟩
 inf:=⟨⟨_,ti2,fun X c σ=>RG.cns rfl W6 (RG.nl)⟩,⟨⟨_,ti3,fun X c σ=>RG.cns rfl W6 (RG.nl)⟩,⟨⟨_,ti4,fun X c σ=>RG.cns rfl a5d (RG.nl)⟩,⟨⟨_,ti5,fun X c σ=>RG.cns rfl W6 (RG.nl)⟩,⟨⟨_,ti9,fun X c σ=>RG.cns rfl a5a (RG.nl)⟩,⟨⟨_,c7A,fun X c σ=>RG.cns rfl a1p (RG.nl)⟩,⟨⟨_,c7W,fun X c σ=>RG.cns rfl a1p (RG.nl)⟩,⟨⟨_,c7x,fun X c σ=>RG.cns rfl a5a (RG.cns rfl a5d (RG.cns rfl a1p (RG.nl)))⟩,⟨⟨_,c7v,fun X c σ=>RG.cns rfl W6 (RG.nl)⟩,⟨⟨_,c7K,fun X c σ=>RG.cns rfl a1p (RG.nl)⟩,⟨⟨_,c7Q,fun X c σ=>RG.cns rfl c08 (RG.cns rfl a1p (RG.cns rfl W6 (RG.cns rfl a5d (RG.cns rfl W6 (RG.nl)))))⟩,⟨⟨_,c7r,fun X c σ=>RG.cns rfl a1p (RG.cns rfl W6 (RG.nl))⟩,⟨⟨_,c5I,fun X c σ=>RG.cns rfl a5a (RG.cns rfl W6 (RG.nl))⟩,⟨⟨_,c7M,fun X c σ=>RG.cns rfl a1p (RG.nl)⟩,⟨⟨_,c5G,fun X c σ=>RG.cns rfl a1p (RG.cns rfl W6 (RG.nl))⟩,⟨⟨_,c5e,fun X c σ=>RG.cns rfl a5a (RG.cns rfl W6 (RG.cns rfl a1p (RG.cns rfl W6 (RG.nl))))⟩,⟨⟨_,c7G,fun X c σ=>RG.cns rfl a1p (RG.nl)⟩,⟨⟨_,c7C,fun X c σ=>RG.cns rfl a5a (RG.cns rfl W6 (RG.cns rfl W6 (RG.nl)))⟩,⟨⟨_,c47,fun X c σ=>RG.cns rfl a5a (RG.cns rfl a5a (RG.cns rfl a1p (RG.cns rfl W6 (RG.nl))))⟩,⟨⟨_,c7q,fun X c σ=>RG.cns rfl a1p (RG.nl)⟩,⟨⟨_,c7F,fun X c σ=>RG.cns rfl W6 (RG.cns rfl W6 (RG.nl))⟩,⟨⟨_,c5D,fun X c σ=>RG.cns rfl W6 (RG.cns rfl W6 (RG.cns rfl W6 (RG.cns rfl a5a (RG.cns rfl a1p (RG.cns rfl a1p (RG.cns rfl W6 (RG.cns rfl W6 (RG.nl))))))))⟩,⟨⟨_,c4e,fun X c σ=>RG.cns rfl W6 (RG.cns rfl a5a (RG.nl))⟩,⟨⟨_,c4b,fun X c σ=>RG.cns rfl W6 (RG.cns rfl a5a (RG.cns rfl W6 (RG.cns rfl a5d (RG.nl))))⟩,⟨⟨_,c69,fun X c σ=>RG.cns rfl a1p (RG.nl)⟩,⟨⟨_,c33,fun X c σ=>RG.cns rfl a1p (RG.cns rfl a1p (RG.cns rfl W6 (RG.nl)))⟩,⟨⟨_,c6E,fun X c σ=>RG.cns rfl c08 (RG.nl)⟩,⟨⟨_,c7d,fun X c σ=>RG.cns rfl c08 (RG.nl)⟩,⟨⟨_,c6T,fun X c σ=>RG.cns rfl a1p (RG.nl)⟩,⟨⟨_,c6q,fun X c σ=>RG.cns rfl a1p (RG.cns rfl W6 (RG.cns rfl a5d (RG.cns rfl a5d (RG.cns rfl a5d (RG.cns rfl W6 (RG.cns rfl a1p (RG.cns rfl W6 (RG.cns rfl a1p (RG.cns rfl a1p (RG.cns rfl a1p (RG.cns rfl a1p (RG.nl))))))))))))⟩,⟨⟨_,c3W,fun X c σ=>RG.cns rfl W6 (RG.cns rfl a5a (RG.nl))⟩,⟨⟨_,c6i,fun X c σ=>RG.cns rfl a5d (RG.cns rfl a5d (RG.nl))⟩,trivial⟩⟩⟩⟩⟩⟩⟩⟩⟩⟩⟩⟩⟩⟩⟩⟩⟩⟩⟩⟩⟩⟩⟩⟩⟩⟩⟩⟩⟩⟩⟩⟩
 st:=⟨.inl ⟨_,Go.Proofs.Tryz.underlying25,by kernel_rfl⟩,⟨.inl ⟨_,Go.Proofs.Tryz.underlying45,by kernel_rfl⟩,⟨.inl ⟨_,Go.Proofs.Tryz.underlying49,by kernel_rfl⟩,⟨.inl ⟨_,Go.Proofs.Tryz.underlying51,by kernel_rfl⟩,⟨.inl ⟨_,Go.Proofs.Tryz.underlying54,by kernel_rfl⟩,⟨.inl ⟨_,Go.Proofs.Tryz.underlying57,by kernel_rfl⟩,⟨.inl ⟨_,Go.Proofs.Tryz.underlying61,by kernel_rfl⟩,⟨.inl ⟨_,Go.Proofs.Tryz.underlying67,by kernel_rfl⟩,⟨.inl ⟨_,Go.Proofs.Tryz.underlying75,by kernel_rfl⟩,⟨.inr (c2B Go.Proofs.Tryz.underlying79 ti3 rfl),⟨.inl ⟨_,Go.Proofs.Tryz.underlying81,by kernel_rfl⟩,⟨.inl ⟨_,Go.Proofs.Tryz.underlying100,by kernel_rfl⟩,⟨.inl ⟨_,Go.Proofs.Tryz.underlying102,by kernel_rfl⟩,⟨.inl ⟨_,Go.Proofs.Tryz.underlying117,by kernel_rfl⟩,⟨.inl ⟨_,Go.Proofs.Tryz.underlying155,by kernel_rfl⟩,⟨.inl ⟨_,Go.Proofs.Tryz.underlying174,by kernel_rfl⟩,⟨.inr (c2B Go.Proofs.Tryz.underlying290 ti4 rfl),trivial⟩⟩⟩⟩⟩⟩⟩⟩⟩⟩⟩⟩⟩⟩⟩⟩⟩
 eq:=⟨fun X c σ ls ms r cs ds h1 h2 h3=>eqT 51 a6S (fun h k=>c7U h k) (by kernel_rfl) (by decide) h1 h2 h3,⟨fun X c σ ls ms r cs ds h1 h2 h3=>eqT 79 a9l (fun h k=>c7p h k) (by kernel_rfl) (by decide) h1 h2 h3,⟨fun X c σ ls ms r cs ds h1 h2 h3=>eqT 100 b4u (fun h k=>c6j h k) (by kernel_rfl) (by decide) h1 h2 h3,trivial⟩⟩⟩
 arr:=⟨⟨Go.Proofs.Tryz.underlying79,by kernel_rfl⟩,⟨⟨Go.Proofs.Tryz.underlying290,by kernel_rfl⟩,trivial⟩⟩
 u8:=⟨⟨Go.Proofs.Tryz.underlying5,fun y=>⟨y,rfl⟩⟩,trivial⟩
 u8g:=⟨fun σ k=>rfl,trivial⟩
 mp:=⟨⟨_,_,_,_,_,Go.Proofs.Tryz.underlying132,Go.Proofs.Tryz.underlying9,ti4,fun x h σ=>by cases h; exact rfl⟩,trivial⟩
 fb:=⟨⟨_,_,Go.Proofs.Tryz.func74,rfl,by kernel_rfl⟩,⟨⟨_,_,Go.Proofs.Tryz.func75,rfl,by kernel_rfl⟩,⟨⟨_,_,Go.Proofs.Tryz.func91,rfl,by kernel_rfl⟩,⟨⟨_,_,Go.Proofs.Tryz.func103,rfl,by kernel_rfl⟩,⟨⟨_,_,Go.Proofs.Tryz.func104,rfl,by kernel_rfl⟩,⟨⟨_,_,Go.Proofs.Tryz.func115,rfl,by kernel_rfl⟩,trivial⟩⟩⟩⟩⟩⟩
theorem a1J:TabOk Go.Proofs.Tryz.prog tb:=c3n c6b
theorem mixed:(Go.Proofs.Tryz.prog).follows .mixedOrders=true:=by kernel_rfl
end Go.Qx
end
section
namespace Go.Qx
open Go Go.RowKit Go.Sx
end Go.Qx
end
section
namespace Go.Qx
open Go Go.RowKit Go.Sx
structure Bw (B:Nat)(w w':World):Prop where
 below:Below B w w'
 drawn:w.drawn<=w'.drawn
theorem Bw.refl (B:Nat)(w:World):Bw B w w:=⟨Below.refl B w,Nat.le_refl _⟩
theorem Bw.trans {B:Nat}{a b c:World}(h:Bw B a b)(k:Bw B b c):Bw B a c:=⟨h.below.trans k.below,Nat.le_trans h.drawn k.drawn⟩
theorem Bw.setCells {B b:Nat}(hb:B<=b)(o:Nat)(vs:List Value)(w:World):Bw B w (w.setCells b o vs):=by
 obtain ⟨r1,r2,r3⟩:=a7p b vs o w
 exact ⟨⟨r1,r2,r3,Nat.le_of_eq (a7s b vs o w).symm,fun k hk=>a2t b vs o w k (by omega)⟩,Nat.le_of_eq (a5T b vs o w).symm⟩
section
variable {P:Program}{ops:Array Oper}{Q:Exit->Act->World->Prop}{n:Nat}{F:Fr}{rest:List Oper}{d:Option Nat}{ty:TypeId}{pos:String}{aft:Array Edge}{w:World}
theorem c23 {T T':TypeId}{x y:Operand}{b:Nat}{cs:List Value}(hb:w.heap[b]?=some (.cells cs.toArray T' (0,0)))(o:Nat)(v:Value)(hx:ev F x=.pointer (some ⟨b,o,none⟩))(hy:ev F y=v)
 (hkx:Z3 n x=true) (hky:Z3 n y=true) (hv:v.cells.toList=[v]) (hT:(P.info? T).map (·.size)=some 1) (h1:v.oneCell'=true) (hl:o<cs.length)
 (h:wpList P ops Q rest (fr n (Y9 F d undef)) (w.setCells b o [v])) :
 wpList P ops Q (⟨d,.store T x y,ty,pos,aft,none⟩::rest) (fr n F) w:=by
 have hsz:v.cells.size=1:=by rw [<- Array.length_toList,hv]; rfl
 refine b1d rfl (w.setCells b o [v]) ?_ h
 show Sem.run P (do Instr.storeAt T ((fr n F).eval x) ((fr n F).eval y); pure Next.skip) w=_
 rw [j5 hkx,j5 hky,hx,hy]
 have hst:=run_storeCells_cells (P:=P) b o [v] 0 w (fun j hj=>by
  have hj0:j=0:=by simp at hj; omega
  subst hj0
  simp only [World.cell?,hb,Nat.add_zero]
  simp [List.getElem?_eq_getElem hl]) (fun j hj=>by simp [World.frozen?,hb]) (fun u hu=>by simp at hu; subst hu; exact h1)
 simp only [Nat.add_zero] at hst
 simp only [Instr.storeAt,Instr.sureAddr,storeVar,Sem.run_bind,Sem.run_pure,Result.andThen_ok,Go.Sx.run_sizeOf hT,hsz,ne_eq,not_true_eq_false,if_false,hv,hst]
theorem b9K {f:FuncId}{fn:Func}{c:Code}{vs:List Value}{R:Ending->World->Prop}(nt:Nat)(hf:P.funcs[f]?=some fn)(hb:fn.body=some c)(hn:fn.ntmps=nt)(hle:Nat.ble vs.length nt=true)
 (h:c.wp P (bodyPost P fn R) (fr nt (a10 vs)) w):Calls P f vs.toArray w R:=by
 refine calls_of_wp hf hb ?_
 have hle':=Nat.le_of_ble_eq_true hle
 have e:(⟨vs.toArray++Array.replicate (fn.ntmps-vs.toArray.size) undef,[]⟩:Act)=fr nt (a10 vs):=by
  rw [hn]
  simp only [fr]
  congr 1
  apply Array.ext
  ·simp; omega
  ·intro i h1 h2
   simp only [Array.getElem_ofFn,a10,Array.getElem_append]
   split
   ·rename_i hi; simp at hi; simp [List.getD,List.getElem?_eq_getElem hi]
   ·rename_i hi; simp at hi; simp [List.getD,List.getElem?_eq_none hi]
 rw [e]
 exact h
theorem c65 {fn:Func}{R:Ending->World->Prop}{t:Nat}(v:Value)(hr:fn.results=#[.tmp t])(ht:Nat.blt t n=true)(hv:F t=v)(h:R (.returned v) w):bodyPost P fn R .ret (fr n F) w :=
 ⟨rfl,v,by
  have e1:=b1L (P:=P) (w:=w) (r:=.tmp t) (v:=v) ⟨ht,hv⟩
  rw [b2A,hr]
  simp only [List.mapM_toArray,List.mapM_cons,List.mapM_nil,Sem.run_bind,Sem.run_map,e1,Result.andThen_ok,Sem.run_pure]
  rfl,h⟩
theorem c4D {f:FuncId}{xs:List Operand}{ats:Array TypeId}(vs:List Value){R:Ending->World->Prop}(hvs:xs.map (ev F)=vs)(hk:xs.all (Z3 n)=true)(hb:a2W P f)(hc:Calls P f vs.toArray w R)
 (hR:∀ e w',R e w'->∃ v,e=.returned v/\wpList P ops Q rest (fr n (Y9 F d v)) w') :
 wpList P ops Q (⟨d,.call ⟨.value (.func f),xs.toArray,ats⟩,ty,pos,aft,none⟩::rest) (fr n F) w:=by
 subst hvs
 refine a6L (σ:=⟨w,fun _=>(0,0)⟩) (E:=fun _=>True) (R:=fun v τ=>wpList P ops Q rest (fr n (Y9 F d v)) τ.w) rfl (.inl ⟨hb,hc.mono fun e w' h=>?_⟩) (b9E hk w) (fun v τ _ h=>h)
 obtain ⟨v,e1,h2⟩:=hR e w' h
 exact ⟨v,⟨w',fun _=>(0,0)⟩,e1,rfl,trivial,h2⟩
end
end Go.Qx
end
section
namespace Go.Qx
open Go Go.RowKit Go.Sx
set_option maxHeartbeats 1600000
set_option maxRecDepth 100000
section
variable {P:Program}{ops:Array Oper}{Q:Exit->Act->World->Prop}{n:Nat}{F:Fr}{rest:List Oper}{d:Option Nat}{ty:TypeId}{pos:String}{aft:Array Edge}{w:World}
theorem b5A {T:TypeId}{z:Value}{cs:List Value}{sz by_:Nat}(hT:Z9 P T z sz by_)(hc:z.cells.toList=cs)
 (h:wpList P ops Q rest (fr n (Y9 F d (.pointer (some ⟨w.heap.size,0,none⟩)))) (w.alloc (.cells cs.toArray T))) :
 wpList P ops Q (⟨d,.alloc T,ty,pos,aft,none⟩::rest) (fr n F) w:=by
 refine Q0 rfl (.pointer (some ⟨w.heap.size,0,none⟩)) (w.alloc (.cells cs.toArray T)) ?_ h
 obtain ⟨i,h1,h2,_,_⟩:=hT
 have hcc:z.cells=cs.toArray:=by rw [<- hc]
 simp [execOp,Instr.alloc,zeroValue,typeInfo,h1,h2,newVar,newRow,hcc]
theorem b8N {T T':TypeId}{x y:Operand}{b:Nat}{cs:List Value}(hb:w.heap[b]?=some (.cells cs.toArray T' (0,0)))(v:Value)(vs:List Value)(hx:ev F x=.pointer (some ⟨b,0,none⟩))(hy:ev F y=v)
 (hkx:Z3 n x=true) (hky:Z3 n y=true) (hv:v.cells.toList=vs) (hT:(P.info? T).map (·.size)=some vs.length) (h1:∀ u∈vs,u.oneCell'=true) (hl:vs.length=cs.length)
 (h:∀ w',w'.heap[b]?=some (.cells vs.toArray T' (0,0))->(∀ B,B<=b->Bw B w w')->wpList P ops Q rest (fr n (Y9 F d undef)) w') :
 wpList P ops Q (⟨d,.store T x y,ty,pos,aft,none⟩::rest) (fr n F) w:=by
 have hsz:v.cells.size=vs.length:=by rw [<- hv]; simp
 have hh:=a2M b T' vs 0 w cs hb (by omega)
 have e:cs.take 0++vs++cs.drop (0+vs.length)=vs:=by
  rw [Nat.zero_add,hl,List.drop_length]; simp
 rw [e] at hh
 refine b1d rfl (w.setCells b 0 vs) ?_ (h _ hh fun B hB=>Bw.setCells hB 0 vs w)
 show Sem.run P (do Instr.storeAt T ((fr n F).eval x) ((fr n F).eval y); pure Next.skip) w=_
 rw [j5 hkx,j5 hky,hx,hy]
 have hst:=run_storeCells_cells (P:=P) b 0 vs 0 w (fun j hj=>by
  simp only [World.cell?,hb,Nat.add_zero,Nat.zero_add]
  simp [List.getElem?_eq_getElem (show j<cs.length by omega)]) (fun j hj=>by simp [World.frozen?,hb]) h1
 simp only [Nat.add_zero] at hst
 simp only [Instr.storeAt,Instr.sureAddr,storeVar,Sem.run_bind,Sem.run_pure,Result.andThen_ok,Go.Sx.run_sizeOf hT,hsz,ne_eq,not_true_eq_false,if_false,hv,hst]
theorem c0C {T E:TypeId}{x y:Operand}{m i b:Nat}{kd:IntKind}
 (hx:ev F x=.pointer (some ⟨b,0,none⟩)) (hy:ev F y=.int kd (Int.ofNat i)) (hkx:Z3 n x=true) (hky:Z3 n y=true) (hT:P.underlying T=some (.array m E)) (hE:(P.info? E).map (·.size)=some 1) (hi:i<m)
 (h:wpList P ops Q rest (fr n (Y9 F d (.pointer (some ⟨b,i,none⟩)))) w) :
 wpList P ops Q (⟨d,.indexAddr T x y,ty,pos,aft,none⟩::rest) (fr n F) w:=by
 refine Q0 rfl (.pointer (some ⟨b,i,none⟩)) w ?_ h
 show Sem.run P (do pure (Next.value (<- Instr.indexAt T ((fr n F).eval x) ((fr n F).eval y)))) w=_
 rw [j5 hkx,j5 hky,hx,hy]
 have h0:(0:Int)<=(i:Int)/\(i:Int)<(m:Int):=⟨Int.natCast_nonneg i,by simpa using hi⟩
 simp only [Instr.indexAt,Instr.sureAddr,asIntOf,Sem.run_bind,Sem.run_pure,Result.andThen_ok,run_underlying hT,Addr.add_mid,Int.ofNat_eq_natCast,Int.toNat_natCast,if_pos h0,Sx.run_sizeOf hE,Nat.mul_one,Nat.zero_add]
theorem c6C {fn:Func}{R:Ending->World->Prop}{t b:Nat}{T:TypeId}(v:Value)(hr:fn.results=#[.cell t T])(ht:Nat.blt t n=true)(hv:F t=.pointer (some ⟨b,0,none⟩))(hl:j7 P w (loadVar T ⟨b,0,none⟩) v)(h:R (.returned v) w):bodyPost P fn R .ret (fr n F) w :=
 ⟨rfl,v,by
  have e1:=b1L (P:=P) (w:=w) (r:=.cell t T) (v:=v) ⟨ht,b,hv,hl⟩
  rw [b2A,hr]
  simp only [List.mapM_toArray,List.mapM_cons,List.mapM_nil,Sem.run_bind,Sem.run_map,e1,Result.andThen_ok,Sem.run_pure]
  rfl,h⟩
end
def X8 (i:Nat):List Value:=(List.range 256).map fun j=>if j<i then Value.int .u32 (nB (tb8 j)) else Value.int .u32 0
theorem a0W (i:Nat):(X8 i).length=256:=by simp [X8]
theorem b4L {i j:Nat}(hj:j<256):(X8 i)[j]?=some (if j<i then Value.int .u32 (nB (tb8 j)) else Value.int .u32 0):=by
 simp [X8,hj]
theorem b8t (i:Nat):∀ u∈X8 i,u.oneCell'=true:=by
 intro u hu
 obtain ⟨j,_,rfl⟩:=List.mem_map.1 hu
 split<;>rfl
theorem c2V {i:Nat}(hi:i<256):(X8 i).take i++[Value.int .u32 (nB (tb8 i))]++(X8 i).drop (i+[Value.int .u32 (nB (tb8 i))].length)=X8 (i+1):=by
 apply List.ext_getElem?
 intro j
 have hl:((X8 i).take i).length=i:=by rw [List.length_take,a0W]; omega
 by_cases hj:j<256
 ·rw [b4L hj]
  rcases Nat.lt_trichotomy j i with h | h | h
  ·rw [List.append_assoc,List.getElem?_append_left (by omega),List.getElem?_take_of_lt h,b4L hj,if_pos h,if_pos (by omega)]
  ·subst h
   rw [List.append_assoc,List.getElem?_append_right (by omega),hl,Nat.sub_self,if_pos (by omega)]
   rfl
  ·rw [List.append_assoc,List.getElem?_append_right (by omega),hl,List.getElem?_append_right (by simp; omega),List.getElem?_drop]
   simp only [List.length_cons,List.length_nil,Nat.zero_add]
   rw [show i+1+(j-i-1)=j by omega,b4L hj,if_neg (by omega),if_neg (by omega)]
 ·have e:(X8 (i+1))[j]?=none:=List.getElem?_eq_none (by rw [a0W]; omega)
  rw [e,List.getElem?_eq_none]
  simp only [List.length_append,List.length_take,List.length_drop,a0W,List.length_cons,List.length_nil]
  omega
theorem b3r {w:World}{b:Nat}{cs:List Value}{T:TypeId}(h:w.heap[b]?=some (.cells cs.toArray T (0,0))):w.rangeAt b 0 cs:=fun j v hj=>by
 simp [World.cell?,h,hj]
theorem tz:Z9 Go.Proofs.Tryz.prog 96 (.agg (X8 0).toArray) 256 1024:=Z5 (by kernel_rfl)
theorem c5Y:b4w Go.Proofs.Tryz.prog 96 256:=⟨_,Go.Proofs.Tryz.underlying96,rfl,by kernel_rfl⟩
theorem c7B:a0C Go.Proofs.Tryz.prog 71:=⟨_,Go.Proofs.Tryz.underlying71,rfl,by kernel_rfl⟩
def c0R (i:Nat):Option (Fl Nat Unit):=some (if i<256 then .next (i+1) else .done ())
def c1e (q:Nat×BitVec 32):Option (Fl (Nat×BitVec 32) (BitVec 32)):=some (if q.1<8 then .next (q.1+1,cst q.2) else .done q.2)
attribute [irreducible] X8
theorem c7w:(4294967295:Int)=nB (BitVec.allOnes 32):=by decide
theorem c1y:y0 c0R 257 0=some ():=by kernel_rfl
theorem c0J (r:BitVec 32):y0 c1e 9 (0,r)=some (a21 8 r):=rfl
theorem c4p:(2197175160:Int)=nB 0x82f63b78#32:=rfl
theorem b6w {i:Nat}(h:i<=2000000):wr .i64 ((i:Int)+1)=((i+1:Nat):Int):=by
 show IntKind.i64.wrap ((i:Int)+1)=_
 rw [IntKind.wrap_i64]
 omega
theorem b7E (r:BitVec 32):((nB (r &&& 1#32)==1)=true->nB (cst r)=a7z .u32 (nB (r >>> 1)) 2197175160)/\((nB (r &&& 1#32)==1)=false->nB (cst r)=nB (r >>> 1)):=by
 rw [c4K]
 constructor
 ·intro h
  unfold cst
  rw [h,c4p,c31]
  rfl
 ·intro h
  rw [b5N h]
theorem c7E {w:World}{i:Nat}(hi:i<256):j7 Go.Proofs.Tryz.prog w (convert 3 71 (.int .i64 (i:Int))) (.int .u32 (nB (BitVec.ofNat 32 i))):=by
 have h:IntKind.u32.wrap (i:Int)=nB (BitVec.ofNat 32 i):=by
  show (i:Int)%4294967296=((BitVec.ofNat 32 i).toNat:Int)
  rw [BitVec.toNat_ofNat]
  omega
 rw [<- h]
 exact b8S (by rw [Go.Proofs.Tryz.underlying3]; rfl) Go.Proofs.Tryz.underlying71
def b77 (σ:S):Nat->Nat×Nat:=fun b=>if b<σ.N then σ.L b else (0,0)
theorem c0U {σ:S}{w:World}(h:Bw σ.N σ.w w):Wext σ ⟨w,b77 σ⟩ :=
 ⟨h.below.size,fun b hb=>by simp [b77,hb],fun b o v ho hc=>(a0m (h.below.block b (a1R hc)) o).trans hc,h.drawn,fun b o hb hf=>(a0B (h.below.block b hb) o).trans hf⟩
abbrev b68 (b0 b1:Nat)(w0:World)(i:Nat)(F:Fr)(w:World):Prop:=F 0=.pointer (some ⟨b0,0,none⟩)/\F 1=.pointer (some ⟨b1,0,none⟩)/\w.heap[b0]?=some (.cells (X8 0).toArray 96 (0,0))/\w.heap[b1]?=some (.cells (X8 i).toArray 96 (0,0))/\Bw b0 w0 w
theorem c3p (w0:World):Calls Go.Proofs.Tryz.prog 41 ([]:List Value).toArray w0 fun e w'=>e=.returned (.agg (X8 256).toArray)/\Bw w0.heap.size w0 w':=by
 refine b9K 25 Go.Proofs.Tryz.func41 rfl rfl rfl ?_
 refine wp_seq (wp_region_lit ?_)
 refine b5A tz rfl ?_
 refine wpList_nil (K3 (wp_seq (wp_region_lit ?_)))
 refine b5A tz rfl ?_
 have hz:((Value.agg (X8 0).toArray).cells.toList).toArray=(X8 0).toArray:=rfl
 rw [hz]
 generalize hw1:w0.alloc (.cells (X8 0).toArray 96)=w1
 have n1:w1.heap.size=w0.heap.size+1:=by rw [<- hw1]; exact Array.size_push _
 have g1:w1.heap[w0.heap.size]?=some (.cells (X8 0).toArray 96 (0,0)):=by rw [<- hw1]; exact heap_alloc_new w0 _
 have k1:Bw w0.heap.size w0 w1:=by rw [<- hw1]; exact ⟨(Below.refl _ _).alloc (Nat.le_refl _) _,Nat.le_refl _⟩
 generalize hw2:w1.alloc (.cells (X8 0).toArray 96)=w2
 have g2:w2.heap[w0.heap.size]?=some (.cells (X8 0).toArray 96 (0,0)):=by rw [<- hw2,heap_alloc_old _ _ (by omega)]; exact g1
 have g3:w2.heap[w1.heap.size]?=some (.cells (X8 0).toArray 96 (0,0)):=by rw [<- hw2]; exact heap_alloc_new w1 _
 have k2:Bw w0.heap.size w0 w2:=k1.trans (by rw [<- hw2]; exact ⟨(Below.refl _ _).alloc (by omega) _,Nat.le_refl _⟩)
 have hne:w0.heap.size≠w1.heap.size:=by omega
 have hle:w0.heap.size<=w1.heap.size:=by omega
 clear hw2 n1 g1 k1 hw1
 generalize w1.heap.size=b1 at *
 generalize w0.heap.size=b0 at *
 refine wpList_nil (K3 (b5w (fun a w=>∃ F,a=fr 25 F/\b68 b0 b1 w0 256 F w) ?_ ?_))
 ·refine wp_seq (wp_region_lit ?_)
  refine X4 (.int .i64 0) rfl rfl ?_
  refine wpList_nil (K3 (wp_block ?_))
  refine wp_mono (a8r (step:=c0R) (fun i a w=>∃ F,a=fr 25 F/\b68 b0 b1 w0 i F w/\F 4=.int .i64 ((i:Nat):Int)/\i<=256) (fun _ e a w=>e=.exit 0/\∃ F,a=fr 25 F/\b68 b0 b1 w0 256 F w) (by rintro _ _ _ ⟨h,_⟩; cases h) ?_ _ 0 () _ _ c1y ⟨_,rfl,⟨rfl,rfl,g2,g3,k2⟩,rfl,Nat.zero_le _⟩) ?_
  ·rintro i fl a w hst ⟨F,rfl,⟨f0,f1,h0,h1,hB⟩,f4,hi⟩
   simp only [c0R,Option.some.injEq] at hst
   refine wp_seq (wp_region_lit ?_)
   refine a1Z (.int .i64 (i:Int)) (.int .i64 256) (.bool (decide ((i:Int)<256))) f4 rfl rfl rfl b8i ?_
   refine wpList_nil (K3 (wp_seq ?_))
   by_cases hlt:i<256
   ·rw [if_pos hlt] at hst
    subst hst
    refine b4f rfl (decide_eq_true (by omega)) rfl (wp_skip (K3 (wp_seq (wp_block (wp_seq (wp_region_lit ?_))))))
    refine X4 (.int .i64 (i:Int)) f4 rfl ?_
    refine a0X (.int .i64 (i:Int)) rfl rfl ?_
    refine wpList_nil (K3 (wp_seq (wp_region_lit ?_)))
    refine X4 (.int .i64 (i:Int)) rfl rfl ?_
    refine a9Y (.int .i64 (i:Int)) (.int .u32 (nB (BitVec.ofNat 32 i))) rfl rfl (c7E hlt) ?_
    refine a0X (.int .u32 (nB (BitVec.ofNat 32 i))) rfl rfl ?_
    refine wpList_nil (K3 (b5w (fun a w'=>∃ F,a=fr 25 F/\b68 b0 b1 w0 i F w'/\F 2=.int .i64 (i:Int)/\F 4=.int .i64 (i:Int)/\F 3=.int .u32 (nB (tb8 i))) ?_ ?_))
    ·refine wp_seq (wp_region_lit ?_)
     refine X4 (.int .i64 0) rfl rfl ?_
     refine wpList_nil (K3 (wp_block ?_))
     refine wp_mono (a8r (step:=c1e) (fun q a w'=>∃ F,a=fr 25 F/\b68 b0 b1 w0 i F w'/\F 2=.int .i64 (i:Int)/\F 4=.int .i64 (i:Int)/\F 3=.int .u32 (nB q.2)/\F 9=.int .i64 ((q.1:Nat):Int)/\q.1<=8) (fun r e a w'=>e=.exit 2/\∃ F,a=fr 25 F/\b68 b0 b1 w0 i F w'/\F 2=.int .i64 (i:Int)/\F 4=.int .i64 (i:Int)/\F 3=.int .u32 (nB r)) (by rintro _ _ _ ⟨h,_⟩; cases h) ?_ _ (0,BitVec.ofNat 32 i) (tb8 i) _ _ (c0J _) ⟨_,rfl,⟨f0,f1,h0,h1,hB⟩,rfl,f4,rfl,rfl,Nat.zero_le _⟩) ?_
     ·rintro ⟨k,r⟩ fl a w' hst ⟨F2,rfl,⟨e0,e1,j0,j1,jB⟩,e2,e4,e3,e9,hk⟩
      simp only [c1e,Option.some.injEq] at hst
      refine wp_seq (wp_region_lit ?_)
      refine a1Z (.int .i64 (k:Int)) (.int .i64 8) (.bool (decide ((k:Int)<8))) e9 rfl rfl rfl b8i ?_
      refine wpList_nil (K3 (wp_seq ?_))
      by_cases hlt2:k<8
      ·rw [if_pos hlt2] at hst
       subst hst
       refine b4f rfl (decide_eq_true (by omega)) rfl (wp_skip (K3 (wp_seq (wp_block (wp_seq (wp_region_lit ?_))))))
       refine X4 (.int .u32 (nB r)) e3 rfl ?_
       refine a1Z (.int .u32 (nB r)) (.int .u32 1) (.int .u32 (nB (r &&& 1#32))) rfl rfl rfl rfl (by rw [<- c7f]; exact c4f) ?_
       refine a1Z (.int .u32 (nB (r &&& 1#32))) (.int .u32 1) (.bool (nB (r &&& 1#32)==1)) rfl rfl rfl rfl c37 ?_
       refine wpList_nil (K3 ?_)
       rcases hbit:(nB (r &&& 1#32)==1) with _ | _
       ·refine b0V (c:=false) rfl rfl rfl (wp_region_lit ?_)
        refine X4 (.int .u32 (nB r)) e3 rfl ?_
        refine a1Z (.int .u32 (nB r)) (.int .u64 1) (.int .u32 (nB (cst r))) rfl rfl rfl rfl (by rw [(b7E r).2 hbit]; exact b8m (b4z r 1 (by omega))) ?_
        refine a0X (.int .u32 (nB (cst r))) rfl rfl ?_
        refine wpList_nil (c0O (K3 (wp_region_lit ?_)))
        refine a1Z (.int .i64 (k:Int)) (.int .i64 1) (.int .i64 (wr .i64 ((k:Int)+1))) e9 rfl rfl rfl b6A ?_
        refine X4 (.int .i64 (wr .i64 ((k:Int)+1))) rfl rfl ?_
        exact wpList_nil ⟨rfl,_,rfl,⟨e0,e1,j0,j1,jB⟩,e2,e4,rfl,congrArg _ (b6w (by omega)),hlt2⟩
       ·refine b4f (c:=true) rfl rfl rfl (wp_region_lit ?_)
        refine X4 (.int .u32 (nB r)) e3 rfl ?_
        refine a1Z (.int .u32 (nB r)) (.int .u64 1) (.int .u32 (nB (r >>> 1))) rfl rfl rfl rfl (b8m (b4z r 1 (by omega))) ?_
        refine a1Z (.int .u32 (nB (r >>> 1))) (.int .u32 2197175160) (.int .u32 (nB (cst r))) rfl rfl rfl rfl (by rw [(b7E r).1 hbit]; exact b8g) ?_
        refine a0X (.int .u32 (nB (cst r))) rfl rfl ?_
        refine wpList_nil (c0O (K3 (wp_region_lit ?_)))
        refine a1Z (.int .i64 (k:Int)) (.int .i64 1) (.int .i64 (wr .i64 ((k:Int)+1))) e9 rfl rfl rfl b6A ?_
        refine X4 (.int .i64 (wr .i64 ((k:Int)+1))) rfl rfl ?_
        exact wpList_nil ⟨rfl,_,rfl,⟨e0,e1,j0,j1,jB⟩,e2,e4,rfl,congrArg _ (b6w (by omega)),hlt2⟩
      ·rw [if_neg hlt2] at hst
       subst hst
       refine b0V rfl (decide_eq_false (by omega)) rfl (wp_exit ?_)
       exact b7i ⟨rfl,_,rfl,⟨e0,e1,j0,j1,jB⟩,e2,e4,e3⟩
     ·rintro e a w' ⟨rfl,F2,rfl,hI,e2,e4,e3⟩
      exact c3w ⟨rfl,F2,rfl,hI,e2,e4,e3⟩
    ·rintro a w' ⟨F3,rfl,⟨e0,e1,j0,j1,jB⟩,e2,e4,e3⟩
     refine wp_region_lit ?_
     refine X4 (.int .i64 (i:Int)) e2 rfl ?_
     refine X4 (.int .u32 (nB (tb8 i))) e3 rfl ?_
     refine c0C (i:=i) e1 rfl rfl rfl Go.Proofs.Tryz.underlying96 (by kernel_rfl) hlt ?_
     refine c23 (cs:=X8 i) j1 i (.int .u32 (nB (tb8 i))) rfl rfl rfl rfl rfl (by kernel_rfl) rfl (by rw [a0W]; exact hlt) ?_
     refine wpList_nil (c0O (K3 (wp_region_lit ?_)))
     refine a1Z (.int .i64 (i:Int)) (.int .i64 1) (.int .i64 (wr .i64 ((i:Int)+1))) e4 rfl rfl rfl b6A ?_
     refine X4 (.int .i64 (wr .i64 ((i:Int)+1))) rfl rfl ?_
     refine wpList_nil ⟨rfl,_,rfl,⟨e0,e1,?_,?_,?_⟩,congrArg _ (b6w (by omega)),hlt⟩
     ·rw [a2t _ _ _ _ _ hne]; exact j0
     ·have:=a2M b1 96 [.int .u32 (nB (tb8 i))] i w' (X8 i) j1 (by rw [a0W]; simp; omega)
      rw [c2V hlt] at this
      exact this
     ·exact jB.trans (Bw.setCells hle _ _ _)
   ·rw [if_neg hlt] at hst
    subst hst
    have e:i=256:=by omega
    subst e
    refine b0V rfl (decide_eq_false (by omega)) rfl (wp_exit ?_)
    exact b7i ⟨rfl,_,rfl,f0,f1,h0,h1,hB⟩
  ·rintro e a w ⟨rfl,F,rfl,hI⟩
   exact c3w ⟨rfl,F,rfl,hI⟩
 ·rintro a w ⟨F,rfl,f0,f1,h0,h1,hB⟩
  refine wp_seq (wp_region_lit ?_)
  refine a6X b1 0 (.agg (X8 256).toArray) f1 rfl (b4h (by rw [a0W]; exact c5Y) (b3r h1)) ?_
  refine b8N h0 (.agg (X8 256).toArray) (X8 256) f0 rfl rfl rfl rfl (by rw [a0W]; kernel_rfl) (b8t 256) (by rw [a0W,a0W]) fun w' h2 hB2=>?_
  exact wpList_nil (K3 (wp_ret (c6C (b:=b0) (.agg (X8 256).toArray) rfl rfl f0 (b4h (by rw [a0W]; exact c5Y) (b3r h2)) ⟨rfl,hB.trans (hB2 _ (Nat.le_refl _))⟩)))
def b4F (s:ByteArray)(q:Nat×BitVec 32):Option (Fl (Nat×BitVec 32) (BitVec 32)):=some (match s.data.toList[q.1]? with | some b=>.next (q.1+1,a7D q.2 b) | none=>.done q.2)
theorem b6r (s:ByteArray):∀ (m i:Nat) (r:BitVec 32),s.data.toList.length-i=m->i<=s.data.toList.length->y0 (b4F s) (m+1) (i,r)=some (a2Z (s.data.toList.drop i) r)
 | 0,i,r,hm,hi=>by
   have e:i=s.data.toList.length:=by omega
   subst e
   rw [List.drop_length]
   simp only [y0,b4F,List.getElem?_eq_none (Nat.le_refl _),a2Z,Option.bind]
 | m+1,i,r,hm,hi=>by
   have hlt:i<s.data.toList.length:=by omega
   rw [List.drop_eq_getElem_cons hlt]
   have:=b6r s m (i+1) (a7D r s.data.toList[i]) (by omega) (by omega)
   rw [y0]
   simp only [b4F,List.getElem?_eq_getElem hlt,a2Z,Option.bind]
   exact this
theorem hbT:a2W Go.Proofs.Tryz.prog 41:=⟨_,_,Go.Proofs.Tryz.func41,rfl,by kernel_rfl⟩
theorem hbS:a2W Go.Proofs.Tryz.prog 22:=⟨_,_,Go.Proofs.Tryz.func22,rfl,by kernel_rfl⟩
theorem c1Y (s:ByteArray)(hs:s.size<=1000000)(w0:World):Calls Go.Proofs.Tryz.prog 22 [Value.string s].toArray w0 fun e w'=>e=.returned (.int .u32 (b7o s))/\Bw w0.heap.size w0 w':=by
 refine b9K 26 Go.Proofs.Tryz.func22 rfl rfl rfl ?_
 refine wp_seq (wp_region_lit ?_)
 refine a0X (.int .u32 0) rfl rfl ?_
 refine wpList_nil (K3 (wp_seq (wp_region_lit ?_)))
 refine c4D [] rfl rfl hbT (c3p w0) ?_
 rintro e w1 ⟨rfl,hB1⟩
 refine ⟨_,rfl,?_⟩
 refine b5A tz rfl ?_
 have hz:((Value.agg (X8 0).toArray).cells.toList).toArray=(X8 0).toArray:=rfl
 rw [hz]
 generalize hw2:w1.alloc (.cells (X8 0).toArray 96)=w2
 have g2:w2.heap[w1.heap.size]?=some (.cells (X8 0).toArray 96 (0,0)):=by rw [<- hw2]; exact heap_alloc_new w1 _
 have hle:w0.heap.size<=w1.heap.size:=hB1.below.size
 have k2:Bw w0.heap.size w0 w2:=hB1.trans (by rw [<- hw2]; exact ⟨(Below.refl _ _).alloc hle _,Nat.le_refl _⟩)
 clear hw2
 generalize w1.heap.size=b at *
 refine b8N g2 (.agg (X8 256).toArray) (X8 256) rfl rfl rfl rfl rfl (by rw [a0W]; kernel_rfl) (b8t _) (by rw [a0W,a0W]) fun w3 h3 hB3=>?_
 refine wpList_nil (K3 (wp_seq (wp_region_lit ?_)))
 refine a0X (.int .u32 4294967295) rfl rfl ?_
 refine wpList_nil (K3 (b5w (fun a w=>∃ F,a=fr 26 F/\F 4=.int .u32 (nB (a2Z s.data.toList (BitVec.allOnes 32)))/\w=w3) ?_ ?_))
 ·refine wp_seq (wp_region_lit ?_)
  refine X4 (.string s) rfl rfl ?_
  refine b9W s rfl rfl Go.Proofs.Tryz.underlying9 ?_
  refine X4 (.int .i64 0) rfl rfl ?_
  refine wpList_nil (K3 (wp_block ?_))
  refine wp_mono (a8r (step:=b4F s) (fun q a w=>∃ F,a=fr 26 F/\F 0=.string s/\F 3=.pointer (some ⟨b,0,none⟩)/\F 4=.int .u32 (nB q.2)/\F 8=.int .i64 (s.size:Int)/\F 9=.int .i64 ((q.1:Nat):Int)/\q.1<=s.size/\w=w3) (fun r e a w=>e=.exit 0/\∃ F,a=fr 26 F/\F 4=.int .u32 (nB r)/\w=w3) (by rintro _ _ _ ⟨h,_⟩; cases h) ?_ _ (0,BitVec.allOnes 32) _ _ _ (b6r s _ 0 _ rfl (Nat.zero_le _)) ⟨_,rfl,rfl,rfl,congrArg _ c7w,rfl,rfl,Nat.zero_le _,rfl⟩) ?_
  ·rintro ⟨i,r⟩ fl a w hst ⟨F,rfl,f0,f3,f4,f8,f9,hi,rfl⟩
   have hsz:s.data.toList.length=s.size:=Array.length_toList
   refine wp_seq (wp_region_lit ?_)
   refine a1Z (.int .i64 (i:Int)) (.int .i64 (s.size:Int)) (.bool (decide ((i:Int)<(s.size:Int)))) f9 f8 rfl rfl b8i ?_
   refine wpList_nil (K3 (wp_seq ?_))
   rcases hx:s.data.toList[i]? with _ | c
   ·simp only [b4F,hx,Option.some.injEq] at hst
    subst hst
    have hge:s.data.toList.length<=i:=List.getElem?_eq_none_iff.1 hx
    refine b0V rfl (decide_eq_false (by omega)) rfl (wp_exit ?_)
    exact b7i ⟨rfl,_,rfl,f4,rfl⟩
   ·simp only [b4F,hx,Option.some.injEq] at hst
    subst hst
    have hlt:i<s.data.toList.length:=(List.getElem?_eq_some_iff.1 hx).1
    have hsi:a0O s (i:Int)=some c:=by
     unfold a0O
     rw [if_pos (Int.natCast_nonneg i),Int.toNat_natCast,<- hx,Array.getElem?_toList]
     rfl
    refine b4f rfl (decide_eq_true (by omega)) rfl (wp_skip (K3 (wp_seq (wp_block (wp_seq (wp_region_lit ?_))))))
    refine X4 (.int .i64 (i:Int)) f9 rfl ?_
    refine a0X (.int .i64 (i:Int)) rfl rfl ?_
    refine wpList_nil (K3 (wp_region_lit ?_))
    refine X4 (.int .u32 (nB r)) f4 rfl ?_
    refine a1Z (.int .u32 (nB r)) (.int .u64 8) (.int .u32 (nB (r >>> 8))) rfl rfl rfl rfl (b8m (b4z r 8 (by omega))) ?_
    refine X4 (.int .u32 (nB r)) f4 rfl ?_
    refine a9Y (.int .u32 (nB r)) (.int .u8 (wr .u8 (nB r))) rfl rfl (b8S (by rw [Go.Proofs.Tryz.underlying71]; rfl) Go.Proofs.Tryz.underlying5) ?_
    refine X4 (.string s) f0 rfl ?_
    refine X4 (.int .i64 (i:Int)) rfl rfl ?_
    refine b7u (.string s) (.int .i64 (i:Int)) (.int .u8 (c.toNat:Int)) rfl rfl rfl rfl (c1V Go.Proofs.Tryz.underlying9 hsi) ?_
    refine a1Z (.int .u8 (wr .u8 (nB r))) (.int .u8 (c.toNat:Int)) (.int .u8 (Int.ofNat (ix8 r c))) rfl rfl rfl rfl (by rw [<- c7n]; exact b8g) ?_
    refine c0C (i:=ix8 r c) f3 rfl rfl rfl Go.Proofs.Tryz.underlying96 (by kernel_rfl) (b3R r c) ?_
    refine a6X b (ix8 r c) (.int .u32 (nB (tb8 (ix8 r c)))) rfl rfl (b3q c7B ?_) ?_
    ·have:=b3r h3 (ix8 r c) _ (b4L (b3R r c))
     rw [if_pos (b3R r c),Nat.zero_add] at this
     exact this
    refine a1Z (.int .u32 (nB (r >>> 8))) (.int .u32 (nB (tb8 (ix8 r c)))) (.int .u32 (nB (a7D r c))) rfl rfl rfl rfl (by rw [c2Z,<- c31]; exact b8g) ?_
    refine a0X (.int .u32 (nB (a7D r c))) rfl rfl ?_
    refine wpList_nil (c0O (K3 (wp_region_lit ?_)))
    refine a1Z (.int .i64 (i:Int)) (.int .i64 1) (.int .i64 (wr .i64 ((i:Int)+1))) f9 rfl rfl rfl b6A ?_
    refine X4 (.int .i64 (wr .i64 ((i:Int)+1))) rfl rfl ?_
    exact wpList_nil ⟨rfl,_,rfl,f0,f3,rfl,f8,congrArg _ (b6w (by omega)),by omega,rfl⟩
  ·rintro e a w ⟨rfl,F,rfl,f4,rfl⟩
   exact c3w ⟨rfl,F,rfl,f4,rfl⟩
 ·rintro a w ⟨F,rfl,f4,rfl⟩
  refine wp_seq (wp_region_lit ?_)
  refine X4 (.int .u32 (nB (a2Z s.data.toList (BitVec.allOnes 32)))) f4 rfl ?_
  refine c1t (.int .u32 (nB (a2Z s.data.toList (BitVec.allOnes 32)))) (.int .u32 (b7o s)) rfl rfl (by unfold b7o; rw [<- c6h]; exact c4h) ?_
  refine a0X (.int .u32 (b7o s)) rfl rfl ?_
  exact wpList_nil (K3 (wp_ret (c65 (.int .u32 (b7o s)) rfl rfl rfl ⟨rfl,k2.trans (hB3 _ hle)⟩)))
theorem c5r:y4 Go.Proofs.Tryz.prog (⟨22,[.d .str],[.k (.d (.int .u32))],b3J⟩:Row I):=by
 intro σ a vs pls res hA hnd happ
 obtain ⟨v1,vs1,p1,q1,e1,e2,⟨e3,e4⟩,e5,e6⟩:=hA
 obtain ⟨s,u⟩:=a
 subst e1 e2 e4 e5 e6
 have e3:v1=.string s:=e3
 subst e3
 have happ:b3J s=some res:=happ
 unfold b3J at happ
 obtain ⟨hle,happ⟩:=y1 happ
 cases happ
 refine .inl ⟨hbS,(c1Y s (Nat.le_of_ble_eq_true hle) σ.w).mono fun e w' ⟨e1,hB⟩=>⟨_,⟨w',b77 σ⟩,e1,rfl,?_,?_⟩⟩
 ·exact ⟨c0U hB,hB.below.os,hB.below.tape,hB.below.output,fun k hk _=>⟨hB.below.block k hk,by simp [b77,hk]⟩⟩
 ·exact ⟨[_],[],[],rfl,rfl,⟨_,rfl,⟨rfl,rfl⟩⟩,rfl,List.nodup_nil,fun g hg=>by cases hg⟩
end Go.Qx
end
section
namespace Go.Qx
open Go Go.RowKit Go.Sx
section
variable {I:TypeId->Type} [∀ E,Rp (I E)] {P:Program}{tb:Tab I}{X X':Cxt}{c c':Cx}{σ τ:S}{s:St I}{n:Nat}{F:Fr}
def b1m:PV I->Bool
 | .int _ _=>true
 | .bool _=>true
 | .str _=>true
 | .nl _=>true
 | _=>false
theorem b7G:∀ {ls:List (PV I)} {cs:List Value},ls.all b1m=true->RG X c σ ls cs->RG X' c' σ ls cs
 | [],_,_,h=>by simp only [RG] at h ⊢; exact h
 | p::ls,cs,hp,h=>by
   simp only [List.all_cons,Bool.and_eq_true] at hp
   simp only [RG] at h ⊢
   obtain ⟨a,r,e,h1,h2⟩:=h
   refine ⟨a,r,e,?_,b7G hp.2 h2⟩
   rcases h1 with h1 | ⟨h1,v,e2,h3⟩
   ·exact .inl h1
   ·refine .inr ⟨h1,v,e2,?_⟩
    revert h3
    cases p<;>first | (intro h3; simp only [RV] at h3 ⊢; exact h3) | exact absurd hp.1 (by simp [b1m])
def c2C (tb:Tab I)(TS TM:TypeId)(rl:List ResultVar):Ex->St I->Option (I TS×List (PV I)):=fun e s=>match e with
 | .exit _=>none
 | _=>match a9a tb s rl with
   | some [.ptr l2 0]=>match s.O l2 with
     | some (some (.var T2 (.ptr l1 0::r) true))=>match s.O l1 with
       | some (some (.var T1 ls true))=>bif Nat.beq T1 TS&&Nat.beq T2 TM&&!(Nat.beq l1 l2)&&r.all b1m then Option.bind (ofG tb TS ls) fun d=>some (d,r) else none
       | _=>none
     | _=>none
   | _=>none
def c3D (E:TypeId)(nt:Nat)(xs:List (I E)):St I:=⟨nt,fun i=>bif Nat.beq i 0 then some (.sl E xs false) else none,fun _=>none,0⟩
def b1z (tb:Tab I)(E TS TM:TypeId)(m:Nat)(_:X6 I)(ρ:Type)(_:Obs I)(nb:Nat)(ps:List (PV I))(k:Ef I->Option ρ):Option ρ:=match ps with
 | [.sl E' xs _]=>Option.bind (a0v E E' xs) fun ys=>Option.bind (ofG tb TS [.sl E (ys.take m) false,.int .i64 0]) fun d=>Option.bind (tb.zero TM) fun zs =>
    k ⟨.ptr (nb+1) 0,[],[.var TS [.dat TS d] true,.var TM (.ptr nb 0::zs.drop 1) true]⟩
 | _=>none
theorem c4H (ht:TabOk P tb)(hmx:P.follows .mixedOrders=true){f:FuncId}{fn:Func}{E TS TM:TypeId}{m nt:Nat}{cd:Code}{rl:List ResultVar}{H:Hints I}{q:Nat}
 (hf : P.funcs[f]? = some fn) (hb : ∃ (i0 : Nat) (t0 : TypeId) (p0 : String), fn.body = some (.seq (.region i0 #[⟨some q, .assign (.const (.pointer none)), t0, p0, #[], none⟩] false) cd)) (hq : q ≠ 0) (hname : (fn.name == "runtime.NumGoroutine") = false) (hn : fn.ntmps = nt) (hres : fn.results.toList = rl) (hle : Nat.ble 1 nt = true) (hcode : a07 H cd 1 = true)
 (hex:∀ (xs:List (I E)) (d:I TS) (zs:List (PV I)),ofG tb TS [.sl E (xs.take m) false,.int .i64 0]=some d->tb.zero TM=some zs->a4h tb noD H cd 1 (I TS×List (PV I)) (c3D E nt xs) (c2C tb TS TM rl)=some (d,zs.drop 1)) :
 EntOk P (⟨f,b1z tb E TS TM m⟩:Ans I):=by
 obtain ⟨i0,t0,p0,hb⟩:=hb
 refine ⟨fun disp ρ O nb ps k=>?_,fun disp hd O nb ps ef he=>?_⟩
 ·show b1z tb E TS TM m disp ρ O nb ps k=(b1z tb E TS TM m disp (Ef I) O nb ps some).bind k
  unfold b1z
  split
  ·simp only [Option.bind_assoc,Option.bind_some]
  ·rfl
 ·intro X c σ s n F vs hX hO h hvs hfree
  have he':b1z tb E TS TM m disp (Ef I) O nb ps some=some ef:=he
  unfold b1z at he'
  split at he'
  ·rename_i E' xs full
   obtain ⟨ys,hys,he'⟩:=bind_some he'
   obtain ⟨d,hd',he'⟩:=bind_some he'
   obtain ⟨zs,hzs,he'⟩:=bind_some he'
   cases he'
   unfold a0v at hys
   split at hys
   ·rename_i hE
    subst hE
    cases hys
    simp only [RVs] at hvs
    obtain ⟨v,r,rfl,hv,hr⟩:=hvs
    subst hr
    let X0:Cxt:=⟨P,σ.N,fun _=>False⟩
    have hexec:=hex xs d zs hd' hzs
    have hini:Rel X0 (fun _=>none) σ (c3D E' nt xs) nt (Y9 (a10 [v]) (some q) (.pointer none)):=by
     refine ⟨rfl,fun i p hp=>?_,(fun _ _ h=>by cases h),(fun _ _ _ _ _ ⟨_,h⟩=>by cases h),(fun _ _ _ ⟨_,h⟩=>by cases h),fun _ _=>rfl,Nat.le_refl _,noN.nests fun _ _ _ _ _ _ h=>by cases h⟩
     have hp':(bif Nat.beq i 0 then some (PV.sl E' xs false) else none)=some p:=hp
     obtain ⟨hi,hp'⟩:=y1 hp'
     cases hp'
     have:=Nat.eq_of_beq_eq_true hi
     subst this
     simp only [RV] at hv
     obtain ⟨A,k,e,hs,_⟩:=hv
     have:Y9 (a10 [v]) (some q) (.pointer none) 0=v:=by
      have hb0:Nat.beq 0 q=false:=by
       cases hb0:Nat.beq 0 q with
       | false=>rfl
       | true=>exact absurd (Nat.eq_of_beq_eq_true hb0).symm hq
      simp [Y9,upd,hb0,a10,List.getD]
     rw [this]
     simp only [RV]
     exact ⟨A,k,e,hs,fun e=>by cases e⟩
    refine .inl ⟨⟨fn,_,hf,hb,hname⟩,calls_of_wp hf hb ?_⟩
    have hle':=Nat.le_of_ble_eq_true hle
    have e:(⟨[v].toArray++Array.replicate (fn.ntmps - [v].toArray.size) undef,[]⟩:Act)=fr nt (a10 [v]):=by
     rw [hn]
     simp only [fr]
     congr 1
     apply Array.ext
     ·simp; omega
     ·intro i h1 h2
      simp only [Array.getElem_ofFn,a10,Array.getElem_append]
      split
      ·rename_i hi; simp at hi; simp [List.getD,hi]
      ·rename_i hi; simp at hi; simp [List.getD,List.getElem?_eq_none (l:=[v]) (show [v].length<=i by simp; omega)]
    rw [e]
    refine wp_seq (wp_region_lit ?_)
    refine a0X (.pointer none) rfl rfl ?_
    refine wpList_nil (K3 ?_)
    refine a1v ht c18 hmx cd 1 hcode _ _ _ _ X0 _ σ _ _ rfl hexec hini fun ex s' c2 τ F' hfin hle2 hr st _=>?_
    have key:(∃ l1 l2 T1 T2 r ls,a9a tb s' rl=some [.ptr l2 0]/\s'.O l2=some (some (.var T2 (.ptr l1 0::r) true))/\s'.O l1=some (some (.var T1 ls true))/\(Nat.beq T1 TS&&Nat.beq T2 TM&&!(Nat.beq l1 l2)&&r.all b1m)=true/\ofG tb TS ls=some d/\r=zs.drop 1) ->
     ∃ v,(results fn (fr nt F').tmps).run P τ.w=.ok v τ.w/\∃ v' τ',Ending.returned v=.returned v'/\τ'.w=τ.w/\Stp X.M σ τ'/\∃ c',Cx.le c c'/\Rel X c' τ' (apE s nb ⟨.ptr (nb+1) 0,[],[.var TS [.dat TS d] true,.var TM (.ptr nb 0::zs.drop 1) true]⟩) n F/\RV X c' τ' (.ptr (nb+1) 0:PV I) v':=by
     rintro ⟨l1,l2,T1,T2,r,ls,g1,g2,g3,g4,g5,rfl⟩
     simp only [Bool.and_eq_true] at g4
     obtain ⟨⟨⟨t1,t2⟩,t3⟩,t4⟩:=g4
     have t1:=Nat.eq_of_beq_eq_true t1
     have t2:=Nat.eq_of_beq_eq_true t2
     subst t1
     subst t2
     have hne:l1≠l2:=fun e=>by subst e; simp at t3
     obtain ⟨ws,w1,w2⟩:=b4G ht hr g1
     simp only [RVs] at w1
     obtain ⟨v2,r2,rfl,hv2,hr2⟩:=w1
     subst hr2
     simp only [RV] at hv2
     obtain ⟨b2,w2',cc2,rfl⟩:=hv2
     obtain ⟨b2',cs2,k1,k2,k3,k4,_⟩:=hr.objs l2 _ g2
     rw [k1] at cc2
     cases cc2
     obtain ⟨b1,cs1,m1,m2,m3,m4,_⟩:=hr.objs l1 _ g3
     have hb1:σ.N<=b1:=(hr.mine l1 _ b1 ⟨_,g3⟩ m1 rfl).elim id False.elim
     have hb2:σ.N<=b2:=(hr.mine l2 _ b2 ⟨_,g2⟩ k1 rfl).elim id False.elim
     have hbne:b1≠b2:=fun e=>by
      subst e
      exact hne (hr.inj l1 l2 _ _ b1 ⟨_,g3⟩ ⟨_,g2⟩ m1 k1 rfl rfl)
     have stN:Stp NoB σ τ:=st.mono fun b hb hM=>hM.elim (fun (hM:σ.N<=b)=>by omega) id
     have h1:=h.step stN
     have hcd:Rp.cells τ d cs1:=b3s ht g5 m2
     simp only [a0P,Bool.and_eq_true,Option.isNone_iff_eq_none] at hfree
     obtain ⟨f1,f2,_⟩:=hfree
     have f1:s.O nb=none:=f1
     have f2:s.O (nb+1)=none:=f2
     have hle1:Cx.le c (K0 c nb ⟨some ⟨b1,0,none⟩,0,0,some b1⟩):=a5O (h.nom nb f1)
     obtain ⟨n1,n2⟩:=h1.add (l:=nb) (o:=.var T1 [.dat T1 d] true) (p:=⟨some ⟨b1,0,none⟩,0,0,some b1⟩) f1 (fun g hg=>by
      cases hg
      refine ⟨.inl (Nat.le_trans h.base hb1),h.freshN stN hb1,fun l' p' ⟨o,ho⟩ hc hw=>?_⟩
      have:=(h.objs l' o ho).lt hc hw
      omega) ⟨b1,cs1,w8 _ _ _,RG.one hcd,m3,fun _=>m4 rfl,fun e=>by cases e⟩
     have f2':(Z2 s nb (some (.var T1 [.dat T1 d] true))).O (nb+1)=none:=by
      show upF s.O nb _ (nb+1)=none
      rw [Y3 (by omega)]; exact f2
     have hcs2:RG X (K0 (K0 c nb ⟨some ⟨b1,0,none⟩,0,0,some b1⟩) (nb+1) ⟨some ⟨b2,0,none⟩,0,0,some b2⟩) τ (.ptr nb 0::zs.drop 1) cs2:=by
      simp only [RG] at k2 ⊢
      obtain ⟨a,r0,e,q1,q2⟩:=k2
      refine ⟨a,r0,e,?_,b7G t4 q2⟩
      rcases q1 with q1 | ⟨_,v,e2,q3⟩
      ·exact absurd q1 (by simp [b3U])
      ·refine .inr ⟨rfl,v,e2,?_⟩
       simp only [RV] at q3 ⊢
       obtain ⟨b',w',q4,q5⟩:=q3
       rw [m1] at q4
       cases q4
       exact ⟨b1,some b1,by simp [K0],q5⟩
     obtain ⟨n3,n4⟩:=n2.add (l:=nb+1) (o:=.var T2 (.ptr nb 0::zs.drop 1) true) (p:=⟨some ⟨b2,0,none⟩,0,0,some b2⟩) f2' (fun g hg=>by
      cases hg
      refine ⟨.inl (Nat.le_trans h.base hb2),notIn.grow (s':=Z2 s nb (some (.var T1 [.dat T1 d] true))) (h.freshN stN hb2) h1 hle1 fun l' E E' u xs q e=>?_,fun l' p' ⟨o,ho⟩ hc hw=>?_⟩
      ·rcases j6 e with ⟨_,e'⟩ | ⟨_,e'⟩
       ·cases e'
       ·exact e'
      ·by_cases el:l'=nb
       ·subst el
        rw [w8] at hc
        cases hc
        cases hw
        exact hbne rfl
       ·have ho':s.O l'=some (some o):=(Y3 el).symm.trans ho
        have hc':c l'=some p':=by simpa [K0,el] using hc
        have:=(h.objs l' o ho').lt hc' hw
        omega) ⟨b2,cs2,w8 _ _ _,hcs2,k3,fun _=>k4 rfl,fun e=>by cases e⟩
     refine ⟨_,b5f (by rw [hres]; exact w2),_,τ,rfl,rfl,stN.no,_,Cx.le_trans n1 n3,n4,?_⟩
     simp only [a7e,RV]
     exact ⟨b2,_,w8 _ _ _,rfl⟩
    have hfin':(match a9a tb s' rl with
     | some [.ptr l2 0]=>match s'.O l2 with
       | some (some (.var T2 (.ptr l1 0::r) true))=>match s'.O l1 with
         | some (some (.var T1 ls true))=>bif Nat.beq T1 TS&&Nat.beq T2 TM&&!(Nat.beq l1 l2)&&r.all b1m then Option.bind (ofG tb TS ls) fun d=>some (d,r) else none
         | _=>none
       | _=>none
     | _=>none)=some (d,zs.drop 1)->∃ l1 l2 T1 T2 r ls,a9a tb s' rl=some [.ptr l2 0]/\s'.O l2=some (some (.var T2 (.ptr l1 0::r) true))/\s'.O l1=some (some (.var T1 ls true))/\(Nat.beq T1 TS&&Nat.beq T2 TM&&!(Nat.beq l1 l2)&&r.all b1m)=true/\ofG tb TS ls=some d/\r=zs.drop 1:=by
     intro hh
     split at hh
     ·rename_i l2 e1
      split at hh
      ·rename_i T2 l1 r e2
       split at hh
       ·rename_i T1 ls e3
        obtain ⟨q1,hh⟩:=y1 hh
        obtain ⟨d0,q2,hh⟩:=bind_some hh
        cases hh
        exact ⟨l1,l2,T1,T2,_,ls,e1,e2,e3,q1,q2,rfl⟩
       ·cases hh
      ·cases hh
     ·cases hh
    cases ex with
    | exit i=>cases hfin
    | normal =>
      obtain ⟨v,h1,v',τ',h2,h3⟩:=key (hfin' hfin)
      exact ⟨rfl,v,h1,v',τ',h2,h3⟩
    | ret =>
      obtain ⟨v,h1,v',τ',h2,h3⟩:=key (hfin' hfin)
      exact ⟨rfl,v,h1,v',τ',h2,h3⟩
   ·cases hys
  ·cases he'
end
end Go.Qx
end
section
namespace Go.Qx
open Go Go.RowKit Go.Sx
set_option maxHeartbeats 1600000
set_option maxRecDepth 100000
abbrev RK (r:Row I):Prop:=y4 Go.Proofs.Tryz.prog r
abbrev RO (r:Rio I):Prop:=b8a Go.Proofs.Tryz.prog r
def mkH (a:List (Nat×List (List Nat)))(b c:List (Nat×List Nat))(j:List (Nat×JH))(l:List (Nat×LH I))(k:List (Nat×KH I))(ns:List (Nat×NH I))(u:List (Nat×Nat)):Hints I :=
 ⟨fun i=>(asc a i).getD [],fun i=>(asc b i).getD [],fun i=>(asc c i).getD [],asc j,asc l,asc k,asc ns,fun i=>(asc u i).getD 0⟩
def w9:Hints I:=mkH [] [] [] [] [] [] [] []
structure En where
 ans:Ans I
 ok:EntOk Go.Proofs.Tryz.prog ans
def enL:List En->List (Ans I)
 | []=>[]
 | e::r=>e.ans::enL r
theorem a2R:∀ l:List En,c1a Go.Proofs.Tryz.prog (enL l)
 | []=>trivial
 | e::r=>⟨e.ok,a2R r⟩
def eR {r:Row I}(h:RK r):En:=⟨c5l tb r,c4m a1J h⟩
def eO {r:Rio I}(h:RO r):En:=⟨c5s tb r,c4r a1J h⟩
def eS {r:Row I}(T f j:Nat)(is:List Nat)(h:a0q Go.Proofs.Tryz.prog r (a8b T f j is)):En:=⟨c1l tb r (b7l T f j is),b5s a1J h (fun _ _ _ _ _ _ _ _ _ hO h hc hv=>c1h hO h hc hv)⟩
def eM {r:Row I}(f j i:Nat)(h:a0q Go.Proofs.Tryz.prog r (a8U f j i)):En:=⟨c1l tb r (b8X f j i),b5s a1J h (fun _ _ _ _ _ _ _ _ _ _ _ hc hv=>c1L hc hv)⟩
theorem okR {r:Row I}(l:List En){fn:Func}(nt:Nat)(H:Hints I)(rl:List ResultVar)(hf:(Go.Proofs.Tryz.prog).funcs[r.f]?=some fn)
 (h : (fn.body, fn.name == "runtime.NumGoroutine", fn.ntmps, fn.results.toList, Nat.ble r.ps.length nt, a07 H (a5f fn) 1, r.run) = (some (a5f fn), false, nt, rl, true, true, b5z r.ps (c4g tb (b6d (enL l) 3) H (a5f fn) nt r.ps r.rs rl))) : RK r := by
 simp only [Prod.mk.injEq] at h
 obtain ⟨h1,h2,h3,h4,h5,h6,h7⟩:=h
 exact c5y a1J (a1g (a2R l) 3) mixed nt hf h1 h2 h3 h4 h5 h6 h7
def cd2 (fn:Func):Code:=match a5f fn with
 | .seq _ b=>b
 | c=>c
theorem c6N (xs:List (I 3)):cut xs 0 (min (xs.length:Int) 50)=some (xs.take 50):=by
 unfold cut
 rw [if_pos ⟨by omega,by omega,by omega⟩]
 congr 1
 rw [show (0:Int).toNat=0 from rfl,List.drop_zero]
 by_cases h:xs.length<=50
 ·rw [List.take_of_length_le (by omega),List.take_of_length_le h]
 ·congr 1; omega
theorem c5V:(fun xs:List (I 3)=>a4h tb noD w9 (cd2 Go.Proofs.Tryz.f10) 1 (I 49×List (PV I)) (c3D 3 12 xs) (c2C tb 49 45 [.tmp 2])) =
 fun xs=>Option.bind (cut xs 0 (min (xs.length:Int) 50)) fun ys=>Option.bind (ofG tb 49 [.sl 3 ys false,.int .i64 0]) fun d=>Option.bind (tb.zero 45) fun zs=>some (d,zs.drop 1):=by kernel_rfl
def c6X:En:=⟨⟨10,b1z tb 3 49 45 50⟩,c4H (H:=w9) (q:=2) (rl:=[.tmp 2]) (nt:=12) (cd:=cd2 Go.Proofs.Tryz.f10) a1J mixed Go.Proofs.Tryz.func10 ⟨_,_,_,rfl⟩ (by decide) (by kernel_rfl) (by kernel_rfl) (by kernel_rfl) (by kernel_rfl) (by kernel_rfl) fun xs d zs h1 h2=>by
 have h:=congrFun c5V xs
 rw [c6N,Option.bind_some,h1,Option.bind_some,h2] at h
 exact h⟩
def c4W:Row I:=⟨172,[.d (.str),.d (.str)],[.k (.d (.int .i64))],b9i⟩
theorem c5P:y4 Go.Proofs.Tryz.prog c4W:=c5L Go.Proofs.Tryz.func172 (by kernel_rfl) rfl (by kernel_rfl) (by kernel_rfl)
def c5Z:Row I:=⟨79,[.d (.sl 3)],[.k (.row 3 false)],a36 8⟩
theorem c4d:y4 Go.Proofs.Tryz.prog c5Z:=b8w a1J mixed Go.Proofs.Tryz.func79 (by kernel_rfl) (by kernel_rfl) (by kernel_rfl) Go.Proofs.Tryz.underlying22 rfl (by kernel_rfl) (fun _=>by kernel_rfl)
def c4j:Row I:=⟨142,[.d (.sl 102)],[.k (.row 102 false)],a36 40⟩
theorem c6d:y4 Go.Proofs.Tryz.prog c4j:=b8w a1J mixed Go.Proofs.Tryz.func142 (by kernel_rfl) (by kernel_rfl) (by kernel_rfl) Go.Proofs.Tryz.underlying78 rfl (by kernel_rfl) (fun _=>by kernel_rfl)
def c4J:Rio I:=⟨110,9,[],[],c0j⟩
theorem c5Q:b8a Go.Proofs.Tryz.prog c4J:=c1W (I:=I) (E:=9) Go.Proofs.Tryz.lay110 110 (by kernel_rfl) (fun x=>x) Iff.rfl ⟨_,_,Go.Proofs.Tryz.func110,rfl,by kernel_rfl⟩
def c5q:Row I:=⟨22,[.d (.str)],[.k (.d (.int .u32))],b3J⟩
theorem c32:y4 Go.Proofs.Tryz.prog c5q:=c5r
def a8e:Hints I:=mkH [(1,[[],[0],[0,1],[0,1,2],[0,1,2,3],[0,1,2,3,4],[0,1,2,3,4,5],[0,1,2],[0,1,2,7],[0,1,2,7,8],[0,1,2,7,8,9],[0,1,2,7,8,9,10],[0,1,2,3,4,5,6,7,8,9,10,11],[0,1,2,3,4,5,6,7,8,9,10,11,12]]),(3,[[],[0],[0,1],[0,1,2],[],[4],[4,5],[4,5,6],[0,1,2,3,4,5,6,7],[0,1,2,3,4,5,6,7,8],[],[0,1,2,3,4,5,6,7,8,9,10],[0,1,2,3,4,5,6,7,8,9,10,11]])] [] [] [] [] [] [] []
def a66:Row I:=⟨12,[.var 49 (.k (.d (.dat 49))) true,.d (.int .i64)],[.k (.d (.int .i64))],z8⟩
theorem Q4:RK (a66) :=
 okR [] 46 a8e [.tmp 4] Go.Proofs.Tryz.func12 (by kernel_rfl)
def a6W:Hints I:=mkH [(5,[[],[],[],[1,2],[1,2,3],[],[5],[5,6],[5,6,7],[5,6,7,8],[0,1,2,3,4,5,6,7,8,9],[],[0,1,2,3,4,5,6,7,8,9,10,11]]),(9,[[],[0],[],[2],[2,3],[2,3,4],[2,3,4,5],[2,3,4,5,6],[0,1,2,3,4,5,6,7],[0,1,2,3,4,5,6,7,8],[0,1,2,3,4,5,6,7,8,9]])] [] [] [] [(58,⟨1125899906842496,[],[(0,.lvs [.pv 49,.d (.sl 75),.d (.int .i64),.d (.bool),.d (.int .i64)])],[(7,.k (.row 75 false)),(8,.k (.d (.int .i64)))],[((.exit 0),[(7,.k (.row 75 false))])],bnd tb (.slot 2) 1⟩),
 (14922,⟨70364449211392,[],[(9,.lvs [.d (.str),.d (.str),.row 3 false,.d (.int .i64)]),(24,.k (.d (.dat 49)))],[(10,.k (.d (.int .i64)))],[((.exit 2),[])],bnd tb (.slot 10) 2⟩)] [] [] []
def a5n:Row I:=⟨25,[.var 45 (.lvs [.pv 49,.d (.sl 75),.d (.int .i64),.d (.bool),.d (.int .i64)]) true,.d (.str),.d (.int .i64)],[.k (.row 75 false)],a1r⟩
theorem a5R:RK (a5n) :=
 okR [eR Q4] 51 a6W [.tmp 6] Go.Proofs.Tryz.func25 (by kernel_rfl)
def a5p:Row I:=⟨13,[.var 45 (.lvs [.pv 49,.d (.sl 75),.d (.int .i64),.d (.bool),.d (.int .i64)]) true,.d (.str),.d (.int .i64)],[.k (.row 75 false)],a0w⟩
theorem a5V:RK (a5p) :=
 okR [eR a5R] 11 w9 [.tmp 6] Go.Proofs.Tryz.func13 (by kernel_rfl)
def b2j:Row I:=⟨97,[.d (.str),.d (.str)],[.k (.d (.int .i64))],a4l⟩
theorem a5H:RK (b2j) :=
 okR [] 11 w9 [.tmp 4] Go.Proofs.Tryz.func97 (by kernel_rfl)
def a8F:Row I:=⟨70,[.d (.dat 51),.d (.dat 51)],[.k (.d (.bool))],a4O⟩
theorem a9J:RK (a8F) :=
 okR [eR a5H] 24 w9 [.tmp 4] Go.Proofs.Tryz.func70 (by kernel_rfl)
def b0O:Hints I:=mkH [] [] [] [(62669,⟨1006633056,[],[],[(.normal,[(5,.k (.row 51 false)),(6,.k (.d (.bool)))])]⟩)] [(122,⟨34359736688,[],[],[(5,.k (.row 51 false)),(6,.k (.d (.bool))),(11,.k (.d (.int .i64)))],[((.exit 0),[(5,.k (.row 51 false)),(6,.k (.d (.bool)))]),(.ret,[(4,.k (.d (.sl 51)))])],bnd tb (.slot 10) 1⟩)] [] [] []
def a9N:Row I:=⟨42,[.d (.sl 51),.d (.dat 51)],[.k (.d (.sl 51))],a5B⟩
theorem b0k:RK (a9N) :=
 okR [eR a9J] 42 b0O [.tmp 4] Go.Proofs.Tryz.func42 (by kernel_rfl)
def a9I:Hints I:=mkH [] [] [] [] [(58,⟨65320,[],[],[(3,.k (.d (.sl 51))),(8,.k (.d (.int .i64)))],[((.exit 0),[(3,.k (.d (.sl 51)))])],bnd tb (.slot 7) 1⟩)] [] [] []
def a8a:Row I:=⟨23,[.d (.sl 51)],[.k (.d (.sl 51))],a0s⟩
theorem a83:RK (a8a) :=
 okR [eR b0k] 17 a9I [.tmp 2] Go.Proofs.Tryz.func23 (by kernel_rfl)
def a9q:Row I:=⟨72,[.d (.int .i64)],[.k (.d (.str))],a5G⟩
theorem a98:RK (a9q) :=
 okR [] 7 w9 [.tmp 2] Go.Proofs.Tryz.func72 (by kernel_rfl)
def a9F:Row I:=⟨126,[.d (.int .u8)],[.k (.d (.bool))],a20⟩
theorem b0x:RK (a9F) :=
 okR [] 17 w9 [.tmp 2] Go.Proofs.Tryz.func126 (by kernel_rfl)
def b0w:Row I:=⟨127,[.d (.int .u8)],[.k (.d (.bool))],X5⟩
theorem b0L:RK (b0w) :=
 okR [] 9 w9 [.tmp 2] Go.Proofs.Tryz.func127 (by kernel_rfl)
def b2M:Hints I:=mkH [] [] [] [(978976521,⟨34253944624943037145398863266787883273185919104,[],[],[(.normal,[(7,.k (.d (.int .i64)))])]⟩)] [(58,⟨242833611528216133864932738352939863330300854881517440156476551217363035650651062268,[],[],[(4,.k (.row 174 false)),(5,.k (.d (.int .i64)))],[((.exit 0),[(4,.k (.row 174 false))]),(.ret,[(2,.k (.row 174 false)),(3,.k (.d (.bool)))])],bnd tb (.len (.slot 0)) 1⟩),
 (478008,⟨18014397435740288,[],[],[(7,.k (.d (.int .i64)))],[((.exit 3),[(7,.k (.d (.int .i64)))])],bnd tb (.len (.slot 0)) 1⟩),
 (1912056,⟨9901102462643812940843581568,[],[],[(7,.k (.d (.int .i64)))],[((.exit 5),[(7,.k (.d (.int .i64)))])],bnd tb (.len (.slot 0)) 1⟩),
 (7648248,⟨340199290171201906221318119490500690048,[],[],[(7,.k (.d (.int .i64)))],[((.exit 7),[(7,.k (.d (.int .i64)))])],bnd tb (.len (.slot 0)) 1⟩),
 (30593016,⟨182687007768075410693487431098339357195694506112,[],[],[(7,.k (.d (.int .i64)))],[((.exit 9),[(7,.k (.d (.int .i64)))])],bnd tb (.len (.slot 0)) 1⟩)] [] [] []
def b0Z:Row I:=⟨98,[.d (.str)],[.k (.row 174 false),.k (.d (.bool))],a7G⟩
theorem b2s:RK (b0Z) :=
 okR [eR b0x,eR b0L] 278 b2M [.tmp 2,.tmp 3] Go.Proofs.Tryz.func98 (by kernel_rfl)
def a7Y:Hints I:=mkH [(1,[[],[0],[0,1],[0,1,2],[],[4],[4,5],[4,5,6],[4,5,6,7],[0,1,2,3,4,5,6,7,8]]),(2,[[],[0],[0,1],[0,1,2],[],[4],[4,5],[4,5,6],[0,1,2,3,4,5,6,7],[0,1,2,3,4,5,6,7,8],[0,1,2,3,4,5,6,7,8,9]])] [] [] [] [] [] [] []
def a6B:Row I:=⟨134,[.var 155 (.lvs [.d (.sl 174),.d (.int .i64),.d (.bool),.d (.bool),.d (.bool),.d (.int .i64),.row 81 true,.d (.int .i64),.d (.sl 9),.d (.sl 3),.d (.sl 4),.d (.sl 9)]) true],[.k (.d (.dat 174))],K1⟩
theorem V8:RK (a6B) :=
 okR [] 24 a7Y [.cell 2 174] Go.Proofs.Tryz.func134 (by kernel_rfl)
def a61:Hints I:=mkH [] [(1,[9,15])] [] [(12,⟨2097120,[],[(0,.lvs [.d (.sl 174),.d (.int .i64),.d (.bool),.d (.bool),.d (.bool),.d (.int .i64),.row 81 true,.d (.int .i64),.d (.sl 9),.d (.sl 3),.d (.sl 4),.d (.sl 9)])],[(.normal,[(20,.k (.d (.bool)))])]⟩),
 (978,⟨316912650057057350356995932172,[],[],[(.normal,[(3,.k (.d (.int .i64)))]),(.ret,[(2,.k (.d (.bool)))])]⟩),
 (62617,⟨65302194596872192,[],[],[(.normal,[(51,.k (.d (.bool)))])]⟩),
 (250477,⟨3746994889972252672,[],[],[(.normal,[(58,.k (.d (.bool)))])]⟩)] [(122,⟨316912650057057350374142246940,[],[],[(3,.k (.d (.int .i64))),(4,.k (.d (.int .i64)))],[((.exit 0),[]),(.ret,[(2,.k (.d (.bool)))])],bnd tb (.len (.ld 149 (.fld 155 0 (.slot 0)))) 1⟩)] [] [] []
def a5u:Row I:=⟨129,[.var 155 (.lvs [.d (.sl 174),.d (.int .i64),.d (.bool),.d (.bool),.d (.bool),.d (.int .i64),.row 81 true,.d (.int .i64),.d (.sl 9),.d (.sl 3),.d (.sl 4),.d (.sl 9)]) true],[.k (.d (.bool))],a28⟩
theorem a6p:RK (a5u) :=
 okR [eR V8] 98 a61 [.tmp 2] Go.Proofs.Tryz.func129 (by kernel_rfl)
def a7w:Row I:=⟨100,[.var 155 (.lvs [.d (.sl 174),.d (.int .i64),.d (.bool),.d (.bool),.d (.bool),.d (.int .i64),.row 81 true,.d (.int .i64),.d (.sl 9),.d (.sl 3),.d (.sl 4),.d (.sl 9)]) true,.d (.int .i64),.d (.str)],[.k (.d (.bool))],Z4⟩
theorem Q8:RK (a7w) :=
 okR [eR V8] 33 w9 [.tmp 6] Go.Proofs.Tryz.func100 (by kernel_rfl)
def a8Q:Hints I:=mkH [(1,[[],[],[1],[1,2],[1,2,3],[1,2,3,4],[],[6],[1,2,3,4,5,6,7],[0,1,2,3,4,5,6,7,8],[0,1,2,3,4,5,6,7,8,9],[0,1,2,3,4,5,6,7,8,9,10],[0,1,2,3,4,5,6,7,8,9,10,11]])] [] [] [] [] [] [] []
def a7u:Row I:=⟨133,[.var 155 (.lvs [.d (.sl 174),.d (.int .i64),.d (.bool),.d (.bool),.d (.bool),.d (.int .i64),.row 81 true,.d (.int .i64),.d (.sl 9),.d (.sl 3),.d (.sl 4),.d (.sl 9)]) true,.d (.dat 81)],[.k (.d (.int .i64))],y3⟩
theorem Q7:RK (a7u) :=
 okR [] 24 a8Q [.tmp 4] Go.Proofs.Tryz.func133 (by kernel_rfl)
def a6I:Row I:=⟨131,[.var 155 (.lvs [.d (.sl 174),.d (.int .i64),.d (.bool),.d (.bool),.d (.bool),.d (.int .i64),.row 81 true,.d (.int .i64),.d (.sl 9),.d (.sl 3),.d (.sl 4),.d (.sl 9)]) true,.d (.str)],[],Y5⟩
theorem V9:RK (a6I) :=
 okR [eR Q8] 11 w9 [] Go.Proofs.Tryz.func131 (by kernel_rfl)
def b1p:Row I:=⟨182,[.d (.int .u8)],[.k (.d (.bool))],a3T⟩
theorem b2B:RK (b1p) :=
 okR [] 9 w9 [.tmp 2] Go.Proofs.Tryz.func182 (by kernel_rfl)
def b1g:Row I:=⟨166,[.d (.int .u8)],[.k (.d (.bool))],a7I⟩
theorem b2k:RK (b1g) :=
 okR [] 9 w9 [.tmp 2] Go.Proofs.Tryz.func166 (by kernel_rfl)
def b2d:Hints I:=mkH [] [] [] [] [(58,⟨4398046248972,[],[],[(3,.k (.d (.int .i64)))],[((.exit 0),[]),(.ret,[(2,.k (.d (.bool)))])],bnd tb (.len (.slot 0)) 1⟩)] [] [] []
def b0D:Row I:=⟨168,[.d (.str)],[.k (.d (.bool))],a14⟩
theorem a2m:RK (b0D) :=
 okR [eR b2B,eR b2k] 42 b2d [.tmp 2] Go.Proofs.Tryz.func168 (by kernel_rfl)
def a8E:Row I:=⟨170,[.d (.dat 100)],[.k (.d (.bool))],a2B⟩
theorem a3K:RK (a8E) :=
 okR [eR a2m] 22 w9 [.tmp 2] Go.Proofs.Tryz.func170 (by kernel_rfl)
def b1r:Row I:=⟨184,[.d (.int .i64),.d (.int .i64)],[.k (.d (.int .i64))],a7F⟩
theorem b1R:RK (b1r) :=
 okR [] 11 w9 [.tmp 4] Go.Proofs.Tryz.func184 (by kernel_rfl)
def a6H:Row I:=⟨171,[.d (.dat 100),.d (.dat 100)],[.k (.d (.int .i64))],a1M⟩
theorem a2U:RK (a6H) :=
 okR [eR b1R,eR a5H] 20 w9 [.tmp 4] Go.Proofs.Tryz.func171 (by kernel_rfl)
def a6Y:Hints I:=mkH [(2,[[],[],[1],[0,1,2],[0,1,2,3],[0,1,2,3,4],[0,1,2,3,4],[0,1,2,3,4,5,6],[0,1,2,3,4,5,6,7],[0,1,2,3,4,5,6,7,8],[0,1,2,3,4],[0,1,2,3,4,10],[0,1,2,3,4,5,6,7,8,9,10,11],[0,1,2,3,4,5,6,7,8,9,10,11,12],[0,1,2,3,4,5,6,7,8,9,10,11,12,13]]),(4,[[],[],[1],[0,1,2],[0,1,2,3],[0,1,2,3,4],[0,1,2,3,4],[0,1,2,3,4,5,6],[0,1,2,3,4,5,6,7],[0,1,2,3,4,5,6,7,8],[0,1,2,3,4],[0,1,2,3,4,10],[0,1,2,3,4,5,6,7,8,9,10,11],[0,1,2,3,4,5,6,7,8,9,10,11,12]]),(7,[[],[],[1],[0,1,2],[],[],[4,5],[0,1,2,3,4,5,6],[0,1,2,3,4,5,6,7]])] [] [] [(61,⟨7696581394432,[],[(0,.lvs [.d (.sl 174),.d (.int .i64),.d (.bool),.d (.bool),.d (.bool),.d (.int .i64),.row 81 true,.d (.int .i64),.d (.sl 9),.d (.sl 3),.d (.sl 4),.d (.sl 9)])],[(.normal,[])]⟩)] [(28,⟨67108480,[],[],[(7,.k (.d (.int .i64)))],[((.exit 0),[(7,.k (.d (.int .i64)))])],bnd tb (.len (.slot 1)) 1⟩)] [] [] []
def a5v:Row I:=⟨230,[.var 155 (.lvs [.d (.sl 174),.d (.int .i64),.d (.bool),.d (.bool),.d (.bool),.d (.int .i64),.row 81 true,.d (.int .i64),.d (.sl 9),.d (.sl 3),.d (.sl 4),.d (.sl 9)]) true,.d (.sl 102),.d (.dat 102)],[.k (.row 102 false)],a26⟩
theorem a6s:RK (a5v) :=
 okR [eR a2U] 55 a6Y [.tmp 6] Go.Proofs.Tryz.func230 (by kernel_rfl)
def j9 (n:Nat):Row I:=⟨196,[.var 155 (.lvs [.d (.sl 174),.d (.int .i64),.d (.bool),.d (.bool),.d (.bool),.d (.int .i64),.row 81 true,.d (.int .i64),.d (.sl 9),.d (.sl 3),.d (.sl 4),.d (.sl 9)]) true,.d (.str)],[.k (.d (.int .i64))],a6F n⟩
def a7l (n:Nat):Hints I:=mkH [] [] [] [] [(28,⟨16264,[],[(0,.lvs [.d (.sl 174),.d (.int .i64),.d (.bool),.d (.bool),.d (.bool),.d (.int .i64),.row 81 true,.d (.int .i64),.d (.sl 9),.d (.sl 3),.d (.sl 4),.d (.sl 9)])],[(3,.k (.row 3 false))],[((.exit 0),[(3,.k (.row 3 false))])],fun _=>some n⟩)] [] [] []
def w5 (n:Nat):Row I:=⟨149,[.var 155 (.lvs [.d (.sl 174),.d (.int .i64),.d (.bool),.d (.bool),.d (.bool),.d (.int .i64),.row 81 true,.d (.int .i64),.d (.sl 9),.d (.sl 3),.d (.sl 4),.d (.sl 9)]) true],[.k (.d (.int .i64))],a8A n⟩
def a6b (n:Nat):Hints I:=mkH [(20,[[],[],[1],[0,1,2],[],[0,1,2,3,4]])] [(7,[46])] [] [(8146,⟨11139483563523841539937031148886364170223616,[],[(0,.lvs [.d (.sl 174),.d (.int .i64),.d (.bool),.d (.bool),.d (.bool),.d (.int .i64),.row 81 true,.d (.int .i64),.d (.sl 9),.d (.sl 3),.d (.sl 4),.d (.sl 9)]),(3,.lvs [.d (.int .i64),.d (.int .i64),.d (.int .i64),.d (.str),.row 3 false,.row 102 false,.d (.int .i64),.d (.int .i64)])],[(.normal,[])]⟩),
 (15916,⟨1125891316908032,[],[(0,.lvs [.d (.sl 174),.d (.int .i64),.d (.bool),.d (.bool),.d (.bool),.d (.int .i64),.row 81 true,.d (.int .i64),.d (.sl 9),.d (.sl 3),.d (.sl 4),.d (.sl 9)])],[(.normal,[(49,.k (.d (.bool)))])]⟩),
 (15917,⟨1298074214633706906006724175463300,[],[(0,.lvs [.d (.sl 174),.d (.int .i64),.d (.bool),.d (.bool),.d (.bool),.d (.int .i64),.row 81 true,.d (.int .i64),.d (.sl 9),.d (.sl 3),.d (.sl 4),.d (.sl 9)]),(3,.lvs [.d (.int .i64),.d (.int .i64),.d (.int .i64),.d (.str),.row 3 false,.row 102 false,.d (.int .i64),.d (.int .i64)]),(4,.k (.d (.dat 290)))],[(.normal,[]),(.ret,[(2,.k (.d (.int .i64)))])]⟩),
 (32584,⟨163335536122050462462419811567248741498880,[],[],[(.normal,[(136,.k (.d (.bool)))])]⟩),
 (254677,⟨128,[],[],[(.normal,[(7,.k (.d (.int .i64)))])]⟩),
 (254685,⟨302231454903657293676544,[],[(8,.k (.d (.dat 100)))],[(.normal,[])]⟩),
 (509358,⟨110680464442257309696,[],[(4,.k (.d (.dat 290)))],[(.normal,[])]⟩)] [(124,⟨83076749736557242056487941267489764,[],[(0,.lvs [.d (.sl 174),.d (.int .i64),.d (.bool),.d (.bool),.d (.bool),.d (.int .i64),.row 81 true,.d (.int .i64),.d (.sl 9),.d (.sl 3),.d (.sl 4),.d (.sl 9)]),(3,.lvs [.d (.int .i64),.d (.int .i64),.d (.int .i64),.d (.str),.row 3 false,.row 102 false,.d (.int .i64),.d (.int .i64)]),(4,.k (.d (.dat 290)))],[(5,.k (.d (.bool)))],[((.exit 0),[]),(.ret,[(2,.k (.d (.int .i64)))])],fun _=>some n⟩),
 (1018,⟨11149692034531469693840932387109317216568320,[],[(0,.lvs [.d (.sl 174),.d (.int .i64),.d (.bool),.d (.bool),.d (.bool),.d (.int .i64),.row 81 true,.d (.int .i64),.d (.sl 9),.d (.sl 3),.d (.sl 4),.d (.sl 9)]),(3,.lvs [.d (.int .i64),.d (.int .i64),.d (.int .i64),.d (.str),.row 3 false,.row 102 false,.d (.int .i64),.d (.int .i64)])],[(10,.k (.d (.int .i64)))],[((.exit 2),[])],bnd tb (.cst 2) 1⟩)] [] [] []
def k8 (n:Nat):Row I:=⟨211,[.var 155 (.lvs [.d (.sl 174),.d (.int .i64),.d (.bool),.d (.bool),.d (.bool),.d (.int .i64),.row 81 true,.d (.int .i64),.d (.sl 9),.d (.sl 3),.d (.sl 4),.d (.sl 9)]) true],[.k (.d (.int .i64))],a7a n⟩
def v8 (n:Nat):Row I:=⟨167,[.var 155 (.lvs [.d (.sl 174),.d (.int .i64),.d (.bool),.d (.bool),.d (.bool),.d (.int .i64),.row 81 true,.d (.int .i64),.d (.sl 9),.d (.sl 3),.d (.sl 4),.d (.sl 9)]) true],[.k (.d (.int .i64))],a7N n⟩
def k9 (n:Nat):Row I:=⟨99,[.var 155 (.lvs [.d (.sl 174),.d (.int .i64),.d (.bool),.d (.bool),.d (.bool),.d (.int .i64),.row 81 true,.d (.int .i64),.d (.sl 9),.d (.sl 3),.d (.sl 4),.d (.sl 9)]) true],[.k (.d (.int .i64))],a3N n⟩
def v7 (n:Nat):Row I:=⟨181,[.var 155 (.lvs [.d (.sl 174),.d (.int .i64),.d (.bool),.d (.bool),.d (.bool),.d (.int .i64),.row 81 true,.d (.int .i64),.d (.sl 9),.d (.sl 3),.d (.sl 4),.d (.sl 9)]) true],[.k (.d (.int .i64))],a8c n⟩
def a7b (n:Nat):Hints I:=mkH [] [] [] [] [(60,⟨33553968,[],[(0,.lvs [.d (.sl 174),.d (.int .i64),.d (.bool),.d (.bool),.d (.bool),.d (.int .i64),.row 81 true,.d (.int .i64),.d (.sl 9),.d (.sl 3),.d (.sl 4),.d (.sl 9)])],[(5,.k (.row 3 false))],[((.exit 0),[]),(.ret,[(4,.k (.row 3 false))])],fun _=>some n⟩)] [] [] []
def w6 (n:Nat):Row I:=⟨132,[.var 155 (.lvs [.d (.sl 174),.d (.int .i64),.d (.bool),.d (.bool),.d (.bool),.d (.int .i64),.row 81 true,.d (.int .i64),.d (.sl 9),.d (.sl 3),.d (.sl 4),.d (.sl 9)]) true,.d (.str)],[.k (.row 3 false)],a9c n⟩
def a7h (n:Nat):Hints I:=mkH [] [] [] [] [(28,⟨16264,[],[(0,.lvs [.d (.sl 174),.d (.int .i64),.d (.bool),.d (.bool),.d (.bool),.d (.int .i64),.row 81 true,.d (.int .i64),.d (.sl 9),.d (.sl 3),.d (.sl 4),.d (.sl 9)])],[(3,.k (.row 3 false))],[((.exit 0),[(3,.k (.row 3 false))])],fun _=>some n⟩)] [] [] []
def w4 (n:Nat):Row I:=⟨130,[.var 155 (.lvs [.d (.sl 174),.d (.int .i64),.d (.bool),.d (.bool),.d (.bool),.d (.int .i64),.row 81 true,.d (.int .i64),.d (.sl 9),.d (.sl 3),.d (.sl 4),.d (.sl 9)]) true],[.k (.d (.int .i64))],a9o n⟩
def w7 (n:Nat):Row I:=⟨195,[.var 155 (.lvs [.d (.sl 174),.d (.int .i64),.d (.bool),.d (.bool),.d (.bool),.d (.int .i64),.row 81 true,.d (.int .i64),.d (.sl 9),.d (.sl 3),.d (.sl 4),.d (.sl 9)]) true,.d (.str)],[.k (.d (.int .i64))],a9A n⟩
theorem a4D (n:Nat)(_:y4 Go.Proofs.Tryz.prog (j9 n))(_:y4 Go.Proofs.Tryz.prog (w5 n))(h_semtyperef18_typer_mapping:y4 Go.Proofs.Tryz.prog (k8 n))(_:y4 Go.Proofs.Tryz.prog (v8 n))(h_semtyperef18_typer_read:y4 Go.Proofs.Tryz.prog (k9 n))(_:y4 Go.Proofs.Tryz.prog (v7 n))(h_semtyperef18_typer_types:y4 Go.Proofs.Tryz.prog (w6 n))(_:y4 Go.Proofs.Tryz.prog (w4 n))(_:y4 Go.Proofs.Tryz.prog (w7 n)):RK (j9 (n+1)) :=
 okR [eR V8,eR a2m,eR Q7,eR h_semtyperef18_typer_read,eR V9,eR h_semtyperef18_typer_types,eR Q8,eR h_semtyperef18_typer_mapping] 94 w9 [.tmp 4] Go.Proofs.Tryz.func196 (by kernel_rfl)
theorem a54 (n:Nat)(_:y4 Go.Proofs.Tryz.prog (j9 n))(_:y4 Go.Proofs.Tryz.prog (w5 n))(_:y4 Go.Proofs.Tryz.prog (k8 n))(h_semtyperef18_typer_prefix:y4 Go.Proofs.Tryz.prog (v8 n))(_:y4 Go.Proofs.Tryz.prog (k9 n))(_:y4 Go.Proofs.Tryz.prog (v7 n))(_:y4 Go.Proofs.Tryz.prog (w6 n))(_:y4 Go.Proofs.Tryz.prog (w4 n))(_:y4 Go.Proofs.Tryz.prog (w7 n)):RK (w5 (n+1)) :=
 okR [eR h_semtyperef18_typer_prefix,eR Q8,eR Q7] 24 (a7l n) [.tmp 2] Go.Proofs.Tryz.func149 (by kernel_rfl)
theorem a42 (n:Nat)(_:y4 Go.Proofs.Tryz.prog (j9 n))(_:y4 Go.Proofs.Tryz.prog (w5 n))(_:y4 Go.Proofs.Tryz.prog (k8 n))(_:y4 Go.Proofs.Tryz.prog (v8 n))(h_semtyperef18_typer_read:y4 Go.Proofs.Tryz.prog (k9 n))(_:y4 Go.Proofs.Tryz.prog (v7 n))(_:y4 Go.Proofs.Tryz.prog (w6 n))(_:y4 Go.Proofs.Tryz.prog (w4 n))(_:y4 Go.Proofs.Tryz.prog (w7 n)):RK (k8 (n+1)) :=
 okR [eR Q8,eR V8,eR h_semtyperef18_typer_read,eR a3K,eR V9,eR a6s,eR Q7] 146 (a6b n) [.tmp 2] Go.Proofs.Tryz.func211 (by kernel_rfl)
theorem a5m (n:Nat)(_:y4 Go.Proofs.Tryz.prog (j9 n))(_:y4 Go.Proofs.Tryz.prog (w5 n))(_:y4 Go.Proofs.Tryz.prog (k8 n))(h_semtyperef18_typer_prefix:y4 Go.Proofs.Tryz.prog (v8 n))(_:y4 Go.Proofs.Tryz.prog (k9 n))(h_semtyperef18_typer_simple:y4 Go.Proofs.Tryz.prog (v7 n))(_:y4 Go.Proofs.Tryz.prog (w6 n))(_:y4 Go.Proofs.Tryz.prog (w4 n))(_:y4 Go.Proofs.Tryz.prog (w7 n)):RK (v8 (n+1)) :=
 okR [eR Q8,eR h_semtyperef18_typer_prefix,eR Q7,eR h_semtyperef18_typer_simple] 19 w9 [.tmp 2] Go.Proofs.Tryz.func167 (by kernel_rfl)
theorem a6Q (n:Nat)(_:y4 Go.Proofs.Tryz.prog (j9 n))(_:y4 Go.Proofs.Tryz.prog (w5 n))(_:y4 Go.Proofs.Tryz.prog (k8 n))(_:y4 Go.Proofs.Tryz.prog (v8 n))(h_semtyperef18_typer_read:y4 Go.Proofs.Tryz.prog (k9 n))(_:y4 Go.Proofs.Tryz.prog (v7 n))(h_semtyperef18_typer_types:y4 Go.Proofs.Tryz.prog (w6 n))(h_semtyperef18_typer_union:y4 Go.Proofs.Tryz.prog (w4 n))(_:y4 Go.Proofs.Tryz.prog (w7 n)):RK (k9 (n+1)) :=
 okR [eR a6p,eR h_semtyperef18_typer_union,eR V9,eR h_semtyperef18_typer_types,eR h_semtyperef18_typer_read,eR Q7] 45 w9 [.tmp 2] Go.Proofs.Tryz.func99 (by kernel_rfl)
theorem a5z (n:Nat)(h_semtyperef18_typer_compound:y4 Go.Proofs.Tryz.prog (j9 n))(_:y4 Go.Proofs.Tryz.prog (w5 n))(_:y4 Go.Proofs.Tryz.prog (k8 n))(_:y4 Go.Proofs.Tryz.prog (v8 n))(_:y4 Go.Proofs.Tryz.prog (k9 n))(_:y4 Go.Proofs.Tryz.prog (v7 n))(_:y4 Go.Proofs.Tryz.prog (w6 n))(_:y4 Go.Proofs.Tryz.prog (w4 n))(h_semtyperef18_typer_word:y4 Go.Proofs.Tryz.prog (w7 n)):RK (v7 (n+1)) :=
 okR [eR V8,eR Q7,eR h_semtyperef18_typer_word,eR h_semtyperef18_typer_compound] 112 w9 [.tmp 2] Go.Proofs.Tryz.func181 (by kernel_rfl)
theorem a58 (n:Nat)(_:y4 Go.Proofs.Tryz.prog (j9 n))(_:y4 Go.Proofs.Tryz.prog (w5 n))(_:y4 Go.Proofs.Tryz.prog (k8 n))(_:y4 Go.Proofs.Tryz.prog (v8 n))(h_semtyperef18_typer_read:y4 Go.Proofs.Tryz.prog (k9 n))(_:y4 Go.Proofs.Tryz.prog (v7 n))(_:y4 Go.Proofs.Tryz.prog (w6 n))(_:y4 Go.Proofs.Tryz.prog (w4 n))(_:y4 Go.Proofs.Tryz.prog (w7 n)):RK (w6 (n+1)) :=
 okR [eR Q8,eR h_semtyperef18_typer_read,eR V9] 25 (a7b n) [.tmp 4] Go.Proofs.Tryz.func132 (by kernel_rfl)
theorem a6l (n:Nat)(_:y4 Go.Proofs.Tryz.prog (j9 n))(h_semtyperef18_typer_inter:y4 Go.Proofs.Tryz.prog (w5 n))(_:y4 Go.Proofs.Tryz.prog (k8 n))(_:y4 Go.Proofs.Tryz.prog (v8 n))(_:y4 Go.Proofs.Tryz.prog (k9 n))(_:y4 Go.Proofs.Tryz.prog (v7 n))(_:y4 Go.Proofs.Tryz.prog (w6 n))(_:y4 Go.Proofs.Tryz.prog (w4 n))(_:y4 Go.Proofs.Tryz.prog (w7 n)):RK (w4 (n+1)) :=
 okR [eR h_semtyperef18_typer_inter,eR Q8,eR Q7] 24 (a7h n) [.tmp 2] Go.Proofs.Tryz.func130 (by kernel_rfl)
theorem a64 (n:Nat)(_:y4 Go.Proofs.Tryz.prog (j9 n))(_:y4 Go.Proofs.Tryz.prog (w5 n))(_:y4 Go.Proofs.Tryz.prog (k8 n))(_:y4 Go.Proofs.Tryz.prog (v8 n))(h_semtyperef18_typer_read:y4 Go.Proofs.Tryz.prog (k9 n))(_:y4 Go.Proofs.Tryz.prog (v7 n))(_:y4 Go.Proofs.Tryz.prog (w6 n))(_:y4 Go.Proofs.Tryz.prog (w4 n))(_:y4 Go.Proofs.Tryz.prog (w7 n)):RK (w7 (n+1)) :=
 okR [eR Q7,eR V9,eR h_semtyperef18_typer_read] 94 w9 [.tmp 4] Go.Proofs.Tryz.func195 (by kernel_rfl)
theorem a1l:∀ n:Nat,y4 Go.Proofs.Tryz.prog (j9 n)/\y4 Go.Proofs.Tryz.prog (w5 n)/\y4 Go.Proofs.Tryz.prog (k8 n)/\y4 Go.Proofs.Tryz.prog (v8 n)/\y4 Go.Proofs.Tryz.prog (k9 n)/\y4 Go.Proofs.Tryz.prog (v7 n)/\y4 Go.Proofs.Tryz.prog (w6 n)/\y4 Go.Proofs.Tryz.prog (w4 n)/\y4 Go.Proofs.Tryz.prog (w7 n)
 | 0=>⟨a0H (by kernel_rfl),a0H (by kernel_rfl),a0H (by kernel_rfl),a0H (by kernel_rfl),a0H (by kernel_rfl),a0H (by kernel_rfl),a0H (by kernel_rfl),a0H (by kernel_rfl),a0H (by kernel_rfl)⟩
 | n+1=>by
   obtain ⟨h0,h1,h2,h3,h4,h5,h6,h7,h8⟩:=a1l n
   exact ⟨a4D n h0 h1 h2 h3 h4 h5 h6 h7 h8,a54 n h0 h1 h2 h3 h4 h5 h6 h7 h8,a42 n h0 h1 h2 h3 h4 h5 h6 h7 h8,a5m n h0 h1 h2 h3 h4 h5 h6 h7 h8,a6Q n h0 h1 h2 h3 h4 h5 h6 h7 h8,a5z n h0 h1 h2 h3 h4 h5 h6 h7 h8,a58 n h0 h1 h2 h3 h4 h5 h6 h7 h8,a6l n h0 h1 h2 h3 h4 h5 h6 h7 h8,a64 n h0 h1 h2 h3 h4 h5 h6 h7 h8⟩
theorem a7t (n:Nat):y4 Go.Proofs.Tryz.prog (k9 n):=(a1l n).2.2.2.2.1
def a5W:Hints I:=mkH [] [] [] [] [(26,⟨268435394,[],[],[(1,.k (.d (.int .i64))),(6,.k (.d (.int .i64)))],[((.exit 0),[(1,.k (.d (.int .i64)))])],bnd tb (.cst 0) 1⟩)] [] [] []
def a4X:Row I:=⟨136,[.var 155 (.lvs [.d (.sl 174),.d (.int .i64),.d (.bool),.d (.bool),.d (.bool),.d (.int .i64),.row 81 true,.d (.int .i64),.d (.sl 9),.d (.sl 3),.d (.sl 4),.d (.sl 9)]) true,.d (.int .i64)],[.k (.d (.int .i64)),.k (.d (.bool))],J1⟩
theorem a5l:RK (a4X) :=
 okR [] 31 a5W [.tmp 4,.tmp 5] Go.Proofs.Tryz.func136 (by kernel_rfl)
def b1n:Row I:=⟨150,[.d (.dat 54),.d (.int .i64)],[.k (.d (.bool))],a0J⟩
theorem a4M:RK (b1n) :=
 okR [] 14 w9 [.tmp 4] Go.Proofs.Tryz.func150 (by kernel_rfl)
def b4j:Hints I:=mkH [(4,[[],[],[1],[],[1,2,3],[1,2,3,4],[0,1,2,3,4,5],[0,1,2,3,4,5,6]]),(47,[[],[],[1],[0,1,2],[0,1,2,3],[0,1,2,3,4],[0,1,2,3,4,5],[0,1,2,3,4,5,6],[0,1,2,3,4,5,6,7],[0,1,2,3,4,5,6,7,8],[0,1,2,3,4,5,6,7,8,9],[0,1,2,3,4,5,6,7,8,9,10],[0,1,2,3,4,5,6,7,8,9,10,11],[0,1,2,3,4,5,6,7,8,9,10,11,12],[0,1,2,3,4,5,6,7,8,9,10,11,12,13],[0,1,2,3,4,5,6,7,8,9,10,11,12,13,14],[0,1,2,3,4,5,6,7,8,9,10,11,12,13,14,15],[0,1,2,3,4,5,6,7,8,9,10,11,12,13,14],[0,1,2,3,4,5,6,7,8,9,10,11,12,13,14,17],[0,1,2,3,4,5,6,7,8,9,10,11,12,13,14,15,16,17,18],[0,1,2,3,4,5,6,7,8,9,10,11,12,13,14,15,16,17,18,19],[0,1,2,3,4,5,6,7,8,9,10,11,12,13,14,15,16,17,18,19,20],[0,1,2,3,4,5,6,7,8,9,10,11,12,13,14],[0,1,2,3,4,5,6,7,8,9,10,11,12,13,14,22],[0,1,2,3,4,5,6,7,8,9,10,11,12,13,14,15,16,17,18,19,20,21,22,23],[0,1,2,3,4,5,6,7,8,9,10,11,12,13,14,15,16,17,18,19,20,21,22,23,24],[0,1,2,3,4,5,6,7,8,9,10,11,12,13,14,15,16,17,18,19,20,21,22,23,24,25],[0,1,2,3,4,5,6,7,8,9,10,11,12,13,14,15,16,17,18,19,20,21,22,23,24,25,26]])] [] [] [(2092029,⟨2706308199418088717232151174730781556736,[],[],[(.normal,[(122,.k (.d (.bool)))])]⟩),
 (535560189,⟨3568119231764899702645714923623737840956866560,[],[],[(.normal,[(149,.k (.d (.bool)))])]⟩)] [(26,⟨67106864,[],[],[(5,.k (.d (.int .i64)))],[((.exit 0),[]),(.ret,[(4,.k (.d (.bool)))])],bnd tb (.len (.ld 22 (.fld 81 4 (.slot 3)))) 1⟩),
 (68551704562,⟨1606938044257528773904631189422958917689486710763136902759952,[],[],[(9,.k (.d (.int .i64)))],[((.exit 3),[]),(.ret,[(4,.k (.d (.bool)))])],bnd tb (.len (.ld 78 (.fld 81 5 (.slot 3)))) 1⟩)] [] [] []
def b2m:Row I:=⟨151,[.d (.dat 54),.d (.dat 81)],[.k (.d (.bool))],a9g⟩
theorem b2L:RK (b2m) :=
 okR [eR a4M,eR a2m,eR a3K,eR a2U] 216 b4j [.tmp 4] Go.Proofs.Tryz.func151 (by kernel_rfl)
def a9t:Row I:=⟨152,[.d (.dat 81)],[.k (.d (.bool))],a5I⟩
theorem b0l:RK (a9t) :=
 okR [] 16 w9 [.tmp 2] Go.Proofs.Tryz.func152 (by kernel_rfl)
def a9n (n:Nat):Hints I:=mkH [(6,[[],[],[1],[],[1,2,3],[1,2,3,4],[0,1,2,3,4,5],[0,1,2,3,4,5,6]])] [] [] [] [(58,⟨1073709068,[],[],[(3,.k (.d (.int .i64)))],[((.exit 0),[]),(.ret,[(2,.k (.d (.int .i64)))])],bnd tb (.len (.ld 52 (.fld 54 0 (.slot 1)))) 1⟩),
 (250,⟨4951760157141521082416628192,[],[],[(4,.k (.row 4 false)),(5,.k (.d (.int .i64)))],[((.exit 2),[(4,.k (.row 4 false))])],bnd tb (.len (.ld 52 (.fld 54 0 (.slot 1)))) 1⟩),
 (506,⟨10136253041668693690874029146628,[],[],[(4,.k (.row 4 false)),(9,.k (.d (.int .i64)))],[((.exit 8),[(4,.k (.row 4 false))]),(.ret,[(2,.k (.d (.int .i64))),(4,.k (.row 4 false))])],bnd tb (.len (.slot 4)) 1⟩),
 (16018,⟨4951760157141518900573241792,[],[],[(4,.k (.row 4 false)),(6,.k (.d (.int .i64)))],[((.exit 4),[(4,.k (.row 4 false))])],bnd tb (.len (.ld 52 (.fld 54 0 (.slot 1)))) 1⟩),
 (4100682,⟨4835703278177041722114432,[],[],[(4,.k (.row 4 false)),(7,.k (.d (.bool))),(8,.k (.d (.int .i64)))],[((.exit 6),[(4,.k (.row 4 false)),(7,.k (.d (.bool)))])],fun _=>some n⟩)] [] [] []
def a7g (n:Nat):Row I:=⟨137,[.d (.dat 54)],[.k (.d (.int .i64))],a33 n⟩
theorem a8g (n:Nat):RK (a7g n) :=
 okR [eR a4M,eR b2L,eR b0l] 103 (a9n n) [.tmp 2] Go.Proofs.Tryz.func137 (by kernel_rfl)
def a6P (n:Nat):Hints I:=mkH [(18,[[],[0],[],[],[],[4],[],[4,5,6],[4,5,6,7],[3,4,5,6,7,8],[3,4,5,6,7,8,9],[3,4,5,6,7,8,9,10],[3,4,5,6,7,8,9,10],[0,1,2,3,4,5,6,7,8,9,10,11],[0,1,2,3,4,5,6,7,8,9,10,11,13]]),(22,[[],[0],[],[],[],[4],[],[4,5,6],[4,5,6,7],[4,5,6,7,8],[3,4,5,6,7,8,9],[3,4,5,6,7,8,9,10],[3,4,5,6,7,8,9,10,11],[3,4,5,6,7,8,9,10,11],[0,1,2,3,4,5,6,7,8,9,10,11,12],[0,1,2,3,4,5,6,7,8,9,10,11,12,14],[0,1,2,3,4,5,6,7,8,9,10,11,12,14,15]])] [] [] [(16683940,⟨87091018283827687992657438589568176619520,[],[(0,.lvs [.d (.sl 174),.d (.int .i64),.d (.bool),.d (.bool),.d (.bool),.d (.int .i64),.row 81 true,.d (.int .i64),.d (.sl 9),.d (.sl 3),.d (.sl 4),.d (.sl 9)]),(12,.k (.d (.dat 81)))],[(.normal,[])]⟩)] [(58,⟨4398046380992,[],[(0,.lvs [.d (.sl 174),.d (.int .i64),.d (.bool),.d (.bool),.d (.bool),.d (.int .i64),.row 81 true,.d (.int .i64),.d (.sl 9),.d (.sl 3),.d (.sl 4),.d (.sl 9)])],[(6,.k (.d (.bool))),(7,.k (.d (.int .i64)))],[((.exit 0),[(6,.k (.d (.bool)))])],fun _=>some n⟩),
 (1018,⟨5575186299632655785383929559154891121817600,[],[(0,.lvs [.d (.sl 174),.d (.int .i64),.d (.bool),.d (.bool),.d (.bool),.d (.int .i64),.row 81 true,.d (.int .i64),.d (.sl 9),.d (.sl 3),.d (.sl 4),.d (.sl 9)]),(10,.lvs [.row 81 false,.d (.int .i64)])],[(11,.k (.d (.int .i64)))],[((.exit 2),[])],fun _=>some n⟩),
 (260682,⟨4951757795958279664773898240,[],[(0,.lvs [.d (.sl 174),.d (.int .i64),.d (.bool),.d (.bool),.d (.bool),.d (.int .i64),.row 81 true,.d (.int .i64),.d (.sl 9),.d (.sl 3),.d (.sl 4),.d (.sl 9)])],[(13,.k (.d (.int .i64)))],[((.exit 4),[])],bnd tb (.len (.ld 22 (.fld 81 4 (.slot 12)))) 1⟩),
 (521370,⟨41538369916518463886722871037280256,[],[(0,.lvs [.d (.sl 174),.d (.int .i64),.d (.bool),.d (.bool),.d (.bool),.d (.int .i64),.row 81 true,.d (.int .i64),.d (.sl 9),.d (.sl 3),.d (.sl 4),.d (.sl 9)])],[(14,.k (.d (.int .i64)))],[((.exit 6),[])],bnd tb (.len (.ld 78 (.fld 81 5 (.slot 12)))) 1⟩),
 (1042746,⟨87112244393385378368002871258562028404736,[],[(0,.lvs [.d (.sl 174),.d (.int .i64),.d (.bool),.d (.bool),.d (.bool),.d (.int .i64),.row 81 true,.d (.int .i64),.d (.sl 9),.d (.sl 3),.d (.sl 4),.d (.sl 9)]),(12,.k (.d (.dat 81)))],[(15,.k (.d (.int .i64)))],[((.exit 8),[])],bnd tb (.cst 2) 1⟩)] [] [] []
def a5t (n:Nat):Row I:=⟨102,[.var 155 (.lvs [.d (.sl 174),.d (.int .i64),.d (.bool),.d (.bool),.d (.bool),.d (.int .i64),.row 81 true,.d (.int .i64),.d (.sl 9),.d (.sl 3),.d (.sl 4),.d (.sl 9)]) true,.d (.int .i64)],[.k (.d (.dat 54)),.k (.d (.int .i64))],a29 n⟩
theorem a6k (n:Nat):RK (a5t n) :=
 okR [eR a5l,eR (a8g n)] 148 (a6P n) [.cell 4 54,.tmp 5] Go.Proofs.Tryz.func102 (by kernel_rfl)
def a8B (_:Nat):Hints I:=mkH [] [] [] [] [(4090,⟨147573389639722991880,[],[(2,.lvs [.row 81 false,.d (.int .i64)])],[(8,.k (.d (.int .i64)))],[((.exit 2),[]),(.ret,[(3,.k (.d (.int .i64)))])],bnd tb (.len (.ld 153 (.fld 155 9 (.slot 6)))) 1⟩)] [] [] []
def a7m (n:Nat):Row I:=⟨71,[.d (.str)],[.k (.d (.dat 54)),.k (.d (.int .i64))],a37 n⟩
theorem a7P (n:Nat):RK (a7m n) :=
 okR [eR b2s,eR (a7t n),eR Q8,eR (a6k n)] 92 (a8B n) [.cell 2 54,.tmp 3] Go.Proofs.Tryz.func71 (by kernel_rfl)
def b2t (n:Nat):Row I:=⟨43,[.d (.int .i64)],[.k (.d (.dat 54))],J8 n⟩
theorem b2Q (n:Nat):RK (b2t n) :=
 okR [eR a98,eR (a7P n)] 12 w9 [.cell 2 54] Go.Proofs.Tryz.func43 (by kernel_rfl)
def a9M (_:Nat):Hints I:=mkH [(3,[[],[0],[0,1],[],[3],[3,4],[0,1,2,3,4,5],[0,1,2,3,4,5,6],[]])] [] [] [(1026811517,⟨316835278804602014106994606080,[],[(10,.k (.d (.dat 81)))],[(.normal,[])]⟩)] [(122,⟨324518553658426726783155752234440,[26],[(4,.lvs [.d (.int .i64),.d (.int .i64),.d (.int .i64),.d (.str),.row 3 false,.row 102 false,.d (.int .i64),.d (.int .i64)])],[(3,.k (.row 81 false)),(28,.k (.d (.int .i64)))],[((.exit 0),[(3,.k (.row 81 false))])],bnd tb (.slot 27) 1⟩),
 (250686,⟨162259276829213363110103033670664,[],[],[(3,.k (.row 81 false)),(48,.k (.d (.int .i64)))],[((.exit 2),[(3,.k (.row 81 false))])],bnd tb (.slot 47) 1⟩),
 (256702874,⟨73750947497819252736,[],[],[(11,.k (.row 3 false)),(55,.k (.d (.int .i64)))],[((.exit 4),[(11,.k (.row 3 false))])],bnd tb (.slot 54) 1⟩),
 (1026811514,⟨9670816261106674692079616,[],[],[(14,.k (.row 102 false)),(69,.k (.d (.int .i64)))],[((.exit 6),[(14,.k (.row 102 false))])],bnd tb (.slot 68) 1⟩)] [] [] []
def a71 (n:Nat):Row I:=⟨24,[.d (.dat 75)],[.k (.d (.dat 57))],a0r n⟩
theorem a8u (n:Nat):RK (a71 n) :=
 okR [eR (b2Q n)] 120 (a9M n) [.cell 2 57] Go.Proofs.Tryz.func24 (by kernel_rfl)
def a9E (_:Nat):Hints I:=mkH [(15,[[],[0],[],[0,1,2],[0,1,2,3],[0,1,2,3,4],[0,1,2,3,4,5],[0,1,2,3,4,5,6],[0,1,2,3,4,5,6,7],[0,1,2,3,4,5,6,7,8],[0,1,2,3,4,5,6,7,8,9],[0,1,2,3,4,5,6,7,8,9,10],[0,1,2,3,4,5,6,7,8,9],[0,1,2,3,4,5,6,7,8,9,12],[0,1,2,3,4,5,6,7,8,9,12,13],[0,1,2,3,4,5,6,7,8,9,12,13,14],[0,1,2,3,4,5,6,7,8,9,10,11,12,13,14,15],[0,1,2,3,4,5,6,7,8,9,10,11,12,13,14,15,16],[0,1,2,3,4,5,6,7,8,9,10,11,12,13,14,15,16,17],[0,1,2,3,4,5,6,7,8,9],[0,1,2,3,4,5,6,7,8,9,10,11,12,13,14,15,16,17,18,19],[0,1,2,3,4,5,6,7,8,9,10,11,12,13,14,15,16,17,18,19,20],[0,1,2,3,4,5,6,7,8,9,10,11,12,13,14,15,16,17,18,19,20,21]])] [] [] [] [(122,⟨34357642496,[],[],[(8,.k (.row 51 false)),(21,.k (.d (.int .i64)))],[((.exit 0),[(8,.k (.row 51 false))])],bnd tb (.slot 20) 1⟩),
 (250,⟨2417851639228983471558656,[7],[(7,.lvs [.d (.str),.d (.bool),.row 57 true])],[(38,.k (.d (.int .i64)))],[((.exit 2),[])],bnd tb (.slot 37) 1⟩),
 (64102,⟨1208925819597036988710912,[7],[(7,.lvs [.d (.str),.d (.bool),.row 57 true])],[(44,.k (.d (.int .i64)))],[((.exit 4),[])],bnd tb (.slot 43) 1⟩)] [] [] []
def a8f (n:Nat):Row I:=⟨11,[.d (.str),.d (.bool),.d (.sl 75)],[.lvs [.d (.str),.d (.bool),.row 57 true]],a09 n⟩
theorem a8T (n:Nat):RK (a8f n) :=
 okR [eR a83,eR (a8u n)] 82 (a9E n) [.cell 6 25] Go.Proofs.Tryz.func11 (by kernel_rfl)
def a4I:Row I:=⟨44,[.var 49 (.k (.d (.dat 49))) true],[.k (.d (.str))],a0i⟩
theorem a43:RK (a4I) :=
 okR [eR Q4] 8 w9 [.tmp 2] Go.Proofs.Tryz.func44 (by kernel_rfl)
def a6U:Row I:=⟨45,[.var 49 (.k (.d (.dat 49))) true],[.k (.d (.str))],a0T⟩
theorem a7x:RK (a6U) :=
 okR [eR Q4] 8 w9 [.tmp 2] Go.Proofs.Tryz.func45 (by kernel_rfl)
def a5P:Row I:=⟨46,[.var 49 (.k (.d (.dat 49))) true],[.k (.d (.str))],a0F⟩
theorem a6z:RK (a5P) :=
 okR [eR Q4] 8 w9 [.tmp 2] Go.Proofs.Tryz.func46 (by kernel_rfl)
def a6a:Hints I:=mkH [] [] [] [] [(28,⟨16776706,[],[(0,.k (.d (.dat 49)))],[(1,.k (.d (.int .i64))),(9,.k (.row 3 false))],[((.exit 0),[(9,.k (.row 3 false))])],bnd tb (.slot 1) 2⟩)] [] [] []
def a47:Row I:=⟨47,[.var 49 (.k (.d (.dat 49))) true,.d (.int .i64),.d (.int .i64),.d (.int .i64)],[.k (.row 3 false)],y8⟩
theorem a5y:RK (a47) :=
 okR [eR Q4] 25 a6a [.tmp 8] Go.Proofs.Tryz.func47 (by kernel_rfl)
def a5U:Hints I:=mkH [(7,[[],[0],[],[],[2,3],[2,3,4],[],[],[6,7],[],[6,7,8,9],[6,7,8,9,10],[2,3,4,5,6,7,8,9,10,11],[2,3,4,5,6,7,8,9,10,11,12],[0,1,2,3,4,5,6,7,8,9,10,11,12,13],[0,1,2,3,4,5,6,7,8,9,10,11,12,13,14],[0,1,2,3,4,5,6,7,8,9,10,11,12,13,14,15]])] [] [] [(978,⟨8796076244992,[],[(0,.k (.d (.dat 49))),(5,.lvs [.d (.int .i64),.d (.int .i64),.d (.int .i64),.d (.str),.row 3 false,.row 102 false,.d (.int .i64),.d (.int .i64)])],[(.normal,[])]⟩)] [(122,⟨8796091973760,[6],[(0,.k (.d (.dat 49))),(5,.lvs [.d (.int .i64),.d (.int .i64),.d (.int .i64),.d (.str),.row 3 false,.row 102 false,.d (.int .i64),.d (.int .i64)])],[(7,.k (.d (.int .i64)))],[((.exit 0),[])],bnd tb (.cst 3) 1⟩)] [] [] []
def a4Y:Row I:=⟨48,[.var 49 (.k (.d (.dat 49))) true,.d (.int .i64)],[.k (.d (.dat 81))],a0n⟩
theorem a5i:RK (a4Y) :=
 okR [eR Q4] 44 a5U [.cell 4 81] Go.Proofs.Tryz.func48 (by kernel_rfl)
def a8h:Hints I:=mkH [(8,[[],[],[0,1],[0,1,2],[],[],[],[],[7],[6,7,8],[5,6,7,8,9],[4,5,6,7,8,9,10],[4,5,6,7,8,9,10,11],[0,1,2,3,4,5,6,7,8,9,10,11,12],[0,1,2,3,4,5,6,7,8,9,10,11,12,13]])] [] [] [(29,⟨128,[],[],[(.normal,[(7,.k (.d (.int .i64)))])]⟩),
 (32243709,⟨47223664828696452136960,[],[],[(.normal,[(73,.k (.d (.bool)))])]⟩),
 (2063597565,⟨49517601571415210995964968960,[],[],[(.normal,[(93,.k (.d (.bool)))])]⟩)] [] [] [] []
def a6O:Row I:=⟨26,[.var 49 (.k (.d (.dat 49))) true,.d (.int .i64),.d (.int .i64)],[.k (.d (.dat 81))],a0R⟩
theorem a7B:RK (a6O) :=
 okR [eR Q4,eR a43,eR a7x,eR a6z,eR a5y,eR a5i] 128 a8h [.cell 6 81] Go.Proofs.Tryz.func26 (by kernel_rfl)
def a8m:Hints I:=mkH [(6,[[],[0],[],[],[],[2,3,4],[2,3,4,5],[0,1,2,3,4,5,6],[0,1,2,3,4,5,6,7],[0,1,2,3,4,5,6,7,8]])] [] [] [] [(122,⟨16776256,[],[(0,.k (.d (.dat 49))),(5,.lvs [.row 81 false,.d (.int .i64)])],[(6,.k (.d (.int .i64)))],[((.exit 0),[])],bnd tb (.slot 1) 1⟩)] [] [] []
def a6M:Row I:=⟨14,[.var 49 (.k (.d (.dat 49))) true,.d (.int .i64)],[.k (.d (.dat 54))],a0Q⟩
theorem a7f:RK (a6M) :=
 okR [eR a7B] 25 a8m [.cell 4 54] Go.Proofs.Tryz.func14 (by kernel_rfl)
def b2N (_:Nat):Hints I:=mkH [(2,[[],[],[1],[1,2],[1,2,3],[1,2,3,4],[0,1,2,3,4,5],[0,1,2,3,4,5,6],[],[8],[8,9],[8,9,10],[1,2,3,4,5,8,9,10,11],[1,2,3,4,5,8,9,10,11,12],[],[],[15],[15,16],[15,16,17],[1,2,3,4,5,8,9,10,11,12,15,16,17,18],[1,2,3,4,5,8,9,10,11,12,15,16,17,18,19],[1,2,3,4,5,8,9,10,11,12,14,15,16,17,18,19,20],[0,1,2,3,4,5,6,7,8,9,10,11,12,13,14,15,16,17,18,19,20,21],[],[0,1,2,3,4,5,6,7,8,9,10,11,12,13,14,15,16,17,18,19,20,21,22,23]]),(6,[[],[0],[],[2],[2,3],[2,3,4],[2,3,4,5],[2,3,4,5,6],[],[],[2,3,4,5,6,9],[2,3,4,5,6,9,10],[2,3,4,5,6,8,9,10,11],[2,3,4,5,6,7,8,9,10,11,12],[2,3,4,5,6,7,8,9,10,11,12,13],[0,1,2,3,4,5,6,7,8,9,10,11,12,13,14],[0,1,2,3,4,5,6,7,8,9,10,11,12,13,14,15],[0,1,2,3,4,5,6,7,8,9,10,11,12,13,14,15,16]])] [] [] [] [] [] [] []
def b05 (n:Nat):Row I:=⟨5,[.d (.sl 3)],[.k (.d (.dat 25))],a2f n⟩
theorem b1y (n:Nat):RK (b05 n) :=
 okR [c6X,eR Q4,eR a5V,eR (a8T n),eR a7f] 59 (b2N n) [.cell 2 25] Go.Proofs.Tryz.func5 (by kernel_rfl)
def b7r:Hints I:=mkH [] [] [] [] [(58,⟨34351349952,[],[],[(7,.k (.d (.int .i64)))],[((.exit 0),[]),(.ret,[(6,.k (.d (.bool)))])],bnd tb (.len (.slot 0)) 1⟩)] [] [] []
def b5J:Row I:=⟨73,[.d (.str),.fn [.int .u8] [.k (.d (.bool))],.fn [.int .u8] [.k (.d (.bool))]],[.k (.d (.bool))],a3r⟩
theorem a9X:RK (b5J) :=
 okR [] 35 b7r [.tmp 6] Go.Proofs.Tryz.func73 (by kernel_rfl)
def b4V:Row I:=⟨74,[.d (.int .u8)],[.k (.d (.bool))],a1Q⟩
theorem a4s:RK (b4V) :=
 okR [] 9 w9 [.tmp 2] Go.Proofs.Tryz.func74 (by kernel_rfl)
def b4S:Row I:=⟨76,[.d (.int .u8)],[.k (.d (.bool))],a2L⟩
theorem a8w:RK (b4S) :=
 okR [] 9 w9 [.tmp 2] Go.Proofs.Tryz.func76 (by kernel_rfl)
def b3H:Row I:=⟨75,[.d (.int .u8)],[.k (.d (.bool))],a5S⟩
theorem b4O:RK (b3H) :=
 okR [eR a4s,eR a8w] 13 w9 [.tmp 2] Go.Proofs.Tryz.func75 (by kernel_rfl)
def b5u:Row I:=⟨49,[.d (.str)],[.k (.d (.bool))],a2r⟩
theorem a49:RK (b5u) :=
 okR [eR a9X,eR a4s,eR b4O] 5 w9 [.tmp 2] Go.Proofs.Tryz.func49 (by kernel_rfl)
def b29:Row I:=⟨50,[.d (.str)],[.k (.d (.bool))],b1t⟩
theorem b4R:RK (b29) :=
 okR [] 9 w9 [.tmp 2] Go.Proofs.Tryz.func50 (by kernel_rfl)
def b6V:Row I:=⟨27,[.d (.str)],[.k (.d (.bool))],a0A⟩
theorem b71:RK (b6V) :=
 okR [eR a49,eR b4R] 10 w9 [.tmp 2] Go.Proofs.Tryz.func27 (by kernel_rfl)
def b2y:Hints I:=mkH [] [] [] [(29,⟨16776824,[],[],[(.normal,[(3,.k (.d (.bool))),(4,.k (.d (.bool))),(5,.k (.d (.bool))),(6,.k (.d (.bool)))])]⟩),
 (941,⟨26624,[],[],[(.normal,[(11,.k (.d (.bool)))])]⟩),
 (3773,⟨4096000,[],[],[(.normal,[(15,.k (.d (.bool)))])]⟩)] [] [] [] []
def b0f:Row I:=⟨51,[.d (.dat 81)],[.k (.d (.bool))],a1X⟩
theorem b1u:RK (b0f) :=
 okR [] 67 b2y [.tmp 2] Go.Proofs.Tryz.func51 (by kernel_rfl)
def b43:Row I:=⟨103,[.d (.int .u8)],[.k (.d (.bool))],a2N⟩
theorem a84:RK (b43) :=
 okR [] 9 w9 [.tmp 2] Go.Proofs.Tryz.func103 (by kernel_rfl)
def b0A:Row I:=⟨104,[.d (.int .u8)],[.k (.d (.bool))],a3e⟩
theorem b1b:RK (b0A) :=
 okR [eR a4s,eR a84,eR a8w] 17 w9 [.tmp 2] Go.Proofs.Tryz.func104 (by kernel_rfl)
def b2i:Row I:=⟨77,[.d (.str)],[.k (.d (.bool))],a1E⟩
theorem b2R:RK (b2i) :=
 okR [eR a9X,eR a84,eR b1b] 5 w9 [.tmp 2] Go.Proofs.Tryz.func77 (by kernel_rfl)
def b3N:Row I:=⟨105,[.d (.dat 100)],[.k (.d (.bool))],a2o⟩
theorem b4P:RK (b3N) :=
 okR [eR a49] 16 w9 [.tmp 2] Go.Proofs.Tryz.func105 (by kernel_rfl)
def b49:Row I:=⟨83,[.d (.int .i64)],[.k (.d (.bool))],a2Q⟩
theorem b52:RK (b49) :=
 okR [] 6 w9 [.tmp 2] Go.Proofs.Tryz.func83 (by kernel_rfl)
def b2P:Row I:=⟨57,[.d (.int .i64),.d (.int .i64)],[.k (.d (.int .i64))],a0g⟩
theorem a6G:RK (b2P) :=
 okR [eR b52] 20 w9 [.tmp 4] Go.Proofs.Tryz.func57 (by kernel_rfl)
def a3O:Row I:=⟨153,[.d (.str),.d (.str)],[.k (.d (.int .i64))],a0D⟩
theorem a32:RK (a3O) :=
 okR [eR c5P] 8 w9 [.tmp 4] Go.Proofs.Tryz.func153 (by kernel_rfl)
def b2O:Row I:=⟨138,[.d (.str),.d (.str)],[.k (.d (.int .i64))],a0h⟩
theorem b3x:RK (b2O) :=
 okR [eR a32] 8 w9 [.tmp 4] Go.Proofs.Tryz.func138 (by kernel_rfl)
def b1f:Row I:=⟨106,[.d (.dat 100),.d (.dat 100)],[.k (.d (.int .i64))],W1⟩
theorem b2p:RK (b1f) :=
 okR [eR a6G,eR b3x] 19 w9 [.tmp 4] Go.Proofs.Tryz.func106 (by kernel_rfl)
def b0C:Hints I:=mkH [(4,[[],[0],[0,1],[0,1,2],[0,1,2,3],[0,1,2,3,4],[0,1,2,3,4,5],[0,1,2,3,4,5,6],[0,1,2,3,4,5,6,7],[0,1,2,3,4,5,6,7],[0,1,2,3,4,5,6,7,9],[0,1,2,3,4,5,6,7,8,9,10],[0,1,2,3,4,5,6,7,8,9,10,11],[0,1,2,3,4,5,6,7,8,9,10,11,12],[0,1,2,3,4,5,6,7],[0,1,2,3,4,5,6,7,14],[0,1,2,3,4,5,6,7,8,9,10,11,12,13,14,15],[0,1,2,3,4,5,6,7,8,9,10,11,12,13,14,15,16],[0,1,2,3,4,5,6,7,8,9,10,11,12,13,14,15,16,17],[0,1,2,3,4,5,6,7,8,9,10,11,12,13,14,15,16,17,18]])] [] [] [] [(26,⟨8589934492,[],[],[(7,.k (.d (.int .i64)))],[((.exit 0),[]),(.ret,[(2,.k (.d (.bool)))])],bnd tb (.slot 6) 1⟩)] [] [] []
def a8O:Row I:=⟨78,[.d (.sl 102)],[.k (.d (.bool))],a1o⟩
theorem a9H:RK (a8O) :=
 okR [eR b4P,eR b2p] 33 b0C [.tmp 2] Go.Proofs.Tryz.func78 (by kernel_rfl)
def b2G:Hints I:=mkH [] [] [] [(105,⟨16288,[],[],[(.normal,[(5,.k (.d (.bool)))])]⟩),
 (28311549,⟨368934881474191032320,[],[],[(.normal,[(66,.k (.d (.bool)))])]⟩)] [] [] [] []
def b0m:Row I:=⟨52,[.d (.dat 81)],[.k (.d (.bool))],a11⟩
theorem b1h:RK (b0m) :=
 okR [eR a49,eR b2R,eR a9H] 79 b2G [.tmp 2] Go.Proofs.Tryz.func52 (by kernel_rfl)
def b5l:Hints I:=mkH [] [] [] [] [(58,⟨4190248,[],[],[(3,.k (.row 3 false)),(12,.k (.d (.int .i64)))],[((.exit 0),[(3,.k (.row 3 false))])],bnd tb (.slot 11) 1⟩)] [] [] []
def b4c:Row I:=⟨53,[.d (.dat 81)],[.k (.row 3 false)],a2v⟩
theorem a7K:RK (b4c) :=
 okR [eR c4d] 35 b5l [.tmp 2] Go.Proofs.Tryz.func53 (by kernel_rfl)
def b0n:Row I:=⟨81,[.d (.int .i64)],[.k (.d (.bool))],a18⟩
theorem b1x:RK (b0n) :=
 okR [] 13 w9 [.tmp 2] Go.Proofs.Tryz.func81 (by kernel_rfl)
def a87 (_:Nat):Hints I:=mkH [] [] [] [] [(122,⟨140462610448544,[],[(1,.k (.row 3 false))],[(38,.k (.d (.int .i64)))],[((.exit 0),[]),(.ret,[(5,.k (.d (.bool)))])],bnd tb (.slot 37) 1⟩)] [] [] []
def a1j (n:Nat):Row I:=⟨80,[.d (.int .i64),.var 22 (.k (.row 3 false)) true,.var 54 (.k (.d (.dat 54))) false,.var 135 (.k (.d .any)) false],[.k (.d (.bool))],Y2 n⟩
theorem a7k (n:Nat)(h_typeexpr_contractive_1:a0q Go.Proofs.Tryz.prog (a1j n) (a8b 135 80 3 [1,2,3])):a0q Go.Proofs.Tryz.prog (a1j (n+1)) (a8b 135 80 3 [1,2,3]) :=
 a2V a1J (a1g (a2R [eR b1x,eS 135 80 3 [1,2,3] h_typeexpr_contractive_1]) 3) mixed 50 (s0:=fun a=>c02 135 80 3 3 [1,2,3] (a1G tb 50 [.d (.int .i64),.var 22 (.k (.row 3 false)) true,.var 54 (.k (.d (.dat 54))) false,.var 135 (.k (.d .any)) false] a)) (fn:=Go.Proofs.Tryz.f80) (cd:=a5f Go.Proofs.Tryz.f80) (H:=(a87 n)) (rl:=[.tmp 5]) (fun X c σ a vs F h hv _ hC=>b9h rfl rfl rfl h hv hC) Go.Proofs.Tryz.func80 (by kernel_rfl) (by kernel_rfl) (by kernel_rfl) (by kernel_rfl) (by kernel_rfl) (by kernel_rfl) (by kernel_rfl)
theorem a25:∀ n:Nat,a0q Go.Proofs.Tryz.prog (a1j n) (a8b 135 80 3 [1,2,3])
 | 0=>b7I (a0H (by kernel_rfl))
 | n+1=>a7k n (a25 n)
def b0r (_:Nat):Hints I:=mkH [] [] [] [] [(250,⟨4177956,[],[(3,.k (.row 3 false))],[(14,.k (.d (.int .i64)))],[((.exit 0),[]),(.ret,[(2,.k (.d (.bool)))])],bnd tb (.slot 13) 1⟩)] [] [] []
def a9m (n:Nat):Row I:=⟨54,[.d (.dat 54)],[.k (.d (.bool))],a1n n⟩
theorem a9s (n:Nat):RK (a9m n) :=
 okR [eS 135 80 3 [1,2,3] (a25 n)] 22 (b0r n) [.tmp 2] Go.Proofs.Tryz.func54 (by kernel_rfl)
def b1a (_:Nat):Hints I:=mkH [] [] [] [] [(58,⟨2251799811588180,[],[],[(21,.k (.d (.int .i64)))],[((.exit 0),[]),(.ret,[(2,.k (.d (.int .i64)))])],bnd tb (.slot 20) 1⟩),
 (29902,⟨1125831187365956,[34],[],[(36,.k (.d (.int .i64)))],[((.exit 2),[]),(.ret,[(2,.k (.d (.int .i64)))])],bnd tb (.slot 35) 1⟩)] [] [] []
def a9D (n:Nat):Row I:=⟨28,[.d (.dat 54)],[.k (.d (.int .i64))],J9 n⟩
theorem a0k (n:Nat):RK (a9D n) :=
 okR [eR b1u,eR b1h,eR a7K,eR (a9s n)] 54 (b1a n) [.tmp 2] Go.Proofs.Tryz.func28 (by kernel_rfl)
def b2f:Row I:=⟨82,[.d (.str)],[.k (.d (.bool))],a2A⟩
theorem b2X:RK (b2f) :=
 okR [] 6 w9 [.tmp 2] Go.Proofs.Tryz.func82 (by kernel_rfl)
def b0h:Row I:=⟨56,[.d (.str),.d (.str)],[.k (.d (.int .i64))],a1Y⟩
theorem b1i:RK (b0h) :=
 okR [eR b2X] 20 w9 [.tmp 4] Go.Proofs.Tryz.func56 (by kernel_rfl)
def b9o:Hints I:=mkH [] [] [] [] [(58,⟨130852,[],[],[(8,.k (.d (.int .i64)))],[((.exit 0),[]),(.ret,[(2,.k (.d (.int .i64)))])],bnd tb (.slot 7) 1⟩)] [] [] []
def b7g:Row I:=⟨55,[.d (.sl 3)],[.k (.d (.int .i64))],a8i⟩
theorem b7X:RK (b7g) :=
 okR [] 18 b9o [.tmp 2] Go.Proofs.Tryz.func55 (by kernel_rfl)
def b60:Hints I:=mkH [(1,[[],[0],[0,1],[],[3],[3,4],[0,1,2,3,4,5],[],[7],[7,8],[],[10],[10,11],[0,1,2,3,4,5,6,7,8,9,10,11,12],[0,1,2,3,4,5,6,7,8,9,10,11,12,13],[0,1,2,3,4,5,6,7,8,9,10,11,12,13,14],[0,1,2,3,4,5,6,7,8,9,10,11,12,13,14,15]])] [] [] [] [] [] [] []
def b5T:Row I:=⟨29,[.d (.dat 57),.d (.dat 57)],[.k (.d (.int .i64))],a3x⟩
theorem b6G:RK (b5T) :=
 okR [eR b1i,eR a6G,eR b7X] 21 b60 [.tmp 4] Go.Proofs.Tryz.func29 (by kernel_rfl)
def b2W:Row I:=⟨146,[.d (.dat 81)],[.k (.d (.dat 54))],a9U⟩
theorem b3O:RK (b2W) :=
 okR [] 6 w9 [.cell 2 54] Go.Proofs.Tryz.func146 (by kernel_rfl)
def b4X:Row I:=⟨117,[],[.k (.d (.dat 54))],a7A⟩
theorem a8Z:RK (b4X) :=
 okR [eR b3O] 3 w9 [.cell 0 54] Go.Proofs.Tryz.func117 (by kernel_rfl)
def b3F (n:Nat):Row I:=⟨108,[.d (.dat 54)],[.k (.d (.dat 54))],a3G n⟩
theorem a3Q (n:Nat):RK (b3F n) :=
 okR [eR (a0k n),eR a8Z] 8 w9 [.cell 2 54] Go.Proofs.Tryz.func108 (by kernel_rfl)
def b3f:Hints I:=mkH [] [] [] [] [(58,⟨67092512,[],[(2,.lvs [.d (.int .i64),.d (.int .i64),.d (.int .i64),.d (.str),.row 3 false,.d (.sl 102),.d (.int .i64),.d (.int .i64)])],[(14,.k (.d (.int .i64)))],[((.exit 0),[])],bnd tb (.slot 13) 1⟩),
 (250,⟨140728898420800,[],[(2,.lvs [.d (.int .i64),.d (.int .i64),.d (.int .i64),.d (.str),.row 3 false,.row 102 false,.d (.int .i64),.d (.int .i64)])],[(33,.k (.d (.int .i64)))],[((.exit 2),[])],bnd tb (.slot 32) 1⟩)] [] [] []
def b2C:Row I:=⟨113,[.d (.dat 81),.d (.int .i64)],[.lvs [.d (.int .i64),.d (.int .i64),.d (.int .i64),.d (.str),.row 3 false,.row 102 false,.d (.int .i64),.d (.int .i64)]],a4r⟩
theorem a5J:RK (b2C) :=
 okR [eR c4d,eR c6d] 65 b3f [.cell 4 81] Go.Proofs.Tryz.func113 (by kernel_rfl)
def b53 (_:Nat):Hints I:=mkH [(8,[[],[],[1],[],[1,2,3],[0],[0,1,2,3,4,5]])] [] [] [] [(122,⟨134152449,[],[],[(0,.k (.row 81 false)),(16,.k (.d (.int .i64)))],[((.exit 0),[(0,.k (.row 81 false))])],bnd tb (.slot 15) 1⟩)] [] [] []
def b4d (n:Nat):Row I:=⟨118,[.row 81 false,.d (.dat 54)],[.k (.row 81 false),.k (.d (.int .i64))],b1s n⟩
theorem b42 (n:Nat):RK (b4d n) :=
 okR [eR (a3Q n),eR a5J] 32 (b53 n) [.tmp 4,.tmp 5] Go.Proofs.Tryz.func118 (by kernel_rfl)
def b6S (n:Nat):Row I:=⟨89,[.d (.dat 54),.d (.int .i64)],[.k (.d (.dat 54))],a3X n⟩
theorem a6i (n:Nat):RK (b6S n) :=
 okR [eR (a0k n),eR a8Z,eR (b42 n)] 30 w9 [.cell 4 54] Go.Proofs.Tryz.func89 (by kernel_rfl)
def b1U (_:Nat):Hints I:=mkH [] [] [] [] [(30,⟨534773824,[19],[(1,.k (.row 4 false))],[(21,.k (.d (.int .i64)))],[((.exit 0),[])],bnd tb (.slot 20) 1⟩)] [] [] []
def a2c (n:Nat):Row I:=⟨139,[.d (.int .i64),.var 153 (.k (.row 4 false)) true,.var 54 (.k (.d (.dat 54))) false,.var 120 (.k (.d .any)) false],[],a3p n⟩
theorem b0E (n:Nat)(h_typeexpr_reached_1:a0q Go.Proofs.Tryz.prog (a2c n) (a8b 120 139 3 [1,2,3])):a0q Go.Proofs.Tryz.prog (a2c (n+1)) (a8b 120 139 3 [1,2,3]) :=
 a2V a1J (a1g (a2R [eR a7K,eS 120 139 3 [1,2,3] h_typeexpr_reached_1]) 3) mixed 29 (s0:=fun a=>c02 120 139 3 3 [1,2,3] (a1G tb 29 [.d (.int .i64),.var 153 (.k (.row 4 false)) true,.var 54 (.k (.d (.dat 54))) false,.var 120 (.k (.d .any)) false] a)) (fn:=Go.Proofs.Tryz.f139) (cd:=a5f Go.Proofs.Tryz.f139) (H:=(b1U n)) (rl:=[]) (fun X c σ a vs F h hv _ hC=>b9h rfl rfl rfl h hv hC) Go.Proofs.Tryz.func139 (by kernel_rfl) (by kernel_rfl) (by kernel_rfl) (by kernel_rfl) (by kernel_rfl) (by kernel_rfl) (by kernel_rfl)
theorem a4A:∀ n:Nat,a0q Go.Proofs.Tryz.prog (a2c n) (a8b 120 139 3 [1,2,3])
 | 0=>b7I (a0H (by kernel_rfl))
 | n+1=>b0E n (a4A n)
def b2u (n:Nat):Row I:=⟨109,[.d (.dat 54)],[.k (.row 4 false)],a4o n⟩
theorem a5C (n:Nat):RK (b2u n) :=
 okR [eS 120 139 3 [1,2,3] (a4A n)] 15 w9 [.tmp 2] Go.Proofs.Tryz.func109 (by kernel_rfl)
def b5i (_:Nat):Hints I:=mkH [(19,[[],[0],[],[],[],[4],[],[4,5,6],[4,5,6,7],[3,4,5,6,7,8],[3,4,5,6,7,8,9],[0,1,2,3,4,5,6,7,8,9,10],[0,1,2,3,4,5,6,7,8,9,10,11]]),(24,[[],[0],[],[],[],[4],[],[4,5,6],[4,5,6,7],[4,5,6,7,8],[3,4,5,6,7,8,9],[3,4,5,6,7,8,9,10],[0,1,2,3,4,5,6,7,8,9,10,11],[0,1,2,3,4,5,6,7,8,9,10,11,12],[0,1,2,3,4,5,6,7,8,9,10,11,12,13]]),(27,[[],[],[1],[1,2],[0,1,2,3],[0,1,2,3,4],[],[],[7],[7,8],[6,7,8,9],[6,7,8,9,10],[0,1,2,3,4,5,6,7,8,9,10,11],[0,1,2,3,4,5,6,7,8,9,10,11,12],[0,1,2,3,4,5,6,7,8,9,10,11,12,13]])] [] [] [(2085693,⟨162249373308899080349378817294336,[],[(10,.lvs [.d (.int .i64),.d (.int .i64),.d (.int .i64),.d (.str),.row 3 false,.row 102 false,.d (.int .i64),.d (.int .i64)])],[(.normal,[(3,.k (.row 3 false))])]⟩)] [(250,⟨274873712752,[20],[],[(3,.k (.row 3 false)),(4,.k (.row 3 false)),(22,.k (.d (.int .i64)))],[((.exit 0),[(3,.k (.row 3 false)),(4,.k (.row 3 false))])],bnd tb (.slot 21) 1⟩),
 (1018,⟨5192296858534827628529396817600128,[],[],[(3,.k (.row 3 false)),(7,.k (.row 81 false)),(38,.k (.row 3 false)),(40,.k (.d (.int .i64)))],[((.exit 2),[(3,.k (.row 3 false)),(7,.k (.row 81 false)),(38,.k (.row 3 false))])],bnd tb (.slot 39) 1⟩),
 (1042842,⟨590286803159450912768,[],[(10,.lvs [.d (.int .i64),.d (.int .i64),.d (.int .i64),.d (.str),.row 3 false,.row 102 false,.d (.int .i64),.d (.int .i64)])],[(3,.k (.row 3 false)),(53,.k (.d (.int .i64)))],[((.exit 4),[(3,.k (.row 3 false))])],bnd tb (.slot 52) 1⟩),
 (2085690,⟨1237935316918897405253914624,[],[(10,.lvs [.d (.int .i64),.d (.int .i64),.d (.int .i64),.d (.str),.row 3 false,.row 102 false,.d (.int .i64),.d (.int .i64)])],[(3,.k (.row 3 false)),(72,.k (.d (.int .i64)))],[((.exit 6),[(3,.k (.row 3 false))])],bnd tb (.slot 71) 1⟩)] [] [] []
def b3m (n:Nat):Row I:=⟨86,[.d (.dat 54)],[.k (.d (.dat 54))],a3A n⟩
theorem a3V (n:Nat):RK (b3m n) :=
 okR [eR (a3Q n),eR (a5C n),eR a5J] 119 (b5i n) [.cell 2 54] Go.Proofs.Tryz.func86 (by kernel_rfl)
def b66 (n:Nat):Row I:=⟨107,[.d (.dat 54),.d (.int .i64)],[.k (.d (.dat 54))],b1Z n⟩
theorem b75 (n:Nat):RK (b66 n) :=
 okR [eR (a6i n),eR (a3V n)] 9 w9 [.cell 4 54] Go.Proofs.Tryz.func107 (by kernel_rfl)
def b72 (_:Nat):Hints I:=mkH [(4,[[],[],[],[1,2],[1,2,3],[0,1,2,3,4],[0,1,2,3,4,5],[],[0,1,2,3,4,5,6,7]]),(8,[[],[0],[],[],[2,3],[2,3,4],[0,1,2,3,4,5],[0,1,2,3,4,5,6],[0,1,2,3,4,5,6,7]])] [] [] [] [(250,⟨144097595889813504,[],[(9,.lvs [.row 54 false,.d (.sl 81),.d (.int .i64)])],[(44,.k (.d (.int .i64)))],[((.exit 0),[])],bnd tb (.slot 43) 1⟩)] [] [] []
def b54 (n:Nat):Row I:=⟨84,[.d (.dat 54),.d (.int .i64),.d (.int .i64)],[.k (.d (.dat 117)),.k (.d (.bool))],b0j n⟩
theorem b7j (n:Nat):RK (b54 n) :=
 okR [eR (b75 n)] 58 (b72 n) [.cell 6 117,.tmp 7] Go.Proofs.Tryz.func84 (by kernel_rfl)
def a45:Hints I:=mkH [(6,[[],[],[0,1],[0,1,2],[],[],[5],[4,5,6],[4,5,6,7],[0,1,2,3,4,5,6,7,8]]),(11,[[],[],[0,1],[0,1,2],[],[],[5],[4,5,6],[4,5,6,7],[0,1,2,3,4,5,6,7,8]])] [] [] [] [(58,⟨1152921504606846012,[],[],[(0,.k (.row 9 false)),(3,.k (.d (.int .i64)))],[((.exit 0),[(0,.k (.row 9 false))]),(.ret,[(2,.k (.row 9 false))])],bnd tb (.len (.slot 0)) 1⟩)] [(59690,⟨18014397972611112,0,9,[(3,.k (.d (.int .i64))),(5,.k (.d (.int .i64)))],[((.exit 2),[(3,.k (.d (.int .i64)))])],bnd tb (.len (.slot 4)) 1⟩)] [] []
def a4n:Row I:=⟨112,[.row 9 false],[.k (.row 9 false)],a2k⟩
theorem a4G:RK (a4n) :=
 okR [] 61 a45 [.tmp 2] Go.Proofs.Tryz.func112 (by kernel_rfl)
def a5r:Row I:=⟨111,[.d (.sl 9)],[.k (.row 9 true)],a24⟩
theorem a5X:RK (a5r) :=
 okR [] 9 w9 [.tmp 2] Go.Proofs.Tryz.func111 (by kernel_rfl)
def b2b (_:Nat):Hints I:=mkH [] [] [] [] [(122,⟨68719474744,[9],[],[(3,.k (.row 9 false)),(11,.k (.d (.int .i64)))],[((.exit 0),[(3,.k (.row 9 false))])],bnd tb (.slot 10) 1⟩)] [] [] []
def a94 (n:Nat):Row I:=⟨85,[.d (.dat 54)],[.k (.row 9 true)],a6D n⟩
theorem b0K (n:Nat):RK (a94 n) :=
 okR [eR (a3Q n),eR (a5C n),eO c5Q,eR a4G,eR a5X] 41 (b2b n) [.tmp 2] Go.Proofs.Tryz.func85 (by kernel_rfl)
def b1o (n:Nat):Row I:=⟨59,[.d (.dat 54)],[.k (.d (.bool))],a2h n⟩
theorem a2K (n:Nat):RK (b1o n) :=
 okR [eR (b0K n)] 7 w9 [.tmp 2] Go.Proofs.Tryz.func59 (by kernel_rfl)
def b7h (_:Nat):Hints I:=mkH [] [] [] [] [(506,⟨73786694819861503280,[],[],[(8,.k (.row 117 false)),(48,.k (.d (.int .i64)))],[((.exit 0),[(8,.k (.row 117 false))]),(.ret,[(4,.k (.row 117 false)),(5,.k (.d (.bool)))])],bnd tb (.slot 47) 1⟩)] [] [] []
def b5t (n:Nat):Row I:=⟨58,[.d (.dat 54),.d (.int .i64)],[.k (.row 117 false),.k (.d (.bool))],b3Z n⟩
theorem b6B (n:Nat):RK (b5t n) :=
 okR [eR (a0k n),eR (b7j n),eR (a2K n)] 67 (b7h n) [.tmp 4,.tmp 5] Go.Proofs.Tryz.func58 (by kernel_rfl)
def a7d:Hints I:=mkH [] [] [] [] [(26,⟨524080,[],[],[(8,.k (.d (.int .i64)))],[((.exit 0),[]),(.ret,[(4,.k (.d (.int .i64)))])],bnd tb (.slot 7) 1⟩)] [] [] []
def a6t:Row I:=⟨143,[.d (.sl 3),.fn [.int .i64] [.k (.d (.bool))]],[.k (.d (.int .i64))],a3t⟩
theorem a6T:RK (a6t) :=
 okR [] 19 a7d [.tmp 4] Go.Proofs.Tryz.func143 (by kernel_rfl)
def a4C:Row I:=⟨114,[.d (.sl 3),.fn [.int .i64] [.k (.d (.bool))]],[.k (.d (.bool))],a2x⟩
theorem a4V:RK (a4C) :=
 okR [eR a6T] 9 w9 [.tmp 4] Go.Proofs.Tryz.func114 (by kernel_rfl)
def a2b:Hints I:=mkH [] [] [] [] [(26,⟨524080,[],[],[(8,.k (.d (.int .i64)))],[((.exit 0),[]),(.ret,[(4,.k (.d (.int .i64)))])],bnd tb (.slot 7) 1⟩)] [] [] []
def a1N:Row I:=⟨119,[.d (.sl 81),.fn [.dat 81] [.k (.d (.bool))]],[.k (.d (.int .i64))],a0t⟩
theorem a13:RK (a1N) :=
 okR [] 19 a2b [.tmp 4] Go.Proofs.Tryz.func119 (by kernel_rfl)
def a1u:Row I:=⟨90,[.d (.sl 81),.fn [.dat 81] [.k (.d (.bool))]],[.k (.d (.bool))],a0f⟩
theorem a1F:RK (a1u) :=
 okR [eR a13] 9 w9 [.tmp 4] Go.Proofs.Tryz.func90 (by kernel_rfl)
def b5R:Row I:=⟨91,[.d (.dat 81)],[.k (.d (.bool))],b4g⟩
theorem b6F:RK (b5R) :=
 okR [] 6 w9 [.tmp 2] Go.Proofs.Tryz.func91 (by kernel_rfl)
def b7x (n:Nat):Row I:=⟨62,[.d (.dat 54),.d (.int .i64)],[.k (.d (.bool))],a7S n⟩
theorem a7C (n:Nat):RK (b7x n) :=
 okR [eR (a6i n),eR (a3V n),eR a1F,eR b6F] 14 w9 [.tmp 4] Go.Proofs.Tryz.func62 (by kernel_rfl)
def b1C (n:Nat):Row I:=⟨115,[.d (.int .i64),.var 54 (.k (.d (.dat 54))) false],[.k (.d (.bool))],a81 n⟩
theorem b2V (n:Nat):RK (b1C n) :=
 okR [eR (a7C n)] 8 w9 [.tmp 3] Go.Proofs.Tryz.func115 (by kernel_rfl)
def b3y (n:Nat):Row I:=⟨87,[.d (.dat 54),.d (.sl 3)],[.k (.d (.bool))],b0Y n⟩
theorem b4W (n:Nat):RK (b3y n) :=
 okR [eR a4V,eR (b2V n)] 9 w9 [.tmp 4] Go.Proofs.Tryz.func87 (by kernel_rfl)
def b9I (_:Nat):Hints I:=mkH [(8,[[],[],[0,1],[0,1,2],[0,1,2,3],[0,1,2,3],[0,1,2,3,4,5],[0,1,2,3],[0,1,2,3],[0,1,2,3,4,5,6,7,8],[0,1,2,3,4,5,6,7,8,9],[0,1,2,3,4,5,6,7,8,9,10],[0,1,2,3,4,5,6,7,8,9,10,11]])] [] [] [] [(26,⟨2199023254000,[],[],[(11,.k (.d (.int .i64)))],[((.exit 0),[]),(.ret,[(4,.k (.d (.bool)))])],bnd tb (.slot 10) 1⟩),
 (13518,⟨1099509531024,[],[],[(21,.k (.d (.int .i64)))],[((.exit 2),[]),(.ret,[(4,.k (.d (.bool)))])],bnd tb (.slot 20) 1⟩)] [] [] []
def b7p (n:Nat):Row I:=⟨88,[.d (.dat 54),.d (.sl 3)],[.k (.d (.bool))],b6O n⟩
theorem b7W (n:Nat):RK (b7p n) :=
 okR [eR (a7C n),eR (a6i n)] 41 (b9I n) [.tmp 4] Go.Proofs.Tryz.func88 (by kernel_rfl)
def b6s (_:Nat):Hints I:=mkH [] [] [] [(125337,⟨83886080,[],[],[(.normal,[(24,.k (.d (.bool)))])]⟩)] [(122,⟨1099511365652,[],[],[(18,.k (.d (.int .i64)))],[((.exit 0),[]),(.ret,[(2,.k (.d (.bool)))])],bnd tb (.slot 17) 1⟩)] [] [] []
def b44 (n:Nat):Row I:=⟨60,[.d (.dat 54)],[.k (.d (.bool))],b2I n⟩
theorem b5F (n:Nat):RK (b44 n) :=
 okR [eR (a0k n),eR (a2K n),eR (a3V n),eR (b4W n),eR (b7W n)] 40 (b6s n) [.tmp 2] Go.Proofs.Tryz.func60 (by kernel_rfl)
def a34:Row I:=⟨61,[.d (.sl 54)],[.k (.row 54 true)],a2d⟩
theorem a4p:RK (a34) :=
 okR [] 9 w9 [.tmp 2] Go.Proofs.Tryz.func61 (by kernel_rfl)
def b57 (_:Nat):Hints I:=mkH [(9,[[],[0],[0,1],[],[3],[3,4],[0,1,2,3,4,5],[0,1,2,3,4,5,6],[]])] [] [] [] [(250,⟨2305842734335788304,[36],[],[(38,.k (.d (.int .i64)))],[((.exit 0),[]),(.ret,[(4,.k (.d (.bool)))])],bnd tb (.slot 37) 1⟩),
 (64102,⟨1151795604700005392,[],[],[(50,.k (.d (.int .i64)))],[((.exit 2),[]),(.ret,[(4,.k (.d (.bool)))])],bnd tb (.slot 49) 1⟩)] [] [] []
def b48 (n:Nat):Row I:=⟨30,[.d (.dat 54),.d (.int .i64)],[.k (.d (.bool))],a0N n⟩
theorem b50 (n:Nat):RK (b48 n) :=
 okR [eR (b6B n),eR (a2K n),eR (b5F n),eR a4p,eR (a7C n)] 61 (b57 n) [.tmp 4] Go.Proofs.Tryz.func30 (by kernel_rfl)
def b8G (_:Nat):Hints I:=mkH [(8,[[],[0],[0,1],[0,1,2],[0,1,2,3],[0,1,2],[0,1,2,5],[0,1,2,3,4,5,6],[0,1,2,3,4,5,6,7],[0,1,2],[0,1,2,3,4,5,6,7,8,9],[0,1,2,3,4,5,6,7,8,9,10],[0,1,2,3,4,5,6,7,8,9,10,11],[0,1,2,3,4,5,6,7,8,9,10,11,12],[0,1,2,3,4,5,6,7,8,9,10,11,12,13],[0,1,2,3,4,5,6,7,8,9,10,11,12,13,14],[0,1,2,3,4,5,6,7,8,9,10,11,12,13,14,15],[0,1,2,3,4,5,6,7,8,9,10,11,12,13,14,15,16],[0,1,2,3,4,5,6,7,8,9,10,11,12,13,14,15,16,17],[0,1,2,3,4,5,6,7,8,9,10,11,12,13,14,15,16,17,18],[0,1,2,3,4,5,6,7,8,9,10,11,12,13,14,15,16,17],[0,1,2,3,4,5,6,7,8,9,10,11,12,13,14,15,16,17,20],[0,1,2,3,4,5,6,7,8,9,10,11,12,13,14,15,16,17,20,21],[0,1,2,3,4,5,6,7,8,9,10,11,12,13,14,15,16,17,18,19,20,21,22],[0,1,2,3,4,5,6,7,8,9,10,11,12,13,14,15,16,17,18,19,20,21,22,23],[0,1,2,3,4,5,6,7,8,9,10,11,12,13,14,15,16,17,18,19,20,21,22,23,24],[0,1,2,3,4,5,6,7,8,9,10,11,12,13,14,15,16,17,18,19,20,21,22,23,24,25]])] [] [] [] [(58,⟨18889465931478580592668,[],[],[(18,.k (.d (.int .i64)))],[((.exit 0),[]),(.ret,[(2,.k (.d (.bool)))])],bnd tb (.slot 17) 1⟩)] [] [] []
def b7e (n:Nat):Row I:=⟨15,[.d (.dat 25)],[.k (.d (.bool))],a3J n⟩
theorem b2H (n:Nat):RK (b7e n) :=
 okR [eR b71,eR (a0k n),eR b6G,eR (b50 n)] 74 (b8G n) [.tmp 2] Go.Proofs.Tryz.func15 (by kernel_rfl)
def a86:Hints I:=mkH [] [] [] [] [(12,⟨268431376,[],[(0,.lvs [.row 5 false])],[(4,.k (.d (.int .u64)))],[((.exit 0),[(4,.k (.d (.int .u64)))])],bnd tb (.slot 4) 2⟩)] [] [] []
def a7i:Row I:=⟨63,[.var 61 (.lvs [.row 5 false]) true,.d (.int .i64)],[],Y1⟩
theorem J3:RK (a7i) :=
 okR [] 39 a86 [] Go.Proofs.Tryz.func63 (by kernel_rfl)
def a9y:Row I:=⟨31,[.var 61 (.lvs [.row 5 false]) true,.d (.str)],[],W2⟩
theorem a06:RK (a9y) :=
 okR [eR J3] 17 w9 [] Go.Proofs.Tryz.func31 (by kernel_rfl)
def a80:Row I:=⟨32,[.var 61 (.lvs [.row 5 false]) true,.d (.bool)],[],a0E⟩
theorem a3L:RK (a80) :=
 okR [] 23 w9 [] Go.Proofs.Tryz.func32 (by kernel_rfl)
def a7M:Row I:=⟨64,[.var 61 (.lvs [.row 5 false]) true,.d (.int .i64)],[],Y7⟩
theorem X2:RK (a7M) :=
 okR [eR J3] 7 w9 [] Go.Proofs.Tryz.func64 (by kernel_rfl)
def b3K:Hints I:=mkH [] [] [] [] [(14,⟨4178048,[],[(0,.lvs [.row 5 false])],[(14,.k (.d (.int .i64)))],[((.exit 0),[])],bnd tb (.slot 13) 1⟩)] [] [] []
def b2a:Row I:=⟨120,[.var 61 (.lvs [.row 5 false]) true,.d (.sl 3),.d (.any)],[],a4d⟩
theorem b2U:a0q Go.Proofs.Tryz.prog (b2a) (a8U 64 2 0) :=
 a2V a1J (a1g (a2R [eR J3,eR X2]) 3) mixed 22 (s0:=fun a=>b2c 64 2 0 (a1G tb 22 [.var 61 (.lvs [.row 5 false]) true,.d (.sl 3),.d (.any)] a)) (fn:=Go.Proofs.Tryz.f120) (cd:=a5f Go.Proofs.Tryz.f120) (H:=b3K) (rl:=[]) (fun X c σ a vs F h hv hF hC=>a4v rfl h hF hC) Go.Proofs.Tryz.func120 (by kernel_rfl) (by kernel_rfl) (by kernel_rfl) (by kernel_rfl) (by kernel_rfl) (by kernel_rfl) (by kernel_rfl)
def a89:Row I:=⟨122,[.var 61 (.lvs [.row 5 false]) true,.d (.dat 102)],[],a0G⟩
theorem a9K:RK (a89) :=
 okR [eR X2,eR a06,eR a3L] 22 w9 [] Go.Proofs.Tryz.func122 (by kernel_rfl)
def a8X:Hints I:=mkH [] [] [] [] [(14,⟨4178048,[],[(0,.lvs [.row 5 false])],[(14,.k (.d (.int .i64)))],[((.exit 0),[])],bnd tb (.slot 13) 1⟩)] [] [] []
def a7y:Row I:=⟨121,[.var 61 (.lvs [.row 5 false]) true,.d (.sl 102),.d (.any)],[],a2a⟩
theorem a73:a0q Go.Proofs.Tryz.prog (a7y) (a8U 122 2 0) :=
 a2V a1J (a1g (a2R [eR J3,eR a9K]) 3) mixed 22 (s0:=fun a=>b2c 122 2 0 (a1G tb 22 [.var 61 (.lvs [.row 5 false]) true,.d (.sl 102),.d (.any)] a)) (fn:=Go.Proofs.Tryz.f121) (cd:=a5f Go.Proofs.Tryz.f121) (H:=a8X) (rl:=[]) (fun X c σ a vs F h hv hF hC=>a4v rfl h hF hC) Go.Proofs.Tryz.func121 (by kernel_rfl) (by kernel_rfl) (by kernel_rfl) (by kernel_rfl) (by kernel_rfl) (by kernel_rfl) (by kernel_rfl)
def a9B:Row I:=⟨93,[.var 61 (.lvs [.row 5 false]) true,.d (.dat 81)],[],a0U⟩
theorem b0q:RK (a9B) :=
 okR [eR X2,eR J3,eR a06,eM 64 2 0 b2U,eM 122 2 0 a73] 42 w9 [] Go.Proofs.Tryz.func93 (by kernel_rfl)
def a6V:Hints I:=mkH [] [] [] [] [(14,⟨4178048,[],[(0,.lvs [.row 5 false])],[(14,.k (.d (.int .i64)))],[((.exit 0),[])],bnd tb (.slot 13) 1⟩)] [] [] []
def a5q:Row I:=⟨92,[.var 61 (.lvs [.row 5 false]) true,.d (.sl 81),.d (.any)],[],a1q⟩
theorem a5M:a0q Go.Proofs.Tryz.prog (a5q) (a8U 93 2 0) :=
 a2V a1J (a1g (a2R [eR J3,eR b0q]) 3) mixed 22 (s0:=fun a=>b2c 93 2 0 (a1G tb 22 [.var 61 (.lvs [.row 5 false]) true,.d (.sl 81),.d (.any)] a)) (fn:=Go.Proofs.Tryz.f92) (cd:=a5f Go.Proofs.Tryz.f92) (H:=a6V) (rl:=[]) (fun X c σ a vs F h hv hF hC=>a4v rfl h hF hC) Go.Proofs.Tryz.func92 (by kernel_rfl) (by kernel_rfl) (by kernel_rfl) (by kernel_rfl) (by kernel_rfl) (by kernel_rfl) (by kernel_rfl)
def b0y:Row I:=⟨65,[.var 61 (.lvs [.row 5 false]) true,.d (.dat 54)],[],a15⟩
theorem b03:RK (b0y) :=
 okR [eM 93 2 0 a5M,eR X2] 14 w9 [] Go.Proofs.Tryz.func65 (by kernel_rfl)
def a6q:Row I:=⟨34,[.var 61 (.lvs [.row 5 false]) true,.d (.dat 57)],[],X7⟩
theorem a62:RK (a6q) :=
 okR [eR a06,eR X2,eR b03] 18 w9 [] Go.Proofs.Tryz.func34 (by kernel_rfl)
def a5N:Hints I:=mkH [] [] [] [] [(14,⟨4178048,[],[(0,.lvs [.row 5 false])],[(14,.k (.d (.int .i64)))],[((.exit 0),[])],bnd tb (.slot 13) 1⟩)] [] [] []
def a4P:Row I:=⟨33,[.var 61 (.lvs [.row 5 false]) true,.d (.sl 57),.d (.any)],[],a1i⟩
theorem a5s:a0q Go.Proofs.Tryz.prog (a4P) (a8U 34 2 0) :=
 a2V a1J (a1g (a2R [eR J3,eR a62]) 3) mixed 22 (s0:=fun a=>b2c 34 2 0 (a1G tb 22 [.var 61 (.lvs [.row 5 false]) true,.d (.sl 57),.d (.any)] a)) (fn:=Go.Proofs.Tryz.f33) (cd:=a5f Go.Proofs.Tryz.f33) (H:=a5N) (rl:=[]) (fun X c σ a vs F h hv hF hC=>a4v rfl h hF hC) Go.Proofs.Tryz.func33 (by kernel_rfl) (by kernel_rfl) (by kernel_rfl) (by kernel_rfl) (by kernel_rfl) (by kernel_rfl) (by kernel_rfl)
def a9p:Row I:=⟨16,[.var 61 (.lvs [.row 5 false]) true,.d (.dat 25)],[],a1H⟩
theorem b0i:RK (a9p) :=
 okR [eR a06,eR a3L,eM 34 2 0 a5s] 18 w9 [] Go.Proofs.Tryz.func16 (by kernel_rfl)
def b5C:Row I:=⟨17,[.d (.str)],[.k (.d (.str))],a3u⟩
theorem a90:RK (b5C) :=
 okR [eR c32] 21 w9 [.tmp 2] Go.Proofs.Tryz.func17 (by kernel_rfl)
def b36 (n:Nat):Row I:=⟨6,[.d (.dat 25)],[.k (.d (.str)),.k (.d (.int .i64))],a1t n⟩
theorem a7H (n:Nat):RK (b36 n) :=
 okR [eR (b2H n),eR b0i,eR a90] 19 w9 [.tmp 2,.tmp 3] Go.Proofs.Tryz.func6 (by kernel_rfl)
def b5k:Row I:=⟨18,[.d (.str)],[.k (.d (.str)),.k (.d (.int .i64))],a3k⟩
theorem b6x:RK (b5k) :=
 okR [eR a90] 18 w9 [.tmp 2,.tmp 3] Go.Proofs.Tryz.func18 (by kernel_rfl)
def a9C:Row I:=⟨39,[.var 67 (.k (.d (.dat 67))) true,.d (.int .i64)],[],W3⟩
theorem W0:RK (a9C) :=
 okR [] 13 w9 [] Go.Proofs.Tryz.func39 (by kernel_rfl)
def b0J:Hints I:=mkH [(1,[[],[0],[0,1],[0,1,2],[0,1,2,3],[0,1,2,3,4],[0,1,2,3,4,5],[0,1,2,3,4,5,6],[0,1,2,3,4,5,6,7],[0,1,2,3,4,5,6,7,8],[0,1,2,3,4,5],[0,1,2,3,4,5,10],[0,1,2,3,4,5,10,11],[0,1,2,3,4,5,10,11,12],[0,1,2,3,4,5,10,11,12,13],[0,1,2,3,4,5,6,7,8,9,10,11,12,13,14],[0,1,2,3,4,5,6,7,8,9,10,11,12,13,14,15]]),(5,[[],[0],[0,1],[0,1,2],[],[4],[4,5],[4,5,6],[4,5,6,7],[0,1,2,3,4,5,6,7,8],[0,1,2,3,4,5,6,7,8,9]])] [] [] [] [] [] [] []
def a9r:Row I:=⟨67,[.var 67 (.k (.d (.dat 67))) true],[.k (.d (.int .u8))],a2Y⟩
theorem a3Y:RK (a9r) :=
 okR [eR W0] 39 b0J [.tmp 2] Go.Proofs.Tryz.func67 (by kernel_rfl)
def a8W (n:Nat):Hints I:=mkH [] [] [] [(1925,⟨50331648,[],[(0,.k (.d (.dat 67)))],[(.normal,[])]⟩)] [(30,⟨281474976710652,[],[(0,.k (.d (.dat 67)))],[(3,.k (.d (.int .u64))),(4,.k (.d (.int .i64)))],[(.ret,[(2,.k (.d (.int .i64)))])],fun _=>some n⟩)] [] [] []
def a7n (n:Nat):Row I:=⟨94,[.var 67 (.k (.d (.dat 67))) true],[.k (.d (.int .i64))],a05 n⟩
theorem a27 (n:Nat):RK (a7n n) :=
 okR [eR a3Y,eR W0] 48 (a8W n) [.tmp 2] Go.Proofs.Tryz.func94 (by kernel_rfl)
def a8j (n:Nat):Row I:=⟨68,[.var 67 (.k (.d (.dat 67))) true],[.k (.d (.int .i64))],Q5 n⟩
theorem K7 (n:Nat):RK (a8j n) :=
 okR [eR (a27 n)] 5 w9 [.tmp 2] Go.Proofs.Tryz.func68 (by kernel_rfl)
def a9x (_:Nat):Hints I:=mkH [] [] [] [(29,⟨768,[],[(0,.k (.d (.dat 67)))],[(.normal,[])]⟩)] [] [] [] []
def a7Q (n:Nat):Row I:=⟨66,[.var 67 (.k (.d (.dat 67))) true],[.k (.d (.int .i64))],W9 n⟩
theorem X3 (n:Nat):RK (a7Q n) :=
 okR [eR (K7 n),eR W0] 16 (a9x n) [.tmp 2] Go.Proofs.Tryz.func66 (by kernel_rfl)
def b09 (_:Nat):Hints I:=mkH [(2,[[],[],[1],[1,2],[1,2,3],[1,2,3,4],[],[6],[6,7],[6,7,8],[1,2,3,4,5,6,7,8,9],[0,1,2,3,4,5,6,7,8,9,10]]),(6,[[],[0],[0,1],[0,1,2],[],[4],[4,5],[4,5,6],[],[4,5,6,7,8],[],[10],[10,11],[10,11,12],[0,1,2,3,4,5,6,7,8,9,10,11,12,13],[0,1,2,3,4,5,6,7,8,9,10,11,12,13,14]])] [] [] [] [] [] [] []
def a9v (n:Nat):Row I:=⟨35,[.var 67 (.k (.d (.dat 67))) true],[.k (.d (.str))],a0V n⟩
theorem a03 (n:Nat):RK (a9v n) :=
 okR [eR (X3 n),eR W0] 43 (b09 n) [.tmp 2] Go.Proofs.Tryz.func35 (by kernel_rfl)
def b0H:Hints I:=mkH [] [] [] [(29,⟨768,[],[(0,.k (.d (.dat 67)))],[(.normal,[])]⟩)] [] [] [] []
def a9b:Row I:=⟨36,[.var 67 (.k (.d (.dat 67))) true],[.k (.d (.bool))],a2G⟩
theorem a3M:RK (a9b) :=
 okR [eR a3Y,eR W0] 12 b0H [.tmp 2] Go.Proofs.Tryz.func36 (by kernel_rfl)
def b0c (_:Nat):Hints I:=mkH [] [] [] [] [(58,⟨33554016,[],[(0,.k (.d (.dat 67)))],[(5,.k (.row 3 false)),(6,.k (.d (.int .i64)))],[((.exit 0),[(5,.k (.row 3 false))])],bnd tb (.slot 6) 2⟩)] [] [] []
def a8x (n:Nat):Row I:=⟨123,[.var 67 (.k (.d (.dat 67))) true,.d (.any)],[.k (.row 3 false)],a4L n⟩
theorem a9O (n:Nat):a0q Go.Proofs.Tryz.prog (a8x n) (a8U 68 1 0) :=
 a2V a1J (a1g (a2R [eR (X3 n),eR (K7 n)]) 3) mixed 26 (s0:=fun a=>b2c 68 1 0 (a1G tb 26 [.var 67 (.k (.d (.dat 67))) true,.d (.any)] a)) (fn:=Go.Proofs.Tryz.f123) (cd:=a5f Go.Proofs.Tryz.f123) (H:=(b0c n)) (rl:=[.tmp 4]) (fun X c σ a vs F h hv hF hC=>a4v rfl h hF hC) Go.Proofs.Tryz.func123 (by kernel_rfl) (by kernel_rfl) (by kernel_rfl) (by kernel_rfl) (by kernel_rfl) (by kernel_rfl) (by kernel_rfl)
def a8J (n:Nat):Row I:=⟨125,[.var 67 (.k (.d (.dat 67))) true],[.k (.d (.dat 102))],a4N n⟩
theorem a9G (n:Nat):RK (a8J n) :=
 okR [eR (K7 n),eR (a03 n),eR a3M] 13 w9 [.cell 2 102] Go.Proofs.Tryz.func125 (by kernel_rfl)
def a6n (_:Nat):Hints I:=mkH [] [] [] [] [(58,⟨33554016,[],[(0,.k (.d (.dat 67)))],[(5,.k (.row 102 false)),(6,.k (.d (.int .i64)))],[((.exit 0),[(5,.k (.row 102 false))])],bnd tb (.slot 6) 2⟩)] [] [] []
def a4U (n:Nat):Row I:=⟨124,[.var 67 (.k (.d (.dat 67))) true,.d (.any)],[.k (.row 102 false)],a2T n⟩
theorem a5w (n:Nat):a0q Go.Proofs.Tryz.prog (a4U n) (a8U 125 1 0) :=
 a2V a1J (a1g (a2R [eR (X3 n),eR (a9G n)]) 3) mixed 26 (s0:=fun a=>b2c 125 1 0 (a1G tb 26 [.var 67 (.k (.d (.dat 67))) true,.d (.any)] a)) (fn:=Go.Proofs.Tryz.f124) (cd:=a5f Go.Proofs.Tryz.f124) (H:=(a6n n)) (rl:=[.tmp 4]) (fun X c σ a vs F h hv hF hC=>a4v rfl h hF hC) Go.Proofs.Tryz.func124 (by kernel_rfl) (by kernel_rfl) (by kernel_rfl) (by kernel_rfl) (by kernel_rfl) (by kernel_rfl) (by kernel_rfl)
def a9u (n:Nat):Row I:=⟨96,[.var 67 (.k (.d (.dat 67))) true],[.k (.d (.dat 81))],a5D n⟩
theorem b0G (n:Nat):RK (a9u n) :=
 okR [eR (K7 n),eR (a27 n),eR (a03 n),eM 68 1 0 (a9O n),eM 125 1 0 (a5w n)] 30 w9 [.cell 2 81] Go.Proofs.Tryz.func96 (by kernel_rfl)
def a4B (_:Nat):Hints I:=mkH [] [] [] [] [(58,⟨33554016,[],[(0,.k (.d (.dat 67)))],[(5,.k (.row 81 false)),(6,.k (.d (.int .i64)))],[((.exit 0),[(5,.k (.row 81 false))])],bnd tb (.slot 6) 2⟩)] [] [] []
def a3Z (n:Nat):Row I:=⟨95,[.var 67 (.k (.d (.dat 67))) true,.d (.any)],[.k (.row 81 false)],a2e n⟩
theorem a4m (n:Nat):a0q Go.Proofs.Tryz.prog (a3Z n) (a8U 96 1 0) :=
 a2V a1J (a1g (a2R [eR (X3 n),eR (b0G n)]) 3) mixed 26 (s0:=fun a=>b2c 96 1 0 (a1G tb 26 [.var 67 (.k (.d (.dat 67))) true,.d (.any)] a)) (fn:=Go.Proofs.Tryz.f95) (cd:=a5f Go.Proofs.Tryz.f95) (H:=(a4B n)) (rl:=[.tmp 4]) (fun X c σ a vs F h hv hF hC=>a4v rfl h hF hC) Go.Proofs.Tryz.func95 (by kernel_rfl) (by kernel_rfl) (by kernel_rfl) (by kernel_rfl) (by kernel_rfl) (by kernel_rfl) (by kernel_rfl)
def b0v (n:Nat):Row I:=⟨69,[.var 67 (.k (.d (.dat 67))) true],[.k (.d (.dat 54))],a6N n⟩
theorem b0R (n:Nat):RK (b0v n) :=
 okR [eM 96 1 0 (a4m n),eR (K7 n)] 10 w9 [.cell 2 54] Go.Proofs.Tryz.func69 (by kernel_rfl)
def a6g (n:Nat):Row I:=⟨38,[.var 67 (.k (.d (.dat 67))) true],[.k (.d (.dat 57))],a3g n⟩
theorem a6A (n:Nat):RK (a6g n) :=
 okR [eR (a03 n),eR (K7 n),eR (b0R n)] 11 w9 [.cell 2 57] Go.Proofs.Tryz.func38 (by kernel_rfl)
def a4i (_:Nat):Hints I:=mkH [] [] [] [] [(58,⟨33554016,[],[(0,.k (.d (.dat 67)))],[(5,.k (.row 57 false)),(6,.k (.d (.int .i64)))],[((.exit 0),[(5,.k (.row 57 false))])],bnd tb (.slot 6) 2⟩)] [] [] []
def a3R (n:Nat):Row I:=⟨37,[.var 67 (.k (.d (.dat 67))) true,.d (.any)],[.k (.row 57 false)],a1W n⟩
theorem a30 (n:Nat):a0q Go.Proofs.Tryz.prog (a3R n) (a8U 38 1 0) :=
 a2V a1J (a1g (a2R [eR (X3 n),eR (a6A n)]) 3) mixed 26 (s0:=fun a=>b2c 38 1 0 (a1G tb 26 [.var 67 (.k (.d (.dat 67))) true,.d (.any)] a)) (fn:=Go.Proofs.Tryz.f37) (cd:=a5f Go.Proofs.Tryz.f37) (H:=(a4i n)) (rl:=[.tmp 4]) (fun X c σ a vs F h hv hF hC=>a4v rfl h hF hC) Go.Proofs.Tryz.func37 (by kernel_rfl) (by kernel_rfl) (by kernel_rfl) (by kernel_rfl) (by kernel_rfl) (by kernel_rfl) (by kernel_rfl)
def a9L (n:Nat):Row I:=⟨19,[.var 67 (.k (.d (.dat 67))) true],[.k (.d (.dat 25))],a5E n⟩
theorem b0o (n:Nat):RK (a9L n) :=
 okR [eR (a03 n),eR a3M,eM 38 1 0 (a30 n)] 12 w9 [.cell 2 25] Go.Proofs.Tryz.func19 (by kernel_rfl)
def b06:Hints I:=mkH [(1,[[],[0],[0,1],[0,1,2],[],[4],[4,5],[4,5,6],[4,5,6,7],[0,1,2,3,4,5,6,7,8]])] [] [] [(13,⟨24576,[],[(0,.k (.d (.dat 67)))],[(.normal,[])]⟩)] [] [] [] []
def a9z:Row I:=⟨20,[.var 67 (.k (.d (.dat 67))) true],[.k (.d (.int .i64))],a5F⟩
theorem b0a:RK (a9z) :=
 okR [eR W0] 19 b06 [.tmp 2] Go.Proofs.Tryz.func20 (by kernel_rfl)
def b3L (n:Nat):Row I:=⟨7,[.d (.str)],[.k (.d (.dat 25)),.k (.d (.int .i64))],a2i n⟩
theorem a7L (n:Nat):RK (b3L n) :=
 okR [eR b6x,eR (b0o n),eR b0a,eR (b2H n)] 34 w9 [.cell 2 25,.tmp 3] Go.Proofs.Tryz.func7 (by kernel_rfl)
def b0p (n:Nat):Row I:=⟨9,[],[.k (.d (.bool))],a17 n⟩
theorem b0Q (n:Nat):RK (b0p n) :=
 okR [eR (a7H n),eR (a7L n),eR c32] 41 w9 [.tmp 0] Go.Proofs.Tryz.func9 (by kernel_rfl)
def a5k (_:Nat):Hints I:=mkH [(7,[[],[],[0,1],[],[3],[3,4],[0,1,2,3,4,5],[],[],[8],[7,8,9],[0,1,2,3,4,5,6,7,8,9,10],[0,1,2,3,4,5,6,7,8,9,10,11],[0,1,2,3,4,5,6,7,8,9,10,11,12],[0,1,2,3,4,5,6,7,8,9,10,11,12,13],[0,1,2,3,4,5,6,7,8,9,10,11,12,13],[],[0,1,2,3,4,5,6,7,8,9,10,11,12,13,14,16],[0,1,2,3,4,5,6,7,8,9,10,11,12,13,14,15,16,17]])] [] [] [(125,⟨824633720836,[],[],[(.normal,[(2,.k (.d (.int .u8)))])]⟩)] [] [] [] []
def a4E (n:Nat):Row I:=⟨4,[.d (.sl 3),.d (.int .i64),.d (.int .u8)],[.k (.d (.bool))],a0j n⟩
theorem a44 (n:Nat):RK (a4E n) :=
 okR [eR (b1y n),eR (a7H n),eR (b0Q n),eR (a7L n)] 61 (a5k n) [.tmp 6] Go.Proofs.Tryz.func4 (by kernel_rfl)
end Go.Qx
end
section
namespace Go.Pl
open Go Go.RowKit Go.Sx Go.Qx Go.Proofs.YthpckkffhbifnaaGreatDoor
def a50 (w:World):S:=⟨w,fun b=>match w.heap[b]? with | some (.cells c _ _)=>(c.size,0) | _=>(0,0)⟩
theorem c1d {w:World}{b o:Nat}{cs:List Value}(hn:cs≠[])(h:w.rangeAt b o cs)(hf:∀ j,j<cs.length->w.frozen? ⟨b,o+j,none⟩=false):a1k (a50 w) b o cs:=by
 refine ⟨⟨?_,hf⟩,h⟩
 have hl:0<cs.length:=List.length_pos_iff.2 hn
 have hj:=h (cs.length-1) _ (List.getElem?_eq_getElem (by omega))
 unfold World.cell? at hj
 simp only at hj
 split at hj
 ·rename_i c e f hb
  have h2:o+(cs.length-1)<c.size:=by
   simp only [Option.isSome_none,Bool.false_eq_true,if_false] at hj
   exact (Array.getElem?_eq_some_iff.1 hj).1
  show o+cs.length<=(match w.heap[b]? with | some (.cells c _ _)=>(c.size,0) | _=>(0,0)).1
  rw [hb]
  show o+cs.length<=c.size
  omega
 ·cases hj
theorem c1x {w:World}{base:Nat}{a:Addr}{n:Nat}{cs:List Value}(h:w.cells? base a n=some cs) :
 cs.length=n/\∀ (i:Nat) (v:Value),cs[i]?=some v->w.cell? (a.add i)=some v:=by
 unfold World.cells? at h
 split at h
 ·have hl:cs.length=n:=by simpa using mapM_some_length h
  refine ⟨hl,fun i v hv=>?_⟩
  have hi:i<n:=by have:=(List.getElem?_eq_some_iff.1 hv).1; omega
  have:=mapM_some_get h i i (by simp [hi])
  rw [this,hv]
 ·cases h
theorem c43 (a:Addr)(x j:Nat):(a.add x).add j=a.add (x+j):=by
 unfold Addr.add
 by_cases hx:x=0
 ·subst hx; simp
 ·by_cases hj:j=0
  ·subst hj; simp [hx]
  ·rw [if_neg hj,if_neg hx,if_neg (by omega),Nat.add_assoc]
theorem c1T {w:World}{a:Addr}{v:Value}(h:w.cell? a=some v):a.spot=none:=by
 unfold World.cell? at h
 split at h
 ·split at h
  ·cases h
  ·rename_i hs; simpa using hs
 ·cases h
section
variable {H:Type}{enc:TypeId×Value->H}{P:Program}{w:World}{base:Nat}{spare:Nat->Bool}{held:Bool}
theorem c00 {α:Type} [Rp α] {fuel:Nat}{t e:TypeId}{cs:List Value}{x:DataW H×List MemPlace}(ht:P.underlying t=some (.slice e))(hc:P.cellsOf e=Rp.sz α)(bk:α->Nat)
 (hrd:∀ (n:Nat) (cs:List Value) (x:DataW H×List MemPlace),n<fuel->w.noneFrozen x.2->DataW.trod enc P w base spare held n e cs=some x->∃ d:α,Rp.cells (a50 w) d cs/\bk d<=Rows.uptoBulk x.1) (hz:w.noneFrozen x.2)
 (h:DataW.trod enc P w base spare held fuel t cs=some x) :
 ∃ (ds:List α) (A:Option Addr) (c:Nat),cs=[.slice A ds.length c]/\Sl (a50 w) ds A c/\(ds.map bk).sum+1<=Rows.uptoBulk x.1:=by
 rcases DataW.trod_slice ht h with ⟨rfl,rfl⟩ | ⟨a,len,cap,elems,rest,n,rfl,rfl,rfl,hb,hl,hm,hle,hget,-,-⟩
 ·exact ⟨[],none,0,rfl,Sl.nil_ _ _ _ (Nat.zero_le _),by simp [Rows.uptoBulk]⟩
 have hze:∀ y∈elems,w.noneFrozen y.2:=fun y hy b off hm'=>hz b off (List.mem_append_right _ (List.mem_flatMap.2 ⟨y,List.mem_append_left _ hy,hm'⟩))
 have hzr:∀ i,i<(elems.length+rest.length)*P.cellsOf e->w.frozen? ⟨a.block,a.off+i,none⟩=false:=fun i hi=>hz _ _ (List.mem_append_left _ (List.mem_map.2 ⟨i,List.mem_range.2 hi,rfl⟩))
 have key:∀ (m i:Nat),i+m=len->∃ (ds:List α) (cs:List Value),ds.length=m/\Q9 (a50 w) ds cs /\
  (∀ (j:Nat) (v:Value),cs[j]?=some v->w.cell? (a.add (i*Rp.sz α+j))=some v)/\(ds.map bk).sum<=Rows.uptoBulkAll ((elems.drop i).map (·.1)):=by
  intro m
  induction m with
  | zero=>intro i _; exact ⟨[],[],rfl,rfl,fun j v hv=>by simp at hv,by simp⟩
  | succ m ih =>
    intro i hi
    obtain ⟨ds,cs,h1,h2,h3,h4⟩:=ih (i+1) (by omega)
    have hlt:i<elems.length:=by omega
    have hg:=hget i (by omega)
    rw [List.getElem?_eq_getElem hlt,Option.bind_eq_some_iff] at hg
    obtain ⟨cs0,hcs,htr⟩:=hg
    obtain ⟨d,hd,hbk⟩:=hrd n cs0 _ (by omega) (hze _ (List.getElem_mem hlt)) htr
    obtain ⟨hcl,hci⟩:=c1x hcs
    rw [hc] at hcl hci
    refine ⟨d::ds,cs0++cs,by simp [h1],⟨cs0,cs,rfl,hd,h2⟩,?_,?_⟩
    ·intro j v hv
     by_cases hj:j<Rp.sz α
     ·rw [List.getElem?_append_left (by omega)] at hv
      rw [<- c43]
      exact hci j v hv
     ·rw [List.getElem?_append_right (by omega)] at hv
      have:=h3 _ v hv
      rw [hcl,Nat.add_mul,Nat.one_mul] at this
      have e:i*Rp.sz α+Rp.sz α+(j-Rp.sz α)=i*Rp.sz α+j:=by omega
      rw [e] at this
      exact this
    ·rw [List.drop_eq_getElem_cons hlt]
     simp only [List.map_cons,List.sum_cons,Rows.uptoBulkAll]
     omega
 obtain ⟨ds,cs,h1,h2,h3,h4⟩:=key len 0 (by omega)
 simp only [Nat.zero_mul,Nat.zero_add,List.drop_zero] at h3 h4
 refine ⟨ds,some a,cap,by rw [h1],⟨by omega,hm,cs,h2,fun hn=>?_⟩,by simp only [Rows.uptoBulk]; omega⟩
 have hne:=h2.ne_nil hn
 cases cs with
 | nil=>exact absurd rfl hne
 | cons v0 r =>
   have h0:=h3 0 v0 rfl
   have hs:a.spot=none:=c1T (by simpa [Addr.add] using h0)
   obtain ⟨b,o,sp⟩:=a
   simp only at hs
   subst hs
   refine ⟨b,o,rfl,c1d (by simp) ?_ (fun j hj=>hzr j (by
    have h5:=h2.len
    rw [h5,h1] at hj
    rw [hc,hle]
    exact Nat.lt_of_lt_of_le hj (Nat.mul_le_mul_right _ (Nat.le_add_right _ _))))⟩
   intro j v hv
   have:=h3 j v hv
   unfold Addr.add at this
   by_cases hj:j=0
   ·subst hj; simpa using this
   ·rw [if_neg hj] at this
    exact this
end
end Go.Pl
end
section
namespace Go.Pl
open Go Go.RowKit Go.Sx Go.Qx Go.Proofs.YthpckkffhbifnaaGreatDoor
theorem c3:Go.Proofs.Tryz.prog.cellsOf 3=1:=by kernel_rfl
theorem c5:Go.Proofs.Tryz.prog.cellsOf 5=1:=by kernel_rfl
section
variable {H:Type}{enc:TypeId×Value->H}{w:World}{base:Nat}{spare:Nat->Bool}{held:Bool}
theorem c7k {n:Nat}{cs:List Value}{x:DataW H×List MemPlace}(hz:w.noneFrozen x.2)(h:DataW.trod enc Go.Proofs.Tryz.prog w base spare held n 3 cs=some x):∃ d:Int,(rpK .i64).cells (a50 w) d cs/\b3i d<=Rows.uptoBulk x.1:=by
 obtain ⟨k,e0,rfl,_⟩:=DataW.trod_int Go.Proofs.Tryz.underlying3 h
 exact ⟨k,e0,by simp [b3i,Rows.uptoBulk]⟩
end
end Go.Pl
end

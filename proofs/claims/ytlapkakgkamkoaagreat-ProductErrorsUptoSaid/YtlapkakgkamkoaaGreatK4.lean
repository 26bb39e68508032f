/- Part 4. -/
import Derived.Test.YtlapkakgkamkoaaGreatK2
import Derived.Test.YtlapkakgkamkoaaGreatK3
import Derived.KernelRfl
import Derived.Shelf.Lays
import Derived.Test.YtlapkakgkamkoaaGreatProg
section
namespace Go.Pl
open Go Go.RowKit Go.Sx Go.Qx
structure GN (N i:Nat)(x:Api_TypeNode):Prop where
 ok:W7 N x=true
 ord:isB x=true->∀ k∈x.Kids,(i:Int)<k
 kids:x.Kids.length<=4
 text:x.Text.size<=5
 flds:x.Fields.length<=3
 keys:∀ f∈x.Fields,a2y f.Key_<=8
 rng : -9223372036854775808<=x.Lo/\x.Lo<=9223372036854775807 /\ -9223372036854775808<=x.Hi/\x.Hi<=9223372036854775807
theorem b3f {N M:Nat}(h:N<=M){k:Int}(hk:inR N k=true):inR M k=true:=by
 unfold inR at *
 simp only [Bool.and_eq_true,decide_eq_true_eq] at *
 omega
theorem c1l {α:Type}{p q:α->Bool}{l:List α}(h:∀ x,p x=true->q x=true)(k:l.all p=true):l.all q=true:=List.all_eq_true.2 fun x hx=>h x (List.all_eq_true.1 k x hx)
theorem c3S {N M:Nat}(h:N<=M){x:Api_TypeNode}(hx:W7 N x=true):W7 M x=true:=by
 unfold W7 at *
 simp only [Bool.and_eq_true] at *
 refine ⟨c1l (fun k=>b3f h) hx.1,hx.2.1,hx.2.2.1,hx.2.2.2.1,?_⟩
 have hk:=hx.2.2.2.2
 unfold a3Z at *
 split<;>rename_i h3
 ·rwa [if_pos h3] at hk
 rw [if_neg h3] at hk
 split<;>rename_i h4
 ·rwa [if_pos h4] at hk
 rw [if_neg h4] at hk
 split<;>rename_i h6
 ·rwa [if_pos h6] at hk
 rw [if_neg h6] at hk
 split<;>rename_i h19
 ·rwa [if_pos h19] at hk
 rw [if_neg h19] at hk
 split<;>rename_i hs
 ·rwa [if_pos hs] at hk
 rw [if_neg hs] at hk
 split<;>rename_i h10
 ·rwa [if_pos h10] at hk
 rw [if_neg h10] at hk
 split<;>rename_i h12
 ·rwa [if_pos h12] at hk
 rw [if_neg h12] at hk
 split<;>rename_i h14
 ·rwa [if_pos h14] at hk
 rw [if_neg h14] at hk
 split<;>rename_i h16
 ·rwa [if_pos h16] at hk
 rw [if_neg h16] at hk
 split<;>rename_i h18
 ·rwa [if_pos h18] at hk
 rw [if_neg h18] at hk
 split<;>rename_i h13
 ·rw [if_pos h13] at hk
  unfold a5H at *
  simp only [Bool.and_eq_true] at *
  exact ⟨⟨hk.1.1,hk.1.2.1,c1l (fun f=>b3f h) hk.1.2.2⟩,hk.2.1,b3f h hk.2.2.1,b3f h hk.2.2.2⟩
 ·rwa [if_neg h13] at hk
theorem GN.mono {N M i:Nat}{x:Api_TypeNode}(h:GN N i x)(k:N<=M):GN M i x:=⟨c3S k h.ok,h.ord,h.kids,h.text,h.flds,h.keys,h.rng⟩
abbrev b9w (k:Int)(l:List Int):Api_TypeNode:=Api_TypeNode.mk k 0 0 (⟨#[]⟩:ByteArray) l ([]:List Api_Field) (0,0)
abbrev d0w (k:Int)(s:ByteArray):Api_TypeNode:=Api_TypeNode.mk k 0 0 s ([]:List Int) ([]:List Api_Field) (0,0)
theorem b0d {N i:Nat}{k:Int}{l:List Int}(hl:l.all (inR N)=true)(h4:l.length<=4)(hk:a3Z N (b9w k l)=true)(ho:k=16\/k=17\/k=18->∀ x∈l,(i:Int)<x):GN N i (b9w k l):=by
 refine ⟨?_,fun hb=>ho ?_,h4,by show (⟨#[]⟩:ByteArray).size<=5; decide,by show (0:Nat)<=3; omega,(fun f hf=>by cases hf),by show (-9223372036854775808:Int)<=0/\(0:Int)<=9223372036854775807/\(-9223372036854775808:Int)<=0/\(0:Int)<=9223372036854775807; decide⟩
 ·unfold W7
  rw [hk]
  simp [hl,a5U,a4U]
 ·unfold isB at hb
  simp at hb
  omega
theorem c0w {N i:Nat}{k:Int}{s:ByteArray}(hs:s.size<=5)(hk:(k=4)\/(k=6/\a3H s=true)\/(k=19/\a4Y s=true)):GN N i (d0w k s):=by
 refine ⟨?_,fun hb=>?_,by show (0:Nat)<=4; omega,hs,by show (0:Nat)<=3; omega,(fun f hf=>by cases hf),by show (-9223372036854775808:Int)<=0/\(0:Int)<=9223372036854775807/\(-9223372036854775808:Int)<=0/\(0:Int)<=9223372036854775807; decide⟩
 ·have h64:(s.size:Int)<=64:=by omega
  rcases hk with rfl | ⟨rfl,h⟩ | ⟨rfl,h⟩
  ·simp [W7,a3Z,a4U,h64]
  ·simp [W7,a3Z,a4U,h]
  ·simp [W7,a3Z,a4U,h]
 ·intro x hx; cases hx
section
variable {L:List Int}
theorem b7F {γ σ τ:Type}{step:σ->Option (Fl σ τ)}(pack:γ->Int->Semtypebase_Source->σ)(out:γ->Semtypebase_Source->τ)(Inv:Nat->γ->Prop)(J:Nat)
 (hst:∀ (j:Nat) (g:γ) (s:Semtypebase_Source),j<J->Inv j g->OS L s->∃ g' s',step (pack g (j:Int) s)=some (.next (pack g' ((j+1:Nat):Int) s'))/\OS L s'/\Inv (j+1) g')
 (hend:∀ g s,step (pack g (J:Int) s)=some (.done (out g s))) :
 ∀ (n j k:Nat) (g:γ) (s:Semtypebase_Source),j+n=J->n+1<=k->Inv j g->OS L s->∃ g' s',y4 step k (pack g (j:Int) s)=some (out g' s')/\OS L s'/\Inv J g':=by
 intro n
 induction n with
 | zero =>
   intro j k g s hJ hk hI hs
   obtain ⟨k,rfl⟩:∃ m,k=m+1:=⟨k-1,by omega⟩
   have e:j=J:=by omega
   subst e
   exact ⟨g,s,by have:=hend g s; simp [y4,this],hs,hI⟩
 | succ n ih =>
   intro j k g s hJ hk hI hs
   obtain ⟨k,rfl⟩:∃ m,k=m+1:=⟨k-1,by omega⟩
   obtain ⟨g1,s1,e,hs1,hI1⟩:=hst j g s (by omega) hI hs
   obtain ⟨g2,s2,e2,hs2,hI2⟩:=ih (j+1) k g1 s1 (by omega) (by omega) hI1 hs1
   refine ⟨g2,s2,?_,hs2,hI2⟩
   simp only [y4,e,Option.bind_some]
   exact e2
theorem c1Z (hL:L.length<=4194304){s:Semtypebase_Source}(h:OS L s)(m i N:Nat)(hm:m<=4)(hi:i<N)(hN:N<=100) :
 ∃ l t,j9 s (m:Int) (i:Int) (N:Int)=some (l,t)/\OS L t/\l.length=m/\∀ k∈l,(i:Int)<=k/\k<(N:Int):=by
 unfold j9
 obtain ⟨g,s',e,hs',h1,h2⟩:=a79 (γ:=List Int) (L:=L) (step:=a0P (i:Int) (N:Int)) (fun g j s=>(j,g,s)) (fun g s=>(g,s)) (fun j g=>g.length=j/\∀ k∈g,(i:Int)<=k/\k<(N:Int)) m
  (fun j n g s hj hn hI hs=>by
    obtain ⟨x,t,e,ht,a,b⟩:=Y6 hL hs (n:=w64 ((N:Int)-(i:Int))) (by rw [W1 (by omega) (by omega)]; omega) (by rw [W1 (by omega) (by omega)]; omega)
    rw [W1 (by omega) (by omega)] at b
    have hw:w64 ((i:Int)+x)=(i:Int)+x:=W1 (by omega) (by omega)
    refine ⟨g++[(i:Int)+x],t,?_,ht,?_,?_⟩
    ·unfold a0P
     simp only [Y1]
     rw [show decide (0<((n+1:Nat):Int))=true from decide_eq_true (by omega),e]
     simp only [cond_true,Option.bind_some,hw]
     rw [J4 (by simp only [List.length_cons,List.length_nil]; have:=hI.1; omega),show w64 (((n+1:Nat):Int)-1)=(n:Int) by rw [W1 (by omega) (by omega)]; omega]
     rfl
    ·simp [hI.1]
    ·intro k hk
     rcases List.mem_append.1 hk with hk | hk
     ·exact hI.2 k hk
     ·rw [List.mem_singleton.1 hk]; omega) (fun g s=>by
    unfold a0P
    rfl) m 0 ((m:Int).toNat+2) [] s (by omega) (by omega) ⟨rfl,fun k hk=>by cases hk⟩ h
 rw [e]
 exact ⟨g,s',rfl,hs',by simpa using h1,h2⟩
theorem b4O {N:Nat}{k:Int}(h0:0<=k)(h1:k<(N:Int)):inR N k=true:=by
 unfold inR
 simp [h0,h1]
theorem a9G {N i:Nat}{l:List Int}(h:∀ k∈l,(i:Int)<=k/\k<(N:Int)):l.all (inR N)=true:=List.all_eq_true.2 fun k hk=>by
 have:=h k hk
 exact b4O (by omega) this.2
abbrev c8Q:Key:=Key.mk 0 ⟨#[97]⟩
abbrev c9F:Key:=Key.mk 0 ⟨#[98]⟩
abbrev c8X:Key:=Key.mk 1 ⟨#[115]⟩
abbrev d0J:Type:=Int×Int×Int×ByteArray×(List Int)×(List Api_Field)×Int×Int
abbrev b80 (F:List Api_Field)(a b:Int):d0J:=(13,0,0,(⟨#[]⟩:ByteArray),[],F,a,b)
theorem b5g (hL:L.length<=4194304){s:Semtypebase_Source}(h:OS L s)(N j:Nat)(hN:1<=N)(hN2:N<=100)(hj:j<3)(K:Key)(hK:[c8Q,c9F,c8X][j]?=some K)(F:List Api_Field)(hF:F.length<=j)(a b:Int) :
 ∃ O t,V7 (N:Int) ((j:Int),s,b80 F a b)=some (.next (((j+1:Nat):Int),t,b80 (F++O) a b))/\OS L t/\(O=[]\/∃ n o,O=[Api_Field.mk K n o]/\inR N n=true):=by
 obtain ⟨x,t,e,ht,_,_⟩:=Y6 hL h (n:=2) (by omega) (by omega)
 unfold V7
 simp only [Y1]
 rw [show decide ((j:Int)<3)=true from decide_eq_true (by omega),e]
 simp only [cond_true,Option.bind_some]
 rw [w7 j (by omega)]
 cases hx:x==1
 ·exact ⟨[],t,by simp only [cond_false,Option.bind_some,List.append_nil],ht,.inl rfl⟩
 ·simp only [cond_true]
  rw [k7 hK]
  obtain ⟨n,t2,e2,ht2,n0,n1⟩:=Y6 hL ht (n:=(N:Int)) (by omega) (by omega)
  obtain ⟨o,t3,e3,ht3,_,_⟩:=Y6 hL ht2 (n:=2) (by omega) (by omega)
  simp only [Option.bind_some,e2,e3]
  rw [J4 (by simp only [List.length_cons,List.length_nil]; omega)]
  exact ⟨[Api_Field.mk K n (o==1)],t3,rfl,ht3,.inr ⟨n,_,rfl,b4O n0 n1⟩⟩
theorem c2g (hL:L.length<=4194304){s:Semtypebase_Source}(h:OS L s)(N i:Nat)(hN:1<=N)(hN2:N<=100):∃ x t,a1q s (N:Int)=some (x,t)/\OS L t/\GN N i x:=by
 obtain ⟨a,t1,e1,ht1,a0,a1⟩:=Y6 hL h (n:=(N:Int)) (by omega) (by omega)
 obtain ⟨b,t2,e2,ht2,b0,b1⟩:=Y6 hL ht1 (n:=(N:Int)) (by omega) (by omega)
 obtain ⟨O0,t3,e3,ht3,h0⟩:=b5g hL ht2 N 0 hN hN2 (by omega) c8Q rfl [] (by simp) a b
 have l0:O0.length<=1:=by rcases h0 with rfl | ⟨n,o,rfl,_⟩<;>simp
 obtain ⟨O1,t4,e4,ht4,h1⟩:=b5g hL ht3 N 1 hN hN2 (by omega) c9F rfl ([]++O0) (by simpa using l0) a b
 have l1:O1.length<=1:=by rcases h1 with rfl | ⟨n,o,rfl,_⟩<;>simp
 obtain ⟨O2,t5,e5,ht5,h2⟩:=b5g hL ht4 N 2 hN hN2 (by omega) c8X rfl (([]++O0)++O1) (by simp; omega) a b
 have e6:V7 (N:Int) (((2+1:Nat):Int),t5,b80 ((([]++O0)++O1)++O2) a b)=some (.done (t5,b80 ((([]++O0)++O1)++O2) a b)):=rfl
 refine ⟨Api_TypeNode.mk 13 0 0 (⟨#[]⟩:ByteArray) [] (O0++O1++O2) (a,b),t5,?_,ht5,?_⟩
 ·unfold a1q
  rw [e1]
  simp only [Option.bind_some]
  rw [e2]
  simp only [Option.bind_some]
  have ei:y4 (V7 (N:Int)) ((3:Int).toNat+1) (0,t2,(13,0,0,(⟨#[]⟩:ByteArray),[],[],a,b))=some (t5,b80 ((([]++O0)++O1)++O2) a b):=by
   show y4 (V7 (N:Int)) (3+1) (((0:Nat):Int),t2,b80 [] a b)=_
   simp only [y4,e3,e4,e5,e6,Option.bind_some]
  rw [ei]
  rfl
 ·refine ⟨?_,fun hb=>absurd hb (show ¬ (false=true) by simp),by show (0:Nat)<=4; omega,by show (⟨#[]⟩:ByteArray).size<=5; decide,?_,?_,by show (-9223372036854775808:Int)<=0/\(0:Int)<=9223372036854775807/\(-9223372036854775808:Int)<=0/\(0:Int)<=9223372036854775807; decide⟩
  ·have ha:=b4O (N:=N) a0 a1
   have hb:=b4O (N:=N) b0 b1
   have hF:a5H N (O0++O1++O2)=true:=by
    unfold a5H
    rw [Bool.and_eq_true,Bool.and_eq_true]
    refine ⟨?_,?_,?_⟩
    ·rcases h0 with rfl | ⟨n,o,rfl,_⟩<;>rcases h1 with rfl | ⟨n',o',rfl,_⟩<;>rcases h2 with rfl | ⟨n'',o'',rfl,_⟩<;>kernel_rfl
    ·rcases h0 with rfl | ⟨n,o,rfl,_⟩<;>rcases h1 with rfl | ⟨n',o',rfl,_⟩<;>rcases h2 with rfl | ⟨n'',o'',rfl,_⟩<;>kernel_rfl
    ·rcases h0 with rfl | ⟨n,o,rfl,q0⟩<;>rcases h1 with rfl | ⟨n',o',rfl,q1⟩<;>rcases h2 with rfl | ⟨n'',o'',rfl,q2⟩<;>simp_all
   unfold W7 a3Z
   simp only [hF,ha,hb,a5U]
   simp
  ·show (O0++O1++O2).length<=3
   have l2:O2.length<=1:=by rcases h2 with rfl | ⟨n,o,rfl,_⟩<;>simp
   simp only [List.length_append]
   omega
  ·intro f hf
   have hf:f∈O0++O1++O2:=hf
   have one:∀ {O:List Api_Field} {K:Key},(O=[]\/∃ n o,O=[Api_Field.mk K n o]/\inR N n=true)->f∈O->f.Key_=K:=fun hO hm=>by
    rcases hO with rfl | ⟨n,o,rfl,_⟩
    ·cases hm
    ·rw [List.mem_singleton.1 hm]
   rcases List.mem_append.1 hf with hf | hf
   ·rcases List.mem_append.1 hf with hf | hf
    ·rw [one h0 hf]; decide
    ·rw [one h1 hf]; decide
   ·rw [one h2 hf]; decide
end
end Go.Pl
namespace Go.Pl
open Go Go.RowKit Go.Sx Go.Qx
theorem b8B {N i:Nat}{k:Int}(hk:k=1\/k=2\/k=5\/k=7\/k=8\/k=9\/k=11\/k=15):GN N i (b9w k []) :=
 b0d rfl (by simp) (by rcases hk with rfl | rfl | rfl | rfl | rfl | rfl | rfl | rfl<;>rfl) (fun _ x hx=>by cases hx)
theorem c8E {N i:Nat}{lo hi:Int}(h:lo<=hi)(h2 : -9223372036854775808<=lo/\lo<=9223372036854775807 /\ -9223372036854775808<=hi/\hi<=9223372036854775807):GN N i (Api_TypeNode.mk 3 lo hi (⟨#[]⟩:ByteArray) ([]:List Int) ([]:List Api_Field) (0,0)) :=
 ⟨by simp [W7,a3Z,a4U,a5U,h],(fun _ x hx=>by cases hx),(by show (0:Nat)<=4; omega),(by show (⟨#[]⟩:ByteArray).size<=5; decide),(by show (0:Nat)<=3; omega),(fun f hf=>by cases hf),h2⟩
theorem c4G:b6a.all (fun x=>a4Y x&&decide (x.size<=5))=true:=by kernel_rfl
section
variable {L:List Int}
theorem a9R {x:Int}(h:0<=x):∃ m:Nat,x=(m:Int):=⟨x.toNat,by omega⟩
theorem c6B (hL:L.length<=4194304){s:Semtypebase_Source}(h:OS L s)(N i:Nat)(hi:i<N)(hN2:N<=100):∃ x t,a18 s (i:Int) (N:Int)=some (x,t)/\OS L t/\GN N i x:=by
 have hw:w64 ((N:Int)-1)=(N:Int)-1:=W1 (by omega) (by omega)
 have hwi:=w7 i (by omega)
 obtain ⟨b,hb,hlast,hb18⟩:∃ b:Int,(bif ((i:Int)==(wr .i64 ((N:Int)-1))) then (some 14:Option Int) else some 18)=some b/\(14<b->i+1<N)/\(b=14\/b=18):=by
  by_cases e:i+1=N
  ·refine ⟨14,?_,fun h=>by omega,.inl rfl⟩
   have:((i:Int)==(N:Int)-1)=true:=by simp; omega
   simp only [Y1,hw,this,cond_true]
  ·refine ⟨18,?_,fun _=>by omega,.inr rfl⟩
   have:((i:Int)==(N:Int)-1)=false:=by simp; omega
   simp only [Y1,hw,this,cond_false]
 unfold a18
 rw [hb]
 simp only [Option.bind_some]
 obtain ⟨c,t,e,ht,c0,c1⟩:=Y6 hL h (n:=b) (by omega) (by omega)
 rw [e]
 simp only [Option.bind_some]
 have ix:∀ {s:Semtypebase_Source},OS L s->∀ (m f:Nat),m<=4->f<N->∃ l t,j9 s (m:Int) (f:Int) (N:Int)=some (l,t)/\OS L t/\l.length=m/\∀ k∈l,(f:Int)<=k/\k<(N:Int):=fun hs m f hm hf=>c1Z hL hs m f N hm hf hN2
 have hc:c=0\/c=1\/c=2\/c=3\/c=4\/c=5\/c=6\/c=7\/c=8\/c=9\/c=10\/c=11\/c=12\/c=13\/c=14\/c=15\/c=16\/c=17:=by omega
 have tup:∀ {s:Semtypebase_Source},OS L s->∃ x t,(Option.bind (y2 s 3) fun r19=>Option.bind (j9 r19.2 r19.1 0 (N:Int)) fun r20=>some (b9w 10 r20.1,r20.2))=some (x,t)/\OS L t/\GN N i x:=fun hs=>by
  obtain ⟨m,t2,e2,ht2,m0,m1⟩:=Y6 hL hs (n:=3) (by omega) (by omega)
  obtain ⟨m,rfl⟩:=a9R m0
  obtain ⟨l,t3,e3,ht3,hl,hr⟩:=ix ht2 m 0 (by omega) (by omega)
  rw [e2]
  simp only [Option.bind_some]
  have e3':j9 t2 (m:Int) 0 (N:Int)=some (l,t3):=e3
  rw [e3']
  refine ⟨_,t3,rfl,ht3,b0d (l:=l) (a9G hr) (show l.length<=4 by omega) ?_ (fun h=>by omega)⟩
  show decide ((l.length:Int)<=4)=true
  exact decide_eq_true (by omega)
 have fun_:∀ {s:Semtypebase_Source},OS L s->∃ x t,(Option.bind (y2 s 3) fun r24=>Option.bind (j9 r24.2 (w64 (1+r24.1)) 0 (N:Int)) fun r25=>some (b9w 14 r25.1,r25.2))=some (x,t)/\OS L t/\GN N i x:=fun hs=>by
  obtain ⟨m,t2,e2,ht2,m0,m1⟩:=Y6 hL hs (n:=3) (by omega) (by omega)
  obtain ⟨m,rfl⟩:=a9R m0
  obtain ⟨l,t3,e3,ht3,hl,hr⟩:=ix ht2 (m+1) 0 (by omega) (by omega)
  rw [e2]
  simp only [Option.bind_some]
  have e3':j9 t2 (w64 (1+(m:Int))) 0 (N:Int)=some (l,t3):=by
   rw [W1 (by omega) (by omega),show 1+(m:Int)=((m+1:Nat):Int) by omega]
   exact e3
  rw [e3']
  refine ⟨_,t3,rfl,ht3,b0d (l:=l) (a9G hr) (show l.length<=4 by omega) ?_ (fun h=>by omega)⟩
  show (decide (1<=(l.length:Int))&&decide ((l.length:Int)<=5))=true
  rw [Bool.and_eq_true]
  exact ⟨decide_eq_true (by omega),decide_eq_true (by omega)⟩
 have uni:i+1<N->∀ {s:Semtypebase_Source},OS L s->∃ x t,(Option.bind (y2 s 2) fun r28=>Option.bind (j9 r28.2 (w64 (2+r28.1)) (w64 ((i:Int)+1)) (N:Int)) fun r29=>some (b9w 16 r29.1,r29.2))=some (x,t)/\OS L t/\GN N i x:=fun hlt s hs=>by
  obtain ⟨m,t2,e2,ht2,m0,m1⟩:=Y6 hL hs (n:=2) (by omega) (by omega)
  obtain ⟨m,rfl⟩:=a9R m0
  obtain ⟨l,t3,e3,ht3,hl,hr⟩:=ix ht2 (m+2) (i+1) (by omega) hlt
  rw [e2]
  simp only [Option.bind_some]
  have e3':j9 t2 (w64 (2+(m:Int))) (w64 ((i:Int)+1)) (N:Int)=some (l,t3):=by
   rw [W1 (x:=2+(m:Int)) (by omega) (by omega),hwi,show 2+(m:Int)=((m+2:Nat):Int) by omega]
   exact e3
  rw [e3']
  refine ⟨_,t3,rfl,ht3,b0d (l:=l) (a9G hr) (show l.length<=4 by omega) ?_ (fun _ x hx=>by have:=hr x hx; omega)⟩
  show decide (1<=(l.length:Int))=true
  exact decide_eq_true (by omega)
 rcases hc with rfl | rfl | rfl | rfl | rfl | rfl | rfl | rfl | rfl | rfl | rfl | rfl | rfl | rfl | rfl | rfl | rfl | rfl<;>simp only [Int.reduceBEq,cond_true,cond_false,Option.bind_some,Y1]
 ·obtain ⟨a,t2,e2,ht2,a0,a1⟩:=Y6 hL ht (n:=5) (by omega) (by omega)
  obtain ⟨d,t3,e3,ht3,d0,d1⟩:=Y6 hL ht2 (n:=w64 (5-a)) (by rw [W1 (by omega) (by omega)]; omega) (by rw [W1 (by omega) (by omega)]; omega)
  rw [W1 (x:=5-a) (by omega) (by omega)] at d1
  rw [e2]
  simp only [Option.bind_some]
  rw [e3]
  simp only [Option.bind_some]
  rw [W1 (x:=a+d) (by omega) (by omega)]
  have ha:a=0\/a=1\/a=2\/a=3\/a=4:=by omega
  have hd:d=0\/d=1\/d=2\/d=3\/d=4:=by omega
  rcases ha with rfl | rfl | rfl | rfl | rfl<;>rcases hd with rfl | rfl | rfl | rfl | rfl<;>first | (exfalso; omega) | exact ⟨_,t3,rfl,ht3,c8E (by decide) (by decide)⟩
 ·obtain ⟨x,t2,e2,ht2,hx⟩:=a8f hL ht
  have hf:=List.all_eq_true.1 a9r x hx
  simp only [Bool.and_eq_true,decide_eq_true_eq] at hf
  rw [e2]
  exact ⟨_,t2,rfl,ht2,c0w hf.2 (.inr (.inl ⟨rfl,hf.1⟩))⟩
 ·exact ⟨_,t,rfl,ht,b8B (by omega)⟩
 ·obtain ⟨x,t2,e2,ht2,hx⟩:=b55 hL ht
  have hf:=List.all_eq_true.1 a9p x hx
  simp only [decide_eq_true_eq] at hf
  rw [e2]
  exact ⟨_,t2,rfl,ht2,c0w hf (.inl rfl)⟩
 ·obtain ⟨a,t2,e2,ht2,a0,a1⟩:=Y6 hL ht (n:=4) (by omega) (by omega)
  rw [e2]
  have ha:a=0\/a=1\/a=2\/a=3:=by omega
  rcases ha with rfl | rfl | rfl | rfl<;>exact ⟨_,t2,rfl,ht2,b8B (by omega)⟩
 ·exact ⟨_,t,rfl,ht,b8B (by omega)⟩
 ·obtain ⟨a,t2,e2,ht2,a0,a1⟩:=Y6 hL ht (n:=2) (by omega) (by omega)
  rw [e2]
  have ha:a=0\/a=1:=by omega
  rcases ha with rfl | rfl<;>exact ⟨_,t2,rfl,ht2,b8B (by omega)⟩
 ·obtain ⟨x,t2,e2,ht2,hx⟩:=b7p hL ht
  have hf:=List.all_eq_true.1 c4G x hx
  simp only [Bool.and_eq_true,decide_eq_true_eq] at hf
  rw [e2]
  exact ⟨_,t2,rfl,ht2,c0w hf.2 (.inr (.inr ⟨rfl,hf.1⟩))⟩
 ·exact tup ht
 ·exact tup ht
 ·obtain ⟨l,t3,e3,ht3,hl,hr⟩:=ix ht 2 0 (by omega) (by omega)
  have e3':j9 t 2 0 (N:Int)=some (l,t3):=e3
  rw [e3']
  refine ⟨_,t3,rfl,ht3,b0d (l:=l) (a9G hr) (show l.length<=4 by omega) ?_ (fun h=>by omega)⟩
  show ((l.length:Int)==2)=true
  simp [hl]
 ·obtain ⟨x,t2,e2,ht2,hg⟩:=c2g hL ht N i (by omega) hN2
  rw [e2]
  exact ⟨x,t2,rfl,ht2,hg⟩
 ·exact fun_ ht
 ·exact fun_ ht
 ·have hlt:=hlast (by omega)
  obtain ⟨l,t3,e3,ht3,hl,hr⟩:=ix ht 1 (i+1) (by omega) hlt
  have e3':j9 t 1 (w64 ((i:Int)+1)) (N:Int)=some (l,t3):=by rw [hwi]; exact e3
  rw [e3']
  refine ⟨_,t3,rfl,ht3,b0d (l:=l) (a9G hr) (show l.length<=4 by omega) ?_ (fun _ x hx=>by have:=hr x hx; omega)⟩
  show ((l.length:Int)==1)=true
  simp [hl]
 ·have hlt:=hlast (by omega)
  obtain ⟨l,t3,e3,ht3,hl,hr⟩:=ix ht 2 (i+1) (by omega) hlt
  have e3':j9 t 2 (w64 ((i:Int)+1)) (N:Int)=some (l,t3):=by rw [hwi]; exact e3
  rw [e3']
  refine ⟨_,t3,rfl,ht3,b0d (l:=l) (a9G hr) (show l.length<=4 by omega) ?_ (fun _ x hx=>by have:=hr x hx; omega)⟩
  show decide (1<=(l.length:Int))=true
  exact decide_eq_true (by omega)
 ·exact uni (hlast (by omega)) ht
 ·exact uni (hlast (by omega)) ht
def GNs (N:Nat)(ns:List Api_TypeNode):Prop:=∀ (i:Nat) (x:Api_TypeNode),ns[i]?=some x->GN N i x
theorem GNs.snoc {N:Nat}{ns:List Api_TypeNode}{x:Api_TypeNode}(h:GNs N ns)(hx:GN N ns.length x):GNs N (ns++[x]):=fun i y hy=>by
 by_cases hi:i<ns.length
 ·rw [List.getElem?_append_left hi] at hy
  exact h i y hy
 ·have hlt:=(List.getElem?_eq_some_iff.1 hy).1
  simp only [List.length_append,List.length_cons,List.length_nil] at hlt
  have e:i=ns.length:=by omega
  subst e
  simp at hy
  subst hy
  exact hx
theorem c6G (hL:L.length<=4194304){s:Semtypebase_Source}(h:OS L s)(N:Nat)(hN:1<=N)(hN2:N<=100):∃ ns t,a06 s (N:Int)=some (Api_Type.mk ns 0,t)/\OS L t/\ns.length=N/\GNs N ns:=by
 unfold a06
 have hmax:max (N:Int) 1=(N:Int):=by omega
 rw [hmax,Int.toNat_natCast]
 obtain ⟨g,s',e,hs',h1,h2⟩:=b7F (γ:=List Api_TypeNode) (L:=L) (step:=a0z (N:Int)) (fun g j s=>(j,s,(g,0))) (fun g s=>(s,(g,0))) (fun j g=>g.length=j/\GNs N g) N
  (fun j g s hj hI hs=>by
    obtain ⟨x,t,e,ht,hx⟩:=c6B hL hs N j hj hN2
    refine ⟨g++[x],t,?_,ht,by simp [hI.1],hI.2.snoc (by rw [hI.1]; exact hx)⟩
    unfold a0z
    simp only [Y1,hmax]
    rw [Q1 hj,e]
    simp only [cond_true,Option.bind_some]
    rw [J4 (by simp only [List.length_cons,List.length_nil]; have:=hI.1; omega),w7 j (by omega)]
    rfl) (fun g s=>by
    unfold a0z
    simp [hmax]) N 0 (N+1) [] s (by omega) (Nat.le_refl _) ⟨rfl,fun i x hx=>by simp at hx⟩ h
 have e':y4 (a0z (N:Int)) (N+1) (0,s,([],0))=some (s',(g,0)):=e
 rw [e']
 exact ⟨g,s',rfl,hs',h1,h2⟩
end
end Go.Pl
end
section
namespace Go.Pl
open Go Go.RowKit Go.Sx Go.Qx
theorem c9N {a b:ByteArray}(h:cS a b=0):a=b:=by
 rcases b4I a.data.toList b.data.toList with ⟨_,e,_⟩ | ⟨_,_,e⟩ | ⟨_,e,_⟩
 ·have:cS a b = -1:=e
  omega
 ·exact ByteArray.ext (Array.toList_inj.1 e)
 ·have:cS a b=1:=e
  omega
theorem c9R {a b:Key}(h:cK a b=0):a=b:=by
 obtain ⟨k,t⟩:=a
 obtain ⟨k2,t2⟩:=b
 unfold cK tn at h
 simp only at h
 rcases W9 k k2 with ⟨_,e⟩ | ⟨_,e⟩ | ⟨p,e⟩
 ·rw [e] at h; simp at h
 ·rw [e] at h; simp at h
 ·rw [e,if_pos rfl] at h
  rw [p,c9N h]
theorem c6q (a b c:Key)(h1:cK a b<=0)(h2:cK b c<=0):cK a c<=0:=by rw [c3m] at *; exact c03 _ _ _ h1 h2
theorem c5r {a b c:Key}(h1:cK a b<0)(h2:cK b c<=0):cK a c<0:=by
 have h3:=c6q a b c (by omega) h2
 by_cases h:cK a c=0
 ·have:=c9R h
  subst this
  have:=c2A a b
  omega
 ·omega
abbrev ltK (a b:Key):Prop:=cK a b<0
theorem asc_pw:∀ l:List Key,asc cK l=true↔l.Pairwise ltK
 | []=>by simp [asc]
 | [a]=>by simp [asc]
 | a::b::r=>by
   have ih:=asc_pw (b::r)
   simp only [asc,Bool.and_eq_true,decide_eq_true_eq]
   rw [ih,List.pairwise_cons (a:=a)]
   constructor
   ·intro ⟨h1,h2⟩
    refine ⟨fun x hx=>?_,h2⟩
    rcases List.mem_cons.1 hx with rfl | hx
    ·exact h1
    ·have:=(List.pairwise_cons.1 h2).1 x hx
     exact c5r h1 (by unfold ltK at this; omega)
   ·intro ⟨h1,h2⟩
    exact ⟨h1 b (by simp),h2⟩
end Go.Pl
end
section
namespace Go.Pl
open Go Go.RowKit Go.Sx Go.Qx
structure CmpOk {α:Type}(c:α->α->Int):Prop where
 anti:∀ a b,c b a = - c a b
 trans:∀ a b d,c a b<=0->c b d<=0->c a d<=0
 eq0:∀ a b,c a b=0->a=b
theorem cI0 {x y:Int}(h:cI x y=0):x=y:=by
 rcases W9 x y with ⟨_,e⟩ | ⟨_,e⟩ | ⟨p,_⟩
 ·omega
 ·omega
 ·exact p
section
variable {α:Type}{c:α->α->Int}(hc:CmpOk c)
include hc
theorem CmpOk.self (a:α):c a a=0:=by have:=hc.anti a a; omega
theorem CmpOk.strict {a b d:α}(h1:c a b<0)(h2:c b d<=0):c a d<0:=by
 have h3:=hc.trans a b d (by omega) h2
 by_cases h:c a d=0
 ·have:=hc.eq0 _ _ h
  subst this
  have:=hc.anti a b
  omega
 ·omega
theorem CmpOk.asc_pw:∀ l:List α,asc c l=true↔l.Pairwise fun a b=>c a b<0
 | []=>by simp [asc]
 | [a]=>by simp [asc]
 | a::b::r=>by
   have ih:=CmpOk.asc_pw (b::r)
   simp only [asc,Bool.and_eq_true,decide_eq_true_eq]
   rw [ih,List.pairwise_cons (a:=a)]
   constructor
   ·intro ⟨h1,h2⟩
    refine ⟨fun x hx=>?_,h2⟩
    rcases List.mem_cons.1 hx with rfl | hx
    ·exact h1
    ·have:=(List.pairwise_cons.1 h2).1 x hx
     exact hc.strict h1 (by omega)
   ·intro ⟨h1,h2⟩
    exact ⟨h1 b (by simp),h2⟩
theorem CmpOk.nodup {l:List α}(h:l.Pairwise fun a b=>c a b<0):l.Nodup:=h.imp fun {a b} h e=>by
 subst e
 have:=hc.self a
 omega
theorem CmpOk.uniq {l m:List α}(h1:asc c l=true)(h2:asc c m=true)(h:∀ x,x∈l↔x∈m):l=m:=by
 have p1:=(hc.asc_pw l).1 h1
 have p2:=(hc.asc_pw m).1 h2
 have hp:=(List.perm_ext_iff_of_nodup (hc.nodup p1) (hc.nodup p2)).2 h
 exact hp.eq_of_pairwise (le:=fun a b=>c a b<0) (fun a b _ _ h1 h2=>by have:=hc.anti a b; omega) p1 p2
omit hc in
def a26 (c:α->α->Int)(out:List α)(x:α):List α :=
 match (out.dropWhile (fun y=>decide (c y x<0))).head? with
 | some y=>if c y x=0 then out else X1 (fun y=>decide (c y x<0)) x out
 | none=>X1 (fun y=>decide (c y x<0)) x out
omit hc in
theorem b9Q {p:α->Bool}{x y:α}{out:List α}:y∈X1 p x out↔y=x\/y∈out:=by
 constructor
 ·exact b0X
 ·intro h
  have e:=List.takeWhile_append_dropWhile (p:=p) (l:=out)
  simp only [X1,List.mem_append,List.mem_singleton]
  rcases h with h | h
  ·exact .inl (.inr h)
  ·rw [<- e] at h
   rcases List.mem_append.1 h with h | h
   ·exact .inl (.inl h)
   ·exact .inr h
theorem c6j {x y:α}{out:List α}:y∈a26 c out x↔y=x\/y∈out:=by
 unfold a26
 split
 ·rename_i z hz
  split
  ·rename_i h0
   have:=hc.eq0 _ _ h0
   subst this
   have hm:z∈out:=(List.dropWhile_sublist _).subset (List.mem_of_mem_head? hz)
   constructor
   ·exact .inr
   ·rintro (rfl | h)
    ·exact hm
    ·exact h
  ·exact b9Q
 ·exact b9Q
theorem c6r (out:List α)(x:α)(h:asc c out=true):asc c (a26 c out x)=true:=by
 unfold a26
 split
 ·rename_i y hy
  split
  ·exact h
  ·rename_i hne
   refine a9K c hc.anti x out h (fun z hz=>?_)
   rw [hy] at hz
   cases hz
   exact hne
 ·rename_i hy
  refine a9K c hc.anti x out h (fun z hz=>?_)
  rw [hy] at hz; cases hz
theorem c6U:∀ (xs out:List α),asc c out=true->asc c (xs.foldl (a26 c) out)=true/\∀ y,y∈xs.foldl (a26 c) out↔y∈out\/y∈xs
 | [],out,h=>⟨h,fun y=>by simp⟩
 | x::r,out,h=>by
   obtain ⟨h1,h2⟩:=c6U r (a26 c out x) (c6r hc out x h)
   refine ⟨h1,fun y=>?_⟩
   rw [List.foldl_cons,h2,c6j hc,List.mem_cons]
   constructor
   ·rintro ((h | h) | h)
    ·exact .inr (.inl h)
    ·exact .inl h
    ·exact .inr (.inr h)
   ·rintro (h | h | h)
    ·exact .inl (.inr h)
    ·exact .inl (.inl h)
    ·exact .inr h
theorem d0H (xs:List α):asc c (xs.foldl (a26 c) [])=true/\∀ y,y∈xs.foldl (a26 c) []↔y∈xs:=by
 obtain ⟨h1,h2⟩:=c6U hc xs [] rfl
 exact ⟨h1,fun y=>by rw [h2]; simp⟩
omit hc in
def dd (r:α->α->Bool):α->List α->List α
 | _,[]=>[]
 | p,x::l=>if r x p=true then dd r x l else x::dd r x l
omit hc in
def a7c (r:α->α->Bool):List α->List α
 | []=>[]
 | x::l=>x::dd r x l
theorem c7c:∀ (l:List α) (p:α),(p::l).Pairwise (fun a b=>¬ c b a<0) ->
 (p::dd (fun x y=>decide (c x y=0)) p l).Pairwise (fun a b=>c a b<0)/\∀ y,y∈p::dd (fun x y=>decide (c x y=0)) p l↔y∈p::l
 | [],p,_=>⟨by simp [dd],fun y=>by simp [dd]⟩
 | x::l,p,h=>by
   have hp:=List.pairwise_cons.1 h
   obtain ⟨h1,h2⟩:=c7c l x hp.2
   simp only [dd]
   by_cases h0:c x p=0
   ·rw [if_pos (by simpa using h0)]
    have:=hc.eq0 _ _ h0
    subst this
    refine ⟨h1,fun y=>?_⟩
    rw [h2]
    simp
   ·rw [if_neg (by simpa using h0)]
    have hlt:c p x<0:=by have:=hp.1 x (by simp); have:=hc.anti p x; omega
    refine ⟨List.pairwise_cons.2 ⟨fun b hb=>?_,h1⟩,fun y=>?_⟩
    ·rcases List.mem_cons.1 hb with rfl | hb
     ·exact hlt
     ·exact hc.strict hlt (by have:=(List.pairwise_cons.1 h1).1 b hb; omega)
    ·rw [List.mem_cons,h2,List.mem_cons (b:=p)]
theorem c6e (l:List α)(h:l.Pairwise fun a b=>¬ c b a<0):asc c (a7c (fun x y=>decide (c x y=0)) l)=true/\∀ y,y∈a7c (fun x y=>decide (c x y=0)) l↔y∈l:=by
 cases l with
 | nil=>exact ⟨rfl,fun y=>Iff.rfl⟩
 | cons p l =>
   obtain ⟨h1,h2⟩:=c7c hc l p h
   exact ⟨(hc.asc_pw _).2 h1,h2⟩
theorem c2k {xs p:List α}(hp:p.Perm xs)(hs:p.Pairwise fun a b=>¬ c b a<0):a7c (fun x y=>decide (c x y=0)) p=xs.foldl (a26 c) []:=by
 obtain ⟨h1,h2⟩:=c6e hc p hs
 obtain ⟨h3,h4⟩:=d0H hc xs
 exact hc.uniq h1 h3 fun y=>by rw [h2,h4,hp.mem_iff]
end
section
variable {α:Type}{r:α->α->Bool}
theorem c4e {ok:α->Prop}{step:(Int×Int)×List α->Option (Fl ((Int×Int)×List α) (Int×List α))}(i0 n:Nat)
 (hst:∀ (i k:Nat) (s:List α) (x y:α),ok x->s.length=n->i0+k<n->1<=k->i<i0+k->s[i0+k]?=some x->s[i0+k-1]?=some y ->
   step (((i:Int),(k:Int)),s)=some (.next (if r x y=true then (((i:Int),((k+1:Nat):Int)),s) else ((((i+1:Nat):Int),((k+1:Nat):Int)),s.set i x))))
 (hend:∀ (i:Int) (k:Nat) (s:List α),s.length=n->i0+k=n->step ((i,(k:Int)),s)=some (.done (i,s))) :
 ∀ (m i k:Nat) (s:List α) (y:α) (fuel:Nat),s.length=n->i0+k+m=n->1<=k->i<i0+k->s[i0+k-1]?=some y->m+1<=fuel->(∀ x∈s,ok x) ->
  ∃ s',y4 step fuel (((i:Int),(k:Int)),s)=some (((i+(dd r y (s.drop (i0+k))).length:Nat):Int),s')/\s'.length=n/\s'.take (i+(dd r y (s.drop (i0+k))).length)=s.take i++dd r y (s.drop (i0+k)):=by
 intro m
 induction m with
 | zero =>
   intro i k s y fuel hl hm hk hi hy hf hok
   obtain ⟨fuel,rfl⟩:∃ m,fuel=m+1:=⟨fuel-1,by omega⟩
   have e:s.drop (i0+k)=[]:=List.drop_eq_nil_of_le (by omega)
   rw [e]
   refine ⟨s,?_,hl,?_⟩
   ·simp only [y4,hend (i:Int) k s hl (by omega),Option.bind_some]
    rfl
   ·simp [dd]
 | succ m ih =>
   intro i k s y fuel hl hm hk hi hy hf hok
   obtain ⟨fuel,rfl⟩:∃ m,fuel=m+1:=⟨fuel-1,by omega⟩
   have hlt:i0+k<s.length:=by omega
   have hx:=List.getElem?_eq_getElem hlt
   rw [List.drop_eq_getElem_cons hlt]
   simp only [dd]
   simp only [y4,hst i k s _ y (hok _ (List.getElem_mem hlt)) hl (by omega) hk hi hx hy,Option.bind_some]
   by_cases h:r s[i0+k] y=true
   ·rw [if_pos h,if_pos h]
    have:=ih i (k+1) s s[i0+k] fuel hl (by omega) (by omega) (by omega) (by rw [show i0+(k+1)-1=i0+k by omega]; exact hx) (by omega) hok
    rw [show i0+(k+1)=i0+k+1 by omega] at this
    exact this
   ·rw [if_neg h,if_neg h]
    have hd:(s.set i s[i0+k]).drop (i0+k+1)=s.drop (i0+k+1):=by
     rw [List.drop_set_of_lt (by omega)]
    have:=ih (i+1) (k+1) (s.set i s[i0+k]) s[i0+k] fuel (by rw [List.length_set]; exact hl) (by omega) (by omega) (by omega) (by
     rw [show i0+(k+1)-1=i0+k by omega]
     by_cases e:i=i0+k
     ·omega
     ·rw [List.getElem?_set_ne e]; exact hx) (by omega) (fun z hz=>by
     rcases List.mem_or_eq_of_mem_set hz with hz | rfl
     ·exact hok z hz
     ·exact hok _ (List.getElem_mem hlt))
    rw [show i0+(k+1)=i0+k+1 by omega,hd] at this
    obtain ⟨s',h1,h2,h3⟩:=this
    refine ⟨s',?_,h2,?_⟩
    ·rw [h1,List.length_cons]
     congr 3
     omega
    ·rw [List.length_cons,show i+((dd r s[i0+k] (s.drop (i0+k+1))).length+1)=i+1+(dd r s[i0+k] (s.drop (i0+k+1))).length by omega,h3]
     have e:(s.set i s[i0+k]).take (i+1)=s.take i++[s[i0+k]]:=by
      rw [a5l (x:=s[i0+k]) (by rw [List.getElem?_set_self (by omega)]),List.take_set_of_le (Nat.le_refl _)]
     rw [e,List.append_assoc]
     rfl
theorem c5k {step:(Int×Int)×List α->Option (Fl ((Int×Int)×List α) (Int×List α))}(i0 n:Nat)
 (hst:∀ (i k:Nat) (s:List α) (x y:α),s.length=n->i0+k<n->1<=k->i<i0+k->s[i0+k]?=some x->s[i0+k-1]?=some y ->
   step (((i:Int),(k:Int)),s)=some (.next (if r x y=true then (((i:Int),((k+1:Nat):Int)),s) else ((((i+1:Nat):Int),((k+1:Nat):Int)),s.set i x))))
 (hend:∀ (i:Int) (k:Nat) (s:List α),s.length=n->i0+k=n->step ((i,(k:Int)),s)=some (.done (i,s)))
 (m i k:Nat) (s:List α) (y:α) (fuel:Nat) (h1:s.length=n) (h2:i0+k+m=n) (h3:1<=k) (h4:i<i0+k) (h5:s[i0+k-1]?=some y) (h6:m+1<=fuel) :
   ∃ s',y4 step fuel (((i:Int),(k:Int)),s)=some (((i+(dd r y (s.drop (i0+k))).length:Nat):Int),s')/\s'.length=n/\s'.take (i+(dd r y (s.drop (i0+k))).length)=s.take i++dd r y (s.drop (i0+k)) :=
 c4e (ok:=fun _=>True) i0 n (fun i k s x y _=>hst i k s x y) hend m i k s y fuel h1 h2 h3 h4 h5 h6 (fun _ _=>trivial)
theorem c5e:∀ (l:List α) (p:α),(dd r p l).length<=l.length
 | [],_=>Nat.le_refl _
 | x::l,p=>by
   have:=c5e l x
   simp only [dd]
   split
   ·simp only [List.length_cons]; omega
   ·simp only [List.length_cons]; omega
theorem b1S:∀ (a:List α) (p:α) (l:List α),(∀ (i:Nat) (x y:α),(a++[p])[i+1]?=some x->(a++[p])[i]?=some y->r x y=false)->a7c r (a++p::l)=a++p::dd r p l
 | [],p,l,_=>rfl
 | x::a,p,l,h=>by
   have h2:=b1S a p l (fun i u v h1 h2=>h (i+1) u v (by simpa using h1) (by simpa using h2))
   cases a with
   | nil =>
     have h0:=h 0 p x rfl rfl
     show x::dd r x (p::l)=_
     simp [dd,h0]
   | cons y a =>
     have h0:=h 0 y x rfl rfl
     show x::dd r x (y::(a++p::l))=_
     simp only [dd,h0,Bool.false_eq_true,if_false]
     have h2':y::dd r y (a++p::l)=y::a++p::dd r p l:=h2
     rw [h2']
     rfl
end
end Go.Pl
namespace Go.Pl
open Go Go.RowKit Go.Sx Go.Qx
theorem c6w (x y:ByteArray):V4 x y=decide (cS x y=0):=by
 rcases a6u x y with ⟨_,h,e⟩ | ⟨_,h,e⟩ | ⟨_,h,e⟩<;>simp [h,e]
theorem c6p (x y:ByteArray):a17 x y=decide (cS x y<0):=by
 rcases a6u x y with ⟨h,_,e⟩ | ⟨h,_,e⟩ | ⟨h,_,e⟩<;>simp [h,e]
theorem c2h (l out:List ByteArray)(i:Nat)(x:ByteArray)(hx:l[i]?=some x)(hl:out.length<=4194304)(hi:i<=4194304) :
 a0p l (out,(i:Int))=some (.next (a26 cS out x,((i+1:Nat):Int))):=by
 have hlt:i<l.length:=(List.getElem?_eq_some_iff.1 hx).1
 have hix:idx l (i:Int)=some x:=k7 hx
 unfold a0p
 simp only [J3]
 rw [c05 (step:=a2w l (out,(i:Int))) out (fun y=>decide (cS y x<0)) ?_ ?_]
 ·simp only [a0w,Y1]
  rw [if_pos (by simp; omega)]
  simp only [Option.bind_some,hix]
  have hk:=b2x (fun y=>decide (cS y x<0)) out
  have hat:=c0e (fun y=>decide (cS y x<0)) out
  have go:(Option.bind (cut out 0 ((out.takeWhile (fun y=>decide (cS y x<0))).length:Int)) fun u=>Option.bind (Z4 (0+u.length) 16) fun _ =>
   Option.bind (Z4 (u.length+[x].length) 16) fun _=>Option.bind (cut out ((out.takeWhile (fun y=>decide (cS y x<0))).length:Int) (out.length:Int)) fun w =>
   Option.bind (Z4 ((u++[x]).length+w.length) 16) fun _=>some ((u++[x])++w))=some (X1 (fun y=>decide (cS y x<0)) x out) :=
   c5s out x _ 16 (by omega) hl (fun l=>some l)
  rw [w7 i (by omega),go]
  unfold a26
  cases hh:(out.dropWhile (fun y=>decide (cS y x<0))).head? with
  | none =>
    rw [hh] at hat
    have hge:=List.getElem?_eq_none_iff.1 hat
    rw [if_neg (by simp; omega)]
    rfl
  | some y =>
    rw [hh] at hat
    have hlt2:=(List.getElem?_eq_some_iff.1 hat).1
    rw [if_pos (by simp; omega),k7 hat]
    simp only [Option.bind_some,c6w]
    by_cases h0:cS y x=0
    ·rw [if_pos (by simp [h0]),if_pos h0]
     rfl
    ·rw [if_neg (by simp [h0]),if_neg h0]
     rfl
 ·intro j y hy
  have hj:j<out.length:=(List.getElem?_eq_some_iff.1 hy).1
  unfold a2w
  simp only [a0w,Y1]
  rw [if_pos (by simp; omega),k7 hy,hix]
  simp only [Option.bind_some,c6p,w7 j (by omega)]
  by_cases h:cS y x<0<;>simp [h]
 ·unfold a2w
  simp
theorem c5M {α:Type}(c:α->α->Int)(out:List α)(x:α):(a26 c out x).length<=out.length+1:=by
 unfold a26
 split
 ·split
  ·omega
  ·rw [a5m]; omega
 ·rw [a5m]; omega
theorem b9J (l:List ByteArray)(hl:l.length<=4194304):X2 l=some (l.foldl (a26 cS) []):=by
 unfold X2
 have key:=b5w (σ:=List ByteArray) (step:=a0p l) l (fun s i=>(s,(i:Int))) (a26 cS) (fun i s=>s.length<=i) (fun s=>s)
  ?_ ?_ [] (by simp) _ (Nat.le_refl _)
 ·have e:y4 (a0p l) (l.length+1) (([]:List ByteArray),0)=y4 (a0p l) (l.length+1) (([]:List ByteArray),((0:Nat):Int)):=rfl
  rw [J3,e,key]
  rfl
 ·intro i s x hx hI
  have hi:i<l.length:=(List.getElem?_eq_some_iff.1 hx).1
  refine ⟨c2h l s i x hx (by omega) (by omega),?_⟩
  have:=c5M cS s x
  omega
 ·intro s _
  unfold a0p
  simp
theorem b0b (a b:List ByteArray):Q5 (a++b)=Q5 a+Q5 b:=by
 induction a with
 | nil=>simp [Q5]
 | cons x r ih=>simp only [List.cons_append,Q5,ih]; omega
theorem c4D (out:List ByteArray)(x:ByteArray):Q5 (a26 cS out x)<=Q5 out+a0A x:=by
 have hk:∀ p:ByteArray->Bool,Q5 (X1 p x out)=Q5 out+a0A x:=fun p=>by
  have e:=congrArg Q5 (List.takeWhile_append_dropWhile (p:=p) (l:=out))
  rw [b0b] at e
  simp only [X1,b0b,Q5]
  omega
 unfold a26
 split
 ·split
  ·omega
  ·rw [hk]; omega
 ·rw [hk]; omega
theorem b3J:∀ (l out:List ByteArray),Q5 (l.foldl (a26 cS) out)<=Q5 out+Q5 l
 | [],out=>by simp [Q5]
 | x::r,out=>by
   have h1:=b3J r (a26 cS out x)
   have h2:=c4D out x
   simp only [List.foldl_cons,Q5]
   omega
section
variable {α:Type}{r:α->α->Bool}
theorem c4F {step:List α×Int->Option (Fl (List α×Int) (Sum (List α) (List α)))}(s:List α)(hl:1<=s.length)
 (hst:∀ (i:Nat) (x y:α),1<=i->s[i]?=some x->s[i-1]?=some y->r x y=false->step (s,(i:Int))=some (.next (s,((i+1:Nat):Int))))
 (hhit:∀ (i:Nat) (x y:α),1<=i->s[i]?=some x->s[i-1]?=some y->r x y=true->∃ q:List α,step (s,(i:Int))=some (.done (.inr (s.take i++dd r x (s.drop (i+1))))))
 (hend:step (s,(s.length:Int))=some (.done (.inl s))) :
 (y4 step (s.length+1) (s,1)=some (.inl s)/\a7c r s=s)\/∃ q:List α,y4 step (s.length+1) (s,1)=some (.inr (a7c r s)):=by
 have key:∀ (m i fuel:Nat),i+m=s.length->1<=i->m+1<=fuel->(∀ j:Nat,(hj:j+1<s.length)->j+1<i->r s[j+1] (s[j]'(by omega))=false) ->
  (y4 step fuel (s,(i:Int))=some (.inl s)/\a7c r s=s)\/∃ q:List α,y4 step fuel (s,(i:Int))=some (.inr (a7c r s)):=by
  intro m
  induction m with
  | zero =>
    intro i fuel hm hi hf hok
    obtain ⟨fuel,rfl⟩:∃ m,fuel=m+1:=⟨fuel-1,by omega⟩
    have e:i=s.length:=by omega
    subst e
    left
    refine ⟨by simp only [y4,hend,Option.bind_some],?_⟩
    have h1:s.length-1<s.length:=by omega
    have hs:s=s.take (s.length-1)++s[s.length-1]::[]:=by
     have:=a5l (List.getElem?_eq_getElem h1)
     rw [show s.length-1+1=s.length by omega,List.take_length] at this
     exact this
    have hc:=b1S (r:=r) (s.take (s.length-1)) s[s.length-1] [] (by
     rw [<- hs]
     intro j x y h1 h2
     have hj:=(List.getElem?_eq_some_iff.1 h1).1
     rw [List.getElem?_eq_getElem hj] at h1
     rw [List.getElem?_eq_getElem (by omega)] at h2
     cases h1; cases h2
     exact hok j hj (by omega))
    rw [<- hs] at hc
    rw [hc]
    exact hs.symm
  | succ m ih =>
    intro i fuel hm hi hf hok
    obtain ⟨fuel,rfl⟩:∃ m,fuel=m+1:=⟨fuel-1,by omega⟩
    have hlt:i<s.length:=by omega
    have hlt2:i-1<s.length:=by omega
    have hx:=List.getElem?_eq_getElem hlt
    have hy:=List.getElem?_eq_getElem hlt2
    by_cases h:r s[i] s[i-1]=true
    ·right
     obtain ⟨q,hq⟩:=hhit i _ _ hi hx hy h
     refine ⟨q,?_⟩
     simp only [y4,hq,Option.bind_some]
     have hs:s=s.take (i-1)++s[i-1]::s[i]::s.drop (i+1):=by
      have e1:=List.take_append_drop (i-1) s
      have e2:=List.drop_eq_getElem_cons hlt2
      have e3:=List.drop_eq_getElem_cons hlt
      rw [show i-1+1=i by omega,e3] at e2
      rw [<- e2]
      exact e1.symm
     have hc:=b1S (r:=r) (s.take (i-1)) s[i-1] (s[i]::s.drop (i+1)) (by
      have e:s.take (i-1)++[s[i-1]]=s.take i:=by
       have:=a5l hy
       rw [show i-1+1=i by omega] at this
       exact this.symm
      rw [e]
      intro j x y h1 h2
      have hj:=(List.getElem?_eq_some_iff.1 h1).1
      have hj':j+1<i:=by rw [List.length_take] at hj; omega
      rw [List.getElem?_take_of_lt hj',List.getElem?_eq_getElem (by omega)] at h1
      rw [List.getElem?_take_of_lt (by omega),List.getElem?_eq_getElem (by omega)] at h2
      cases h1; cases h2
      exact hok j (by omega) hj')
     rw [<- hs] at hc
     rw [hc]
     have e:s.take i=s.take (i-1)++[s[i-1]]:=by
      have:=a5l hy
      rw [show i-1+1=i by omega] at this
      exact this
     rw [e,List.append_assoc]
     simp only [dd,h,if_true]
     rfl
    ·have h':r s[i] s[i-1]=false:=by simpa using h
     simp only [y4,hst i _ _ hi hx hy h',Option.bind_some]
     refine ih (i+1) fuel (by omega) (by omega) (by omega) (fun j hj hji=>?_)
     by_cases e:j+1<i
     ·exact hok j hj e
     ·have:j+1=i:=by omega
      subst this
      exact h'
 exact key (s.length-1) 1 (s.length+1) (by omega) (Nat.le_refl _) (by omega) (fun j _ h=>by omega)
theorem c77 {β γ:Type}(z:α)(j n:Nat)(s' T:List α)(hl:s'.length=n)(hj:j<n)(ht:s'.take j=T) :
 ∃ q:List α,(Option.bind (idx s' (j:Int)) fun _=>bif Nat.blt (j:Int).toNat s'.length then (Option.bind (cut (s'.take (j:Int).toNat++List.replicate (s'.length-(j:Int).toNat) z) 0 (j:Int)) fun y =>
  some (Fl.done (Sum.inr y):Fl β (Sum γ (List α)))) else none)=some (.done (.inr T)):=by
 refine ⟨s'.take j++List.replicate (s'.length-j) z,?_⟩
 have e:(j:Int).toNat=j:=by omega
 rw [k7 (List.getElem?_eq_getElem (show j<s'.length by omega)),e]
 simp only [Option.bind_some]
 have eb:Nat.blt j s'.length=true:=by simp [Nat.blt]; omega
 rw [eb,b8m _ (by simp; omega)]
 simp only [cond_true,Option.bind_some]
 rw [List.take_append_of_le_length (by simp; omega),List.take_take,Nat.min_self,ht]
end
theorem b6P (n:Nat)(h:n<=4611686018427387904)(h1:1<=n):w64 ((n:Int)-1)=((n-1:Nat):Int):=by rw [W1 (by omega) (by omega)]; omega
end Go.Pl
end
section
namespace Go.Pl
open Go Go.RowKit Go.Sx Go.Qx
section
variable {L:List Int}{t:Api_Type}{N b:Nat}{h:Nat}{rN:Semtypebase_Source->Api_Type->Int->Int->Option (Val×Semtypebase_Source)}
def a6q (L:List Int)(t:Api_Type)(N b h:Nat)(rN:Semtypebase_Source->Api_Type->Int->Int->Option (Val×Semtypebase_Source)):Prop :=
 ∀ (k:Nat) (s:Semtypebase_Source),k<N->OS L s->∃ v u,rN s t (k:Int) (h:Int)=some (v,u)/\OS L u/\vOK v=true/\Z5 v<=b
theorem b42 {N:Nat}{x:Api_TypeNode}(hx:W7 N x=true){j:Nat}(hj:j<x.Kids.length):∃ k:Nat,idx x.Kids (j:Int)=some (k:Int)/\x.Kids[j]?=some (k:Int)/\k<N:=by
 have e:=List.getElem?_eq_getElem hj
 obtain ⟨k,hk,hk2⟩:=a1X (a3R hx _ (List.getElem_mem hj))
 rw [hk] at e
 exact ⟨k,k7 e,e,hk2⟩
theorem b7R (hd:a6q L t N b h rN){x:Api_TypeNode}(hx:W7 N x=true)(hl:x.Kids.length<=4)(hh:h<=10){s:Semtypebase_Source}(hs:OS L s) :
 ∃ g u,y4 (a0y t ((h:Int)+1) x rN) (x.Kids.length+1) (0,s,(0,0,(⟨#[]⟩:ByteArray),[],[],[],[]))=some (u,(0,0,(⟨#[]⟩:ByteArray),g,[],[],[]))/\OS L u/\g.length=x.Kids.length/\v7 g<=x.Kids.length*b:=by
 have hw:w64 ((h:Int)+1-1)=(h:Int):=by rw [W1 (by omega) (by omega)]; omega
 obtain ⟨g,u,e,hu,h1,h2⟩:=b7F (γ:=List Val) (L:=L) (step:=a0y t ((h:Int)+1) x rN) (fun g j s=>(j,s,(0,0,(⟨#[]⟩:ByteArray),g,[],[],[]))) (fun g s=>(s,(0,0,(⟨#[]⟩:ByteArray),g,[],[],[]))) (fun j g=>g.length=j/\v7 g<=j*b) x.Kids.length
  (fun j g s hj hI hs=>by
    obtain ⟨k,e1,_,e2⟩:=b42 hx hj
    obtain ⟨v,u,e3,hu,_,hb⟩:=hd k s e2 hs
    refine ⟨g++[v],u,?_,hu,by simp [hI.1],by rw [a2V,Nat.add_mul]; simp only [v7]; have:=hI.2; omega⟩
    unfold a0y
    simp only [Y1,hw]
    rw [Q1 hj,e1]
    simp only [cond_true,Option.bind_some]
    rw [e3]
    simp only [Option.bind_some]
    rw [J4 (by simp only [List.length_cons,List.length_nil]; have:=hI.1; omega),w7 j (by omega)]
    rfl) (fun g s=>by
    unfold a0y
    simp) x.Kids.length 0 (x.Kids.length+1) [] s (by omega) (Nat.le_refl _) ⟨rfl,by simp [v7]⟩ hs
 exact ⟨g,u,e,hu,h1,h2⟩
theorem c45 (hd:a6q L t N b h rN){x:Api_TypeNode}(hx:W7 N x=true)(hl:x.Kids.length<=4)(h1l:1<=x.Kids.length)(hh:h<=10){s:Semtypebase_Source}(hs:OS L s) :
 ∃ g u,y4 (J5 t x ((h:Int)+1) rN) ((w64 ((x.Kids.length:Int)-1)).toNat+1) (0,s,([],false,0,0,(⟨#[]⟩:ByteArray),[],[],[],[]))=some (u,(g,false,0,0,(⟨#[]⟩:ByteArray),[],[],[],[]))/\OS L u/\g.length=x.Kids.length-1/\a1G g=true/\v7 g<=3*b:=by
 have hw:w64 ((h:Int)+1-1)=(h:Int):=by rw [W1 (by omega) (by omega)]; omega
 have hw2:w64 ((x.Kids.length:Int)-1)=((x.Kids.length-1:Nat):Int):=by rw [W1 (by omega) (by omega)]; omega
 rw [hw2,Int.toNat_natCast]
 obtain ⟨g,u,e,hu,h1,h2,h3⟩:=b7F (γ:=List Val) (L:=L) (step:=J5 t x ((h:Int)+1) rN) (fun g j s=>(j,s,(g,false,0,0,(⟨#[]⟩:ByteArray),[],[],[],[]))) (fun g s=>(s,(g,false,0,0,(⟨#[]⟩:ByteArray),[],[],[],[]))) (fun j g=>g.length=j/\a1G g=true/\v7 g<=j*b) (x.Kids.length-1)
  (fun j g s hj hI hs=>by
    obtain ⟨k,e1,_,e2⟩:=b42 hx (show j<x.Kids.length by omega)
    obtain ⟨v,u,e3,hu,ho,hb⟩:=hd k s e2 hs
    refine ⟨g++[v],u,?_,hu,by simp [hI.1],by rw [b3y,hI.2.1]; simp [a1G,ho],by rw [a2V,Nat.add_mul]; simp only [v7]; have:=hI.2.2; omega⟩
    unfold J5
    simp only [Y1,hw,hw2]
    rw [Q1 hj,e1]
    simp only [cond_true,Option.bind_some]
    rw [e3]
    simp only [Option.bind_some]
    rw [J4 (by simp only [List.length_cons,List.length_nil]; have:=hI.1; omega),w7 j (by omega)]
    rfl) (fun g s=>by
    unfold J5
    simp [Y1,hw2]) (x.Kids.length-1) 0 (x.Kids.length-1+1) [] s (by omega) (Nat.le_refl _) ⟨rfl,rfl,by simp [v7]⟩ hs
 have e':y4 (J5 t x ((h:Int)+1) rN) (x.Kids.length-1+1) (0,s,([],false,0,0,(⟨#[]⟩:ByteArray),[],[],[],[]))=some (u,(g,false,0,0,(⟨#[]⟩:ByteArray),[],[],[],[])):=e
 refine ⟨g,u,e',hu,h1,h2,Nat.le_trans h3 (Nat.mul_le_mul_right _ (by omega))⟩
theorem c4R (hL:L.length<=4194304)(hd:a6q L t N b h rN)(hb:8<=b){x:Api_TypeNode}(hx:W7 N x=true)(hl:x.Kids.length<=4)(h1l:1<=x.Kids.length)(hh:h<=10)(m:Nat)(hm:m<=2){s:Semtypebase_Source}(hs:OS L s) :
 ∃ es u,y4 (V6 t x ((h:Int)+1) rN) ((m:Int).toNat+2) ([],(m:Int),s)=some (es,u)/\OS L u/\w9 es<=m*(4*b+3):=by
 have hw:w64 ((h:Int)+1-1)=(h:Int):=by rw [W1 (by omega) (by omega)]; omega
 have hw2:w64 ((x.Kids.length:Int)-1)=((x.Kids.length-1:Nat):Int):=by rw [W1 (by omega) (by omega)]; omega
 obtain ⟨g,u,e,hu,h1,h2⟩:=a79 (γ:=List Ent) (L:=L) (step:=V6 t x ((h:Int)+1) rN) (fun g n s=>(g,n,s)) (fun g s=>(g,s)) (fun j g=>g.length=j/\w9 g<=j*(4*b+3)) m
  (fun j n g s hj hn hI hs=>by
    obtain ⟨ag,u1,e1,hu1,ha1,_,ha2⟩:=c45 hd hx hl h1l hh hs
    obtain ⟨z,u2,e2,hu2,_,_⟩:=Y6 hL hu1 (n:=6) (by omega) (by omega)
    obtain ⟨k,e3,_,e4⟩:=b42 hx (show x.Kids.length-1<x.Kids.length by omega)
    have fin:∀ (fl:Bool) (v:Val) (u3:Semtypebase_Source),OS L u3->Z5 v<=b->∃ g' s',(Option.bind (Z4 (g.length+([Ent.mk ag fl v]:List Ent).length) 160) fun _=>(some (Fl.next (g++([Ent.mk ag fl v]:List Ent),w64 (((n+1:Nat):Int)-1),u3)):Option (Fl (List Ent×Int×Semtypebase_Source) (List Ent×Semtypebase_Source))))=some (.next (g',(n:Int),s'))/\OS L s'/\(g'.length=j+1/\w9 g'<=(j+1)*(4*b+3)):=fun fl v u3 hu3 hv=>by
     rw [J4 (by simp only [List.length_cons,List.length_nil]; have:=hI.1; omega),show w64 (((n+1:Nat):Int)-1)=(n:Int) by rw [W1 (by omega) (by omega)]; omega]
     refine ⟨_,u3,rfl,hu3,by simp [hI.1],?_⟩
     have hbe:=a3i (Ent.mk ag fl v)
     simp only [Ent.Args,Ent.Result] at hbe
     rw [a9u,Nat.add_mul]
     simp only [w9,hbe]
     have:=hI.2
     omega
    unfold V6
    simp only [Y1,hw,hw2]
    rw [show decide (0<((n+1:Nat):Int))=true from decide_eq_true (by omega)]
    rw [hw2] at e1
    rw [e1]
    simp only [cond_true,Option.bind_some]
    rw [e2]
    simp only [Option.bind_some]
    cases hz:z==1
    ·simp only [cond_false]
     obtain ⟨v,u3,e5,hu3,_,hv⟩:=hd k u2 e4 hu2
     rw [e3]
     simp only [Option.bind_some]
     rw [e5]
     simp only [Option.bind_some]
     have:=fin false v u3 hu3 hv
     cases v
     exact this
    ·simp only [cond_true,Option.bind_some]
     exact fin true a5F u2 hu2 (by rw [a5F,K8]; simp only [a2i,v7,k8,w9]; omega)) (fun g s=>by
    unfold V6
    rfl) m 0 ((m:Int).toNat+2) [] s (by omega) (by omega) ⟨rfl,by simp [w9]⟩ hs
 exact ⟨g,u,e,hu,by simpa using h2⟩
theorem c13 (hL:L.length<=4194304)(hd:a6q L t N b h rN){x:Api_TypeNode}(hf:∀ f∈x.Fields,inR N f.Node=true)(hk:∀ f∈x.Fields,a2y f.Key_<=8)(hl:x.Fields.length<=3)(hh:h<=10){s:Semtypebase_Source}(hs:OS L s) :
 ∃ ks vs u,y4 (a0c t x ((h:Int)+1) rN) (x.Fields.length+1) ([],[],0,s)=some (ks,vs,u)/\OS L u/\ks.length<=3/\vs.length<=3/\k8 ks<=24/\v7 vs<=3*b:=by
 have hw:w64 ((h:Int)+1-1)=(h:Int):=by rw [W1 (by omega) (by omega)]; omega
 obtain ⟨g,u,e,hu,h1,h2,h3,h4⟩:=b7F (γ:=List Key×List Val) (L:=L) (step:=a0c t x ((h:Int)+1) rN) (fun g j s=>(g.1,g.2,j,s)) (fun g s=>(g.1,g.2,s)) (fun j g=>g.1.length<=j/\g.2.length<=j/\k8 g.1<=j*8/\v7 g.2<=j*b) x.Fields.length
  (fun j g s hj hI hs=>by
    have ex:=List.getElem?_eq_getElem hj
    have hm:=List.getElem_mem hj
    generalize x.Fields[j]=f at ex hm
    obtain ⟨k,e1,e2⟩:=a1X (hf f hm)
    have hkb:=hk f hm
    have skip:∀ u,OS L u->∃ (g':List Key×List Val) (s':Semtypebase_Source),(some (Fl.next (g.1,g.2,w64 ((j:Int)+1),u)):Option (Fl (List Key×List Val×Int×Semtypebase_Source) (List Key×List Val×Semtypebase_Source)))=some (.next (g'.1,g'.2,((j+1:Nat):Int),s'))/\OS L s'/\(g'.1.length<=j+1/\g'.2.length<=j+1/\k8 g'.1<=(j+1)*8/\v7 g'.2<=(j+1)*b):=fun u hu=>by
     rw [w7 j (by omega)]
     exact ⟨(g.1,g.2),u,rfl,hu,Nat.le_succ_of_le hI.1,Nat.le_succ_of_le hI.2.1,Nat.le_trans hI.2.2.1 (Nat.mul_le_mul_right _ (Nat.le_succ _)),Nat.le_trans hI.2.2.2 (Nat.mul_le_mul_right _ (Nat.le_succ _))⟩
    have take:∀ u,OS L u->∃ (g':List Key×List Val) (s':Semtypebase_Source),(Option.bind (Option.bind (Z4 (g.1.length+([f.Key_]:List Key).length) 24) fun _=>Option.bind (rN u t f.Node (h:Int)) fun r8=>Option.bind (Z4 (g.2.length+([r8.1]:List Val).length) 128) fun _=>some (g.1++([f.Key_]:List Key),g.2++([r8.1]:List Val),r8.2)) fun b10 =>
     (some (Fl.next (b10.1,b10.2.1,w64 ((j:Int)+1),b10.2.2)):Option (Fl (List Key×List Val×Int×Semtypebase_Source) (List Key×List Val×Semtypebase_Source))))=some (.next (g'.1,g'.2,((j+1:Nat):Int),s'))/\OS L s'/\(g'.1.length<=j+1/\g'.2.length<=j+1/\k8 g'.1<=(j+1)*8/\v7 g'.2<=(j+1)*b):=fun u hu=>by
     obtain ⟨v,u2,e3,hu2,_,hv⟩:=hd k u e2 hu
     rw [J4 (by simp only [List.length_cons,List.length_nil]; have:=hI.1; omega),e1,e3]
     simp only [Option.bind_some]
     rw [J4 (by simp only [List.length_cons,List.length_nil]; have:=hI.2.1; omega),w7 j (by omega)]
     refine ⟨(g.1++[f.Key_],g.2++[v]),u2,rfl,hu2,?_,?_,?_,?_⟩
     ·simp only [List.length_append,List.length_cons,List.length_nil]; have:=hI.1; omega
     ·simp only [List.length_append,List.length_cons,List.length_nil]; have:=hI.2.1; omega
     ·rw [a5o]; simp only [k8]; have:=hI.2.2.1; omega
     ·rw [a2V,Nat.add_mul]; simp only [v7]; have:=hI.2.2.2; omega
    unfold a0c
    simp only [Y1,hw]
    rw [Q1 hj,k7 ex]
    simp only [cond_true,Option.bind_some]
    cases hO:f.Optional
    ·simp only [cond_false,Option.bind_some]
     exact take s hs
    ·simp only [cond_true]
     obtain ⟨z,u,e4,hu,_,_⟩:=Y6 hL hs (n:=2) (by omega) (by omega)
     rw [e4]
     simp only [Option.bind_some]
     cases hz:z==1
     ·simp only [cond_false]
      exact take u hu
     ·simp only [cond_true,Option.bind_some]
      exact skip u hu) (fun g s=>by
    unfold a0c
    simp) x.Fields.length 0 (x.Fields.length+1) ([],[]) s (by omega) (Nat.le_refl _) ⟨Nat.le_refl _,Nat.le_refl _,by simp [k8],by simp [v7]⟩ hs
 refine ⟨g.1,g.2,u,e,hu,by omega,by omega,by omega,Nat.le_trans h4 (Nat.mul_le_mul_right _ hl)⟩
end
end Go.Pl
namespace Go.Pl
open Go Go.RowKit Go.Sx Go.Qx
structure GT (t:Api_Type):Prop where
 len:t.Nodes.length<=10
 nodes:GNs t.Nodes.length t.Nodes
def DB:Nat->Nat
 | 0=>300
 | h+1=>700+8*DB h
theorem c3Z {h:Nat}(hh:h<=4):DB h<=1638300:=by
 match h,hh with
 | 0,_=>decide
 | 1,_=>decide
 | 2,_=>decide
 | 3,_=>decide
 | 4,_=>decide
theorem c9m {h:Nat}(hh:h<=3):DB h<=204700:=by
 match h,hh with
 | 0,_=>decide
 | 1,_=>decide
 | 2,_=>decide
 | 3,_=>decide
theorem c4Z (h:Nat):300<=DB h:=by cases h<;>simp [DB]; omega
theorem c0x (x:Val):∀ (l:List Val) (i:Nat),v7 (l.set i x)<=v7 l+Z5 x
 | [],_=>by simp [v7]
 | y::r,0=>by simp only [List.set_cons_zero,v7]; omega
 | y::r,i+1=>by have:=c0x x r i; simp only [List.set_cons_succ,v7]; omega
theorem c5N (k n:Int)(s:ByteArray)(a:List Val)(b:List Key)(c:List Ent)(l m:List ByteArray)(q:Nat)(h:Q5 m<=Q5 l+q):Z5 (Val.mk k n s a b c m)<=Z5 (Val.mk k n s a b c l)+q:=by
 simp only [Z5]; omega
theorem c17 {t:Api_Type}(hT:GT t){i:Nat}{x:Api_TypeNode}(hx:t.Nodes[i]?=some x)(v:Val)(hv:Z5 v<=2000000):∃ w,y4 (V2 t x) (x.Kids.length+1) (0,v)=some w/\Z5 w<=Z5 v+x.Kids.length*6:=by
 have hg:=hT.nodes i x hx
 have key:∀ (m a k:Nat) (w:Val),a+m=x.Kids.length->m+1<=k->Z5 w<=Z5 v+a*6->∃ w',y4 (V2 t x) k ((a:Int),w)=some w'/\Z5 w'<=Z5 v+x.Kids.length*6:=by
  intro m
  induction m with
  | zero =>
    intro a k w h1 h2 h3
    obtain ⟨k,rfl⟩:∃ m,k=m+1:=⟨k-1,by omega⟩
    have e:a=x.Kids.length:=by omega
    subst e
    have:V2 t x ((x.Kids.length:Int),w)=some (.done w):=by
     unfold V2
     simp
    exact ⟨w,by simp only [y4,this,Option.bind_some],h3⟩
  | succ m ih =>
    intro a k w h1 h2 h3
    obtain ⟨k,rfl⟩:∃ m,k=m+1:=⟨k-1,by omega⟩
    have ha:a<x.Kids.length:=by omega
    have hk4:=hg.kids
    obtain ⟨j,e1,_,hj⟩:=b42 hg.ok ha
    have e2:=List.getElem?_eq_getElem hj
    generalize t.Nodes[j]=y at e2
    have hy:=(hT.nodes j y e2).text
    have step:∃ w',V2 t x ((a:Int),w)=some (.next (((a+1:Nat):Int),w'))/\Z5 w'<=Z5 w+6:=by
     unfold V2
     simp only [Y1]
     rw [Q1 ha,e1]
     simp only [cond_true,Option.bind_some]
     rw [k7 e2]
     simp only [Option.bind_some]
     rw [w7 a (by omega)]
     cases hc:y.Kind==19
     ·simp only [cond_false,Option.bind_some]
      exact ⟨w,rfl,by omega⟩
     ·simp only [cond_true]
      obtain ⟨kk,n,s,kids,keys,ents,labs⟩:=w
      simp only [Val.Labels,Val.Kind,Val.Int_,Val.Text,Val.Kids,Val.Keys,Val.Entries]
      have hlab:labs.length<=Z5 (Val.mk kk n s kids keys ents labs):=by
       have:=a6M labs
       simp only [Z5]; omega
      rw [J4 (by omega),J4 (by simp only [List.length_cons,List.length_nil]; omega)]
      simp only [Option.bind_some]
      rw [b9J (labs++[y.Text]) (by simp only [List.length_append,List.length_cons,List.length_nil]; omega)]
      refine ⟨_,rfl,c5N _ _ _ _ _ _ _ _ 6 ?_⟩
      have h4:=b3J (labs++[y.Text]) []
      rw [b0b] at h4
      simp only [Q5,a0A] at h4
      omega
    obtain ⟨w',e3,h5⟩:=step
    simp only [y4,e3,Option.bind_some]
    exact ih (a+1) k w' (by omega) (by omega) (by omega)
 exact key x.Kids.length 0 (x.Kids.length+1) v (by omega) (Nat.le_refl _) (by omega)
theorem c4Y {ks:List Key}{vs:List Val}{u:List Val×List Key}(h:a4F (ks.zip vs) ([],[])=some u):Z5 (b1n u)<=8+k8 ks+v7 vs:=by
 obtain ⟨_,_,_,_,_,m⟩:=b0k (ks.zip vs) ([],[]) u h rfl rfl
 have hz:=b5p ks vs
 simp only [v7,k8] at m
 simp only [b1n,K8,a2i,w9]
 omega
section
variable {L:List Int}{t:Api_Type}
theorem c6h (hL:L.length<=4194304){b h:Nat}{rN}(hd:a6q L t t.Nodes.length b h rN)(hb:8<=b)(hb2:b<=300000)(hh:h<=10){i:Nat}{x:Api_TypeNode}(hg:GN t.Nodes.length i x)(hk:x.Kind=13){s:Semtypebase_Source}(hs:OS L s)(f:Nat)(r1:Semtypebase_Source->Api_Type->Int->Int->Option (Val×Semtypebase_Source))(r2 r3:Semtypebase_Source->Api_Type->Api_TypeNode->Int->Option (Val×Semtypebase_Source)) :
 ∃ v u,a2f f rN r1 r2 r3 s t x ((h:Int)+1)=some (v,u)/\OS L u/\Z5 v<=100+4*b:=by
 have hw:w64 ((h:Int)+1-1)=(h:Int):=by rw [W1 (by omega) (by omega)]; omega
 have hn:=hg.ok
 unfold W7 a3Z a5H at hn
 simp only [hk] at hn
 simp only [Bool.and_eq_true] at hn
 have hn2:=hn.2.2.2.2
 simp at hn2
 obtain ⟨⟨_,_,hfn⟩,_,hr0,hr1⟩:=hn2
 obtain ⟨ks,vs,u,e,hu,l1,l2,b1,b2⟩:=c13 hL hd hfn hg.keys hg.flds hh hs
 obtain ⟨k0,hk0,hk0'⟩:=a1X hr0
 obtain ⟨k1,hk1,hk1'⟩:=a1X hr1
 unfold a2f
 rw [J3,e]
 simp only [Option.bind_some]
 obtain ⟨z,u2,e2,hu2,_,_⟩:=Y6 hL hu (n:=2) (by omega) (by omega)
 rw [e2]
 simp only [Option.bind_some,Y1,hw]
 have fin:∀ (ks:List Key) (vs:List Val) (u3:Semtypebase_Source),ks.length<=4->OS L u3->k8 ks<=40->v7 vs<=4*b->∃ v u,(Option.bind (a1I ks vs) fun r20=>bif r20.2 != 0 then (Option.bind (W3) fun r21=>some (r21,u3)) else (some (r20.1,u3)))=some (v,u)/\OS L u/\Z5 v<=100+4*b:=fun ks vs u3 q1 hu3 q2 q3=>by
  rw [b8d ks vs (by omega)]
  have nilb:Z5 (Val.mk 5 0 (⟨#[]⟩:ByteArray) ([]:List Val) ([]:List Key) ([]:List Ent) ([]:List ByteArray))<=100+4*b:=by
   rw [K8]; simp only [a2i,v7,k8,w9]; omega
  by_cases hc:ks.length=vs.length/\ks.all a0f=true
  ·rw [if_pos hc]
   cases hm:a4F (ks.zip vs) ([],[]) with
   | none=>exact ⟨_,u3,rfl,hu3,nilb⟩
   | some t =>
     have:=c4Y hm
     exact ⟨b1n t,u3,rfl,hu3,by omega⟩
  ·rw [if_neg hc]
   exact ⟨_,u3,rfl,hu3,nilb⟩
 have other:∀ (z:Int) (kk:Nat) (u4:Semtypebase_Source),kk<t.Nodes.length->OS L u4->∃ v u,(Option.bind (Option.bind (rN u4 t (kk:Int) (h:Int)) fun r15=>Option.bind (Z4 (vs.length+([r15.1]:List Val).length) 128) fun _=>some (ks++([Key.mk z (⟨#[111,116,104,101,114]⟩:ByteArray)]:List Key),vs++([r15.1]:List Val),r15.2)) fun b19 =>
  Option.bind (a1I b19.1 b19.2.1) fun r20=>bif r20.2 != 0 then (Option.bind (W3) fun r21=>some (r21,b19.2.2)) else (some (r20.1,b19.2.2)))=some (v,u)/\OS L u/\Z5 v<=100+4*b:=fun z kk u4 hkk hu4=>by
  obtain ⟨v,u5,e5,hu5,_,hv⟩:=hd kk u4 hkk hu4
  rw [e5]
  simp only [Option.bind_some]
  rw [J4 (by simp only [List.length_cons,List.length_nil]; omega)]
  simp only [Option.bind_some]
  refine fin _ _ u5 (by simp only [List.length_append,List.length_cons,List.length_nil]; omega) hu5 ?_ ?_
  ·rw [a5o]
   have:k8 ([Key.mk z (⟨#[111,116,104,101,114]⟩:ByteArray)]:List Key)<=10:=by
    simp only [k8,a2y,a0A]
    decide
   omega
  ·rw [a2V]; simp only [v7]; omega
 cases hz:z==1
 ·simp only [cond_false,Option.bind_some]
  exact fin ks vs u2 (by omega) hu2 (by omega) (by omega)
 ·simp only [cond_true]
  obtain ⟨y,u3,e3,hu3,y0,y1⟩:=Y6 hL hu2 (n:=2) (by omega) (by omega)
  rw [e3]
  simp only [Option.bind_some]
  rw [J4 (by simp only [List.length_cons,List.length_nil]; omega)]
  simp only [Option.bind_some]
  have hy:y=0\/y=1:=by omega
  rcases hy with rfl | rfl
  ·simp only [Int.reduceBEq,cond_true]
   rw [hk0]
   exact other 0 k0 u3 hk0' hu3
  ·simp only [Int.reduceBEq,cond_true,cond_false]
   rw [hk1]
   exact other 1 k1 u3 hk1' hu3
theorem c5H (hL:L.length<=4194304){b h:Nat}{rN}(hd:a6q L t t.Nodes.length b h rN)(hb:8<=b)(hb2:b<=300000)(hh:h<=10){i:Nat}{x:Api_TypeNode}(hg:GN t.Nodes.length i x)(hk:x.Kind=14){s:Semtypebase_Source}(hs:OS L s)(f:Nat)(hf:9000000<=f)(r1:Semtypebase_Source->Api_Type->Int->Int->Option (Val×Semtypebase_Source))(r2 r3:Semtypebase_Source->Api_Type->Api_TypeNode->Int->Option (Val×Semtypebase_Source)) :
 ∃ v u,a1g f rN r1 r2 r3 s t x ((h:Int)+1)=some (v,u)/\OS L u/\Z5 v<=100+8*b:=by
 have hn:=hg.ok
 unfold W7 a3Z at hn
 simp only [hk] at hn
 simp only [Bool.and_eq_true] at hn
 have hn2:=hn.2.2.2.2
 simp at hn2
 have hk4:=hg.kids
 have h1l:1<=x.Kids.length:=by omega
 obtain ⟨m,u,e,hu,m0,m1⟩:=Y6 hL hs (n:=3) (by omega) (by omega)
 obtain ⟨m,rfl⟩:=a9R m0
 obtain ⟨es,u2,e2,hu2,hbe⟩:=c4R hL hd hb hg.ok hk4 h1l hh m (by omega) hu
 unfold a1g
 rw [e]
 simp only [Option.bind_some]
 rw [e2]
 simp only [Option.bind_some]
 have hbe2:w9 es<=2*(4*b+3):=Nat.le_trans hbe (Nat.mul_le_mul_right _ (by omega))
 rw [b0T f _ es (by omega) (by omega)]
 have hfb:=a7I es []
 simp only [w9] at hfb
 by_cases hc:0<=(wr .i64 ((x.Kids.length:Int)-1))/\(wr .i64 ((x.Kids.length:Int)-1))<=4/\es.all (a2T (wr .i64 ((x.Kids.length:Int)-1)))=true
 ·rw [if_pos hc]
  refine ⟨_,u2,rfl,hu2,?_⟩
  simp only [b4S,K8,a2i,v7,k8]
  omega
 ·rw [if_neg hc]
  refine ⟨_,u2,rfl,hu2,?_⟩
  rw [K8]; simp only [a2i,v7,k8,w9]; omega
end
end Go.Pl
namespace Go.Pl
open Go Go.RowKit Go.Sx Go.Qx
section
variable {L:List Int}{t:Api_Type}
def b7U (L:List Int)(t:Api_Type)(h:Nat):Prop:=∀ (k f:Nat) (s:Semtypebase_Source),k<t.Nodes.length->9000000+14*h+(10-k)<=f->OS L s ->
 ∃ v u,(z7 f).2.1 s t (k:Int) (h:Int)=some (v,u)/\OS L u/\Z5 v+24*k<=DB h
theorem b7S (hL:L.length<=4194304)(hT:GT t){h:Nat}(hh:h<=4)(hP:b7U L t h)(f:Nat)(hf:9000000+14*h+11<=f):a6q L t t.Nodes.length (DB h) h (z7 f).1:=by
 intro k s hk hs
 obtain ⟨f,rfl⟩:∃ m,f=m+1:=⟨f-1,by omega⟩
 obtain ⟨v,u,e,hu,hb⟩:=hP k f s hk (by omega) hs
 have hD:=c3Z hh
 show ∃ v u,a2N f (z7 f).1 (z7 f).2.1 (z7 f).2.2.1 (z7 f).2.2.2 s t (k:Int) (h:Int)=some (v,u)/\_
 unfold a2N
 rw [e]
 simp only [Option.bind_some]
 rw [b5y f v (by omega) (by omega)]
 simp only [Option.bind_some]
 cases hv:vOK v
 ·obtain ⟨w,u2,e2,hu2,h1,h2⟩:=b2g hL hu
  have:=c4Z h
  simp only [Bool.not_false,cond_true]
  rw [e2]
  exact ⟨w,u2,rfl,hu2,h1,by omega⟩
 ·exact ⟨v,u,rfl,hu,hv,by omega⟩
theorem c8W (hL:L.length<=4194304)(hT:GT t):b7U L t 0:=by
 intro k f s hk hf hs
 obtain ⟨f,rfl⟩:∃ m,f=m+1:=⟨f-1,by omega⟩
 obtain ⟨v,u,e,hu,_,hb⟩:=b2g hL hs
 refine ⟨v,u,?_,hu,by have:=hT.len; simp only [DB]; omega⟩
 show a0F f (z7 f).1 (z7 f).2.1 (z7 f).2.2.1 (z7 f).2.2.2 s t (k:Int) ((0:Nat):Int)=some (v,u)
 unfold a0F
 have e0:decide (((0:Nat):Int)<=0)=true:=rfl
 rw [e0]
 simp only [cond_true,Option.bind_some]
 rw [e]
 rfl
theorem c4X (hL:L.length<=4194304)(hT:GT t){h:Nat}(hh:h<=3)(hP:b7U L t h):b7U L t (h+1):=by
 have key:∀ (d k f:Nat) (s:Semtypebase_Source),t.Nodes.length-k<=d->k<t.Nodes.length->9000000+14*(h+1)+(10-k)<=f->OS L s ->
  ∃ v u,(z7 f).2.1 s t (k:Int) ((h:Int)+1)=some (v,u)/\OS L u/\Z5 v+24*k<=DB (h+1):=by
  intro d
  induction d with
  | zero=>intro k f s h1 h2; omega
  | succ d ih =>
    intro k f s hd hk hf hs
    obtain ⟨f,rfl⟩:∃ m,f=m+1:=⟨f-1,by omega⟩
    have hlen:=hT.len
    have hD:=c9m hh
    have hDp:=c4Z h
    have ex:=List.getElem?_eq_getElem hk
    generalize t.Nodes[k]=x at ex
    have hg:=hT.nodes k x ex
    have hn:=hg.ok
    have small:∀ {n:Nat},n<=440+8*DB h->n+24*k<=DB (h+1):=fun hn=>by simp only [DB]; omega
    show ∃ v u,a0F f (z7 f).1 (z7 f).2.1 (z7 f).2.2.1 (z7 f).2.2.2 s t (k:Int) ((h:Int)+1)=some (v,u)/\_
    have hQ:=b7S hL hT (show h<=4 by omega) hP f (by omega)
    unfold a0F
    have q0:decide ((h:Int)+1<=0)=false:=decide_eq_false (by omega)
    have q1:decide ((k:Int)<0)=false:=decide_eq_false (by omega)
    have q2:decide ((t.Nodes.length:Int)<=(k:Int))=false:=decide_eq_false (by omega)
    rw [q0,q1,q2,k7 ex]
    simp only [cond_false,Option.bind_some]
    have kid:∀ (s:Semtypebase_Source),OS L s->isB x=true->1<=x.Kids.length->∃ (z:Int) (u:Semtypebase_Source) (k':Nat) (v:Val) (u':Semtypebase_Source),y2 s (x.Kids.length:Int)=some (z,u)/\idx x.Kids z=some (k':Int) /\
     (z7 f).2.1 u t (k':Int) ((h:Int)+1)=some (v,u')/\OS L u'/\Z5 v+24*(k+1)<=DB (h+1):=fun s hs hb h1=>by
     have h4:=hg.kids
     obtain ⟨z,u,e,hu,z0,z1⟩:=Y6 hL hs (n:=(x.Kids.length:Int)) (by omega) (by omega)
     obtain ⟨z,rfl⟩:=a9R z0
     obtain ⟨k',e1,e2,hk'⟩:=b42 hn (show z<x.Kids.length by omega)
     have hlt:=hg.ord hb _ (List.mem_of_getElem? e2)
     obtain ⟨v,u',e3,hu',hbv⟩:=ih k' f u (by omega) hk' (by omega) hu
     exact ⟨z,u,k',v,u',e,e1,e3,hu',by omega⟩
    have other:∃ v u,(Option.bind (a1K f s 2) fun r52=>some (r52.1,r52.2))=some (v,u)/\OS L u/\Z5 v+24*k<=DB (h+1):=by
     obtain ⟨v,u,e,hu,_,hb⟩:=c7U hL 1 f (by omega) (by omega) s hs
     have e':a1K f s 2=some (v,u):=e
     rw [e']
     exact ⟨v,u,rfl,hu,small (by have:Go.Pl.hb 1=320:=rfl; omega)⟩
    have hKinds:=a9i x.Kind
    rcases hKinds with hK | hK
    ·have kt:=hn
     unfold W7 a3Z at kt
     rcases hK with hK | hK | hK | hK | hK | hK | hK | hK | hK | hK | hK | hK | hK | hK | hK | hK | hK | hK | hK<;>simp only [hK] at kt ⊢<;>simp only [Int.reduceBEq,cond_true,cond_false,Option.bind_some]
     ·exact other
     ·exact other
     ·have qd:∀ a:Int,b3E .i64 a 2=some (wr .i64 (a.tdiv 2)):=fun a=>rfl
      rw [qd,qd]
      simp only [Option.bind_some]
      obtain ⟨z,u,e,hu,z0,z1⟩:=Y6 hL hs (n:=3) (by omega) (by omega)
      rw [e]
      simp only [Option.bind_some]
      generalize wr .i64 (x.Lo+(wr .i64 ((wr .i64 (x.Hi.tdiv 2))-(wr .i64 (x.Lo.tdiv 2)))))=mid
      obtain ⟨y,ey,eg,_⟩:=b2C ([x.Lo,x.Hi,mid]:List Int) z0 (by simpa using z1)
      rw [ey,eg]
      refine ⟨_,u,rfl,hu,small ?_⟩
      rw [K8]; simp only [a2i,v7,k8,w9]; omega
     ·refine ⟨_,s,rfl,hs,small ?_⟩
      have:=hg.text
      rw [K8]; simp only [v7,k8,w9]; omega
     ·obtain ⟨w,u,e,hu,hw⟩:=b55 hL hs
      have hw2:=List.all_eq_true.1 a9p w hw
      simp only [decide_eq_true_eq] at hw2
      rw [e]
      refine ⟨_,u,rfl,hu,small ?_⟩
      rw [K8]; simp only [v7,k8,w9]; omega
     ·refine ⟨_,s,rfl,hs,small ?_⟩
      have:=hg.text
      rw [K8]; simp only [v7,k8,w9]; omega
     ·obtain ⟨w,u,e,hu,hw⟩:=a8f hL hs
      have hw2:=List.all_eq_true.1 a9r w hw
      simp only [Bool.and_eq_true,decide_eq_true_eq] at hw2
      rw [e]
      refine ⟨_,u,rfl,hu,small ?_⟩
      rw [K8]; simp only [v7,k8,w9]; omega
     ·obtain ⟨z,u,e,hu,z0,z1⟩:=Y6 hL hs (n:=2) (by omega) (by omega)
      rw [e]
      refine ⟨_,u,rfl,hu,small ?_⟩
      rw [K8]; simp only [a2i,v7,k8,w9]; omega
     ·refine ⟨_,s,rfl,hs,small ?_⟩
      rw [K8]; simp only [a2i,v7,k8,w9]; omega
     ·obtain ⟨g,u,e,hu,hl,hb⟩:=b7R hQ hn hg.kids (by omega) hs
      rw [J3,e]
      refine ⟨_,u,rfl,hu,small ?_⟩
      have h4:=hg.kids
      have:x.Kids.length*DB h<=4*DB h:=Nat.mul_le_mul_right _ h4
      rw [K8]; simp only [a2i,k8,w9]; omega
     ·exact other
     ·obtain ⟨g,u,e,hu,hl,hb⟩:=b7R hQ hn hg.kids (by omega) hs
      rw [J3,e]
      simp only [Option.bind_some]
      have h4:=hg.kids
      have h2:x.Kids.length=2:=by
       simp only [Bool.and_eq_true] at kt
       have:=kt.2.2.2.2
       simp at this
       omega
      have hgl:1<g.length:=by omega
      have eg:=List.getElem?_eq_getElem hgl
      generalize g[1]=w at eg
      have ei:idx g 1=some w:=k7 (i:=1) eg
      have e1:(1:Int).toNat=1:=rfl
      rw [ei,e1,eg]
      simp only [Option.bind_some]
      have:x.Kids.length*DB h<=4*DB h:=Nat.mul_le_mul_right _ h4
      cases hw:w.Kind != 7
      ·simp only [cond_false,Option.bind_some]
       refine ⟨_,u,rfl,hu,small ?_⟩
       rw [K8]; simp only [a2i,k8,w9]; omega
      ·simp only [cond_true]
       refine ⟨_,u,rfl,hu,small ?_⟩
       have hs:=c0x (Val.mk 5 0 (⟨#[]⟩:ByteArray) [] [] [] []) g 1
       rw [K8] at hs
       simp only [a2i,v7,k8,w9] at hs
       rw [K8]; simp only [a2i,k8,w9]; omega
     ·obtain ⟨f,rfl⟩:∃ m,f=m+1:=⟨f-1,by omega⟩
      have hQ2:=b7S hL hT (show h<=4 by omega) hP f (by omega)
      obtain ⟨v,u,e,hu,hb⟩:=c6h hL hQ2 (by omega) (by omega) (by omega) hg hK hs f (z7 f).2.1 (z7 f).2.2.1 (z7 f).2.2.2
      have e':(z7 (f+1)).2.2.2 s t x ((h:Int)+1)=some (v,u):=e
      rw [e']
      exact ⟨v,u,rfl,hu,small (by omega)⟩
     ·obtain ⟨f,rfl⟩:∃ m,f=m+1:=⟨f-1,by omega⟩
      have hQ2:=b7S hL hT (show h<=4 by omega) hP f (by omega)
      obtain ⟨v,u,e,hu,hb⟩:=c5H hL hQ2 (by omega) (by omega) (by omega) hg hK hs f (by omega) (z7 f).2.1 (z7 f).2.2.1 (z7 f).2.2.2
      have e':(z7 (f+1)).2.2.1 s t x ((h:Int)+1)=some (v,u):=e
      rw [e']
      exact ⟨v,u,rfl,hu,small (by omega)⟩
     ·exact other
     ·have h1:1<=x.Kids.length:=by
       simp only [Bool.and_eq_true] at kt
       have:=kt.2.2.2.2
       simp at this
       omega
      obtain ⟨z,u,k',v,u',e1,e2,e3,hu',hb⟩:=kid s hs (by unfold isB; rw [hK]; rfl) h1
      rw [e1]
      simp only [Option.bind_some]
      rw [e2]
      simp only [Option.bind_some]
      rw [e3]
      exact ⟨v,u',rfl,hu',by omega⟩
     ·have h1:1<=x.Kids.length:=by
       simp only [Bool.and_eq_true] at kt
       have:=kt.2.2.2.2
       simp at this
       omega
      obtain ⟨z,u,k',v,u',e1,e2,e3,hu',hb⟩:=kid s hs (by unfold isB; rw [hK]; rfl) h1
      rw [e1]
      simp only [Option.bind_some]
      rw [e2]
      simp only [Option.bind_some]
      rw [e3]
      simp only [Option.bind_some]
      have hD2:=c3Z (show h+1<=4 by omega)
      obtain ⟨w,e4,hb4⟩:=c17 hT ex v (by omega)
      rw [J3,e4]
      have h4:=hg.kids
      exact ⟨w,u',rfl,hu',by omega⟩
     ·exact other
     ·obtain ⟨v,u,e,hu,_,hb⟩:=b2g hL hs
      rw [e]
      simp only [Option.bind_some]
      unfold a3T
      rw [b9J [x.Text] (by simp)]
      refine ⟨_,u,rfl,hu,small ?_⟩
      have h5:=hg.text
      have h6:=b3J [x.Text] []
      simp only [Q5,a0A] at h6
      have h7:=a5n v (List.foldl (a26 cS) [] [x.Text])
      unfold a5w at h7
      show Z5 (Val.mk v.Kind v.Int_ v.Text v.Kids v.Keys v.Entries (List.foldl (a26 cS) [] [x.Text]))<=_
      omega
    ·have e:∀ n:Int,1<=n->n<=19->¬ x.Kind=n:=fun n h1 h2=>by simpa using hK n h1 h2
     unfold W7 a3Z at hn
     rw [if_neg (e 3 (by omega) (by omega)),if_neg (e 4 (by omega) (by omega)),if_neg (e 6 (by omega) (by omega)),if_neg (e 19 (by omega) (by omega)),if_neg (by have:=e 1 (by omega) (by omega); have:=e 2 (by omega) (by omega); have:=e 5 (by omega) (by omega); have:=e 7 (by omega) (by omega); have:=e 8 (by omega) (by omega); have:=e 9 (by omega) (by omega); have:=e 11 (by omega) (by omega); have:=e 15 (by omega) (by omega); omega),
      if_neg (e 10 (by omega) (by omega)),if_neg (e 12 (by omega) (by omega)),if_neg (e 14 (by omega) (by omega)),if_neg (by have:=e 16 (by omega) (by omega); have:=e 17 (by omega) (by omega); omega),if_neg (e 18 (by omega) (by omega)),if_neg (e 13 (by omega) (by omega))] at hn
     simp at hn
 intro k f s hk hf hs
 exact key t.Nodes.length k f s (by omega) hk hf hs
theorem c1k (hL:L.length<=4194304)(hT:GT t):∀ h:Nat,h<=4->b7U L t h
 | 0,_=>c8W hL hT
 | h+1,hh=>c4X hL hT (by omega) (c1k hL hT h (by omega))
theorem c8d (hL:L.length<=4194304)(hT:GT t)(f:Nat)(hf:10000000<=f)(h:Nat)(hh:h<=4):a6q L t t.Nodes.length 1638300 h (a2a f):=fun k s hk hs=>by
 obtain ⟨v,u,h1,h2,h3,h4⟩:=b7S hL hT hh (c1k hL hT h hh) f (by omega) k s hk hs
 exact ⟨v,u,h1,h2,h3,Nat.le_trans h4 (c3Z hh)⟩
end
end Go.Pl
end
section
namespace Go.Pl
open Go Go.RowKit Go.Sx Go.Qx
theorem b9h {α β:Type}{step:Int->Option (Fl Int (Sum Unit β))}(xs:List α)(p:α->Bool)(out:Nat->α->β)
 (hst:∀ (i:Nat) (x:α),xs[i]?=some x->step (i:Int)=some (if p x=true then .done (.inr (out i x)) else .next ((i+1:Nat):Int)))
 (hend:step (xs.length:Int)=some (.done (.inl ()))) :
 (∃ i x,xs[i]?=some x/\p x=true/\(∀ j,j<i->∀ y,xs[j]?=some y->p y=false)/\y4 step (xs.length+1) 0=some (.inr (out i x)))\/(xs.any p=false/\y4 step (xs.length+1) 0=some (.inl ())):=by
 have key:∀ (m a k:Nat),a+m=xs.length->m+1<=k->(∀ j,j<a->∀ y,xs[j]?=some y->p y=false) ->
  (∃ i x,xs[i]?=some x/\p x=true/\(∀ j,j<i->∀ y,xs[j]?=some y->p y=false)/\y4 step k (a:Int)=some (.inr (out i x)))\/(xs.any p=false/\y4 step k (a:Int)=some (.inl ())):=by
  intro m
  induction m with
  | zero =>
    intro a k h1 h2 h3
    obtain ⟨k,rfl⟩:∃ m,k=m+1:=⟨k-1,by omega⟩
    have e:a=xs.length:=by omega
    subst e
    refine .inr ⟨?_,by simp only [y4,hend,Option.bind_some]⟩
    rw [List.any_eq_false]
    intro x hx
    obtain ⟨j,hj,rfl⟩:=List.getElem_of_mem hx
    have:=h3 j hj _ (List.getElem?_eq_getElem hj)
    simp [this]
  | succ m ih =>
    intro a k h1 h2 h3
    obtain ⟨k,rfl⟩:∃ m,k=m+1:=⟨k-1,by omega⟩
    have ha:a<xs.length:=by omega
    have ex:=List.getElem?_eq_getElem ha
    have hs:=hst a _ ex
    cases hp:p xs[a] with
    | true =>
      rw [if_pos hp] at hs
      exact .inl ⟨a,xs[a],ex,hp,h3,by simp only [y4,hs,Option.bind_some]⟩
    | false =>
      rw [if_neg (by simp [hp])] at hs
      simp only [y4,hs,Option.bind_some]
      refine ih (a+1) k (by omega) (by omega) fun j hj y hy=>?_
      by_cases hja:j=a
      ·subst hja
       rw [ex] at hy
       cases hy
       exact hp
      ·exact h3 j (by omega) y hy
 exact key xs.length 0 (xs.length+1) (by omega) (Nat.le_refl _) (fun j hj=>by omega)
theorem c1X {α:Type}{xs:List α}{p:α->Bool}{i:Nat}{x:α}(h:xs[i]?=some x)(hp:p x=true):xs.any p=true:=List.any_eq_true.2 ⟨x,List.mem_of_getElem? h,hp⟩
theorem c5A (i:Nat):decide ((0:Int)<=(i:Int))=true:=decide_eq_true (by omega)
theorem c3Q (l:List Int)(f:Int->Option Bool)(p:Int->Bool)(hl:l.length<=4194304)(hf:∀ x∈l,f x=some (p x)):Q9 l f=some (l.any p):=by
 unfold Q9 a3f
 rw [J3]
 rcases b9h (step:=a1d l f) l p (fun i _=>(i:Int)) (fun i x hx=>by
  have hi:i<l.length:=(List.getElem?_eq_some_iff.1 hx).1
  unfold a1d
  rw [Q1 hi,k7 hx]
  simp only [cond_true,Option.bind_some,Y1]
  rw [w7 i (by omega),hf x (List.mem_of_getElem? hx)]
  cases p x<;>rfl) (by
  unfold a1d
  simp) with ⟨i,x,hx,hp,_,e⟩ | ⟨h,e⟩
 ·rw [e,c1X hx hp]
  simp only [Option.bind_some,k9,c5A]
 ·rw [e,h]
  rfl
end Go.Pl
namespace Go.Pl
open Go Go.RowKit Go.Sx Go.Qx
section
variable (μ:Val->Int->Bool)
end
theorem c8N {α β:Type}{l:List α}{m:List β}{i:Nat}{p:α×β}(h:(l.zip m)[i]?=some p):l[i]?=some p.1/\m[i]?=some p.2:=by
 obtain ⟨a,b⟩:=p
 rw [List.getElem?_zip_eq_some] at h
 exact h
section
variable {t:Api_Type}{f0 b:Nat}
end
end Go.Pl
namespace Go.Pl
open Go Go.RowKit Go.Sx Go.Qx
section
variable {t:Api_Type}
theorem GT.ord (hT:GT t){k:Nat}{x:Api_TypeNode}(hx:t.Nodes[k]?=some x)(hb:isB x=true){j:Int}(hj:j∈x.Kids):∃ j':Nat,j=(j':Int)/\k<j'/\j'<t.Nodes.length:=by
 have hg:=hT.nodes k x hx
 obtain ⟨j',e,h1⟩:=a1X (a3R hg.ok j hj)
 have:=hg.ord hb j hj
 exact ⟨j',e,by omega,h1⟩
theorem c9B {N:Nat}{x:Api_TypeNode}(h:W7 N x=true):a3Z N x=true:=by
 unfold W7 at h
 simp only [Bool.and_eq_true] at h
 exact h.2.2.2.2
theorem c7q {α:Type}(p:α->Bool)(l:List α):(!(l.any fun x=>!p x))=l.all p:=by
 rw [Bool.eq_iff_iff]
 simp
end
end Go.Pl
namespace Go.Pl
open Go Go.RowKit Go.Sx Go.Qx
section
variable {t:Api_Type}
theorem GT.all (hT:GT t):a3w t.Nodes=true:=List.all_eq_true.2 fun x hx=>by
 obtain ⟨i,hi,rfl⟩:=List.getElem_of_mem hx
 exact (hT.nodes i _ (List.getElem?_eq_getElem hi)).ok
theorem GT.small (hT:GT t):∀ x∈t.Nodes,x.Kids.length<=1100000/\x.Fields.length<=1100000:=fun x hx=>by
 obtain ⟨i,hi,rfl⟩:=List.getElem_of_mem hx
 have hg:=hT.nodes i _ (List.getElem?_eq_getElem hi)
 have h1:=hg.kids
 have h2:=hg.flds
 omega
end
end Go.Pl
end
section
namespace Go.Pl
open Go Go.RowKit Go.Sx Go.Qx
theorem d0I:CmpOk cI:=⟨fun x y=>by
 rcases W9 x y with ⟨_,h⟩ | ⟨_,h⟩ | ⟨_,h⟩<;>rcases W9 y x with ⟨_,k⟩ | ⟨_,k⟩ | ⟨_,k⟩<;>rw [h,k]<;>omega,
 fun x y z h1 h2=>by
  rcases W9 x y with ⟨_,h⟩ | ⟨_,h⟩ | ⟨_,h⟩<;>rcases W9 y z with ⟨_,k⟩ | ⟨_,k⟩ | ⟨_,k⟩<;>rcases W9 x z with ⟨_,l⟩ | ⟨_,l⟩ | ⟨_,l⟩<;>rw [h] at h1<;>rw [k] at h2<;>rw [l]<;>omega,
 fun _ _ h=>cI0 h⟩
abbrev b3G (x y:Int):Bool:=decide (cI x y=0)
theorem c3T (x y:Int):(x==y)=decide (cI x y=0):=by
 rcases W9 x y with ⟨h,k⟩ | ⟨h,k⟩ | ⟨h,k⟩
 ·rw [k]; simp; omega
 ·rw [k]; simp; omega
 ·rw [k]; simp [h]
theorem c9P (s0:List Int)(i0 n:Nat)(hn:n<=4194304)(i k:Nat)(s:List Int)(x y:Int)(hl:s.length=n)(hk:i0+k<n)(h1:1<=k)(hi:i<i0+k)(hx:s[i0+k]?=some x)(hy:s[i0+k-1]?=some y) :
 a0a (s0,(i0:Int)) (((i:Int),(k:Int)),s)=some (.next (if b3G x y=true then (((i:Int),((k+1:Nat):Int)),s) else ((((i+1:Nat):Int),((k+1:Nat):Int)),s.set i x))):=by
 unfold a0a
 simp only [a0w,Y1,Int.toNat_natCast]
 have hdl:(s.drop i0).length=n-i0:=by rw [List.length_drop,hl]
 rw [if_pos (decide_eq_true (by show (k:Int)<(((s.drop i0).length:Nat):Int); rw [hdl]; omega)),w7 i (by omega),w7 k (by omega),b6P k (by omega) h1]
 simp only [Int.toNat_natCast]
 have a1:idx (s.drop i0) (k:Int)=some x:=k7 (by rw [List.getElem?_drop]; exact hx)
 have a2:idx (s.drop i0) ((k-1:Nat):Int)=some y:=k7 (by rw [List.getElem?_drop,show i0+(k-1)=i0+k-1 by omega]; exact hy)
 have a3:idx s (i:Int)=some (s[i]'(by omega)):=k7 (List.getElem?_eq_getElem (by omega))
 rw [a1,a2,a3,hx,show i0+(k-1)=i0+k-1 by omega,hy,List.getElem?_eq_getElem (show i<s.length by omega)]
 simp only [Option.bind_some,bne]
 rw [c3T]
 by_cases h:cI x y=0<;>simp [b3G,h]
theorem c2f (l:List Int)(hl:l.length<=4194304):a2n l=some (a7c b3G l):=by
 unfold a2n
 by_cases h2:(l.length:Int)<2
 ·have e:decide ((l.length:Int)<2)=true:=by simpa using h2
  rw [e]
  match l,h2 with
  | [],_=>rfl
  | [_],_=>rfl
  | _::_::_,h=>exact absurd h (by simp; omega)
 ·have e:decide ((l.length:Int)<2)=false:=by simpa using h2
  rw [e,J3]
  simp only [cond_false]
  have key:=c4F (r:=b3G) (step:=a0J) l (by omega) ?_ ?_ ?_
  ·rcases key with ⟨h,hc⟩ | ⟨q,h⟩
   ·rw [h,hc]; rfl
   ·rw [h]; rfl
  ·intro i x y hi hx hy hr
   have hlt:i<l.length:=(List.getElem?_eq_some_iff.1 hx).1
   unfold a0J
   simp only [a0w,Y1,Int.toNat_natCast]
   rw [if_pos (by simp; omega),b6P i (by omega) hi,k7 hx,k7 hy]
   simp only [Int.toNat_natCast,hx,hy,Option.bind_some]
   rw [c3T]
   have hr':decide (cI x y=0)=false:=hr
   rw [hr',w7 i (by omega)]
   rfl
  ·intro i x y hi hx hy hr
   have hlt:i<l.length:=(List.getElem?_eq_some_iff.1 hx).1
   unfold a0J
   simp only [a0w,Y1,Int.toNat_natCast]
   rw [if_pos (by simp; omega),b6P i (by omega) hi,k7 hx,k7 hy]
   simp only [Int.toNat_natCast,hx,hy,Option.bind_some]
   rw [c3T]
   have hr':decide (cI x y=0)=true:=hr
   rw [hr',if_pos rfl]
   obtain ⟨s',e1,e2,e3⟩:=c5k (r:=b3G) (step:=a0a (l,(i:Int))) i l.length (fun i' k s x y a1 a2 a3 a4 a5 a6=>c9P l i l.length hl i' k s x y a1 a2 a3 a4 a5 a6)
    (fun i' k s a1 a2=>by
      unfold a0a
      simp only [Int.toNat_natCast]
      have:decide ((k:Int)<(((s.drop i).length:Nat):Int))=false:=by rw [List.length_drop]; simp; omega
      rw [this]
      rfl) (l.length-(i+1)) i 1 l x ((l.drop i).length+1) rfl (by omega) (Nat.le_refl _) (by omega) (by simpa using hx) (by rw [List.length_drop]; omega)
   have e1':y4 (a0a (l,(i:Int))) ((l.drop i).length+1) (((i:Int),1),l)=_:=e1
   rw [e1']
   simp only [Option.bind_some,<- a0w]
   have hd:=c5e (r:=b3G) (l.drop (i+1)) x
   rw [List.length_drop] at hd
   exact c77 (0:Int) _ l.length s' _ e2 (by omega) e3
  ·unfold a0J
   simp
theorem c3w (l:List Int):(l.mergeSort fun x y=>decide (x<=y)).Pairwise fun a b=>¬ cI b a<0:=by
 refine (List.pairwise_mergeSort (le:=fun x y:Int=>decide (x<=y)) (fun a b c h1 h2=>?_) (fun a b=>?_) l).imp fun {a b} h=>?_
 ·simp only [decide_eq_true_eq] at *
  omega
 ·simp only [Bool.or_eq_true,decide_eq_true_eq]
  omega
 ·simp only [decide_eq_true_eq] at h
  rcases W9 b a with ⟨_,k⟩ | ⟨_,k⟩ | ⟨_,k⟩<;>rw [k]<;>omega
def srt (l:List Int):List Int:=l.foldl (a26 cI) []
theorem b7G (l:List Int)(hl:l.length<=4194304):a5T l=some (srt l):=by
 unfold a5T a4G
 rw [J4 (by omega)]
 simp only [Option.bind_some]
 unfold b9s a97
 have e:decide (l.length<4611686018427387904)=true:=by simp; omega
 rw [e]
 simp only [cond_true,Option.bind_some]
 have hp:=List.mergeSort_perm l fun x y:Int=>decide (x<=y)
 rw [c2f _ (by rw [hp.length_eq]; exact hl)]
 simp only [Option.bind_some]
 unfold a4Q
 have:=c2k d0I hp (c3w l)
 rw [show a7c (fun x y=>decide (cI x y=0))=a7c b3G from rfl] at this
 rw [this]
 simp [srt]
end Go.Pl
end
section
namespace Go.Pl
open Go Go.RowKit Go.Sx Go.Qx
abbrev g0 (p q:List Int):Api_Goal:=Api_Goal.mk p q false
theorem c4o (p q:List Int)(b:Bool)(h1:p.length<=4194304)(h2:q.length<=4194304):a8e (Api_Goal.mk p q b)=some (Api_Goal.mk (srt p) (srt q) b):=by
 unfold a8e
 rw [b7G p h1,b7G q h2]
 rfl
theorem c1q (l:List Int)(x:Int)(hl:l.length<=4194304):a15 l x=some (l.any fun y=>x==y):=by
 unfold a15 a4A
 rw [J3]
 rcases b9h (step:=a16 l x) l (fun y=>x==y) (fun i _=>(i:Int)) (fun i y hy=>by
  have hi:i<l.length:=(List.getElem?_eq_some_iff.1 hy).1
  unfold a16
  rw [Q1 hi,k7 hy]
  simp only [cond_true,Option.bind_some,Y1]
  rw [w7 i (by omega)]
  cases x==y<;>rfl) (by
  unfold a16
  simp) with ⟨i,y,hy,hp,_,e⟩ | ⟨h,e⟩
 ·rw [e,c1X hy hp]
  simp only [Option.bind_some,k9,c5A]
 ·rw [e,h]
  rfl
def b7K (p q:List Int):Bool:=p.any fun x=>q.any fun y=>x==y
theorem c2w (p q:List Int)(h1:p.length<=4194304)(h2:q.length<=4194304):a58 p q=some (b7K p q):=by
 unfold a58
 rw [c3Q p _ (fun x=>q.any fun y=>x==y) h1 fun x _=>by
  unfold a6Z
  simp only [a3L]
  exact c1q q x h2]
 rfl
theorem b3D {St β:Type}{step:St->Option (Fl St β)}(st:Nat->St)(n:Nat)(r:β)(hs:∀ i,i<n->step (st i)=some (.next (st (i+1))))(he:step (st n)=some (.done r))(k:Nat)(hk:n+1<=k):y4 step k (st 0)=some r:=by
 have key:∀ (m i k:Nat),i+m=n->m+1<=k->y4 step k (st i)=some r:=by
  intro m
  induction m with
  | zero =>
    intro i k h1 h2
    obtain ⟨k,rfl⟩:∃ q,k=q+1:=⟨k-1,by omega⟩
    have e:i=n:=by omega
    subst e
    simp only [y4,he,Option.bind_some]
  | succ m ih =>
    intro i k h1 h2
    obtain ⟨k,rfl⟩:∃ q,k=q+1:=⟨k-1,by omega⟩
    simp only [y4,hs i (by omega),Option.bind_some]
    exact ih (i+1) k (by omega) (by omega)
 exact key n 0 k (by omega) hk
theorem b4K {St β:Type}{step:St->Option (Fl St β)}(st:Nat->St)(bad:Nat->Bool)(n:Nat)(r:β)(R:β->Prop)(hs:∀ i,i<n->bad i=false->step (st i)=some (.next (st (i+1))))(hb:∀ i,i<n->bad i=true->∃ q,step (st i)=some (.done q)/\R q)
 (he:step (st n)=some (.done r)) (k:Nat) (hk:n+1<=k):(y4 step k (st 0)=some r/\∀ i,i<n->bad i=false)\/∃ q,y4 step k (st 0)=some q/\R q/\∃ i,i<n/\bad i=true:=by
 have key:∀ (m i k:Nat),i+m=n->m+1<=k->(∀ j,j<i->bad j=false)->(y4 step k (st i)=some r/\∀ i,i<n->bad i=false)\/∃ q,y4 step k (st i)=some q/\R q/\∃ i,i<n/\bad i=true:=by
  intro m
  induction m with
  | zero =>
    intro i k h1 h2 h3
    obtain ⟨k,rfl⟩:∃ q,k=q+1:=⟨k-1,by omega⟩
    have e:i=n:=by omega
    subst e
    exact .inl ⟨by simp only [y4,he,Option.bind_some],h3⟩
  | succ m ih =>
    intro i k h1 h2 h3
    obtain ⟨k,rfl⟩:∃ q,k=q+1:=⟨k-1,by omega⟩
    cases hbi:bad i with
    | true =>
      obtain ⟨q,e,hR⟩:=hb i (by omega) hbi
      exact .inr ⟨q,by simp only [y4,e,Option.bind_some],hR,i,by omega,hbi⟩
    | false =>
      simp only [y4,hs i (by omega) hbi,Option.bind_some]
      refine ih (i+1) k (by omega) (by omega) fun j hj=>?_
      by_cases e:j=i
      ·subst e; exact hbi
      ·exact h3 j (by omega)
 exact key n 0 k (by omega) hk (fun j hj=>by omega)
theorem c4J {α:Type}(f:Nat->α)(a j:Nat)(v:α):((List.range a).map f).set j v=(List.range a).map fun i=>if i=j then v else f i:=by
 apply List.ext_getElem?
 intro i
 rw [List.getElem?_set]
 by_cases hi:i<a
 ·by_cases e:j=i
  ·subst e; simp [hi]
  ·simp [e,hi,Ne.symm e]
 ·by_cases e:j=i
  ·subst e; simp [hi]
  ·simp [e,hi]
theorem b86 {l:List Int}{i:Nat}(h:i<l.length):l[i]?=some (l.getD i 0):=by
 rw [List.getElem?_eq_getElem h]
 simp [List.getD,List.getElem?_eq_getElem h]
def a6L (g:Api_Goal):Api_Goal:=Api_Goal.mk (srt g.Pos) (srt g.Neg) g.Lists
end Go.Pl
end
section
namespace Go.Pl
open Go Go.RowKit Go.Sx Go.Qx
def dig:List Nat->Nat->List Int
 | [],_=>[]
 | m::ms,k=>((k%m:Nat):Int)::dig ms (k / m)
def tot:List Nat->Nat
 | []=>1
 | m::ms=>m*tot ms
def adv:List Int->List Nat->List Int×Bool
 | d::ds,m::ms=>if d+1<(m:Int) then ((d+1)::ds,true) else (0::(adv ds ms).1,(adv ds ms).2)
 | ds,_=>(ds,false)
theorem b81:∀ (ms:List Nat) (k:Nat),(dig ms k).length=ms.length
 | [],_=>rfl
 | _::ms,k=>by simp [dig,b81 ms]
theorem c1c:∀ (ms:List Nat) (k:Nat),(∀ m∈ms,1<=m)->∀ (j:Nat) (d:Int) (m:Nat),(dig ms k)[j]?=some d->ms[j]?=some m->0<=d/\d<(m:Int)
 | [],_,_,j,d,m,h,_=>by simp [dig] at h
 | m0::ms,k,h1,0,d,m,h,hm=>by
   simp only [dig,List.getElem?_cons_zero,Option.some.injEq] at h hm
   subst h; subst hm
   have:=h1 m0 (by simp)
   have:=Nat.mod_lt k (show 0<m0 by omega)
   omega
 | m0::ms,k,h1,j+1,d,m,h,hm=>c1c ms (k / m0) (fun m hm=>h1 m (by simp [hm])) j d m (by simpa [dig] using h) (by simpa using hm)
theorem c2R:∀ ms:List Nat,(∀ m∈ms,1<=m)->1<=tot ms
 | [],_=>by simp [tot]
 | m::ms,h=>by
   have h1:=h m (by simp)
   have h2:=c2R ms fun x hx=>h x (by simp [hx])
   simp only [tot]
   exact Nat.mul_le_mul h1 h2
theorem b88:∀ (ms:List Nat) (k:Nat),(∀ m∈ms,1<=m)->k<tot ms->(k+1<tot ms->adv (dig ms k) ms=(dig ms (k+1),true))/\(¬ k+1<tot ms->(adv (dig ms k) ms).2=false)
 | [],k,_,h=>by simp only [tot] at h ⊢; exact ⟨fun h=>by omega,fun _=>rfl⟩
 | m::ms,k,h1,hk=>by
   have hm:=h1 m (by simp)
   have h1':∀ x∈ms,1<=x:=fun x hx=>h1 x (by simp [hx])
   simp only [tot] at hk ⊢
   have hkm:k / m<tot ms:=Nat.div_lt_of_lt_mul hk
   have hdm:=Nat.div_add_mod k m
   have hml:=Nat.mod_lt k (show 0<m by omega)
   obtain ⟨i1,i2⟩:=b88 ms (k / m) h1' hkm
   by_cases hc:k%m+1<m
   ·have e1:(k+1)%m=k%m+1:=by rw [Nat.add_mod,Nat.mod_eq_of_lt (show 1<m by omega),Nat.mod_eq_of_lt (by omega)]
    have e2:(k+1) / m=k / m:=by
     have:k+1=m*(k / m)+(k%m+1):=by omega
     rw [this,Nat.mul_add_div (by omega),Nat.div_eq_of_lt hc,Nat.add_zero]
    have e3:adv (dig (m::ms) k) (m::ms)=((((k%m:Nat):Int)+1)::dig ms (k / m),true):=by
     simp only [dig,adv]
     rw [if_pos (by omega)]
    refine ⟨fun _=>?_,fun hn=>?_⟩
    ·rw [e3]
     simp only [dig]
     rw [e1,e2]
     rfl
    ·exfalso
     apply hn
     have:m*(k / m+1)<=m*tot ms:=Nat.mul_le_mul_left m hkm
     rw [Nat.mul_add,Nat.mul_one] at this
     omega
   ·have hkm1:k%m+1=m:=by omega
    have e0:k+1=m*(k / m+1):=by rw [Nat.mul_add,Nat.mul_one]; omega
    have e1:(k+1)%m=0:=by rw [e0]; simp
    have e2:(k+1) / m=k / m+1:=by rw [e0,Nat.mul_div_cancel_left _ (by omega)]
    have e3:adv (dig (m::ms) k) (m::ms)=(0::(adv (dig ms (k / m)) ms).1,(adv (dig ms (k / m)) ms).2):=by
     simp only [dig,adv]
     rw [if_neg (by omega)]
    have e4:k+1<m*tot ms↔k / m+1<tot ms:=by
     rw [e0]
     exact ⟨fun h=>Nat.lt_of_mul_lt_mul_left h,fun h=>Nat.mul_lt_mul_of_pos_left h (by omega)⟩
    rw [e3]
    refine ⟨fun h=>?_,fun h=>?_⟩
    ·rw [i1 (e4.1 h)]
     simp only [dig]
     rw [e1,e2]
     rfl
    ·exact i2 fun h'=>h (e4.2 h')
theorem c1E:∀ ms:List Nat,dig ms 0=List.replicate ms.length 0
 | []=>rfl
 | m::ms=>by simp [dig,c1E ms,List.replicate_succ]
end Go.Pl
end
section
namespace Go.Pl
open Go Go.RowKit Go.Sx Go.Qx
theorem b7l (l:List (List Int))(f:List Int->Option Bool)(p:List Int->Bool)(hl:l.length<=4194304)(hf:∀ x∈l,f x=some (p x)):a0Z l f=some (l.any p):=by
 unfold a0Z a2S
 rw [J3]
 rcases b9h (step:=a0W l f) l p (fun i _=>(i:Int)) (fun i x hx=>by
  have hi:i<l.length:=(List.getElem?_eq_some_iff.1 hx).1
  unfold a0W
  rw [Q1 hi,k7 hx]
  simp only [cond_true,Option.bind_some,Y1]
  rw [w7 i (by omega),hf x (List.mem_of_getElem? hx)]
  cases p x<;>rfl) (by
  unfold a0W
  simp) with ⟨i,x,hx,hp,_,e⟩ | ⟨h,e⟩
 ·rw [e,c1X hx hp]
  simp only [Option.bind_some,k9,c5A]
 ·rw [e,h]
  rfl
theorem c2V (d:Int)(l:List (List Int))(hl:l.length<=4194304):a4k d l=some (l.all fun r=>(r.length:Int)==d):=by
 unfold a4k
 have h:=b7l l (fun z1=>Option.bind (a7Z z1 d) fun r2=>some r2) (fun r=>!((r.length:Int)==d)) hl fun x _=>rfl
 rw [h]
 simp only [Option.bind_some]
 rw [c7q]
def b1w (vi:Int->Bool)(r:List Int)(j:Nat):List Int:=((List.range j).filter fun i=>vi (r.getD i 0)).map fun i:Nat=>(i:Int)
def a08 (vi:Int->Bool)(r:List Int):List Int:=b1w vi r r.length
theorem c5x (vi:Int->Bool)(r:List Int)(j:Nat):b1w vi r (j+1)=b1w vi r j++(if vi (r.getD j 0)=true then [(j:Int)] else []):=by
 unfold b1w
 rw [List.range_succ,List.filter_append,List.map_append,List.filter_cons]
 by_cases h:vi (r.getD j 0)=true
 ·rw [if_pos h,if_pos h]; rfl
 ·rw [if_neg h,if_neg h]; rfl
theorem b6Y (vi:Int->Bool)(r:List Int)(j:Nat):(b1w vi r j).length<=j:=by
 unfold b1w
 rw [List.length_map]
 exact Nat.le_trans (List.length_filter_le _ _) (by simp)
theorem c5O {α:Type}{l:List α}{k:Nat}{x:α}(h:l[k]?=some x):l.set k x=l:=by
 apply List.ext_getElem?
 intro i
 by_cases e:k=i
 ·subst e; rw [List.getElem?_set_self (List.getElem?_eq_some_iff.1 h).1,h]
 ·rw [List.getElem?_set_ne e]
theorem c6P (vi:Int->Bool)(vf:Int->Option Bool)(k:Nat)(S0 base:List (List Int))(r:List Int)(hr:r.length<=1000)(hv:∀ x∈r,vf x=some (vi x))(hb:base[k]?=some []) :
 y4 (a25 vf ((k:Int),S0) r) (r.length+1) (0,base)=some ((),base.set k (a08 vi r)):=by
 have hk:=(List.getElem?_eq_some_iff.1 hb).1
 have:=b3D (step:=a25 vf ((k:Int),S0) r) (fun j=>((j:Int),base.set k (b1w vi r j))) r.length ((),base.set k (a08 vi r)) (fun j hj=>by
  have hx:=List.getElem?_eq_getElem hj
  have hg:r.getD j 0=r[j]:=by simp [List.getD,hx]
  have hl:=b6Y vi r j
  unfold a25
  simp only [Y1,Int.toNat_natCast]
  rw [Q1 hj,k7 hx]
  simp only [cond_true,Option.bind_some]
  rw [hv _ (List.getElem_mem hj),c5x,hg]
  simp only [Option.bind_some]
  have hs:(base.set k (b1w vi r j))[k]?=some (b1w vi r j):=List.getElem?_set_self hk
  cases vi r[j] with
  | false =>
    rw [w7 j (by omega)]
    simp
  | true =>
    simp only [cond_true]
    rw [k7 hs,hs]
    simp only [Option.bind_some]
    rw [J4 (by simp only [List.length_cons,List.length_nil]; omega),w7 j (by omega)]
    have hbq:Nat.beq (k+2) (k+2)=true:=by simp
    simp only [Option.bind_some,hbq,cond_true,List.set_set,if_true]) (by
  unfold a25
  simp [a08]) (r.length+1) (Nat.le_refl _)
 have e0:base.set k (b1w vi r 0)=base:=c5O hb
 simp only [e0] at this
 exact this
theorem c6o (vi:Int->Bool)(vf:Int->Option Bool)(neg:List (List Int))(hn:neg.length<=1000)(hr:∀ r∈neg,r.length<=1000)(hv:∀ r∈neg,∀ x∈r,vf x=some (vi x)) :
 (y4 (a1s neg vf) (neg.length+1) (0,List.replicate neg.length ([]:List Int))=some (.inl ((),neg.map (a08 vi)))/\∀ r∈neg,a08 vi r≠[]) \/
 ∃ q,y4 (a1s neg vf) (neg.length+1) (0,List.replicate neg.length ([]:List Int))=some (.inr q)/\q.1=[]/\∃ r∈neg,a08 vi r=[]:=by
 have key:=b4K (step:=a1s neg vf) (fun k=>((k:Int),(List.range neg.length).map fun i=>if i<k then a08 vi (neg.getD i []) else [])) (fun k=>(a08 vi (neg.getD k [])).isEmpty) neg.length
  (.inl ((),neg.map (a08 vi))) (fun q=>∃ q',q=.inr q'/\q'.1=[]) (fun k hk hb=>?_) (fun k hk hb=>?_) ?_ (neg.length+1) (Nat.le_refl _)
 ·have e0:(List.range neg.length).map (fun i=>if i<0 then a08 vi (neg.getD i []) else [])=List.replicate neg.length ([]:List Int):=by
   apply List.ext_getElem?
   intro i
   by_cases hi:i<neg.length<;>simp [hi]
  simp only [e0] at key
  have hgd:∀ i (hi:i<neg.length),neg.getD i []=neg[i]:=fun i hi=>by simp [List.getD,List.getElem?_eq_getElem hi]
  rcases key with ⟨k1,k2⟩ | ⟨q,k1,⟨q',rfl,k2⟩,i,hi,k3⟩
  ·left
   refine ⟨k1,fun r hr e=>?_⟩
   obtain ⟨i,hi,rfl⟩:=List.getElem_of_mem hr
   have:=k2 i hi
   rw [hgd i hi,e] at this
   cases this
  ·right
   refine ⟨q',k1,k2,neg[i],List.getElem_mem hi,?_⟩
   rw [hgd i hi] at k3
   exact List.isEmpty_iff.1 k3
 all_goals
  try
   have hx:=List.getElem?_eq_getElem hk
   have hg:neg.getD k []=neg[k]:=by simp [List.getD,hx]
   have hm:=List.getElem_mem hk
   have hb0:((List.range neg.length).map fun i=>if i<k then a08 vi (neg.getD i []) else [])[k]?=some []:=by simp [hk]
   have h1:=c6P vi vf k ((List.range neg.length).map fun i=>if i<k then a08 vi (neg.getD i []) else []) _ neg[k] (hr _ hm) (hv _ hm) hb0
   rw [c4J] at h1
   have hnew:((List.range neg.length).map fun i=>if i=k then a08 vi neg[k] else if i<k then a08 vi (neg.getD i []) else [])=(List.range neg.length).map fun i=>if i<k+1 then a08 vi (neg.getD i []) else []:=by
    apply List.map_congr_left
    intro j hj
    by_cases h1:j=k
    ·subst h1; rw [if_pos rfl,if_pos (by omega),hg]
    ·by_cases h2:j<k
     ·rw [if_neg h1,if_pos h2,if_pos (by omega)]
     ·rw [if_neg h1,if_neg h2,if_neg (by omega)]
   rw [hnew] at h1
   have hs:((List.range neg.length).map fun i=>if i<k+1 then a08 vi (neg.getD i []) else [])[k]?=some (a08 vi neg[k]):=by simp only [List.getElem?_map,List.getElem?_range hk,Option.map_some,if_pos (show k<k+1 by omega),hg]
   rw [hg] at hb
 ·unfold a1s
  simp only [Y1,J3]
  rw [Q1 hk,k7 hx]
  simp only [cond_true,Option.bind_some]
  rw [h1]
  simp only [Option.bind_some,Int.toNat_natCast]
  rw [k7 hs,hs,w7 k (by omega)]
  simp only [Option.bind_some]
  have:(((a08 vi neg[k]).length:Int)==0)=false:=by
   cases h:a08 vi neg[k] with
   | nil=>rw [h] at hb; cases hb
   | cons a b=>simp; omega
  rw [this]
  rfl
 ·refine ⟨.inr ([],(List.range neg.length).map fun i=>if i<k+1 then a08 vi (neg.getD i []) else []),?_,_,rfl,rfl⟩
  unfold a1s
  simp only [Y1,J3]
  rw [Q1 hk,k7 hx]
  simp only [cond_true,Option.bind_some]
  rw [h1]
  simp only [Option.bind_some,Int.toNat_natCast]
  rw [k7 hs,hs]
  simp only [Option.bind_some]
  rw [List.isEmpty_iff.1 hb]
  rfl
 ·unfold a1s
  simp only [Int.lt_irrefl,decide_false,cond_false]
  have:((List.range neg.length).map fun i=>if i<neg.length then a08 vi (neg.getD i []) else [])=neg.map (a08 vi):=by
   apply List.ext_getElem?
   intro i
   by_cases hi:i<neg.length
   ·simp [hi]
   ·simp [hi]
  rw [this]
theorem b7M:∀ (ds:List Int) (os:List (List Int)) (i k:Nat) (digits:List Int) (options:List (List Int)),digits.length=i+ds.length->options.length=i+os.length->options.drop i=os->ds.length=os.length->ds.length+1<=k->i+ds.length<=4194304 ->
 (∀ d∈ds,0<=d/\d<=4194304)->y4 (X5 digits options) k ((i:Int),List.replicate i 0++ds)=some (if (adv ds (os.map List.length)).2=true then .inr (true,List.replicate i 0++(adv ds (os.map List.length)).1) else .inl ((),List.replicate i 0++(adv ds (os.map List.length)).1))
 | [],[],i,k,digits,options,h1,h2,h3,h4,h5,h6,h7=>by
   obtain ⟨k,rfl⟩:∃ q,k=q+1:=⟨k-1,by omega⟩
   have:X5 digits options ((i:Int),List.replicate i 0++[])=some (.done (.inl ((),List.replicate i 0++[]))):=by
    unfold X5
    have:decide ((i:Int)<(digits.length:Int))=false:=by rw [h1]; simp
    simp only [this,cond_false]
   simp only [y4,this,Option.bind_some]
   rfl
 | [],_::_,_,_,_,_,_,_,_,h,_,_,_=>by simp at h
 | _::_,[],_,_,_,_,_,_,_,h,_,_,_=>by simp at h
 | d::ds,o::os,i,k,digits,options,h1,h2,h3,h4,h5,h6,h7=>by
   obtain ⟨k,rfl⟩:∃ q,k=q+1:=⟨k-1,by omega⟩
   obtain ⟨d1,d2⟩:=h7 d (by simp)
   simp only [List.length_cons] at h1 h2 h4 h5 h6
   have hA:(List.replicate i (0:Int)++d::ds)[i]?=some d:=by rw [List.getElem?_append_right (by simp)]; simp
   have hil:i<(List.replicate i (0:Int)++d::ds).length:=(List.getElem?_eq_some_iff.1 hA).1
   have ho:options[i]?=some o:=by
    have:(options.drop i)[0]?=some o:=by rw [h3]; rfl
    rwa [List.getElem?_drop,Nat.add_zero] at this
   have hset:∀ x:Int,(List.replicate i (0:Int)++d::ds).set i x=List.replicate i 0++x::ds:=fun x=>by
    rw [List.set_append_right _ _ (by simp)]
    simp
   have hA2:∀ x:Int,(List.replicate i (0:Int)++x::ds)[i]?=some x:=fun x=>by rw [List.getElem?_append_right (by simp)]; simp
   have hw:w64 (d+1)=d+1:=W1 (by omega) (by omega)
   have hmap:(o::os).map List.length=o.length::os.map List.length:=rfl
   rw [hmap]
   by_cases hc:d+1<(o.length:Int)
   ·have:X5 digits options ((i:Int),List.replicate i 0++d::ds)=some (.done (.inr (true,List.replicate i 0++(d+1)::ds))):=by
     unfold X5
     simp only [Y1,Int.toNat_natCast]
     rw [show decide ((i:Int)<(digits.length:Int))=true from decide_eq_true (by omega),k7 hA,hA]
     simp only [cond_true,Option.bind_some,hw,hset]
     rw [k7 (hA2 (d+1)),hA2,k7 ho]
     simp only [Option.bind_some]
     rw [show decide (d+1<(o.length:Int))=true from by simpa using hc]
     rfl
    simp only [y4,this,Option.bind_some,adv,if_pos hc,if_true]
   ·have:X5 digits options ((i:Int),List.replicate i 0++d::ds)=some (.next (((i+1:Nat):Int),List.replicate (i+1) 0++ds)):=by
     unfold X5
     simp only [Y1,Int.toNat_natCast]
     rw [show decide ((i:Int)<(digits.length:Int))=true from decide_eq_true (by omega),k7 hA,hA]
     simp only [cond_true,Option.bind_some,hw,hset]
     rw [k7 (hA2 (d+1)),hA2,k7 ho]
     simp only [Option.bind_some]
     rw [show decide (d+1<(o.length:Int))=false from by simpa using hc,w7 i (by omega)]
     simp only [cond_false]
     rw [List.set_append_right _ _ (by simp)]
     simp [List.replicate_succ']
    simp only [y4,this,Option.bind_some,adv,if_neg hc]
    have ih:=b7M ds os (i+1) k digits options (by omega) (by omega) (by rw [<- List.drop_drop,h3]; rfl) (by omega) (by omega) (by omega) (fun x hx=>h7 x (by simp [hx]))
    rw [ih]
    simp [List.replicate_succ']
theorem c81 (ds:List Int)(os:List (List Int))(h:ds.length=os.length)(hl:ds.length<=4194304)(hd:∀ d∈ds,0<=d/\d<=4194304):a3G ds os=some ((adv ds (os.map List.length)).2,(adv ds (os.map List.length)).1):=by
 have:=b7M ds os 0 (ds.length+1) ds os (by omega) (by omega) rfl h (Nat.le_refl _) (by omega) hd
 have e:y4 (X5 ds os) (ds.length+1) (0,ds)=_:=this
 unfold a3G
 rw [J3,e]
 cases hf:(adv ds (os.map List.length)).2<;>simp [k9]
def a5O (pos:List (List Int))(i:Nat):List Int:=pos.map fun r=>r.getD i 0
def a7Y (z:List (List Int×Int))(i:Nat):List Int:=(z.filter fun q=>q.2==(i:Int)).map fun q=>q.1.getD i 0
def a7f (pos:List (List Int))(z:List (List Int×Int))(i:Nat):Api_Goal:=g0 (a5O pos i) (a7Y z i)
def a6d (w:Nat)(pos:List (List Int))(z:List (List Int×Int)):Option Api_Box :=
 if (List.range w).any (fun i=>b7K (a5O pos i) (a7Y z i))=true then none else some (Api_Box.mk ((List.range w).map fun i=>a6L (a7f pos z i)))
theorem b6R (z:List (List Int×Int))(i:Nat):(a7Y z i).length<=z.length:=by
 unfold a7Y
 rw [List.length_map]
 exact List.length_filter_le _ _
theorem c2B (pos:List (List Int))(i w:Nat)(hp:pos.length<=1000)(hr:∀ r∈pos,r.length=w)(hi:i<w)(g h:List Api_Goal):y4 (a36 pos ((i:Int),g,h)) (pos.length+1) (0,([],[],false))=some (a5O pos i,[],false):=by
 have:=b3D (step:=a36 pos ((i:Int),g,h)) (fun k=>((k:Int),(a5O (pos.take k) i,([]:List Int),false))) pos.length (a5O pos i,[],false) (fun k hk=>by
  have hx:=List.getElem?_eq_getElem hk
  have hl:=hr _ (List.getElem_mem hk)
  generalize pos[k]=r at hx hl
  unfold a36
  simp only [Y1]
  rw [Q1 hk,k7 hx]
  simp only [cond_true,Option.bind_some]
  rw [k7 (b86 (show i<r.length by omega))]
  simp only [Option.bind_some]
  rw [J4 (by unfold a5O; simp only [List.length_map,List.length_take,List.length_cons,List.length_nil]; omega),w7 k (by omega),a5l hx]
  simp [a5O]) (by
  unfold a36
  simp) (pos.length+1) (Nat.le_refl _)
 exact this
theorem c2S (neg opts:List (List Int))(digits:List Int)(i w:Nat)(z:List (List Int×Int))(hn:neg.length<=1000)(hr:∀ r∈neg,r.length=w)(hi:i<w)(hzl:z.length=neg.length)
 (hz:∀ (k:Nat) (q:List Int×Int),z[k]?=some q->neg[k]?=some q.1/\∃ o d,opts[k]?=some o/\digits[k]?=some d/\idx o d=some q.2) (g h:List Api_Goal) (P:List Int) :
 y4 (a37 neg opts digits ((i:Int),g,h)) (neg.length+1) (0,(P,[],false))=some (P,a7Y z i,false):=by
 have:=b3D (step:=a37 neg opts digits ((i:Int),g,h)) (fun k=>((k:Int),(P,a7Y (z.take k) i,false))) neg.length (P,a7Y z i,false) (fun k hk=>by
  have hq:=List.getElem?_eq_getElem (show k<z.length by omega)
  generalize z[k]=q at hq
  obtain ⟨h1,o,d,h2,h3,h4⟩:=hz k q hq
  have hl:=hr _ (List.mem_of_getElem? h1)
  have hneg:a7Y (z.take (k+1)) i=a7Y (z.take k) i++(if q.2==(i:Int) then [q.1.getD i 0] else []):=by
   unfold a7Y
   rw [a5l hq,List.filter_append,List.map_append]
   by_cases e:q.2==(i:Int)<;>simp [e]
  have hlen:=b6R (z.take k) i
  rw [List.length_take] at hlen
  unfold a37
  simp only [Y1,Int.toNat_natCast]
  rw [Q1 hk,k7 h1,k7 h2,k7 h3,h3]
  simp only [cond_true,Option.bind_some]
  rw [h4,hneg]
  simp only [Option.bind_some]
  cases q.2==(i:Int) with
  | true =>
    simp only [cond_true]
    rw [k7 (b86 (show i<q.1.length by omega))]
    simp only [Option.bind_some]
    rw [J4 (by simp only [List.length_cons,List.length_nil]; omega),w7 k (by omega)]
    rfl
  | false =>
    rw [w7 k (by omega)]
    simp) (by
  unfold a37
  rw [List.take_of_length_le (by omega)]
  simp) (neg.length+1) (Nat.le_refl _)
 exact this
theorem c9f (w:Nat)(hw:w<=1000)(pos neg opts:List (List Int))(digits:List Int)(z:List (List Int×Int))(hp:pos.length<=1000)(hpr:∀ r∈pos,r.length=w)(hn:neg.length<=1000)(hnr:∀ r∈neg,r.length=w)(hzl:z.length=neg.length)
 (hz:∀ (k:Nat) (q:List Int×Int),z[k]?=some q->neg[k]?=some q.1/\∃ o d,opts[k]?=some o/\digits[k]?=some d/\idx o d=some q.2) :
 ∃ b,a68 (w:Int) pos neg opts digits=some (b,(a6d w pos z).isSome)/\∀ b',a6d w pos z=some b'->b=b':=by
 have key:=b4K (step:=a2c (w:Int) pos neg opts digits) (fun i=>((i:Int),([]:List Api_Goal),(List.range i).map fun i=>a6L (a7f pos z i))) (fun i=>b7K (a5O pos i) (a7Y z i)) w
  (.inl (([]:List Api_Goal),(List.range w).map fun i=>a6L (a7f pos z i))) (fun q=>∃ q',q=.inr q'/\q'.1=false) (fun i hi hb=>?_) (fun i hi hb=>?_) ?_ (w+1) (Nat.le_refl _)
 ·unfold a68 a8h
  rw [Int.toNat_natCast]
  rcases key with ⟨k1,k2⟩ | ⟨q,k1,⟨q',rfl,k2⟩,i,hi,k3⟩
  ·have k1':y4 (a2c (w:Int) pos neg opts digits) (w+1) (0,[],[])=_:=k1
   have hb:a6d w pos z=some (Api_Box.mk ((List.range w).map fun i=>a6L (a7f pos z i))):=by
    unfold a6d
    rw [if_neg]
    rw [List.any_eq_true]
    rintro ⟨i,hi,h⟩
    rw [k2 i (by simpa using hi)] at h
    cases h
   rw [k1',hb]
   exact ⟨_,rfl,fun b' h=>by simpa using h⟩
  ·have k1':y4 (a2c (w:Int) pos neg opts digits) (w+1) (0,[],[])=_:=k1
   have hb:a6d w pos z=none:=by
    unfold a6d
    rw [if_pos]
    rw [List.any_eq_true]
    exact ⟨i,by simpa using hi,k3⟩
   rw [k1',hb]
   refine ⟨Api_Box.mk q'.2.1,?_,fun b' h=>by cases h⟩
   simp only [Option.bind_some,k9,k2]
   rfl
 ·have b1:=c2B pos i w hp hpr hi ([]:List Api_Goal) ((List.range i).map fun i=>a6L (a7f pos z i))
  have b2:=c2S neg opts digits i w z hn hnr hi hzl hz ([]:List Api_Goal) ((List.range i).map fun i=>a6L (a7f pos z i)) (a5O pos i)
  have h1:(a5O pos i).length<=1000:=by unfold a5O; rw [List.length_map]; exact hp
  have h2:=b6R z i
  unfold a2c
  simp only [Y1,J3]
  rw [Q1 hi,b1]
  simp only [cond_true,Option.bind_some]
  rw [b2]
  simp only [Option.bind_some]
  rw [c2w _ _ (by omega) (by omega),hb]
  simp only [Option.bind_some,cond_false]
  rw [c4o _ _ _ (by omega) (by omega)]
  simp only [Option.bind_some]
  rw [J4 (by simp only [List.length_map,List.length_range,List.length_cons,List.length_nil]; omega),w7 i (by omega)]
  simp [List.range_succ,a6L,a7f]
 ·have b1:=c2B pos i w hp hpr hi ([]:List Api_Goal) ((List.range i).map fun i=>a6L (a7f pos z i))
  have b2:=c2S neg opts digits i w z hn hnr hi hzl hz ([]:List Api_Goal) ((List.range i).map fun i=>a6L (a7f pos z i)) (a5O pos i)
  have h1:(a5O pos i).length<=1000:=by unfold a5O; rw [List.length_map]; exact hp
  have h2:=b6R z i
  refine ⟨.inr (false,((List.range i).map fun i=>a6L (a7f pos z i)),()),?_,_,rfl,rfl⟩
  unfold a2c
  simp only [Y1,J3]
  rw [Q1 hi,b1]
  simp only [cond_true,Option.bind_some]
  rw [b2]
  simp only [Option.bind_some]
  rw [c2w _ _ (by omega) (by omega),hb]
  rfl
 ·unfold a2c
  simp
def a8N (opts:List (List Int))(digits:List Int):List Int:=(opts.zip digits).map fun q=>q.1.getD q.2.toNat 0
def c6t (w:Nat)(pos neg opts:List (List Int)):List Api_Box:=(List.range (tot (opts.map List.length))).filterMap fun k=>a6d w pos (neg.zip (a8N opts (dig (opts.map List.length) k)))
def a4J (d:Int)(vi:Int->Bool)(pos neg:List (List Int)):List Api_Box :=
 if d<0\/4<d\/(∃ r∈pos,(r.length:Int)≠d)\/(∃ r∈neg,(r.length:Int)≠d)\/(∃ r∈neg,a08 vi r=[]) then [] else c6t d.toNat pos neg (neg.map (a08 vi))
theorem b9y {α β:Type}(f:α->Option β)(l:List α)(x:α):(l++[x]).filterMap f=l.filterMap f++(f x).toList:=by
 rw [List.filterMap_append]
 cases h:f x<;>simp [h]
theorem c48 (w:Nat)(hw:w<=1000)(pos neg opts:List (List Int))(hp:pos.length<=1000)(hpr:∀ r∈pos,r.length=w)(hn:neg.length<=1000)(hnr:∀ r∈neg,r.length=w)(hol:opts.length=neg.length)(ho:∀ o∈opts,o≠[]/\o.length<=1000)(ht:tot (opts.map List.length)<=4194304)(n:Nat)(hn2:4194304<=n) :
 ∃ q,y4 (a3c (w:Int) pos neg ((),opts)) n (List.replicate neg.length (0:Int),[])=some (c6t w pos neg opts,q):=by
 have hms:∀ m∈opts.map List.length,1<=m:=fun m hm=>by
  obtain ⟨o,ho1,rfl⟩:=List.mem_map.1 hm
  have:=List.length_pos_iff.2 (ho o ho1).1
  omega
 have htp:=c2R _ hms
 have hml:(opts.map List.length).length=neg.length:=by rw [List.length_map,hol]
 have hd0:List.replicate neg.length (0:Int)=dig (opts.map List.length) 0:=by rw [c1E,hml]
 have hfl:∀ k,((List.range k).filterMap fun k=>a6d w pos (neg.zip (a8N opts (dig (opts.map List.length) k)))).length<=k:=fun k=>Nat.le_trans (List.length_filterMap_le _ _) (by simp)
 have hround:∀ k,k<tot (opts.map List.length)->∃ b27,b27=((List.range (k+1)).filterMap fun k=>a6d w pos (neg.zip (a8N opts (dig (opts.map List.length) k)))) /\
  a3c (w:Int) pos neg ((),opts) (dig (opts.map List.length) k,(List.range k).filterMap fun k=>a6d w pos (neg.zip (a8N opts (dig (opts.map List.length) k)))) =
   some (if (adv (dig (opts.map List.length) k) (opts.map List.length)).2=true then .next ((adv (dig (opts.map List.length) k) (opts.map List.length)).1,b27) else .done (b27,(adv (dig (opts.map List.length) k) (opts.map List.length)).1)):=fun k hk=>by
  have hdl:=b81 (opts.map List.length) k
  have hdm:∀ (j:Nat) (d:Int) (o:List Int),(dig (opts.map List.length) k)[j]?=some d->opts[j]?=some o->0<=d/\d<(o.length:Int):=fun j d o h1 h2=>c1c _ k hms j d o.length h1 (by rw [List.getElem?_map,h2]; rfl)
  have hcl:(a8N opts (dig (opts.map List.length) k)).length=neg.length:=by unfold a8N; rw [List.length_map,List.length_zip,hdl,hml,hol]; omega
  obtain ⟨b,b1,b2⟩:=c9f w hw pos neg opts (dig (opts.map List.length) k) (neg.zip (a8N opts (dig (opts.map List.length) k))) hp hpr hn hnr (by rw [List.length_zip,hcl]; omega) (fun j q hq=>by
   obtain ⟨q1,q2⟩:=c8N hq
   have hj:=(List.getElem?_eq_some_iff.1 q1).1
   have ho1:=List.getElem?_eq_getElem (show j<opts.length by omega)
   have hd1:=List.getElem?_eq_getElem (show j<(dig (opts.map List.length) k).length by omega)
   refine ⟨q1,_,_,ho1,hd1,?_⟩
   obtain ⟨e1,e2⟩:=hdm j _ _ hd1 ho1
   generalize opts[j]=o at ho1 e2
   generalize (dig (opts.map List.length) k)[j]=d at hd1 e1 e2
   have hc:(a8N opts (dig (opts.map List.length) k))[j]?=some (o.getD d.toNat 0):=by
    unfold a8N
    rw [List.getElem?_map,(List.getElem?_zip_eq_some (z:=(o,d))).2 ⟨ho1,hd1⟩]
    rfl
   rw [hc] at q2
   have q3:o.getD d.toNat 0=q.2:=Option.some.inj q2
   have:=k7 (b86 (show d.toNat<o.length by omega))
   rw [show ((d.toNat:Nat):Int)=d by omega] at this
   rw [this,q3])
  refine ⟨_,rfl,?_⟩
  have hfk:=hfl k
  unfold a3c
  simp only
  rw [b1,List.range_succ,b9y]
  simp only [Option.bind_some]
  have hadv:=c81 (dig (opts.map List.length) k) opts (by rw [hdl,hml,hol]) (by rw [hdl,hml]; omega) (fun d hd=>by
   obtain ⟨j,hj,rfl⟩:=List.getElem_of_mem hd
   have hd1:=List.getElem?_eq_getElem hj
   have ho1:=List.getElem?_eq_getElem (show j<opts.length by rw [hdl,hml] at hj; omega)
   obtain ⟨e1,e2⟩:=hdm j _ _ hd1 ho1
   have:=(ho _ (List.mem_of_getElem? ho1)).2
   omega)
  cases hbx:a6d w pos (neg.zip (a8N opts (dig (opts.map List.length) k))) with
  | none =>
    simp only [Option.isSome_none,cond_false,Option.bind_some,Option.toList_none,List.append_nil]
    rw [hadv]
    simp only [Option.bind_some]
    cases (adv (dig (opts.map List.length) k) (opts.map List.length)).2<;>rfl
  | some b' =>
    rw [b2 b' hbx]
    simp only [Option.isSome_some,cond_true,Option.toList_some]
    rw [J4 (by simp only [List.length_cons,List.length_nil]; omega)]
    simp only [Option.bind_some]
    rw [hadv]
    simp only [Option.bind_some]
    cases (adv (dig (opts.map List.length) k) (opts.map List.length)).2<;>rfl
 obtain ⟨b27,e27,hlast⟩:=hround (tot (opts.map List.length)-1) (by omega)
 obtain ⟨_,a2⟩:=b88 (opts.map List.length) (tot (opts.map List.length)-1) hms (by omega)
 rw [a2 (by omega)] at hlast
 simp only [Bool.false_eq_true,if_false] at hlast
 rw [show tot (opts.map List.length)-1+1=tot (opts.map List.length) by omega] at e27
 refine ⟨(adv (dig (opts.map List.length) (tot (opts.map List.length)-1)) (opts.map List.length)).1,?_⟩
 have:=b3D (step:=a3c (w:Int) pos neg ((),opts)) (fun k=>(dig (opts.map List.length) k,(List.range k).filterMap fun k=>a6d w pos (neg.zip (a8N opts (dig (opts.map List.length) k))))) (tot (opts.map List.length)-1) _ (fun k hk=>by
  obtain ⟨b27,e27,hr⟩:=hround k (by omega)
  obtain ⟨a1,_⟩:=b88 (opts.map List.length) k hms (by omega)
  rw [a1 (by omega)] at hr
  rw [hr,e27]
  rfl) hlast n (by omega)
 rw [hd0]
 refine this.trans ?_
 rw [e27]
 rfl
theorem c6l (d:Int)(vi:Int->Bool)(vf:Int->Option Bool)(pos neg:List (List Int))(hp:pos.length<=1000)(hn:neg.length<=10)(hv:∀ r∈neg,∀ x∈r,vf x=some (vi x))(n:Nat)(hn2:4194304<=n) :
 a10 n d pos neg vf=some (a4J d vi pos neg):=by
 unfold a10 a4J
 have hq1:(Option.bind (bif decide (d<0) then some true else some (decide (4<d))) fun q=>some q)=some (decide (d<0\/4<d)):=by
  by_cases h1:d<0
  ·simp [h1]
  ·by_cases h2:4<d<;>simp [h1,h2]
 rw [a3L] at hq1
 rw [hq1,c2V d pos (by omega),c2V d neg (by omega)]
 simp only [Option.bind_some]
 by_cases h0:d<0\/4<d
 ·rw [decide_eq_true h0,if_pos (by rcases h0 with h | h<;>simp [h])]
  rfl
 rw [decide_eq_false h0]
 have h0':¬ d<0/\¬ 4<d:=not_or.1 h0
 simp only [cond_false,Option.bind_some]
 have hall:∀ l:List (List Int),(l.all fun r=>(r.length:Int)==d)=false↔∃ r∈l,(r.length:Int)≠d:=fun l=>by
  rw [List.all_eq_false]
  simp
 cases hP:pos.all fun r=>(r.length:Int)==d with
 | false =>
   rw [if_pos (.inr (.inr (.inl ((hall pos).1 hP))))]
   rfl
 | true =>
   simp only [Bool.not_true,cond_false,Option.bind_some]
   cases hN:neg.all fun r=>(r.length:Int)==d with
   | false =>
     rw [if_pos (.inr (.inr (.inr (.inl ((hall neg).1 hN)))))]
     rfl
   | true =>
     simp only [Bool.not_true,cond_false]
     have hpr:∀ r∈pos,r.length=d.toNat:=fun r hr=>by
      have h1:=List.all_eq_true.1 hP r hr
      have h2:(r.length:Int)=d:=by simpa using h1
      omega
     have hnr:∀ r∈neg,r.length=d.toNat:=fun r hr=>by
      have h1:=List.all_eq_true.1 hN r hr
      have h2:(r.length:Int)=d:=by simpa using h1
      omega
     have hroom:∀ b,b<=1000->a5g (neg.length:Int) (neg.length:Int) b=some neg.length:=fun b hb=>by
      unfold a5g
      have h1:neg.length*b<=10*1000:=Nat.mul_le_mul hn hb
      have h2:((neg.length:Int))*((b:Nat):Int)<=140737488355328:=by rw [<- Int.natCast_mul]; omega
      rw [show (decide (0<=(neg.length:Int))&&decide ((neg.length:Int)<=(neg.length:Int))&&decide ((neg.length:Int)*((b:Nat):Int)<=140737488355328))=true from by simp [h2]]
      simp
     rw [hroom 24 (by omega)]
     simp only [Option.bind_some,J3]
     rcases c6o vi vf neg (by omega) (fun r hr=>by have:=hnr r hr; omega) hv with ⟨k1,k2⟩ | ⟨q,k1,k2,k3⟩
     ·rw [k1]
      simp only [Option.bind_some,k9]
      rw [hroom 8 (by omega)]
      simp only [Option.bind_some]
      have hto:∀ l:List (List Int),(∀ r∈l,r.length<=4)->l.length<=10->tot ((l.map (a08 vi)).map List.length)<=4^l.length:=by
       intro l
       induction l with
       | nil=>intro _ _; simp [tot]
       | cons r l ih =>
         intro h1 h2
         have ih:=ih (fun r hr=>h1 r (by simp [hr])) (by simp at h2; omega)
         simp only [List.map_cons,tot,List.length_cons,Nat.pow_succ]
         have h3:=b6Y vi r r.length
         have h4:=h1 r (by simp)
         have h5:(a08 vi r).length<=4:=by unfold a08; omega
         rw [Nat.mul_comm]
         exact Nat.mul_le_mul ih h5
      have ht:=hto neg (fun r hr=>by have:=hnr r hr; omega) hn
      have hpow:4^neg.length<=4^10:=Nat.pow_le_pow_right (by omega) hn
      obtain ⟨q,hq⟩:=c48 d.toNat (by omega) pos neg (neg.map (a08 vi)) hp hpr (by omega) hnr (by rw [List.length_map]) (fun o ho=>by
       obtain ⟨r,hr,rfl⟩:=List.mem_map.1 ho
       have h3:=b6Y vi r r.length
       have h4:=hnr r hr
       exact ⟨k2 r hr,by unfold a08; omega⟩) (Nat.le_trans (Nat.le_trans ht hpow) (by decide)) n hn2
      rw [show ((d.toNat:Nat):Int)=d by omega] at hq
      rw [hq,if_neg]
      ·rfl
      ·rintro (h | h | ⟨r,hr,h⟩ | ⟨r,hr,h⟩ | ⟨r,hr,h⟩)
       ·exact h0'.1 h
       ·exact h0'.2 h
       ·have:=hpr r hr; omega
       ·have:=hnr r hr; omega
       ·exact k2 r hr h
     ·rw [k1]
      simp only [Option.bind_some,k9]
      rw [if_pos (.inr (.inr (.inr (.inr k3)))),k2]
end Go.Pl
end
section
namespace Go.Pl
open Go Go.RowKit Go.Sx Go.Qx
end Go.Pl
end
section
namespace Go.Pl
open Go Go.RowKit Go.Sx Go.Qx
theorem c3q {d:Int}{vi:Int->Bool}{pos neg:List (List Int)}{b:Api_Box}(h:b∈a4J d vi pos neg):∃ (w:Nat) (ds:List Int),d=(w:Int)/\w<=4/\(∀ r∈pos,r.length=w)/\(∀ r∈neg,r.length=w)/\ds.length=neg.length /\
 (∀ (j:Nat) (r:List Int) (e:Int),neg[j]?=some r->ds[j]?=some e->0<=e/\e<((a08 vi r).length:Int))/\a6d w pos (neg.zip (a8N (neg.map (a08 vi)) ds))=some b:=by
 unfold a4J at h
 split at h
 ·cases h
 rename_i hc
 simp only [not_or,not_exists,not_and] at hc
 obtain ⟨h1,h2,h3,h4,h5⟩:=hc
 unfold c6t at h
 obtain ⟨k,hk,hb⟩:=List.mem_filterMap.1 h
 have hms:∀ m∈(neg.map (a08 vi)).map List.length,1<=m:=fun m hm=>by
  obtain ⟨o,ho,rfl⟩:=List.mem_map.1 hm
  obtain ⟨r,hr,rfl⟩:=List.mem_map.1 ho
  have:=List.length_pos_iff.2 (h5 r hr)
  omega
 refine ⟨d.toNat,dig ((neg.map (a08 vi)).map List.length) k,by omega,by omega,fun r hr=>?_,fun r hr=>?_,by rw [b81,List.length_map,List.length_map],fun j r e hr he=>?_,hb⟩
 ·have:=Classical.not_not.1 (h3 r hr); omega
 ·have:=Classical.not_not.1 (h4 r hr); omega
 ·exact c1c _ k hms j e _ he (by rw [List.getElem?_map,List.getElem?_map,hr]; rfl)
theorem c41 {w:Nat}{pos:List (List Int)}{z:List (List Int×Int)}{b:Api_Box}(h:a6d w pos z=some b):b.Parts=(List.range w).map (fun i=>a6L (a7f pos z i))/\∀ i,i<w->b7K (a5O pos i) (a7Y z i)=false:=by
 unfold a6d at h
 split at h
 ·cases h
 rename_i hc
 have:=Option.some.inj h
 subst this
 refine ⟨rfl,fun i hi=>?_⟩
 cases hm:b7K (a5O pos i) (a7Y z i) with
 | false=>rfl
 | true=>exact absurd (List.any_eq_true.2 ⟨i,by simpa using hi,hm⟩) hc
end Go.Pl
end
section
namespace Go.Pl
open Go Go.RowKit Go.Sx Go.Qx
section
variable {T:Api_Type}
def gIn (N:Nat)(g:Api_Goal):Bool:=g.Pos.all (inR N)&&g.Neg.all (inR N)
theorem c3p (g:Api_Goal)(h1:g.Pos.length<=1000000)(h2:g.Neg.length<=1000000):a3t T g=some (gIn T.Nodes.length g):=by
 unfold a3t
 rw [J4 (by omega),J4 (by omega)]
 simp only [Option.bind_some,J3]
 have l1:=a2d (step:=a1i T g) (g.Pos++g.Neg) (inR T.Nodes.length) (fun i=>(i:Int)) () false (fun i k hk=>by
  have hi:i<(g.Pos++g.Neg).length:=(List.getElem?_eq_some_iff.1 hk).1
  have hi':=hi
  rw [List.length_append] at hi'
  unfold a1i
  simp only [Y1]
  rw [Q1 hi,k7 hk]
  simp only [cond_true,Option.bind_some]
  rw [a90,w7 i (by omega)]
  exact b2w _ _) (by
  unfold a1i
  simp)
 have l1':y4 (a1i T g) ((g.Pos++g.Neg).length+1) 0=_:=l1
 rw [l1',List.all_append]
 unfold gIn
 cases g.Pos.all (inR T.Nodes.length)&&g.Neg.all (inR T.Nodes.length)<;>rfl
end
end Go.Pl
end
section
namespace Go.Pl
open Go Go.RowKit Go.Sx Go.Qx
section
variable {T:Api_Type}
def W4 (T:Api_Type)(k:Int):List Int:=match T.Nodes[k.toNat]? with
 | some x=>x.Kids
 | none=>[]
def a3C (T:Api_Type)(k:Int):Int:=match T.Nodes[k.toNat]? with
 | some x=>x.Kind
 | none=>0
noncomputable def wfB (T:Api_Type):Bool:=inR T.Nodes.length T.Root&&(a3w T.Nodes&&a4m T.Nodes)
theorem c5v (T:Api_Type):∃ c:Int,(if inR T.Nodes.length T.Root&&a3w T.Nodes then (if a4m T.Nodes then (0:Int) else 3) else 1)=c/\(c==0)=wfB T:=by
 refine ⟨_,rfl,?_⟩
 unfold wfB
 cases inR T.Nodes.length T.Root<;>cases a3w T.Nodes<;>cases a4m T.Nodes<;>rfl
def ndB (T:Api_Type)(kind w k:Int):Bool:=inR T.Nodes.length k&&(a3C T k==kind&&((W4 T k).length:Int)==w)
theorem c0p (nodes:List Int)(kind w:Int)(hl:nodes.length<=1000):a2r T nodes kind w=some (if nodes.all (ndB T kind w)=true then (nodes.map (W4 T),true) else ([],false)):=by
 unfold a2r
 have key:=b4K (step:=a1J T nodes kind w) (fun i=>((nodes.take i).map (W4 T),(i:Int))) (fun i=>!(ndB T kind w (nodes.getD i 0))) nodes.length
  (.inl (nodes.map (W4 T))) (fun q=>q=.inr ([],false)) (fun i hi hb=>?_) (fun i hi hb=>?_) ?_ (nodes.length+1) (Nat.le_refl _)
 ·rw [J3]
  rcases key with ⟨k1,k2⟩ | ⟨q,k1,rfl,i,hi,k3⟩
  ·have k1':y4 (a1J T nodes kind w) (nodes.length+1) ([],0)=_:=k1
   rw [k1',if_pos]
   ·rfl
   ·rw [List.all_eq_true]
    intro k hk
    obtain ⟨i,hi,rfl⟩:=List.getElem_of_mem hk
    have:=k2 i hi
    rw [List.getD,List.getElem?_eq_getElem hi,Option.getD_some] at this
    simpa using this
  ·have k1':y4 (a1J T nodes kind w) (nodes.length+1) ([],0)=_:=k1
   rw [k1',if_neg]
   ·rfl
   ·intro h
    have:=List.all_eq_true.1 h _ (List.getElem_mem hi)
    rw [List.getD,List.getElem?_eq_getElem hi,Option.getD_some,this] at k3
    cases k3
 ·have hx:=List.getElem?_eq_getElem hi
  rw [List.getD,hx,Option.getD_some] at hb
  generalize nodes[i]=k at hx hb
  have hb':ndB T kind w k=true:=by simpa using hb
  unfold ndB at hb'
  simp only [Bool.and_eq_true] at hb'
  obtain ⟨j,rfl,hj⟩:=a1X hb'.1
  have ej:=List.getElem?_eq_getElem hj
  have hk:a3C T (j:Int)=T.Nodes[j].Kind:=by unfold a3C; rw [Int.toNat_natCast,ej]
  have hks:W4 T (j:Int)=T.Nodes[j].Kids:=by unfold W4; rw [Int.toNat_natCast,ej]
  rw [hk,hks] at hb'
  unfold a1J
  simp only [Y1]
  rw [Q1 hi,k7 hx]
  simp only [cond_true,Option.bind_some]
  have h1:decide ((j:Int)<0)=false:=by simp
  have h2:decide ((T.Nodes.length:Int)<=(j:Int))=false:=by simp; omega
  rw [h1,k7 ej]
  simp only [cond_false,Option.bind_some,h2]
  have h3:(T.Nodes[j].Kind != kind)=false:=by unfold bne; rw [hb'.2.1]; rfl
  have h4:((T.Nodes[j].Kids.length:Int) != w)=false:=by unfold bne; rw [hb'.2.2]; rfl
  rw [h3]
  simp only [cond_false,Option.bind_some,h4]
  rw [J4 (by simp only [List.length_map,List.length_take,List.length_cons,List.length_nil]; omega),w7 i (by omega)]
  simp only [Option.bind_some]
  rw [a5l hx,List.map_append]
  simp [hks]
 ·have hx:=List.getElem?_eq_getElem hi
  rw [List.getD,hx,Option.getD_some] at hb
  generalize nodes[i]=k at hx hb
  have hb':ndB T kind w k=false:=by simpa using hb
  refine ⟨_,?_,rfl⟩
  unfold a1J
  simp only [Y1]
  rw [Q1 hi,k7 hx]
  simp only [cond_true,Option.bind_some]
  cases hr:inR T.Nodes.length k with
  | false =>
    unfold inR at hr
    by_cases h1:k<0
    ·rw [decide_eq_true h1]; rfl
    ·have h2:(T.Nodes.length:Int)<=k:=by
      simp at hr
      omega
     rw [decide_eq_false h1,decide_eq_true h2]; rfl
  | true =>
    obtain ⟨j,rfl,hj⟩:=a1X hr
    have ej:=List.getElem?_eq_getElem hj
    have hk:a3C T (j:Int)=T.Nodes[j].Kind:=by unfold a3C; rw [Int.toNat_natCast,ej]
    have hks:W4 T (j:Int)=T.Nodes[j].Kids:=by unfold W4; rw [Int.toNat_natCast,ej]
    unfold ndB at hb'
    rw [hr,hk,hks,Bool.true_and] at hb'
    have h1:decide ((j:Int)<0)=false:=by simp
    have h2:decide ((T.Nodes.length:Int)<=(j:Int))=false:=by simp; omega
    rw [h1,k7 ej]
    simp only [cond_false,Option.bind_some,h2]
    cases h3:T.Nodes[j].Kind==kind with
    | false =>
      have:(T.Nodes[j].Kind != kind)=true:=by unfold bne; rw [h3]; rfl
      rw [this]; rfl
    | true =>
      have:(T.Nodes[j].Kind != kind)=false:=by unfold bne; rw [h3]; rfl
      rw [this]
      simp only [cond_false,Option.bind_some]
      rw [h3,Bool.true_and] at hb'
      have h4:((T.Nodes[j].Kids.length:Int) != w)=true:=by unfold bne; rw [hb']; rfl
      rw [h4]; rfl
 ·unfold a1J
  rw [List.take_length]
  simp
theorem c4P {w:Nat}{vi:Int->Bool}{pos neg:List (List Int)}{b:Api_Box}(h:b∈a4J (w:Int) vi pos neg):b.Parts.length=w:=by
 obtain ⟨w',ds,e,_,_,_,_,_,hb⟩:=c3q h
 obtain rfl:w=w':=by omega
 rw [(c41 hb).1,List.length_map,List.length_range]
def viT (T:Api_Type)(k:Int):Bool:=a3C T k != 2
theorem c9Q (h:a3w T.Nodes=true){k:Int}(hr:inR T.Nodes.length k=true):(Option.bind (a0u k T) fun r=>some r)=some (viT T k):=by
 obtain ⟨j,rfl,hj⟩:=a1X hr
 have ej:=List.getElem?_eq_getElem hj
 unfold a0u viT a3C
 rw [k7 ej,Int.toNat_natCast,ej]
 rfl
theorem c7y (h:a3w T.Nodes=true){kind w k:Int}(hk:ndB T kind w k=true):∀ y∈W4 T k,inR T.Nodes.length y=true:=by
 unfold ndB at hk
 simp only [Bool.and_eq_true] at hk
 obtain ⟨j,rfl,hj⟩:=a1X hk.1
 have ej:=List.getElem?_eq_getElem hj
 unfold W4
 rw [Int.toNat_natCast,ej]
 exact a3R (List.all_eq_true.1 h _ (List.getElem_mem hj))
noncomputable def c34 (T:Api_Type)(cons:Bool)(w:Int)(pos neg:List Int):List Api_Box :=
 bif cons then (a4J 2 (viT T) (pos.map (W4 T)) (neg.map (W4 T))).map a3h else a4J w (viT T) (pos.map (W4 T)) (neg.map (W4 T))
theorem c4O (h:a3w T.Nodes=true)(kind w:Int)(pos neg:List Int)(hp:pos.length<=1000)(hn:neg.length<=10)(hng:neg.all (ndB T kind w)=true)(n:Nat)(hf:4194304<=n) :
 a10 n w (pos.map (W4 T)) (neg.map (W4 T)) (fun z=>Option.bind (a0u z T) fun r=>some r)=some (a4J w (viT T) (pos.map (W4 T)) (neg.map (W4 T))) :=
 c6l w (viT T) _ _ _ (by rw [List.length_map]; exact hp) (by rw [List.length_map]; exact hn) (fun r hr x hx=>by
  obtain ⟨k,hk,rfl⟩:=List.mem_map.1 hr
  exact c9Q h (c7y h (List.all_eq_true.1 hng k hk) x hx)) n hf
theorem b9i (hk:∀ x∈T.Nodes,x.Kids.length<=1100000/\x.Fields.length<=1100000)(hN:T.Nodes.length<=1000)(x:Api_Line)(hp:x.Pos.length<=1000)(hn:x.Neg.length<=10)(hK:x.Kind=6\/x.Kind=7)(n:Nat)(hf:4194304<=n) :
 a0Q n T x=some (if (wfB T&&(x.Pos++x.Neg).all (ndB T (if x.Kind=7 then 12 else 10) (if x.Kind=7 then 2 else x.Arity)))=true then (c34 T (x.Kind==7) x.Arity x.Pos x.Neg,0) else ([],1)):=by
 obtain ⟨c,hc,hw⟩:=c5v T
 have hwf:=c9a T hk (by omega) n (by omega)
 rw [hc] at hwf
 have key:∀ kind w:Int,(Option.bind (a0E n T) fun r4 =>
  bif r4 != 0 then (some (([]:List Api_Box),(1:Int)))
  else (Option.bind (a2r T x.Pos kind w) fun r5 =>
   Option.bind (a2r T x.Neg kind w) fun r6 =>
   Option.bind (bif !r5.2 then (some true) else (some (!r6.2))) fun q7 =>
   bif q7 then (some (([]:List Api_Box),1))
   else (Option.bind (a10 n w r5.1 r6.1 (fun z8=>Option.bind (a0u z8 T) fun r9=>some r9)) fun r10 =>
    bif x.Kind==7 then (bif r10.all a4P then (some (r10.map a3h,0)) else none) else (some (r10,0))))) =
  (if (wfB T&&(x.Pos++x.Neg).all (ndB T kind w))=true then (bif x.Kind==7 then (bif (a4J w (viT T) (x.Pos.map (W4 T)) (x.Neg.map (W4 T))).all a4P then some ((a4J w (viT T) (x.Pos.map (W4 T)) (x.Neg.map (W4 T))).map a3h,0) else none)
    else some (a4J w (viT T) (x.Pos.map (W4 T)) (x.Neg.map (W4 T)),0)) else some ([],1)):=fun kind w=>by
  rw [hwf]
  simp only [Option.bind_some]
  have hc2:(c != 0)=!(wfB T):=by unfold bne; rw [hw]
  rw [hc2]
  cases hW:wfB T with
  | false=>rfl
  | true =>
    have hall:a3w T.Nodes=true:=by
     unfold wfB at hW
     simp only [Bool.and_eq_true] at hW
     exact hW.2.1
    rw [c0p _ _ _ hp,c0p _ _ _ (by omega)]
    simp only [Bool.not_true,cond_false,Option.bind_some,Bool.true_and,List.all_append]
    cases hP:x.Pos.all (ndB T kind w) with
    | false=>rfl
    | true =>
      cases hG:x.Neg.all (ndB T kind w) with
      | false=>rfl
      | true =>
        simp only [if_true,Bool.not_true,cond_false,Option.bind_some,Bool.and_self]
        rw [c4O hall kind w x.Pos x.Neg hp hn hG n hf]
        rfl
 unfold a0Q
 rcases hK with h | h
 ·have e6:(x.Kind==6)=true:=by rw [h]; rfl
  have e7:(x.Kind==7)=false:=by rw [h]; rfl
  have n7:¬ x.Kind=7:=by omega
  rw [e6]
  simp only [cond_true,Option.bind_some,k9]
  have hk10:=key 10 x.Arity
  rw [e7] at hk10 ⊢
  refine hk10.trans ?_
  rw [if_neg n7,if_neg n7]
  unfold c34
  split<;>rfl
 ·have e6:(x.Kind==6)=false:=by rw [h]; rfl
  have e7:(x.Kind==7)=true:=by rw [h]; rfl
  rw [e6]
  simp only [cond_false]
  have hk12:=key 12 2
  rw [e7] at hk12 ⊢
  simp only [cond_true,Option.bind_some,k9]
  simp only [cond_true] at hk12
  refine hk12.trans ?_
  rw [if_pos h,if_pos h]
  have hok:(a4J 2 (viT T) (x.Pos.map (W4 T)) (x.Neg.map (W4 T))).all a4P=true:=by
   rw [List.all_eq_true]
   intro b hb
   have:=c4P (w:=2) hb
   unfold a4P
   rw [this]
   rfl
  rw [hok]
  unfold c34
  simp only [cond_true]
  split<;>rfl
theorem b73 (x:Api_Line)(h6:x.Kind≠6)(h7:x.Kind≠7)(n:Nat):a0Q n T x=some ([],9):=by
 unfold a0Q
 have e6:(x.Kind==6)=false:=by simpa using h6
 have e7:(x.Kind==7)=false:=by simpa using h7
 rw [e6,e7]
 rfl
end
end Go.Pl
end
section
namespace Go.Pl
open Go Go.RowKit Go.Sx Go.Qx
theorem c6u (l:List (List Int))(hl:l.length<=1000):a3O l=some (l.all fun x=>!decide (80<(x.length:Int))):=by
 have l1:=a2d (step:=a1B l) l (fun x=>!decide (80<(x.length:Int))) (fun i=>(i:Int)) () false (fun i x hx=>by
  have hi:i<l.length:=(List.getElem?_eq_some_iff.1 hx).1
  unfold a1B
  rw [Q1 hi,k7 hx]
  simp only [cond_true,Option.bind_some,Y1]
  rw [w7 i (by omega)]
  cases decide (80<(x.length:Int))<;>rfl) (by
  unfold a1B
  simp)
 have l1':y4 (a1B l) (l.length+1) 0=_:=l1
 unfold a3O
 rw [J3,l1']
 cases l.all fun x=>!decide (80<(x.length:Int))<;>rfl
structure DT (T:Api_Type):Prop where
 gt:GT T
 one:1<=T.Nodes.length
 len:T.Nodes.length<=7
 root:inR T.Nodes.length T.Root=true
structure DV (v:Val):Prop where
 ok:vOK v=true
 bulk:Z5 v<=1638300
theorem os0 (L:List Int):OS L (Semtypebase_Source.mk L 0):=⟨rfl,by show (0:Int)<=0; omega,by show (0:Int)<=_; omega⟩
theorem c6A (l:List Int)(hl:l.length<=4194304):∃ T,DT T/\∀ m:List Int,m.length<=4194304->∀ n,10000000<=n->∃ v,a3J n l m=some (T,v)/\DV v:=by
 obtain ⟨x,t1,e1,h1,x0,x1⟩:=Y6 hl (os0 l) (n:=7) (by omega) (by omega)
 obtain ⟨x,rfl⟩:=a9R x0
 obtain ⟨ns,t2,e2,h2,hlen,hns⟩:=c6G hl h1 (x+1) (by omega) (by omega)
 have hgt:GT (Api_Type.mk ns 0):=⟨by show ns.length<=10; omega,by show GNs ns.length ns; rw [hlen]; exact hns⟩
 have hDT:DT (Api_Type.mk ns 0):=⟨hgt,by show 1<=ns.length; omega,by show ns.length<=7; omega,b4O (show (0:Int)<=0 by omega) (by show (0:Int)<(ns.length:Int); omega)⟩
 refine ⟨_,hDT,fun m hm n hn=>?_⟩
 obtain ⟨k,t3,e3,h3,k0,k1⟩:=Y6 hm (os0 m) (n:=(ns.length:Int)) (by omega) (by omega)
 obtain ⟨k,rfl⟩:=a9R k0
 obtain ⟨v,u,e4,_,hv,hb⟩:=c8d hm hgt n hn 4 (Nat.le_refl 4) k t3 (by show k<ns.length; omega) h3
 refine ⟨v,?_,hv,hb⟩
 unfold a3J
 rw [e1]
 simp only [Option.bind_some]
 rw [show wr .i64 (1+(x:Int))=((x+1:Nat):Int) by rw [Y1,W1 (by omega) (by omega)]; omega]
 rw [show a06 t1 ((x+1:Nat):Int)=some (Api_Type.mk ns 0,t2) from e2]
 simp only [Option.bind_some]
 rw [e3]
 simp only [Option.bind_some]
 have e4':a2a n t3 (Api_Type.mk ns 0) (k:Int) 4=some (v,u):=e4
 rw [e4']
 rfl
end Go.Pl
end
section
namespace Go.Pl
open Go Go.RowKit Go.Sx Go.Qx
def a1S (_:Int):Nat:=1
def a7H (l:List Int):Nat:=(l.map a1S).sum+1
def a6P (v:Api_Range):Nat:=a1S v.Lo+a1S v.Hi+1
def b2R (l:List Api_Range):Nat:=(l.map a6P).sum+1
def b5M (_:Bool):Nat:=1
def b24 (l:List ByteArray):Nat:=(l.map a0A).sum+1
def a98 (v:Api_Names):Nat:=b5M v.Cofinite+b24 v.List_+1
def b1G (v:Api_Line):Nat:=a1S v.Kind+a1S v.Arity+b2R v.Ints+a98 v.Names+a7H v.Pos+a7H v.Neg+b24 v.Vars+b24 v.NotVars+1
def a34 (v:Api_Field):Nat:=a2y v.Key_+a1S v.Node+b5M v.Optional+1
def a7O (l:List Api_Field):Nat:=(l.map a34).sum+1
def b4W (v:Int×Int):Nat:=a1S v.1+a1S v.2+1
def a0q (v:Api_TypeNode):Nat:=a1S v.Kind+a1S v.Lo+a1S v.Hi+a0A v.Text+a7H v.Kids+a7O v.Fields+b4W v.Rest+1
def a9d (l:List Api_TypeNode):Nat:=(l.map a0q).sum+1
def a3U (v:Api_Type):Nat:=a9d v.Nodes+a1S v.Root+1
theorem c2o {α:Type}(b:α->Nat):∀ {l:List α} {x:α},x∈l->b x<=(l.map b).sum
 | [],_,h=>by cases h
 | y::l,x,h=>by
   rw [List.map_cons,List.sum_cons]
   rcases List.mem_cons.1 h with rfl | h
   ·omega
   ·have:=c2o b h; omega
theorem b8Z {α:Type}(b:α->Nat)(h:∀ x,1<=b x):∀ l:List α,l.length<=(l.map b).sum
 | []=>Nat.zero_le _
 | y::l=>by
   have h1:=h y
   have h2:=b8Z b h l
   rw [List.map_cons,List.sum_cons,List.length_cons]
   omega
end Go.Pl
end
section
namespace Go.Pl
open Go Go.RowKit Go.Sx Go.Qx
theorem c7u (n:Nat):a2q (n+60)=some true:=by kernel_rfl
section
variable {T:Api_Type}
def b3i (T:Api_Type)(x:Api_Line)(k:Int):Bool:=(x.Kind==7&&a3C T k==12)||(x.Kind==6&&a3C T k==10&&((W4 T k).length:Int)==x.Arity)
theorem c2c (x:Api_Line)(hin:(x.Pos++x.Neg).all (inR T.Nodes.length)=true)(hl:(x.Pos++x.Neg).length<=1000):y4 (J0 T x) ((x.Pos++x.Neg).length+1) (true,0)=some ((x.Pos++x.Neg).all (b3i T x)):=by
 have key:∀ (m i k:Nat),i+m=(x.Pos++x.Neg).length->m+1<=k->y4 (J0 T x) k (true,(i:Int))=some (((x.Pos++x.Neg).drop i).all (b3i T x)):=by
  intro m
  induction m with
  | zero =>
    intro i k h1 h2
    obtain ⟨k,rfl⟩:∃ m,k=m+1:=⟨k-1,by omega⟩
    have e:i=(x.Pos++x.Neg).length:=by omega
    have:J0 T x (true,(i:Int))=some (.done true):=by
     unfold J0
     rw [e]
     simp only [Int.lt_irrefl,decide_false,cond_true,cond_false,Option.bind_some]
    rw [List.drop_of_length_le (by omega)]
    simp only [y4,this,Option.bind_some,List.all_nil]
  | succ m ih =>
    intro i k h1 h2
    obtain ⟨k,rfl⟩:∃ m,k=m+1:=⟨k-1,by omega⟩
    have hi:i<(x.Pos++x.Neg).length:=by omega
    have hx:=List.getElem?_eq_getElem hi
    have hinx:=List.all_eq_true.1 hin _ (List.getElem_mem hi)
    rw [List.drop_eq_getElem_cons hi,List.all_cons]
    generalize (x.Pos++x.Neg)[i]=y at hx hinx
    obtain ⟨j,rfl,hj⟩:=a1X hinx
    have ej:=List.getElem?_eq_getElem hj
    have hk:a3C T (j:Int)=T.Nodes[j].Kind:=by unfold a3C; rw [Int.toNat_natCast,ej]
    have hks:W4 T (j:Int)=T.Nodes[j].Kids:=by unfold W4; rw [Int.toNat_natCast,ej]
    have st:J0 T x (true,(i:Int))=some (.next (b3i T x (j:Int),((i+1:Nat):Int))):=by
     unfold J0
     simp only [Y1]
     rw [Q1 hi,k7 hx]
     simp only [cond_true,Option.bind_some]
     rw [k7 ej,w7 i (by omega)]
     simp only [Option.bind_some]
     unfold b3i
     rw [hk,hks]
     cases x.Kind==7<;>cases T.Nodes[j].Kind==12<;>cases x.Kind==6<;>cases T.Nodes[j].Kind==10<;>rfl
    simp only [y4,st,Option.bind_some]
    cases hb:b3i T x (j:Int) with
    | true=>rw [ih (i+1) k (by omega) (by omega),Bool.true_and]
    | false =>
      obtain ⟨k,rfl⟩:∃ m,k=m+1:=⟨k-1,by omega⟩
      have:J0 T x (false,((i+1:Nat):Int))=some (.done false):=rfl
      simp only [y4,this,Option.bind_some,Bool.false_and]
 exact key (x.Pos++x.Neg).length 0 _ (by omega) (Nat.le_refl _)
theorem c4m (h:a3w T.Nodes=true){k:Int}(hr:inR T.Nodes.length k=true)(hk:a3C T k=12):(W4 T k).length=2:=by
 obtain ⟨j,rfl,hj⟩:=a1X hr
 have ej:=List.getElem?_eq_getElem hj
 have hn:=c9B (List.all_eq_true.1 h _ (List.getElem_mem hj))
 unfold a3C at hk
 unfold W4
 rw [Int.toNat_natCast,ej] at hk ⊢
 have hk':T.Nodes[j].Kind=12:=hk
 unfold a3Z at hn
 simp [hk'] at hn
 show T.Nodes[j].Kids.length=2
 omega
theorem c0y (hk:∀ x∈T.Nodes,x.Kids.length<=1100000/\x.Fields.length<=1100000)(hN:T.Nodes.length<=1000)(x:Api_Line)(hp:x.Pos.length<=6)(hn:x.Neg.length<=6)(n:Nat)(hf:4194304<=n):a2b n T x=some true:=by
 unfold a2b
 by_cases hK:x.Kind=6\/x.Kind=7
 ·rw [b9i hk hN x (by omega) (by omega) hK n hf]
  simp only [Option.bind_some]
  have hq:(Option.bind (bif x.Kind != 6 then some (x.Kind != 7) else some false) fun q=>some q)=some false:=by
   rcases hK with h | h<;>rw [h]<;>rfl
  rw [a3L] at hq
  rw [hq]
  simp only [Option.bind_some,cond_false]
  rw [J4 (by omega),J4 (by omega)]
  simp only [Option.bind_some,J3]
  obtain ⟨c,hc,hw⟩:=c5v T
  have hwf:=c79 T hk (by omega) n (by omega)
  rw [hc] at hwf
  rw [hwf]
  simp only [Option.bind_some,hw]
  have hlen:(x.Pos++x.Neg).length<=12:=by rw [List.length_append]; omega
  cases hW:wfB T with
  | false =>
    simp only [cond_false,Option.bind_some,Bool.false_and,Bool.false_eq_true,if_false]
    have:J0 T x (false,0)=some (.done false):=rfl
    simp only [y4,this,Option.bind_some]
    rfl
  | true =>
    have hall:a3w T.Nodes=true:=by
     unfold wfB at hW
     simp only [Bool.and_eq_true] at hW
     exact hW.2.1
    simp only [cond_true,Bool.true_and]
    rw [c3p _ (by show (x.Pos++x.Neg).length<=1000000; omega) (by simp)]
    simp only [Option.bind_some]
    have hgi:gIn T.Nodes.length (Api_Goal.mk (x.Pos++x.Neg) [] false)=(x.Pos++x.Neg).all (inR T.Nodes.length):=by simp [gIn]
    rw [hgi]
    have hsame:(x.Pos++x.Neg).all (ndB T (if x.Kind=7 then 12 else 10) (if x.Kind=7 then 2 else x.Arity))=((x.Pos++x.Neg).all (inR T.Nodes.length)&&(x.Pos++x.Neg).all (b3i T x)):=by
     rw [Bool.eq_iff_iff]
     simp only [Bool.and_eq_true,List.all_eq_true]
     have one:∀ k,ndB T (if x.Kind=7 then 12 else 10) (if x.Kind=7 then 2 else x.Arity) k=true↔inR T.Nodes.length k=true/\b3i T x k=true:=fun k=>by
      unfold ndB b3i
      rcases hK with h | h
      ·rw [if_neg (by omega),if_neg (by omega),h]
       simp
      ·rw [if_pos h,if_pos h,h]
       simp only [Bool.and_eq_true,beq_iff_eq]
       constructor
       ·rintro ⟨h1,h2,h3⟩
        refine ⟨h1,?_⟩
        rw [h2]
        rfl
       ·rintro ⟨h1,h2⟩
        have h12:a3C T k=12:=by simpa using h2
        refine ⟨h1,h12,?_⟩
        have:=c4m hall h1 h12
        omega
     exact ⟨fun h=>⟨fun k hk=>((one k).1 (h k hk)).1,fun k hk=>((one k).1 (h k hk)).2⟩,fun h k hk=>(one k).2 ⟨h.1 k hk,h.2 k hk⟩⟩
    rw [hsame]
    cases hin:(x.Pos++x.Neg).all (inR T.Nodes.length) with
    | false =>
      have:J0 T x (false,0)=some (.done false):=rfl
      simp only [y4,this,Option.bind_some,Bool.false_and,Bool.false_eq_true,if_false]
      rfl
    | true =>
      rw [c2c x hin (by omega)]
      simp only [Option.bind_some,Bool.true_and]
      cases (x.Pos++x.Neg).all (b3i T x)<;>rfl
 ·have h6:x.Kind≠6:=fun h=>hK (.inl h)
  have h7:x.Kind≠7:=fun h=>hK (.inr h)
  rw [b73 x h6 h7 n]
  have e6:(x.Kind != 6)=true:=by simpa using h6
  have e7:(x.Kind != 7)=true:=by simpa using h7
  rw [e6,e7]
  rfl
end
theorem c5u {raw:Api_Type}(h:a3U raw<=1048576):∀ x∈raw.Nodes,x.Kids.length<=1100000/\x.Fields.length<=1100000:=fun x hx=>by
 have h1:a0q x<=(raw.Nodes.map a0q).sum:=c2o a0q hx
 have h4:a3U raw=(raw.Nodes.map a0q).sum+1+1+1:=rfl
 have h5:a0q x<=1048576:=by omega
 have h2:=b8Z a1S (fun _=>Nat.le_refl _) x.Kids
 have h3:=b8Z a34 (fun _=>by unfold a34; omega) x.Fields
 unfold a0q a7H a7O at h5
 omega
theorem b6j (fuel:Nat)(hf:300000000<=fuel)(l:List Int)(x:Api_Line)(raw:Api_Type)(hb:a3U raw<=1048576):a1o fuel l x raw=some true:=by
 have hk:=c5u hb
 obtain ⟨q,hq⟩:∃ q,fuel=q+60:=⟨fuel-60,by omega⟩
 have haw:a2q fuel=some true:=by rw [hq]; exact c7u q
 unfold a1o
 rw [c6u [l] (by simp),haw]
 simp only [Option.bind_some]
 cases hs:([l].all fun x=>!decide (80<(x.length:Int)))
 ·rfl
 have hs':l.length<=80:=by
  simp at hs
  omega
 simp only [Bool.not_true,cond_false,Option.bind_some]
 rcases Bool.eq_false_or_eq_true (decide (6<(x.Pos.length:Int))) with h2 | h2
 ·rw [h2]; rfl
 rw [h2]
 have hpos:x.Pos.length<=6:=by simp at h2; omega
 simp only [cond_false,Option.bind_some]
 rcases Bool.eq_false_or_eq_true (decide (6<(x.Neg.length:Int))) with h3 | h3
 ·rw [h3]; rfl
 rw [h3]
 have hneg:x.Neg.length<=6:=by simp at h3; omega
 simp only [cond_false,Option.bind_some]
 rcases Bool.eq_false_or_eq_true (decide (30<(raw.Nodes.length:Int))) with h4 | h4
 ·rw [h4]; rfl
 rw [h4]
 have hraw:raw.Nodes.length<=30:=by simp at h4; omega
 simp only [cond_false,Option.bind_some]
 obtain ⟨T,hT,hmade⟩:=c6A l (by omega)
 obtain ⟨v,e3,_⟩:=hmade [] (by simp) fuel (by omega)
 have h10:=hT.gt.len
 rw [e3]
 simp only [Option.bind_some]
 rw [c0y hT.gt.small (by omega) x hpos hneg fuel (by omega),c0y hk (by omega) x hpos hneg fuel (by omega)]
 rfl
end Go.Pl
end
section
namespace Go.Proofs
open Go.Shelf
set_option maxRecDepth 100000
def Tryz.lay130_ren:Go.Shelf.Ren:=⟨fun | 189=>130 | 125=>146 | 257=>145 | 128=>163 | 129=>164 | 294=>154 | 295=>155 | 296=>156 | 297=>157 | 298=>158 | 299=>159 | 216=>160 | 300=>161 | 301=>162 | 328=>168 | 329=>169 | 330=>170 | 331=>171 | 332=>172 | 215=>143 | 343=>179 | n=>n,fun | 28=>22 | 3=>3 | 46=>158 | 0=>0 | 51=>174 | 53=>176 | 4=>4 | 183=>166 | 182=>165 | 131=>171 | 5=>5 | 9=>9 | 218=>177 | 222=>181 | 228=>187 | 229=>188 | n=>n,fun | n=>n⟩
theorem Tryz.lay130:Go.Proofs.Lays.n189 Tryz.prog Tryz.lay130_ren:={
 mixed:=by kernel_rfl
 f125:=Tryz.func146.trans (congrArg some (by kernel_rfl))
 f128:=Tryz.func163.trans (congrArg some (by kernel_rfl))
 f129:=Tryz.func164.trans (congrArg some (by kernel_rfl))
 f189:=Tryz.func130.trans (congrArg some (by kernel_rfl))
 f215:=Tryz.func143.trans (congrArg some (by kernel_rfl))
 f216:=Tryz.func160.trans (congrArg some (by kernel_rfl))
 f257:=Tryz.func145.trans (congrArg some (by kernel_rfl))
 f294:=Tryz.func154.trans (congrArg some (by kernel_rfl))
 f295:=Tryz.func155.trans (congrArg some (by kernel_rfl))
 f296:=Tryz.func156.trans (congrArg some (by kernel_rfl))
 f297:=Tryz.func157.trans (congrArg some (by kernel_rfl))
 f298:=Tryz.func158.trans (congrArg some (by kernel_rfl))
 f299:=Tryz.func159.trans (congrArg some (by kernel_rfl))
 f300:=Tryz.func161.trans (congrArg some (by kernel_rfl))
 f301:=Tryz.func162.trans (congrArg some (by kernel_rfl))
 f328:=Tryz.func168.trans (congrArg some (by kernel_rfl))
 f329:=Tryz.func169.trans (congrArg some (by kernel_rfl))
 f330:=Tryz.func170.trans (congrArg some (by kernel_rfl))
 f331:=Tryz.func171.trans (congrArg some (by kernel_rfl))
 f332:=Tryz.func172.trans (congrArg some (by kernel_rfl))
 f343:=Tryz.func179.trans (congrArg some (by kernel_rfl))
 t0:=Tryz.underlying0
 a0:=Tryz.isAgg0
 z0:=Tryz.sizeOf0
 v0:=Tryz.zeroValue0
 t3:=Tryz.underlying3
 a3:=Tryz.isAgg3
 z3:=Tryz.sizeOf3
 v3:=Tryz.zeroValue3
 t4:=Tryz.underlying4
 a4:=Tryz.isAgg4
 z4:=Tryz.sizeOf4
 v4:=Tryz.zeroValue4
 t5:=Tryz.underlying5
 a5:=Tryz.isAgg5
 z5:=Tryz.sizeOf5
 v5:=Tryz.zeroValue5
 t9:=Tryz.underlying9
 a9:=Tryz.isAgg9
 z9:=Tryz.sizeOf9
 v9:=Tryz.zeroValue9
 t28:=Tryz.underlying22
 a28:=Tryz.isAgg22
 z28:=Tryz.sizeOf22
 v28:=Tryz.zeroValue22
 t46:=Tryz.underlying158
 a46:=Tryz.isAgg158
 z46:=Tryz.sizeOf158
 v46:=Tryz.zeroValue158
 t51:=Tryz.underlying174
 a51:=Tryz.isAgg174
 z51:=Tryz.sizeOf174
 v51:=Tryz.zeroValue174
 t53:=Tryz.underlying176
 a53:=Tryz.isAgg176
 z53:=Tryz.sizeOf176
 v53:=Tryz.zeroValue176
 t131:=Tryz.underlying171
 a131:=Tryz.isAgg171
 z131:=Tryz.sizeOf171
 v131:=Tryz.zeroValue171
 t182:=Tryz.underlying165
 a182:=Tryz.isAgg165
 z182:=Tryz.sizeOf165
 v182:=Tryz.zeroValue165
 t183:=Tryz.underlying166
 a183:=Tryz.isAgg166
 z183:=Tryz.sizeOf166
 v183:=Tryz.zeroValue166
 t218:=Tryz.underlying177
 a218:=Tryz.isAgg177
 z218:=Tryz.sizeOf177
 v218:=Tryz.zeroValue177
 t222:=Tryz.underlying181
 a222:=Tryz.isAgg181
 z222:=Tryz.sizeOf181
 v222:=Tryz.zeroValue181
 t228:=Tryz.underlying187
 a228:=Tryz.isAgg187
 z228:=Tryz.sizeOf187
 v228:=Tryz.zeroValue187
 t229:=Tryz.underlying188
 a229:=Tryz.isAgg188
 z229:=Tryz.sizeOf188
 v229:=Tryz.zeroValue188 }
end Go.Proofs
end
section
namespace Go.Qx
open Go Go.RowKit Go.Sx
set_option maxRecDepth 100000
abbrev a96 (v:Api_Field):Key×Int×Bool:=(v.Key_,v.Node,v.Optional)
abbrev b4U (x:Key×Int×Bool):Api_Field:=⟨x.1,x.2.1,x.2.2⟩
@[reducible] def Q2:Rp Api_Field:=a5u a96 (j8 (rpKey) (j8 (rpK .i64) (rpBool)))
abbrev a65 (v:Api_TypeNode):Int×Int×Int×ByteArray×(List Int)×(List Api_Field)×(Int×Int):=(v.Kind,v.Lo,v.Hi,v.Text,v.Kids,v.Fields,v.Rest)
abbrev b0P (x:Int×Int×Int×ByteArray×(List Int)×(List Api_Field)×(Int×Int)):Api_TypeNode:=⟨x.1,x.2.1,x.2.2.1,x.2.2.2.1,x.2.2.2.2.1,x.2.2.2.2.2.1,x.2.2.2.2.2.2⟩
@[reducible] def J2:Rp Api_TypeNode:=a5u a65 (j8 (rpK .i64) (j8 (rpK .i64) (j8 (rpK .i64) (j8 (rpStr) (j8 (@rpList _ (rpK .i64)) (j8 (@rpList _ (Q2)) (j8 (rpK .i64) (rpK .i64))))))))
abbrev b1m (v:Api_Type):(List Api_TypeNode)×Int:=(v.Nodes,v.Root)
abbrev b6A (x:(List Api_TypeNode)×Int):Api_Type:=⟨x.1,x.2⟩
@[reducible] def a2Z:Rp Api_Type:=a5u b1m (j8 (@rpList _ (J2)) (rpK .i64))
abbrev a9P (v:Api_Names):Bool×(List ByteArray):=(v.Cofinite,v.List_)
abbrev b4N (x:Bool×(List ByteArray)):Api_Names:=⟨x.1,x.2⟩
@[reducible] def X4:Rp Api_Names:=a5u a9P (j8 (rpBool) (@rpList _ (rpStr)))
abbrev a91 (v:Api_Range):Int×Int:=(v.Lo,v.Hi)
abbrev b5C (x:Int×Int):Api_Range:=⟨x.1,x.2⟩
@[reducible] def K5:Rp Api_Range:=a5u a91 (j8 (rpK .i64) (rpK .i64))
abbrev b1T (v:Api_Line):Int×Int×(List Api_Range)×Api_Names×(List Int)×(List Int)×(List ByteArray)×(List ByteArray):=(v.Kind,v.Arity,v.Ints,v.Names,v.Pos,v.Neg,v.Vars,v.NotVars)
abbrev b6E (x:Int×Int×(List Api_Range)×Api_Names×(List Int)×(List Int)×(List ByteArray)×(List ByteArray)):Api_Line:=⟨x.1,x.2.1,x.2.2.1,x.2.2.2.1,x.2.2.2.2.1,x.2.2.2.2.2.1,x.2.2.2.2.2.2.1,x.2.2.2.2.2.2.2⟩
@[reducible] def a20:Rp Api_Line:=a5u b1T (j8 (rpK .i64) (j8 (rpK .i64) (j8 (@rpList _ (K5)) (j8 (X4) (j8 (@rpList _ (rpK .i64)) (j8 (@rpList _ (rpK .i64)) (j8 (@rpList _ (rpStr)) (@rpList _ (rpStr)))))))))
abbrev a4j (v:Semtypebase_Source):(List Int)×Int:=(v.L,v.At)
abbrev a6r (x:(List Int)×Int):Semtypebase_Source:=⟨x.1,x.2⟩
@[reducible] def a0M:Rp Semtypebase_Source:=a5u a4j (j8 (@rpList _ (rpK .i64)) (rpK .i64))
abbrev b1y (v:Api_Goal):(List Int)×(List Int)×Bool:=(v.Pos,v.Neg,v.Lists)
abbrev b6L (x:(List Int)×(List Int)×Bool):Api_Goal:=⟨x.1,x.2.1,x.2.2⟩
@[reducible] def X8:Rp Api_Goal:=a5u b1y (j8 (@rpList _ (rpK .i64)) (j8 (@rpList _ (rpK .i64)) (rpBool)))
abbrev a2h (v:Api_Box):(List Api_Goal):=v.Parts
abbrev c3o (x:(List Api_Goal)):Api_Box:=⟨x⟩
@[reducible] def b3X:Rp Api_Box:=a5u a2h (@rpList _ (X8))
abbrev a8L (v:Value_used):Bool×Bool×Bool×Bool×Bool:=(v.number,v.text_,v.kids,v.keys,v.entries)
abbrev b4c (x:Bool×Bool×Bool×Bool×Bool):Value_used:=⟨x.1,x.2.1,x.2.2.1,x.2.2.2.1,x.2.2.2.2⟩
@[reducible] def a3A:Rp Value_used:=a5u a8L (j8 (rpBool) (j8 (rpBool) (j8 (rpBool) (j8 (rpBool) (rpBool)))))
def tyL:List TE:=[⟨2,Int,rpK .i64⟩,
 ⟨3,Int,rpK .i64⟩,
 ⟨4,Bool,rpBool⟩,
 ⟨9,ByteArray,rpStr⟩,
 ⟨22,List Int,@rpList _ (rpK .i64)⟩,
 ⟨25,List Api_TypeNode,@rpList _ (J2)⟩,
 ⟨27,Api_Type,a2Z⟩,
 ⟨28,List Val,@rpList _ (rpVal)⟩,
 ⟨29,List Key,@rpList _ (rpKey)⟩,
 ⟨30,List Ent,@rpList _ (rpEnt)⟩,
 ⟨31,List ByteArray,@rpList _ (rpStr)⟩,
 ⟨33,Val,rpVal⟩,
 ⟨36,List Api_Range,@rpList _ (K5)⟩,
 ⟨38,Api_Names,X4⟩,
 ⟨40,Api_Line,a20⟩,
 ⟨44,Semtypebase_Source,a0M⟩,
 ⟨50,List Api_Goal,@rpList _ (X8)⟩,
 ⟨52,Api_Box,b3X⟩,
 ⟨56,Api_Goal,X8⟩,
 ⟨62,List Api_Field,@rpList _ (Q2)⟩,
 ⟨63,Int×Int,j8 (rpK .i64) (rpK .i64)⟩,
 ⟨65,Api_TypeNode,J2⟩,
 ⟨88,Ent,rpEnt⟩,
 ⟨109,Key,rpKey⟩,
 ⟨111,Api_Field,Q2⟩,
 ⟨149,Value_used,a3A⟩,
 ⟨206,Api_Range,K5⟩]
abbrev I (E:TypeId):Type:=(a6T tyL E).α
instance rI (E:TypeId):Rp (I E):=(a6T tyL E).rp
def c2a:Fd I (I 27) inferInstance:=(a1p (rg:=a2Z) (w6 (K6 65:Fd I (List Api_TypeNode) (@rpList _ (J2))) ((a0b .i64:Fd I Int (rpK .i64)))) b1m b6A (fun _=>rfl) (fun _ _ _=>Iff.rfl):Fd I Api_Type a2Z)
def c4u:Fd I (I 33) inferInstance:=(a1p (rg:=rpVal) (w6 (a0b .i64:Fd I Int (rpK .i64)) (w6 (a0b .i64:Fd I Int (rpK .i64)) (w6 (b0S:Fd I ByteArray (rpStr)) (w6 (K6 33:Fd I (List Val) (@rpList _ (rpVal))) (w6 (K6 109:Fd I (List Key) (@rpList _ (rpKey))) (w6 (K6 88:Fd I (List Ent) (@rpList _ (rpEnt))) ((K6 9:Fd I (List ByteArray) (@rpList _ (rpStr)))))))))) Val.to Val.of (fun _=>rfl) Val.cells_to:Fd I Val rpVal)
def b40:Fd I (I 38) inferInstance:=(a1p (rg:=X4) (w6 (a1y:Fd I Bool (rpBool)) ((K6 9:Fd I (List ByteArray) (@rpList _ (rpStr))))) a9P b4N (fun _=>rfl) (fun _ _ _=>Iff.rfl):Fd I Api_Names X4)
def c2d:Fd I (I 40) inferInstance:=(a1p (rg:=a20) (w6 (a0b .i64:Fd I Int (rpK .i64)) (w6 (a0b .i64:Fd I Int (rpK .i64)) (w6 (K6 206:Fd I (List Api_Range) (@rpList _ (K5))) (w6 (b02 38 b40:Fd I Api_Names (X4)) (w6 (K6 3:Fd I (List Int) (@rpList _ (rpK .i64))) (w6 (K6 3:Fd I (List Int) (@rpList _ (rpK .i64))) (w6 (K6 9:Fd I (List ByteArray) (@rpList _ (rpStr))) ((K6 9:Fd I (List ByteArray) (@rpList _ (rpStr))))))))))) b1T b6E (fun _=>rfl) (fun _ _ _=>Iff.rfl):Fd I Api_Line a20)
def b2y:Fd I (I 44) inferInstance:=(a1p (rg:=a0M) (w6 (K6 3:Fd I (List Int) (@rpList _ (rpK .i64))) ((a0b .i64:Fd I Int (rpK .i64)))) a4j a6r (fun _=>rfl) (fun _ _ _=>Iff.rfl):Fd I Semtypebase_Source a0M)
def c3I:Fd I (I 52) inferInstance:=(a1p (rg:=b3X) ((K6 56:Fd I (List Api_Goal) (@rpList _ (X8)))) a2h c3o (fun _=>rfl) (fun _ _ _=>Iff.rfl):Fd I Api_Box b3X)
def c16:Fd I (I 56) inferInstance:=(a1p (rg:=X8) (w6 (K6 3:Fd I (List Int) (@rpList _ (rpK .i64))) (w6 (K6 3:Fd I (List Int) (@rpList _ (rpK .i64))) ((a1y:Fd I Bool (rpBool))))) b1y b6L (fun _=>rfl) (fun _ _ _=>Iff.rfl):Fd I Api_Goal X8)
def c5t:Fd I (I 63) inferInstance:=(w6 (a0b .i64:Fd I Int (rpK .i64)) ((a0b .i64:Fd I Int (rpK .i64))):Fd I (Int×Int) (j8 (rpK .i64) (rpK .i64)))
def b8o:Fd I (I 65) inferInstance:=(a1p (rg:=J2) (w6 (a0b .i64:Fd I Int (rpK .i64)) (w6 (a0b .i64:Fd I Int (rpK .i64)) (w6 (a0b .i64:Fd I Int (rpK .i64)) (w6 (b0S:Fd I ByteArray (rpStr)) (w6 (K6 3:Fd I (List Int) (@rpList _ (rpK .i64))) (w6 (K6 111:Fd I (List Api_Field) (@rpList _ (Q2))) ((b02 63 c5t:Fd I (Int×Int) (j8 (rpK .i64) (rpK .i64)))))))))) a65 b0P (fun _=>rfl) (fun _ _ _=>Iff.rfl):Fd I Api_TypeNode J2)
def c9e:Fd I (I 88) inferInstance:=(a1p (rg:=rpEnt) (w6 (K6 33:Fd I (List Val) (@rpList _ (rpVal))) (w6 (a1y:Fd I Bool (rpBool)) ((b02 33 c4u:Fd I Val (rpVal))))) Ent.to Ent.of (fun _=>rfl) Ent.cells_to:Fd I Ent rpEnt)
def c4T:Fd I (I 109) inferInstance:=(a1p (rg:=rpKey) (w6 (a0b .i64:Fd I Int (rpK .i64)) ((b0S:Fd I ByteArray (rpStr)))) Key.to Key.of (fun _=>rfl) Key.cells_to:Fd I Key rpKey)
def c0s:Fd I (I 111) inferInstance:=(a1p (rg:=Q2) (w6 (b02 109 c4T:Fd I Key (rpKey)) (w6 (a0b .i64:Fd I Int (rpK .i64)) ((a1y:Fd I Bool (rpBool))))) a96 b4U (fun _=>rfl) (fun _ _ _=>Iff.rfl):Fd I Api_Field Q2)
def b93:Fd I (I 149) inferInstance:=(a1p (rg:=a3A) (w6 (a1y:Fd I Bool (rpBool)) (w6 (a1y:Fd I Bool (rpBool)) (w6 (a1y:Fd I Bool (rpBool)) (w6 (a1y:Fd I Bool (rpBool)) ((a1y:Fd I Bool (rpBool))))))) a8L b4c (fun _=>rfl) (fun _ _ _=>Iff.rfl):Fd I Value_used a3A)
def c1y:Fd I (I 206) inferInstance:=(a1p (rg:=K5) (w6 (a0b .i64:Fd I Int (rpK .i64)) ((a0b .i64:Fd I Int (rpK .i64)))) a91 b5C (fun _=>rfl) (fun _ _ _=>Iff.rfl):Fd I Api_Range K5)
def feL:List (FE I):=[⟨2,a0b .i64⟩,
 ⟨3,a0b .i64⟩,
 ⟨4,a1y⟩,
 ⟨9,b0S⟩,
 ⟨22,K6 3⟩,
 ⟨25,K6 65⟩,
 ⟨27,c2a⟩,
 ⟨28,K6 33⟩,
 ⟨29,K6 109⟩,
 ⟨30,K6 88⟩,
 ⟨31,K6 9⟩,
 ⟨33,c4u⟩,
 ⟨36,K6 206⟩,
 ⟨38,b40⟩,
 ⟨40,c2d⟩,
 ⟨44,b2y⟩,
 ⟨50,K6 56⟩,
 ⟨52,c3I⟩,
 ⟨56,c16⟩,
 ⟨62,K6 111⟩,
 ⟨63,c5t⟩,
 ⟨65,b8o⟩,
 ⟨88,c9e⟩,
 ⟨109,c4T⟩,
 ⟨111,c0s⟩,
 ⟨149,b93⟩,
 ⟨206,c1y⟩]
def c8M:TabL I where
 sz:=[(27,2),(33,7),(40,9),(52,1),(56,3),(63,2),(65,8),(88,9),(109,2),(111,4),(149,5)]
 one:=[(2,()),(3,()),(4,()),(9,()),(22,()),(25,()),(28,()),(29,()),(30,()),(31,()),(50,()),(62,()),(74,())]
 fld:=[(27,[(0,25),(1,3)]),(33,[(0,3),(1,2),(2,9),(3,28),(4,29),(5,30),(6,31)]),(40,[(0,3),(1,3),(2,36),(3,38),(5,22),(6,22),(7,31),(8,31)]),(44,[(0,22),(1,3)]),(52,[(0,50)]),(56,[(0,22),(1,22),(2,4)]),(65,[(0,3),(1,2),(2,2),(3,9),(4,22),(5,62),(6,63)]),(88,[(0,28),(1,4),(2,33)]),(109,[(0,3),(1,9)]),(111,[(0,109),(2,3),(3,4)]),(149,[(0,4),(1,4),(2,4),(3,4),(4,4)])]
 el:=[(22,3),(25,65),(28,33),(29,109),(30,88),(31,9),(45,52),(50,56),(60,22),(62,111),(91,4),(93,2)]
 str:=[(9,())]
 bool:=[(4,())]
 ik:=[]
 fe:=feL
 inf:=[(2,1,8,[.int .i64 0]),(3,1,8,[.int .i64 0]),(4,1,1,[.bool false]),(9,1,16,[.str ⟨#[]⟩]),(22,1,24,[.nl 3]),(25,1,24,[.nl 65]),(27,2,32,[.nl 65,.int .i64 0]),(28,1,24,[.nl 33]),(29,1,24,[.nl 109]),(31,1,24,[.nl 9]),(33,7,128,[.int .i64 0,.int .i64 0,.str ⟨#[]⟩,.nl 33,.nl 109,.nl 88,.nl 9]),(40,9,168,[.int .i64 0,.int .i64 0,.nl 206,.bool false,.nl 9,.nl 3,.nl 3,.nl 9,.nl 9]),(44,2,32,[.nl 3,.int .i64 0]),(50,1,24,[.nl 56]),(52,1,24,[.nl 56]),(56,3,56,[.nl 3,.nl 3,.bool false]),(62,1,24,[.nl 111]),(63,2,16,[.int .i64 0,.int .i64 0]),(65,8,104,[.int .i64 0,.int .i64 0,.int .i64 0,.str ⟨#[]⟩,.nl 3,.nl 111,.int .i64 0,.int .i64 0]),(74,1,8,[.any]),(88,9,160,[.nl 33,.bool false,.int .i64 0,.int .i64 0,.str ⟨#[]⟩,.nl 33,.nl 109,.nl 88,.nl 9]),(109,2,24,[.int .i64 0,.str ⟨#[]⟩]),(111,4,40,[.int .i64 0,.str ⟨#[]⟩,.int .i64 0,.bool false]),(149,5,5,[.bool false,.bool false,.bool false,.bool false,.bool false])]
 st:=[(27,[(0,1),(1,1)]),(33,[(0,1),(1,1),(2,1),(3,1),(4,1),(5,1),(6,1)]),(40,[(0,1),(1,1),(2,1),(3,2),(5,1),(6,1),(7,1),(8,1)]),(44,[(0,1),(1,1)]),(52,[(0,1)]),(56,[(0,1),(1,1),(2,1)]),(63,[(0,1),(1,1)]),(65,[(0,1),(1,1),(2,1),(3,1),(4,1),(5,1),(6,2)]),(109,[(0,1),(1,1)]),(111,[(0,2),(2,1),(3,1)]),(149,[(0,1),(1,1),(2,1),(3,1),(4,1)])]
 eq:=[(63,b5o feL 63 a50),(109,b5o feL 109 a4n)]
 nest:=[(22,3,0)]
 arr:=[(63,3,2,1)]
 fb:=[(22,()),(28,()),(70,()),(75,()),(77,()),(93,()),(94,()),(96,()),(97,()),(99,()),(101,()),(111,()),(112,()),(128,()),(150,()),(166,())]
abbrev tb:Tab I:=c3c c8M
theorem ti2:J8 Go.Proofs.Tryz.prog 2 (.int .i64 0) 1 8:=K0 (by kernel_rfl)
theorem ti3:J8 Go.Proofs.Tryz.prog 3 (.int .i64 0) 1 8:=K0 (by kernel_rfl)
theorem ti4:J8 Go.Proofs.Tryz.prog 4 (.bool false) 1 1:=K0 (by kernel_rfl)
theorem ti9:J8 Go.Proofs.Tryz.prog 9 (.string ⟨#[]⟩) 1 16:=K0 (by kernel_rfl)
theorem c3v:J8 Go.Proofs.Tryz.prog 22 (.slice none 0 0) 1 24:=K0 (by kernel_rfl)
theorem c9t:J8 Go.Proofs.Tryz.prog 25 (.slice none 0 0) 1 24:=K0 (by kernel_rfl)
theorem c8Z:J8 Go.Proofs.Tryz.prog 27 (.agg #[.slice none 0 0,.int .i64 0]) 2 32:=K0 (by kernel_rfl)
theorem c9i:J8 Go.Proofs.Tryz.prog 28 (.slice none 0 0) 1 24:=K0 (by kernel_rfl)
theorem c9A:J8 Go.Proofs.Tryz.prog 29 (.slice none 0 0) 1 24:=K0 (by kernel_rfl)
theorem c9I:J8 Go.Proofs.Tryz.prog 31 (.slice none 0 0) 1 24:=K0 (by kernel_rfl)
theorem c3z:J8 Go.Proofs.Tryz.prog 33 (.agg #[.int .i64 0,.int .i64 0,.string ⟨#[]⟩,.slice none 0 0,.slice none 0 0,.slice none 0 0,.slice none 0 0]) 7 128:=K0 (by kernel_rfl)
theorem c9z:J8 Go.Proofs.Tryz.prog 40 (.agg #[.int .i64 0,.int .i64 0,.slice none 0 0,.bool false,.slice none 0 0,.slice none 0 0,.slice none 0 0,.slice none 0 0,.slice none 0 0]) 9 168:=K0 (by kernel_rfl)
theorem c9C:J8 Go.Proofs.Tryz.prog 44 (.agg #[.slice none 0 0,.int .i64 0]) 2 32:=K0 (by kernel_rfl)
theorem c8p:J8 Go.Proofs.Tryz.prog 50 (.slice none 0 0) 1 24:=K0 (by kernel_rfl)
theorem c3U:J8 Go.Proofs.Tryz.prog 52 (.agg #[.slice none 0 0]) 1 24:=K0 (by kernel_rfl)
theorem c3d:J8 Go.Proofs.Tryz.prog 56 (.agg #[.slice none 0 0,.slice none 0 0,.bool false]) 3 56:=K0 (by kernel_rfl)
theorem c8D:J8 Go.Proofs.Tryz.prog 62 (.slice none 0 0) 1 24:=K0 (by kernel_rfl)
theorem c8G:J8 Go.Proofs.Tryz.prog 63 (.agg #[.int .i64 0,.int .i64 0]) 2 16:=K0 (by kernel_rfl)
theorem c3a:J8 Go.Proofs.Tryz.prog 65 (.agg #[.int .i64 0,.int .i64 0,.int .i64 0,.string ⟨#[]⟩,.slice none 0 0,.slice none 0 0,.int .i64 0,.int .i64 0]) 8 104:=K0 (by kernel_rfl)
theorem c9s:J8 Go.Proofs.Tryz.prog 74 (.nilFunc) 1 8:=K0 (by kernel_rfl)
theorem c28:J8 Go.Proofs.Tryz.prog 88 (.agg #[.slice none 0 0,.bool false,.int .i64 0,.int .i64 0,.string ⟨#[]⟩,.slice none 0 0,.slice none 0 0,.slice none 0 0,.slice none 0 0]) 9 160:=K0 (by kernel_rfl)
theorem c0h:J8 Go.Proofs.Tryz.prog 109 (.agg #[.int .i64 0,.string ⟨#[]⟩]) 2 24:=K0 (by kernel_rfl)
theorem c0k:J8 Go.Proofs.Tryz.prog 111 (.agg #[.int .i64 0,.string ⟨#[]⟩,.int .i64 0,.bool false]) 4 40:=K0 (by kernel_rfl)
theorem c6T:J8 Go.Proofs.Tryz.prog 149 (.agg #[.bool false,.bool false,.bool false,.bool false,.bool false]) 5 5:=K0 (by kernel_rfl)
theorem to2:a2u Go.Proofs.Tryz.prog 2:=⟨_,Go.Proofs.Tryz.underlying2,rfl,by kernel_rfl⟩
theorem to3:a2u Go.Proofs.Tryz.prog 3:=⟨_,Go.Proofs.Tryz.underlying3,rfl,by kernel_rfl⟩
theorem to4:a2u Go.Proofs.Tryz.prog 4:=⟨_,Go.Proofs.Tryz.underlying4,rfl,by kernel_rfl⟩
theorem to9:a2u Go.Proofs.Tryz.prog 9:=⟨_,Go.Proofs.Tryz.underlying9,rfl,by kernel_rfl⟩
theorem c8l:a2u Go.Proofs.Tryz.prog 22:=⟨_,Go.Proofs.Tryz.underlying22,rfl,by kernel_rfl⟩
theorem c8o:a2u Go.Proofs.Tryz.prog 25:=⟨_,Go.Proofs.Tryz.underlying25,rfl,by kernel_rfl⟩
theorem c8S:a2u Go.Proofs.Tryz.prog 28:=⟨_,Go.Proofs.Tryz.underlying28,rfl,by kernel_rfl⟩
theorem c85:a2u Go.Proofs.Tryz.prog 29:=⟨_,Go.Proofs.Tryz.underlying29,rfl,by kernel_rfl⟩
theorem c89:a2u Go.Proofs.Tryz.prog 30:=⟨_,Go.Proofs.Tryz.underlying30,rfl,by kernel_rfl⟩
theorem c9J:a2u Go.Proofs.Tryz.prog 31:=⟨_,Go.Proofs.Tryz.underlying31,rfl,by kernel_rfl⟩
theorem c56:a2u Go.Proofs.Tryz.prog 50:=⟨_,Go.Proofs.Tryz.underlying50,rfl,by kernel_rfl⟩
theorem c8J:a2u Go.Proofs.Tryz.prog 62:=⟨_,Go.Proofs.Tryz.underlying62,rfl,by kernel_rfl⟩
theorem c8Y:a2u Go.Proofs.Tryz.prog 74:=⟨_,Go.Proofs.Tryz.underlying74,rfl,by kernel_rfl⟩
theorem d0L {σ:S}{x y:Int×Int}{cs ds:List Value}(h:(rI 63).cells σ x cs)(k:(rI 63).cells σ y ds):Sx.EqAt Go.Proofs.Tryz.prog 2 63 (.agg cs.toArray) (.agg ds.toArray) (a50 x y):=by
 obtain ⟨_,_,rfl,rfl,rfl⟩:=h
 obtain ⟨_,_,rfl,rfl,rfl⟩:=k
 exact c1Q Go.Proofs.Tryz.underlying63 ti3 (b03 (a0T to3 rfl) (a0T to3 rfl) (a71 Go.Proofs.Tryz.underlying3) (b03 (a0T to3 rfl) (a0T to3 rfl) (a71 Go.Proofs.Tryz.underlying3) c0u))
theorem c9Y {σ:S}{x y:Key}{cs ds:List Value}(h:(rI 109).cells σ x cs)(k:(rI 109).cells σ y ds):Sx.EqAt Go.Proofs.Tryz.prog 2 109 (.agg cs.toArray) (.agg ds.toArray) (a4n x y):=by
 obtain ⟨_,_,rfl,rfl,rfl⟩:=h
 obtain ⟨_,_,rfl,rfl,rfl⟩:=k
 exact b6G Go.Proofs.Tryz.underlying109 (by kernel_rfl) (b09 (by decide) (a0T to3 rfl) (a0T to3 rfl) (a71 Go.Proofs.Tryz.underlying3) (b09 (by decide) (a0T to9 rfl) (a0T to9 rfl) (c0C Go.Proofs.Tryz.underlying9) c1r))
theorem eqT (T:TypeId)(g:I T->I T->Bool){K:Nat}(h:∀ {σ:S} {x y:I T} {cs ds:List Value},Rp.cells σ x cs->Rp.cells σ y ds->Sx.EqAt Go.Proofs.Tryz.prog K T (.agg cs.toArray) (.agg ds.toArray) (g x y))(hg:Go.Proofs.Tryz.prog.eqGuardType (Go.Proofs.Tryz.prog).depth T=false)(hK:Nat.ble K 10000=true)
 {X:Cxt} {c:Cx} {σ:S} {ls ms:List (PV I)} {r:Bool} {cs ds:List Value} (h1:b5o feL T g ls ms=some r) (h2:RG X c σ ls cs) (h3:RG X c σ ms ds) :
 Go.Proofs.Tryz.prog.eqGuardType (Go.Proofs.Tryz.prog).depth T=false/\∃ j,Nat.ble j 10000=true/\Sx.EqAt Go.Proofs.Tryz.prog j T (.agg cs.toArray) (.agg ds.toArray) r:=by
 obtain ⟨x,y,k1,k2,rfl⟩:=c2D h1 h2 h3
 exact ⟨hg,K,hK,h k1 k2⟩
theorem c9w:TabLOk Go.Proofs.Tryz.prog c8M where
 sz:=⟨⟨_,Go.Proofs.Tryz.underlying27,rfl,by kernel_rfl⟩,⟨⟨_,Go.Proofs.Tryz.underlying33,rfl,by kernel_rfl⟩,⟨⟨_,Go.Proofs.Tryz.underlying40,rfl,by kernel_rfl⟩,⟨⟨_,Go.Proofs.Tryz.underlying52,rfl,by kernel_rfl⟩,⟨⟨_,Go.Proofs.Tryz.underlying56,rfl,by kernel_rfl⟩,⟨⟨_,Go.Proofs.Tryz.underlying63,rfl,by kernel_rfl⟩,⟨⟨_,Go.Proofs.Tryz.underlying65,rfl,by kernel_rfl⟩,⟨⟨_,Go.Proofs.Tryz.underlying88,rfl,by kernel_rfl⟩,⟨⟨_,Go.Proofs.Tryz.underlying109,rfl,by kernel_rfl⟩,⟨⟨_,Go.Proofs.Tryz.underlying111,rfl,by kernel_rfl⟩,⟨⟨_,Go.Proofs.Tryz.underlying149,rfl,by kernel_rfl⟩,trivial⟩⟩⟩⟩⟩⟩⟩⟩⟩⟩⟩
 one:=⟨to2,⟨to3,⟨to4,⟨to9,⟨c8l,⟨c8o,⟨c8S,⟨c85,⟨c89,⟨c9J,⟨c56,⟨c8J,⟨c8Y,trivial⟩⟩⟩⟩⟩⟩⟩⟩⟩⟩⟩⟩⟩
 fld:=⟨⟨⟨_,_,Go.Proofs.Tryz.underlying27,rfl,rfl,by kernel_rfl⟩,⟨⟨_,_,Go.Proofs.Tryz.underlying27,rfl,rfl⟩,⟨⟨_,_,Go.Proofs.Tryz.underlying27,rfl,rfl,by kernel_rfl⟩,⟨⟨_,_,Go.Proofs.Tryz.underlying27,rfl,rfl⟩,trivial⟩⟩⟩⟩,⟨⟨⟨_,_,Go.Proofs.Tryz.underlying33,rfl,rfl,by kernel_rfl⟩,⟨⟨_,_,Go.Proofs.Tryz.underlying33,rfl,rfl⟩,⟨⟨_,_,Go.Proofs.Tryz.underlying33,rfl,rfl,by kernel_rfl⟩,⟨⟨_,_,Go.Proofs.Tryz.underlying33,rfl,rfl⟩,⟨⟨_,_,Go.Proofs.Tryz.underlying33,rfl,rfl,by kernel_rfl⟩,⟨⟨_,_,Go.Proofs.Tryz.underlying33,rfl,rfl⟩,⟨⟨_,_,Go.Proofs.Tryz.underlying33,rfl,rfl,by kernel_rfl⟩,⟨⟨_,_,Go.Proofs.Tryz.underlying33,rfl,rfl⟩,⟨⟨_,_,Go.Proofs.Tryz.underlying33,rfl,rfl,by kernel_rfl⟩,⟨⟨_,_,Go.Proofs.Tryz.underlying33,rfl,rfl⟩,⟨⟨_,_,Go.Proofs.Tryz.underlying33,rfl,rfl,by kernel_rfl⟩,⟨⟨_,_,Go.Proofs.Tryz.underlying33,rfl,rfl⟩,⟨⟨_,_,Go.Proofs.Tryz.underlying33,rfl,rfl,by kernel_rfl⟩,⟨⟨_,_,Go.Proofs.Tryz.underlying33,rfl,rfl⟩,trivial⟩⟩⟩⟩⟩⟩⟩⟩⟩⟩⟩⟩⟩⟩,⟨⟨⟨_,_,Go.Proofs.Tryz.underlying40,rfl,rfl,by kernel_rfl⟩,⟨⟨_,_,Go.Proofs.Tryz.underlying40,rfl,rfl⟩,⟨⟨_,_,Go.Proofs.Tryz.underlying40,rfl,rfl,by kernel_rfl⟩,⟨⟨_,_,Go.Proofs.Tryz.underlying40,rfl,rfl⟩,⟨⟨_,_,Go.Proofs.Tryz.underlying40,rfl,rfl,by kernel_rfl⟩,⟨⟨_,_,Go.Proofs.Tryz.underlying40,rfl,rfl⟩,⟨⟨_,_,Go.Proofs.Tryz.underlying40,rfl,rfl,by kernel_rfl⟩,⟨⟨_,_,Go.Proofs.Tryz.underlying40,rfl,rfl⟩,⟨⟨_,_,Go.Proofs.Tryz.underlying40,rfl,rfl,by kernel_rfl⟩,⟨⟨_,_,Go.Proofs.Tryz.underlying40,rfl,rfl⟩,⟨⟨_,_,Go.Proofs.Tryz.underlying40,rfl,rfl,by kernel_rfl⟩,⟨⟨_,_,Go.Proofs.Tryz.underlying40,rfl,rfl⟩,⟨⟨_,_,Go.Proofs.Tryz.underlying40,rfl,rfl,by kernel_rfl⟩,⟨⟨_,_,Go.Proofs.Tryz.underlying40,rfl,rfl⟩,⟨⟨_,_,Go.Proofs.Tryz.underlying40,rfl,rfl,by kernel_rfl⟩,⟨⟨_,_,Go.Proofs.Tryz.underlying40,rfl,rfl⟩,trivial⟩⟩⟩⟩⟩⟩⟩⟩⟩⟩⟩⟩⟩⟩⟩⟩,⟨⟨⟨_,_,Go.Proofs.Tryz.underlying44,rfl,rfl,by kernel_rfl⟩,⟨⟨_,_,Go.Proofs.Tryz.underlying44,rfl,rfl⟩,⟨⟨_,_,Go.Proofs.Tryz.underlying44,rfl,rfl,by kernel_rfl⟩,⟨⟨_,_,Go.Proofs.Tryz.underlying44,rfl,rfl⟩,trivial⟩⟩⟩⟩,⟨⟨⟨_,_,Go.Proofs.Tryz.underlying52,rfl,rfl,by kernel_rfl⟩,⟨⟨_,_,Go.Proofs.Tryz.underlying52,rfl,rfl⟩,trivial⟩⟩,⟨⟨⟨_,_,Go.Proofs.Tryz.underlying56,rfl,rfl,by kernel_rfl⟩,⟨⟨_,_,Go.Proofs.Tryz.underlying56,rfl,rfl⟩,⟨⟨_,_,Go.Proofs.Tryz.underlying56,rfl,rfl,by kernel_rfl⟩,⟨⟨_,_,Go.Proofs.Tryz.underlying56,rfl,rfl⟩,⟨⟨_,_,Go.Proofs.Tryz.underlying56,rfl,rfl,by kernel_rfl⟩,⟨⟨_,_,Go.Proofs.Tryz.underlying56,rfl,rfl⟩,trivial⟩⟩⟩⟩⟩⟩,⟨⟨⟨_,_,Go.Proofs.Tryz.underlying65,rfl,rfl,by kernel_rfl⟩,⟨⟨_,_,Go.Proofs.Tryz.underlying65,rfl,rfl⟩,⟨⟨_,_,Go.Proofs.Tryz.underlying65,rfl,rfl,by kernel_rfl⟩,⟨⟨_,_,Go.Proofs.Tryz.underlying65,rfl,rfl⟩,⟨⟨_,_,Go.Proofs.Tryz.underlying65,rfl,rfl,by kernel_rfl⟩,⟨⟨_,_,Go.Proofs.Tryz.underlying65,rfl,rfl⟩,⟨⟨_,_,Go.Proofs.Tryz.underlying65,rfl,rfl,by kernel_rfl⟩,⟨⟨_,_,Go.Proofs.Tryz.underlying65,rfl,rfl⟩,⟨⟨_,_,Go.Proofs.Tryz.underlying65,rfl,rfl,by kernel_rfl⟩,⟨⟨_,_,Go.Proofs.Tryz.underlying65,rfl,rfl⟩,⟨⟨_,_,Go.Proofs.Tryz.underlying65,rfl,rfl,by kernel_rfl⟩,⟨⟨_,_,Go.Proofs.Tryz.underlying65,rfl,rfl⟩,⟨⟨_,_,Go.Proofs.Tryz.underlying65,rfl,rfl,by kernel_rfl⟩,⟨⟨_,_,Go.Proofs.Tryz.underlying65,rfl,rfl⟩,trivial⟩⟩⟩⟩⟩⟩⟩⟩⟩⟩⟩⟩⟩⟩,⟨⟨⟨_,_,Go.Proofs.Tryz.underlying88,rfl,rfl,by kernel_rfl⟩,⟨⟨_,_,Go.Proofs.Tryz.underlying88,rfl,rfl⟩,⟨⟨_,_,Go.Proofs.Tryz.underlying88,rfl,rfl,by kernel_rfl⟩,⟨⟨_,_,Go.Proofs.Tryz.underlying88,rfl,rfl⟩,⟨⟨_,_,Go.Proofs.Tryz.underlying88,rfl,rfl,by kernel_rfl⟩,⟨⟨_,_,Go.Proofs.Tryz.underlying88,rfl,rfl⟩,trivial⟩⟩⟩⟩⟩⟩,⟨⟨⟨_,_,Go.Proofs.Tryz.underlying109,rfl,rfl,by kernel_rfl⟩,⟨⟨_,_,Go.Proofs.Tryz.underlying109,rfl,rfl⟩,⟨⟨_,_,Go.Proofs.Tryz.underlying109,rfl,rfl,by kernel_rfl⟩,⟨⟨_,_,Go.Proofs.Tryz.underlying109,rfl,rfl⟩,trivial⟩⟩⟩⟩,⟨⟨⟨_,_,Go.Proofs.Tryz.underlying111,rfl,rfl,by kernel_rfl⟩,⟨⟨_,_,Go.Proofs.Tryz.underlying111,rfl,rfl⟩,⟨⟨_,_,Go.Proofs.Tryz.underlying111,rfl,rfl,by kernel_rfl⟩,⟨⟨_,_,Go.Proofs.Tryz.underlying111,rfl,rfl⟩,⟨⟨_,_,Go.Proofs.Tryz.underlying111,rfl,rfl,by kernel_rfl⟩,⟨⟨_,_,Go.Proofs.Tryz.underlying111,rfl,rfl⟩,trivial⟩⟩⟩⟩⟩⟩,⟨⟨⟨_,_,Go.Proofs.Tryz.underlying149,rfl,rfl,by kernel_rfl⟩,⟨⟨_,_,Go.Proofs.Tryz.underlying149,rfl,rfl⟩,⟨⟨_,_,Go.Proofs.Tryz.underlying149,rfl,rfl,by kernel_rfl⟩,⟨⟨_,_,Go.Proofs.Tryz.underlying149,rfl,rfl⟩,⟨⟨_,_,Go.Proofs.Tryz.underlying149,rfl,rfl,by kernel_rfl⟩,⟨⟨_,_,Go.Proofs.Tryz.underlying149,rfl,rfl⟩,⟨⟨_,_,Go.Proofs.Tryz.underlying149,rfl,rfl,by kernel_rfl⟩,⟨⟨_,_,Go.Proofs.Tryz.underlying149,rfl,rfl⟩,⟨⟨_,_,Go.Proofs.Tryz.underlying149,rfl,rfl,by kernel_rfl⟩,⟨⟨_,_,Go.Proofs.Tryz.underlying149,rfl,rfl⟩,trivial⟩⟩⟩⟩⟩⟩⟩⟩⟩⟩,trivial⟩⟩⟩⟩⟩⟩⟩⟩⟩⟩⟩
 el:=⟨⟨Go.Proofs.Tryz.underlying22,_,_,ti3,rfl,by decide⟩,⟨⟨Go.Proofs.Tryz.underlying25,_,_,c3a,rfl,by decide⟩,⟨⟨Go.Proofs.Tryz.underlying28,_,_,c3z,rfl,by decide⟩,⟨⟨Go.Proofs.Tryz.underlying29,_,_,c0h,rfl,by decide⟩,⟨⟨Go.Proofs.Tryz.underlying30,_,_,c28,rfl,by decide⟩,⟨⟨Go.Proofs.Tryz.underlying31,_,_,ti9,rfl,by decide⟩,⟨⟨Go.Proofs.Tryz.underlying45,_,_,c3U,rfl,by decide⟩,⟨⟨Go.Proofs.Tryz.underlying50,_,_,c3d,rfl,by decide⟩,⟨⟨Go.Proofs.Tryz.underlying60,_,_,c3v,rfl,by decide⟩,⟨⟨Go.Proofs.Tryz.underlying62,_,_,c0k,rfl,by decide⟩,⟨⟨Go.Proofs.Tryz.underlying91,_,_,ti4,rfl,by decide⟩,⟨⟨Go.Proofs.Tryz.underlying93,_,_,ti2,rfl,by decide⟩,trivial⟩⟩⟩⟩⟩⟩⟩⟩⟩⟩⟩⟩
 str:=⟨Go.Proofs.Tryz.underlying9,trivial⟩
 bool:=⟨Go.Proofs.Tryz.underlying4,trivial⟩
 ik:=trivial
 inf:=⟨⟨_,ti2,fun X c σ=>RG.cns rfl V5 (RG.nl)⟩,⟨⟨_,ti3,fun X c σ=>RG.cns rfl V5 (RG.nl)⟩,⟨⟨_,ti4,fun X c σ=>RG.cns rfl a1A (RG.nl)⟩,⟨⟨_,ti9,fun X c σ=>RG.cns rfl a6a (RG.nl)⟩,⟨⟨_,c3v,fun X c σ=>RG.cns rfl J6 (RG.nl)⟩,⟨⟨_,c9t,fun X c σ=>RG.cns rfl J6 (RG.nl)⟩,⟨⟨_,c8Z,fun X c σ=>RG.cns rfl J6 (RG.cns rfl V5 (RG.nl))⟩,⟨⟨_,c9i,fun X c σ=>RG.cns rfl J6 (RG.nl)⟩,⟨⟨_,c9A,fun X c σ=>RG.cns rfl J6 (RG.nl)⟩,⟨⟨_,c9I,fun X c σ=>RG.cns rfl J6 (RG.nl)⟩,⟨⟨_,c3z,fun X c σ=>RG.cns rfl V5 (RG.cns rfl V5 (RG.cns rfl a6a (RG.cns rfl J6 (RG.cns rfl J6 (RG.cns rfl J6 (RG.cns rfl J6 (RG.nl)))))))⟩,⟨⟨_,c9z,fun X c σ=>RG.cns rfl V5 (RG.cns rfl V5 (RG.cns rfl J6 (RG.cns rfl a1A (RG.cns rfl J6 (RG.cns rfl J6 (RG.cns rfl J6 (RG.cns rfl J6 (RG.cns rfl J6 (RG.nl)))))))))⟩,⟨⟨_,c9C,fun X c σ=>RG.cns rfl J6 (RG.cns rfl V5 (RG.nl))⟩,⟨⟨_,c8p,fun X c σ=>RG.cns rfl J6 (RG.nl)⟩,⟨⟨_,c3U,fun X c σ=>RG.cns rfl J6 (RG.nl)⟩,⟨⟨_,c3d,fun X c σ=>RG.cns rfl J6 (RG.cns rfl J6 (RG.cns rfl a1A (RG.nl)))⟩,⟨⟨_,c8D,fun X c σ=>RG.cns rfl J6 (RG.nl)⟩,⟨⟨_,c8G,fun X c σ=>RG.cns rfl V5 (RG.cns rfl V5 (RG.nl))⟩,⟨⟨_,c3a,fun X c σ=>RG.cns rfl V5 (RG.cns rfl V5 (RG.cns rfl V5 (RG.cns rfl a6a (RG.cns rfl J6 (RG.cns rfl J6 (RG.cns rfl V5 (RG.cns rfl V5 (RG.nl))))))))⟩,⟨⟨_,c9s,fun X c σ=>RG.cns rfl c67 (RG.nl)⟩,⟨⟨_,c28,fun X c σ=>RG.cns rfl J6 (RG.cns rfl a1A (RG.cns rfl V5 (RG.cns rfl V5 (RG.cns rfl a6a (RG.cns rfl J6 (RG.cns rfl J6 (RG.cns rfl J6 (RG.cns rfl J6 (RG.nl)))))))))⟩,⟨⟨_,c0h,fun X c σ=>RG.cns rfl V5 (RG.cns rfl a6a (RG.nl))⟩,⟨⟨_,c0k,fun X c σ=>RG.cns rfl V5 (RG.cns rfl a6a (RG.cns rfl V5 (RG.cns rfl a1A (RG.nl))))⟩,⟨⟨_,c6T,fun X c σ=>RG.cns rfl a1A (RG.cns rfl a1A (RG.cns rfl a1A (RG.cns rfl a1A (RG.cns rfl a1A (RG.nl)))))⟩,trivial⟩⟩⟩⟩⟩⟩⟩⟩⟩⟩⟩⟩⟩⟩⟩⟩⟩⟩⟩⟩⟩⟩⟩⟩
 st:=⟨.inl ⟨_,Go.Proofs.Tryz.underlying27,by kernel_rfl⟩,⟨.inl ⟨_,Go.Proofs.Tryz.underlying33,by kernel_rfl⟩,⟨.inl ⟨_,Go.Proofs.Tryz.underlying40,by kernel_rfl⟩,⟨.inl ⟨_,Go.Proofs.Tryz.underlying44,by kernel_rfl⟩,⟨.inl ⟨_,Go.Proofs.Tryz.underlying52,by kernel_rfl⟩,⟨.inl ⟨_,Go.Proofs.Tryz.underlying56,by kernel_rfl⟩,⟨.inr (c5l Go.Proofs.Tryz.underlying63 ti3 rfl),⟨.inl ⟨_,Go.Proofs.Tryz.underlying65,by kernel_rfl⟩,⟨.inl ⟨_,Go.Proofs.Tryz.underlying109,by kernel_rfl⟩,⟨.inl ⟨_,Go.Proofs.Tryz.underlying111,by kernel_rfl⟩,⟨.inl ⟨_,Go.Proofs.Tryz.underlying149,by kernel_rfl⟩,trivial⟩⟩⟩⟩⟩⟩⟩⟩⟩⟩⟩
 eq:=⟨fun X c σ ls ms r cs ds h1 h2 h3=>eqT 63 a50 (fun h k=>d0L h k) (by kernel_rfl) (by decide) h1 h2 h3,⟨fun X c σ ls ms r cs ds h1 h2 h3=>eqT 109 a4n (fun h k=>c9Y h k) (by kernel_rfl) (by decide) h1 h2 h3,trivial⟩⟩
 arr:=⟨⟨Go.Proofs.Tryz.underlying63,by kernel_rfl⟩,trivial⟩
 fb:=⟨⟨_,_,Go.Proofs.Tryz.func22,rfl,by kernel_rfl⟩,⟨⟨_,_,Go.Proofs.Tryz.func28,rfl,by kernel_rfl⟩,⟨⟨_,_,Go.Proofs.Tryz.func70,rfl,by kernel_rfl⟩,⟨⟨_,_,Go.Proofs.Tryz.func75,rfl,by kernel_rfl⟩,⟨⟨_,_,Go.Proofs.Tryz.func77,rfl,by kernel_rfl⟩,⟨⟨_,_,Go.Proofs.Tryz.func93,rfl,by kernel_rfl⟩,⟨⟨_,_,Go.Proofs.Tryz.func94,rfl,by kernel_rfl⟩,⟨⟨_,_,Go.Proofs.Tryz.func96,rfl,by kernel_rfl⟩,⟨⟨_,_,Go.Proofs.Tryz.func97,rfl,by kernel_rfl⟩,⟨⟨_,_,Go.Proofs.Tryz.func99,rfl,by kernel_rfl⟩,⟨⟨_,_,Go.Proofs.Tryz.func101,rfl,by kernel_rfl⟩,⟨⟨_,_,Go.Proofs.Tryz.func111,rfl,by kernel_rfl⟩,⟨⟨_,_,Go.Proofs.Tryz.func112,rfl,by kernel_rfl⟩,⟨⟨_,_,Go.Proofs.Tryz.func128,rfl,by kernel_rfl⟩,⟨⟨_,_,Go.Proofs.Tryz.func150,rfl,by kernel_rfl⟩,⟨⟨_,_,Go.Proofs.Tryz.func166,rfl,by kernel_rfl⟩,trivial⟩⟩⟩⟩⟩⟩⟩⟩⟩⟩⟩⟩⟩⟩⟩⟩
theorem b1c:TabOk Go.Proofs.Tryz.prog tb:=c1S c9w
theorem mixed:(Go.Proofs.Tryz.prog).follows .mixedOrders=true:=by kernel_rfl
end Go.Qx
end
section
namespace Go.Qx
open Go Go.RowKit Go.Sx
@[reducible] def b3q {γ β:Type} [Rp β] (B:Nat) (to:γ->List β):Rp γ where
 sz:=1
 pos:=Nat.one_pos
 agg:=true
 cells:=fun σ x cs=>∃ A c,cs=[.slice A (to x).length c]/\Sl σ (to x) A c/\(to x≠[]->∃ g,A=some ⟨g,0,none⟩/\B<=g)
 len:=fun ⟨_,_,h,_⟩=>by rw [h]; rfl
 one:=fun ⟨_,_,h,_⟩ v hv=>by rw [h] at hv; simp at hv; subst hv; rfl
 mono:=fun k ⟨A,c,h,hs,hb⟩=>⟨A,c,h,hs.mono k,hb⟩
 lo:=B
def LoL (n:Nat):List TE->Prop
 | []=>True
 | e::r=>e.rp.lo<=n/\LoL n r
theorem b9T {n:Nat}:∀ {l:List TE},LoL n l->∀ E,(a6T l E).rp.lo<=n
 | [],_,_=>Nat.zero_le _
 | e::r,h,E=>by
   have k:∀ t:TE,t=e\/t=a6T r E->t.rp.lo<=n:=fun t ht=>by
    rcases ht with rfl | rfl
    ·exact h.1
    ·exact b9T h.2 E
   refine k _ ?_
   simp only [a6T]
   cases Nat.beq e.E E with
   | true=>exact .inl rfl
   | false=>exact .inr rfl
theorem c5d {γ β:Type} [a:Rp β] {B:Nat}{to:γ->List β}{σ:S}{x:γ}{A:Option Addr}{c:Nat}(h1:Sl σ (to x) A c)(h2:to x≠[]->∃ g,A=some ⟨g,0,none⟩/\B<=g):(b3q B to).cells σ x [.slice A (to x).length c]:=⟨A,c,rfl,h1,h2⟩
theorem b7m {γ β:Type} [a:Rp β] {B:Nat}{to:γ->List β}{σ:S}:∀ {xs:List γ} {cs:List Value},@Q3 γ (b3q B to) σ xs cs->@Q3 γ (a5u to (@rpList β a)) σ xs cs
 | [],_,h=>h
 | _::_,_,⟨c,d,e,⟨A,k,e2,h5,_⟩,h6⟩=>⟨c,d,e,⟨A,k,e2,h5⟩,b7m h6⟩
theorem c4h {γ β:Type} [a:Rp β] {B:Nat}{to:γ->List β}{σ:S}{xs:List γ}{A:Option Addr}{c:Nat}(h:@Sl γ (b3q B to) σ xs A c):@Sl γ (a5u to (@rpList β a)) σ xs A c:=by
 obtain ⟨h1,h2,cs,h3,h4⟩:=h
 exact ⟨h1,h2,cs,b7m h3,h4⟩
theorem c7Q {γ β:Type} [a:Rp β] {B:Nat}{to:γ->List β}{ow:Option Nat}{fl:Bool}{E:TypeId}{σ:S}{xs:List γ}{A:Option Addr}{c:Nat}(h:@X0 γ (b3q B to) ow fl E σ xs A c):@X0 γ (a5u to (@rpList β a)) ow fl E σ xs A c:=by
 cases ow with
 | none=>exact h.imp id fun ⟨h1,h2,h3⟩=>⟨h1,h2,c4h h3⟩
 | some g =>
   obtain ⟨cur,cs,h1,h2,h3,h4,h5,h6,h7⟩:=h
   exact ⟨cur,cs,h1,h2,h3,h4,h5,b7m h6,h7⟩
section
variable {I:TypeId->Type} [∀ E,Rp (I E)] {P:Program}
def d0c {γ:Type}{G:TypeId}(B:Nat)(to:γ->List (I G)):Fd I γ (b3q B to) where
 lf:=fun x=>[.sl G (to x) false]
 pa:=fun _ _ _=>none
 lf_ok:=fun X c σ x cs ⟨A,k,e,h,_⟩=>by
  rw [e]
  exact RG.cns rfl (by simp only [RV]; exact ⟨A,k,rfl,h,fun h=>by cases h⟩) RG.nl
 pa_ok:=fun ρ ls f r h=>by cases h
theorem c8H {f:FuncId}{T1 T2 G E:TypeId}(B:Nat)(to:I E->List (I G))(mk:List (I G)->I E)(hto:∀ x,to (mk x)=x)
 (hcells:∀ (σ:S) (x:I E) (A:Option Addr) (c:Nat),Sl σ (to x) A c->(to x≠[]->∃ g,A=some ⟨g,0,none⟩/\B<=g)->Rp.cells σ x [.slice A (to x).length c])
 {run:b6S I [.d (.int .i64),.d (.sl T1),.d (.sl T1),.d (.sl T1),.bor T2] (TyT I [.lvs [.row G false],.k (.d .bool)])}
 (h:j6 P (⟨f,[.d (.int .i64),.d (.sl T1),.d (.sl T1),.d (.sl T1),.bor T2],[.lvs [.row G false],.k (.d .bool)],run⟩:Row I)) :
 a3N P (⟨f,[.d (.int .i64),.d (.sl T1),.d (.sl T1),.d (.sl T1),.bor T2],[.k (.d (.dat E)),.k (.d .bool)],fun a1 a2 a3 a4 a5=>Option.bind (run a1 a2 a3 a4 a5) fun q=>some (mk q.1,q.2)⟩:Row I) (fun w _=>B<=w.heap.size):=by
 intro σ a vs pls res hA hC hnd happ
 have happ':(Option.bind (run a.1 a.2.1 a.2.2.1 a.2.2.2.1 a.2.2.2.2.1) fun q=>some (mk q.1,q.2))=some res:=happ
 obtain ⟨q,hq,hr⟩:=bind_some happ'
 cases hr
 have hA0:=hA
 obtain ⟨v1,_,_,_,rfl,rfl,⟨_,rfl⟩,v2,_,_,_,rfl,rfl,⟨_,rfl⟩,v3,_,_,_,rfl,rfl,⟨_,rfl⟩,v4,_,_,_,rfl,rfl,⟨_,rfl⟩,v5,_,_,_,rfl,rfl,⟨A5,k5,_,_,rfl⟩,rfl,rfl⟩:=hA0
 refine a1M.mono (h σ a _ _ q hA hnd hq) rfl fun v τ hE ⟨ws,us,pls',hp⟩=>?_
 have hus:us=[]:=hp.out
 have tt:TT τ ([.lvs [.row G false],.k (.d .bool)]:List V) q (ws++us) pls':=hp.tt
 obtain ⟨w1,r1,p1,p2,e1,e2,⟨_,cs,e3,u1,e4,A,k,ow,e5,e6,hown⟩,w2,e7,hb,e8⟩:=tt
 subst hus
 subst e7
 subst e8
 subst e4
 subst e5
 subst e6
 rw [List.append_nil] at e1
 cases ow with
 | none =>
   rcases hown with ⟨h1,h2⟩ | ⟨h1,_⟩
   ·refine ⟨τ,rfl,hE,ws,[],[],hp.ret,hp.len,?_,rfl,List.nodup_nil,fun g hg=>by cases hg⟩
    refine ⟨w1,[w2],[],[],by rw [List.append_nil,e1],rfl,⟨⟨_,e3,?_⟩,rfl⟩,w2,rfl,hb,rfl⟩
    have:=hcells τ (mk q.1) A k (by rw [hto,h1,h2]; exact Sl.nil_ _ _ _ (Nat.zero_le _)) (fun hn=>absurd ((hto q.1).trans h1) hn)
    rw [hto] at this
    exact this
   ·cases h1
 | some g =>
   have hown0:=hown
   obtain ⟨cur,cs',eA,hh,k1,k2,k3,k4,k5',k6⟩:=hown
   have hg:σ.N<=g:=by
    have:=(hp.own g (by rw [e2]; simp [ows])).1
    rcases this with h | h
    ·exact h
    ·simp [ows] at h
   let υ:S:=⟨τ.w,fun b=>if b=g then (q.1.length*Rp.sz (I G),(τ.L b).2) else τ.L b⟩
   have hL:∀ b,b≠g->υ.L b=τ.L b:=fun b hb=>by simp [υ,hb]
   have hLg:(υ.L g).1=q.1.length*Rp.sz (I G):=by simp [υ]
   have k6':(τ.L g).1=0:=k6
   have hw:Wext τ υ:=⟨Nat.le_refl _,fun b _=>by
    by_cases eb:b=g
    ·subst eb; rw [k6']; exact Nat.zero_le _
    ·rw [hL b eb]; exact Nat.le_refl _,fun _ _ _ _ h=>h,Nat.le_refl _,fun _ _ _ h=>h⟩
   have hE':Stp (fun b=>b∈ows _) σ υ:=⟨hE.wext.trans hw,hE.os,hE.tape,hE.output,fun b hb hn=>by
    have hbg:b≠g:=fun e=>by
     have hb':b<σ.w.heap.size:=hb
     have hg':σ.w.heap.size<=g:=hg
     omega
    obtain ⟨q1,q2⟩:=hE.block b hb hn
    exact ⟨q1,by rw [hL b hbg]; exact q2⟩⟩
   have hsl:Sl υ q.1 A k:=X0.sl (ow:=some g) (E:=G) ⟨cur,cs',eA,hh,k1,k2,k3,k4.mono hw,k5',hLg⟩
   refine ⟨υ,rfl,hE',ws,[],[],hp.ret,hp.len,?_,rfl,List.nodup_nil,fun g hg=>by cases hg⟩
   refine ⟨w1,[w2],[],[],by rw [List.append_nil,e1],rfl,⟨⟨_,e3,?_⟩,rfl⟩,w2,rfl,DV.mono hw hb,rfl⟩
   have:=hcells υ (mk q.1) A k (by rw [hto]; exact hsl) (fun _=>⟨g,eA,Nat.le_trans hC hg⟩)
   rw [hto] at this
   exact this
def b0Q:List Code->Code->Code
 | [],b=>b
 | a::r,b=>.seq a (b0Q r b)
def c0f (H:Hints I):List Code->Nat->Bool
 | [],_=>true
 | a::r,p=>(H.join p).isNone&&a1f H a (2*p)&&c0f H r (2*p+1)
theorem c1f {tb:Tab I}{disp:a0r I}{H:Hints I}{n:Nat}(ht:TabOk P tb)(hd:DispOk P disp)(hmx:P.follows .mixedOrders=true){rest:Code}:∀ (d0N:List Code) (p:Nat),c0f H d0N p=true ->
 ∀ (ρ:Type) (s:St I) (k:Ex->St I->Option ρ) (r:ρ) (X:Cxt) (c:Cx) (σ:S) (F:Fr) (Q:Exit->Act->World->Prop),X.P=P->a2M tb disp H (b0Q d0N .skip) p ρ s k=some r->Rel X c σ s n F ->
 (∀ (e:Ex) (s':St I) (c':Cx) (τ:S) (F':Fr),e≠.normal->k e s'=some r->Cx.le c c'->Rel X c' τ s' n F'->Stp X.M σ τ->Q (a2Q e) (fr n F') τ.w) ->
 (∀ (s':St I) (c':Cx) (τ:S) (F':Fr),k .normal s'=some r->Cx.le c c'->Rel X c' τ s' n F'->Stp X.M σ τ->rest.wp P Q (fr n F') τ.w)->(b0Q d0N rest).wp P Q (fr n F) σ.w
 | [],_,_,ρ,s,k,r,X,c,σ,F,Q,_,hx,h,_,hh=>hh s c σ F hx (Cx.le_refl c) h (Stp.refl _ _)
 | a::d0N,p,hc,ρ,s,k,r,X,c,σ,F,Q,hX,hx,h,hk,hh=>by
   simp only [c0f,Bool.and_eq_true] at hc
   have hj:H.join p=none:=Option.isNone_iff_eq_none.1 hc.1.1
   have hx':a2M tb disp H a (2*p) ρ s (fun e s=>match e with
    | .normal=>a2M tb disp H (b0Q d0N .skip) (2*p+1) ρ s k
    | e=>k e s)=some r:=by
    have hx0:a9q tb H p (fun ρ s k=>a2M tb disp H a (2*p) ρ s fun e s=>match e with
     | .normal=>a2M tb disp H (b0Q d0N .skip) (2*p+1) ρ s k
     | e=>k e s) ρ s k=some r:=hx
    unfold a9q at hx0
    rw [hj] at hx0
    exact hx0
   refine wp_seq (a1z ht hd hmx a (2*p) hc.1.2 ρ s _ r X c σ F _ hX hx' h fun e s' c' τ F' g1 g2 g3 g4 _=>?_)
   cases e with
   | normal=>exact c1f ht hd hmx d0N (2*p+1) hc.2 ρ s' k r X c' τ F' Q hX g1 g3 (fun e s2 c2 υ F2 m0 m1 m2 m3 m4=>hk e s2 c2 υ F2 m0 m1 (Cx.le_trans g2 m2) m3 (g4.trans m4)) fun s2 c2 υ F2 m1 m2 m3 m4=>hh s2 c2 υ F2 m1 (Cx.le_trans g2 m2) m3 (g4.trans m4)
   | exit i=>exact hk (.exit i) s' c' τ F' (fun e=>by cases e) g1 g2 g3 g4
   | ret=>exact hk .ret s' c' τ F' (fun e=>by cases e) g1 g2 g3 g4
end
end Go.Qx
end
section
namespace Go.Qx
open Go Go.RowKit Go.Sx
structure Flip (J:Nat->Prop)(w0 w:World):Prop where
 size:w.heap.size=w0.heap.size
 far:∀ b,¬ J b->w.heap[b]?=w0.heap[b]?
 off:∀ b o,¬ (J b/\o=5)->w.cell? ⟨b,o,none⟩=w0.cell? ⟨b,o,none⟩
 on:∀ b,J b->w.cell? ⟨b,5,none⟩=some (.bool true)
 fz:∀ a,w.frozen? a=w0.frozen? a
 os:w.os=w0.os
 tape:w.tape=w0.tape
 output:w.output=w0.output
 drawn:w.drawn=w0.drawn
theorem Flip.refl {J:Nat->Prop}(w:World)(h:∀ b,¬ J b):Flip J w w:=⟨rfl,fun _ _=>rfl,fun _ _ _=>rfl,fun b hb=>absurd hb (h b),fun _=>rfl,rfl,rfl,rfl,rfl⟩
theorem Flip.store {J J':Nat->Prop}{w0 w:World}(h:Flip J w0 w){g:Nat}{u:Value}(hc:w.cell? ⟨g,5,none⟩=some u)(hJ:∀ b,J' b↔J b\/b=g):Flip J' w0 (w.setCell ⟨g,5,none⟩ (.bool true)):=by
 refine ⟨?_,fun b hb=>?_,fun b o hb=>?_,fun b hb=>?_,fun a=>(b2u _ _ _ _).trans (h.fz a),h.os,h.tape,h.output,h.drawn⟩
 ·exact (a8P g [.bool true] 5 w).trans h.size
 ·have hn:¬ (J b\/b=g):=fun k=>hb ((hJ b).2 k)
  exact (a5D g [.bool true] 5 w b fun e=>hn (.inr e)).trans (h.far b fun e=>hn (.inl e))
 ·rw [World.cell?_setCell_other _ _ _ _ (fun e=>hb (by cases e; exact ⟨(hJ _).2 (.inr rfl),rfl⟩))]
  exact h.off b o fun k=>hb ⟨(hJ b).2 (.inl k.1),k.2⟩
 ·by_cases e:b=g
  ·subst e
   exact World.cell?_setCell_same _ _ _ hc
  ·rw [World.cell?_setCell_other _ _ _ _ (fun e'=>e (by cases e'; rfl))]
   exact h.on b (((hJ b).1 hb).resolve_right e)
section
variable {P:Program}{ops:Array Oper}{Q:Exit->Act->World->Prop}{n:Nat}{F:Fr}{rest:List Oper}{d:Option Nat}{ty:TypeId}{pos:String}{aft:Array Edge}
theorem c11 {T:TypeId}{x y:Operand}{b o:Nat}{v v0:Value}{w:World}(hx:ev F x=.pointer (some ⟨b,o,none⟩))(hkx:Y3 n x=true)(hky:Y3 n y=true)(hv:(ev F y).cells.toList=[v])
 (hT:(P.info? T).map (·.size)=some 1) (h1:v.oneCell'=true) (hc:w.cell? ⟨b,o,none⟩=some v0) (hf:w.frozen? ⟨b,o,none⟩=false) (h:wpList P ops Q rest (fr n (J9 F d undef)) (w.setCell ⟨b,o,none⟩ v)) :
 wpList P ops Q (⟨d,.store T x y,ty,pos,aft,none⟩::rest) (fr n F) w:=by
 have hsz:(ev F y).cells.size=1:=by rw [<- Array.length_toList,hv]; rfl
 refine b5I rfl (w.setCell ⟨b,o,none⟩ v) ?_ h
 show Sem.run P (do Instr.storeAt T ((fr n F).eval x) ((fr n F).eval y); pure Next.skip) w=_
 rw [v8 hkx,v8 hky,hx]
 have hst:=run_storeCells_cells (P:=P) b o [v] 0 w (fun j hj=>by
  obtain rfl:j=0:=by simpa using hj
  simp [hc]) (fun j hj=>by
  obtain rfl:j=0:=by simpa using hj
  simpa using hf) (fun u hu=>by rw [List.mem_singleton.1 hu]; exact h1)
 simp only [Nat.add_zero,World.setCells] at hst
 simp only [Instr.storeAt,Instr.sureAddr,storeVar,Sem.run_bind,Sem.run_pure,Result.andThen_ok,Sx.run_sizeOf hT,hsz,ne_eq,not_true_eq_false,if_false,hv,hst]
end
structure FlipTy {γ δ:Type} [Rp γ] [Rp δ] (B:Nat)(to:γ->List δ)(ps ng:δ->List Int)(bt:δ->Bool):Prop where
 szγ:Rp.sz γ=1
 szδ:Rp.sz δ=3
 cγ:∀ {σ:S} {x:γ} {cs:List Value},Rp.cells σ x cs↔∃ A c,cs=[.slice A (to x).length c]/\Sl σ (to x) A c/\(to x≠[]->∃ g,A=some ⟨g,0,none⟩/\B<=g)
 cδ:∀ {σ:S} {d:δ} {cs:List Value},Rp.cells σ d cs↔∃ A1 c1 A2 c2,cs=[.slice A1 (ps d).length c1,.slice A2 (ng d).length c2,.bool (bt d)]/\Sl σ (ps d) A1 c1/\Sl σ (ng d) A2 c2
section
variable {γ δ:Type} [Rp γ] [Rp δ] {B:Nat}{to:γ->List δ}{ps ng:δ->List Int}{bt:δ->Bool}
def JB (w:World)(A:Option Addr)(i b:Nat):Prop:=∃ ob oo j l c,A=some ⟨ob,oo,none⟩/\j<i/\w.cell? ⟨ob,oo+j,none⟩=some (.slice (some ⟨b,0,none⟩) l c)
theorem b5T (hT:FlipTy B to ps ng bt){τ:S}{bs:List γ}{A:Option Addr}{k:Nat}(hs:Sl τ bs A k){i:Nat}{x:γ}(hx:bs[i]?=some x)(h2:2<=(to x).length) :
 ∃ ob oo g c d0 d1 r,A=some ⟨ob,oo,none⟩/\τ.w.cell? ⟨ob,oo+i,none⟩=some (.slice (some ⟨g,0,none⟩) (to x).length c)/\B<=g/\to x=d0::d1::r/\Sl τ (to x) (some ⟨g,0,none⟩) c /\
  τ.w.cell? ⟨g,5,none⟩=some (.bool (bt d1))/\τ.w.frozen? ⟨g,5,none⟩=false:=by
 obtain ⟨ob,oo,cs,e1,h1,h3⟩:=hs.at_ hx
 obtain ⟨A',c,rfl,h4,h5⟩:=hT.cγ.1 h1
 obtain ⟨g,rfl,hg⟩:=h5 (by intro e; rw [e] at h2; simp at h2)
 rw [hT.szγ,Nat.mul_one] at h3
 have hc0:=h3.2 0 _ rfl
 rw [Nat.add_zero] at hc0
 match e:to x,h2 with
 | d0::d1::r,_ =>
   have h4':=h4
   rw [e] at h4'
   obtain ⟨b,o,cs,e2,k1,k2⟩:=h4'.at_ (i:=1) (x:=d1) rfl
   cases e2
   obtain ⟨A1,c1,A2,c2,rfl,_,_⟩:=hT.cδ.1 k1
   rw [hT.szδ] at k2
   have k3:=k2.2 2 _ rfl
   have k4:=k2.1.2 2 (by simp)
   refine ⟨ob,oo,g,c,d0,d1,r,e1,by rw [<- e]; exact hc0,hg,rfl,by rw [<- e]; exact h4,?_,?_⟩
   ·simpa using k3
   ·simpa using k4
theorem b43 (hT:FlipTy B to ps ng bt){τ:S}{bs:List γ}{A:Option Addr}{k:Nat}(hs:Sl τ bs A k)(h2:∀ x∈bs,2<=(to x).length){i b:Nat}(hi:i<=bs.length)(hJ:JB τ.w A i b) :
 B<=b/\∃ v,τ.w.cell? ⟨b,5,none⟩=some (.bool v):=by
 obtain ⟨ob,oo,j,l,c,e1,hj,hc⟩:=hJ
 have hjl:j<bs.length:=by omega
 obtain ⟨ob',oo',g,c',d0,d1,r,e2,k1,k2,k3,k4,k5,k6⟩:=b5T hT hs (List.getElem?_eq_getElem hjl) (h2 _ (List.getElem_mem hjl))
 rw [e1] at e2
 cases e2
 rw [hc] at k1
 cases k1
 exact ⟨k2,_,k5⟩
theorem c8U (i:Nat)(h:i<9223372036854775807):IntKind.wrap .i64 ((i:Int)+1)=((i+1:Nat):Int):=by
 rw [IntKind.wrap_i64]
 omega
theorem b8u {m:Nat}:∀ (q i:Nat),i+q=m->y4 (fun i=>if i<m then some (Fl.next (i+1)) else some (Fl.done ())) (q+1) i=some ()
 | 0,i,h=>by
   have:¬ i<m:=by omega
   simp [y4,this]
 | q+1,i,h=>by
   have:i<m:=by omega
   simp only [y4,this,if_true,Option.bind_some]
   exact b8u q (i+1) (by omega)
set_option maxHeartbeats 1000000 in
theorem c4l (hT:FlipTy B to ps ng bt){P:Program}{Q:Exit->Act->World->Prop}{F:Fr}{τ:S}{bs:List γ}{A:Option Addr}{k:Nat}(hs:Sl τ bs A k)(h2:∀ x∈bs,2<=(to x).length)
 {Ti Tb To Tx Tr Tg:TypeId} {i1 i2 i16 i17 i18 i19:Nat} {t0 t1 t2 t3 t4 t5 t6 t7 t8 t9 ta tb tc u1 u2:TypeId} {p0 p1 p2 p3 p4 p5 p6 p7 p8 p9 pa pb pc:String} {a0 a1 a2 a3 a4 a5 a6 a7 a8 a9 aa ab ac:Array Edge}
 (hTo:P.underlying To=some (.slice Tx)) (hTx:(P.info? Tx).map (·.size)=some 1) (hfx:a6v P Tx 0 0) (hr1:a2u P Tr) (hTr:P.underlying Tr=some (.slice Tg)) (hTg:(P.info? Tg).map (·.size)=some 3) (hfg:a6v P Tg 2 2) (hTb:(P.info? Tb).map (·.size)=some 1)
 (h12:F 12=.slice A bs.length k) (h58:F 58=.int .i64 (bs.length:Int)) (h59:F 59=.int .i64 0)
 (hk:∀ F' w,Flip (JB τ.w A bs.length) τ.w w->F' 12=F 12->Q .normal (fr 71 F') w) :
 (Code.block i1 (.loop (.seq (.region i16 #[⟨some 60,.binOp .lss Ti (.tmp 59) (.tmp 58) u1,t0,p0,a0,none⟩] false) (.seq (.cond (.tmp 60) .skip (.exit i1)) (.seq (.block i2 (.seq
   (.region i17 #[⟨some 61,.move (.tmp 59),t1,p1,a1,none⟩,⟨some 13,.assign (.tmp 61),t2,p2,a2,none⟩] false)
   (.region i18 #[⟨some 62,.move (.tmp 12),t3,p3,a3,none⟩,⟨some 63,.move (.tmp 13),t4,p4,a4,none⟩,⟨some 64,.indexAddr To (.tmp 62) (.tmp 63),t5,p5,a5,none⟩,⟨some 65,.fieldAddr Tx (.tmp 64) 0,t6,p6,a6,none⟩,⟨some 66,.load Tr (.tmp 65),t7,p7,a7,none⟩,
     ⟨some 67,.indexAddr Tr (.tmp 66) (.const (.int .i64 1)),t8,p8,a8,none⟩,⟨some 68,.fieldAddr Tg (.tmp 67) 2,t9,p9,a9,none⟩,⟨none,.store Tb (.tmp 68) (.const (.bool true)),ta,pa,aa,none⟩] false)))
   (.region i19 #[⟨some 69,.binOp .add Ti (.tmp 59) (.const (.int .i64 1)) u2,tb,pb,ab,none⟩,⟨some 59,.move (.tmp 69),tc,pc,ac,none⟩] false)))))).wp P Q (fr 71 F) τ.w:=by
 let Inv:Nat->Act->World->Prop:=fun i a w=>i<=bs.length/\∃ F',a=fr 71 F'/\F' 12=.slice A bs.length k/\F' 58=.int .i64 (bs.length:Int)/\F' 59=.int .i64 (i:Int)/\Flip (JB τ.w A i) τ.w w
 let Post:Unit->Exit->Act->World->Prop:=fun _ e a w=>e=.exit i1/\∃ F',a=fr 71 F'/\F' 12=.slice A bs.length k/\Flip (JB τ.w A bs.length) τ.w w
 refine wp_block (wp_mono (b57 (P:=P) (step:=fun i=>if i<bs.length then some (Fl.next (i+1)) else some (Fl.done ())) Inv Post (fun b a w h=>by cases h.1) (fun i fl a w hst hI=>?_) (bs.length+1) 0 () (fr 71 F) τ.w (b8u bs.length 0 (by omega)) ⟨Nat.zero_le _,F,rfl,h12,h58,h59,Flip.refl _ fun b ⟨_,_,j,_,_,_,hj,_⟩=>by omega⟩) fun e a w hp=>?_)
 ·obtain ⟨hi,F',rfl,f12,f58,f59,hfl⟩:=hI
  refine wp_seq (wp_region_lit ?_)
  refine c0i (.int .i64 (i:Int)) (.int .i64 (bs.length:Int)) (.bool (decide ((i:Int)<(bs.length:Int)))) f59 f58 rfl rfl c7f ?_
  refine wpList_nil (a38 ?_)
  by_cases hlt:i<bs.length
  ·rw [if_pos hlt] at hst
   cases hst
   have hd:decide ((i:Int)<(bs.length:Int))=true:=by simpa using hlt
   refine wp_seq (c44 rfl hd rfl (wp_skip (a38 ?_)))
   refine wp_seq (wp_block (wp_seq (wp_region_lit ?_)))
   refine a8o (.int .i64 (i:Int)) f59 rfl ?_
   refine b3x (.int .i64 (i:Int)) rfl rfl ?_
   refine wpList_nil (a38 (wp_region_lit ?_))
   obtain ⟨ob,oo,g,c,d0,d1,r,rfl,k1,k2,k3,k4,k5,k6⟩:=b5T hT hs (List.getElem?_eq_getElem hlt) (h2 _ (List.getElem_mem hlt))
   have hw1:w.cell? ⟨ob,oo+i,none⟩=some (.slice (some ⟨g,0,none⟩) (to bs[i]).length c):=by
    rw [hfl.off ob (oo+i) fun hJ=>?_]
    ·exact k1
    ·obtain ⟨_,v,hv⟩:=b43 hT hs h2 hi hJ.1
     rw [hJ.2,hv] at k1
     cases k1
   have hw2:∃ u,w.cell? ⟨g,5,none⟩=some u:=by
    by_cases hJ:JB τ.w (some ⟨ob,oo,none⟩) i g
    ·exact ⟨_,hfl.on g hJ⟩
    ·exact ⟨_,(hfl.off g 5 fun h=>hJ h.1).trans k5⟩
   obtain ⟨u,hu⟩:=hw2
   have hfz:w.frozen? ⟨g,5,none⟩=false:=(hfl.fz _).trans k6
   have hl2:2<=(to bs[i]).length:=h2 _ (List.getElem_mem hlt)
   refine a8o (.slice (some ⟨ob,oo,none⟩) bs.length k) f12 rfl ?_
   refine a8o (.int .i64 (i:Int)) rfl rfl ?_
   refine a6H (g:=ob) (o:=oo) (len:=bs.length) (k:=k) (sz:=1) (j:=(i:Int)) (by omega) (by omega) rfl rfl rfl rfl hTo hTx ?_
   refine a5R ob (oo+(i:Int).toNat*1) 0 (oo+i) rfl rfl hfx (by simp) ?_
   refine b0l ob (oo+i) (.slice (some ⟨g,0,none⟩) (to bs[i]).length c) rfl rfl (b4Q hr1 hw1) ?_
   refine a6H (g:=g) (o:=0) (len:=(to bs[i]).length) (k:=c) (sz:=3) (j:=1) (by omega) (by omega) rfl rfl rfl rfl hTr hTg ?_
   refine a5R g (0+(1:Int).toNat*3) 2 5 rfl rfl hfg rfl ?_
   refine c11 (v:=.bool true) rfl rfl rfl rfl hTb rfl hu hfz ?_
   refine wpList_nil (d0y (a38 (wp_region_lit ?_)))
   refine c0i (.int .i64 (i:Int)) (.int .i64 1) (.int .i64 ((i+1:Nat):Int)) f59 rfl rfl rfl (by have:=c6R (P:=P) (w:=w.setCell ⟨g,5,none⟩ (.bool true)) (T:=Ti) (x:=.tmp 59) (y:=.const (.int .i64 1)) (k:=.i64) (a:=(i:Int)) (b:=1); rw [c8U i (Nat.lt_of_lt_of_le hlt hs.le_max)] at this; exact this) ?_
   refine a8o (.int .i64 ((i+1:Nat):Int)) rfl rfl ?_
   refine wpList_nil ⟨rfl,by omega,_,rfl,f12,f58,rfl,hfl.store hu fun b=>⟨fun ⟨ob',oo',j,l,c',e,hj,hc⟩=>?_,fun h=>?_⟩⟩
   ·cases e
    by_cases ej:j<i
    ·exact .inl ⟨ob,oo,j,l,c',rfl,ej,hc⟩
    ·obtain rfl:j=i:=by omega
     rw [k1] at hc
     cases hc
     exact .inr rfl
   ·rcases h with ⟨ob',oo',j,l,c',e,hj,hc⟩ | rfl
    ·exact ⟨ob',oo',j,l,c',e,by omega,hc⟩
    ·exact ⟨ob,oo,i,_,_,rfl,by omega,k1⟩
  ·rw [if_neg hlt] at hst
   cases hst
   have hd:decide ((i:Int)<(bs.length:Int))=false:=by simpa using hlt
   obtain rfl:i=bs.length:=by omega
   exact wp_seq (c2W rfl hd rfl (wp_exit (c7V ⟨rfl,_,rfl,f12,hfl⟩)))
 ·obtain ⟨rfl,F',rfl,f12,hfl⟩:=hp
  exact d0M (hk F' w hfl (f12.trans h12.symm))
theorem b9I (hT:FlipTy B to ps ng bt){τ:S}{bs:List γ}{A:Option Addr}{k:Nat}(hs:Sl τ bs A k)(h2:∀ x∈bs,2<=(to x).length){w:World}(hfl:Flip (JB τ.w A bs.length) τ.w w)
 {b o:Nat} {v:Value} (hc:τ.w.cell? ⟨b,o,none⟩=some v) (hv:∀ x,v≠.bool x):w.cell? ⟨b,o,none⟩=some v:=by
 rw [hfl.off b o fun hJ=>?_]
 ·exact hc
 ·obtain ⟨_,x,hx⟩:=b43 hT hs h2 (Nat.le_refl _) hJ.1
  rw [hJ.2,hx] at hc
  exact hv x (Option.some.inj hc).symm
theorem c6X {σ τ:S}:∀ {xs:List Int} {cs:List Value},Q3 σ xs cs->Q3 τ xs cs/\∀ v∈cs,∀ x,v≠.bool x
 | [],_,h=>by cases h; exact ⟨rfl,fun v hv=>by cases hv⟩
 | n::xs,_,⟨c,r,e,hc,hr⟩=>by
   obtain ⟨h1,h2⟩:=c6X (τ:=τ) hr
   have hc':c=[.int .i64 n]:=hc
   refine ⟨⟨c,r,e,hc,h1⟩,fun v hv x=>?_⟩
   subst e
   subst hc'
   rcases List.mem_append.1 hv with hv | hv
   ·rw [List.mem_singleton.1 hv]; intro h; cases h
   ·exact h2 v hv x
theorem b1b (hT:FlipTy B to ps ng bt){τ:S}{bs:List γ}{A:Option Addr}{k:Nat}(hs:Sl τ bs A k)(h2:∀ x∈bs,2<=(to x).length){w:World}(hfl:Flip (JB τ.w A bs.length) τ.w w)
 {xs:List Int} {A1:Option Addr} {c1:Nat} (h:Sl τ xs A1 c1):Sl (⟨w,τ.L⟩:S) xs A1 c1:=by
 obtain ⟨h1,h3,cs,h4,h5⟩:=h
 obtain ⟨k1,k2⟩:=c6X (τ:=⟨w,τ.L⟩) h4
 refine ⟨h1,h3,cs,k1,fun hn=>?_⟩
 obtain ⟨b,o,e,h6⟩:=h5 hn
 exact ⟨b,o,e,⟨h6.1.1,fun j hj=>(hfl.fz _).trans (h6.1.2 j hj)⟩,fun j v hv=>b9I hT hs h2 hfl (h6.2 j v hv) (k2 v (List.mem_of_getElem? hv))⟩
theorem c06 (hT:FlipTy B to ps ng bt){τ:S}{bs:List γ}{A:Option Addr}{k:Nat}(hs:Sl τ bs A k)(h2:∀ x∈bs,2<=(to x).length){w:World}(hfl:Flip (JB τ.w A bs.length) τ.w w)
 {d:δ} {cs:List Value} (h:Rp.cells τ d cs):Rp.cells (⟨w,τ.L⟩:S) d cs:=by
 obtain ⟨A1,c1,A2,c2,e,k1,k2⟩:=hT.cδ.1 h
 exact hT.cδ.2 ⟨A1,c1,A2,c2,e,b1b hT hs h2 hfl k1,b1b hT hs h2 hfl k2⟩
theorem b9W (hT:FlipTy B to ps ng bt){τ:S}{bs:List γ}{A:Option Addr}{k:Nat}(hs:Sl τ bs A k)(h2:∀ x∈bs,2<=(to x).length){w:World}(hfl:Flip (JB τ.w A bs.length) τ.w w) :
 ∀ {ds:List δ} {cs:List Value},Q3 τ ds cs->Q3 (⟨w,τ.L⟩:S) ds cs
 | [],_,h=>h
 | _::_,_,⟨c,r,e,hc,hr⟩=>⟨c,r,e,c06 hT hs h2 hfl hc,b9W hT hs h2 hfl hr⟩
theorem c1K {σ:S}{f:γ->γ}:∀ {xs:List γ} {cs:List Value},cs.length=xs.length->(∀ (i:Nat) (x:γ) (v:Value),xs[i]?=some x->cs[i]?=some v->Rp.cells σ (f x) [v])->Q3 σ (xs.map f) cs
 | [],[],_,_=>rfl
 | x::xs,v::cs,h,hk=>⟨[v],cs,rfl,hk 0 x v rfl rfl,c1K (by simpa using h) fun i x' v' h1 h2=>hk (i+1) x' v' h1 h2⟩
theorem c5P (hT:FlipTy B to ps ng bt){setL:δ->δ}{setB:γ->γ}(hset:∀ x d0 d1 r,to x=d0::d1::r->to (setB x)=d0::setL d1::r)(hL:∀ d,ps (setL d)=ps d/\ng (setL d)=ng d/\bt (setL d)=true)
 {τ:S} {bs:List γ} {A:Option Addr} {k:Nat} (hs:Sl τ bs A k) (h2:∀ x∈bs,2<=(to x).length) {w:World} (hfl:Flip (JB τ.w A bs.length) τ.w w):Sl (⟨w,τ.L⟩:S) (bs.map setB) A k:=by
 have hs0:=hs
 obtain ⟨h1,h3,cs,h4,h5⟩:=hs
 have hlen:cs.length=bs.length:=by rw [h4.len,hT.szγ,Nat.mul_one]
 refine ⟨by rw [List.length_map]; exact h1,h3,cs,c1K hlen fun i x v hx hv=>?_,fun hn=>?_⟩
 ·have hi:i<bs.length:=(List.getElem?_eq_some_iff.1 hx).1
  obtain ⟨ob,oo,g,c,d0,d1,r,eA,k1,k2,k3,k4,k5,k6⟩:=b5T hT hs0 hx (h2 x (List.mem_of_getElem? hx))
  obtain ⟨b,o,eA',h6⟩:=h5 (by intro e; rw [e] at hi; simp at hi)
  rw [eA] at eA'
  cases eA'
  have hv':=h6.2 i v hv
  rw [k1] at hv'
  cases hv'
  have hJ:JB τ.w A bs.length g:=⟨ob,oo,i,_,_,eA,hi,k1⟩
  have hto:=hset x d0 d1 r k3
  have hl:(to (setB x)).length=(to x).length:=by rw [hto,k3]; rfl
  refine hT.cγ.2 ⟨some ⟨g,0,none⟩,c,by rw [hl],?_,fun _=>⟨g,rfl,k2⟩⟩
  obtain ⟨m1,m2,cs2,m3,m4⟩:=k4
  refine ⟨by rw [hl]; exact m1,m2,?_⟩
  rw [k3] at m3
  obtain ⟨q0,r0,rfl,f0,q1,r1,rfl,f1,f2⟩:=m3
  obtain ⟨b',o',eg,m5⟩:=m4 (by rw [k3]; exact List.cons_ne_nil _ _)
  cases eg
  obtain ⟨A1,c1,A2,c2,rfl,s1,s2⟩:=hT.cδ.1 f1
  have hq0:q0.length=3:=(Rp.len f0).trans hT.szδ
  match q0,hq0 with
  | [x0,x1,x2],_ =>
    refine ⟨[x0,x1,x2]++([.slice A1 (ps d1).length c1,.slice A2 (ng d1).length c2,.bool true]++r1),?_,fun _=>⟨g,0,rfl,⟨?_,fun j hj=>(hfl.fz _).trans (m5.1.2 j (by simpa using hj))⟩,fun j v hv=>?_⟩⟩
    ·rw [hto]
     obtain ⟨l1,l2,l3⟩:=hL d1
     exact ⟨_,_,rfl,c06 hT hs0 h2 hfl f0,_,_,rfl,hT.cδ.2 ⟨A1,c1,A2,c2,by rw [l1,l2,l3],by rw [l1]; exact b1b hT hs0 h2 hfl s1,by rw [l2]; exact b1b hT hs0 h2 hfl s2⟩,b9W hT hs0 h2 hfl f2⟩
    ·simpa using m5.1.1
    ·by_cases ej:j=5
     ·subst ej
      have hv2:some (Value.bool true)=some v:=hv
      cases hv2
      rw [Nat.zero_add]
      exact hfl.on g hJ
     ·show w.cell? ⟨g,0+j,none⟩=some v
      rw [hfl.off g (0+j) fun h=>ej (by omega)]
      refine m5.2 j v ?_
      match j,ej,hv with
      | 0,_,hv=>exact hv
      | 1,_,hv=>exact hv
      | 2,_,hv=>exact hv
      | 3,_,hv=>exact hv
      | 4,_,hv=>exact hv
      | j+6,_,hv=>exact hv
 ·have hn':bs≠[]:=fun e=>hn (by rw [e]; rfl)
  obtain ⟨b,o,eA,h6⟩:=h5 hn'
  refine ⟨b,o,eA,⟨h6.1.1,fun j hj=>(hfl.fz _).trans (h6.1.2 j hj)⟩,fun j v hv=>?_⟩
  refine b9I hT hs0 h2 hfl (h6.2 j v hv) fun x e=>?_
  have hj:j<bs.length:=by rw [<- hlen]; exact (List.getElem?_eq_some_iff.1 hv).1
  obtain ⟨ob,oo,g,c,d0,d1,r,eA',k1,_⟩:=b5T hT hs0 (List.getElem?_eq_getElem hj) (h2 _ (List.getElem_mem hj))
  rw [eA] at eA'
  cases eA'
  have:=h6.2 j v hv
  rw [k1] at this
  cases this
  cases e
theorem c6b {J:Nat->Prop}{M:Nat->Prop}{σ τ:S}{w:World}(hst:Stp M σ τ)(hJ:∀ b,J b->σ.N<=b)(hfl:Flip J τ.w w):Stp M σ (⟨w,τ.L⟩:S):=by
 have hno:∀ b,b<σ.w.heap.size->¬ J b:=fun b hb h=>by
  have h':σ.w.heap.size<=b:=hJ b h
  omega
 refine ⟨⟨?_,hst.wext.len,fun b o v ho hc=>?_,?_,fun b o hb hf=>(hfl.fz _).trans (hst.wext.nf b o hb hf)⟩,hfl.os.trans hst.os,hfl.tape.trans hst.tape,hfl.output.trans hst.output,fun b hb hn=>?_⟩
 ·show σ.w.heap.size<=w.heap.size
  rw [hfl.size]
  exact hst.wext.size
 ·show w.cell? ⟨b,o,none⟩=some v
  rw [hfl.off b o fun h=>hno b (a3B hc) h.1]
  exact hst.wext.cell b o v ho hc
 ·show σ.w.drawn<=w.drawn
  rw [hfl.drawn]
  exact hst.wext.drawn
 ·obtain ⟨h1,h2⟩:=hst.block b hb hn
  exact ⟨(hfl.far b (hno b hb)).trans h1,h2⟩
end
end Go.Qx
end
section
namespace Go.Qx
open Go Go.RowKit Go.Sx
def b8Q:Nat->Code->List Code
 | m+1,.seq a b=>a::b8Q m b
 | _,_=>[]
def c3t:Nat->Code->Code
 | m+1,.seq _ b=>c3t m b
 | _,c=>c
theorem c1z:∀ (m:Nat) (c:Code),b0Q (b8Q m c) (c3t m c)=c
 | 0,c=>by cases c<;>rfl
 | m+1,c=>by
   cases c with
   | seq a b=>exact congrArg (Code.seq a) (c1z m b)
   | _=>rfl
section
variable {I:TypeId->Type} [∀ E,Rp (I E)] {P:Program}{ρ:Type}
def c2Y (s:St I)(E:TypeId)(xs:List (I E)):St I:=⟨71,fun i=>bif Nat.beq i 12 then some (.sl E xs false) else none,fun l=>match s.O l with
 | some _=>some none
 | none=>none,s.nx⟩
def c3P (tb:Tab I)(disp:a0r I)(H:Hints I)(E:TypeId)(setB:I E->I E)(ok:I E->Bool)(c20:Code)(fin:Ex->St I->Option ρ)(s:St I):Option ρ:=match s.F 12 with
 | some (.vw l)=>match s.O l with
   | some (some (.row E' xs false))=>Option.bind (a1F E E' xs) fun bs=>bif bs.all ok then a2M tb disp H c20 1023 ρ (c2Y s E (bs.map setB)) fin else none
   | _=>none
 | _=>none
def c69 (tb:Tab I)(disp:a0r I)(H:Hints I)(E:TypeId)(setB:I E->I E)(ok:I E->Bool)(r14 c20:Code)(fin:Ex->St I->Option ρ):Ex->St I->Option ρ
 | .normal,s=>a2M tb disp H r14 2044 ρ s fun e s1=>match e with
   | .normal=>Option.bind (evP s1.n s1.F (.tmp 56)) fun q=>match q with
     | .bool b=>bif b then c3P tb disp H E setB ok c20 fin s1 else a2M tb disp H c20 1023 ρ s1 fin
     | _=>none
   | _=>none
 | .ret,s=>fin .ret s
 | .exit _,_=>none
set_option maxHeartbeats 1000000 in
theorem c7F {tb:Tab I}{disp:a0r I}{H:Hints I}(ht:TabOk P tb)(hd:DispOk P disp)(hmx:P.follows .mixedOrders=true){B f:Nat}{T1 T2 E G:TypeId}{to:I E->List (I G)}{ps ng:I G->List Int}{bt:I G->Bool}
 (hT:FlipTy B to ps ng bt) {setL:I G->I G} {setB:I E->I E} (hset:∀ x d0 d1 r,to x=d0::d1::r->to (setB x)=d0::setL d1::r) (hL:∀ d,ps (setL d)=ps d/\ng (setL d)=ng d/\bt (setL d)=true) {ok:I E->Bool} (hok:∀ x,ok x=true->2<=(to x).length)
 {run:b6S I [.d (.dat T1),.d (.dat T2)] (TyT I [.k (.d (.sl E)),.k (.d (.int .i64))])} {fn:Func} {cd r14 c20:Code}
 {Ti Tb To Tx Tr Tg Tl:TypeId} {i1 i2 i15 i16 i17 i18 i19:Nat} {t0 t1 t2 t3 t4 t5 t6 t7 t8 t9 ta tb' tc u1 u2 l1 l2 l3:TypeId} {p0 p1 p2 p3 p4 p5 p6 p7 p8 p9 pa pb pc q1 q2 q3:String} {a0 a1 a2 a3 a4 a5 a6 a7 a8 a9 aa ab ac b1 b2 b3:Array Edge}
 (hf : P.funcs[f]? = some fn) (hb : fn.body = some cd) (hname : (fn.name == "runtime.NumGoroutine") = false) (hn : fn.ntmps = 71) {rl : List ResultVar} (hres : fn.results.toList = rl)
 (hrest:c3t 8 cd=.seq (.seq r14 (.cond (.tmp 56) (.seq (.region i15 #[⟨some 57,.move (.tmp 12),l1,q1,b1,none⟩,⟨some 58,.call ⟨.builtin .len,#[.tmp 57],#[Tl]⟩,l2,q2,b2,none⟩,⟨some 59,.move (.const (.int .i64 0)),l3,q3,b3,none⟩] false)
   (.block i1 (.loop (.seq (.region i16 #[⟨some 60,.binOp .lss Ti (.tmp 59) (.tmp 58) u1,t0,p0,a0,none⟩] false) (.seq (.cond (.tmp 60) .skip (.exit i1)) (.seq (.block i2 (.seq
   (.region i17 #[⟨some 61,.move (.tmp 59),t1,p1,a1,none⟩,⟨some 13,.assign (.tmp 61),t2,p2,a2,none⟩] false)
   (.region i18 #[⟨some 62,.move (.tmp 12),t3,p3,a3,none⟩,⟨some 63,.move (.tmp 13),t4,p4,a4,none⟩,⟨some 64,.indexAddr To (.tmp 62) (.tmp 63),t5,p5,a5,none⟩,⟨some 65,.fieldAddr Tx (.tmp 64) 0,t6,p6,a6,none⟩,⟨some 66,.load Tr (.tmp 65),t7,p7,a7,none⟩,
     ⟨some 67,.indexAddr Tr (.tmp 66) (.const (.int .i64 1)),t8,p8,a8,none⟩,⟨some 68,.fieldAddr Tg (.tmp 67) 2,t9,p9,a9,none⟩,⟨none,.store Tb (.tmp 68) (.const (.bool true)),ta,pa,aa,none⟩] false)))
   (.region i19 #[⟨some 69,.binOp .add Ti (.tmp 59) (.const (.int .i64 1)) u2,tb',pb,ab,none⟩,⟨some 59,.move (.tmp 69),tc,pc,ac,none⟩] false))))))) .skip)) c20)
 (hTo:P.underlying To=some (.slice Tx)) (hTx:(P.info? Tx).map (·.size)=some 1) (hfx:a6v P Tx 0 0) (hr1:a2u P Tr) (hTr:P.underlying Tr=some (.slice Tg)) (hTg:(P.info? Tg).map (·.size)=some 3) (hfg:a6v P Tg 2 2) (hTb:(P.info? Tb).map (·.size)=some 1) (hTl:P.underlying Tl=some (.slice Tx))
 (hctx:c0f H (b8Q 8 cd) 1=true) (hc14:a1f H r14 2044=true) (hc20:a1f H c20 1023=true) (hlo:tb.lo=B)
 (hrun:run=fun x1 x2=>a2M tb disp H (b0Q (b8Q 8 cd) .skip) 1 _ (a5j tb 71 [.d (.dat T1),.d (.dat T2)] (x1,x2,())) (c69 tb disp H E setB ok r14 c20 (fin tb [.d (.dat T1),.d (.dat T2)] [.k (.d (.sl E)),.k (.d (.int .i64))] rl))) :
 a3N P (⟨f,[.d (.dat T1),.d (.dat T2)],[.k (.d (.sl E)),.k (.d (.int .i64))],run⟩:Row I) (fun w _=>w.heap.size=B):=by
 refine b9e (s0:=a5j tb 71 [.d (.dat T1),.d (.dat T2)]) ht 71 (fun _ _ _ _ _ _ h _ _ _=>h) hf hb hname hn hres rfl (hlo:=.inr fun w vs h=>by rw [hlo,h]; exact Nat.le_refl _) fun X c σ F Q a res hX hC hrel happ hk=>?_
 obtain ⟨vs0,hC⟩:=hC
 have hB:σ.w.heap.size=B:=hC
 have happ':a2M tb disp H (b0Q (b8Q 8 cd) .skip) 1 _ (a5j tb 71 [.d (.dat T1),.d (.dat T2)] (a.1,a.2.1,())) (c69 tb disp H E setB ok r14 c20 (fin tb [.d (.dat T1),.d (.dat T2)] [.k (.d (.sl E)),.k (.d (.int .i64))] rl))=some res:=by
  rw [hrun] at happ
  exact happ
 have hcd:=c1z 8 cd
 rw [<- hcd,hrest]
 refine c1f ht hd hmx (b8Q 8 cd) 1 hctx _ _ _ res X c σ F Q hX happ' hrel (fun e s' c' τ F' hne h1 h2 h3 h4=>?_) (fun s' c' τ F' h1 h2 h3 h4=>?_)
 ·cases e with
  | normal=>exact absurd rfl hne
  | exit i=>cases h1
  | ret=>exact hk .ret s' c' τ F' h1 h2 h3 h4
 ·refine wp_seq (wp_seq (a1z ht hd hmx r14 2044 hc14 _ s' _ res X c' τ F' _ hX h1 h3 fun e s1 c1 υ F1 g1 g2 g3 g4 _=>?_))
  cases e with
  | exit i=>cases g1
  | ret=>cases g1
  | normal =>
    obtain ⟨q,hq,g1⟩:=bind_some g1
    rw [g3.len] at hq
    obtain ⟨e1,e2⟩:=a9O g3.frame hq
    split at g1
    ·rename_i bb
     simp only [RV] at e2
     cases bb with
     | false =>
       refine a38 (wp_cond_false ((v8 e1).trans e2) (wp_skip (a38 ?_)))
       exact a1z ht hd hmx c20 1023 hc20 _ s1 _ res X c1 υ F1 Q hX g1 g3 fun e s2 c2 υ2 F2 m1 m2 m3 m4 _=>hk e s2 c2 υ2 F2 m1 (Cx.le_trans h2 (Cx.le_trans g2 m2)) m3 ((h4.trans g4).trans m4)
     | true =>
       refine a38 (wp_cond_true ((v8 e1).trans e2) ?_)
       have g1':c3P tb disp H E setB ok c20 (fin tb [.d (.dat T1),.d (.dat T2)] [.k (.d (.sl E)),.k (.d (.int .i64))] rl) s1=some res:=g1
       unfold c3P at g1'
       split at g1'
       ·rename_i l hl12
        split at g1'
        ·rename_i E' xs hol
         obtain ⟨bs,hbs,g1'⟩:=bind_some g1'
         obtain ⟨eE,rfl⟩:=X9 hbs
         subst eE
         obtain ⟨hall,hex⟩:=j5 g1'
         have h2':∀ x∈xs,2<=(to x).length:=fun x hx=>hok x (List.all_eq_true.1 hall x hx)
         obtain ⟨υ3,w3,st3,r3⟩:=g3.pub l
         have hv:=r3.frame 12 (.vw l) (by unfold Qx.pub; rw [hol]; exact hl12)
         simp only [RV] at hv
         obtain ⟨p,hp,hF12⟩:=hv
         have ho:=r3.objs l (.row E' xs true) (by unfold Qx.pub; rw [hol]; exact Y8 _ _ _)
         obtain ⟨A,k,ow,k1,k2⟩:=ho
         rw [k1] at hp
         cases hp
         have hs:Sl υ3 xs A k:=k2.sl
         have hF12':F1 12=.slice A xs.length k:=hF12
         rw [<- w3]
         refine wp_seq (wp_region_lit ?_)
         refine a8o (.slice A xs.length k) hF12' rfl ?_
         refine b0U A xs.length k rfl rfl hTl ?_
         refine a8o (.int .i64 0) rfl rfl ?_
         refine wpList_nil (a38 (c4l hT hs h2' hTo hTx hfx hr1 hTr hTg hfg hTb hF12' rfl rfl fun F' w hfl hF'=>a38 ?_))
         have hst4:Stp X.M σ (⟨w,υ3.L⟩:S):=c6b ((h4.trans g4).trans st3) (fun b hJ=>by
          have:=(b43 hT hs h2' (Nat.le_refl _) hJ).1
          show σ.w.heap.size<=b
          omega) hfl
         have hsl:=c5P hT hset hL hs h2' hfl
         have hr4:Rel X c1 (⟨w,υ3.L⟩:S) (c2Y s1 E' (xs.map setB)) 71 F':=by
          refine ⟨rfl,fun i p hp=>?_,fun l' o ho=>?_,fun l1 l2 p1 p2 b ⟨o,ho⟩=>?_,fun l' p b ⟨o,ho⟩=>?_,fun l' hl'=>?_,⟨?_,r3.base.2⟩,noN.nests fun l' E0 E0' u ys q e=>?_⟩
          ·have hp':(bif Nat.beq i 12 then some (PV.sl E' (xs.map setB) false) else none)=some p:=hp
           obtain ⟨hi,hp'⟩:=j5 hp'
           cases hp'
           have:=Nat.eq_of_beq_eq_true hi
           subst this
           simp only [RV]
           exact ⟨A,k,by rw [List.length_map]; exact hF'.trans hF12',hsl,fun h=>by cases h⟩
          all_goals
           simp only [c2Y] at *
          ·split at ho<;>cases ho
          ·split at ho<;>cases ho
          ·split at ho<;>cases ho
          ·split at hl'
           ·cases hl'
           ·rename_i hn; exact g3.nom l' hn
          ·show X.N<=w.heap.size
           rw [hfl.size]
           exact r3.base.1
          ·split at e<;>cases e
         exact a1z ht hd hmx c20 1023 hc20 _ _ _ res X c1 (⟨w,υ3.L⟩:S) F' Q hX hex hr4 fun e s2 c2 υ2 F2 m1 m2 m3 m4 _=>hk e s2 c2 υ2 F2 m1 (Cx.le_trans h2 (Cx.le_trans g2 m2)) m3 (hst4.trans m4)
        ·cases g1'
       ·cases g1'
    ·cases g1
end
end Go.Qx
end

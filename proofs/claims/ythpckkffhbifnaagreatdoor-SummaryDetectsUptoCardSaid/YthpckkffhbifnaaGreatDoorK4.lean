/- Part 4. -/
import Derived.Test.YthpckkffhbifnaaGreatDoorK2
import Derived.Test.YthpckkffhbifnaaGreatDoorK3
import Derived.ChangeArms
import Derived.KernelRfl
import Derived.OpenShut
import Derived.Shelf.Lays
import Derived.Shelf.Strconv.Itoa3
import Derived.Shelf.Strings.Builder1
import Derived.Test.YthpckkffhbifnaaGreatDoorProg
import Derived.Test.YthpckkffhbifnaaGreatDoorRows
section
namespace Go.Pl
open Go Go.RowKit Go.Sx Go.Qx
def isI (k:Int):Prop := -9223372036854775808<=k/\k<=9223372036854775807
theorem a3p {k:Int}(h0:0<=k)(h1:k<=1000000):isI k:=⟨by omega,by omega⟩
def a2x (k:Int):List Int:=b1g 9 (zig k)
theorem b8W:∀ (f z:Nat),(b1g f z).length<=f+1
 | 0,z=>by simp [b1g]
 | f+1,z=>by
   unfold b1g
   split
   ·simp
   ·have:=b8W f (z / 128)
    simp only [List.length_cons]
    omega
theorem K2 (k:Int):(a2x k).length<=10:=b8W 9 (zig k)
theorem b56 {a:Nat}(h:a<=100000000):Y6 a 1=some ():=by
 unfold Y6
 rw [if_pos (by omega)]
theorem b9I {z:Nat}(h:z<256):wr .u8 (z:Int)=(z:Int):=by rw [b8A]; omega
theorem b8E:∀ (f m z:Nat) (w:List Int),z<128^(f+1)->w.length+f<=90000000->z+1<=m->∃ z':Int,∃ w':List Int,y0 a0s m ((z:Int),w)=some (z',w')/\w'++[wr .u8 z']=w++b1g f z/\w'.length<=w.length+f
 | 0,m,z,w,hz,_,hm=>by
   obtain ⟨m,rfl⟩:∃ k,m=k+1:=⟨m-1,by omega⟩
   have h1:decide (128<=(z:Int))=false:=decide_eq_false (by omega)
   refine ⟨(z:Int),w,?_,?_,by omega⟩
   ·rw [y0]
    unfold a0s
    simp only [h1,cond_false]
    rfl
   ·unfold b1g
    rw [b9I (by omega)]
 | f+1,m,z,w,hz,hw,hm=>by
   obtain ⟨m,rfl⟩:∃ k,m=k+1:=⟨m-1,by omega⟩
   rw [y0]
   unfold a0s
   by_cases h:z<128
   ·have h1:decide (128<=(z:Int))=false:=decide_eq_false (by omega)
    refine ⟨(z:Int),w,?_,?_,by omega⟩
    ·simp only [h1,cond_false]
     rfl
    ·unfold b1g
     rw [if_pos h,b9I (by omega)]
   ·have h1:decide (128<=(z:Int))=true:=decide_eq_true (by omega)
    have hd:z / 128<128^(f+1):=by
     rw [Nat.pow_succ] at hz
     exact Nat.div_lt_of_lt_mul (by rw [Nat.mul_comm]; exact hz)
    obtain ⟨z',w',k1,k2,k3⟩:=b8E f m (z / 128) (w++[((z%128+128:Nat):Int)]) hd (by rw [List.length_append]; simp only [List.length_cons,List.length_nil]; omega) (by omega)
    refine ⟨z',w',?_,?_,?_⟩
    ·simp only [h1,cond_true,Option.bind_some,c6o,c6N,b56 (show w.length+([((z%128+128:Nat):Int)]:List Int).length<=100000000 by simp only [List.length_cons,List.length_nil]; omega)]
     exact k1
    ·rw [k2,List.append_assoc]
     congr 1
     conv=>rhs; unfold b1g
     rw [if_neg h]
     rfl
    ·rw [List.length_append] at k3
     simp only [List.length_cons,List.length_nil] at k3
     omega
theorem a4X {k:Int}(hk:isI k){w:List Int}(hw:w.length<=50000000):Y1 w k=some (w++a2x k):=by
 obtain ⟨a,c,h1,h2,h3⟩:=c4u hk
 have hz:=c4s hk
 obtain ⟨z',w',k1,k2,k3⟩:=b8E 9 (zig k+2) (zig k) w (by
  have:(18446744073709551616:Nat)<=128^(9+1):=by decide
  omega) (by omega) (by omega)
 unfold Y1
 rw [h1,Option.bind_some,h2,Option.bind_some,h3,show ((zig k:Int)).toNat+2=zig k+2 from rfl,k1,Option.bind_some]
 simp only [b56 (show w'.length+([wr .u8 z']:List Int).length<=100000000 by simp only [List.length_cons,List.length_nil]; omega),Option.bind_some]
 rw [k2]
 rfl
theorem a2s {k:Int}(hk:isI k){w:List Int}(hw:w.length<=50000000):Y7 w k=some (w++a2x k):=by
 unfold Y7
 rw [a4X hk hw]
 rfl
def b2K (s:ByteArray):List Int:=a2x (s.size:Int)++b9e s
def c0D (b:Bool):List Int:=if b=true then [1] else [0]
theorem b8H (s:ByteArray):(b9e s).length=s.size:=by
 unfold b9e
 rw [List.length_map]
 exact Array.length_toList
def OkT (s:ByteArray):Prop:=s.size<=20
theorem a3h {s:ByteArray}(h:OkT s):(b2K s).length<=30:=by
 have:=K2 (s.size:Int)
 unfold b2K
 rw [List.length_append,b8H]
 unfold OkT at h
 omega
theorem b3W {s:ByteArray}(h:OkT s){w:List Int}(hw:w.length<=50000000):W0 w s=some (w++b2K s):=by
 have h1:s.size<=20:=h
 have h2:=K2 (s.size:Int)
 unfold W0
 rw [a4X (a3p (by omega) (by omega)) hw,Option.bind_some,b56 (by rw [List.length_append,b8H]; omega),Option.bind_some]
 unfold b2K
 rw [List.append_assoc]
theorem b74 (b:Bool){w:List Int}(hw:w.length<=50000000):a0x w b=some (w++c0D b):=by
 unfold a0x
 cases b
 ·rw [cond_false,b56 (by simp only [List.length_cons,List.length_nil]; omega)]
  rfl
 ·rw [cond_true,b56 (by simp only [List.length_cons,List.length_nil]; omega)]
  rfl
theorem b8K {α:Type}(enc:α->List Int)(B:Nat):∀ (l:List α),(∀ x∈l,(enc x).length<=B)->(l.flatMap enc).length<=l.length*B
 | [],_=>by simp
 | x::l,h=>by
   have h1:=h x List.mem_cons_self
   have h2:=b8K enc B l fun y hy=>h y (List.mem_cons_of_mem _ hy)
   rw [List.flatMap_cons,List.length_append,List.length_cons,Nat.add_mul]
   omega
theorem c1W {α:Type}{step:Int×List Int->Option (Fl (Int×List Int) (List Int))}(wr1:List Int->α->Option (List Int))(enc:α->List Int)(l:List α)(B M:Nat)
 (hstep:∀ i w,step (i,w)=bif decide (i<(l.length:Int)) then (Option.bind (idx l i) fun e=>Option.bind (wr1 w e) fun r=>some (.next (wr .i64 (i+1),r))) else some (.done w))
 (hw1:∀ x∈l,∀ w:List Int,w.length<=M->wr1 w x=some (w++enc x)) (hB:∀ x∈l,(enc x).length<=B) (hl:l.length<=1000) {w:List Int} (hw:w.length+l.length*B<=M) :
 y0 step ((l.length:Int).toNat+1) (0,w)=some (w++l.flatMap enc):=by
 have key:∀ (m j:Nat) (v:List Int),l.length-j=m->j<=l.length->v.length<=w.length+j*B->y0 step (m+1) ((j:Int),v)=some (v++(l.drop j).flatMap enc):=by
  intro m
  induction m with
  | zero =>
    intro j v hm hj hv
    have e:j=l.length:=by omega
    subst e
    rw [y0,hstep,show decide ((l.length:Int)<(l.length:Int))=false from decide_eq_false (by omega),cond_false,List.drop_length]
    simp
  | succ m ih =>
    intro j v hm hj hv
    have hlt:j<l.length:=by omega
    have hjB:j*B<=l.length*B:=Nat.mul_le_mul_right _ (Nat.le_of_lt hlt)
    have hx:l[j]∈l:=List.getElem_mem hlt
    have hx1:=hB _ hx
    rw [y0,hstep,show decide ((j:Int)<(l.length:Int))=true from decide_eq_true (by omega),cond_true,a0c (List.getElem?_eq_getElem hlt),Option.bind_some,hw1 _ hx v (by omega),Option.bind_some]
    have e:wr .i64 ((j:Int)+1)=((j+1:Nat):Int):=by
     rw [a1C,a0b (by omega) (by omega)]
     omega
    show y0 step (m+1) (wr .i64 ((j:Int)+1),v++enc l[j])=_
    rw [e,ih (j+1) (v++enc l[j]) (by omega) (by omega) (by rw [List.length_append,Nat.add_mul]; omega),List.append_assoc,List.drop_eq_getElem_cons hlt,List.flatMap_cons]
 have:=key l.length 0 w (by omega) (by omega) (by omega)
 rw [List.drop_zero] at this
 exact this
def a3a {α:Type}(enc:α->List Int)(l:List α):List Int:=a2x (l.length:Int)++l.flatMap enc
theorem a8P {α:Type}{enc:α->List Int}{l:List α}(B n:Nat)(h:∀ x∈l,(enc x).length<=B)(hl:l.length<=n):(a3a enc l).length<=10+n*B:=by
 have h1:=b8K enc B l h
 have h2:=K2 (l.length:Int)
 have h3:l.length*B<=n*B:=Nat.mul_le_mul_right _ hl
 unfold a3a
 rw [List.length_append]
 omega
theorem b4k {α:Type}{step:Int×List Int->Option (Fl (Int×List Int) (List Int))}(wr1:List Int->α->Option (List Int))(enc:α->List Int)(l:List α)(B M:Nat)
 (hstep:∀ i w,step (i,w)=bif decide (i<(l.length:Int)) then (Option.bind (idx l i) fun e=>Option.bind (wr1 w e) fun r=>some (.next (wr .i64 (i+1),r))) else some (.done w))
 (hw1:∀ x∈l,∀ w:List Int,w.length<=M->wr1 w x=some (w++enc x)) (hB:∀ x∈l,(enc x).length<=B) (hl:l.length<=1000) {w:List Int} (hw0:w.length<=50000000) (hw:w.length+10+l.length*B<=M) :
 (Option.bind (Y1 w (l.length:Int)) fun r1=>Option.bind (y0 step ((l.length:Int).toNat+1) (0,r1)) fun b5=>some b5)=some (w++a3a enc l):=by
 have h2:=K2 (l.length:Int)
 rw [a4X (a3p (by omega) (by omega)) hw0,Option.bind_some,c1W wr1 enc l B M hstep hw1 hB hl (by rw [List.length_append]; omega),Option.bind_some]
 unfold a3a
 rw [List.append_assoc]
def b2G (f:Api_Field):List Int:=a2x f.Key_.Kind++(b2K f.Key_.Text++(a2x f.Node++c0D f.Optional))
def OkF (f:Api_Field):Prop:=isI f.Key_.Kind/\OkT f.Key_.Text/\isI f.Node
theorem b4Z (b:Bool):(c0D b).length=1:=by cases b<;>rfl
theorem b9a {f:Api_Field}(h:OkF f):(b2G f).length<=51:=by
 have h1:=K2 f.Key_.Kind
 have h2:=a3h h.2.1
 have h3:=K2 f.Node
 unfold b2G
 simp only [List.length_append,b4Z]
 omega
theorem c17 {f:Api_Field}(h:OkF f){w:List Int}(hw:w.length<=40000000):a0F w f=some (w++b2G f):=by
 have h1:=K2 f.Key_.Kind
 have h2:=a3h h.2.1
 have h3:=K2 f.Node
 unfold a0F
 rw [a2s h.1 (by omega),Option.bind_some,b3W h.2.1 (by simp only [List.length_append]; omega),Option.bind_some,a2s h.2.2 (by simp only [List.length_append]; omega),Option.bind_some,
  b74 _ (by simp only [List.length_append]; omega),Option.bind_some]
 unfold b2G
 simp only [List.append_assoc]
def b1x (x:Api_TypeNode):List Int:=a2x x.Kind++(a2x x.Lo++(a2x x.Hi++(b2K x.Text++(a3a a2x x.Kids++(a3a b2G x.Fields++(a2x x.Rest.1++a2x x.Rest.2))))))
structure OkN (x:Api_TypeNode):Prop where
 kind:isI x.Kind
 lo:isI x.Lo
 hi:isI x.Hi
 text:OkT x.Text
 kids:∀ k∈x.Kids,isI k
 kidl:x.Kids.length<=8
 flds:∀ f∈x.Fields,OkF f
 fldl:x.Fields.length<=8
 r1:isI x.Rest.1
 r2:isI x.Rest.2
theorem b7j {x:Api_TypeNode}(h:OkN x):(a3a a2x x.Kids).length<=90/\(a3a b2G x.Fields).length<=418 :=
 ⟨a8P 10 8 (fun k _=>K2 k) h.kidl,a8P 51 8 (fun f hf=>b9a (h.flds f hf)) h.fldl⟩
theorem b5s {x:Api_TypeNode}(h:OkN x):(b1x x).length<=588:=by
 have h1:=K2 x.Kind
 have h2:=K2 x.Lo
 have h3:=K2 x.Hi
 have h4:=a3h h.text
 have h5:=b7j h
 have h6:=K2 x.Rest.1
 have h7:=K2 x.Rest.2
 unfold b1x
 simp only [List.length_append]
 omega
theorem c4j {x:Api_TypeNode}(h:OkN x){w:List Int}(hw:w.length<=20000000):a0T w x=some (w++b1x x):=by
 have h1:=K2 x.Kind
 have h2:=K2 x.Lo
 have h3:=K2 x.Hi
 have h4:=a3h h.text
 have h5:=b7j h
 have h6:=K2 x.Rest.1
 have hkl:=h.kidl
 have hfl:=h.fldl
 have hk:∀ w:List Int,w.length<=30000000->a39 w x.Kids ()=some (w++a3a a2x x.Kids):=fun w hw =>
  b4k Y7 a2x x.Kids 10 50000000 (fun i w=>rfl) (fun k hk w hw=>a2s (h.kids k hk) hw) (fun k _=>K2 k) (by omega) (by omega) (by omega)
 have hf:∀ w:List Int,w.length<=30000000->a17 w x.Fields ()=some (w++a3a b2G x.Fields):=fun w hw =>
  b4k a0F b2G x.Fields 51 40000000 (fun i w=>rfl) (fun f hf w hw=>c17 (h.flds f hf) hw) (fun f hf=>b9a (h.flds f hf)) (by omega) (by omega) (by omega)
 unfold a0T
 rw [a2s h.kind (by omega),Option.bind_some,a4X h.lo (by simp only [List.length_append]; omega),Option.bind_some,a4X h.hi (by simp only [List.length_append]; omega),Option.bind_some,
  b3W h.text (by simp only [List.length_append]; omega),Option.bind_some,hk _ (by simp only [List.length_append]; omega),Option.bind_some,hf _ (by simp only [List.length_append]; omega),Option.bind_some,
  a2s h.r1 (by simp only [List.length_append]; omega),Option.bind_some,a2s h.r2 (by simp only [List.length_append]; omega),Option.bind_some]
 unfold b1x
 simp only [List.append_assoc]
def b57 (t:Api_Type):List Int:=a3a b1x t.Nodes++a2x t.Root
structure OkTy (t:Api_Type):Prop where
 nodes:∀ x∈t.Nodes,OkN x
 len:t.Nodes.length<=64
 root:isI t.Root
theorem c1v {t:Api_Type}(h:OkTy t):(b57 t).length<=37652:=by
 have h1:(a3a b1x t.Nodes).length<=10+64*588:=a8P 588 64 (fun x hx=>b5s (h.nodes x hx)) h.len
 have h2:=K2 t.Root
 unfold b57
 rw [List.length_append]
 omega
theorem c5s {t:Api_Type}(h:OkTy t){w:List Int}(hw:w.length<=15000000):a12 w t=some (w++b57 t):=by
 have h1:(a3a b1x t.Nodes).length<=10+64*588:=a8P 588 64 (fun x hx=>b5s (h.nodes x hx)) h.len
 have hl:=h.len
 have hn:a1m w t.Nodes ()=some (w++a3a b1x t.Nodes) :=
  b4k a0T b1x t.Nodes 588 20000000 (fun i w=>rfl) (fun x hx w hw=>c4j (h.nodes x hx) hw) (fun x hx=>b5s (h.nodes x hx)) (by omega) (by omega) (by omega)
 unfold a12
 rw [hn,Option.bind_some,a2s h.root (by simp only [List.length_append]; omega),Option.bind_some]
 unfold b57
 rw [List.append_assoc]
def b2E (s:Api_Signature):List Int:=b2K s.Ref.Name++(a2x s.Ref.Arity++b57 s.Type_)
structure OkS (s:Api_Signature):Prop where
 name:OkT s.Ref.Name
 ar:isI s.Ref.Arity
 ty:OkTy s.Type_
theorem b8m {s:Api_Signature}(h:OkS s):(b2E s).length<=37692:=by
 have h1:=a3h h.name
 have h2:=K2 s.Ref.Arity
 have h3:=c1v h.ty
 unfold b2E
 simp only [List.length_append]
 omega
theorem b7X {s:Api_Signature}(h:OkS s){w:List Int}(hw:w.length<=10000000):W8 w s=some (w++b2E s):=by
 have h1:=a3h h.name
 have h2:=K2 s.Ref.Arity
 unfold W8
 rw [b3W h.name (by omega),Option.bind_some,a2s h.ar (by simp only [List.length_append]; omega),Option.bind_some,c5s h.ty (by simp only [List.length_append]; omega),Option.bind_some]
 unfold b2E
 simp only [List.append_assoc]
def a75 (i:Api_Interface):List Int:=b2K i.Module++(c0D i.Checked++a3a b2E i.Signatures)
end Go.Pl
end
section
namespace Go.Pl
open Go Go.RowKit Go.Sx Go.Qx
def a8p (k:Int):Bool:=decide (-9223372036854775808<=k)&&decide (k<=9223372036854775807)
def c4F (f:Api_Field):Bool:=a8p f.Key_.Kind&&(decide (f.Key_.Text.size<=20)&&a8p f.Node)
def c5o (x:Api_TypeNode):Bool:=a8p x.Kind&&(a8p x.Lo&&(a8p x.Hi&&(decide (x.Text.size<=20)&&(x.Kids.all a8p&&(decide (x.Kids.length<=8)&&(x.Fields.all c4F&&(decide (x.Fields.length<=8)&&(a8p x.Rest.1&&a8p x.Rest.2))))))))
def c0J (t:Api_Type):Bool:=t.Nodes.all c5o&&(decide (t.Nodes.length<=64)&&a8p t.Root)
theorem a3D {k:Int}(h:a8p k=true):isI k:=by
 unfold a8p at h
 simpa [isI] using h
theorem c2O {t:Api_Type}(h:c0J t=true):OkTy t:=by
 unfold c0J at h
 simp only [Bool.and_eq_true,decide_eq_true_eq] at h
 refine ⟨fun x hx=>?_,h.2.1,a3D h.2.2⟩
 have hx:=List.all_eq_true.1 h.1 x hx
 unfold c5o at hx
 simp only [Bool.and_eq_true,decide_eq_true_eq] at hx
 obtain ⟨h1,h2,h3,h4,h5,h6,h7,h8,h9,h10⟩:=hx
 refine ⟨a3D h1,a3D h2,a3D h3,h4,fun k hk=>a3D (List.all_eq_true.1 h5 k hk),h6,fun f hf=>?_,h8,a3D h9,a3D h10⟩
 have hf:=List.all_eq_true.1 h7 f hf
 unfold c4F at hf
 simp only [Bool.and_eq_true,decide_eq_true_eq] at hf
 exact ⟨a3D hf.1,hf.2.1,a3D hf.2.2⟩
def b6r:Api_TypeNode:=⟨3,-9223372036854775808,9223372036854775807,⟨#[]⟩,[],[],(0,0)⟩
def a40:List Api_Type:=[⟨[b6r],0⟩,
 ⟨[⟨6,0,0,⟨#[116,114,117,101]⟩,[],[],(0,0)⟩,⟨6,0,0,⟨#[102,97,108,115,101]⟩,[],[],(0,0)⟩,⟨16,0,0,⟨#[]⟩,[0,1],[],(0,0)⟩],2⟩,
 ⟨[⟨7,0,0,⟨#[]⟩,[],[],(0,0)⟩],0⟩,
 ⟨[b6r,⟨9,0,0,⟨#[]⟩,[],[],(0,0)⟩,⟨12,0,0,⟨#[]⟩,[0,3],[],(0,0)⟩,⟨16,0,0,⟨#[]⟩,[1,2],[],(0,0)⟩],3⟩,
 ⟨[⟨7,0,0,⟨#[]⟩,[],[],(0,0)⟩,b6r,⟨10,0,0,⟨#[]⟩,[0,1],[],(0,0)⟩],2⟩,
 ⟨[b6r,b6r,⟨14,0,0,⟨#[]⟩,[0,1],[],(0,0)⟩],2⟩,
 ⟨[b6r,⟨2,0,0,⟨#[]⟩,[],[],(0,0)⟩,⟨2,0,0,⟨#[]⟩,[],[],(0,0)⟩,⟨13,0,0,⟨#[]⟩,[],[⟨⟨0,⟨#[97]⟩⟩,0,false⟩],(1,2)⟩],3⟩,
 ⟨[⟨2,0,0,⟨#[]⟩,[],[],(0,0)⟩],0⟩]
theorem c5I:J6 200000000 0=a40[0]?:=by kernel_rfl
theorem c5E:J6 200000000 1=a40[1]?:=by kernel_rfl
theorem c6g:J6 200000000 2=a40[2]?:=by kernel_rfl
theorem c51:J6 200000000 3=a40[3]?:=by kernel_rfl
theorem c5Z:J6 200000000 4=a40[4]?:=by kernel_rfl
theorem c6p:J6 200000000 5=a40[5]?:=by kernel_rfl
theorem c5D:J6 200000000 6=a40[6]?:=by kernel_rfl
theorem c5L:J6 200000000 7=a40[7]?:=by kernel_rfl
def c3m (k:Int):Option Api_Type:=bif decide (0<=k) then a40[k.toNat]? else none
theorem c21 {k:Int}(h0:0<=k)(h1:k<8):J6 200000000 k=c3m k:=by
 have e:k=0\/k=1\/k=2\/k=3\/k=4\/k=5\/k=6\/k=7:=by omega
 rcases e with rfl | rfl | rfl | rfl | rfl | rfl | rfl | rfl
 ·exact c5I
 ·exact c5E
 ·exact c6g
 ·exact c51
 ·exact c5Z
 ·exact c6p
 ·exact c5D
 ·exact c5L
def b4c (d:Semtypeprog_Callee)(x3:(List Api_TypeNode)×Int×(Int×Int×Int×ByteArray×(List Int)×(List Api_Field)×Int×Int)):Option (Fl ((List Api_TypeNode)×Int×(Int×Int×Int×ByteArray×(List Int)×(List Api_Field)×Int×Int)) ((List Api_TypeNode)×(Int×Int×Int×ByteArray×(List Int)×(List Api_Field)×Int×Int))) :=
 bif decide (x3.2.1<((d.Params++([d.Result]:List Int)).length:Int))
 then (Option.bind (idx (d.Params++([d.Result]:List Int)) x3.2.1) fun e4 =>
 Option.bind (c3m e4) fun r5 =>
 Option.bind (Y6 (x3.2.2.2.2.2.2.1.length+([wr .i64 ((x3.1.length:Int)+r5.Root)]:List Int).length) 8) fun u6 =>
 Option.bind (y0 (a28 x3 r5) ((r5.Nodes.length:Int).toNat+1) (x3.1,0)) fun b19 =>
 some (.next (b19,wr .i64 (x3.2.1+1),(x3.2.2.1,x3.2.2.2.1,x3.2.2.2.2.1,x3.2.2.2.2.2.1,x3.2.2.2.2.2.2.1++([wr .i64 ((x3.1.length:Int)+r5.Root)]:List Int),x3.2.2.2.2.2.2.2.1,x3.2.2.2.2.2.2.2.2.1,x3.2.2.2.2.2.2.2.2.2))))
 else (some (.done (x3.1,(x3.2.2.1,x3.2.2.2.1,x3.2.2.2.2.1,x3.2.2.2.2.2.1,x3.2.2.2.2.2.2.1,x3.2.2.2.2.2.2.2.1,x3.2.2.2.2.2.2.2.2.1,x3.2.2.2.2.2.2.2.2.2))))
def b5j (d:Semtypeprog_Callee):Option Api_Signature :=
 Option.bind (Y6 (0+d.Params.length) 8) fun u1 =>
 Option.bind (Y6 (d.Params.length+([d.Result]:List Int).length) 8) fun u2 =>
 Option.bind (y0 (b4c d) (((d.Params++([d.Result]:List Int)).length:Int).toNat+1) (([Api_TypeNode.mk 0 0 0 (⟨#[]⟩:ByteArray) ([]:List Int) ([]:List Api_Field) (0,0)]:List Api_TypeNode),0,(14,0,0,(⟨#[]⟩:ByteArray),[],[],0,0))) fun b20 =>
 Option.bind (idx b20.1 0) fun e21 =>
 Option.bind (b20.1[(0:Int).toNat]?) fun e22 =>
 some (Api_Signature.mk (Api_Ref.mk d.Name (d.Params.length:Int)) (Api_Type.mk (b20.1.set ((0:Int).toNat) (Api_TypeNode.mk b20.2.1 b20.2.2.1 b20.2.2.2.1 b20.2.2.2.2.1 b20.2.2.2.2.2.1 b20.2.2.2.2.2.2.1 (b20.2.2.2.2.2.2.2.1,b20.2.2.2.2.2.2.2.2))) 0))
theorem c25 {d:Semtypeprog_Callee}(h:∀ x∈d.Params++([d.Result]:List Int),0<=x/\x<8):a1z d 200000000=b4c d:=by
 funext x3
 unfold a1z b4c
 cases decide (x3.2.1<((d.Params++([d.Result]:List Int)).length:Int))
 ·rfl
 ·simp only [cond_true]
  cases he:idx (d.Params++([d.Result]:List Int)) x3.2.1 with
  | none=>rfl
  | some e =>
    have hm:=h e (List.mem_of_getElem? (a4e he).2)
    simp only [Option.bind_some,c21 hm.1 hm.2]
theorem c4k {d:Semtypeprog_Callee}(h:∀ x∈d.Params++([d.Result]:List Int),0<=x/\x<8):a0p 200000000 d=b5j d:=by
 unfold a0p b5j
 rw [c25 h]
theorem c1N (m nm:ByteArray)(ps:List Int)(r:Int):b5j (Semtypeprog_Callee.mk m nm ps r)=(b5j (Semtypeprog_Callee.mk (⟨#[]⟩:ByteArray) (⟨#[]⟩:ByteArray) ps r)).map fun s=>Api_Signature.mk (Api_Ref.mk nm (ps.length:Int)) s.Type_:=by
 have e:b4c (Semtypeprog_Callee.mk m nm ps r)=b4c (Semtypeprog_Callee.mk (⟨#[]⟩:ByteArray) (⟨#[]⟩:ByteArray) ps r):=rfl
 unfold b5j
 rw [e]
 simp only [Option.map_bind]
 cases Y6 (0+ps.length) 8<;>try rfl
 cases Y6 (ps.length+([r]:List Int).length) 8<;>try rfl
 simp only [Option.bind_some]
 cases y0 (b4c (Semtypeprog_Callee.mk (⟨#[]⟩:ByteArray) (⟨#[]⟩:ByteArray) ps r)) (((ps++([r]:List Int)).length:Int).toNat+1) (([Api_TypeNode.mk 0 0 0 (⟨#[]⟩:ByteArray) ([]:List Int) ([]:List Api_Field) (0,0)]:List Api_TypeNode),0,(14,0,0,(⟨#[]⟩:ByteArray),[],[],0,0)) with
 | none=>rfl
 | some b =>
   simp only [Option.bind_some,Function.comp_def]
   cases idx b.1 0 with
   | none=>rfl
   | some e =>
     simp only [Option.bind_some,Function.comp_def]
     cases b.1[(0:Int).toNat]? with
     | none=>rfl
     | some e2=>rfl
def a3E (ps:List Int)(r:Int):Bool:=match b5j (Semtypeprog_Callee.mk (⟨#[]⟩:ByteArray) (⟨#[]⟩:ByteArray) ps r) with
 | some s=>c0J s.Type_&&(match a0K 200000000 s.Type_ (ps.length:Int) with
   | some _=>true
   | none=>false)
 | none=>false
end Go.Pl
end
section
namespace Go.Pl
open Go Go.RowKit Go.Sx Go.Qx
theorem b3J {i:Nat}(h:i<=2000000):wr .i64 ((i:Int)+1)=((i+1:Nat):Int):=by
 rw [a1C,a0b (by omega) (by omega)]
 omega
theorem b55 {a b:Nat}(ha:a<=1000)(hb:b<=1000):Y6 a b=some ():=by
 unfold Y6
 have:a*b<=1000*1000:=Nat.mul_le_mul ha hb
 rw [if_pos (by omega)]
section
variable {L:List Int}
theorem c1q (hL:L.length<=4194304)(m nm:ByteArray)(r:Int):∀ (k f:Nat) (ps:List Int) (s:Semtypebase_Source),k+1<=f->OS L s->ps.length+k<=2->(∀ x∈ps,0<=x/\x<8) ->
 ∃ ps' s',y0 X9 f ((k:Int),(m,nm,ps,r),s)=some ((m,nm,ps',r),s')/\OS L s'/\ps'.length<=2/\∀ x∈ps',0<=x/\x<8
 | 0,f,ps,s,hf,hs,hl,hp=>by
   obtain ⟨f,rfl⟩:∃ k,f=k+1:=⟨f-1,by omega⟩
   refine ⟨ps,s,?_,hs,by omega,hp⟩
   rw [y0]
   rfl
 | k+1,f,ps,s,hf,hs,hl,hp=>by
   obtain ⟨f,rfl⟩:∃ k,f=k+1:=⟨f-1,by omega⟩
   obtain ⟨x,t,h1,h2,h3,h4⟩:=J9 hL hs (n:=8) (by omega) (by omega)
   have hstep:X9 (((k+1:Nat):Int),(m,nm,ps,r),s)=some (.next ((k:Int),(m,nm,ps++[x],r),t)):=by
    unfold X9
    have e1:decide ((0:Int)<((k+1:Nat):Int))=true:=decide_eq_true (by omega)
    have e2:wr .i64 (((k+1:Nat):Int)-1)=(k:Int):=by rw [a1C,a0b (by omega) (by omega)]; omega
    simp only [e1,cond_true,h1,Option.bind_some,b55 (show ps.length+([x]:List Int).length<=1000 by simp only [List.length_cons,List.length_nil]; omega) (show 8<=1000 by omega),e2]
   obtain ⟨ps',s',k1,k2,k3,k4⟩:=c1q hL m nm r k f (ps++[x]) t (by omega) h2 (by rw [List.length_append]; simp only [List.length_cons,List.length_nil]; omega) (fun y hy=>by
    rcases List.mem_append.1 hy with hy | hy
    ·exact hp y hy
    ·rw [List.mem_singleton.1 hy]; exact ⟨h3,h4⟩)
   refine ⟨ps',s',?_,k2,k3,k4⟩
   rw [y0,hstep]
   exact k1
def a3f:List ByteArray:=[⟨#[102]⟩,⟨#[103]⟩,⟨#[104]⟩]
structure Cal (c:Semtypeprog_Callee):Prop where
 name:c.Name∈a3f
 ps:c.Params.length<=2
 pr:∀ x∈c.Params,0<=x/\x<8
 res:0<=c.Result/\c.Result<8
def b6y (l:List Semtypeprog_Callee):Prop:=(∀ c∈l,Cal c)/\l.map (·.Name)=a3f.take l.length
theorem c12 (hL:L.length<=4194304)(m:ByteArray)(n:Nat)(hn:n<=3)(q:(List Semtypeprog_Callee)×Int×Bool×Int):∀ (k j:Nat) (acc:List Semtypeprog_Callee) (s:Semtypebase_Source),j+k=n->acc.length=j->b6y acc->OS L s ->
 ∃ acc' s',y0 (J4 m (n:Int)) (k+1) (acc,(j:Int),(s,q))=some (acc',(s',q))/\OS L s'/\acc'.length=n/\b6y acc'
 | 0,j,acc,s,hk,hj,ha,hs=>by
   refine ⟨acc,s,?_,hs,by omega,ha⟩
   rw [y0]
   unfold J4
   rw [show decide ((j:Int)<(n:Int))=false from decide_eq_false (by omega)]
   rfl
 | k+1,j,acc,s,hk,hj,ha,hs=>by
   obtain ⟨nm,hnm⟩:∃ nm,a3f[j]?=some nm:=⟨a3f[j]'(by show j<3; omega),List.getElem?_eq_getElem (by show j<3; omega)⟩
   obtain ⟨r,t,h1,h2,h3,h4⟩:=J9 hL hs (n:=8) (by omega) (by omega)
   obtain ⟨x,t2,g1,g2,g3,g4⟩:=J9 hL h2 (n:=3) (by omega) (by omega)
   obtain ⟨x',rfl⟩:∃ x':Nat,x=(x':Int):=⟨x.toNat,by omega⟩
   obtain ⟨ps',t3,k1,k2,k3,k4⟩:=c1q hL m nm r x' (((x':Int)).toNat+2) [] t2 (by omega) g2 (by simp only [List.length_nil]; omega) (fun y hy=>by cases hy)
   have hstep:J4 m (n:Int) (acc,(j:Int),(s,q))=some (.next (acc++[Semtypeprog_Callee.mk m nm ps' r],((j+1:Nat):Int),(t3,q))):=by
    unfold J4
    have e1:decide ((j:Int)<(n:Int))=true:=decide_eq_true (by omega)
    have e2:idx ([(⟨#[102]⟩:ByteArray),(⟨#[103]⟩:ByteArray),(⟨#[104]⟩:ByteArray)]:List ByteArray) (j:Int)=some nm:=a0c hnm
    have e3:([(⟨#[102]⟩:ByteArray),(⟨#[103]⟩:ByteArray),(⟨#[104]⟩:ByteArray)]:List ByteArray)[((j:Int)).toNat]?=some nm:=hnm
    simp only [e1,cond_true,e2,Option.bind_some,e3,h1,g1,k1,b55 (show acc.length+([Semtypeprog_Callee.mk m nm ps' r]:List Semtypeprog_Callee).length<=1000 by simp only [List.length_cons,List.length_nil]; omega) (show 64<=1000 by omega),b3J (show j<=2000000 by omega)]
   have hc:b6y (acc++[Semtypeprog_Callee.mk m nm ps' r]):=by
    refine ⟨fun c hc=>?_,?_⟩
    ·rcases List.mem_append.1 hc with hc | hc
     ·exact ha.1 c hc
     ·rw [List.mem_singleton.1 hc]; exact ⟨List.mem_of_getElem? hnm,k3,k4,h3,h4⟩
    ·rw [List.map_append,ha.2,List.length_append,hj]
     show a3f.take j++[nm]=a3f.take (j+1)
     rw [List.take_add_one,hnm]
     rfl
   obtain ⟨acc',s',q1,q2,q3,q4⟩:=c12 hL m n hn q k (j+1) (acc++[Semtypeprog_Callee.mk m nm ps' r]) t3 (by omega) (by rw [List.length_append,hj]; rfl) hc k2
   refine ⟨acc',s',?_,q2,q3,q4⟩
   rw [y0,hstep]
   exact q1
theorem c0x (hL:L.length<=4194304)(m:ByteArray)(n:Nat)(hn:n<=3)(q:(List Semtypeprog_Callee)×Int×Bool×Int){s:Semtypebase_Source}(hs:OS L s) :
 ∃ l s',a0u (s,q) m (n:Int)=some (l,(s',q))/\OS L s'/\l.length=n/\b6y l:=by
 obtain ⟨l,s',k1,k2,k3,k4⟩:=c12 hL m n hn q n 0 [] s (by omega) rfl ⟨fun c hc=>(List.not_mem_nil hc).elim,rfl⟩ hs
 refine ⟨l,s',?_,k2,k3,k4⟩
 unfold a0u a1k
 have k1':y0 (J4 m (n:Int)) (((n:Int)).toNat+1) ([],0,(s,q))=some (l,(s',q)):=k1
 simp only [k1',Option.bind_some]
end
def b1Z (c:Semtypeprog_Callee):Api_Ref:=Api_Ref.mk c.Name (c.Params.length:Int)
theorem c40 (l:List Semtypeprog_Callee)(hl:l.length<=3):y0 (V0 l) ((l.length:Int).toNat+1) ([],0)=some (l.map b1Z):=by
 have key:∀ (k j:Nat) (acc:List Api_Ref),j+k=l.length->acc.length=j->y0 (V0 l) (k+1) (acc,(j:Int))=some (acc++(l.drop j).map b1Z):=by
  intro k
  induction k with
  | zero =>
    intro j acc hj ha
    rw [y0]
    unfold V0
    rw [show decide ((j:Int)<(l.length:Int))=false from decide_eq_false (by omega),List.drop_of_length_le (by omega)]
    simp
  | succ k ih =>
    intro j acc hj ha
    have hlt:j<l.length:=by omega
    have hstep:V0 l (acc,(j:Int))=some (.next (acc++[b1Z l[j]],((j+1:Nat):Int))):=by
     unfold V0
     simp only [show decide ((j:Int)<(l.length:Int))=true from decide_eq_true (by omega),cond_true,a0c (List.getElem?_eq_getElem hlt),Option.bind_some,b55 (show acc.length+([Api_Ref.mk l[j].Name (l[j].Params.length:Int)]:List Api_Ref).length<=1000 by simp only [List.length_cons,List.length_nil]; omega) (show 24<=1000 by omega),b3J (show j<=2000000 by omega)]
     rfl
    rw [y0,hstep]
    have:=ih (j+1) (acc++[b1Z l[j]]) (by omega) (by rw [List.length_append,ha]; rfl)
    rw [List.append_assoc] at this
    rw [List.drop_eq_getElem_cons hlt]
    exact this
 have:=key l.length 0 [] (by omega) rfl
 simpa using this
def a7L (l:List Api_Ref):Bool:=match a0m l with
 | some r=>decide (r.length<=3)
 | none=>false
theorem sr1:∀ a,a<3->a7L [⟨⟨#[102]⟩,((a:Nat):Int)⟩]=true:=by decide +kernel
theorem sr2:∀ a,a<3->∀ b,b<3->a7L [⟨⟨#[102]⟩,((a:Nat):Int)⟩,⟨⟨#[103]⟩,((b:Nat):Int)⟩]=true:=by decide +kernel
theorem sr3:∀ a,a<3->∀ b,b<3->∀ c,c<3->a7L [⟨⟨#[102]⟩,((a:Nat):Int)⟩,⟨⟨#[103]⟩,((b:Nat):Int)⟩,⟨⟨#[104]⟩,((c:Nat):Int)⟩]=true:=by decide +kernel
theorem sr0:a7L []=true:=by decide +kernel
theorem c6h {l:List Semtypeprog_Callee}(h:b6y l)(hl:l.length<=3):∃ r,a0m (l.map b1Z)=some r/\r.length<=3:=by
 have hc:a7L (l.map b1Z)=true:=by
  obtain ⟨h1,h2⟩:=h
  match l,hl,h1,h2 with
  | [],_,_,_=>exact sr0
  | [x],_,h1,h2 =>
    have e:x.Name=⟨#[102]⟩:=by simpa [a3f] using h2
    show a7L [⟨x.Name,_⟩]=true
    rw [e]
    exact sr1 _ (by have:=(h1 x List.mem_cons_self).ps; omega)
  | [x,y],_,h1,h2 =>
    have e:x.Name=⟨#[102]⟩/\y.Name=⟨#[103]⟩:=by simpa [a3f] using h2
    show a7L [⟨x.Name,_⟩,⟨y.Name,_⟩]=true
    rw [e.1,e.2]
    exact sr2 _ (by have:=(h1 x (by simp)).ps; omega) _ (by have:=(h1 y (by simp)).ps; omega)
  | [x,y,z],_,h1,h2 =>
    have e:x.Name=⟨#[102]⟩/\y.Name=⟨#[103]⟩/\z.Name=⟨#[104]⟩:=by simpa [a3f] using h2
    show a7L [⟨x.Name,_⟩,⟨y.Name,_⟩,⟨z.Name,_⟩]=true
    rw [e.1,e.2.1,e.2.2]
    exact sr3 _ (by have:=(h1 x (by simp)).ps; omega) _ (by have:=(h1 y (by simp)).ps; omega) _ (by have:=(h1 z (by simp)).ps; omega)
  | x::y::z::u::l,hl,_,_=>simp only [List.length_cons] at hl; omega
 unfold a7L at hc
 cases hs:a0m (l.map b1Z) with
 | none=>rw [hs] at hc; cases hc
 | some r =>
   rw [hs] at hc
   exact ⟨r,rfl,of_decide_eq_true hc⟩
end Go.Pl
end
section
namespace Go.Pl
open Go Go.RowKit Go.Sx Go.Qx
theorem sg0:∀ r,r<8->a3E [] ((r:Nat):Int)=true:=by decide +kernel
theorem sg1:∀ a,a<8->∀ r,r<8->a3E [((a:Nat):Int)] ((r:Nat):Int)=true:=by decide +kernel
theorem c6y:∀ b,b<8->∀ r,r<8->a3E [0,((b:Nat):Int)] ((r:Nat):Int)=true:=by decide +kernel
theorem c6c:∀ b,b<8->∀ r,r<8->a3E [1,((b:Nat):Int)] ((r:Nat):Int)=true:=by decide +kernel
theorem c5Q:∀ b,b<8->∀ r,r<8->a3E [2,((b:Nat):Int)] ((r:Nat):Int)=true:=by decide +kernel
theorem c6a:∀ b,b<8->∀ r,r<8->a3E [3,((b:Nat):Int)] ((r:Nat):Int)=true:=by decide +kernel
end Go.Pl
end
section
namespace Go.Pl
open Go Go.RowKit Go.Sx Go.Qx
theorem c5P:∀ b,b<8->∀ r,r<8->a3E [4,((b:Nat):Int)] ((r:Nat):Int)=true:=by decide +kernel
theorem c54:∀ b,b<8->∀ r,r<8->a3E [5,((b:Nat):Int)] ((r:Nat):Int)=true:=by decide +kernel
theorem c5O:∀ b,b<8->∀ r,r<8->a3E [6,((b:Nat):Int)] ((r:Nat):Int)=true:=by decide +kernel
theorem c6m:∀ b,b<8->∀ r,r<8->a3E [7,((b:Nat):Int)] ((r:Nat):Int)=true:=by decide +kernel
theorem sg2 {a b r:Nat}(ha:a<8)(hb:b<8)(hr:r<8):a3E [(a:Int),(b:Int)] (r:Int)=true:=by
 have e:a=0\/a=1\/a=2\/a=3\/a=4\/a=5\/a=6\/a=7:=by omega
 rcases e with rfl | rfl | rfl | rfl | rfl | rfl | rfl | rfl
 ·exact c6y b hb r hr
 ·exact c6c b hb r hr
 ·exact c5Q b hb r hr
 ·exact c6a b hb r hr
 ·exact c5P b hb r hr
 ·exact c54 b hb r hr
 ·exact c5O b hb r hr
 ·exact c6m b hb r hr
theorem c0v {x:Int}(h:0<=x/\x<8):∃ a:Nat,a<8/\x=(a:Int):=⟨x.toNat,by omega,by omega⟩
theorem c5k {ps:List Int}{r:Int}(hl:ps.length<=2)(hp:∀ x∈ps,0<=x/\x<8)(hr:0<=r/\r<8):a3E ps r=true:=by
 obtain ⟨r',hr',rfl⟩:=c0v hr
 match ps,hl,hp with
 | [],_,_=>exact sg0 r' hr'
 | [x],_,hp =>
   obtain ⟨a,ha,rfl⟩:=c0v (hp x List.mem_cons_self)
   exact sg1 a ha r' hr'
 | [x,y],_,hp =>
   obtain ⟨a,ha,rfl⟩:=c0v (hp x List.mem_cons_self)
   obtain ⟨b,hb,rfl⟩:=c0v (hp y (List.mem_cons_of_mem _ List.mem_cons_self))
   exact sg2 ha hb hr'
 | x::y::z::l,hl,_=>simp only [List.length_cons] at hl; omega
end Go.Pl
end
section
namespace Go.Pl
open Go Go.RowKit Go.Sx Go.Qx
structure Good (s:Api_Signature):Prop where
 ok:OkS s
 named:a0z s.Ref.Name=some true
 call:∃ b,a0K 200000000 s.Type_ s.Ref.Arity=some b
theorem c1g:∀ s∈a3f,a0z s=some true/\s.size<=20:=by
 have h:(a3f.all fun s=>a0z s==some true&&decide (s.size<=20))=true:=by decide +kernel
 intro s hs
 have:=List.all_eq_true.1 h s hs
 simpa using this
theorem c2d {c:Semtypeprog_Callee}(h:Cal c):∃ s,a0p 200000000 c=some s/\Good s:=by
 obtain ⟨m,nm,ps,r⟩:=c
 obtain ⟨h1,h2,h3,h4⟩:=h
 have hg:=c5k h2 h3 h4
 rw [c4k (fun x hx=>by
  rcases List.mem_append.1 hx with hx | hx
  ·exact h3 x hx
  ·rw [List.mem_singleton.1 hx]; exact h4),c1N]
 unfold a3E at hg
 cases hs:b5j (Semtypeprog_Callee.mk (⟨#[]⟩:ByteArray) (⟨#[]⟩:ByteArray) ps r) with
 | none=>rw [hs] at hg; cases hg
 | some s =>
   rw [hs] at hg
   simp only [Bool.and_eq_true] at hg
   obtain ⟨g1,g2⟩:=hg
   refine ⟨_,rfl,⟨(c1g nm h1).2,a3p (Int.natCast_nonneg _) (by have:ps.length<=2:=h2; show (ps.length:Int)<=1000000; omega),c2O g1⟩,(c1g nm h1).1,?_⟩
   show ∃ b,a0K 200000000 s.Type_ (ps.length:Int)=some b
   cases hb:a0K 200000000 s.Type_ (ps.length:Int) with
   | none=>rw [hb] at g2; cases g2
   | some b=>exact ⟨b,rfl⟩
theorem c4Z {i:Nat}(h:1<=i)(h2:i<=2000000):wr .i64 ((i:Int)-1)=((i-1:Nat):Int):=by
 rw [a1C,a0b (by omega) (by omega)]
 omega
theorem c5h (l:List Semtypeprog_Callee)(hl:l.length<=3)(hc:∀ c∈l,Cal c)(e:Api_Ref)(d:ByteArray)(t:Bool):∀ (k j:Nat) (acc:List Api_Signature),j+k=l.length->acc.length+k<=100->(∀ s∈acc,Good s) ->
 ∃ acc',y0 (J7 l e 200000000) (k+1) ((j:Int),(d,t,acc))=some (d,t,acc')/\acc'.length<=acc.length+k/\∀ s∈acc',Good s:=by
 intro k
 induction k with
 | zero =>
   intro j acc hj hn ha
   refine ⟨acc,?_,by omega,ha⟩
   rw [y0]
   unfold J7
   rw [show decide ((j:Int)<(l.length:Int))=false from decide_eq_false (by omega)]
   rfl
 | succ k ih =>
   intro j acc hj hn ha
   have hlt:j<l.length:=by omega
   obtain ⟨s,hs,hg⟩:=c2d (hc l[j] (List.getElem_mem hlt))
   have hstep:J7 l e 200000000 ((j:Int),(d,t,acc))=some (.next (((j+1:Nat):Int),(d,t,acc++[s])))\/J7 l e 200000000 ((j:Int),(d,t,acc))=some (.next (((j+1:Nat):Int),(d,t,acc))):=by
    have hr:Y6 (acc.length+([s]:List Api_Signature).length) 56=some ():=b55 (by simp only [List.length_cons,List.length_nil]; omega) (by omega)
    unfold J7
    simp only [show decide ((j:Int)<(l.length:Int))=true from decide_eq_true (by omega),cond_true,a0c (List.getElem?_eq_getElem hlt),Option.bind_some,hs,hr,b3J (show j<=2000000 by omega)]
    cases a6t s.Ref e
    ·exact .inr rfl
    ·simp only [cond_true]
     cases hz:((acc.length:Int)==0)
     ·simp only [cond_false]
      have hpos:1<=acc.length:=by
       have:(acc.length:Int)≠0:=by simpa using hz
       omega
      rw [c4Z hpos (by omega),a0c (List.getElem?_eq_getElem (show acc.length-1<acc.length by omega))]
      simp only [Option.bind_some]
      cases !a6t (acc[acc.length-1]'(by omega)).Ref e
      ·exact .inr rfl
      ·exact .inl rfl
     ·exact .inl rfl
   rcases hstep with hstep | hstep
   ·obtain ⟨acc',k1,k2,k3⟩:=ih (j+1) (acc++[s]) (by omega) (by rw [List.length_append]; simp only [List.length_cons,List.length_nil]; omega) (fun y hy=>by
     rcases List.mem_append.1 hy with hy | hy
     ·exact ha y hy
     ·rw [List.mem_singleton.1 hy]; exact hg)
    refine ⟨acc',by rw [y0,hstep]; exact k1,?_,k3⟩
    rw [List.length_append] at k2
    simp only [List.length_cons,List.length_nil] at k2
    omega
   ·obtain ⟨acc',k1,k2,k3⟩:=ih (j+1) acc (by omega) (by omega) ha
    exact ⟨acc',by rw [y0,hstep]; exact k1,by omega,k3⟩
theorem c4t (l:List Semtypeprog_Callee)(hl:l.length<=3)(hc:∀ c∈l,Cal c)(r:List Api_Ref)(hr:r.length<=3)(d:ByteArray)(t:Bool):∀ (k j:Nat) (acc:List Api_Signature),j+k=r.length->acc.length+3*k<=9->(∀ s∈acc,Good s) ->
 ∃ acc',y0 (K7 l r 200000000) (k+1) ((j:Int),(d,t,acc))=some (d,t,acc')/\acc'.length<=acc.length+3*k/\∀ s∈acc',Good s:=by
 intro k
 induction k with
 | zero =>
   intro j acc hj hn ha
   refine ⟨acc,?_,by omega,ha⟩
   rw [y0]
   unfold K7
   rw [show decide ((j:Int)<(r.length:Int))=false from decide_eq_false (by omega)]
   rfl
 | succ k ih =>
   intro j acc hj hn ha
   have hlt:j<r.length:=by omega
   obtain ⟨acc1,k1,k2,k3⟩:=c5h l hl hc r[j] d t l.length 0 acc (by omega) (by omega) ha
   have k1':y0 (J7 l r[j] 200000000) ((l.length:Int).toNat+1) (0,(d,t,acc))=some (d,t,acc1):=k1
   have hstep:K7 l r 200000000 ((j:Int),(d,t,acc))=some (.next (((j+1:Nat):Int),(d,t,acc1))):=by
    unfold K7
    simp only [show decide ((j:Int)<(r.length:Int))=true from decide_eq_true (by omega),cond_true,a0c (List.getElem?_eq_getElem hlt),Option.bind_some,k1',b3J (show j<=2000000 by omega)]
   obtain ⟨acc',q1,q2,q3⟩:=ih (j+1) acc1 (by omega) (by omega) k3
   exact ⟨acc',by rw [y0,hstep]; exact q1,by omega,q3⟩
theorem b8M {l:List Semtypeprog_Callee}(h:b6y l)(hl:l.length<=3)(d:ByteArray)(t:Bool):∃ ss,a09 200000000 d t l=some (d,t,ss)/\ss.length<=9/\∀ s∈ss,Good s:=by
 obtain ⟨r,h1,h2⟩:=c6h h hl
 obtain ⟨ss,k1,k2,k3⟩:=c4t l hl h.1 r h2 d t r.length 0 [] (by omega) (by simp only [List.length_nil]; omega) (fun s hs=>by cases hs)
 refine ⟨ss,?_,by simp only [List.length_nil] at k2; omega,k3⟩
 have k1':y0 (K7 l r 200000000) ((r.length:Int).toNat+1) (0,(d,t,[]))=some (d,t,ss):=k1
 unfold a09
 simp only [c40 l hl,Option.bind_some,h1,k1']
structure Drw (s:Api_Signature):Prop where
 ok:OkS s
 named:a0z s.Ref.Name=some true
structure Mde (i:Api_Interface):Prop where
 mod:a0z i.Module=some true/\i.Module.size<=20
 len:i.Signatures.length<=10
 sigs:∀ s∈i.Signatures,Drw s
 call:i.Checked=false->∀ s∈i.Signatures,∃ b,a0K 200000000 s.Type_ s.Ref.Arity=some b
def b7Q:List ByteArray:=[⟨#[109]⟩,⟨#[97]⟩,⟨#[120,49]⟩]
theorem c6G:∀ s∈b7Q,a0z s=some true/\s.size<=20:=by
 have h:(b7Q.all fun s=>a0z s==some true&&decide (s.size<=20))=true:=by decide +kernel
 intro s hs
 have:=List.all_eq_true.1 h s hs
 simpa using this
theorem c4C:a0z ⟨#[122]⟩=some true:=by decide +kernel
theorem b3O {N:Nat}(hN:N<=1000){k:Int}(h:inR N k=true):isI k:=by
 unfold inR at h
 simp only [Bool.and_eq_true,decide_eq_true_eq] at h
 exact a3p (by omega) (by omega)
theorem c2T {N:Nat}{x:Api_TypeNode}(h:a34 N x=true):1<=x.Kind/\x.Kind<=19:=by
 rcases a7S x.Kind with hk | hk
 ·omega
 ·have hne:∀ n:Int,1<=n->n<=19->¬ x.Kind=n:=fun n h1 h2 e=>by
   have:=hk n h1 h2
   rw [e] at this
   simp at this
  unfold a34 at h
  rw [if_neg (hne 3 (by omega) (by omega)),if_neg (hne 4 (by omega) (by omega)),if_neg (hne 6 (by omega) (by omega)),if_neg (hne 19 (by omega) (by omega)),if_neg,if_neg (hne 10 (by omega) (by omega)),if_neg (hne 12 (by omega) (by omega)),
   if_neg (hne 14 (by omega) (by omega)),if_neg,if_neg (hne 18 (by omega) (by omega)),if_neg (hne 13 (by omega) (by omega))] at h
  ·cases h
  ·rintro (e | e)
   ·exact hne 16 (by omega) (by omega) e
   ·exact hne 17 (by omega) (by omega) e
  ·rintro (e | e | e | e | e | e | e | e)
   ·exact hne 1 (by omega) (by omega) e
   ·exact hne 2 (by omega) (by omega) e
   ·exact hne 5 (by omega) (by omega) e
   ·exact hne 7 (by omega) (by omega) e
   ·exact hne 8 (by omega) (by omega) e
   ·exact hne 9 (by omega) (by omega) e
   ·exact hne 11 (by omega) (by omega) e
   ·exact hne 15 (by omega) (by omega) e
theorem c2S:isI 0:=⟨by omega,by omega⟩
theorem c5n {N i:Nat}{x:Api_TypeNode}(hN:N<=1000)(h:GN N i x):OkN x:=by
 have h1:=h.ok
 unfold a1a at h1
 simp only [Bool.and_eq_true] at h1
 obtain ⟨k1,_,_,k4,k5⟩:=h1
 have hk:=c2T k5
 have hr:=h.rng
 have hrest:(∀ f∈x.Fields,OkF f)/\isI x.Rest.1/\isI x.Rest.2:=by
  by_cases h13:x.Kind=13
  ·unfold a34 at k5
   rw [if_neg (by omega),if_neg (by omega),if_neg (by omega),if_neg (by omega),if_neg (by omega),if_neg (by omega),if_neg (by omega),if_neg (by omega),if_neg (by omega),if_neg (by omega),if_pos h13] at k5
   simp only [Bool.and_eq_true] at k5
   obtain ⟨f1,_,f2,f3⟩:=k5
   refine ⟨fun f hf=>?_,b3O hN f2,b3O hN f3⟩
   unfold a8c at f1
   simp only [Bool.and_eq_true] at f1
   have hb:=h.keys f hf
   have g1:=List.all_eq_true.1 f1.2.1 f hf
   have g2:=List.all_eq_true.1 f1.2.2 f hf
   refine ⟨?_,?_,b3O hN g2⟩
   ·have:f.Key_.Kind=0\/f.Key_.Kind=1:=by
     unfold a7F at g1
     by_cases e0:f.Key_.Kind=0
     ·exact .inl e0
     ·by_cases e1:f.Key_.Kind=1
      ·exact .inr e1
      ·rw [if_neg e0,if_neg e1] at g1
       cases g1
    rcases this with e | e<;>rw [e]<;>exact a3p (by omega) (by omega)
   ·show f.Key_.Text.size<=20
    unfold b9N b6v at hb
    omega
  ·simp only [Bool.or_eq_true,beq_iff_eq,h13,false_or,Bool.and_eq_true] at k4
   obtain ⟨e1,e2⟩:=k4
   have e1:x.Fields=[]:=by simpa using e1
   unfold a2X at e2
   simp only [Bool.and_eq_true,beq_iff_eq] at e2
   refine ⟨fun f hf=>?_,by rw [e2.1]; exact c2S,by rw [e2.2]; exact c2S⟩
   rw [e1] at hf
   cases hf
 exact ⟨a3p (by omega) (by omega),⟨hr.1,hr.2.1⟩,⟨hr.2.2.1,hr.2.2.2⟩,by have:=h.text; show x.Text.size<=20; omega,fun k hk=>b3O hN (List.all_eq_true.1 k1 k hk),by have:=h.kids; omega,hrest.1,by have:=h.flds; omega,hrest.2.1,hrest.2.2⟩
theorem c0F {N:Nat}{ns:List Api_TypeNode}(hN:N<=60)(hl:ns.length=N)(h:GNs N ns):OkTy (Api_Type.mk ns 0) :=
 ⟨fun x hx=>by
  obtain ⟨i,hi⟩:=List.getElem?_of_mem hx
  exact c5n (by omega) (h i x hi),by show ns.length<=64; omega,c2S⟩
theorem b9g {s:Api_Signature}(h:Good s):Drw s:=⟨h.ok,h.named⟩
theorem c3M (l:List Int)(hl:l.length<=4194304):∃ i,a2b 200000000 l=some i/\Mde i:=by
 have hL:(l.take 50).length<=4194304:=by rw [List.length_take]; omega
 obtain ⟨x1,s1,a1,a2,a3,a4⟩:=J9 hL (s:=Semtypebase_Source.mk (l.take 50) 0) ⟨rfl,Int.le_refl _,Int.natCast_nonneg _⟩ (n:=3) (by omega) (by omega)
 obtain ⟨x2,s2,b1,b2,b3,b4⟩:=J9 hL a2 (n:=2) (by omega) (by omega)
 obtain ⟨x3,s3,c1,c2,c3,c4⟩:=J9 hL b2 (n:=3) (by omega) (by omega)
 obtain ⟨m1,rfl⟩:∃ m:Nat,x1=(m:Int):=⟨x1.toNat,by omega⟩
 obtain ⟨m3,rfl⟩:∃ m:Nat,x3=(m:Int):=⟨x3.toNat,by omega⟩
 obtain ⟨nm,hnm⟩:∃ nm,b7Q[m1]?=some nm:=⟨b7Q[m1]'(by show m1<3; omega),List.getElem?_eq_getElem (by show m1<3; omega)⟩
 have e3:wr .i64 (1+(m3:Int))=((m3+1:Nat):Int):=by rw [Int.add_comm]; exact b3J (by omega)
 obtain ⟨cs,s4,d1,d2,d3,d4⟩:=c0x hL (⟨#[]⟩:ByteArray) (m3+1) (by omega) (([]:List Semtypeprog_Callee),0,false,0) c2
 obtain ⟨ss,f1,f2,f3⟩:=b8M d4 (by omega) nm (x2==0)
 obtain ⟨x8,s8,g1,g2,g3,g4⟩:=J9 hL d2 (n:=3) (by omega) (by omega)
 have hi1:idx ([(⟨#[109]⟩:ByteArray),(⟨#[97]⟩:ByteArray),(⟨#[120,49]⟩:ByteArray)]:List ByteArray) (m1:Int)=some nm:=a0c hnm
 have hi2:([(⟨#[109]⟩:ByteArray),(⟨#[97]⟩:ByteArray),(⟨#[120,49]⟩:ByteArray)]:List ByteArray)[((m1:Int)).toNat]?=some nm:=hnm
 have hmod:=c6G nm (List.mem_of_getElem? hnm)
 unfold a2b
 simp only [a1,Option.bind_some,hi1,hi2,b1,c1,e3,d1,f1,g1]
 cases hz:(x8==1)
 ·refine ⟨_,rfl,hmod,by show ss.length<=10; omega,fun s hs=>b9g (f3 s hs),fun _ s hs=>(f3 s hs).call⟩
 ·simp only [cond_true]
  obtain ⟨x9,s9,p1,p2,p3,p4⟩:=J9 hL g2 (n:=4) (by omega) (by omega)
  obtain ⟨x10,s10,q1,q2,q3,q4⟩:=J9 hl (s:=Semtypebase_Source.mk l 0) ⟨rfl,Int.le_refl _,Int.natCast_nonneg _⟩ (n:=6) (by omega) (by omega)
  obtain ⟨m10,rfl⟩:∃ m:Nat,x10=(m:Int):=⟨x10.toNat,by omega⟩
  have e10:wr .i64 (1+(m10:Int))=((m10+1:Nat):Int):=by rw [Int.add_comm]; exact b3J (by omega)
  obtain ⟨ns,t,r1,r2,r3,r4⟩:=c2r hl q2 (m10+1) (by omega) (by omega)
  have hr:=b55 (a:=ss.length+([Api_Signature.mk (Api_Ref.mk (⟨#[122]⟩:ByteArray) x9) (Api_Type.mk ns 0)]:List Api_Signature).length) (b:=56) (by simp only [List.length_cons,List.length_nil]; omega) (by omega)
  simp only [p1,Option.bind_some,q1,e10,r1,hr]
  refine ⟨_,rfl,hmod,?_,fun s hs=>?_,fun h=>by cases h⟩
  ·show (ss++[_]).length<=10
   rw [List.length_append]
   simp only [List.length_cons,List.length_nil]
   omega
  ·rcases List.mem_append.1 hs with hs | hs
   ·exact b9g (f3 s hs)
   ·rw [List.mem_singleton.1 hs]
    exact ⟨⟨show (⟨#[122]⟩:ByteArray).size<=20 from by decide,show isI x9 from a3p p3 (by omega),c0F (by omega) r3 r4⟩,c4C⟩
end Go.Pl
end
section
namespace Go.Pl
open Go Go.RowKit Go.Sx Go.Qx
structure OkJ (i:Api_Interface):Prop where
 mod:OkT i.Module
 sigs:∀ s∈i.Signatures,OkS s
 len:i.Signatures.length<=10
theorem b87 {i:Api_Interface}(h:OkJ i):(a75 i).length<=400000:=by
 have h1:=a3h h.mod
 have h2:(a3a b2E i.Signatures).length<=10+10*37692:=a8P 37692 10 (fun x hx=>b8m (h.sigs x hx)) h.len
 unfold a75
 simp only [List.length_append,b4Z]
 omega
theorem c15 {i:Api_Interface}(h:OkJ i):a1F [] i=some (a75 i):=by
 have h1:=a3h h.mod
 have hl:=h.len
 have e1:=b3W h.mod (w:=[]) (by simp)
 rw [List.nil_append] at e1
 have hn:∀ w:List Int,w.length<=1000->a1e w i.Signatures ()=some (w++a3a b2E i.Signatures):=fun w hw =>
  b4k W8 b2E i.Signatures 37692 10000000 (fun i w=>rfl) (fun x hx w hw=>b7X (h.sigs x hx) hw) (fun x hx=>b8m (h.sigs x hx)) (by omega) (by omega) (by omega)
 unfold a1F
 rw [e1,Option.bind_some,b74 _ (by omega),Option.bind_some,hn _ (by simp only [List.length_append,b4Z]; omega),Option.bind_some]
 unfold a75
 simp only [List.append_assoc]
end Go.Pl
end
section
namespace Go.Pl
open Go Go.RowKit Go.Sx Go.Qx
theorem c1M (x y:ByteArray):∃ r,a1X x y=some r:=by
 unfold a1X a2v
 simp only [Option.bind_some]
 generalize k7 x x=a
 generalize k7 y y=b
 generalize a1W x y=c
 generalize k7 x y=d
 cases a<;>cases b<;>cases c<;>cases d<;>exact ⟨_,rfl⟩
theorem c1e (x y:Int):∃ r,a0A x y=some r:=by
 unfold a0A a2Q
 simp only [Option.bind_some]
 cases (x != x)<;>cases (y != y)<;>cases decide (x<y)<;>cases decide (y<x)<;>exact ⟨_,rfl⟩
theorem c2D (a b:Int):∃ r,a7X [a,b]=some r:=by
 have h0:a1O [a,b] 0=(bif a != 0 then some (.done (.inr a)) else some (.next 1)):=by
  cases h:(a != 0)<;>simp [a1O,idx,h]<;>rfl
 have h1:a1O [a,b] 1=(bif b != 0 then some (.done (.inr b)) else some (.next 2)):=by
  cases h:(b != 0)<;>simp [a1O,idx,h]<;>rfl
 have h2:a1O [a,b] 2=some (.done (.inl ())):=rfl
 unfold a7X
 rw [show ((([a,b]:List Int).length:Int)).toNat+1=3 from rfl]
 simp only [y0,h0]
 cases (a != 0)
 ·simp only [cond_false,Option.bind_some,h1]
  cases (b != 0)
  ·simp only [cond_false,Option.bind_some,h2]
   exact ⟨_,rfl⟩
  ·exact ⟨_,rfl⟩
 ·exact ⟨_,rfl⟩
theorem b82 (a b:Api_Signature):∃ r,a29 a b=some r:=by
 obtain ⟨r1,h1⟩:=c1M a.Ref.Name b.Ref.Name
 obtain ⟨r2,h2⟩:=c1e a.Ref.Arity b.Ref.Arity
 obtain ⟨r3,h3⟩:=c2D r1 r2
 unfold a29
 simp only [h1,h2,Option.bind_some]
 rw [h3]
 exact ⟨_,rfl⟩
theorem c38 {t:Api_Type}(h:OkTy t):∃ r,J8 200000000 t=some r :=
 ⟨_,c4N t (fun x hx=>⟨by have:=(h.nodes x hx).kidl; omega,by have:=(h.nodes x hx).fldl; omega⟩) (by have:=h.len; omega) 200000000 (by have:=h.len; omega)⟩
theorem c0N {i:Api_Interface}(h:Mde i){j:Nat}(hj:j<i.Signatures.length):(∃ b,a1b i 200000000 (j:Int)=some (.done (.inr b)))\/a1b i 200000000 (j:Int)=some (.next ((j+1:Nat):Int)):=by
 have hs:=List.getElem_mem hj
 have hd:=h.sigs _ hs
 have hlen:=h.len
 obtain ⟨w,hw⟩:=c38 hd.ok.ty
 unfold a1b
 simp only [show decide ((j:Int)<(i.Signatures.length:Int))=true from decide_eq_true (by omega),cond_true,a0c (List.getElem?_eq_getElem hj),Option.bind_some,hd.named,Bool.not_true,cond_false,hw,b3J (show j<=2000000 by omega)]
 generalize hq:(bif decide (i.Signatures[j].Ref.Arity<0) then some true else some (decide (4<i.Signatures[j].Ref.Arity)))=q
 obtain ⟨b1,rfl⟩:∃ b1,q=some b1:=by
  rw [<- hq]
  cases decide (i.Signatures[j].Ref.Arity<0)
  ·exact ⟨_,rfl⟩
  ·exact ⟨_,rfl⟩
 simp only [Option.bind_some]
 generalize hq2:(bif b1 then some true else some (w != 0))=q2
 obtain ⟨b2,rfl⟩:∃ b2,q2=some b2:=by
  rw [<- hq2]
  cases b1
  ·exact ⟨_,rfl⟩
  ·exact ⟨_,rfl⟩
 simp only [Option.bind_some]
 cases b2
 ·simp only [cond_false]
  have hcall:∃ b,(bif !i.Checked then (Option.bind (a0K 200000000 i.Signatures[j].Type_ i.Signatures[j].Ref.Arity) fun r13=>some (!r13)) else some false)=some b:=by
   cases hc:i.Checked
   ·obtain ⟨b,hb⟩:=h.call hc _ hs
    rw [hb]
    exact ⟨_,rfl⟩
   ·exact ⟨_,rfl⟩
  obtain ⟨b3,hb3⟩:=hcall
  rw [hb3]
  have hcmp:∃ b,(bif decide ((0:Int)<(j:Int)) then (Option.bind (idx i.Signatures (wr .i64 ((j:Int)-1))) fun e10=>Option.bind (a29 e10 i.Signatures[j]) fun r11=>some (decide (0<=r11))) else some false)=some b:=by
   by_cases h0:0<j
   ·rw [show decide ((0:Int)<(j:Int))=true from decide_eq_true (by omega),c4Z h0 (by omega),a0c (List.getElem?_eq_getElem (show j-1<i.Signatures.length by omega))]
    obtain ⟨r,hr⟩:=b82 (i.Signatures[j-1]'(by omega)) i.Signatures[j]
    simp only [cond_true,Option.bind_some,hr]
    exact ⟨_,rfl⟩
   ·rw [show decide ((0:Int)<(j:Int))=false from decide_eq_false (by omega)]
    exact ⟨_,rfl⟩
  obtain ⟨b4,hb4⟩:=hcmp
  rw [hb4]
  cases b4
  ·cases b3
   ·exact .inr rfl
   ·exact .inl ⟨_,rfl⟩
  ·exact .inl ⟨_,rfl⟩
 ·exact .inl ⟨_,rfl⟩
theorem c0u {i:Api_Interface}(h:Mde i):∃ b,a3w 200000000 i=some b:=by
 have key:∀ (k j:Nat),j+k=i.Signatures.length->∃ r,y0 (a1b i 200000000) (k+1) (j:Int)=some r:=by
  intro k
  induction k with
  | zero =>
    intro j hj
    refine ⟨.inl (),?_⟩
    rw [y0]
    unfold a1b
    rw [show decide ((j:Int)<(i.Signatures.length:Int))=false from decide_eq_false (by omega)]
    rfl
  | succ k ih =>
    intro j hj
    rcases c0N h (show j<i.Signatures.length by omega) with ⟨b,hb⟩ | hb
    ·exact ⟨_,by rw [y0,hb]; rfl⟩
    ·obtain ⟨r,hr⟩:=ih (j+1) (by omega)
     exact ⟨r,by rw [y0,hb]; exact hr⟩
 obtain ⟨r,hr⟩:=key i.Signatures.length 0 (by omega)
 have hr':y0 (a1b i 200000000) ((i.Signatures.length:Int).toNat+1) 0=some r:=hr
 unfold a3w
 have hlen:=h.len
 simp only [h.mod.1,Option.bind_some,Bool.not_true,cond_false,show decide ((10:Int)<(i.Signatures.length:Int))=false from decide_eq_false (by omega),hr']
 cases r<;>exact ⟨_,rfl⟩
theorem b9S {i:Api_Interface}(h:Mde i):OkJ i:=⟨h.mod.2,fun s hs=>(h.sigs s hs).ok,h.len⟩
theorem b7s (l:List Int):(a15 l).size=l.length:=by
 show (List.map _ l).toArray.size=_
 simp
theorem c1x {i:Api_Interface}(h:Mde i):a1s 200000000 i=some ((⟨#[]⟩:ByteArray),1)\/(a1s 200000000 i=some (Q1 (a15 (a75 i)),0)/\a3w 200000000 i=some true):=by
 obtain ⟨b,hb⟩:=c0u h
 have hJ:=b9S h
 have hl:=b87 hJ
 unfold a1s
 rw [hb]
 cases b
 ·exact .inl rfl
 ·refine .inr ⟨?_,rfl⟩
  simp only [Option.bind_some,Bool.not_true,cond_false,c15 hJ,b92 (s:=a15 (a75 i)) (by rw [b7s]; omega)]
end Go.Pl
end
section
namespace Go.Pl
open Go Go.RowKit Go.Sx Go.Qx
def b2D (_:Int):Nat:=1
def a82 (l:List Int):Nat:=(l.map b2D).sum+1
theorem b9G {α:Type}(b:α->Nat)(h:∀ x,1<=b x):∀ l:List α,l.length<=(l.map b).sum
 | []=>Nat.zero_le _
 | y::l=>by
   have h1:=h y
   have h2:=b9G b h l
   rw [List.map_cons,List.sum_cons,List.length_cons]
   omega
end Go.Pl
end
section
namespace Go.Pl
open Go Go.RowKit Go.Sx Go.Qx
theorem c3X:a1Y 200000000=some true:=by decide +kernel
theorem c56 {b:UInt8}{v:Int}(h0:0<=v)(h1:v<256)(hne:(b.toNat:Int)≠v):UInt8.ofNat v.toNat≠b:=by
 intro e
 apply hne
 rw [<- e]
 exact b94 h0 h1
theorem c1Q {s t:ByteArray}(h:s.size+t.size<=2000000):a2P s t=some (s++t):=by
 unfold a2P
 rw [if_pos (by omega)]
theorem c0L {n:Nat}{s x:ByteArray}{e:Int}(h:a3r s=some (x,e))(he:(e==0)=false):∃ i,a2p n s=some (i,e):=by
 unfold a2p
 rw [h]
 have h1:(e != 0)=true:=by simp [bne,he]
 simp only [Option.bind_some,h1,cond_true]
 exact ⟨_,rfl⟩
theorem c42 (a:Int){s:Nat}(h0:0<s)(h1:s<=1000000):∃ k:Nat,a9N (wr .u64 a) (wr .u64 (s:Int))=some (k:Int)/\k<s:=by
 have e:wr .u64 (s:Int)=(s:Int):=by rw [wrU]; omega
 have ha:0<=wr .u64 a:=by rw [wrU]; omega
 obtain ⟨b,hb⟩:∃ b:Nat,wr .u64 a=(b:Int):=⟨(wr .u64 a).toNat,by omega⟩
 refine ⟨b%s,?_,Nat.mod_lt _ h0⟩
 unfold a9N
 rw [e,hb,if_neg (by omega)]
 congr 1
theorem c5a:∀ l:List Int,l.length<=a82 l:=fun l=>by
 unfold a82
 have:=b9G b2D (fun _=>Nat.le_refl _) l
 omega
theorem b3y (l:List Int)(a c:Int)(hb:a82 l<=1048576)(hc:0<=c/\c<256):∃ n,a0g n l a c=some true:=by
 refine ⟨200000000,?_⟩
 obtain ⟨i,h1,h2⟩:=c3M l (by have:=c5a l; omega)
 unfold a0g
 rw [h1,c3X]
 simp only [Option.bind_some]
 rcases c1x h2 with he | ⟨he,_⟩
 ·rw [he]
  rfl
 ·rw [he]
  have hJ:=b9S h2
  have hs:(a15 (a75 i)).size<=400000:=by rw [b7s]; exact b87 hJ
  have hz:=b4N (a15 (a75 i))
  generalize a15 (a75 i)=s at *
  obtain ⟨k,hk,hkl⟩:=c42 a (s:=(Q1 s).size) (by omega) (by omega)
  have hlen:(Q1 s).data.toList.length=(Q1 s).size:=Array.length_toList
  obtain ⟨b,hbk⟩:∃ b,(Q1 s).data.toList[k]?=some b:=⟨_,List.getElem?_eq_getElem (by omega)⟩
  have w1:wr .i64 (k:Int)=(k:Int):=by rw [a1C,a0b (by omega) (by omega)]
  have hsx:a0M (Q1 s) (k:Int)=some b:=by
   unfold a0M
   rw [if_pos (Int.natCast_nonneg k),Int.toNat_natCast,<- hbk,Array.getElem?_toList]
   rfl
  have hz0:((((Q1 s).size:Int))==0)=false:=by
   have:((Q1 s).size:Int)≠0:=by omega
   simpa using this
  simp only [Option.bind_some,bne_self_eq_false,cond_false,hz0,hk,w1,hsx]
  obtain ⟨v,hv,hv0,hv1,hvn⟩:∃ v:Int,(bif ((b.toNat:Int)==c) then some (wr .u8 (c+1)) else some c)=some v/\0<=v/\v<256/\(b.toNat:Int)≠v:=by
   cases hbc:((b.toNat:Int)==c)
   ·exact ⟨c,rfl,hc.1,hc.2,by simpa using hbc⟩
   ·have e:(b.toNat:Int)=c:=by simpa using hbc
    refine ⟨wr .u8 (c+1),rfl,by rw [b8A]; omega,by rw [b8A]; omega,by rw [e,b8A]; omega⟩
  rw [hv]
  have hx1:((Q1 s).extract 0 k).size=k:=b8O (by omega)
  have hx2:(a15 ([v]:List Int)).size=1:=rfl
  have hx3:((Q1 s).extract (k+1) (Q1 s).size).size=(Q1 s).size-(k+1):=by rw [ByteArray.size_extract]; omega
  have w2:wr .i64 ((k:Int)+1)=((k+1:Nat):Int):=b3J (by omega)
  simp only [Option.bind_some,c1c (s:=Q1 s) (k:=k) (by omega),c1Q (s:=(Q1 s).extract 0 k) (t:=a15 ([v]:List Int)) (by omega),w2,c5g (s:=Q1 s) (k:=k+1) (by omega),
   c1Q (s:=(Q1 s).extract 0 k++a15 ([v]:List Int)) (t:=(Q1 s).extract (k+1) (Q1 s).size) (by rw [ByteArray.size_append]; omega)]
  obtain ⟨x,e,ho,he0⟩:=b86 (s:=s) (by omega) hbk (c56 hv0 hv1 hvn) (b9t (s:=Q1 s) (by omega) v)
  obtain ⟨j,hj⟩:=c0L (n:=200000000) ho he0
  have h1:(e != 0)=true:=by simp [bne,he0]
  rw [hj]
  simp only [Option.bind_some,h1,cond_true]
end Go.Pl
end
section
namespace Go.Proofs
open Go.Shelf
set_option maxRecDepth 100000
def Tryz.lay110_ren:Go.Shelf.Ren:=⟨fun | 190=>110 | 125=>141 | 258=>140 | 128=>163 | 129=>164 | 302=>154 | 303=>155 | 304=>156 | 305=>157 | 306=>158 | 307=>159 | 308=>160 | 309=>161 | 310=>162 | 333=>173 | 329=>174 | 330=>175 | 334=>176 | 335=>177 | 336=>82 | 344=>185 | n=>n,fun | 31=>41 | 9=>9 | 3=>3 | 46=>35 | 0=>0 | 51=>71 | 53=>143 | 4=>4 | 183=>197 | 182=>196 | 131=>181 | 5=>5 | 218=>206 | 222=>210 | 228=>219 | 229=>220 | n=>n,fun | n=>n⟩
theorem Tryz.lay110:Go.Proofs.Lays.n190 Tryz.prog Tryz.lay110_ren:={
 mixed:=by kernel_rfl
 f125:=Tryz.func141.trans (congrArg some (by kernel_rfl))
 f128:=Tryz.func163.trans (congrArg some (by kernel_rfl))
 f129:=Tryz.func164.trans (congrArg some (by kernel_rfl))
 f190:=Tryz.func110.trans (congrArg some (by kernel_rfl))
 f258:=Tryz.func140.trans (congrArg some (by kernel_rfl))
 f302:=Tryz.func154.trans (congrArg some (by kernel_rfl))
 f303:=Tryz.func155.trans (congrArg some (by kernel_rfl))
 f304:=Tryz.func156.trans (congrArg some (by kernel_rfl))
 f305:=Tryz.func157.trans (congrArg some (by kernel_rfl))
 f306:=Tryz.func158.trans (congrArg some (by kernel_rfl))
 f307:=Tryz.func159.trans (congrArg some (by kernel_rfl))
 f308:=Tryz.func160.trans (congrArg some (by kernel_rfl))
 f309:=Tryz.func161.trans (congrArg some (by kernel_rfl))
 f310:=Tryz.func162.trans (congrArg some (by kernel_rfl))
 f329:=Tryz.func174.trans (congrArg some (by kernel_rfl))
 f330:=Tryz.func175.trans (congrArg some (by kernel_rfl))
 f333:=Tryz.func173.trans (congrArg some (by kernel_rfl))
 f334:=Tryz.func176.trans (congrArg some (by kernel_rfl))
 f335:=Tryz.func177.trans (congrArg some (by kernel_rfl))
 f336:=Tryz.func82.trans (congrArg some (by kernel_rfl))
 f344:=Tryz.func185.trans (congrArg some (by kernel_rfl))
 t0:=Tryz.underlying0
 a0:=Tryz.isAgg0
 z0:=Tryz.sizeOf0
 v0:=Tryz.zeroValue0
 t3:=Tryz.underlying3
 a3:=Tryz.isAgg3
 z3:=Tryz.sizeOf3
 v3:=Tryz.zeroValue3
 t4:=Tryz.underlying4
 a4:=Tryz.isAgg4
 z4:=Tryz.sizeOf4
 v4:=Tryz.zeroValue4
 t5:=Tryz.underlying5
 a5:=Tryz.isAgg5
 z5:=Tryz.sizeOf5
 v5:=Tryz.zeroValue5
 t9:=Tryz.underlying9
 a9:=Tryz.isAgg9
 z9:=Tryz.sizeOf9
 v9:=Tryz.zeroValue9
 t31:=Tryz.underlying41
 a31:=Tryz.isAgg41
 z31:=Tryz.sizeOf41
 v31:=Tryz.zeroValue41
 t46:=Tryz.underlying35
 a46:=Tryz.isAgg35
 z46:=Tryz.sizeOf35
 v46:=Tryz.zeroValue35
 t51:=Tryz.underlying71
 a51:=Tryz.isAgg71
 z51:=Tryz.sizeOf71
 v51:=Tryz.zeroValue71
 t53:=Tryz.underlying143
 a53:=Tryz.isAgg143
 z53:=Tryz.sizeOf143
 v53:=Tryz.zeroValue143
 t131:=Tryz.underlying181
 a131:=Tryz.isAgg181
 z131:=Tryz.sizeOf181
 v131:=Tryz.zeroValue181
 t182:=Tryz.underlying196
 a182:=Tryz.isAgg196
 z182:=Tryz.sizeOf196
 v182:=Tryz.zeroValue196
 t183:=Tryz.underlying197
 a183:=Tryz.isAgg197
 z183:=Tryz.sizeOf197
 v183:=Tryz.zeroValue197
 t218:=Tryz.underlying206
 a218:=Tryz.isAgg206
 z218:=Tryz.sizeOf206
 v218:=Tryz.zeroValue206
 t222:=Tryz.underlying210
 a222:=Tryz.isAgg210
 z222:=Tryz.sizeOf210
 v222:=Tryz.zeroValue210
 t228:=Tryz.underlying219
 a228:=Tryz.isAgg219
 z228:=Tryz.sizeOf219
 v228:=Tryz.zeroValue219
 t229:=Tryz.underlying220
 a229:=Tryz.isAgg220
 z229:=Tryz.sizeOf220
 v229:=Tryz.zeroValue220 }
end Go.Proofs
end
section
namespace Go.Qx
open Go Go.RowKit Go.Sx
set_option maxRecDepth 100000
abbrev b58 (v:Api_Ref):ByteArray×Int:=(v.Name,v.Arity)
abbrev c0G (x:ByteArray×Int):Api_Ref:=⟨x.1,x.2⟩
@[reducible] def a4P:Rp Api_Ref:=a33 b58 (Q5 (rpStr) (rpK .i64))
abbrev b2O (v:Api_Field):Key×Int×Bool:=(v.Key_,v.Node,v.Optional)
abbrev b8s (x:Key×Int×Bool):Api_Field:=⟨x.1,x.2.1,x.2.2⟩
@[reducible] def a2k:Rp Api_Field:=a33 b2O (Q5 (rpKey) (Q5 (rpK .i64) (rpBool)))
abbrev a9F (v:Api_TypeNode):Int×Int×Int×ByteArray×(List Int)×(List Api_Field)×(Int×Int):=(v.Kind,v.Lo,v.Hi,v.Text,v.Kids,v.Fields,v.Rest)
abbrev b6a (x:Int×Int×Int×ByteArray×(List Int)×(List Api_Field)×(Int×Int)):Api_TypeNode:=⟨x.1,x.2.1,x.2.2.1,x.2.2.2.1,x.2.2.2.2.1,x.2.2.2.2.2.1,x.2.2.2.2.2.2⟩
@[reducible] def a07:Rp Api_TypeNode:=a33 a9F (Q5 (rpK .i64) (Q5 (rpK .i64) (Q5 (rpK .i64) (Q5 (rpStr) (Q5 (@rpList _ (rpK .i64)) (Q5 (@rpList _ (a2k)) (Q5 (rpK .i64) (rpK .i64))))))))
abbrev b4J (v:Api_Type):(List Api_TypeNode)×Int:=(v.Nodes,v.Root)
abbrev b9v (x:(List Api_TypeNode)×Int):Api_Type:=⟨x.1,x.2⟩
@[reducible] def a0w:Rp Api_Type:=a33 b4J (Q5 (@rpList _ (a07)) (rpK .i64))
abbrev a8V (v:Api_Signature):Api_Ref×Api_Type:=(v.Ref,v.Type_)
abbrev b5y (x:Api_Ref×Api_Type):Api_Signature:=⟨x.1,x.2⟩
@[reducible] def a0Y:Rp Api_Signature:=a33 a8V (Q5 (a4P) (a0w))
abbrev a8q (v:Api_Interface):ByteArray×Bool×(List Api_Signature):=(v.Module,v.Checked,v.Signatures)
abbrev b47 (x:ByteArray×Bool×(List Api_Signature)):Api_Interface:=⟨x.1,x.2.1,x.2.2⟩
@[reducible] def a37:Rp Api_Interface:=a33 a8q (Q5 (rpStr) (Q5 (rpBool) (@rpList _ (a0Y))))
abbrev a4u (v:Semtypebase_Source):(List Int)×Int:=(v.L,v.At)
abbrev b0N (x:(List Int)×Int):Semtypebase_Source:=⟨x.1,x.2⟩
@[reducible] def a2r:Rp Semtypebase_Source:=a33 a4u (Q5 (@rpList _ (rpK .i64)) (rpK .i64))
abbrev a7u (v:Summary_writer):(List Int):=v.b
abbrev b4y (x:(List Int)):Summary_writer:=⟨x⟩
@[reducible] def a3P:Rp Summary_writer:=a33 a7u (@rpList _ (rpK .u8))
abbrev a7t (v:Summary_reader):ByteArray×Int×Int:=(v.s,v.at_,v.code)
abbrev b4C (x:ByteArray×Int×Int):Summary_reader:=⟨x.1,x.2.1,x.2.2⟩
@[reducible] def a3O:Rp Summary_reader:=a33 a7t (Q5 (rpStr) (Q5 (rpK .i64) (rpK .i64)))
abbrev a4t (v:Semtypeprog_Callee):ByteArray×ByteArray×(List Int)×Int:=(v.Module,v.Name,v.Params,v.Result)
abbrev b00 (x:ByteArray×ByteArray×(List Int)×Int):Semtypeprog_Callee:=⟨x.1,x.2.1,x.2.2.1,x.2.2.2⟩
@[reducible] def a2i:Rp Semtypeprog_Callee:=a33 a4t (Q5 (rpStr) (Q5 (rpStr) (Q5 (@rpList _ (rpK .i64)) (rpK .i64))))
abbrev b3v (v:Api_Arrow):(List Api_Type)×Api_Type:=(v.Params,v.Result)
abbrev b9k (x:(List Api_Type)×Api_Type):Api_Arrow:=⟨x.1,x.2⟩
@[reducible] def a8O:Rp Api_Arrow:=a33 b3v (Q5 (@rpList _ (a0w)) (a0w))
abbrev a4o (v:Semtyperef18_token):Int×ByteArray:=(v.Kind,v.Text)
abbrev b0C (x:Int×ByteArray):Semtyperef18_token:=⟨x.1,x.2⟩
@[reducible] def a2l:Rp Semtyperef18_token:=a33 a4o (Q5 (rpK .i64) (rpStr))
def tyL:List TE:=[⟨2,Int,rpK .i64⟩,
 ⟨3,Int,rpK .i64⟩,
 ⟨4,Bool,rpBool⟩,
 ⟨5,Int,rpK .u8⟩,
 ⟨9,ByteArray,rpStr⟩,
 ⟨22,List Int,@rpList _ (rpK .i64)⟩,
 ⟨23,List Api_Signature,@rpList _ (a0Y)⟩,
 ⟨25,Api_Interface,a37⟩,
 ⟨27,Int,rpK .i64⟩,
 ⟨36,List Int,@rpList _ (rpK .u8)⟩,
 ⟨49,Semtypebase_Source,a2r⟩,
 ⟨51,Api_Ref,a4P⟩,
 ⟨52,List Api_TypeNode,@rpList _ (a07)⟩,
 ⟨54,Api_Type,a0w⟩,
 ⟨57,Api_Signature,a0Y⟩,
 ⟨61,Summary_writer,a3P⟩,
 ⟨67,Summary_reader,a3O⟩,
 ⟨75,Semtypeprog_Callee,a2i⟩,
 ⟨78,List Api_Field,@rpList _ (a2k)⟩,
 ⟨79,Int×Int,Q5 (rpK .i64) (rpK .i64)⟩,
 ⟨81,Api_TypeNode,a07⟩,
 ⟨100,Key,rpKey⟩,
 ⟨102,Api_Field,a2k⟩,
 ⟨115,List Api_Type,@rpList _ (a0w)⟩,
 ⟨117,Api_Arrow,a8O⟩,
 ⟨174,Semtyperef18_token,a2l⟩,
 ⟨290,Bool×Bool,Q5 (rpBool) (rpBool)⟩]
abbrev I (E:TypeId):Type:=(c05 tyL E).α
instance rI (E:TypeId):Rp (I E):=(c05 tyL E).rp
def b5g:Fd I (I 25) inferInstance:=(a3y (rg:=a37) (W4 (a79:Fd I ByteArray (rpStr)) (W4 (b3f:Fd I Bool (rpBool)) ((a43 57:Fd I (List Api_Signature) (@rpList _ (a0Y)))))) a8q b47 (fun _=>rfl) (fun _ _ _=>Iff.rfl):Fd I Api_Interface a37)
def b0M:Fd I (I 49) inferInstance:=(a3y (rg:=a2r) (W4 (a43 3:Fd I (List Int) (@rpList _ (rpK .i64))) ((a1E .i64:Fd I Int (rpK .i64)))) a4u b0N (fun _=>rfl) (fun _ _ _=>Iff.rfl):Fd I Semtypebase_Source a2r)
def b6g:Fd I (I 51) inferInstance:=(a3y (rg:=a4P) (W4 (a79:Fd I ByteArray (rpStr)) ((a1E .i64:Fd I Int (rpK .i64)))) b58 c0G (fun _=>rfl) (fun _ _ _=>Iff.rfl):Fd I Api_Ref a4P)
def a93:Fd I (I 54) inferInstance:=(a3y (rg:=a0w) (W4 (a43 81:Fd I (List Api_TypeNode) (@rpList _ (a07))) ((a1E .i64:Fd I Int (rpK .i64)))) b4J b9v (fun _=>rfl) (fun _ _ _=>Iff.rfl):Fd I Api_Type a0w)
def b4W:Fd I (I 57) inferInstance:=(a3y (rg:=a0Y) (W4 (b5K 51 b6g:Fd I Api_Ref (a4P)) ((b5K 54 a93:Fd I Api_Type (a0w)))) a8V b5y (fun _=>rfl) (fun _ _ _=>Iff.rfl):Fd I Api_Signature a0Y)
def b4F:Fd I (I 61) inferInstance:=(a3y (rg:=a3P) ((a43 5:Fd I (List Int) (@rpList _ (rpK .u8)))) a7u b4y (fun _=>rfl) (fun _ _ _=>Iff.rfl):Fd I Summary_writer a3P)
def b4E:Fd I (I 67) inferInstance:=(a3y (rg:=a3O) (W4 (a79:Fd I ByteArray (rpStr)) (W4 (a1E .i64:Fd I Int (rpK .i64)) ((a1E .i64:Fd I Int (rpK .i64))))) a7t b4C (fun _=>rfl) (fun _ _ _=>Iff.rfl):Fd I Summary_reader a3O)
def b0E:Fd I (I 75) inferInstance:=(a3y (rg:=a2i) (W4 (a79:Fd I ByteArray (rpStr)) (W4 (a79:Fd I ByteArray (rpStr)) (W4 (a43 3:Fd I (List Int) (@rpList _ (rpK .i64))) ((a1E .i64:Fd I Int (rpK .i64)))))) a4t b00 (fun _=>rfl) (fun _ _ _=>Iff.rfl):Fd I Semtypeprog_Callee a2i)
def c09:Fd I (I 79) inferInstance:=(W4 (a1E .i64:Fd I Int (rpK .i64)) ((a1E .i64:Fd I Int (rpK .i64))):Fd I (Int×Int) (Q5 (rpK .i64) (rpK .i64)))
def b5G:Fd I (I 81) inferInstance:=(a3y (rg:=a07) (W4 (a1E .i64:Fd I Int (rpK .i64)) (W4 (a1E .i64:Fd I Int (rpK .i64)) (W4 (a1E .i64:Fd I Int (rpK .i64)) (W4 (a79:Fd I ByteArray (rpStr)) (W4 (a43 3:Fd I (List Int) (@rpList _ (rpK .i64))) (W4 (a43 102:Fd I (List Api_Field) (@rpList _ (a2k))) ((b5K 79 c09:Fd I (Int×Int) (Q5 (rpK .i64) (rpK .i64)))))))))) a9F b6a (fun _=>rfl) (fun _ _ _=>Iff.rfl):Fd I Api_TypeNode a07)
def c1F:Fd I (I 100) inferInstance:=(a3y (rg:=rpKey) (W4 (a1E .i64:Fd I Int (rpK .i64)) ((a79:Fd I ByteArray (rpStr)))) Key.to Key.of (fun _=>rfl) Key.cells_to:Fd I Key rpKey)
def b9o:Fd I (I 102) inferInstance:=(a3y (rg:=a2k) (W4 (b5K 100 c1F:Fd I Key (rpKey)) (W4 (a1E .i64:Fd I Int (rpK .i64)) ((b3f:Fd I Bool (rpBool))))) b2O b8s (fun _=>rfl) (fun _ _ _=>Iff.rfl):Fd I Api_Field a2k)
def b8N:Fd I (I 117) inferInstance:=(a3y (rg:=a8O) (W4 (a43 54:Fd I (List Api_Type) (@rpList _ (a0w))) ((b5K 54 a93:Fd I Api_Type (a0w)))) b3v b9k (fun _=>rfl) (fun _ _ _=>Iff.rfl):Fd I Api_Arrow a8O)
def b0s:Fd I (I 174) inferInstance:=(a3y (rg:=a2l) (W4 (a1E .i64:Fd I Int (rpK .i64)) ((a79:Fd I ByteArray (rpStr)))) a4o b0C (fun _=>rfl) (fun _ _ _=>Iff.rfl):Fd I Semtyperef18_token a2l)
def c4d:Fd I (I 290) inferInstance:=(W4 (b3f:Fd I Bool (rpBool)) ((b3f:Fd I Bool (rpBool))):Fd I (Bool×Bool) (Q5 (rpBool) (rpBool)))
def feL:List (FE I):=[⟨2,a1E .i64⟩,
 ⟨3,a1E .i64⟩,
 ⟨4,b3f⟩,
 ⟨5,a1E .u8⟩,
 ⟨9,a79⟩,
 ⟨22,a43 3⟩,
 ⟨23,a43 57⟩,
 ⟨25,b5g⟩,
 ⟨27,a1E .i64⟩,
 ⟨36,a43 5⟩,
 ⟨49,b0M⟩,
 ⟨51,b6g⟩,
 ⟨52,a43 81⟩,
 ⟨54,a93⟩,
 ⟨57,b4W⟩,
 ⟨61,b4F⟩,
 ⟨67,b4E⟩,
 ⟨75,b0E⟩,
 ⟨78,a43 102⟩,
 ⟨79,c09⟩,
 ⟨81,b5G⟩,
 ⟨100,c1F⟩,
 ⟨102,b9o⟩,
 ⟨115,a43 54⟩,
 ⟨117,b8N⟩,
 ⟨174,b0s⟩,
 ⟨290,c4d⟩]
def c5A:TabL I where
 sz:=[(25,3),(51,2),(54,2),(57,4),(75,4),(79,2),(81,8),(100,2),(102,4),(117,3),(174,2)]
 one:=[(2,()),(3,()),(4,()),(9,()),(22,()),(23,()),(27,()),(36,()),(41,()),(42,()),(52,()),(78,()),(115,()),(120,()),(135,()),(149,()),(153,())]
 fld:=[(25,[(0,9),(1,4),(2,23)]),(45,[(0,42),(1,43),(2,3),(3,4),(4,3)]),(49,[(0,22),(1,3)]),(51,[(0,9),(1,3)]),(54,[(0,52),(1,3)]),(57,[(0,51),(2,54)]),(61,[(0,36)]),(67,[(0,9),(1,3),(2,27)]),(75,[(0,9),(1,9),(2,22),(3,3)]),(81,[(0,3),(1,2),(2,2),(3,9),(4,22),(5,78),(6,79)]),(100,[(0,3),(1,9)]),(102,[(0,100),(2,3),(3,4)]),(117,[(0,115),(1,54)]),(155,[(0,149),(1,3),(2,4),(3,4),(4,4),(5,3),(6,54),(8,41),(9,22),(10,153),(11,41)]),(174,[(0,3),(1,9)])]
 el:=[(22,3),(23,57),(36,5),(41,9),(43,75),(52,81),(73,51),(78,102),(103,2),(112,117),(115,54),(129,100),(149,174),(153,4)]
 str:=[(9,())]
 bool:=[]
 ik:=[(2,.i64),(3,.i64),(5,.u8),(35,.u64),(71,.u32),(143,.u64)]
 fe:=feL
 inf:=[(2,1,8,[.int .i64 0]),(3,1,8,[.int .i64 0]),(4,1,1,[.bool false]),(5,1,1,[.int .u8 0]),(9,1,16,[.str ⟨#[]⟩]),(22,1,24,[.nl 3]),(23,1,24,[.nl 57]),(25,3,48,[.str ⟨#[]⟩,.bool false,.nl 57]),(27,1,8,[.int .i64 0]),(36,1,24,[.nl 5]),(45,5,56,[.any,.nl 75,.int .i64 0,.bool false,.int .i64 0]),(49,2,32,[.nl 3,.int .i64 0]),(51,2,24,[.str ⟨#[]⟩,.int .i64 0]),(52,1,24,[.nl 81]),(54,2,32,[.nl 81,.int .i64 0]),(57,4,56,[.str ⟨#[]⟩,.int .i64 0,.nl 81,.int .i64 0]),(61,1,24,[.nl 5]),(67,3,32,[.str ⟨#[]⟩,.int .i64 0,.int .i64 0]),(75,4,64,[.str ⟨#[]⟩,.str ⟨#[]⟩,.nl 3,.int .i64 0]),(78,1,24,[.nl 102]),(79,2,16,[.int .i64 0,.int .i64 0]),(81,8,104,[.int .i64 0,.int .i64 0,.int .i64 0,.str ⟨#[]⟩,.nl 3,.nl 102,.int .i64 0,.int .i64 0]),(100,2,24,[.int .i64 0,.str ⟨#[]⟩]),(102,4,40,[.int .i64 0,.str ⟨#[]⟩,.int .i64 0,.bool false]),(115,1,24,[.nl 54]),(117,3,56,[.nl 54,.nl 81,.int .i64 0]),(120,1,8,[.any]),(135,1,8,[.any]),(153,1,24,[.nl 4]),(155,12,176,[.nl 174,.int .i64 0,.bool false,.bool false,.bool false,.int .i64 0,.nl 81,.int .i64 0,.nl 9,.nl 3,.nl 4,.nl 9]),(174,2,24,[.int .i64 0,.str ⟨#[]⟩]),(290,2,2,[.bool false,.bool false])]
 st:=[(25,[(0,1),(1,1),(2,1)]),(45,[(0,1),(1,1),(2,1),(3,1),(4,1)]),(49,[(0,1),(1,1)]),(51,[(0,1),(1,1)]),(54,[(0,1),(1,1)]),(57,[(0,2),(2,2)]),(61,[(0,1)]),(67,[(0,1),(1,1),(2,1)]),(75,[(0,1),(1,1),(2,1),(3,1)]),(79,[(0,1),(1,1)]),(81,[(0,1),(1,1),(2,1),(3,1),(4,1),(5,1),(6,2)]),(100,[(0,1),(1,1)]),(102,[(0,2),(2,1),(3,1)]),(117,[(0,1),(1,2)]),(155,[(0,1),(1,1),(2,1),(3,1),(4,1),(5,1),(6,2),(8,1),(9,1),(10,1),(11,1)]),(174,[(0,1),(1,1)]),(290,[(0,1),(1,1)])]
 eq:=[(51,b6s feL 51 a6t),(79,b6s feL 79 a8G),(100,b6s feL 100 b3V)]
 nest:=[(22,3,0),(191,3,1)]
 arr:=[(79,3,2,1),(290,4,2,1)]
 u8:=[(5,())]
 u8g:=[⟨5,fun y=>y⟩]
 mp:=[(132,.bool)]
 fb:=[(74,()),(75,()),(91,()),(103,()),(104,()),(115,())]
abbrev tb:Tab I:=c3j c5A
theorem ti2:Y0 Go.Proofs.Tryz.prog 2 (.int .i64 0) 1 8:=Z5 (by kernel_rfl)
theorem ti3:Y0 Go.Proofs.Tryz.prog 3 (.int .i64 0) 1 8:=Z5 (by kernel_rfl)
theorem ti4:Y0 Go.Proofs.Tryz.prog 4 (.bool false) 1 1:=Z5 (by kernel_rfl)
theorem ti5:Y0 Go.Proofs.Tryz.prog 5 (.int .u8 0) 1 1:=Z5 (by kernel_rfl)
theorem ti9:Y0 Go.Proofs.Tryz.prog 9 (.string ⟨#[]⟩) 1 16:=Z5 (by kernel_rfl)
theorem c6A:Y0 Go.Proofs.Tryz.prog 22 (.slice none 0 0) 1 24:=Z5 (by kernel_rfl)
theorem c67:Y0 Go.Proofs.Tryz.prog 23 (.slice none 0 0) 1 24:=Z5 (by kernel_rfl)
theorem c6U:Y0 Go.Proofs.Tryz.prog 25 (.agg #[.string ⟨#[]⟩,.bool false,.slice none 0 0]) 3 48:=Z5 (by kernel_rfl)
theorem c65:Y0 Go.Proofs.Tryz.prog 27 (.int .i64 0) 1 8:=Z5 (by kernel_rfl)
theorem c61:Y0 Go.Proofs.Tryz.prog 36 (.slice none 0 0) 1 24:=Z5 (by kernel_rfl)
theorem c62:Y0 Go.Proofs.Tryz.prog 45 (.agg #[.pointer none,.slice none 0 0,.int .i64 0,.bool false,.int .i64 0]) 5 56:=Z5 (by kernel_rfl)
theorem c66:Y0 Go.Proofs.Tryz.prog 49 (.agg #[.slice none 0 0,.int .i64 0]) 2 32:=Z5 (by kernel_rfl)
theorem c4H:Y0 Go.Proofs.Tryz.prog 51 (.agg #[.string ⟨#[]⟩,.int .i64 0]) 2 24:=Z5 (by kernel_rfl)
theorem c60:Y0 Go.Proofs.Tryz.prog 52 (.slice none 0 0) 1 24:=Z5 (by kernel_rfl)
theorem c5r:Y0 Go.Proofs.Tryz.prog 54 (.agg #[.slice none 0 0,.int .i64 0]) 2 32:=Z5 (by kernel_rfl)
theorem c4D:Y0 Go.Proofs.Tryz.prog 57 (.agg #[.string ⟨#[]⟩,.int .i64 0,.slice none 0 0,.int .i64 0]) 4 56:=Z5 (by kernel_rfl)
theorem c6X:Y0 Go.Proofs.Tryz.prog 61 (.agg #[.slice none 0 0]) 1 24:=Z5 (by kernel_rfl)
theorem c7b:Y0 Go.Proofs.Tryz.prog 67 (.agg #[.string ⟨#[]⟩,.int .i64 0,.int .i64 0]) 3 32:=Z5 (by kernel_rfl)
theorem c4x:Y0 Go.Proofs.Tryz.prog 75 (.agg #[.string ⟨#[]⟩,.string ⟨#[]⟩,.slice none 0 0,.int .i64 0]) 4 64:=Z5 (by kernel_rfl)
theorem c6P:Y0 Go.Proofs.Tryz.prog 78 (.slice none 0 0) 1 24:=Z5 (by kernel_rfl)
theorem c6I:Y0 Go.Proofs.Tryz.prog 79 (.agg #[.int .i64 0,.int .i64 0]) 2 16:=Z5 (by kernel_rfl)
theorem c5z:Y0 Go.Proofs.Tryz.prog 81 (.agg #[.int .i64 0,.int .i64 0,.int .i64 0,.string ⟨#[]⟩,.slice none 0 0,.slice none 0 0,.int .i64 0,.int .i64 0]) 8 104:=Z5 (by kernel_rfl)
theorem c3u:Y0 Go.Proofs.Tryz.prog 100 (.agg #[.int .i64 0,.string ⟨#[]⟩]) 2 24:=Z5 (by kernel_rfl)
theorem c3h:Y0 Go.Proofs.Tryz.prog 102 (.agg #[.int .i64 0,.string ⟨#[]⟩,.int .i64 0,.bool false]) 4 40:=Z5 (by kernel_rfl)
theorem c6v:Y0 Go.Proofs.Tryz.prog 115 (.slice none 0 0) 1 24:=Z5 (by kernel_rfl)
theorem c3n:Y0 Go.Proofs.Tryz.prog 117 (.agg #[.slice none 0 0,.slice none 0 0,.int .i64 0]) 3 56:=Z5 (by kernel_rfl)
theorem c5T:Y0 Go.Proofs.Tryz.prog 120 (.nilFunc) 1 8:=Z5 (by kernel_rfl)
theorem c5R:Y0 Go.Proofs.Tryz.prog 135 (.nilFunc) 1 8:=Z5 (by kernel_rfl)
theorem c6t:Y0 Go.Proofs.Tryz.prog 153 (.slice none 0 0) 1 24:=Z5 (by kernel_rfl)
theorem c6u:Y0 Go.Proofs.Tryz.prog 155 (.agg #[.slice none 0 0,.int .i64 0,.bool false,.bool false,.bool false,.int .i64 0,.slice none 0 0,.int .i64 0,.slice none 0 0,.slice none 0 0,.slice none 0 0,.slice none 0 0]) 12 176:=Z5 (by kernel_rfl)
theorem c3y:Y0 Go.Proofs.Tryz.prog 174 (.agg #[.int .i64 0,.string ⟨#[]⟩]) 2 24:=Z5 (by kernel_rfl)
theorem c6n:Y0 Go.Proofs.Tryz.prog 290 (.agg #[.bool false,.bool false]) 2 2:=Z5 (by kernel_rfl)
theorem to2:a0D Go.Proofs.Tryz.prog 2:=⟨_,Go.Proofs.Tryz.underlying2,rfl,by kernel_rfl⟩
theorem to3:a0D Go.Proofs.Tryz.prog 3:=⟨_,Go.Proofs.Tryz.underlying3,rfl,by kernel_rfl⟩
theorem to4:a0D Go.Proofs.Tryz.prog 4:=⟨_,Go.Proofs.Tryz.underlying4,rfl,by kernel_rfl⟩
theorem to9:a0D Go.Proofs.Tryz.prog 9:=⟨_,Go.Proofs.Tryz.underlying9,rfl,by kernel_rfl⟩
theorem c7e:a0D Go.Proofs.Tryz.prog 22:=⟨_,Go.Proofs.Tryz.underlying22,rfl,by kernel_rfl⟩
theorem c6V:a0D Go.Proofs.Tryz.prog 23:=⟨_,Go.Proofs.Tryz.underlying23,rfl,by kernel_rfl⟩
theorem c6B:a0D Go.Proofs.Tryz.prog 27:=⟨_,Go.Proofs.Tryz.underlying27,rfl,by kernel_rfl⟩
theorem c6D:a0D Go.Proofs.Tryz.prog 36:=⟨_,Go.Proofs.Tryz.underlying36,rfl,by kernel_rfl⟩
theorem c6E:a0D Go.Proofs.Tryz.prog 41:=⟨_,Go.Proofs.Tryz.underlying41,rfl,by kernel_rfl⟩
theorem c6H:a0D Go.Proofs.Tryz.prog 42:=⟨_,Go.Proofs.Tryz.underlying42,rfl,by kernel_rfl⟩
theorem c6C:a0D Go.Proofs.Tryz.prog 52:=⟨_,Go.Proofs.Tryz.underlying52,rfl,by kernel_rfl⟩
theorem c68:a0D Go.Proofs.Tryz.prog 78:=⟨_,Go.Proofs.Tryz.underlying78,rfl,by kernel_rfl⟩
theorem c57:a0D Go.Proofs.Tryz.prog 115:=⟨_,Go.Proofs.Tryz.underlying115,rfl,by kernel_rfl⟩
theorem c5Y:a0D Go.Proofs.Tryz.prog 120:=⟨_,Go.Proofs.Tryz.underlying120,rfl,by kernel_rfl⟩
theorem c5V:a0D Go.Proofs.Tryz.prog 135:=⟨_,Go.Proofs.Tryz.underlying135,rfl,by kernel_rfl⟩
theorem c5F:a0D Go.Proofs.Tryz.prog 149:=⟨_,Go.Proofs.Tryz.underlying149,rfl,by kernel_rfl⟩
theorem c6x:a0D Go.Proofs.Tryz.prog 153:=⟨_,Go.Proofs.Tryz.underlying153,rfl,by kernel_rfl⟩
theorem c6L {σ:S}{x y:Api_Ref}{cs ds:List Value}(h:(rI 51).cells σ x cs)(k:(rI 51).cells σ y ds):Sx.EqAt Go.Proofs.Tryz.prog 2 51 (.agg cs.toArray) (.agg ds.toArray) (a6t x y):=by
 obtain ⟨_,_,rfl,rfl,rfl⟩:=h
 obtain ⟨_,_,rfl,rfl,rfl⟩:=k
 exact b4L Go.Proofs.Tryz.underlying51 (by kernel_rfl) (a9K (by decide) (a0X to9 rfl) (a0X to9 rfl) (b85 Go.Proofs.Tryz.underlying9) (a9K (by decide) (a0X to3 rfl) (a0X to3 rfl) (b1h Go.Proofs.Tryz.underlying3) b8Z))
theorem c6O {σ:S}{x y:Int×Int}{cs ds:List Value}(h:(rI 79).cells σ x cs)(k:(rI 79).cells σ y ds):Sx.EqAt Go.Proofs.Tryz.prog 2 79 (.agg cs.toArray) (.agg ds.toArray) (a8G x y):=by
 obtain ⟨_,_,rfl,rfl,rfl⟩:=h
 obtain ⟨_,_,rfl,rfl,rfl⟩:=k
 exact c3f Go.Proofs.Tryz.underlying79 ti3 (b69 (a0X to3 rfl) (a0X to3 rfl) (b1h Go.Proofs.Tryz.underlying3) (b69 (a0X to3 rfl) (a0X to3 rfl) (b1h Go.Proofs.Tryz.underlying3) c3b))
theorem c5X {σ:S}{x y:Key}{cs ds:List Value}(h:(rI 100).cells σ x cs)(k:(rI 100).cells σ y ds):Sx.EqAt Go.Proofs.Tryz.prog 2 100 (.agg cs.toArray) (.agg ds.toArray) (b3V x y):=by
 obtain ⟨_,_,rfl,rfl,rfl⟩:=h
 obtain ⟨_,_,rfl,rfl,rfl⟩:=k
 exact b4L Go.Proofs.Tryz.underlying100 (by kernel_rfl) (a9K (by decide) (a0X to3 rfl) (a0X to3 rfl) (b1h Go.Proofs.Tryz.underlying3) (a9K (by decide) (a0X to9 rfl) (a0X to9 rfl) (b85 Go.Proofs.Tryz.underlying9) b8Z))
theorem eqT (T:TypeId)(g:I T->I T->Bool){K:Nat}(h:∀ {σ:S} {x y:I T} {cs ds:List Value},Rp.cells σ x cs->Rp.cells σ y ds->Sx.EqAt Go.Proofs.Tryz.prog K T (.agg cs.toArray) (.agg ds.toArray) (g x y))(hg:Go.Proofs.Tryz.prog.eqGuardType (Go.Proofs.Tryz.prog).depth T=false)(hK:Nat.ble K 10000=true)
 {X:Cxt} {c:Cx} {σ:S} {ls ms:List (PV I)} {r:Bool} {cs ds:List Value} (h1:b6s feL T g ls ms=some r) (h2:RG X c σ ls cs) (h3:RG X c σ ms ds) :
 Go.Proofs.Tryz.prog.eqGuardType (Go.Proofs.Tryz.prog).depth T=false/\∃ j,Nat.ble j 10000=true/\Sx.EqAt Go.Proofs.Tryz.prog j T (.agg cs.toArray) (.agg ds.toArray) r:=by
 obtain ⟨x,y,k1,k2,rfl⟩:=c3O h1 h2 h3
 exact ⟨hg,K,hK,h k1 k2⟩
theorem c48:TabLOk Go.Proofs.Tryz.prog c5A where
 sz:=⟨⟨_,Go.Proofs.Tryz.underlying25,rfl,by kernel_rfl⟩,⟨⟨_,Go.Proofs.Tryz.underlying51,rfl,by kernel_rfl⟩,⟨⟨_,Go.Proofs.Tryz.underlying54,rfl,by kernel_rfl⟩,⟨⟨_,Go.Proofs.Tryz.underlying57,rfl,by kernel_rfl⟩,⟨⟨_,Go.Proofs.Tryz.underlying75,rfl,by kernel_rfl⟩,⟨⟨_,Go.Proofs.Tryz.underlying79,rfl,by kernel_rfl⟩,⟨⟨_,Go.Proofs.Tryz.underlying81,rfl,by kernel_rfl⟩,⟨⟨_,Go.Proofs.Tryz.underlying100,rfl,by kernel_rfl⟩,⟨⟨_,Go.Proofs.Tryz.underlying102,rfl,by kernel_rfl⟩,⟨⟨_,Go.Proofs.Tryz.underlying117,rfl,by kernel_rfl⟩,⟨⟨_,Go.Proofs.Tryz.underlying174,rfl,by kernel_rfl⟩,trivial⟩⟩⟩⟩⟩⟩⟩⟩⟩⟩⟩
 one:=⟨to2,⟨to3,⟨to4,⟨to9,⟨c7e,⟨c6V,⟨c6B,⟨c6D,⟨c6E,⟨c6H,⟨c6C,⟨c68,⟨c57,⟨c5Y,⟨c5V,⟨c5F,⟨c6x,trivial⟩⟩⟩⟩⟩⟩⟩⟩⟩⟩⟩⟩⟩⟩⟩⟩⟩
 fld:=⟨⟨⟨_,_,Go.Proofs.Tryz.underlying25,rfl,rfl,by kernel_rfl⟩,⟨⟨_,_,Go.Proofs.Tryz.underlying25,rfl,rfl⟩,⟨⟨_,_,Go.Proofs.Tryz.underlying25,rfl,rfl,by kernel_rfl⟩,⟨⟨_,_,Go.Proofs.Tryz.underlying25,rfl,rfl⟩,⟨⟨_,_,Go.Proofs.Tryz.underlying25,rfl,rfl,by kernel_rfl⟩,⟨⟨_,_,Go.Proofs.Tryz.underlying25,rfl,rfl⟩,trivial⟩⟩⟩⟩⟩⟩,⟨⟨⟨_,_,Go.Proofs.Tryz.underlying45,rfl,rfl,by kernel_rfl⟩,⟨⟨_,_,Go.Proofs.Tryz.underlying45,rfl,rfl⟩,⟨⟨_,_,Go.Proofs.Tryz.underlying45,rfl,rfl,by kernel_rfl⟩,⟨⟨_,_,Go.Proofs.Tryz.underlying45,rfl,rfl⟩,⟨⟨_,_,Go.Proofs.Tryz.underlying45,rfl,rfl,by kernel_rfl⟩,⟨⟨_,_,Go.Proofs.Tryz.underlying45,rfl,rfl⟩,⟨⟨_,_,Go.Proofs.Tryz.underlying45,rfl,rfl,by kernel_rfl⟩,⟨⟨_,_,Go.Proofs.Tryz.underlying45,rfl,rfl⟩,⟨⟨_,_,Go.Proofs.Tryz.underlying45,rfl,rfl,by kernel_rfl⟩,⟨⟨_,_,Go.Proofs.Tryz.underlying45,rfl,rfl⟩,trivial⟩⟩⟩⟩⟩⟩⟩⟩⟩⟩,⟨⟨⟨_,_,Go.Proofs.Tryz.underlying49,rfl,rfl,by kernel_rfl⟩,⟨⟨_,_,Go.Proofs.Tryz.underlying49,rfl,rfl⟩,⟨⟨_,_,Go.Proofs.Tryz.underlying49,rfl,rfl,by kernel_rfl⟩,⟨⟨_,_,Go.Proofs.Tryz.underlying49,rfl,rfl⟩,trivial⟩⟩⟩⟩,⟨⟨⟨_,_,Go.Proofs.Tryz.underlying51,rfl,rfl,by kernel_rfl⟩,⟨⟨_,_,Go.Proofs.Tryz.underlying51,rfl,rfl⟩,⟨⟨_,_,Go.Proofs.Tryz.underlying51,rfl,rfl,by kernel_rfl⟩,⟨⟨_,_,Go.Proofs.Tryz.underlying51,rfl,rfl⟩,trivial⟩⟩⟩⟩,⟨⟨⟨_,_,Go.Proofs.Tryz.underlying54,rfl,rfl,by kernel_rfl⟩,⟨⟨_,_,Go.Proofs.Tryz.underlying54,rfl,rfl⟩,⟨⟨_,_,Go.Proofs.Tryz.underlying54,rfl,rfl,by kernel_rfl⟩,⟨⟨_,_,Go.Proofs.Tryz.underlying54,rfl,rfl⟩,trivial⟩⟩⟩⟩,⟨⟨⟨_,_,Go.Proofs.Tryz.underlying57,rfl,rfl,by kernel_rfl⟩,⟨⟨_,_,Go.Proofs.Tryz.underlying57,rfl,rfl⟩,⟨⟨_,_,Go.Proofs.Tryz.underlying57,rfl,rfl,by kernel_rfl⟩,⟨⟨_,_,Go.Proofs.Tryz.underlying57,rfl,rfl⟩,trivial⟩⟩⟩⟩,⟨⟨⟨_,_,Go.Proofs.Tryz.underlying61,rfl,rfl,by kernel_rfl⟩,⟨⟨_,_,Go.Proofs.Tryz.underlying61,rfl,rfl⟩,trivial⟩⟩,⟨⟨⟨_,_,Go.Proofs.Tryz.underlying67,rfl,rfl,by kernel_rfl⟩,⟨⟨_,_,Go.Proofs.Tryz.underlying67,rfl,rfl⟩,⟨⟨_,_,Go.Proofs.Tryz.underlying67,rfl,rfl,by kernel_rfl⟩,⟨⟨_,_,Go.Proofs.Tryz.underlying67,rfl,rfl⟩,⟨⟨_,_,Go.Proofs.Tryz.underlying67,rfl,rfl,by kernel_rfl⟩,⟨⟨_,_,Go.Proofs.Tryz.underlying67,rfl,rfl⟩,trivial⟩⟩⟩⟩⟩⟩,⟨⟨⟨_,_,Go.Proofs.Tryz.underlying75,rfl,rfl,by kernel_rfl⟩,⟨⟨_,_,Go.Proofs.Tryz.underlying75,rfl,rfl⟩,⟨⟨_,_,Go.Proofs.Tryz.underlying75,rfl,rfl,by kernel_rfl⟩,⟨⟨_,_,Go.Proofs.Tryz.underlying75,rfl,rfl⟩,⟨⟨_,_,Go.Proofs.Tryz.underlying75,rfl,rfl,by kernel_rfl⟩,⟨⟨_,_,Go.Proofs.Tryz.underlying75,rfl,rfl⟩,⟨⟨_,_,Go.Proofs.Tryz.underlying75,rfl,rfl,by kernel_rfl⟩,⟨⟨_,_,Go.Proofs.Tryz.underlying75,rfl,rfl⟩,trivial⟩⟩⟩⟩⟩⟩⟩⟩,⟨⟨⟨_,_,Go.Proofs.Tryz.underlying81,rfl,rfl,by kernel_rfl⟩,⟨⟨_,_,Go.Proofs.Tryz.underlying81,rfl,rfl⟩,⟨⟨_,_,Go.Proofs.Tryz.underlying81,rfl,rfl,by kernel_rfl⟩,⟨⟨_,_,Go.Proofs.Tryz.underlying81,rfl,rfl⟩,⟨⟨_,_,Go.Proofs.Tryz.underlying81,rfl,rfl,by kernel_rfl⟩,⟨⟨_,_,Go.Proofs.Tryz.underlying81,rfl,rfl⟩,⟨⟨_,_,Go.Proofs.Tryz.underlying81,rfl,rfl,by kernel_rfl⟩,⟨⟨_,_,Go.Proofs.Tryz.underlying81,rfl,rfl⟩,⟨⟨_,_,Go.Proofs.Tryz.underlying81,rfl,rfl,by kernel_rfl⟩,⟨⟨_,_,Go.Proofs.Tryz.underlying81,rfl,rfl⟩,⟨⟨_,_,Go.Proofs.Tryz.underlying81,rfl,rfl,by kernel_rfl⟩,⟨⟨_,_,Go.Proofs.Tryz.underlying81,rfl,rfl⟩,⟨⟨_,_,Go.Proofs.Tryz.underlying81,rfl,rfl,by kernel_rfl⟩,⟨⟨_,_,Go.Proofs.Tryz.underlying81,rfl,rfl⟩,trivial⟩⟩⟩⟩⟩⟩⟩⟩⟩⟩⟩⟩⟩⟩,⟨⟨⟨_,_,Go.Proofs.Tryz.underlying100,rfl,rfl,by kernel_rfl⟩,⟨⟨_,_,Go.Proofs.Tryz.underlying100,rfl,rfl⟩,⟨⟨_,_,Go.Proofs.Tryz.underlying100,rfl,rfl,by kernel_rfl⟩,⟨⟨_,_,Go.Proofs.Tryz.underlying100,rfl,rfl⟩,trivial⟩⟩⟩⟩,⟨⟨⟨_,_,Go.Proofs.Tryz.underlying102,rfl,rfl,by kernel_rfl⟩,⟨⟨_,_,Go.Proofs.Tryz.underlying102,rfl,rfl⟩,⟨⟨_,_,Go.Proofs.Tryz.underlying102,rfl,rfl,by kernel_rfl⟩,⟨⟨_,_,Go.Proofs.Tryz.underlying102,rfl,rfl⟩,⟨⟨_,_,Go.Proofs.Tryz.underlying102,rfl,rfl,by kernel_rfl⟩,⟨⟨_,_,Go.Proofs.Tryz.underlying102,rfl,rfl⟩,trivial⟩⟩⟩⟩⟩⟩,⟨⟨⟨_,_,Go.Proofs.Tryz.underlying117,rfl,rfl,by kernel_rfl⟩,⟨⟨_,_,Go.Proofs.Tryz.underlying117,rfl,rfl⟩,⟨⟨_,_,Go.Proofs.Tryz.underlying117,rfl,rfl,by kernel_rfl⟩,⟨⟨_,_,Go.Proofs.Tryz.underlying117,rfl,rfl⟩,trivial⟩⟩⟩⟩,⟨⟨⟨_,_,Go.Proofs.Tryz.underlying155,rfl,rfl,by kernel_rfl⟩,⟨⟨_,_,Go.Proofs.Tryz.underlying155,rfl,rfl⟩,⟨⟨_,_,Go.Proofs.Tryz.underlying155,rfl,rfl,by kernel_rfl⟩,⟨⟨_,_,Go.Proofs.Tryz.underlying155,rfl,rfl⟩,⟨⟨_,_,Go.Proofs.Tryz.underlying155,rfl,rfl,by kernel_rfl⟩,⟨⟨_,_,Go.Proofs.Tryz.underlying155,rfl,rfl⟩,⟨⟨_,_,Go.Proofs.Tryz.underlying155,rfl,rfl,by kernel_rfl⟩,⟨⟨_,_,Go.Proofs.Tryz.underlying155,rfl,rfl⟩,⟨⟨_,_,Go.Proofs.Tryz.underlying155,rfl,rfl,by kernel_rfl⟩,⟨⟨_,_,Go.Proofs.Tryz.underlying155,rfl,rfl⟩,⟨⟨_,_,Go.Proofs.Tryz.underlying155,rfl,rfl,by kernel_rfl⟩,⟨⟨_,_,Go.Proofs.Tryz.underlying155,rfl,rfl⟩,⟨⟨_,_,Go.Proofs.Tryz.underlying155,rfl,rfl,by kernel_rfl⟩,⟨⟨_,_,Go.Proofs.Tryz.underlying155,rfl,rfl⟩,⟨⟨_,_,Go.Proofs.Tryz.underlying155,rfl,rfl,by kernel_rfl⟩,⟨⟨_,_,Go.Proofs.Tryz.underlying155,rfl,rfl⟩,⟨⟨_,_,Go.Proofs.Tryz.underlying155,rfl,rfl,by kernel_rfl⟩,⟨⟨_,_,Go.Proofs.Tryz.underlying155,rfl,rfl⟩,⟨⟨_,_,Go.Proofs.Tryz.underlying155,rfl,rfl,by kernel_rfl⟩,⟨⟨_,_,Go.Proofs.Tryz.underlying155,rfl,rfl⟩,⟨⟨_,_,Go.Proofs.Tryz.underlying155,rfl,rfl,by kernel_rfl⟩,⟨⟨_,_,Go.Proofs.Tryz.underlying155,rfl,rfl⟩,trivial⟩⟩⟩⟩⟩⟩⟩⟩⟩⟩⟩⟩⟩⟩⟩⟩⟩⟩⟩⟩⟩⟩,⟨⟨⟨_,_,Go.Proofs.Tryz.underlying174,rfl,rfl,by kernel_rfl⟩,⟨⟨_,_,Go.Proofs.Tryz.underlying174,rfl,rfl⟩,⟨⟨_,_,Go.Proofs.Tryz.underlying174,rfl,rfl,by kernel_rfl⟩,⟨⟨_,_,Go.Proofs.Tryz.underlying174,rfl,rfl⟩,trivial⟩⟩⟩⟩,trivial⟩⟩⟩⟩⟩⟩⟩⟩⟩⟩⟩⟩⟩⟩⟩
 el:=⟨⟨Go.Proofs.Tryz.underlying22,_,_,ti3,rfl,by decide⟩,⟨⟨Go.Proofs.Tryz.underlying23,_,_,c4D,rfl,by decide⟩,⟨⟨Go.Proofs.Tryz.underlying36,_,_,ti5,rfl,by decide⟩,⟨⟨Go.Proofs.Tryz.underlying41,_,_,ti9,rfl,by decide⟩,⟨⟨Go.Proofs.Tryz.underlying43,_,_,c4x,rfl,by decide⟩,⟨⟨Go.Proofs.Tryz.underlying52,_,_,c5z,rfl,by decide⟩,⟨⟨Go.Proofs.Tryz.underlying73,_,_,c4H,rfl,by decide⟩,⟨⟨Go.Proofs.Tryz.underlying78,_,_,c3h,rfl,by decide⟩,⟨⟨Go.Proofs.Tryz.underlying103,_,_,ti2,rfl,by decide⟩,⟨⟨Go.Proofs.Tryz.underlying112,_,_,c3n,rfl,by decide⟩,⟨⟨Go.Proofs.Tryz.underlying115,_,_,c5r,rfl,by decide⟩,⟨⟨Go.Proofs.Tryz.underlying129,_,_,c3u,rfl,by decide⟩,⟨⟨Go.Proofs.Tryz.underlying149,_,_,c3y,rfl,by decide⟩,⟨⟨Go.Proofs.Tryz.underlying153,_,_,ti4,rfl,by decide⟩,trivial⟩⟩⟩⟩⟩⟩⟩⟩⟩⟩⟩⟩⟩⟩
 str:=⟨Go.Proofs.Tryz.underlying9,trivial⟩
 bool:=trivial
 ik:=⟨Go.Proofs.Tryz.underlying2,⟨Go.Proofs.Tryz.underlying3,⟨Go.Proofs.Tryz.underlying5,⟨Go.Proofs.Tryz.underlying35,⟨Go.Proofs.Tryz.underlying71,⟨Go.Proofs.Tryz.underlying143,trivial⟩⟩⟩⟩⟩⟩
 inf:=⟨⟨_,ti2,fun X c σ=>RG.cns rfl W3 (RG.nl)⟩,⟨⟨_,ti3,fun X c σ=>RG.cns rfl W3 (RG.nl)⟩,⟨⟨_,ti4,fun X c σ=>RG.cns rfl a4F (RG.nl)⟩,⟨⟨_,ti5,fun X c σ=>RG.cns rfl W3 (RG.nl)⟩,⟨⟨_,ti9,fun X c σ=>RG.cns rfl a4V (RG.nl)⟩,⟨⟨_,c6A,fun X c σ=>RG.cns rfl a1j (RG.nl)⟩,⟨⟨_,c67,fun X c σ=>RG.cns rfl a1j (RG.nl)⟩,⟨⟨_,c6U,fun X c σ=>RG.cns rfl a4V (RG.cns rfl a4F (RG.cns rfl a1j (RG.nl)))⟩,⟨⟨_,c65,fun X c σ=>RG.cns rfl W3 (RG.nl)⟩,⟨⟨_,c61,fun X c σ=>RG.cns rfl a1j (RG.nl)⟩,⟨⟨_,c62,fun X c σ=>RG.cns rfl c0H (RG.cns rfl a1j (RG.cns rfl W3 (RG.cns rfl a4F (RG.cns rfl W3 (RG.nl)))))⟩,⟨⟨_,c66,fun X c σ=>RG.cns rfl a1j (RG.cns rfl W3 (RG.nl))⟩,⟨⟨_,c4H,fun X c σ=>RG.cns rfl a4V (RG.cns rfl W3 (RG.nl))⟩,⟨⟨_,c60,fun X c σ=>RG.cns rfl a1j (RG.nl)⟩,⟨⟨_,c5r,fun X c σ=>RG.cns rfl a1j (RG.cns rfl W3 (RG.nl))⟩,⟨⟨_,c4D,fun X c σ=>RG.cns rfl a4V (RG.cns rfl W3 (RG.cns rfl a1j (RG.cns rfl W3 (RG.nl))))⟩,⟨⟨_,c6X,fun X c σ=>RG.cns rfl a1j (RG.nl)⟩,⟨⟨_,c7b,fun X c σ=>RG.cns rfl a4V (RG.cns rfl W3 (RG.cns rfl W3 (RG.nl)))⟩,⟨⟨_,c4x,fun X c σ=>RG.cns rfl a4V (RG.cns rfl a4V (RG.cns rfl a1j (RG.cns rfl W3 (RG.nl))))⟩,⟨⟨_,c6P,fun X c σ=>RG.cns rfl a1j (RG.nl)⟩,⟨⟨_,c6I,fun X c σ=>RG.cns rfl W3 (RG.cns rfl W3 (RG.nl))⟩,⟨⟨_,c5z,fun X c σ=>RG.cns rfl W3 (RG.cns rfl W3 (RG.cns rfl W3 (RG.cns rfl a4V (RG.cns rfl a1j (RG.cns rfl a1j (RG.cns rfl W3 (RG.cns rfl W3 (RG.nl))))))))⟩,⟨⟨_,c3u,fun X c σ=>RG.cns rfl W3 (RG.cns rfl a4V (RG.nl))⟩,⟨⟨_,c3h,fun X c σ=>RG.cns rfl W3 (RG.cns rfl a4V (RG.cns rfl W3 (RG.cns rfl a4F (RG.nl))))⟩,⟨⟨_,c6v,fun X c σ=>RG.cns rfl a1j (RG.nl)⟩,⟨⟨_,c3n,fun X c σ=>RG.cns rfl a1j (RG.cns rfl a1j (RG.cns rfl W3 (RG.nl)))⟩,⟨⟨_,c5T,fun X c σ=>RG.cns rfl c0H (RG.nl)⟩,⟨⟨_,c5R,fun X c σ=>RG.cns rfl c0H (RG.nl)⟩,⟨⟨_,c6t,fun X c σ=>RG.cns rfl a1j (RG.nl)⟩,⟨⟨_,c6u,fun X c σ=>RG.cns rfl a1j (RG.cns rfl W3 (RG.cns rfl a4F (RG.cns rfl a4F (RG.cns rfl a4F (RG.cns rfl W3 (RG.cns rfl a1j (RG.cns rfl W3 (RG.cns rfl a1j (RG.cns rfl a1j (RG.cns rfl a1j (RG.cns rfl a1j (RG.nl))))))))))))⟩,⟨⟨_,c3y,fun X c σ=>RG.cns rfl W3 (RG.cns rfl a4V (RG.nl))⟩,⟨⟨_,c6n,fun X c σ=>RG.cns rfl a4F (RG.cns rfl a4F (RG.nl))⟩,trivial⟩⟩⟩⟩⟩⟩⟩⟩⟩⟩⟩⟩⟩⟩⟩⟩⟩⟩⟩⟩⟩⟩⟩⟩⟩⟩⟩⟩⟩⟩⟩⟩
 st:=⟨.inl ⟨_,Go.Proofs.Tryz.underlying25,by kernel_rfl⟩,⟨.inl ⟨_,Go.Proofs.Tryz.underlying45,by kernel_rfl⟩,⟨.inl ⟨_,Go.Proofs.Tryz.underlying49,by kernel_rfl⟩,⟨.inl ⟨_,Go.Proofs.Tryz.underlying51,by kernel_rfl⟩,⟨.inl ⟨_,Go.Proofs.Tryz.underlying54,by kernel_rfl⟩,⟨.inl ⟨_,Go.Proofs.Tryz.underlying57,by kernel_rfl⟩,⟨.inl ⟨_,Go.Proofs.Tryz.underlying61,by kernel_rfl⟩,⟨.inl ⟨_,Go.Proofs.Tryz.underlying67,by kernel_rfl⟩,⟨.inl ⟨_,Go.Proofs.Tryz.underlying75,by kernel_rfl⟩,⟨.inr (c1U Go.Proofs.Tryz.underlying79 ti3 rfl),⟨.inl ⟨_,Go.Proofs.Tryz.underlying81,by kernel_rfl⟩,⟨.inl ⟨_,Go.Proofs.Tryz.underlying100,by kernel_rfl⟩,⟨.inl ⟨_,Go.Proofs.Tryz.underlying102,by kernel_rfl⟩,⟨.inl ⟨_,Go.Proofs.Tryz.underlying117,by kernel_rfl⟩,⟨.inl ⟨_,Go.Proofs.Tryz.underlying155,by kernel_rfl⟩,⟨.inl ⟨_,Go.Proofs.Tryz.underlying174,by kernel_rfl⟩,⟨.inr (c1U Go.Proofs.Tryz.underlying290 ti4 rfl),trivial⟩⟩⟩⟩⟩⟩⟩⟩⟩⟩⟩⟩⟩⟩⟩⟩⟩
 eq:=⟨fun X c σ ls ms r cs ds h1 h2 h3=>eqT 51 a6t (fun h k=>c6L h k) (by kernel_rfl) (by decide) h1 h2 h3,⟨fun X c σ ls ms r cs ds h1 h2 h3=>eqT 79 a8G (fun h k=>c6O h k) (by kernel_rfl) (by decide) h1 h2 h3,⟨fun X c σ ls ms r cs ds h1 h2 h3=>eqT 100 b3V (fun h k=>c5X h k) (by kernel_rfl) (by decide) h1 h2 h3,trivial⟩⟩⟩
 arr:=⟨⟨Go.Proofs.Tryz.underlying79,by kernel_rfl⟩,⟨⟨Go.Proofs.Tryz.underlying290,by kernel_rfl⟩,trivial⟩⟩
 u8:=⟨⟨Go.Proofs.Tryz.underlying5,fun y=>⟨y,rfl⟩⟩,trivial⟩
 u8g:=⟨fun σ k=>rfl,trivial⟩
 mp:=⟨⟨_,_,_,_,_,Go.Proofs.Tryz.underlying132,Go.Proofs.Tryz.underlying9,ti4,fun x h σ=>by cases h; exact rfl⟩,trivial⟩
 fb:=⟨⟨_,_,Go.Proofs.Tryz.func74,rfl,by kernel_rfl⟩,⟨⟨_,_,Go.Proofs.Tryz.func75,rfl,by kernel_rfl⟩,⟨⟨_,_,Go.Proofs.Tryz.func91,rfl,by kernel_rfl⟩,⟨⟨_,_,Go.Proofs.Tryz.func103,rfl,by kernel_rfl⟩,⟨⟨_,_,Go.Proofs.Tryz.func104,rfl,by kernel_rfl⟩,⟨⟨_,_,Go.Proofs.Tryz.func115,rfl,by kernel_rfl⟩,trivial⟩⟩⟩⟩⟩⟩
theorem a1D:TabOk Go.Proofs.Tryz.prog tb:=c2L c48
theorem mixed:(Go.Proofs.Tryz.prog).follows .mixedOrders=true:=by kernel_rfl
end Go.Qx
end
section
namespace Go.Qx
open Go Go.RowKit Go.Sx
end Go.Qx
end
section
namespace Go.Qx
open Go Go.RowKit Go.Sx
structure Bw (B:Nat)(w w':World):Prop where
 below:Below B w w'
 drawn:w.drawn<=w'.drawn
theorem Bw.refl (B:Nat)(w:World):Bw B w w:=⟨Below.refl B w,Nat.le_refl _⟩
theorem Bw.trans {B:Nat}{a b c:World}(h:Bw B a b)(k:Bw B b c):Bw B a c:=⟨h.below.trans k.below,Nat.le_trans h.drawn k.drawn⟩
theorem Bw.setCells {B b:Nat}(hb:B<=b)(o:Nat)(vs:List Value)(w:World):Bw B w (w.setCells b o vs):=by
 obtain ⟨r1,r2,r3⟩:=a6Z b vs o w
 exact ⟨⟨r1,r2,r3,Nat.le_of_eq (a7q b vs o w).symm,fun k hk=>a2h b vs o w k (by omega)⟩,Nat.le_of_eq (a5T b vs o w).symm⟩
section
variable {P:Program}{ops:Array Oper}{Q:Exit->Act->World->Prop}{n:Nat}{F:Fr}{rest:List Oper}{d:Option Nat}{ty:TypeId}{pos:String}{aft:Array Edge}{w:World}
theorem c2Z {T T':TypeId}{x y:Operand}{b:Nat}{cs:List Value}(hb:w.heap[b]?=some (.cells cs.toArray T' (0,0)))(o:Nat)(v:Value)(hx:ev F x=.pointer (some ⟨b,o,none⟩))(hy:ev F y=v)
 (hkx:Z3 n x=true) (hky:Z3 n y=true) (hv:v.cells.toList=[v]) (hT:(P.info? T).map (·.size)=some 1) (h1:v.oneCell'=true) (hl:o<cs.length)
 (h:wpList P ops Q rest (fr n (Y9 F d undef)) (w.setCells b o [v])) :
 wpList P ops Q (⟨d,.store T x y,ty,pos,aft,none⟩::rest) (fr n F) w:=by
 have hsz:v.cells.size=1:=by rw [<- Array.length_toList,hv]; rfl
 refine b0Z rfl (w.setCells b o [v]) ?_ h
 show Sem.run P (do Instr.storeAt T ((fr n F).eval x) ((fr n F).eval y); pure Next.skip) w=_
 rw [j5 hkx,j5 hky,hx,hy]
 have hst:=run_storeCells_cells (P:=P) b o [v] 0 w (fun j hj=>by
  have hj0:j=0:=by simp at hj; omega
  subst hj0
  simp only [World.cell?,hb,Nat.add_zero]
  simp [List.getElem?_eq_getElem hl]) (fun j hj=>by simp [World.frozen?,hb]) (fun u hu=>by simp at hu; subst hu; exact h1)
 simp only [Nat.add_zero] at hst
 simp only [Instr.storeAt,Instr.sureAddr,storeVar,Sem.run_bind,Sem.run_pure,Result.andThen_ok,Go.Sx.run_sizeOf hT,hsz,ne_eq,not_true_eq_false,if_false,hv,hst]
theorem b8U {f:FuncId}{fn:Func}{c:Code}{vs:List Value}{R:Ending->World->Prop}(nt:Nat)(hf:P.funcs[f]?=some fn)(hb:fn.body=some c)(hn:fn.ntmps=nt)(hle:Nat.ble vs.length nt=true)
 (h:c.wp P (bodyPost P fn R) (fr nt (a1R vs)) w):Calls P f vs.toArray w R:=by
 refine calls_of_wp hf hb ?_
 have hle':=Nat.le_of_ble_eq_true hle
 have e:(⟨vs.toArray++Array.replicate (fn.ntmps-vs.toArray.size) undef,[]⟩:Act)=fr nt (a1R vs):=by
  rw [hn]
  simp only [fr]
  congr 1
  apply Array.ext
  ·simp; omega
  ·intro i h1 h2
   simp only [Array.getElem_ofFn,a1R,Array.getElem_append]
   split
   ·rename_i hi; simp at hi; simp [List.getD,List.getElem?_eq_getElem hi]
   ·rename_i hi; simp at hi; simp [List.getD,List.getElem?_eq_none hi]
 rw [e]
 exact h
theorem c5C {fn:Func}{R:Ending->World->Prop}{t:Nat}(v:Value)(hr:fn.results=#[.tmp t])(ht:Nat.blt t n=true)(hv:F t=v)(h:R (.returned v) w):bodyPost P fn R .ret (fr n F) w :=
 ⟨rfl,v,by
  have e1:=b1W (P:=P) (w:=w) (r:=.tmp t) (v:=v) ⟨ht,hv⟩
  rw [b1M,hr]
  simp only [List.mapM_toArray,List.mapM_cons,List.mapM_nil,Sem.run_bind,Sem.run_map,e1,Result.andThen_ok,Sem.run_pure]
  rfl,h⟩
theorem c39 {f:FuncId}{xs:List Operand}{ats:Array TypeId}(vs:List Value){R:Ending->World->Prop}(hvs:xs.map (ev F)=vs)(hk:xs.all (Z3 n)=true)(hb:a2S P f)(hc:Calls P f vs.toArray w R)
 (hR:∀ e w',R e w'->∃ v,e=.returned v/\wpList P ops Q rest (fr n (Y9 F d v)) w') :
 wpList P ops Q (⟨d,.call ⟨.value (.func f),xs.toArray,ats⟩,ty,pos,aft,none⟩::rest) (fr n F) w:=by
 subst hvs
 refine a6r (σ:=⟨w,fun _=>(0,0)⟩) (E:=fun _=>True) (R:=fun v τ=>wpList P ops Q rest (fr n (Y9 F d v)) τ.w) rfl (.inl ⟨hb,hc.mono fun e w' h=>?_⟩) (b8F hk w) (fun v τ _ h=>h)
 obtain ⟨v,e1,h2⟩:=hR e w' h
 exact ⟨v,⟨w',fun _=>(0,0)⟩,e1,rfl,trivial,h2⟩
end
end Go.Qx
end
section
namespace Go.Qx
open Go Go.RowKit Go.Sx
set_option maxHeartbeats 1600000
set_option maxRecDepth 100000
section
variable {P:Program}{ops:Array Oper}{Q:Exit->Act->World->Prop}{n:Nat}{F:Fr}{rest:List Oper}{d:Option Nat}{ty:TypeId}{pos:String}{aft:Array Edge}{w:World}
theorem b4U {T:TypeId}{z:Value}{cs:List Value}{sz by_:Nat}(hT:Y0 P T z sz by_)(hc:z.cells.toList=cs)
 (h:wpList P ops Q rest (fr n (Y9 F d (.pointer (some ⟨w.heap.size,0,none⟩)))) (w.alloc (.cells cs.toArray T))) :
 wpList P ops Q (⟨d,.alloc T,ty,pos,aft,none⟩::rest) (fr n F) w:=by
 refine Q0 rfl (.pointer (some ⟨w.heap.size,0,none⟩)) (w.alloc (.cells cs.toArray T)) ?_ h
 obtain ⟨i,h1,h2,_,_⟩:=hT
 have hcc:z.cells=cs.toArray:=by rw [<- hc]
 simp [execOp,Instr.alloc,zeroValue,typeInfo,h1,h2,newVar,newRow,hcc]
theorem b8P {T T':TypeId}{x y:Operand}{b:Nat}{cs:List Value}(hb:w.heap[b]?=some (.cells cs.toArray T' (0,0)))(v:Value)(vs:List Value)(hx:ev F x=.pointer (some ⟨b,0,none⟩))(hy:ev F y=v)
 (hkx:Z3 n x=true) (hky:Z3 n y=true) (hv:v.cells.toList=vs) (hT:(P.info? T).map (·.size)=some vs.length) (h1:∀ u∈vs,u.oneCell'=true) (hl:vs.length=cs.length)
 (h:∀ w',w'.heap[b]?=some (.cells vs.toArray T' (0,0))->(∀ B,B<=b->Bw B w w')->wpList P ops Q rest (fr n (Y9 F d undef)) w') :
 wpList P ops Q (⟨d,.store T x y,ty,pos,aft,none⟩::rest) (fr n F) w:=by
 have hsz:v.cells.size=vs.length:=by rw [<- hv]; simp
 have hh:=a2N b T' vs 0 w cs hb (by omega)
 have e:cs.take 0++vs++cs.drop (0+vs.length)=vs:=by
  rw [Nat.zero_add,hl,List.drop_length]; simp
 rw [e] at hh
 refine b0Z rfl (w.setCells b 0 vs) ?_ (h _ hh fun B hB=>Bw.setCells hB 0 vs w)
 show Sem.run P (do Instr.storeAt T ((fr n F).eval x) ((fr n F).eval y); pure Next.skip) w=_
 rw [j5 hkx,j5 hky,hx,hy]
 have hst:=run_storeCells_cells (P:=P) b 0 vs 0 w (fun j hj=>by
  simp only [World.cell?,hb,Nat.add_zero,Nat.zero_add]
  simp [List.getElem?_eq_getElem (show j<cs.length by omega)]) (fun j hj=>by simp [World.frozen?,hb]) h1
 simp only [Nat.add_zero] at hst
 simp only [Instr.storeAt,Instr.sureAddr,storeVar,Sem.run_bind,Sem.run_pure,Result.andThen_ok,Go.Sx.run_sizeOf hT,hsz,ne_eq,not_true_eq_false,if_false,hv,hst]
theorem b96 {T E:TypeId}{x y:Operand}{m i b:Nat}{kd:IntKind}
 (hx:ev F x=.pointer (some ⟨b,0,none⟩)) (hy:ev F y=.int kd (Int.ofNat i)) (hkx:Z3 n x=true) (hky:Z3 n y=true) (hT:P.underlying T=some (.array m E)) (hE:(P.info? E).map (·.size)=some 1) (hi:i<m)
 (h:wpList P ops Q rest (fr n (Y9 F d (.pointer (some ⟨b,i,none⟩)))) w) :
 wpList P ops Q (⟨d,.indexAddr T x y,ty,pos,aft,none⟩::rest) (fr n F) w:=by
 refine Q0 rfl (.pointer (some ⟨b,i,none⟩)) w ?_ h
 show Sem.run P (do pure (Next.value (<- Instr.indexAt T ((fr n F).eval x) ((fr n F).eval y)))) w=_
 rw [j5 hkx,j5 hky,hx,hy]
 have h0:(0:Int)<=(i:Int)/\(i:Int)<(m:Int):=⟨Int.natCast_nonneg i,by simpa using hi⟩
 simp only [Instr.indexAt,Instr.sureAddr,asIntOf,Sem.run_bind,Sem.run_pure,Result.andThen_ok,run_underlying hT,Addr.add_mid,Int.ofNat_eq_natCast,Int.toNat_natCast,if_pos h0,Sx.run_sizeOf hE,Nat.mul_one,Nat.zero_add]
theorem c6l {fn:Func}{R:Ending->World->Prop}{t b:Nat}{T:TypeId}(v:Value)(hr:fn.results=#[.cell t T])(ht:Nat.blt t n=true)(hv:F t=.pointer (some ⟨b,0,none⟩))(hl:j7 P w (loadVar T ⟨b,0,none⟩) v)(h:R (.returned v) w):bodyPost P fn R .ret (fr n F) w :=
 ⟨rfl,v,by
  have e1:=b1W (P:=P) (w:=w) (r:=.cell t T) (v:=v) ⟨ht,b,hv,hl⟩
  rw [b1M,hr]
  simp only [List.mapM_toArray,List.mapM_cons,List.mapM_nil,Sem.run_bind,Sem.run_map,e1,Result.andThen_ok,Sem.run_pure]
  rfl,h⟩
end
def X7 (i:Nat):List Value:=(List.range 256).map fun j=>if j<i then Value.int .u32 (nB (tb8 j)) else Value.int .u32 0
theorem a0V (i:Nat):(X7 i).length=256:=by simp [X7]
theorem b4m {i j:Nat}(hj:j<256):(X7 i)[j]?=some (if j<i then Value.int .u32 (nB (tb8 j)) else Value.int .u32 0):=by
 simp [X7,hj]
theorem b8x (i:Nat):∀ u∈X7 i,u.oneCell'=true:=by
 intro u hu
 obtain ⟨j,_,rfl⟩:=List.mem_map.1 hu
 split<;>rfl
theorem c2j {i:Nat}(hi:i<256):(X7 i).take i++[Value.int .u32 (nB (tb8 i))]++(X7 i).drop (i+[Value.int .u32 (nB (tb8 i))].length)=X7 (i+1):=by
 apply List.ext_getElem?
 intro j
 have hl:((X7 i).take i).length=i:=by rw [List.length_take,a0V]; omega
 by_cases hj:j<256
 ·rw [b4m hj]
  rcases Nat.lt_trichotomy j i with h | h | h
  ·rw [List.append_assoc,List.getElem?_append_left (by omega),List.getElem?_take_of_lt h,b4m hj,if_pos h,if_pos (by omega)]
  ·subst h
   rw [List.append_assoc,List.getElem?_append_right (by omega),hl,Nat.sub_self,if_pos (by omega)]
   rfl
  ·rw [List.append_assoc,List.getElem?_append_right (by omega),hl,List.getElem?_append_right (by simp; omega),List.getElem?_drop]
   simp only [List.length_cons,List.length_nil,Nat.zero_add]
   rw [show i+1+(j-i-1)=j by omega,b4m hj,if_neg (by omega),if_neg (by omega)]
 ·have e:(X7 (i+1))[j]?=none:=List.getElem?_eq_none (by rw [a0V]; omega)
  rw [e,List.getElem?_eq_none]
  simp only [List.length_append,List.length_take,List.length_drop,a0V,List.length_cons,List.length_nil]
  omega
theorem b3F {w:World}{b:Nat}{cs:List Value}{T:TypeId}(h:w.heap[b]?=some (.cells cs.toArray T (0,0))):w.rangeAt b 0 cs:=fun j v hj=>by
 simp [World.cell?,h,hj]
theorem tz:Y0 Go.Proofs.Tryz.prog 96 (.agg (X7 0).toArray) 256 1024:=Z5 (by kernel_rfl)
theorem c4R:b4d Go.Proofs.Tryz.prog 96 256:=⟨_,Go.Proofs.Tryz.underlying96,rfl,by kernel_rfl⟩
theorem c64:a0D Go.Proofs.Tryz.prog 71:=⟨_,Go.Proofs.Tryz.underlying71,rfl,by kernel_rfl⟩
def c00 (i:Nat):Option (Fl Nat Unit):=some (if i<256 then .next (i+1) else .done ())
def c0E (q:Nat×BitVec 32):Option (Fl (Nat×BitVec 32) (BitVec 32)):=some (if q.1<8 then .next (q.1+1,cst q.2) else .done q.2)
attribute [irreducible] X7
theorem c6W:(4294967295:Int)=nB (BitVec.allOnes 32):=by decide
theorem c0I:y0 c00 257 0=some ():=by kernel_rfl
theorem c0l (r:BitVec 32):y0 c0E 9 (0,r)=some (a2V 8 r):=rfl
theorem c3G:(2197175160:Int)=nB 0x82f63b78#32:=rfl
theorem b53 {i:Nat}(h:i<=2000000):wr .i64 ((i:Int)+1)=((i+1:Nat):Int):=by
 show IntKind.i64.wrap ((i:Int)+1)=_
 rw [IntKind.wrap_i64]
 omega
theorem b7d (r:BitVec 32):((nB (r &&& 1#32)==1)=true->nB (cst r)=a67 .u32 (nB (r >>> 1)) 2197175160)/\((nB (r &&& 1#32)==1)=false->nB (cst r)=nB (r >>> 1)):=by
 rw [c31]
 constructor
 ·intro h
  unfold cst
  rw [h,c3G,c3t]
  rfl
 ·intro h
  rw [b40 h]
theorem c6M {w:World}{i:Nat}(hi:i<256):j7 Go.Proofs.Tryz.prog w (convert 3 71 (.int .i64 (i:Int))) (.int .u32 (nB (BitVec.ofNat 32 i))):=by
 have h:IntKind.u32.wrap (i:Int)=nB (BitVec.ofNat 32 i):=by
  show (i:Int)%4294967296=((BitVec.ofNat 32 i).toNat:Int)
  rw [BitVec.toNat_ofNat]
  omega
 rw [<- h]
 exact b9n (by rw [Go.Proofs.Tryz.underlying3]; rfl) Go.Proofs.Tryz.underlying71
def b7R (σ:S):Nat->Nat×Nat:=fun b=>if b<σ.N then σ.L b else (0,0)
theorem c0r {σ:S}{w:World}(h:Bw σ.N σ.w w):Wext σ ⟨w,b7R σ⟩ :=
 ⟨h.below.size,fun b hb=>by simp [b7R,hb],fun b o v ho hc=>(a0k (h.below.block b (a1M hc)) o).trans hc,h.drawn,fun b o hb hf=>(a0y (h.below.block b hb) o).trans hf⟩
abbrev b6P (b0 b1:Nat)(w0:World)(i:Nat)(F:Fr)(w:World):Prop:=F 0=.pointer (some ⟨b0,0,none⟩)/\F 1=.pointer (some ⟨b1,0,none⟩)/\w.heap[b0]?=some (.cells (X7 0).toArray 96 (0,0))/\w.heap[b1]?=some (.cells (X7 i).toArray 96 (0,0))/\Bw b0 w0 w
theorem c2p (w0:World):Calls Go.Proofs.Tryz.prog 41 ([]:List Value).toArray w0 fun e w'=>e=.returned (.agg (X7 256).toArray)/\Bw w0.heap.size w0 w':=by
 refine b8U 25 Go.Proofs.Tryz.func41 rfl rfl rfl ?_
 refine wp_seq (wp_region_lit ?_)
 refine b4U tz rfl ?_
 refine wpList_nil (K3 (wp_seq (wp_region_lit ?_)))
 refine b4U tz rfl ?_
 have hz:((Value.agg (X7 0).toArray).cells.toList).toArray=(X7 0).toArray:=rfl
 rw [hz]
 generalize hw1:w0.alloc (.cells (X7 0).toArray 96)=w1
 have n1:w1.heap.size=w0.heap.size+1:=by rw [<- hw1]; exact Array.size_push _
 have g1:w1.heap[w0.heap.size]?=some (.cells (X7 0).toArray 96 (0,0)):=by rw [<- hw1]; exact heap_alloc_new w0 _
 have k1:Bw w0.heap.size w0 w1:=by rw [<- hw1]; exact ⟨(Below.refl _ _).alloc (Nat.le_refl _) _,Nat.le_refl _⟩
 generalize hw2:w1.alloc (.cells (X7 0).toArray 96)=w2
 have g2:w2.heap[w0.heap.size]?=some (.cells (X7 0).toArray 96 (0,0)):=by rw [<- hw2,heap_alloc_old _ _ (by omega)]; exact g1
 have g3:w2.heap[w1.heap.size]?=some (.cells (X7 0).toArray 96 (0,0)):=by rw [<- hw2]; exact heap_alloc_new w1 _
 have k2:Bw w0.heap.size w0 w2:=k1.trans (by rw [<- hw2]; exact ⟨(Below.refl _ _).alloc (by omega) _,Nat.le_refl _⟩)
 have hne:w0.heap.size≠w1.heap.size:=by omega
 have hle:w0.heap.size<=w1.heap.size:=by omega
 clear hw2 n1 g1 k1 hw1
 generalize w1.heap.size=b1 at *
 generalize w0.heap.size=b0 at *
 refine wpList_nil (K3 (b4O (fun a w=>∃ F,a=fr 25 F/\b6P b0 b1 w0 256 F w) ?_ ?_))
 ·refine wp_seq (wp_region_lit ?_)
  refine X4 (.int .i64 0) rfl rfl ?_
  refine wpList_nil (K3 (wp_block ?_))
  refine wp_mono (a8g (step:=c00) (fun i a w=>∃ F,a=fr 25 F/\b6P b0 b1 w0 i F w/\F 4=.int .i64 ((i:Nat):Int)/\i<=256) (fun _ e a w=>e=.exit 0/\∃ F,a=fr 25 F/\b6P b0 b1 w0 256 F w) (by rintro _ _ _ ⟨h,_⟩; cases h) ?_ _ 0 () _ _ c0I ⟨_,rfl,⟨rfl,rfl,g2,g3,k2⟩,rfl,Nat.zero_le _⟩) ?_
  ·rintro i fl a w hst ⟨F,rfl,⟨f0,f1,h0,h1,hB⟩,f4,hi⟩
   simp only [c00,Option.some.injEq] at hst
   refine wp_seq (wp_region_lit ?_)
   refine a1S (.int .i64 (i:Int)) (.int .i64 256) (.bool (decide ((i:Int)<256))) f4 rfl rfl rfl b7H ?_
   refine wpList_nil (K3 (wp_seq ?_))
   by_cases hlt:i<256
   ·rw [if_pos hlt] at hst
    subst hst
    refine b2C rfl (decide_eq_true (by omega)) rfl (wp_skip (K3 (wp_seq (wp_block (wp_seq (wp_region_lit ?_))))))
    refine X4 (.int .i64 (i:Int)) f4 rfl ?_
    refine a0W (.int .i64 (i:Int)) rfl rfl ?_
    refine wpList_nil (K3 (wp_seq (wp_region_lit ?_)))
    refine X4 (.int .i64 (i:Int)) rfl rfl ?_
    refine a9A (.int .i64 (i:Int)) (.int .u32 (nB (BitVec.ofNat 32 i))) rfl rfl (c6M hlt) ?_
    refine a0W (.int .u32 (nB (BitVec.ofNat 32 i))) rfl rfl ?_
    refine wpList_nil (K3 (b4O (fun a w'=>∃ F,a=fr 25 F/\b6P b0 b1 w0 i F w'/\F 2=.int .i64 (i:Int)/\F 4=.int .i64 (i:Int)/\F 3=.int .u32 (nB (tb8 i))) ?_ ?_))
    ·refine wp_seq (wp_region_lit ?_)
     refine X4 (.int .i64 0) rfl rfl ?_
     refine wpList_nil (K3 (wp_block ?_))
     refine wp_mono (a8g (step:=c0E) (fun q a w'=>∃ F,a=fr 25 F/\b6P b0 b1 w0 i F w'/\F 2=.int .i64 (i:Int)/\F 4=.int .i64 (i:Int)/\F 3=.int .u32 (nB q.2)/\F 9=.int .i64 ((q.1:Nat):Int)/\q.1<=8) (fun r e a w'=>e=.exit 2/\∃ F,a=fr 25 F/\b6P b0 b1 w0 i F w'/\F 2=.int .i64 (i:Int)/\F 4=.int .i64 (i:Int)/\F 3=.int .u32 (nB r)) (by rintro _ _ _ ⟨h,_⟩; cases h) ?_ _ (0,BitVec.ofNat 32 i) (tb8 i) _ _ (c0l _) ⟨_,rfl,⟨f0,f1,h0,h1,hB⟩,rfl,f4,rfl,rfl,Nat.zero_le _⟩) ?_
     ·rintro ⟨k,r⟩ fl a w' hst ⟨F2,rfl,⟨e0,e1,j0,j1,jB⟩,e2,e4,e3,e9,hk⟩
      simp only [c0E,Option.some.injEq] at hst
      refine wp_seq (wp_region_lit ?_)
      refine a1S (.int .i64 (k:Int)) (.int .i64 8) (.bool (decide ((k:Int)<8))) e9 rfl rfl rfl b7H ?_
      refine wpList_nil (K3 (wp_seq ?_))
      by_cases hlt2:k<8
      ·rw [if_pos hlt2] at hst
       subst hst
       refine b2C rfl (decide_eq_true (by omega)) rfl (wp_skip (K3 (wp_seq (wp_block (wp_seq (wp_region_lit ?_))))))
       refine X4 (.int .u32 (nB r)) e3 rfl ?_
       refine a1S (.int .u32 (nB r)) (.int .u32 1) (.int .u32 (nB (r &&& 1#32))) rfl rfl rfl rfl (by rw [<- c50]; exact c3z) ?_
       refine a1S (.int .u32 (nB (r &&& 1#32))) (.int .u32 1) (.bool (nB (r &&& 1#32)==1)) rfl rfl rfl rfl c3p ?_
       refine wpList_nil (K3 ?_)
       rcases hbit:(nB (r &&& 1#32)==1) with _ | _
       ·refine b0Y (c:=false) rfl rfl rfl (wp_region_lit ?_)
        refine X4 (.int .u32 (nB r)) e3 rfl ?_
        refine a1S (.int .u32 (nB r)) (.int .u64 1) (.int .u32 (nB (cst r))) rfl rfl rfl rfl (by rw [(b7d r).2 hbit]; exact b7N (b3R r 1 (by omega))) ?_
        refine a0W (.int .u32 (nB (cst r))) rfl rfl ?_
        refine wpList_nil (c0K (K3 (wp_region_lit ?_)))
        refine a1S (.int .i64 (k:Int)) (.int .i64 1) (.int .i64 (wr .i64 ((k:Int)+1))) e9 rfl rfl rfl b52 ?_
        refine X4 (.int .i64 (wr .i64 ((k:Int)+1))) rfl rfl ?_
        exact wpList_nil ⟨rfl,_,rfl,⟨e0,e1,j0,j1,jB⟩,e2,e4,rfl,congrArg _ (b53 (by omega)),hlt2⟩
       ·refine b2C (c:=true) rfl rfl rfl (wp_region_lit ?_)
        refine X4 (.int .u32 (nB r)) e3 rfl ?_
        refine a1S (.int .u32 (nB r)) (.int .u64 1) (.int .u32 (nB (r >>> 1))) rfl rfl rfl rfl (b7N (b3R r 1 (by omega))) ?_
        refine a1S (.int .u32 (nB (r >>> 1))) (.int .u32 2197175160) (.int .u32 (nB (cst r))) rfl rfl rfl rfl (by rw [(b7d r).1 hbit]; exact b7G) ?_
        refine a0W (.int .u32 (nB (cst r))) rfl rfl ?_
        refine wpList_nil (c0K (K3 (wp_region_lit ?_)))
        refine a1S (.int .i64 (k:Int)) (.int .i64 1) (.int .i64 (wr .i64 ((k:Int)+1))) e9 rfl rfl rfl b52 ?_
        refine X4 (.int .i64 (wr .i64 ((k:Int)+1))) rfl rfl ?_
        exact wpList_nil ⟨rfl,_,rfl,⟨e0,e1,j0,j1,jB⟩,e2,e4,rfl,congrArg _ (b53 (by omega)),hlt2⟩
      ·rw [if_neg hlt2] at hst
       subst hst
       refine b0Y rfl (decide_eq_false (by omega)) rfl (wp_exit ?_)
       exact b6F ⟨rfl,_,rfl,⟨e0,e1,j0,j1,jB⟩,e2,e4,e3⟩
     ·rintro e a w' ⟨rfl,F2,rfl,hI,e2,e4,e3⟩
      exact c2n ⟨rfl,F2,rfl,hI,e2,e4,e3⟩
    ·rintro a w' ⟨F3,rfl,⟨e0,e1,j0,j1,jB⟩,e2,e4,e3⟩
     refine wp_region_lit ?_
     refine X4 (.int .i64 (i:Int)) e2 rfl ?_
     refine X4 (.int .u32 (nB (tb8 i))) e3 rfl ?_
     refine b96 (i:=i) e1 rfl rfl rfl Go.Proofs.Tryz.underlying96 (by kernel_rfl) hlt ?_
     refine c2Z (cs:=X7 i) j1 i (.int .u32 (nB (tb8 i))) rfl rfl rfl rfl rfl (by kernel_rfl) rfl (by rw [a0V]; exact hlt) ?_
     refine wpList_nil (c0K (K3 (wp_region_lit ?_)))
     refine a1S (.int .i64 (i:Int)) (.int .i64 1) (.int .i64 (wr .i64 ((i:Int)+1))) e4 rfl rfl rfl b52 ?_
     refine X4 (.int .i64 (wr .i64 ((i:Int)+1))) rfl rfl ?_
     refine wpList_nil ⟨rfl,_,rfl,⟨e0,e1,?_,?_,?_⟩,congrArg _ (b53 (by omega)),hlt⟩
     ·rw [a2h _ _ _ _ _ hne]; exact j0
     ·have:=a2N b1 96 [.int .u32 (nB (tb8 i))] i w' (X7 i) j1 (by rw [a0V]; simp; omega)
      rw [c2j hlt] at this
      exact this
     ·exact jB.trans (Bw.setCells hle _ _ _)
   ·rw [if_neg hlt] at hst
    subst hst
    have e:i=256:=by omega
    subst e
    refine b0Y rfl (decide_eq_false (by omega)) rfl (wp_exit ?_)
    exact b6F ⟨rfl,_,rfl,f0,f1,h0,h1,hB⟩
  ·rintro e a w ⟨rfl,F,rfl,hI⟩
   exact c2n ⟨rfl,F,rfl,hI⟩
 ·rintro a w ⟨F,rfl,f0,f1,h0,h1,hB⟩
  refine wp_seq (wp_region_lit ?_)
  refine a6z b1 0 (.agg (X7 256).toArray) f1 rfl (b2F (by rw [a0V]; exact c4R) (b3F h1)) ?_
  refine b8P h0 (.agg (X7 256).toArray) (X7 256) f0 rfl rfl rfl rfl (by rw [a0V]; kernel_rfl) (b8x 256) (by rw [a0V,a0V]) fun w' h2 hB2=>?_
  exact wpList_nil (K3 (wp_ret (c6l (b:=b0) (.agg (X7 256).toArray) rfl rfl f0 (b2F (by rw [a0V]; exact c4R) (b3F h2)) ⟨rfl,hB.trans (hB2 _ (Nat.le_refl _))⟩)))
def b4e (s:ByteArray)(q:Nat×BitVec 32):Option (Fl (Nat×BitVec 32) (BitVec 32)):=some (match s.data.toList[q.1]? with | some b=>.next (q.1+1,a68 q.2 b) | none=>.done q.2)
theorem b6j (s:ByteArray):∀ (m i:Nat) (r:BitVec 32),s.data.toList.length-i=m->i<=s.data.toList.length->y0 (b4e s) (m+1) (i,r)=some (a2W (s.data.toList.drop i) r)
 | 0,i,r,hm,hi=>by
   have e:i=s.data.toList.length:=by omega
   subst e
   rw [List.drop_length]
   simp only [y0,b4e,List.getElem?_eq_none (Nat.le_refl _),a2W,Option.bind]
 | m+1,i,r,hm,hi=>by
   have hlt:i<s.data.toList.length:=by omega
   rw [List.drop_eq_getElem_cons hlt]
   have:=b6j s m (i+1) (a68 r s.data.toList[i]) (by omega) (by omega)
   rw [y0]
   simp only [b4e,List.getElem?_eq_getElem hlt,a2W,Option.bind]
   exact this
theorem hbT:a2S Go.Proofs.Tryz.prog 41:=⟨_,_,Go.Proofs.Tryz.func41,rfl,by kernel_rfl⟩
theorem hbS:a2S Go.Proofs.Tryz.prog 22:=⟨_,_,Go.Proofs.Tryz.func22,rfl,by kernel_rfl⟩
theorem c1E (s:ByteArray)(hs:s.size<=1000000)(w0:World):Calls Go.Proofs.Tryz.prog 22 [Value.string s].toArray w0 fun e w'=>e=.returned (.int .u32 (b63 s))/\Bw w0.heap.size w0 w':=by
 refine b8U 26 Go.Proofs.Tryz.func22 rfl rfl rfl ?_
 refine wp_seq (wp_region_lit ?_)
 refine a0W (.int .u32 0) rfl rfl ?_
 refine wpList_nil (K3 (wp_seq (wp_region_lit ?_)))
 refine c39 [] rfl rfl hbT (c2p w0) ?_
 rintro e w1 ⟨rfl,hB1⟩
 refine ⟨_,rfl,?_⟩
 refine b4U tz rfl ?_
 have hz:((Value.agg (X7 0).toArray).cells.toList).toArray=(X7 0).toArray:=rfl
 rw [hz]
 generalize hw2:w1.alloc (.cells (X7 0).toArray 96)=w2
 have g2:w2.heap[w1.heap.size]?=some (.cells (X7 0).toArray 96 (0,0)):=by rw [<- hw2]; exact heap_alloc_new w1 _
 have hle:w0.heap.size<=w1.heap.size:=hB1.below.size
 have k2:Bw w0.heap.size w0 w2:=hB1.trans (by rw [<- hw2]; exact ⟨(Below.refl _ _).alloc hle _,Nat.le_refl _⟩)
 clear hw2
 generalize w1.heap.size=b at *
 refine b8P g2 (.agg (X7 256).toArray) (X7 256) rfl rfl rfl rfl rfl (by rw [a0V]; kernel_rfl) (b8x _) (by rw [a0V,a0V]) fun w3 h3 hB3=>?_
 refine wpList_nil (K3 (wp_seq (wp_region_lit ?_)))
 refine a0W (.int .u32 4294967295) rfl rfl ?_
 refine wpList_nil (K3 (b4O (fun a w=>∃ F,a=fr 26 F/\F 4=.int .u32 (nB (a2W s.data.toList (BitVec.allOnes 32)))/\w=w3) ?_ ?_))
 ·refine wp_seq (wp_region_lit ?_)
  refine X4 (.string s) rfl rfl ?_
  refine b89 s rfl rfl Go.Proofs.Tryz.underlying9 ?_
  refine X4 (.int .i64 0) rfl rfl ?_
  refine wpList_nil (K3 (wp_block ?_))
  refine wp_mono (a8g (step:=b4e s) (fun q a w=>∃ F,a=fr 26 F/\F 0=.string s/\F 3=.pointer (some ⟨b,0,none⟩)/\F 4=.int .u32 (nB q.2)/\F 8=.int .i64 (s.size:Int)/\F 9=.int .i64 ((q.1:Nat):Int)/\q.1<=s.size/\w=w3) (fun r e a w=>e=.exit 0/\∃ F,a=fr 26 F/\F 4=.int .u32 (nB r)/\w=w3) (by rintro _ _ _ ⟨h,_⟩; cases h) ?_ _ (0,BitVec.allOnes 32) _ _ _ (b6j s _ 0 _ rfl (Nat.zero_le _)) ⟨_,rfl,rfl,rfl,congrArg _ c6W,rfl,rfl,Nat.zero_le _,rfl⟩) ?_
  ·rintro ⟨i,r⟩ fl a w hst ⟨F,rfl,f0,f3,f4,f8,f9,hi,rfl⟩
   have hsz:s.data.toList.length=s.size:=Array.length_toList
   refine wp_seq (wp_region_lit ?_)
   refine a1S (.int .i64 (i:Int)) (.int .i64 (s.size:Int)) (.bool (decide ((i:Int)<(s.size:Int)))) f9 f8 rfl rfl b7H ?_
   refine wpList_nil (K3 (wp_seq ?_))
   rcases hx:s.data.toList[i]? with _ | c
   ·simp only [b4e,hx,Option.some.injEq] at hst
    subst hst
    have hge:s.data.toList.length<=i:=List.getElem?_eq_none_iff.1 hx
    refine b0Y rfl (decide_eq_false (by omega)) rfl (wp_exit ?_)
    exact b6F ⟨rfl,_,rfl,f4,rfl⟩
   ·simp only [b4e,hx,Option.some.injEq] at hst
    subst hst
    have hlt:i<s.data.toList.length:=(List.getElem?_eq_some_iff.1 hx).1
    have hsi:a0M s (i:Int)=some c:=by
     unfold a0M
     rw [if_pos (Int.natCast_nonneg i),Int.toNat_natCast,<- hx,Array.getElem?_toList]
     rfl
    refine b2C rfl (decide_eq_true (by omega)) rfl (wp_skip (K3 (wp_seq (wp_block (wp_seq (wp_region_lit ?_))))))
    refine X4 (.int .i64 (i:Int)) f9 rfl ?_
    refine a0W (.int .i64 (i:Int)) rfl rfl ?_
    refine wpList_nil (K3 (wp_region_lit ?_))
    refine X4 (.int .u32 (nB r)) f4 rfl ?_
    refine a1S (.int .u32 (nB r)) (.int .u64 8) (.int .u32 (nB (r >>> 8))) rfl rfl rfl rfl (b7N (b3R r 8 (by omega))) ?_
    refine X4 (.int .u32 (nB r)) f4 rfl ?_
    refine a9A (.int .u32 (nB r)) (.int .u8 (wr .u8 (nB r))) rfl rfl (b9n (by rw [Go.Proofs.Tryz.underlying71]; rfl) Go.Proofs.Tryz.underlying5) ?_
    refine X4 (.string s) f0 rfl ?_
    refine X4 (.int .i64 (i:Int)) rfl rfl ?_
    refine b62 (.string s) (.int .i64 (i:Int)) (.int .u8 (c.toNat:Int)) rfl rfl rfl rfl (c1i Go.Proofs.Tryz.underlying9 hsi) ?_
    refine a1S (.int .u8 (wr .u8 (nB r))) (.int .u8 (c.toNat:Int)) (.int .u8 (Int.ofNat (ix8 r c))) rfl rfl rfl rfl (by rw [<- c7a]; exact b7G) ?_
    refine b96 (i:=ix8 r c) f3 rfl rfl rfl Go.Proofs.Tryz.underlying96 (by kernel_rfl) (b29 r c) ?_
    refine a6z b (ix8 r c) (.int .u32 (nB (tb8 (ix8 r c)))) rfl rfl (b3b c64 ?_) ?_
    ·have:=b3F h3 (ix8 r c) _ (b4m (b29 r c))
     rw [if_pos (b29 r c),Nat.zero_add] at this
     exact this
    refine a1S (.int .u32 (nB (r >>> 8))) (.int .u32 (nB (tb8 (ix8 r c)))) (.int .u32 (nB (a68 r c))) rfl rfl rfl rfl (by rw [c2i,<- c3t]; exact b7G) ?_
    refine a0W (.int .u32 (nB (a68 r c))) rfl rfl ?_
    refine wpList_nil (c0K (K3 (wp_region_lit ?_)))
    refine a1S (.int .i64 (i:Int)) (.int .i64 1) (.int .i64 (wr .i64 ((i:Int)+1))) f9 rfl rfl rfl b52 ?_
    refine X4 (.int .i64 (wr .i64 ((i:Int)+1))) rfl rfl ?_
    exact wpList_nil ⟨rfl,_,rfl,f0,f3,rfl,f8,congrArg _ (b53 (by omega)),by omega,rfl⟩
  ·rintro e a w ⟨rfl,F,rfl,f4,rfl⟩
   exact c2n ⟨rfl,F,rfl,f4,rfl⟩
 ·rintro a w ⟨F,rfl,f4,rfl⟩
  refine wp_seq (wp_region_lit ?_)
  refine X4 (.int .u32 (nB (a2W s.data.toList (BitVec.allOnes 32)))) f4 rfl ?_
  refine c0Y (.int .u32 (nB (a2W s.data.toList (BitVec.allOnes 32)))) (.int .u32 (b63 s)) rfl rfl (by unfold b63; rw [<- c6e]; exact c3k) ?_
  refine a0W (.int .u32 (b63 s)) rfl rfl ?_
  exact wpList_nil (K3 (wp_ret (c5C (.int .u32 (b63 s)) rfl rfl rfl ⟨rfl,k2.trans (hB3 _ hle)⟩)))
theorem c4J:y4 Go.Proofs.Tryz.prog (⟨22,[.d .str],[.k (.d (.int .u32))],b2Q⟩:Row I):=by
 intro σ a vs pls res hA hnd happ
 obtain ⟨v1,vs1,p1,q1,e1,e2,⟨e3,e4⟩,e5,e6⟩:=hA
 obtain ⟨s,u⟩:=a
 subst e1 e2 e4 e5 e6
 have e3:v1=.string s:=e3
 subst e3
 have happ:b2Q s=some res:=happ
 unfold b2Q at happ
 obtain ⟨hle,happ⟩:=y1 happ
 cases happ
 refine .inl ⟨hbS,(c1E s (Nat.le_of_ble_eq_true hle) σ.w).mono fun e w' ⟨e1,hB⟩=>⟨_,⟨w',b7R σ⟩,e1,rfl,?_,?_⟩⟩
 ·exact ⟨c0r hB,hB.below.os,hB.below.tape,hB.below.output,fun k hk _=>⟨hB.below.block k hk,by simp [b7R,hk]⟩⟩
 ·exact ⟨[_],[],[],rfl,rfl,⟨_,rfl,⟨rfl,rfl⟩⟩,rfl,List.nodup_nil,fun g hg=>by cases hg⟩
end Go.Qx
end
section
namespace Go.Qx
open Go Go.RowKit Go.Sx
section
variable {I:TypeId->Type} [∀ E,Rp (I E)] {P:Program}{tb:Tab I}{X X':Cxt}{c c':Cx}{σ τ:S}{s:St I}{n:Nat}{F:Fr}
def b0P:PV I->Bool
 | .int _ _=>true
 | .bool _=>true
 | .str _=>true
 | .nl _=>true
 | _=>false
theorem b7p:∀ {ls:List (PV I)} {cs:List Value},ls.all b0P=true->RG X c σ ls cs->RG X' c' σ ls cs
 | [],_,_,h=>by simp only [RG] at h ⊢; exact h
 | p::ls,cs,hp,h=>by
   simp only [List.all_cons,Bool.and_eq_true] at hp
   simp only [RG] at h ⊢
   obtain ⟨a,r,e,h1,h2⟩:=h
   refine ⟨a,r,e,?_,b7p hp.2 h2⟩
   rcases h1 with h1 | ⟨h1,v,e2,h3⟩
   ·exact .inl h1
   ·refine .inr ⟨h1,v,e2,?_⟩
    revert h3
    cases p<;>first | (intro h3; simp only [RV] at h3 ⊢; exact h3) | exact absurd hp.1 (by simp [b0P])
def c1u (tb:Tab I)(TS TM:TypeId)(rl:List ResultVar):Ex->St I->Option (I TS×List (PV I)):=fun e s=>match e with
 | .exit _=>none
 | _=>match a8k tb s rl with
   | some [.ptr l2 0]=>match s.O l2 with
     | some (some (.var T2 (.ptr l1 0::r) true))=>match s.O l1 with
       | some (some (.var T1 ls true))=>bif Nat.beq T1 TS&&Nat.beq T2 TM&&!(Nat.beq l1 l2)&&r.all b0P then Option.bind (ofG tb TS ls) fun d=>some (d,r) else none
       | _=>none
     | _=>none
   | _=>none
def c2q (E:TypeId)(nt:Nat)(xs:List (I E)):St I:=⟨nt,fun i=>bif Nat.beq i 0 then some (.sl E xs false) else none,fun _=>none,0⟩
def b1E (tb:Tab I)(E TS TM:TypeId)(m:Nat)(_:X3 I)(ρ:Type)(_:Obs I)(nb:Nat)(ps:List (PV I))(k:Ef I->Option ρ):Option ρ:=match ps with
 | [.sl E' xs _]=>Option.bind (a0r E E' xs) fun ys=>Option.bind (ofG tb TS [.sl E (ys.take m) false,.int .i64 0]) fun d=>Option.bind (tb.zero TM) fun zs =>
    k ⟨.ptr (nb+1) 0,[],[.var TS [.dat TS d] true,.var TM (.ptr nb 0::zs.drop 1) true]⟩
 | _=>none
theorem c4l (ht:TabOk P tb)(hmx:P.follows .mixedOrders=true){f:FuncId}{fn:Func}{E TS TM:TypeId}{m nt:Nat}{cd:Code}{rl:List ResultVar}{H:Hints I}{q:Nat}
 (hf : P.funcs[f]? = some fn) (hb : ∃ (i0 : Nat) (t0 : TypeId) (p0 : String), fn.body = some (.seq (.region i0 #[⟨some q, .assign (.const (.pointer none)), t0, p0, #[], none⟩] false) cd)) (hq : q ≠ 0) (hname : (fn.name == "runtime.NumGoroutine") = false) (hn : fn.ntmps = nt) (hres : fn.results.toList = rl) (hle : Nat.ble 1 nt = true) (hcode : a05 H cd 1 = true)
 (hex:∀ (xs:List (I E)) (d:I TS) (zs:List (PV I)),ofG tb TS [.sl E (xs.take m) false,.int .i64 0]=some d->tb.zero TM=some zs->a4d tb noD H cd 1 (I TS×List (PV I)) (c2q E nt xs) (c1u tb TS TM rl)=some (d,zs.drop 1)) :
 EntOk P (⟨f,b1E tb E TS TM m⟩:Ans I):=by
 obtain ⟨i0,t0,p0,hb⟩:=hb
 refine ⟨fun disp ρ O nb ps k=>?_,fun disp hd O nb ps ef he=>?_⟩
 ·show b1E tb E TS TM m disp ρ O nb ps k=(b1E tb E TS TM m disp (Ef I) O nb ps some).bind k
  unfold b1E
  split
  ·simp only [Option.bind_assoc,Option.bind_some]
  ·rfl
 ·intro X c σ s n F vs hX hO h hvs hfree
  have he':b1E tb E TS TM m disp (Ef I) O nb ps some=some ef:=he
  unfold b1E at he'
  split at he'
  ·rename_i E' xs full
   obtain ⟨ys,hys,he'⟩:=bind_some he'
   obtain ⟨d,hd',he'⟩:=bind_some he'
   obtain ⟨zs,hzs,he'⟩:=bind_some he'
   cases he'
   unfold a0r at hys
   split at hys
   ·rename_i hE
    subst hE
    cases hys
    simp only [RVs] at hvs
    obtain ⟨v,r,rfl,hv,hr⟩:=hvs
    subst hr
    let X0:Cxt:=⟨P,σ.N,fun _=>False⟩
    have hexec:=hex xs d zs hd' hzs
    have hini:Rel X0 (fun _=>none) σ (c2q E' nt xs) nt (Y9 (a1R [v]) (some q) (.pointer none)):=by
     refine ⟨rfl,fun i p hp=>?_,(fun _ _ h=>by cases h),(fun _ _ _ _ _ ⟨_,h⟩=>by cases h),(fun _ _ _ ⟨_,h⟩=>by cases h),fun _ _=>rfl,Nat.le_refl _,noN.nests fun _ _ _ _ _ _ h=>by cases h⟩
     have hp':(bif Nat.beq i 0 then some (PV.sl E' xs false) else none)=some p:=hp
     obtain ⟨hi,hp'⟩:=y1 hp'
     cases hp'
     have:=Nat.eq_of_beq_eq_true hi
     subst this
     simp only [RV] at hv
     obtain ⟨A,k,e,hs,_⟩:=hv
     have:Y9 (a1R [v]) (some q) (.pointer none) 0=v:=by
      have hb0:Nat.beq 0 q=false:=by
       cases hb0:Nat.beq 0 q with
       | false=>rfl
       | true=>exact absurd (Nat.eq_of_beq_eq_true hb0).symm hq
      simp [Y9,upd,hb0,a1R,List.getD]
     rw [this]
     simp only [RV]
     exact ⟨A,k,e,hs,fun e=>by cases e⟩
    refine .inl ⟨⟨fn,_,hf,hb,hname⟩,calls_of_wp hf hb ?_⟩
    have hle':=Nat.le_of_ble_eq_true hle
    have e:(⟨[v].toArray++Array.replicate (fn.ntmps - [v].toArray.size) undef,[]⟩:Act)=fr nt (a1R [v]):=by
     rw [hn]
     simp only [fr]
     congr 1
     apply Array.ext
     ·simp; omega
     ·intro i h1 h2
      simp only [Array.getElem_ofFn,a1R,Array.getElem_append]
      split
      ·rename_i hi; simp at hi; simp [List.getD,hi]
      ·rename_i hi; simp at hi; simp [List.getD,List.getElem?_eq_none (l:=[v]) (show [v].length<=i by simp; omega)]
    rw [e]
    refine wp_seq (wp_region_lit ?_)
    refine a0W (.pointer none) rfl rfl ?_
    refine wpList_nil (K3 ?_)
    refine a1p ht c1D hmx cd 1 hcode _ _ _ _ X0 _ σ _ _ rfl hexec hini fun ex s' c2 τ F' hfin hle2 hr st _=>?_
    have key:(∃ l1 l2 T1 T2 r ls,a8k tb s' rl=some [.ptr l2 0]/\s'.O l2=some (some (.var T2 (.ptr l1 0::r) true))/\s'.O l1=some (some (.var T1 ls true))/\(Nat.beq T1 TS&&Nat.beq T2 TM&&!(Nat.beq l1 l2)&&r.all b0P)=true/\ofG tb TS ls=some d/\r=zs.drop 1) ->
     ∃ v,(results fn (fr nt F').tmps).run P τ.w=.ok v τ.w/\∃ v' τ',Ending.returned v=.returned v'/\τ'.w=τ.w/\Stp X.M σ τ'/\∃ c',Cx.le c c'/\Rel X c' τ' (apE s nb ⟨.ptr (nb+1) 0,[],[.var TS [.dat TS d] true,.var TM (.ptr nb 0::zs.drop 1) true]⟩) n F/\RV X c' τ' (.ptr (nb+1) 0:PV I) v':=by
     rintro ⟨l1,l2,T1,T2,r,ls,g1,g2,g3,g4,g5,rfl⟩
     simp only [Bool.and_eq_true] at g4
     obtain ⟨⟨⟨t1,t2⟩,t3⟩,t4⟩:=g4
     have t1:=Nat.eq_of_beq_eq_true t1
     have t2:=Nat.eq_of_beq_eq_true t2
     subst t1
     subst t2
     have hne:l1≠l2:=fun e=>by subst e; simp at t3
     obtain ⟨ws,w1,w2⟩:=b4n ht hr g1
     simp only [RVs] at w1
     obtain ⟨v2,r2,rfl,hv2,hr2⟩:=w1
     subst hr2
     simp only [RV] at hv2
     obtain ⟨b2,w2',cc2,rfl⟩:=hv2
     obtain ⟨b2',cs2,k1,k2,k3,k4,_⟩:=hr.objs l2 _ g2
     rw [k1] at cc2
     cases cc2
     obtain ⟨b1,cs1,m1,m2,m3,m4,_⟩:=hr.objs l1 _ g3
     have hb1:σ.N<=b1:=(hr.mine l1 _ b1 ⟨_,g3⟩ m1 rfl).elim id False.elim
     have hb2:σ.N<=b2:=(hr.mine l2 _ b2 ⟨_,g2⟩ k1 rfl).elim id False.elim
     have hbne:b1≠b2:=fun e=>by
      subst e
      exact hne (hr.inj l1 l2 _ _ b1 ⟨_,g3⟩ ⟨_,g2⟩ m1 k1 rfl rfl)
     have stN:Stp NoB σ τ:=st.mono fun b hb hM=>hM.elim (fun (hM:σ.N<=b)=>by omega) id
     have h1:=h.step stN
     have hcd:Rp.cells τ d cs1:=b3B ht g5 m2
     simp only [a0P,Bool.and_eq_true,Option.isNone_iff_eq_none] at hfree
     obtain ⟨f1,f2,_⟩:=hfree
     have f1:s.O nb=none:=f1
     have f2:s.O (nb+1)=none:=f2
     have hle1:Cx.le c (K0 c nb ⟨some ⟨b1,0,none⟩,0,0,some b1⟩):=a5E (h.nom nb f1)
     obtain ⟨n1,n2⟩:=h1.add (l:=nb) (o:=.var T1 [.dat T1 d] true) (p:=⟨some ⟨b1,0,none⟩,0,0,some b1⟩) f1 (fun g hg=>by
      cases hg
      refine ⟨.inl (Nat.le_trans h.base hb1),h.freshN stN hb1,fun l' p' ⟨o,ho⟩ hc hw=>?_⟩
      have:=(h.objs l' o ho).lt hc hw
      omega) ⟨b1,cs1,w7 _ _ _,RG.one hcd,m3,fun _=>m4 rfl,fun e=>by cases e⟩
     have f2':(Z2 s nb (some (.var T1 [.dat T1 d] true))).O (nb+1)=none:=by
      show upF s.O nb _ (nb+1)=none
      rw [Y3 (by omega)]; exact f2
     have hcs2:RG X (K0 (K0 c nb ⟨some ⟨b1,0,none⟩,0,0,some b1⟩) (nb+1) ⟨some ⟨b2,0,none⟩,0,0,some b2⟩) τ (.ptr nb 0::zs.drop 1) cs2:=by
      simp only [RG] at k2 ⊢
      obtain ⟨a,r0,e,q1,q2⟩:=k2
      refine ⟨a,r0,e,?_,b7p t4 q2⟩
      rcases q1 with q1 | ⟨_,v,e2,q3⟩
      ·exact absurd q1 (by simp [b2T])
      ·refine .inr ⟨rfl,v,e2,?_⟩
       simp only [RV] at q3 ⊢
       obtain ⟨b',w',q4,q5⟩:=q3
       rw [m1] at q4
       cases q4
       exact ⟨b1,some b1,by simp [K0],q5⟩
     obtain ⟨n3,n4⟩:=n2.add (l:=nb+1) (o:=.var T2 (.ptr nb 0::zs.drop 1) true) (p:=⟨some ⟨b2,0,none⟩,0,0,some b2⟩) f2' (fun g hg=>by
      cases hg
      refine ⟨.inl (Nat.le_trans h.base hb2),notIn.grow (s':=Z2 s nb (some (.var T1 [.dat T1 d] true))) (h.freshN stN hb2) h1 hle1 fun l' E E' u xs q e=>?_,fun l' p' ⟨o,ho⟩ hc hw=>?_⟩
      ·rcases j6 e with ⟨_,e'⟩ | ⟨_,e'⟩
       ·cases e'
       ·exact e'
      ·by_cases el:l'=nb
       ·subst el
        rw [w7] at hc
        cases hc
        cases hw
        exact hbne rfl
       ·have ho':s.O l'=some (some o):=(Y3 el).symm.trans ho
        have hc':c l'=some p':=by simpa [K0,el] using hc
        have:=(h.objs l' o ho').lt hc' hw
        omega) ⟨b2,cs2,w7 _ _ _,hcs2,k3,fun _=>k4 rfl,fun e=>by cases e⟩
     refine ⟨_,b4M (by rw [hres]; exact w2),_,τ,rfl,rfl,stN.no,_,Cx.le_trans n1 n3,n4,?_⟩
     simp only [a7m,RV]
     exact ⟨b2,_,w7 _ _ _,rfl⟩
    have hfin':(match a8k tb s' rl with
     | some [.ptr l2 0]=>match s'.O l2 with
       | some (some (.var T2 (.ptr l1 0::r) true))=>match s'.O l1 with
         | some (some (.var T1 ls true))=>bif Nat.beq T1 TS&&Nat.beq T2 TM&&!(Nat.beq l1 l2)&&r.all b0P then Option.bind (ofG tb TS ls) fun d=>some (d,r) else none
         | _=>none
       | _=>none
     | _=>none)=some (d,zs.drop 1)->∃ l1 l2 T1 T2 r ls,a8k tb s' rl=some [.ptr l2 0]/\s'.O l2=some (some (.var T2 (.ptr l1 0::r) true))/\s'.O l1=some (some (.var T1 ls true))/\(Nat.beq T1 TS&&Nat.beq T2 TM&&!(Nat.beq l1 l2)&&r.all b0P)=true/\ofG tb TS ls=some d/\r=zs.drop 1:=by
     intro hh
     split at hh
     ·rename_i l2 e1
      split at hh
      ·rename_i T2 l1 r e2
       split at hh
       ·rename_i T1 ls e3
        obtain ⟨q1,hh⟩:=y1 hh
        obtain ⟨d0,q2,hh⟩:=bind_some hh
        cases hh
        exact ⟨l1,l2,T1,T2,_,ls,e1,e2,e3,q1,q2,rfl⟩
       ·cases hh
      ·cases hh
     ·cases hh
    cases ex with
    | exit i=>cases hfin
    | normal =>
      obtain ⟨v,h1,v',τ',h2,h3⟩:=key (hfin' hfin)
      exact ⟨rfl,v,h1,v',τ',h2,h3⟩
    | ret =>
      obtain ⟨v,h1,v',τ',h2,h3⟩:=key (hfin' hfin)
      exact ⟨rfl,v,h1,v',τ',h2,h3⟩
   ·cases hys
  ·cases he'
end
end Go.Qx
end
section
namespace Go.Qx
open Go Go.RowKit Go.Sx
set_option maxHeartbeats 1600000
set_option maxRecDepth 100000
abbrev RK (r:Row I):Prop:=y4 Go.Proofs.Tryz.prog r
abbrev RO (r:Rio I):Prop:=b7S Go.Proofs.Tryz.prog r
def mkH (a:List (Nat×List (List Nat)))(b c:List (Nat×List Nat))(j:List (Nat×JH))(l:List (Nat×LH I))(k:List (Nat×KH I))(ns:List (Nat×NH I))(u:List (Nat×Nat)):Hints I :=
 ⟨fun i=>(asc a i).getD [],fun i=>(asc b i).getD [],fun i=>(asc c i).getD [],asc j,asc l,asc k,asc ns,fun i=>(asc u i).getD 0⟩
def Z0:Hints I:=mkH [] [] [] [] [] [] [] []
structure En where
 ans:Ans I
 ok:EntOk Go.Proofs.Tryz.prog ans
def enL:List En->List (Ans I)
 | []=>[]
 | e::r=>e.ans::enL r
theorem a2K:∀ l:List En,c03 Go.Proofs.Tryz.prog (enL l)
 | []=>trivial
 | e::r=>⟨e.ok,a2K r⟩
def eR {r:Row I}(h:RK r):En:=⟨c5y tb r,c3K a1D h⟩
def eO {r:Rio I}(h:RO r):En:=⟨c5j tb r,c4i a1D h⟩
def eS {r:Row I}(T f j:Nat)(is:List Nat)(h:a0l Go.Proofs.Tryz.prog r (a7D T f j is)):En:=⟨c0d tb r (b6w T f j is),b5C a1D h (fun _ _ _ _ _ _ _ _ _ hO h hc hv=>c0m hO h hc hv)⟩
def eM {r:Row I}(f j i:Nat)(h:a0l Go.Proofs.Tryz.prog r (a8N f j i)):En:=⟨c0d tb r (b8R f j i),b5C a1D h (fun _ _ _ _ _ _ _ _ _ _ _ hc hv=>c1h hc hv)⟩
theorem okR {r:Row I}(l:List En){fn:Func}(nt:Nat)(H:Hints I)(rl:List ResultVar)(hf:(Go.Proofs.Tryz.prog).funcs[r.f]?=some fn)
 (h : (fn.body, fn.name == "runtime.NumGoroutine", fn.ntmps, fn.results.toList, Nat.ble r.ps.length nt, a05 H (a4G fn) 1, r.run) = (some (a4G fn), false, nt, rl, true, true, b48 r.ps (c3q tb (b5X (enL l) 3) H (a4G fn) nt r.ps r.rs rl))) : RK r := by
 simp only [Prod.mk.injEq] at h
 obtain ⟨h1,h2,h3,h4,h5,h6,h7⟩:=h
 exact c4I a1D (a1c (a2K l) 3) mixed nt hf h1 h2 h3 h4 h5 h6 h7
def cd2 (fn:Func):Code:=match a4G fn with
 | .seq _ b=>b
 | c=>c
theorem c52 (xs:List (I 3)):cut xs 0 (min (xs.length:Int) 50)=some (xs.take 50):=by
 unfold cut
 rw [if_pos ⟨by omega,by omega,by omega⟩]
 congr 1
 rw [show (0:Int).toNat=0 from rfl,List.drop_zero]
 by_cases h:xs.length<=50
 ·rw [List.take_of_length_le (by omega),List.take_of_length_le h]
 ·congr 1; omega
theorem c4B:(fun xs:List (I 3)=>a4d tb noD Z0 (cd2 Go.Proofs.Tryz.f10) 1 (I 49×List (PV I)) (c2q 3 12 xs) (c1u tb 49 45 [.tmp 2])) =
 fun xs=>Option.bind (cut xs 0 (min (xs.length:Int) 50)) fun ys=>Option.bind (ofG tb 49 [.sl 3 ys false,.int .i64 0]) fun d=>Option.bind (tb.zero 45) fun zs=>some (d,zs.drop 1):=by kernel_rfl
def c5U:En:=⟨⟨10,b1E tb 3 49 45 50⟩,c4l (H:=Z0) (q:=2) (rl:=[.tmp 2]) (nt:=12) (cd:=cd2 Go.Proofs.Tryz.f10) a1D mixed Go.Proofs.Tryz.func10 ⟨_,_,_,rfl⟩ (by decide) (by kernel_rfl) (by kernel_rfl) (by kernel_rfl) (by kernel_rfl) (by kernel_rfl) fun xs d zs h1 h2=>by
 have h:=congrFun c4B xs
 rw [c52,Option.bind_some,h1,Option.bind_some,h2] at h
 exact h⟩
def c3I:Row I:=⟨172,[.d (.str),.d (.str)],[.k (.d (.int .i64))],b79⟩
theorem c4U:y4 Go.Proofs.Tryz.prog c3I:=c5b Go.Proofs.Tryz.func172 (by kernel_rfl) rfl (by kernel_rfl) (by kernel_rfl)
def c4A:Row I:=⟨79,[.d (.sl 3)],[.k (.row 3 false)],a3T 8⟩
theorem c3B:y4 Go.Proofs.Tryz.prog c4A:=b8n a1D mixed Go.Proofs.Tryz.func79 (by kernel_rfl) (by kernel_rfl) (by kernel_rfl) Go.Proofs.Tryz.underlying22 rfl (by kernel_rfl) (fun _=>by kernel_rfl)
def c4m:Row I:=⟨142,[.d (.sl 102)],[.k (.row 102 false)],a3T 40⟩
theorem c5f:y4 Go.Proofs.Tryz.prog c4m:=b8n a1D mixed Go.Proofs.Tryz.func142 (by kernel_rfl) (by kernel_rfl) (by kernel_rfl) Go.Proofs.Tryz.underlying78 rfl (by kernel_rfl) (fun _=>by kernel_rfl)
def c3P:Rio I:=⟨110,9,[],[],b9Z⟩
theorem c4M:b7S Go.Proofs.Tryz.prog c3P:=c1d (I:=I) (E:=9) Go.Proofs.Tryz.lay110 110 (by kernel_rfl) (fun x=>x) Iff.rfl ⟨_,_,Go.Proofs.Tryz.func110,rfl,by kernel_rfl⟩
def c5x:Row I:=⟨22,[.d (.str)],[.k (.d (.int .u32))],b2Q⟩
theorem c3C:y4 Go.Proofs.Tryz.prog c5x:=c4J
def a7Q:Hints I:=mkH [(1,[[],[0],[0,1],[0,1,2],[0,1,2,3],[0,1,2,3,4],[0,1,2,3,4,5],[0,1,2],[0,1,2,7],[0,1,2,7,8],[0,1,2,7,8,9],[0,1,2,7,8,9,10],[0,1,2,3,4,5,6,7,8,9,10,11],[0,1,2,3,4,5,6,7,8,9,10,11,12]]),(3,[[],[0],[0,1],[0,1,2],[],[4],[4,5],[4,5,6],[0,1,2,3,4,5,6,7],[0,1,2,3,4,5,6,7,8],[],[0,1,2,3,4,5,6,7,8,9,10],[0,1,2,3,4,5,6,7,8,9,10,11]])] [] [] [] [] [] [] []
def a6q:Row I:=⟨12,[.var 49 (.k (.d (.dat 49))) true,.d (.int .i64)],[.k (.d (.int .i64))],z8⟩
theorem Q3:RK (a6q) :=
 okR [] 46 a7Q [.tmp 4] Go.Proofs.Tryz.func12 (by kernel_rfl)
def a6M:Hints I:=mkH [(5,[[],[],[],[1,2],[1,2,3],[],[5],[5,6],[5,6,7],[5,6,7,8],[0,1,2,3,4,5,6,7,8,9],[],[0,1,2,3,4,5,6,7,8,9,10,11]]),(9,[[],[0],[],[2],[2,3],[2,3,4],[2,3,4,5],[2,3,4,5,6],[0,1,2,3,4,5,6,7],[0,1,2,3,4,5,6,7,8],[0,1,2,3,4,5,6,7,8,9]])] [] [] [] [(58,⟨1125899906842496,[],[(0,.lvs [.pv 49,.d (.sl 75),.d (.int .i64),.d (.bool),.d (.int .i64)])],[(7,.k (.row 75 false)),(8,.k (.d (.int .i64)))],[((.exit 0),[(7,.k (.row 75 false))])],bnd tb (.slot 2) 1⟩),
 (14922,⟨70364449211392,[],[(9,.lvs [.d (.str),.d (.str),.row 3 false,.d (.int .i64)]),(24,.k (.d (.dat 49)))],[(10,.k (.d (.int .i64)))],[((.exit 2),[])],bnd tb (.slot 10) 2⟩)] [] [] []
def a5l:Row I:=⟨25,[.var 45 (.lvs [.pv 49,.d (.sl 75),.d (.int .i64),.d (.bool),.d (.int .i64)]) true,.d (.str),.d (.int .i64)],[.k (.row 75 false)],a1k⟩
theorem a57:RK (a5l) :=
 okR [eR Q3] 51 a6M [.tmp 6] Go.Proofs.Tryz.func25 (by kernel_rfl)
def a5p:Row I:=⟨13,[.var 45 (.lvs [.pv 49,.d (.sl 75),.d (.int .i64),.d (.bool),.d (.int .i64)]) true,.d (.str),.d (.int .i64)],[.k (.row 75 false)],a0u⟩
theorem a5N:RK (a5p) :=
 okR [eR a57] 11 Z0 [.tmp 6] Go.Proofs.Tryz.func13 (by kernel_rfl)
def b2e:Row I:=⟨97,[.d (.str),.d (.str)],[.k (.d (.int .i64))],a4i⟩
theorem a5z:RK (b2e) :=
 okR [] 11 Z0 [.tmp 4] Go.Proofs.Tryz.func97 (by kernel_rfl)
def a8W:Row I:=⟨70,[.d (.dat 51),.d (.dat 51)],[.k (.d (.bool))],a42⟩
theorem a9w:RK (a8W) :=
 okR [eR a5z] 24 Z0 [.tmp 4] Go.Proofs.Tryz.func70 (by kernel_rfl)
def b0r:Hints I:=mkH [] [] [] [(62669,⟨1006633056,[],[],[(.normal,[(5,.k (.row 51 false)),(6,.k (.d (.bool)))])]⟩)] [(122,⟨34359736688,[],[],[(5,.k (.row 51 false)),(6,.k (.d (.bool))),(11,.k (.d (.int .i64)))],[((.exit 0),[(5,.k (.row 51 false)),(6,.k (.d (.bool)))]),(.ret,[(4,.k (.d (.sl 51)))])],bnd tb (.slot 10) 1⟩)] [] [] []
def a9t:Row I:=⟨42,[.d (.sl 51),.d (.dat 51)],[.k (.d (.sl 51))],a5x⟩
theorem a9M:RK (a9t) :=
 okR [eR a9w] 42 b0r [.tmp 4] Go.Proofs.Tryz.func42 (by kernel_rfl)
def a9r:Hints I:=mkH [] [] [] [] [(58,⟨65320,[],[],[(3,.k (.d (.sl 51))),(8,.k (.d (.int .i64)))],[((.exit 0),[(3,.k (.d (.sl 51)))])],bnd tb (.slot 7) 1⟩)] [] [] []
def a7K:Row I:=⟨23,[.d (.sl 51)],[.k (.d (.sl 51))],a0m⟩
theorem a8J:RK (a7K) :=
 okR [eR a9M] 17 a9r [.tmp 2] Go.Proofs.Tryz.func23 (by kernel_rfl)
def a9y:Row I:=⟨72,[.d (.int .i64)],[.k (.d (.str))],a5t⟩
theorem a96:RK (a9y) :=
 okR [] 7 Z0 [.tmp 2] Go.Proofs.Tryz.func72 (by kernel_rfl)
def a9m:Row I:=⟨126,[.d (.int .u8)],[.k (.d (.bool))],a2T⟩
theorem b0o:RK (a9m) :=
 okR [] 17 Z0 [.tmp 2] Go.Proofs.Tryz.func126 (by kernel_rfl)
def a94:Row I:=⟨127,[.d (.int .u8)],[.k (.d (.bool))],W9⟩
theorem b0F:RK (a94) :=
 okR [] 9 Z0 [.tmp 2] Go.Proofs.Tryz.func127 (by kernel_rfl)
def b2A:Hints I:=mkH [] [] [] [(978976521,⟨34253944624943037145398863266787883273185919104,[],[],[(.normal,[(7,.k (.d (.int .i64)))])]⟩)] [(58,⟨242833611528216133864932738352939863330300854881517440156476551217363035650651062268,[],[],[(4,.k (.row 174 false)),(5,.k (.d (.int .i64)))],[((.exit 0),[(4,.k (.row 174 false))]),(.ret,[(2,.k (.row 174 false)),(3,.k (.d (.bool)))])],bnd tb (.len (.slot 0)) 1⟩),
 (478008,⟨18014397435740288,[],[],[(7,.k (.d (.int .i64)))],[((.exit 3),[(7,.k (.d (.int .i64)))])],bnd tb (.len (.slot 0)) 1⟩),
 (1912056,⟨9901102462643812940843581568,[],[],[(7,.k (.d (.int .i64)))],[((.exit 5),[(7,.k (.d (.int .i64)))])],bnd tb (.len (.slot 0)) 1⟩),
 (7648248,⟨340199290171201906221318119490500690048,[],[],[(7,.k (.d (.int .i64)))],[((.exit 7),[(7,.k (.d (.int .i64)))])],bnd tb (.len (.slot 0)) 1⟩),
 (30593016,⟨182687007768075410693487431098339357195694506112,[],[],[(7,.k (.d (.int .i64)))],[((.exit 9),[(7,.k (.d (.int .i64)))])],bnd tb (.len (.slot 0)) 1⟩)] [] [] []
def b0J:Row I:=⟨98,[.d (.str)],[.k (.row 174 false),.k (.d (.bool))],a7x⟩
theorem b1t:RK (b0J) :=
 okR [eR b0o,eR b0F] 278 b2A [.tmp 2,.tmp 3] Go.Proofs.Tryz.func98 (by kernel_rfl)
def a74:Hints I:=mkH [(1,[[],[0],[0,1],[0,1,2],[],[4],[4,5],[4,5,6],[4,5,6,7],[0,1,2,3,4,5,6,7,8]]),(2,[[],[0],[0,1],[0,1,2],[],[4],[4,5],[4,5,6],[0,1,2,3,4,5,6,7],[0,1,2,3,4,5,6,7,8],[0,1,2,3,4,5,6,7,8,9]])] [] [] [] [] [] [] []
def a6U:Row I:=⟨134,[.var 155 (.lvs [.d (.sl 174),.d (.int .i64),.d (.bool),.d (.bool),.d (.bool),.d (.int .i64),.row 81 true,.d (.int .i64),.d (.sl 9),.d (.sl 3),.d (.sl 4),.d (.sl 9)]) true],[.k (.d (.dat 174))],K1⟩
theorem V7:RK (a6U) :=
 okR [] 24 a74 [.cell 2 174] Go.Proofs.Tryz.func134 (by kernel_rfl)
def a6p:Hints I:=mkH [] [(1,[9,15])] [] [(12,⟨2097120,[],[(0,.lvs [.d (.sl 174),.d (.int .i64),.d (.bool),.d (.bool),.d (.bool),.d (.int .i64),.row 81 true,.d (.int .i64),.d (.sl 9),.d (.sl 3),.d (.sl 4),.d (.sl 9)])],[(.normal,[(20,.k (.d (.bool)))])]⟩),
 (978,⟨316912650057057350356995932172,[],[],[(.normal,[(3,.k (.d (.int .i64)))]),(.ret,[(2,.k (.d (.bool)))])]⟩),
 (62617,⟨65302194596872192,[],[],[(.normal,[(51,.k (.d (.bool)))])]⟩),
 (250477,⟨3746994889972252672,[],[],[(.normal,[(58,.k (.d (.bool)))])]⟩)] [(122,⟨316912650057057350374142246940,[],[],[(3,.k (.d (.int .i64))),(4,.k (.d (.int .i64)))],[((.exit 0),[]),(.ret,[(2,.k (.d (.bool)))])],bnd tb (.len (.ld 149 (.fld 155 0 (.slot 0)))) 1⟩)] [] [] []
def a5h:Row I:=⟨129,[.var 155 (.lvs [.d (.sl 174),.d (.int .i64),.d (.bool),.d (.bool),.d (.bool),.d (.int .i64),.row 81 true,.d (.int .i64),.d (.sl 9),.d (.sl 3),.d (.sl 4),.d (.sl 9)]) true],[.k (.d (.bool))],a2Z⟩
theorem a52:RK (a5h) :=
 okR [eR V7] 98 a6p [.tmp 2] Go.Proofs.Tryz.func129 (by kernel_rfl)
def a61:Row I:=⟨100,[.var 155 (.lvs [.d (.sl 174),.d (.int .i64),.d (.bool),.d (.bool),.d (.bool),.d (.int .i64),.row 81 true,.d (.int .i64),.d (.sl 9),.d (.sl 3),.d (.sl 4),.d (.sl 9)]) true,.d (.int .i64),.d (.str)],[.k (.d (.bool))],Z4⟩
theorem Q7:RK (a61) :=
 okR [eR V7] 33 Z0 [.tmp 6] Go.Proofs.Tryz.func100 (by kernel_rfl)
def a8I:Hints I:=mkH [(1,[[],[],[1],[1,2],[1,2,3],[1,2,3,4],[],[6],[1,2,3,4,5,6,7],[0,1,2,3,4,5,6,7,8],[0,1,2,3,4,5,6,7,8,9],[0,1,2,3,4,5,6,7,8,9,10],[0,1,2,3,4,5,6,7,8,9,10,11]])] [] [] [] [] [] [] []
def a62:Row I:=⟨133,[.var 155 (.lvs [.d (.sl 174),.d (.int .i64),.d (.bool),.d (.bool),.d (.bool),.d (.int .i64),.row 81 true,.d (.int .i64),.d (.sl 9),.d (.sl 3),.d (.sl 4),.d (.sl 9)]) true,.d (.dat 81)],[.k (.d (.int .i64))],y3⟩
theorem Q6:RK (a62) :=
 okR [] 24 a8I [.tmp 4] Go.Proofs.Tryz.func133 (by kernel_rfl)
def a6G:Row I:=⟨131,[.var 155 (.lvs [.d (.sl 174),.d (.int .i64),.d (.bool),.d (.bool),.d (.bool),.d (.int .i64),.row 81 true,.d (.int .i64),.d (.sl 9),.d (.sl 3),.d (.sl 4),.d (.sl 9)]) true,.d (.str)],[],Y4⟩
theorem V8:RK (a6G) :=
 okR [eR Q7] 11 Z0 [] Go.Proofs.Tryz.func131 (by kernel_rfl)
def b0K:Row I:=⟨182,[.d (.int .u8)],[.k (.d (.bool))],a3K⟩
theorem b1D:RK (b0K) :=
 okR [] 9 Z0 [.tmp 2] Go.Proofs.Tryz.func182 (by kernel_rfl)
def b1c:Row I:=⟨166,[.d (.int .u8)],[.k (.d (.bool))],a7w⟩
theorem b2c:RK (b1c) :=
 okR [] 9 Z0 [.tmp 2] Go.Proofs.Tryz.func166 (by kernel_rfl)
def b1G:Hints I:=mkH [] [] [] [] [(58,⟨4398046248972,[],[],[(3,.k (.d (.int .i64)))],[((.exit 0),[]),(.ret,[(2,.k (.d (.bool)))])],bnd tb (.len (.slot 0)) 1⟩)] [] [] []
def a98:Row I:=⟨168,[.d (.str)],[.k (.d (.bool))],a1V⟩
theorem a2j:RK (a98) :=
 okR [eR b1D,eR b2c] 42 b1G [.tmp 2] Go.Proofs.Tryz.func168 (by kernel_rfl)
def a8C:Row I:=⟨170,[.d (.dat 100)],[.k (.d (.bool))],a2D⟩
theorem a3G:RK (a8C) :=
 okR [eR a2j] 22 Z0 [.tmp 2] Go.Proofs.Tryz.func170 (by kernel_rfl)
def b0v:Row I:=⟨184,[.d (.int .i64),.d (.int .i64)],[.k (.d (.int .i64))],a7v⟩
theorem b1F:RK (b0v) :=
 okR [] 11 Z0 [.tmp 4] Go.Proofs.Tryz.func184 (by kernel_rfl)
def a6R:Row I:=⟨171,[.d (.dat 100),.d (.dat 100)],[.k (.d (.int .i64))],a1H⟩
theorem a2H:RK (a6R) :=
 okR [eR b1F,eR a5z] 20 Z0 [.tmp 4] Go.Proofs.Tryz.func171 (by kernel_rfl)
def a6S:Hints I:=mkH [(2,[[],[],[1],[0,1,2],[0,1,2,3],[0,1,2,3,4],[0,1,2,3,4],[0,1,2,3,4,5,6],[0,1,2,3,4,5,6,7],[0,1,2,3,4,5,6,7,8],[0,1,2,3,4],[0,1,2,3,4,10],[0,1,2,3,4,5,6,7,8,9,10,11],[0,1,2,3,4,5,6,7,8,9,10,11,12],[0,1,2,3,4,5,6,7,8,9,10,11,12,13]]),(4,[[],[],[1],[0,1,2],[0,1,2,3],[0,1,2,3,4],[0,1,2,3,4],[0,1,2,3,4,5,6],[0,1,2,3,4,5,6,7],[0,1,2,3,4,5,6,7,8],[0,1,2,3,4],[0,1,2,3,4,10],[0,1,2,3,4,5,6,7,8,9,10,11],[0,1,2,3,4,5,6,7,8,9,10,11,12]]),(7,[[],[],[1],[0,1,2],[],[],[4,5],[0,1,2,3,4,5,6],[0,1,2,3,4,5,6,7]])] [] [] [(61,⟨7696581394432,[],[(0,.lvs [.d (.sl 174),.d (.int .i64),.d (.bool),.d (.bool),.d (.bool),.d (.int .i64),.row 81 true,.d (.int .i64),.d (.sl 9),.d (.sl 3),.d (.sl 4),.d (.sl 9)])],[(.normal,[])]⟩)] [(28,⟨67108480,[],[],[(7,.k (.d (.int .i64)))],[((.exit 0),[(7,.k (.d (.int .i64)))])],bnd tb (.len (.slot 1)) 1⟩)] [] [] []
def a5c:Row I:=⟨230,[.var 155 (.lvs [.d (.sl 174),.d (.int .i64),.d (.bool),.d (.bool),.d (.bool),.d (.int .i64),.row 81 true,.d (.int .i64),.d (.sl 9),.d (.sl 3),.d (.sl 4),.d (.sl 9)]) true,.d (.sl 102),.d (.dat 102)],[.k (.row 102 false)],a21⟩
theorem a5G:RK (a5c) :=
 okR [eR a2H] 55 a6S [.tmp 6] Go.Proofs.Tryz.func230 (by kernel_rfl)
def j8 (n:Nat):Row I:=⟨196,[.var 155 (.lvs [.d (.sl 174),.d (.int .i64),.d (.bool),.d (.bool),.d (.bool),.d (.int .i64),.row 81 true,.d (.int .i64),.d (.sl 9),.d (.sl 3),.d (.sl 4),.d (.sl 9)]) true,.d (.str)],[.k (.d (.int .i64))],a6E n⟩
def a7j (n:Nat):Hints I:=mkH [] [] [] [] [(28,⟨16264,[],[(0,.lvs [.d (.sl 174),.d (.int .i64),.d (.bool),.d (.bool),.d (.bool),.d (.int .i64),.row 81 true,.d (.int .i64),.d (.sl 9),.d (.sl 3),.d (.sl 4),.d (.sl 9)])],[(3,.k (.row 3 false))],[((.exit 0),[(3,.k (.row 3 false))])],fun _=>some n⟩)] [] [] []
def w5 (n:Nat):Row I:=⟨149,[.var 155 (.lvs [.d (.sl 174),.d (.int .i64),.d (.bool),.d (.bool),.d (.bool),.d (.int .i64),.row 81 true,.d (.int .i64),.d (.sl 9),.d (.sl 3),.d (.sl 4),.d (.sl 9)]) true],[.k (.d (.int .i64))],a80 n⟩
def a6c (n:Nat):Hints I:=mkH [(20,[[],[],[1],[0,1,2],[],[0,1,2,3,4]])] [(7,[46])] [] [(8146,⟨11139483563523841539937031148886364170223616,[],[(0,.lvs [.d (.sl 174),.d (.int .i64),.d (.bool),.d (.bool),.d (.bool),.d (.int .i64),.row 81 true,.d (.int .i64),.d (.sl 9),.d (.sl 3),.d (.sl 4),.d (.sl 9)]),(3,.lvs [.d (.int .i64),.d (.int .i64),.d (.int .i64),.d (.str),.row 3 false,.row 102 false,.d (.int .i64),.d (.int .i64)])],[(.normal,[])]⟩),
 (15916,⟨1125891316908032,[],[(0,.lvs [.d (.sl 174),.d (.int .i64),.d (.bool),.d (.bool),.d (.bool),.d (.int .i64),.row 81 true,.d (.int .i64),.d (.sl 9),.d (.sl 3),.d (.sl 4),.d (.sl 9)])],[(.normal,[(49,.k (.d (.bool)))])]⟩),
 (15917,⟨1298074214633706906006724175463300,[],[(0,.lvs [.d (.sl 174),.d (.int .i64),.d (.bool),.d (.bool),.d (.bool),.d (.int .i64),.row 81 true,.d (.int .i64),.d (.sl 9),.d (.sl 3),.d (.sl 4),.d (.sl 9)]),(3,.lvs [.d (.int .i64),.d (.int .i64),.d (.int .i64),.d (.str),.row 3 false,.row 102 false,.d (.int .i64),.d (.int .i64)]),(4,.k (.d (.dat 290)))],[(.normal,[]),(.ret,[(2,.k (.d (.int .i64)))])]⟩),
 (32584,⟨163335536122050462462419811567248741498880,[],[],[(.normal,[(136,.k (.d (.bool)))])]⟩),
 (254677,⟨128,[],[],[(.normal,[(7,.k (.d (.int .i64)))])]⟩),
 (254685,⟨302231454903657293676544,[],[(8,.k (.d (.dat 100)))],[(.normal,[])]⟩),
 (509358,⟨110680464442257309696,[],[(4,.k (.d (.dat 290)))],[(.normal,[])]⟩)] [(124,⟨83076749736557242056487941267489764,[],[(0,.lvs [.d (.sl 174),.d (.int .i64),.d (.bool),.d (.bool),.d (.bool),.d (.int .i64),.row 81 true,.d (.int .i64),.d (.sl 9),.d (.sl 3),.d (.sl 4),.d (.sl 9)]),(3,.lvs [.d (.int .i64),.d (.int .i64),.d (.int .i64),.d (.str),.row 3 false,.row 102 false,.d (.int .i64),.d (.int .i64)]),(4,.k (.d (.dat 290)))],[(5,.k (.d (.bool)))],[((.exit 0),[]),(.ret,[(2,.k (.d (.int .i64)))])],fun _=>some n⟩),
 (1018,⟨11149692034531469693840932387109317216568320,[],[(0,.lvs [.d (.sl 174),.d (.int .i64),.d (.bool),.d (.bool),.d (.bool),.d (.int .i64),.row 81 true,.d (.int .i64),.d (.sl 9),.d (.sl 3),.d (.sl 4),.d (.sl 9)]),(3,.lvs [.d (.int .i64),.d (.int .i64),.d (.int .i64),.d (.str),.row 3 false,.row 102 false,.d (.int .i64),.d (.int .i64)])],[(10,.k (.d (.int .i64)))],[((.exit 2),[])],bnd tb (.cst 2) 1⟩)] [] [] []
def k8 (n:Nat):Row I:=⟨211,[.var 155 (.lvs [.d (.sl 174),.d (.int .i64),.d (.bool),.d (.bool),.d (.bool),.d (.int .i64),.row 81 true,.d (.int .i64),.d (.sl 9),.d (.sl 3),.d (.sl 4),.d (.sl 9)]) true],[.k (.d (.int .i64))],a7h n⟩
def v8 (n:Nat):Row I:=⟨167,[.var 155 (.lvs [.d (.sl 174),.d (.int .i64),.d (.bool),.d (.bool),.d (.bool),.d (.int .i64),.row 81 true,.d (.int .i64),.d (.sl 9),.d (.sl 3),.d (.sl 4),.d (.sl 9)]) true],[.k (.d (.int .i64))],a7T n⟩
def k9 (n:Nat):Row I:=⟨99,[.var 155 (.lvs [.d (.sl 174),.d (.int .i64),.d (.bool),.d (.bool),.d (.bool),.d (.int .i64),.row 81 true,.d (.int .i64),.d (.sl 9),.d (.sl 3),.d (.sl 4),.d (.sl 9)]) true],[.k (.d (.int .i64))],a3F n⟩
def v7 (n:Nat):Row I:=⟨181,[.var 155 (.lvs [.d (.sl 174),.d (.int .i64),.d (.bool),.d (.bool),.d (.bool),.d (.int .i64),.row 81 true,.d (.int .i64),.d (.sl 9),.d (.sl 3),.d (.sl 4),.d (.sl 9)]) true],[.k (.d (.int .i64))],a7I n⟩
def a7e (n:Nat):Hints I:=mkH [] [] [] [] [(60,⟨33553968,[],[(0,.lvs [.d (.sl 174),.d (.int .i64),.d (.bool),.d (.bool),.d (.bool),.d (.int .i64),.row 81 true,.d (.int .i64),.d (.sl 9),.d (.sl 3),.d (.sl 4),.d (.sl 9)])],[(5,.k (.row 3 false))],[((.exit 0),[]),(.ret,[(4,.k (.row 3 false))])],fun _=>some n⟩)] [] [] []
def w4 (n:Nat):Row I:=⟨132,[.var 155 (.lvs [.d (.sl 174),.d (.int .i64),.d (.bool),.d (.bool),.d (.bool),.d (.int .i64),.row 81 true,.d (.int .i64),.d (.sl 9),.d (.sl 3),.d (.sl 4),.d (.sl 9)]) true,.d (.str)],[.k (.row 3 false)],a8l n⟩
def a66 (n:Nat):Hints I:=mkH [] [] [] [] [(28,⟨16264,[],[(0,.lvs [.d (.sl 174),.d (.int .i64),.d (.bool),.d (.bool),.d (.bool),.d (.int .i64),.row 81 true,.d (.int .i64),.d (.sl 9),.d (.sl 3),.d (.sl 4),.d (.sl 9)])],[(3,.k (.row 3 false))],[((.exit 0),[(3,.k (.row 3 false))])],fun _=>some n⟩)] [] [] []
def w6 (n:Nat):Row I:=⟨130,[.var 155 (.lvs [.d (.sl 174),.d (.int .i64),.d (.bool),.d (.bool),.d (.bool),.d (.int .i64),.row 81 true,.d (.int .i64),.d (.sl 9),.d (.sl 3),.d (.sl 4),.d (.sl 9)]) true],[.k (.d (.int .i64))],a8t n⟩
def w8 (n:Nat):Row I:=⟨195,[.var 155 (.lvs [.d (.sl 174),.d (.int .i64),.d (.bool),.d (.bool),.d (.bool),.d (.int .i64),.row 81 true,.d (.int .i64),.d (.sl 9),.d (.sl 3),.d (.sl 4),.d (.sl 9)]) true,.d (.str)],[.k (.d (.int .i64))],a9q n⟩
theorem a4C (n:Nat)(_:y4 Go.Proofs.Tryz.prog (j8 n))(_:y4 Go.Proofs.Tryz.prog (w5 n))(h_semtyperef18_typer_mapping:y4 Go.Proofs.Tryz.prog (k8 n))(_:y4 Go.Proofs.Tryz.prog (v8 n))(h_semtyperef18_typer_read:y4 Go.Proofs.Tryz.prog (k9 n))(_:y4 Go.Proofs.Tryz.prog (v7 n))(h_semtyperef18_typer_types:y4 Go.Proofs.Tryz.prog (w4 n))(_:y4 Go.Proofs.Tryz.prog (w6 n))(_:y4 Go.Proofs.Tryz.prog (w8 n)):RK (j8 (n+1)) :=
 okR [eR V7,eR a2j,eR Q6,eR h_semtyperef18_typer_read,eR V8,eR h_semtyperef18_typer_types,eR Q7,eR h_semtyperef18_typer_mapping] 94 Z0 [.tmp 4] Go.Proofs.Tryz.func196 (by kernel_rfl)
theorem a5D (n:Nat)(_:y4 Go.Proofs.Tryz.prog (j8 n))(_:y4 Go.Proofs.Tryz.prog (w5 n))(_:y4 Go.Proofs.Tryz.prog (k8 n))(h_semtyperef18_typer_prefix:y4 Go.Proofs.Tryz.prog (v8 n))(_:y4 Go.Proofs.Tryz.prog (k9 n))(_:y4 Go.Proofs.Tryz.prog (v7 n))(_:y4 Go.Proofs.Tryz.prog (w4 n))(_:y4 Go.Proofs.Tryz.prog (w6 n))(_:y4 Go.Proofs.Tryz.prog (w8 n)):RK (w5 (n+1)) :=
 okR [eR h_semtyperef18_typer_prefix,eR Q7,eR Q6] 24 (a7j n) [.tmp 2] Go.Proofs.Tryz.func149 (by kernel_rfl)
theorem a4Z (n:Nat)(_:y4 Go.Proofs.Tryz.prog (j8 n))(_:y4 Go.Proofs.Tryz.prog (w5 n))(_:y4 Go.Proofs.Tryz.prog (k8 n))(_:y4 Go.Proofs.Tryz.prog (v8 n))(h_semtyperef18_typer_read:y4 Go.Proofs.Tryz.prog (k9 n))(_:y4 Go.Proofs.Tryz.prog (v7 n))(_:y4 Go.Proofs.Tryz.prog (w4 n))(_:y4 Go.Proofs.Tryz.prog (w6 n))(_:y4 Go.Proofs.Tryz.prog (w8 n)):RK (k8 (n+1)) :=
 okR [eR Q7,eR V7,eR h_semtyperef18_typer_read,eR a3G,eR V8,eR a5G,eR Q6] 146 (a6c n) [.tmp 2] Go.Proofs.Tryz.func211 (by kernel_rfl)
theorem a47 (n:Nat)(_:y4 Go.Proofs.Tryz.prog (j8 n))(_:y4 Go.Proofs.Tryz.prog (w5 n))(_:y4 Go.Proofs.Tryz.prog (k8 n))(h_semtyperef18_typer_prefix:y4 Go.Proofs.Tryz.prog (v8 n))(_:y4 Go.Proofs.Tryz.prog (k9 n))(h_semtyperef18_typer_simple:y4 Go.Proofs.Tryz.prog (v7 n))(_:y4 Go.Proofs.Tryz.prog (w4 n))(_:y4 Go.Proofs.Tryz.prog (w6 n))(_:y4 Go.Proofs.Tryz.prog (w8 n)):RK (v8 (n+1)) :=
 okR [eR Q7,eR h_semtyperef18_typer_prefix,eR Q6,eR h_semtyperef18_typer_simple] 19 Z0 [.tmp 2] Go.Proofs.Tryz.func167 (by kernel_rfl)
theorem a6P (n:Nat)(_:y4 Go.Proofs.Tryz.prog (j8 n))(_:y4 Go.Proofs.Tryz.prog (w5 n))(_:y4 Go.Proofs.Tryz.prog (k8 n))(_:y4 Go.Proofs.Tryz.prog (v8 n))(h_semtyperef18_typer_read:y4 Go.Proofs.Tryz.prog (k9 n))(_:y4 Go.Proofs.Tryz.prog (v7 n))(h_semtyperef18_typer_types:y4 Go.Proofs.Tryz.prog (w4 n))(h_semtyperef18_typer_union:y4 Go.Proofs.Tryz.prog (w6 n))(_:y4 Go.Proofs.Tryz.prog (w8 n)):RK (k9 (n+1)) :=
 okR [eR a52,eR h_semtyperef18_typer_union,eR V8,eR h_semtyperef18_typer_types,eR h_semtyperef18_typer_read,eR Q6] 45 Z0 [.tmp 2] Go.Proofs.Tryz.func99 (by kernel_rfl)
theorem a5i (n:Nat)(h_semtyperef18_typer_compound:y4 Go.Proofs.Tryz.prog (j8 n))(_:y4 Go.Proofs.Tryz.prog (w5 n))(_:y4 Go.Proofs.Tryz.prog (k8 n))(_:y4 Go.Proofs.Tryz.prog (v8 n))(_:y4 Go.Proofs.Tryz.prog (k9 n))(_:y4 Go.Proofs.Tryz.prog (v7 n))(_:y4 Go.Proofs.Tryz.prog (w4 n))(_:y4 Go.Proofs.Tryz.prog (w6 n))(h_semtyperef18_typer_word:y4 Go.Proofs.Tryz.prog (w8 n)):RK (v7 (n+1)) :=
 okR [eR V7,eR Q6,eR h_semtyperef18_typer_word,eR h_semtyperef18_typer_compound] 112 Z0 [.tmp 2] Go.Proofs.Tryz.func181 (by kernel_rfl)
theorem a5C (n:Nat)(_:y4 Go.Proofs.Tryz.prog (j8 n))(_:y4 Go.Proofs.Tryz.prog (w5 n))(_:y4 Go.Proofs.Tryz.prog (k8 n))(_:y4 Go.Proofs.Tryz.prog (v8 n))(h_semtyperef18_typer_read:y4 Go.Proofs.Tryz.prog (k9 n))(_:y4 Go.Proofs.Tryz.prog (v7 n))(_:y4 Go.Proofs.Tryz.prog (w4 n))(_:y4 Go.Proofs.Tryz.prog (w6 n))(_:y4 Go.Proofs.Tryz.prog (w8 n)):RK (w4 (n+1)) :=
 okR [eR Q7,eR h_semtyperef18_typer_read,eR V8] 25 (a7e n) [.tmp 4] Go.Proofs.Tryz.func132 (by kernel_rfl)
theorem a6d (n:Nat)(_:y4 Go.Proofs.Tryz.prog (j8 n))(h_semtyperef18_typer_inter:y4 Go.Proofs.Tryz.prog (w5 n))(_:y4 Go.Proofs.Tryz.prog (k8 n))(_:y4 Go.Proofs.Tryz.prog (v8 n))(_:y4 Go.Proofs.Tryz.prog (k9 n))(_:y4 Go.Proofs.Tryz.prog (v7 n))(_:y4 Go.Proofs.Tryz.prog (w4 n))(_:y4 Go.Proofs.Tryz.prog (w6 n))(_:y4 Go.Proofs.Tryz.prog (w8 n)):RK (w6 (n+1)) :=
 okR [eR h_semtyperef18_typer_inter,eR Q7,eR Q6] 24 (a66 n) [.tmp 2] Go.Proofs.Tryz.func130 (by kernel_rfl)
theorem a6w (n:Nat)(_:y4 Go.Proofs.Tryz.prog (j8 n))(_:y4 Go.Proofs.Tryz.prog (w5 n))(_:y4 Go.Proofs.Tryz.prog (k8 n))(_:y4 Go.Proofs.Tryz.prog (v8 n))(h_semtyperef18_typer_read:y4 Go.Proofs.Tryz.prog (k9 n))(_:y4 Go.Proofs.Tryz.prog (v7 n))(_:y4 Go.Proofs.Tryz.prog (w4 n))(_:y4 Go.Proofs.Tryz.prog (w6 n))(_:y4 Go.Proofs.Tryz.prog (w8 n)):RK (w8 (n+1)) :=
 okR [eR Q6,eR V8,eR h_semtyperef18_typer_read] 94 Z0 [.tmp 4] Go.Proofs.Tryz.func195 (by kernel_rfl)
theorem a1g:∀ n:Nat,y4 Go.Proofs.Tryz.prog (j8 n)/\y4 Go.Proofs.Tryz.prog (w5 n)/\y4 Go.Proofs.Tryz.prog (k8 n)/\y4 Go.Proofs.Tryz.prog (v8 n)/\y4 Go.Proofs.Tryz.prog (k9 n)/\y4 Go.Proofs.Tryz.prog (v7 n)/\y4 Go.Proofs.Tryz.prog (w4 n)/\y4 Go.Proofs.Tryz.prog (w6 n)/\y4 Go.Proofs.Tryz.prog (w8 n)
 | 0=>⟨a0E (by kernel_rfl),a0E (by kernel_rfl),a0E (by kernel_rfl),a0E (by kernel_rfl),a0E (by kernel_rfl),a0E (by kernel_rfl),a0E (by kernel_rfl),a0E (by kernel_rfl),a0E (by kernel_rfl)⟩
 | n+1=>by
   obtain ⟨h0,h1,h2,h3,h4,h5,h6,h7,h8⟩:=a1g n
   exact ⟨a4C n h0 h1 h2 h3 h4 h5 h6 h7 h8,a5D n h0 h1 h2 h3 h4 h5 h6 h7 h8,a4Z n h0 h1 h2 h3 h4 h5 h6 h7 h8,a47 n h0 h1 h2 h3 h4 h5 h6 h7 h8,a6P n h0 h1 h2 h3 h4 h5 h6 h7 h8,a5i n h0 h1 h2 h3 h4 h5 h6 h7 h8,a5C n h0 h1 h2 h3 h4 h5 h6 h7 h8,a6d n h0 h1 h2 h3 h4 h5 h6 h7 h8,a6w n h0 h1 h2 h3 h4 h5 h6 h7 h8⟩
theorem a7n (n:Nat):y4 Go.Proofs.Tryz.prog (k9 n):=(a1g n).2.2.2.2.1
def a5H:Hints I:=mkH [] [] [] [] [(26,⟨268435394,[],[],[(1,.k (.d (.int .i64))),(6,.k (.d (.int .i64)))],[((.exit 0),[(1,.k (.d (.int .i64)))])],bnd tb (.cst 0) 1⟩)] [] [] []
def a4K:Row I:=⟨136,[.var 155 (.lvs [.d (.sl 174),.d (.int .i64),.d (.bool),.d (.bool),.d (.bool),.d (.int .i64),.row 81 true,.d (.int .i64),.d (.sl 9),.d (.sl 3),.d (.sl 4),.d (.sl 9)]) true,.d (.int .i64)],[.k (.d (.int .i64)),.k (.d (.bool))],J0⟩
theorem a49:RK (a4K) :=
 okR [] 31 a5H [.tmp 4,.tmp 5] Go.Proofs.Tryz.func136 (by kernel_rfl)
def b0L:Row I:=⟨150,[.d (.dat 54),.d (.int .i64)],[.k (.d (.bool))],a0J⟩
theorem a44:RK (b0L) :=
 okR [] 14 Z0 [.tmp 4] Go.Proofs.Tryz.func150 (by kernel_rfl)
def b3e:Hints I:=mkH [(4,[[],[],[1],[],[1,2,3],[1,2,3,4],[0,1,2,3,4,5],[0,1,2,3,4,5,6]]),(47,[[],[],[1],[0,1,2],[0,1,2,3],[0,1,2,3,4],[0,1,2,3,4,5],[0,1,2,3,4,5,6],[0,1,2,3,4,5,6,7],[0,1,2,3,4,5,6,7,8],[0,1,2,3,4,5,6,7,8,9],[0,1,2,3,4,5,6,7,8,9,10],[0,1,2,3,4,5,6,7,8,9,10,11],[0,1,2,3,4,5,6,7,8,9,10,11,12],[0,1,2,3,4,5,6,7,8,9,10,11,12,13],[0,1,2,3,4,5,6,7,8,9,10,11,12,13,14],[0,1,2,3,4,5,6,7,8,9,10,11,12,13,14,15],[0,1,2,3,4,5,6,7,8,9,10,11,12,13,14],[0,1,2,3,4,5,6,7,8,9,10,11,12,13,14,17],[0,1,2,3,4,5,6,7,8,9,10,11,12,13,14,15,16,17,18],[0,1,2,3,4,5,6,7,8,9,10,11,12,13,14,15,16,17,18,19],[0,1,2,3,4,5,6,7,8,9,10,11,12,13,14,15,16,17,18,19,20],[0,1,2,3,4,5,6,7,8,9,10,11,12,13,14],[0,1,2,3,4,5,6,7,8,9,10,11,12,13,14,22],[0,1,2,3,4,5,6,7,8,9,10,11,12,13,14,15,16,17,18,19,20,21,22,23],[0,1,2,3,4,5,6,7,8,9,10,11,12,13,14,15,16,17,18,19,20,21,22,23,24],[0,1,2,3,4,5,6,7,8,9,10,11,12,13,14,15,16,17,18,19,20,21,22,23,24,25],[0,1,2,3,4,5,6,7,8,9,10,11,12,13,14,15,16,17,18,19,20,21,22,23,24,25,26]])] [] [] [(2092029,⟨2706308199418088717232151174730781556736,[],[],[(.normal,[(122,.k (.d (.bool)))])]⟩),
 (535560189,⟨3568119231764899702645714923623737840956866560,[],[],[(.normal,[(149,.k (.d (.bool)))])]⟩)] [(26,⟨67106864,[],[],[(5,.k (.d (.int .i64)))],[((.exit 0),[]),(.ret,[(4,.k (.d (.bool)))])],bnd tb (.len (.ld 22 (.fld 81 4 (.slot 3)))) 1⟩),
 (68551704562,⟨1606938044257528773904631189422958917689486710763136902759952,[],[],[(9,.k (.d (.int .i64)))],[((.exit 3),[]),(.ret,[(4,.k (.d (.bool)))])],bnd tb (.len (.ld 78 (.fld 81 5 (.slot 3)))) 1⟩)] [] [] []
def b1H:Row I:=⟨151,[.d (.dat 54),.d (.dat 81)],[.k (.d (.bool))],a8E⟩
theorem b2v:RK (b1H) :=
 okR [eR a44,eR a2j,eR a3G,eR a2H] 216 b3e [.tmp 4] Go.Proofs.Tryz.func151 (by kernel_rfl)
def a9x:Row I:=⟨152,[.d (.dat 81)],[.k (.d (.bool))],a5w⟩
theorem a9O:RK (a9x) :=
 okR [] 16 Z0 [.tmp 2] Go.Proofs.Tryz.func152 (by kernel_rfl)
def a8A (n:Nat):Hints I:=mkH [(6,[[],[],[1],[],[1,2,3],[1,2,3,4],[0,1,2,3,4,5],[0,1,2,3,4,5,6]])] [] [] [] [(58,⟨1073709068,[],[],[(3,.k (.d (.int .i64)))],[((.exit 0),[]),(.ret,[(2,.k (.d (.int .i64)))])],bnd tb (.len (.ld 52 (.fld 54 0 (.slot 1)))) 1⟩),
 (250,⟨4951760157141521082416628192,[],[],[(4,.k (.row 4 false)),(5,.k (.d (.int .i64)))],[((.exit 2),[(4,.k (.row 4 false))])],bnd tb (.len (.ld 52 (.fld 54 0 (.slot 1)))) 1⟩),
 (506,⟨10136253041668693690874029146628,[],[],[(4,.k (.row 4 false)),(9,.k (.d (.int .i64)))],[((.exit 8),[(4,.k (.row 4 false))]),(.ret,[(2,.k (.d (.int .i64))),(4,.k (.row 4 false))])],bnd tb (.len (.slot 4)) 1⟩),
 (16018,⟨4951760157141518900573241792,[],[],[(4,.k (.row 4 false)),(6,.k (.d (.int .i64)))],[((.exit 4),[(4,.k (.row 4 false))])],bnd tb (.len (.ld 52 (.fld 54 0 (.slot 1)))) 1⟩),
 (4100682,⟨4835703278177041722114432,[],[],[(4,.k (.row 4 false)),(7,.k (.d (.bool))),(8,.k (.d (.int .i64)))],[((.exit 6),[(4,.k (.row 4 false)),(7,.k (.d (.bool)))])],fun _=>some n⟩)] [] [] []
def a7i (n:Nat):Row I:=⟨137,[.d (.dat 54)],[.k (.d (.int .i64))],a3U n⟩
theorem a7G (n:Nat):RK (a7i n) :=
 okR [eR a44,eR b2v,eR a9O] 103 (a8A n) [.tmp 2] Go.Proofs.Tryz.func137 (by kernel_rfl)
def a6K (n:Nat):Hints I:=mkH [(18,[[],[0],[],[],[],[4],[],[4,5,6],[4,5,6,7],[3,4,5,6,7,8],[3,4,5,6,7,8,9],[3,4,5,6,7,8,9,10],[3,4,5,6,7,8,9,10],[0,1,2,3,4,5,6,7,8,9,10,11],[0,1,2,3,4,5,6,7,8,9,10,11,13]]),(22,[[],[0],[],[],[],[4],[],[4,5,6],[4,5,6,7],[4,5,6,7,8],[3,4,5,6,7,8,9],[3,4,5,6,7,8,9,10],[3,4,5,6,7,8,9,10,11],[3,4,5,6,7,8,9,10,11],[0,1,2,3,4,5,6,7,8,9,10,11,12],[0,1,2,3,4,5,6,7,8,9,10,11,12,14],[0,1,2,3,4,5,6,7,8,9,10,11,12,14,15]])] [] [] [(16683940,⟨87091018283827687992657438589568176619520,[],[(0,.lvs [.d (.sl 174),.d (.int .i64),.d (.bool),.d (.bool),.d (.bool),.d (.int .i64),.row 81 true,.d (.int .i64),.d (.sl 9),.d (.sl 3),.d (.sl 4),.d (.sl 9)]),(12,.k (.d (.dat 81)))],[(.normal,[])]⟩)] [(58,⟨4398046380992,[],[(0,.lvs [.d (.sl 174),.d (.int .i64),.d (.bool),.d (.bool),.d (.bool),.d (.int .i64),.row 81 true,.d (.int .i64),.d (.sl 9),.d (.sl 3),.d (.sl 4),.d (.sl 9)])],[(6,.k (.d (.bool))),(7,.k (.d (.int .i64)))],[((.exit 0),[(6,.k (.d (.bool)))])],fun _=>some n⟩),
 (1018,⟨5575186299632655785383929559154891121817600,[],[(0,.lvs [.d (.sl 174),.d (.int .i64),.d (.bool),.d (.bool),.d (.bool),.d (.int .i64),.row 81 true,.d (.int .i64),.d (.sl 9),.d (.sl 3),.d (.sl 4),.d (.sl 9)]),(10,.lvs [.row 81 false,.d (.int .i64)])],[(11,.k (.d (.int .i64)))],[((.exit 2),[])],fun _=>some n⟩),
 (260682,⟨4951757795958279664773898240,[],[(0,.lvs [.d (.sl 174),.d (.int .i64),.d (.bool),.d (.bool),.d (.bool),.d (.int .i64),.row 81 true,.d (.int .i64),.d (.sl 9),.d (.sl 3),.d (.sl 4),.d (.sl 9)])],[(13,.k (.d (.int .i64)))],[((.exit 4),[])],bnd tb (.len (.ld 22 (.fld 81 4 (.slot 12)))) 1⟩),
 (521370,⟨41538369916518463886722871037280256,[],[(0,.lvs [.d (.sl 174),.d (.int .i64),.d (.bool),.d (.bool),.d (.bool),.d (.int .i64),.row 81 true,.d (.int .i64),.d (.sl 9),.d (.sl 3),.d (.sl 4),.d (.sl 9)])],[(14,.k (.d (.int .i64)))],[((.exit 6),[])],bnd tb (.len (.ld 78 (.fld 81 5 (.slot 12)))) 1⟩),
 (1042746,⟨87112244393385378368002871258562028404736,[],[(0,.lvs [.d (.sl 174),.d (.int .i64),.d (.bool),.d (.bool),.d (.bool),.d (.int .i64),.row 81 true,.d (.int .i64),.d (.sl 9),.d (.sl 3),.d (.sl 4),.d (.sl 9)]),(12,.k (.d (.dat 81)))],[(15,.k (.d (.int .i64)))],[((.exit 8),[])],bnd tb (.cst 2) 1⟩)] [] [] []
def a5e (n:Nat):Row I:=⟨102,[.var 155 (.lvs [.d (.sl 174),.d (.int .i64),.d (.bool),.d (.bool),.d (.bool),.d (.int .i64),.row 81 true,.d (.int .i64),.d (.sl 9),.d (.sl 3),.d (.sl 4),.d (.sl 9)]) true,.d (.int .i64)],[.k (.d (.dat 54)),.k (.d (.int .i64))],a2Y n⟩
theorem a5X (n:Nat):RK (a5e n) :=
 okR [eR a49,eR (a7G n)] 148 (a6K n) [.cell 4 54,.tmp 5] Go.Proofs.Tryz.func102 (by kernel_rfl)
def a8n (_:Nat):Hints I:=mkH [] [] [] [] [(4090,⟨147573389639722991880,[],[(2,.lvs [.row 81 false,.d (.int .i64)])],[(8,.k (.d (.int .i64)))],[((.exit 2),[]),(.ret,[(3,.k (.d (.int .i64)))])],bnd tb (.len (.ld 153 (.fld 155 9 (.slot 6)))) 1⟩)] [] [] []
def a64 (n:Nat):Row I:=⟨71,[.d (.str)],[.k (.d (.dat 54)),.k (.d (.int .i64))],a3X n⟩
theorem a7P (n:Nat):RK (a64 n) :=
 okR [eR b1t,eR (a7n n),eR Q7,eR (a5X n)] 92 (a8n n) [.cell 2 54,.tmp 3] Go.Proofs.Tryz.func71 (by kernel_rfl)
def b1X (n:Nat):Row I:=⟨43,[.d (.int .i64)],[.k (.d (.dat 54))],J6 n⟩
theorem b2r (n:Nat):RK (b1X n) :=
 okR [eR a96,eR (a7P n)] 12 Z0 [.cell 2 54] Go.Proofs.Tryz.func43 (by kernel_rfl)
def a9f (_:Nat):Hints I:=mkH [(3,[[],[0],[0,1],[],[3],[3,4],[0,1,2,3,4,5],[0,1,2,3,4,5,6],[]])] [] [] [(1026811517,⟨316835278804602014106994606080,[],[(10,.k (.d (.dat 81)))],[(.normal,[])]⟩)] [(122,⟨324518553658426726783155752234440,[26],[(4,.lvs [.d (.int .i64),.d (.int .i64),.d (.int .i64),.d (.str),.row 3 false,.row 102 false,.d (.int .i64),.d (.int .i64)])],[(3,.k (.row 81 false)),(28,.k (.d (.int .i64)))],[((.exit 0),[(3,.k (.row 81 false))])],bnd tb (.slot 27) 1⟩),
 (250686,⟨162259276829213363110103033670664,[],[],[(3,.k (.row 81 false)),(48,.k (.d (.int .i64)))],[((.exit 2),[(3,.k (.row 81 false))])],bnd tb (.slot 47) 1⟩),
 (256702874,⟨73750947497819252736,[],[],[(11,.k (.row 3 false)),(55,.k (.d (.int .i64)))],[((.exit 4),[(11,.k (.row 3 false))])],bnd tb (.slot 54) 1⟩),
 (1026811514,⟨9670816261106674692079616,[],[],[(14,.k (.row 102 false)),(69,.k (.d (.int .i64)))],[((.exit 6),[(14,.k (.row 102 false))])],bnd tb (.slot 68) 1⟩)] [] [] []
def a7E (n:Nat):Row I:=⟨24,[.d (.dat 75)],[.k (.d (.dat 57))],a0p n⟩
theorem a8w (n:Nat):RK (a7E n) :=
 okR [eR (b2r n)] 120 (a9f n) [.cell 2 57] Go.Proofs.Tryz.func24 (by kernel_rfl)
def a9a (_:Nat):Hints I:=mkH [(15,[[],[0],[],[0,1,2],[0,1,2,3],[0,1,2,3,4],[0,1,2,3,4,5],[0,1,2,3,4,5,6],[0,1,2,3,4,5,6,7],[0,1,2,3,4,5,6,7,8],[0,1,2,3,4,5,6,7,8,9],[0,1,2,3,4,5,6,7,8,9,10],[0,1,2,3,4,5,6,7,8,9],[0,1,2,3,4,5,6,7,8,9,12],[0,1,2,3,4,5,6,7,8,9,12,13],[0,1,2,3,4,5,6,7,8,9,12,13,14],[0,1,2,3,4,5,6,7,8,9,10,11,12,13,14,15],[0,1,2,3,4,5,6,7,8,9,10,11,12,13,14,15,16],[0,1,2,3,4,5,6,7,8,9,10,11,12,13,14,15,16,17],[0,1,2,3,4,5,6,7,8,9],[0,1,2,3,4,5,6,7,8,9,10,11,12,13,14,15,16,17,18,19],[0,1,2,3,4,5,6,7,8,9,10,11,12,13,14,15,16,17,18,19,20],[0,1,2,3,4,5,6,7,8,9,10,11,12,13,14,15,16,17,18,19,20,21]])] [] [] [] [(122,⟨34357642496,[],[],[(8,.k (.row 51 false)),(21,.k (.d (.int .i64)))],[((.exit 0),[(8,.k (.row 51 false))])],bnd tb (.slot 20) 1⟩),
 (250,⟨2417851639228983471558656,[7],[(7,.lvs [.d (.str),.d (.bool),.row 57 true])],[(38,.k (.d (.int .i64)))],[((.exit 2),[])],bnd tb (.slot 37) 1⟩),
 (64102,⟨1208925819597036988710912,[7],[(7,.lvs [.d (.str),.d (.bool),.row 57 true])],[(44,.k (.d (.int .i64)))],[((.exit 4),[])],bnd tb (.slot 43) 1⟩)] [] [] []
def a7V (n:Nat):Row I:=⟨11,[.d (.str),.d (.bool),.d (.sl 75)],[.lvs [.d (.str),.d (.bool),.row 57 true]],a09 n⟩
theorem a86 (n:Nat):RK (a7V n) :=
 okR [eR a8J,eR (a8w n)] 82 (a9a n) [.cell 6 25] Go.Proofs.Tryz.func11 (by kernel_rfl)
def a4v:Row I:=⟨44,[.var 49 (.k (.d (.dat 49))) true],[.k (.d (.str))],a0f⟩
theorem a4N:RK (a4v) :=
 okR [eR Q3] 8 Z0 [.tmp 2] Go.Proofs.Tryz.func44 (by kernel_rfl)
def a6A:Row I:=⟨45,[.var 49 (.k (.d (.dat 49))) true],[.k (.d (.str))],a0O⟩
theorem a7g:RK (a6A) :=
 okR [eR Q3] 8 Z0 [.tmp 2] Go.Proofs.Tryz.func45 (by kernel_rfl)
def a6h:Row I:=⟨46,[.var 49 (.k (.d (.dat 49))) true],[.k (.d (.str))],a0B⟩
theorem a6T:RK (a6h) :=
 okR [eR Q3] 8 Z0 [.tmp 2] Go.Proofs.Tryz.func46 (by kernel_rfl)
def a6b:Hints I:=mkH [] [] [] [] [(28,⟨16776706,[],[(0,.k (.d (.dat 49)))],[(1,.k (.d (.int .i64))),(9,.k (.row 3 false))],[((.exit 0),[(9,.k (.row 3 false))])],bnd tb (.slot 1) 2⟩)] [] [] []
def a4W:Row I:=⟨47,[.var 49 (.k (.d (.dat 49))) true,.d (.int .i64),.d (.int .i64),.d (.int .i64)],[.k (.row 3 false)],y8⟩
theorem a5a:RK (a4W) :=
 okR [eR Q3] 25 a6b [.tmp 8] Go.Proofs.Tryz.func47 (by kernel_rfl)
def a5S:Hints I:=mkH [(7,[[],[0],[],[],[2,3],[2,3,4],[],[],[6,7],[],[6,7,8,9],[6,7,8,9,10],[2,3,4,5,6,7,8,9,10,11],[2,3,4,5,6,7,8,9,10,11,12],[0,1,2,3,4,5,6,7,8,9,10,11,12,13],[0,1,2,3,4,5,6,7,8,9,10,11,12,13,14],[0,1,2,3,4,5,6,7,8,9,10,11,12,13,14,15]])] [] [] [(978,⟨8796076244992,[],[(0,.k (.d (.dat 49))),(5,.lvs [.d (.int .i64),.d (.int .i64),.d (.int .i64),.d (.str),.row 3 false,.row 102 false,.d (.int .i64),.d (.int .i64)])],[(.normal,[])]⟩)] [(122,⟨8796091973760,[6],[(0,.k (.d (.dat 49))),(5,.lvs [.d (.int .i64),.d (.int .i64),.d (.int .i64),.d (.str),.row 3 false,.row 102 false,.d (.int .i64),.d (.int .i64)])],[(7,.k (.d (.int .i64)))],[((.exit 0),[])],bnd tb (.cst 3) 1⟩)] [] [] []
def a4T:Row I:=⟨48,[.var 49 (.k (.d (.dat 49))) true,.d (.int .i64)],[.k (.d (.dat 81))],a0j⟩
theorem a5b:RK (a4T) :=
 okR [eR Q3] 44 a5S [.cell 4 81] Go.Proofs.Tryz.func48 (by kernel_rfl)
def a7z:Hints I:=mkH [(8,[[],[],[0,1],[0,1,2],[],[],[],[],[7],[6,7,8],[5,6,7,8,9],[4,5,6,7,8,9,10],[4,5,6,7,8,9,10,11],[0,1,2,3,4,5,6,7,8,9,10,11,12],[0,1,2,3,4,5,6,7,8,9,10,11,12,13]])] [] [] [(29,⟨128,[],[],[(.normal,[(7,.k (.d (.int .i64)))])]⟩),
 (32243709,⟨47223664828696452136960,[],[],[(.normal,[(73,.k (.d (.bool)))])]⟩),
 (2063597565,⟨49517601571415210995964968960,[],[],[(.normal,[(93,.k (.d (.bool)))])]⟩)] [] [] [] []
def a6v:Row I:=⟨26,[.var 49 (.k (.d (.dat 49))) true,.d (.int .i64),.d (.int .i64)],[.k (.d (.dat 81))],a0R⟩
theorem a60:RK (a6v) :=
 okR [eR Q3,eR a4N,eR a7g,eR a6T,eR a5a,eR a5b] 128 a7z [.cell 6 81] Go.Proofs.Tryz.func26 (by kernel_rfl)
def a70:Hints I:=mkH [(6,[[],[0],[],[],[],[2,3,4],[2,3,4,5],[0,1,2,3,4,5,6],[0,1,2,3,4,5,6,7],[0,1,2,3,4,5,6,7,8]])] [] [] [] [(122,⟨16776256,[],[(0,.k (.d (.dat 49))),(5,.lvs [.row 81 false,.d (.int .i64)])],[(6,.k (.d (.int .i64)))],[((.exit 0),[])],bnd tb (.slot 1) 1⟩)] [] [] []
def a6F:Row I:=⟨14,[.var 49 (.k (.d (.dat 49))) true,.d (.int .i64)],[.k (.d (.dat 54))],a0Q⟩
theorem a6W:RK (a6F) :=
 okR [eR a60] 25 a70 [.cell 4 54] Go.Proofs.Tryz.func14 (by kernel_rfl)
def b2q (_:Nat):Hints I:=mkH [(2,[[],[],[1],[1,2],[1,2,3],[1,2,3,4],[0,1,2,3,4,5],[0,1,2,3,4,5,6],[],[8],[8,9],[8,9,10],[1,2,3,4,5,8,9,10,11],[1,2,3,4,5,8,9,10,11,12],[],[],[15],[15,16],[15,16,17],[1,2,3,4,5,8,9,10,11,12,15,16,17,18],[1,2,3,4,5,8,9,10,11,12,15,16,17,18,19],[1,2,3,4,5,8,9,10,11,12,14,15,16,17,18,19,20],[0,1,2,3,4,5,6,7,8,9,10,11,12,13,14,15,16,17,18,19,20,21],[],[0,1,2,3,4,5,6,7,8,9,10,11,12,13,14,15,16,17,18,19,20,21,22,23]]),(6,[[],[0],[],[2],[2,3],[2,3,4],[2,3,4,5],[2,3,4,5,6],[],[],[2,3,4,5,6,9],[2,3,4,5,6,9,10],[2,3,4,5,6,8,9,10,11],[2,3,4,5,6,7,8,9,10,11,12],[2,3,4,5,6,7,8,9,10,11,12,13],[0,1,2,3,4,5,6,7,8,9,10,11,12,13,14],[0,1,2,3,4,5,6,7,8,9,10,11,12,13,14,15],[0,1,2,3,4,5,6,7,8,9,10,11,12,13,14,15,16]])] [] [] [] [] [] [] []
def b0Q (n:Nat):Row I:=⟨5,[.d (.sl 3)],[.k (.d (.dat 25))],a2b n⟩
theorem b1B (n:Nat):RK (b0Q n) :=
 okR [c5U,eR Q3,eR a5N,eR (a86 n),eR a6W] 59 (b2q n) [.cell 2 25] Go.Proofs.Tryz.func5 (by kernel_rfl)
def b6x:Hints I:=mkH [] [] [] [] [(58,⟨34351349952,[],[],[(7,.k (.d (.int .i64)))],[((.exit 0),[]),(.ret,[(6,.k (.d (.bool)))])],bnd tb (.len (.slot 0)) 1⟩)] [] [] []
def b4T:Row I:=⟨73,[.d (.str),.fn [.int .u8] [.k (.d (.bool))],.fn [.int .u8] [.k (.d (.bool))]],[.k (.d (.bool))],a3k⟩
theorem a9E:RK (b4T) :=
 okR [] 35 b6x [.tmp 6] Go.Proofs.Tryz.func73 (by kernel_rfl)
def b4o:Row I:=⟨74,[.d (.int .u8)],[.k (.d (.bool))],a1N⟩
theorem a4j:RK (b4o) :=
 okR [] 9 Z0 [.tmp 2] Go.Proofs.Tryz.func74 (by kernel_rfl)
def b4I:Row I:=⟨76,[.d (.int .u8)],[.k (.d (.bool))],a2L⟩
theorem a8B:RK (b4I) :=
 okR [] 9 Z0 [.tmp 2] Go.Proofs.Tryz.func76 (by kernel_rfl)
def b3I:Row I:=⟨75,[.d (.int .u8)],[.k (.d (.bool))],a5P⟩
theorem b4p:RK (b3I) :=
 okR [eR a4j,eR a8B] 13 Z0 [.tmp 2] Go.Proofs.Tryz.func75 (by kernel_rfl)
def b5b:Row I:=⟨49,[.d (.str)],[.k (.d (.bool))],a2g⟩
theorem a4D:RK (b5b) :=
 okR [eR a9E,eR a4j,eR b4p] 5 Z0 [.tmp 2] Go.Proofs.Tryz.func49 (by kernel_rfl)
def b2V:Row I:=⟨50,[.d (.str)],[.k (.d (.bool))],b0u⟩
theorem b4H:RK (b2V) :=
 okR [] 9 Z0 [.tmp 2] Go.Proofs.Tryz.func50 (by kernel_rfl)
def b67:Row I:=⟨27,[.d (.str)],[.k (.d (.bool))],a0z⟩
theorem b7u:RK (b67) :=
 okR [eR a4D,eR b4H] 10 Z0 [.tmp 2] Go.Proofs.Tryz.func27 (by kernel_rfl)
def b1Q:Hints I:=mkH [] [] [] [(29,⟨16776824,[],[],[(.normal,[(3,.k (.d (.bool))),(4,.k (.d (.bool))),(5,.k (.d (.bool))),(6,.k (.d (.bool)))])]⟩),
 (941,⟨26624,[],[],[(.normal,[(11,.k (.d (.bool)))])]⟩),
 (3773,⟨4096000,[],[],[(.normal,[(15,.k (.d (.bool)))])]⟩)] [] [] [] []
def a9V:Row I:=⟨51,[.d (.dat 81)],[.k (.d (.bool))],a13⟩
theorem b06:RK (a9V) :=
 okR [] 67 b1Q [.tmp 2] Go.Proofs.Tryz.func51 (by kernel_rfl)
def b4s:Row I:=⟨103,[.d (.int .u8)],[.k (.d (.bool))],a2J⟩
theorem a8D:RK (b4s) :=
 okR [] 9 Z0 [.tmp 2] Go.Proofs.Tryz.func103 (by kernel_rfl)
def b0h:Row I:=⟨104,[.d (.int .u8)],[.k (.d (.bool))],a3c⟩
theorem b0U:RK (b0h) :=
 okR [eR a4j,eR a8D,eR a8B] 17 Z0 [.tmp 2] Go.Proofs.Tryz.func104 (by kernel_rfl)
def b1L:Row I:=⟨77,[.d (.str)],[.k (.d (.bool))],a2F⟩
theorem b2p:RK (b1L) :=
 okR [eR a9E,eR a8D,eR b0U] 5 Z0 [.tmp 2] Go.Proofs.Tryz.func77 (by kernel_rfl)
def b3m:Row I:=⟨105,[.d (.dat 100)],[.k (.d (.bool))],a3t⟩
theorem b4q:RK (b3m) :=
 okR [eR a4D] 16 Z0 [.tmp 2] Go.Proofs.Tryz.func105 (by kernel_rfl)
def b4A:Row I:=⟨83,[.d (.int .i64)],[.k (.d (.bool))],a2Q⟩
theorem b5d:RK (b4A) :=
 okR [] 6 Z0 [.tmp 2] Go.Proofs.Tryz.func83 (by kernel_rfl)
def b2z:Row I:=⟨57,[.d (.int .i64),.d (.int .i64)],[.k (.d (.int .i64))],a0A⟩
theorem a6o:RK (b2z) :=
 okR [eR b5d] 20 Z0 [.tmp 4] Go.Proofs.Tryz.func57 (by kernel_rfl)
def a3N:Row I:=⟨153,[.d (.str),.d (.str)],[.k (.d (.int .i64))],a0C⟩
theorem a3R:RK (a3N) :=
 okR [eR c4U] 8 Z0 [.tmp 4] Go.Proofs.Tryz.func153 (by kernel_rfl)
def b2u:Row I:=⟨138,[.d (.str),.d (.str)],[.k (.d (.int .i64))],a24⟩
theorem b3g:RK (b2u) :=
 okR [eR a3R] 8 Z0 [.tmp 4] Go.Proofs.Tryz.func138 (by kernel_rfl)
def b02:Row I:=⟨106,[.d (.dat 100),.d (.dat 100)],[.k (.d (.int .i64))],a2c⟩
theorem b1f:RK (b02) :=
 okR [eR a6o,eR b3g] 19 Z0 [.tmp 4] Go.Proofs.Tryz.func106 (by kernel_rfl)
def a91:Hints I:=mkH [(4,[[],[0],[0,1],[0,1,2],[0,1,2,3],[0,1,2,3,4],[0,1,2,3,4,5],[0,1,2,3,4,5,6],[0,1,2,3,4,5,6,7],[0,1,2,3,4,5,6,7],[0,1,2,3,4,5,6,7,9],[0,1,2,3,4,5,6,7,8,9,10],[0,1,2,3,4,5,6,7,8,9,10,11],[0,1,2,3,4,5,6,7,8,9,10,11,12],[0,1,2,3,4,5,6,7],[0,1,2,3,4,5,6,7,14],[0,1,2,3,4,5,6,7,8,9,10,11,12,13,14,15],[0,1,2,3,4,5,6,7,8,9,10,11,12,13,14,15,16],[0,1,2,3,4,5,6,7,8,9,10,11,12,13,14,15,16,17],[0,1,2,3,4,5,6,7,8,9,10,11,12,13,14,15,16,17,18]])] [] [] [] [(26,⟨8589934492,[],[],[(7,.k (.d (.int .i64)))],[((.exit 0),[]),(.ret,[(2,.k (.d (.bool)))])],bnd tb (.slot 6) 1⟩)] [] [] []
def a83:Row I:=⟨78,[.d (.sl 102)],[.k (.d (.bool))],a1n⟩
theorem a9i:RK (a83) :=
 okR [eR b4q,eR b1f] 33 a91 [.tmp 2] Go.Proofs.Tryz.func78 (by kernel_rfl)
def b1R:Hints I:=mkH [] [] [] [(105,⟨16288,[],[],[(.normal,[(5,.k (.d (.bool)))])]⟩),
 (28311549,⟨368934881474191032320,[],[],[(.normal,[(66,.k (.d (.bool)))])]⟩)] [] [] [] []
def b0n:Row I:=⟨52,[.d (.dat 81)],[.k (.d (.bool))],a1Q⟩
theorem b05:RK (b0n) :=
 okR [eR a4D,eR b2p,eR a9i] 79 b1R [.tmp 2] Go.Proofs.Tryz.func52 (by kernel_rfl)
def b5z:Hints I:=mkH [] [] [] [] [(58,⟨4190248,[],[],[(3,.k (.row 3 false)),(12,.k (.d (.int .i64)))],[((.exit 0),[(3,.k (.row 3 false))])],bnd tb (.slot 11) 1⟩)] [] [] []
def b2R:Row I:=⟨53,[.d (.dat 81)],[.k (.row 3 false)],a2n⟩
theorem a7y:RK (b2R) :=
 okR [eR c3B] 35 b5z [.tmp 2] Go.Proofs.Tryz.func53 (by kernel_rfl)
def b0c:Row I:=⟨81,[.d (.int .i64)],[.k (.d (.bool))],a1U⟩
theorem b07:RK (b0c) :=
 okR [] 13 Z0 [.tmp 2] Go.Proofs.Tryz.func81 (by kernel_rfl)
def a8x (_:Nat):Hints I:=mkH [] [] [] [] [(122,⟨140462610448544,[],[(1,.k (.row 3 false))],[(38,.k (.d (.int .i64)))],[((.exit 0),[]),(.ret,[(5,.k (.d (.bool)))])],bnd tb (.slot 37) 1⟩)] [] [] []
def a1d (n:Nat):Row I:=⟨80,[.d (.int .i64),.var 22 (.k (.row 3 false)) true,.var 54 (.k (.d (.dat 54))) false,.var 135 (.k (.d .any)) false],[.k (.d (.bool))],Y2 n⟩
theorem a7f (n:Nat)(h_typeexpr_contractive_1:a0l Go.Proofs.Tryz.prog (a1d n) (a7D 135 80 3 [1,2,3])):a0l Go.Proofs.Tryz.prog (a1d (n+1)) (a7D 135 80 3 [1,2,3]) :=
 a2R a1D (a1c (a2K [eR b07,eS 135 80 3 [1,2,3] h_typeexpr_contractive_1]) 3) mixed 50 (s0:=fun a=>c01 135 80 3 3 [1,2,3] (a1B tb 50 [.d (.int .i64),.var 22 (.k (.row 3 false)) true,.var 54 (.k (.d (.dat 54))) false,.var 135 (.k (.d .any)) false] a)) (fn:=Go.Proofs.Tryz.f80) (cd:=a4G Go.Proofs.Tryz.f80) (H:=(a8x n)) (rl:=[.tmp 5]) (fun X c σ a vs F h hv _ hC=>b8h rfl rfl rfl h hv hC) Go.Proofs.Tryz.func80 (by kernel_rfl) (by kernel_rfl) (by kernel_rfl) (by kernel_rfl) (by kernel_rfl) (by kernel_rfl) (by kernel_rfl)
theorem a22:∀ n:Nat,a0l Go.Proofs.Tryz.prog (a1d n) (a7D 135 80 3 [1,2,3])
 | 0=>b68 (a0E (by kernel_rfl))
 | n+1=>a7f n (a22 n)
def a9R (_:Nat):Hints I:=mkH [] [] [] [] [(250,⟨4177956,[],[(3,.k (.row 3 false))],[(14,.k (.d (.int .i64)))],[((.exit 0),[]),(.ret,[(2,.k (.d (.bool)))])],bnd tb (.slot 13) 1⟩)] [] [] []
def a8U (n:Nat):Row I:=⟨54,[.d (.dat 54)],[.k (.d (.bool))],a1l n⟩
theorem a9s (n:Nat):RK (a8U n) :=
 okR [eS 135 80 3 [1,2,3] (a22 n)] 22 (a9R n) [.tmp 2] Go.Proofs.Tryz.func54 (by kernel_rfl)
def b09 (_:Nat):Hints I:=mkH [] [] [] [] [(58,⟨2251799811588180,[],[],[(21,.k (.d (.int .i64)))],[((.exit 0),[]),(.ret,[(2,.k (.d (.int .i64)))])],bnd tb (.slot 20) 1⟩),
 (29902,⟨1125831187365956,[34],[],[(36,.k (.d (.int .i64)))],[((.exit 2),[]),(.ret,[(2,.k (.d (.int .i64)))])],bnd tb (.slot 35) 1⟩)] [] [] []
def a9e (n:Nat):Row I:=⟨28,[.d (.dat 54)],[.k (.d (.int .i64))],J8 n⟩
theorem a0i (n:Nat):RK (a9e n) :=
 okR [eR b06,eR b05,eR a7y,eR (a9s n)] 54 (b09 n) [.tmp 2] Go.Proofs.Tryz.func28 (by kernel_rfl)
def b1J:Row I:=⟨82,[.d (.str)],[.k (.d (.bool))],a2v⟩
theorem b2s:RK (b1J) :=
 okR [] 6 Z0 [.tmp 2] Go.Proofs.Tryz.func82 (by kernel_rfl)
def a95:Row I:=⟨56,[.d (.str),.d (.str)],[.k (.d (.int .i64))],a1X⟩
theorem b01:RK (a95) :=
 okR [eR b2s] 20 Z0 [.tmp 4] Go.Proofs.Tryz.func56 (by kernel_rfl)
def b8S:Hints I:=mkH [] [] [] [] [(58,⟨130852,[],[],[(8,.k (.d (.int .i64)))],[((.exit 0),[]),(.ret,[(2,.k (.d (.int .i64)))])],bnd tb (.slot 7) 1⟩)] [] [] []
def b6X:Row I:=⟨55,[.d (.sl 3)],[.k (.d (.int .i64))],a7X⟩
theorem b7B:RK (b6X) :=
 okR [] 18 b8S [.tmp 2] Go.Proofs.Tryz.func55 (by kernel_rfl)
def b64:Hints I:=mkH [(1,[[],[0],[0,1],[],[3],[3,4],[0,1,2,3,4,5],[],[7],[7,8],[],[10],[10,11],[0,1,2,3,4,5,6,7,8,9,10,11,12],[0,1,2,3,4,5,6,7,8,9,10,11,12,13],[0,1,2,3,4,5,6,7,8,9,10,11,12,13,14],[0,1,2,3,4,5,6,7,8,9,10,11,12,13,14,15]])] [] [] [] [] [] [] []
def b5r:Row I:=⟨29,[.d (.dat 57),.d (.dat 57)],[.k (.d (.int .i64))],a29⟩
theorem b6e:RK (b5r) :=
 okR [eR b01,eR a6o,eR b7B] 21 b64 [.tmp 4] Go.Proofs.Tryz.func29 (by kernel_rfl)
def b2x:Row I:=⟨146,[.d (.dat 81)],[.k (.d (.dat 54))],a9B⟩
theorem b3z:RK (b2x) :=
 okR [] 6 Z0 [.cell 2 54] Go.Proofs.Tryz.func146 (by kernel_rfl)
def b4D:Row I:=⟨117,[],[.k (.d (.dat 54))],a7o⟩
theorem a8i:RK (b4D) :=
 okR [eR b3z] 3 Z0 [.cell 0 54] Go.Proofs.Tryz.func117 (by kernel_rfl)
def b3w (n:Nat):Row I:=⟨108,[.d (.dat 54)],[.k (.d (.dat 54))],a3v n⟩
theorem a3L (n:Nat):RK (b3w n) :=
 okR [eR (a0i n),eR a8i] 8 Z0 [.cell 2 54] Go.Proofs.Tryz.func108 (by kernel_rfl)
def b3E:Hints I:=mkH [] [] [] [] [(58,⟨67092512,[],[(2,.lvs [.d (.int .i64),.d (.int .i64),.d (.int .i64),.d (.str),.row 3 false,.d (.sl 102),.d (.int .i64),.d (.int .i64)])],[(14,.k (.d (.int .i64)))],[((.exit 0),[])],bnd tb (.slot 13) 1⟩),
 (250,⟨140728898420800,[],[(2,.lvs [.d (.int .i64),.d (.int .i64),.d (.int .i64),.d (.str),.row 3 false,.row 102 false,.d (.int .i64),.d (.int .i64)])],[(33,.k (.d (.int .i64)))],[((.exit 2),[])],bnd tb (.slot 32) 1⟩)] [] [] []
def b1C:Row I:=⟨113,[.d (.dat 81),.d (.int .i64)],[.lvs [.d (.int .i64),.d (.int .i64),.d (.int .i64),.d (.str),.row 3 false,.row 102 false,.d (.int .i64),.d (.int .i64)]],a4l⟩
theorem a5y:RK (b1C) :=
 okR [eR c3B,eR c5f] 65 b3E [.cell 4 81] Go.Proofs.Tryz.func113 (by kernel_rfl)
def b5i (_:Nat):Hints I:=mkH [(8,[[],[],[1],[],[1,2,3],[0],[0,1,2,3,4,5]])] [] [] [] [(122,⟨134152449,[],[],[(0,.k (.row 81 false)),(16,.k (.d (.int .i64)))],[((.exit 0),[(0,.k (.row 81 false))])],bnd tb (.slot 15) 1⟩)] [] [] []
def b3o (n:Nat):Row I:=⟨118,[.row 81 false,.d (.dat 54)],[.k (.row 81 false),.k (.d (.int .i64))],b1a n⟩
theorem b4r (n:Nat):RK (b3o n) :=
 okR [eR (a3L n),eR a5y] 32 (b5i n) [.tmp 4,.tmp 5] Go.Proofs.Tryz.func118 (by kernel_rfl)
def b6c (n:Nat):Row I:=⟨89,[.d (.dat 54),.d (.int .i64)],[.k (.d (.dat 54))],a30 n⟩
theorem a59 (n:Nat):RK (b6c n) :=
 okR [eR (a0i n),eR a8i,eR (b4r n)] 30 Z0 [.cell 4 54] Go.Proofs.Tryz.func89 (by kernel_rfl)
def b1N (_:Nat):Hints I:=mkH [] [] [] [] [(30,⟨534773824,[19],[(1,.k (.row 4 false))],[(21,.k (.d (.int .i64)))],[((.exit 0),[])],bnd tb (.slot 20) 1⟩)] [] [] []
def a18 (n:Nat):Row I:=⟨139,[.d (.int .i64),.var 153 (.k (.row 4 false)) true,.var 54 (.k (.d (.dat 54))) false,.var 120 (.k (.d .any)) false],[],a3g n⟩
theorem b0f (n:Nat)(h_typeexpr_reached_1:a0l Go.Proofs.Tryz.prog (a18 n) (a7D 120 139 3 [1,2,3])):a0l Go.Proofs.Tryz.prog (a18 (n+1)) (a7D 120 139 3 [1,2,3]) :=
 a2R a1D (a1c (a2K [eR a7y,eS 120 139 3 [1,2,3] h_typeexpr_reached_1]) 3) mixed 29 (s0:=fun a=>c01 120 139 3 3 [1,2,3] (a1B tb 29 [.d (.int .i64),.var 153 (.k (.row 4 false)) true,.var 54 (.k (.d (.dat 54))) false,.var 120 (.k (.d .any)) false] a)) (fn:=Go.Proofs.Tryz.f139) (cd:=a4G Go.Proofs.Tryz.f139) (H:=(b1N n)) (rl:=[]) (fun X c σ a vs F h hv _ hC=>b8h rfl rfl rfl h hv hC) Go.Proofs.Tryz.func139 (by kernel_rfl) (by kernel_rfl) (by kernel_rfl) (by kernel_rfl) (by kernel_rfl) (by kernel_rfl) (by kernel_rfl)
theorem a4p:∀ n:Nat,a0l Go.Proofs.Tryz.prog (a18 n) (a7D 120 139 3 [1,2,3])
 | 0=>b68 (a0E (by kernel_rfl))
 | n+1=>b0f n (a4p n)
def b1U (n:Nat):Row I:=⟨109,[.d (.dat 54)],[.k (.row 4 false)],a38 n⟩
theorem a5u (n:Nat):RK (b1U n) :=
 okR [eS 120 139 3 [1,2,3] (a4p n)] 15 Z0 [.tmp 2] Go.Proofs.Tryz.func109 (by kernel_rfl)
def b5B (_:Nat):Hints I:=mkH [(19,[[],[0],[],[],[],[4],[],[4,5,6],[4,5,6,7],[3,4,5,6,7,8],[3,4,5,6,7,8,9],[0,1,2,3,4,5,6,7,8,9,10],[0,1,2,3,4,5,6,7,8,9,10,11]]),(24,[[],[0],[],[],[],[4],[],[4,5,6],[4,5,6,7],[4,5,6,7,8],[3,4,5,6,7,8,9],[3,4,5,6,7,8,9,10],[0,1,2,3,4,5,6,7,8,9,10,11],[0,1,2,3,4,5,6,7,8,9,10,11,12],[0,1,2,3,4,5,6,7,8,9,10,11,12,13]]),(27,[[],[],[1],[1,2],[0,1,2,3],[0,1,2,3,4],[],[],[7],[7,8],[6,7,8,9],[6,7,8,9,10],[0,1,2,3,4,5,6,7,8,9,10,11],[0,1,2,3,4,5,6,7,8,9,10,11,12],[0,1,2,3,4,5,6,7,8,9,10,11,12,13]])] [] [] [(2085693,⟨162249373308899080349378817294336,[],[(10,.lvs [.d (.int .i64),.d (.int .i64),.d (.int .i64),.d (.str),.row 3 false,.row 102 false,.d (.int .i64),.d (.int .i64)])],[(.normal,[(3,.k (.row 3 false))])]⟩)] [(250,⟨274873712752,[20],[],[(3,.k (.row 3 false)),(4,.k (.row 3 false)),(22,.k (.d (.int .i64)))],[((.exit 0),[(3,.k (.row 3 false)),(4,.k (.row 3 false))])],bnd tb (.slot 21) 1⟩),
 (1018,⟨5192296858534827628529396817600128,[],[],[(3,.k (.row 3 false)),(7,.k (.row 81 false)),(38,.k (.row 3 false)),(40,.k (.d (.int .i64)))],[((.exit 2),[(3,.k (.row 3 false)),(7,.k (.row 81 false)),(38,.k (.row 3 false))])],bnd tb (.slot 39) 1⟩),
 (1042842,⟨590286803159450912768,[],[(10,.lvs [.d (.int .i64),.d (.int .i64),.d (.int .i64),.d (.str),.row 3 false,.row 102 false,.d (.int .i64),.d (.int .i64)])],[(3,.k (.row 3 false)),(53,.k (.d (.int .i64)))],[((.exit 4),[(3,.k (.row 3 false))])],bnd tb (.slot 52) 1⟩),
 (2085690,⟨1237935316918897405253914624,[],[(10,.lvs [.d (.int .i64),.d (.int .i64),.d (.int .i64),.d (.str),.row 3 false,.row 102 false,.d (.int .i64),.d (.int .i64)])],[(3,.k (.row 3 false)),(72,.k (.d (.int .i64)))],[((.exit 6),[(3,.k (.row 3 false))])],bnd tb (.slot 71) 1⟩)] [] [] []
def b2P (n:Nat):Row I:=⟨86,[.d (.dat 54)],[.k (.d (.dat 54))],a3B n⟩
theorem a3Q (n:Nat):RK (b2P n) :=
 okR [eR (a3L n),eR (a5u n),eR a5y] 119 (b5B n) [.cell 2 54] Go.Proofs.Tryz.func86 (by kernel_rfl)
def b60 (n:Nat):Row I:=⟨107,[.d (.dat 54),.d (.int .i64)],[.k (.d (.dat 54))],b1s n⟩
theorem b7z (n:Nat):RK (b60 n) :=
 okR [eR (a59 n),eR (a3Q n)] 9 Z0 [.cell 4 54] Go.Proofs.Tryz.func107 (by kernel_rfl)
def b7C (_:Nat):Hints I:=mkH [(4,[[],[],[],[1,2],[1,2,3],[0,1,2,3,4],[0,1,2,3,4,5],[],[0,1,2,3,4,5,6,7]]),(8,[[],[0],[],[],[2,3],[2,3,4],[0,1,2,3,4,5],[0,1,2,3,4,5,6],[0,1,2,3,4,5,6,7]])] [] [] [] [(250,⟨144097595889813504,[],[(9,.lvs [.row 54 false,.d (.sl 81),.d (.int .i64)])],[(44,.k (.d (.int .i64)))],[((.exit 0),[])],bnd tb (.slot 43) 1⟩)] [] [] []
def b5Y (n:Nat):Row I:=⟨84,[.d (.dat 54),.d (.int .i64),.d (.int .i64)],[.k (.d (.dat 117)),.k (.d (.bool))],b0j n⟩
theorem b61 (n:Nat):RK (b5Y n) :=
 okR [eR (b7z n)] 58 (b7C n) [.cell 6 117,.tmp 7] Go.Proofs.Tryz.func84 (by kernel_rfl)
def a4L:Hints I:=mkH [(6,[[],[],[0,1],[0,1,2],[],[],[5],[4,5,6],[4,5,6,7],[0,1,2,3,4,5,6,7,8]]),(11,[[],[],[0,1],[0,1,2],[],[],[5],[4,5,6],[4,5,6,7],[0,1,2,3,4,5,6,7,8]])] [] [] [] [(58,⟨1152921504606846012,[],[],[(0,.k (.row 9 false)),(3,.k (.d (.int .i64)))],[((.exit 0),[(0,.k (.row 9 false))]),(.ret,[(2,.k (.row 9 false))])],bnd tb (.len (.slot 0)) 1⟩)] [(59690,⟨18014397972611112,0,9,[(3,.k (.d (.int .i64))),(5,.k (.d (.int .i64)))],[((.exit 2),[(3,.k (.d (.int .i64)))])],bnd tb (.len (.slot 4)) 1⟩)] [] []
def a4g:Row I:=⟨112,[.row 9 false],[.k (.row 9 false)],a2o⟩
theorem a4A:RK (a4g) :=
 okR [] 61 a4L [.tmp 2] Go.Proofs.Tryz.func112 (by kernel_rfl)
def a5g:Row I:=⟨111,[.d (.sl 9)],[.k (.row 9 true)],a23⟩
theorem a6e:RK (a5g) :=
 okR [] 9 Z0 [.tmp 2] Go.Proofs.Tryz.func111 (by kernel_rfl)
def b1S (_:Nat):Hints I:=mkH [] [] [] [] [(122,⟨68719474744,[9],[],[(3,.k (.row 9 false)),(11,.k (.d (.int .i64)))],[((.exit 0),[(3,.k (.row 9 false))])],bnd tb (.slot 10) 1⟩)] [] [] []
def a9W (n:Nat):Row I:=⟨85,[.d (.dat 54)],[.k (.row 9 true)],a6J n⟩
theorem b0G (n:Nat):RK (a9W n) :=
 okR [eR (a3L n),eR (a5u n),eO c4M,eR a4A,eR a6e] 41 (b1S n) [.tmp 2] Go.Proofs.Tryz.func85 (by kernel_rfl)
def b0w (n:Nat):Row I:=⟨59,[.d (.dat 54)],[.k (.d (.bool))],a2e n⟩
theorem a2E (n:Nat):RK (b0w n) :=
 okR [eR (b0G n)] 7 Z0 [.tmp 2] Go.Proofs.Tryz.func59 (by kernel_rfl)
def b6O (_:Nat):Hints I:=mkH [] [] [] [] [(506,⟨73786694819861503280,[],[],[(8,.k (.row 117 false)),(48,.k (.d (.int .i64)))],[((.exit 0),[(8,.k (.row 117 false))]),(.ret,[(4,.k (.row 117 false)),(5,.k (.d (.bool)))])],bnd tb (.slot 47) 1⟩)] [] [] []
def b5q (n:Nat):Row I:=⟨58,[.d (.dat 54),.d (.int .i64)],[.k (.row 117 false),.k (.d (.bool))],b2H n⟩
theorem b5Q (n:Nat):RK (b5q n) :=
 okR [eR (a0i n),eR (b61 n),eR (a2E n)] 67 (b6O n) [.tmp 4,.tmp 5] Go.Proofs.Tryz.func58 (by kernel_rfl)
def a6Y:Hints I:=mkH [] [] [] [] [(26,⟨524080,[],[],[(8,.k (.d (.int .i64)))],[((.exit 0),[]),(.ret,[(4,.k (.d (.int .i64)))])],bnd tb (.slot 7) 1⟩)] [] [] []
def a5W:Row I:=⟨143,[.d (.sl 3),.fn [.int .i64] [.k (.d (.bool))]],[.k (.d (.int .i64))],a3d⟩
theorem a6H:RK (a5W) :=
 okR [] 19 a6Y [.tmp 4] Go.Proofs.Tryz.func143 (by kernel_rfl)
def a4w:Row I:=⟨114,[.d (.sl 3),.fn [.int .i64] [.k (.d (.bool))]],[.k (.d (.bool))],a2u⟩
theorem a4H:RK (a4w) :=
 okR [eR a6H] 9 Z0 [.tmp 4] Go.Proofs.Tryz.func114 (by kernel_rfl)
def a14:Hints I:=mkH [] [] [] [] [(26,⟨524080,[],[],[(8,.k (.d (.int .i64)))],[((.exit 0),[]),(.ret,[(4,.k (.d (.int .i64)))])],bnd tb (.slot 7) 1⟩)] [] [] []
def a1I:Row I:=⟨119,[.d (.sl 81),.fn [.dat 81] [.k (.d (.bool))]],[.k (.d (.int .i64))],a0o⟩
theorem a10:RK (a1I) :=
 okR [] 19 a14 [.tmp 4] Go.Proofs.Tryz.func119 (by kernel_rfl)
def a1r:Row I:=⟨90,[.d (.sl 81),.fn [.dat 81] [.k (.d (.bool))]],[.k (.d (.bool))],a0e⟩
theorem a1u:RK (a1r) :=
 okR [eR a10] 9 Z0 [.tmp 4] Go.Proofs.Tryz.func90 (by kernel_rfl)
def b5v:Row I:=⟨91,[.d (.dat 81)],[.k (.d (.bool))],b3k⟩
theorem b5P:RK (b5v) :=
 okR [] 6 Z0 [.tmp 2] Go.Proofs.Tryz.func91 (by kernel_rfl)
def b6u (n:Nat):Row I:=⟨62,[.d (.dat 54),.d (.int .i64)],[.k (.d (.bool))],a7O n⟩
theorem a6X (n:Nat):RK (b6u n) :=
 okR [eR (a59 n),eR (a3Q n),eR a1u,eR b5P] 14 Z0 [.tmp 4] Go.Proofs.Tryz.func62 (by kernel_rfl)
def b1P (n:Nat):Row I:=⟨115,[.d (.int .i64),.var 54 (.k (.d (.dat 54))) false],[.k (.d (.bool))],a8S n⟩
theorem b2o (n:Nat):RK (b1P n) :=
 okR [eR (a6X n)] 8 Z0 [.tmp 3] Go.Proofs.Tryz.func115 (by kernel_rfl)
def b2Y (n:Nat):Row I:=⟨87,[.d (.dat 54),.d (.sl 3)],[.k (.d (.bool))],b1d n⟩
theorem b4z (n:Nat):RK (b2Y n) :=
 okR [eR a4H,eR (b2o n)] 9 Z0 [.tmp 4] Go.Proofs.Tryz.func87 (by kernel_rfl)
def b8u (_:Nat):Hints I:=mkH [(8,[[],[],[0,1],[0,1,2],[0,1,2,3],[0,1,2,3],[0,1,2,3,4,5],[0,1,2,3],[0,1,2,3],[0,1,2,3,4,5,6,7,8],[0,1,2,3,4,5,6,7,8,9],[0,1,2,3,4,5,6,7,8,9,10],[0,1,2,3,4,5,6,7,8,9,10,11]])] [] [] [] [(26,⟨2199023254000,[],[],[(11,.k (.d (.int .i64)))],[((.exit 0),[]),(.ret,[(4,.k (.d (.bool)))])],bnd tb (.slot 10) 1⟩),
 (13518,⟨1099509531024,[],[],[(21,.k (.d (.int .i64)))],[((.exit 2),[]),(.ret,[(4,.k (.d (.bool)))])],bnd tb (.slot 20) 1⟩)] [] [] []
def b6U (n:Nat):Row I:=⟨88,[.d (.dat 54),.d (.sl 3)],[.k (.d (.bool))],b5N n⟩
theorem b7w (n:Nat):RK (b6U n) :=
 okR [eR (a6X n),eR (a59 n)] 41 (b8u n) [.tmp 4] Go.Proofs.Tryz.func88 (by kernel_rfl)
def b6n (_:Nat):Hints I:=mkH [] [] [] [(125337,⟨83886080,[],[],[(.normal,[(24,.k (.d (.bool)))])]⟩)] [(122,⟨1099511365652,[],[],[(18,.k (.d (.int .i64)))],[((.exit 0),[]),(.ret,[(2,.k (.d (.bool)))])],bnd tb (.slot 17) 1⟩)] [] [] []
def b4B (n:Nat):Row I:=⟨60,[.d (.dat 54)],[.k (.d (.bool))],b2k n⟩
theorem b5h (n:Nat):RK (b4B n) :=
 okR [eR (a0i n),eR (a2E n),eR (a3Q n),eR (b4z n),eR (b7w n)] 40 (b6n n) [.tmp 2] Go.Proofs.Tryz.func60 (by kernel_rfl)
def a3Y:Row I:=⟨61,[.d (.sl 54)],[.k (.row 54 true)],a19⟩
theorem a4m:RK (a3Y) :=
 okR [] 9 Z0 [.tmp 2] Go.Proofs.Tryz.func61 (by kernel_rfl)
def b5W (_:Nat):Hints I:=mkH [(9,[[],[0],[0,1],[],[3],[3,4],[0,1,2,3,4,5],[0,1,2,3,4,5,6],[]])] [] [] [] [(250,⟨2305842734335788304,[36],[],[(38,.k (.d (.int .i64)))],[((.exit 0),[]),(.ret,[(4,.k (.d (.bool)))])],bnd tb (.slot 37) 1⟩),
 (64102,⟨1151795604700005392,[],[],[(50,.k (.d (.int .i64)))],[((.exit 2),[]),(.ret,[(4,.k (.d (.bool)))])],bnd tb (.slot 49) 1⟩)] [] [] []
def b4v (n:Nat):Row I:=⟨30,[.d (.dat 54),.d (.int .i64)],[.k (.d (.bool))],a0K n⟩
theorem b4R (n:Nat):RK (b4v n) :=
 okR [eR (b5Q n),eR (a2E n),eR (b5h n),eR a4m,eR (a6X n)] 61 (b5W n) [.tmp 4] Go.Proofs.Tryz.func30 (by kernel_rfl)
def b8V (_:Nat):Hints I:=mkH [(8,[[],[0],[0,1],[0,1,2],[0,1,2,3],[0,1,2],[0,1,2,5],[0,1,2,3,4,5,6],[0,1,2,3,4,5,6,7],[0,1,2],[0,1,2,3,4,5,6,7,8,9],[0,1,2,3,4,5,6,7,8,9,10],[0,1,2,3,4,5,6,7,8,9,10,11],[0,1,2,3,4,5,6,7,8,9,10,11,12],[0,1,2,3,4,5,6,7,8,9,10,11,12,13],[0,1,2,3,4,5,6,7,8,9,10,11,12,13,14],[0,1,2,3,4,5,6,7,8,9,10,11,12,13,14,15],[0,1,2,3,4,5,6,7,8,9,10,11,12,13,14,15,16],[0,1,2,3,4,5,6,7,8,9,10,11,12,13,14,15,16,17],[0,1,2,3,4,5,6,7,8,9,10,11,12,13,14,15,16,17,18],[0,1,2,3,4,5,6,7,8,9,10,11,12,13,14,15,16,17],[0,1,2,3,4,5,6,7,8,9,10,11,12,13,14,15,16,17,20],[0,1,2,3,4,5,6,7,8,9,10,11,12,13,14,15,16,17,20,21],[0,1,2,3,4,5,6,7,8,9,10,11,12,13,14,15,16,17,18,19,20,21,22],[0,1,2,3,4,5,6,7,8,9,10,11,12,13,14,15,16,17,18,19,20,21,22,23],[0,1,2,3,4,5,6,7,8,9,10,11,12,13,14,15,16,17,18,19,20,21,22,23,24],[0,1,2,3,4,5,6,7,8,9,10,11,12,13,14,15,16,17,18,19,20,21,22,23,24,25]])] [] [] [] [(58,⟨18889465931478580592668,[],[],[(18,.k (.d (.int .i64)))],[((.exit 0),[]),(.ret,[(2,.k (.d (.bool)))])],bnd tb (.slot 17) 1⟩)] [] [] []
def b65 (n:Nat):Row I:=⟨15,[.d (.dat 25)],[.k (.d (.bool))],a3w n⟩
theorem b2j (n:Nat):RK (b65 n) :=
 okR [eR b7u,eR (a0i n),eR b6e,eR (b4R n)] 74 (b8V n) [.tmp 2] Go.Proofs.Tryz.func15 (by kernel_rfl)
def a8H:Hints I:=mkH [] [] [] [] [(12,⟨268431376,[],[(0,.lvs [.row 5 false])],[(4,.k (.d (.int .u64)))],[((.exit 0),[(4,.k (.d (.int .u64)))])],bnd tb (.slot 4) 2⟩)] [] [] []
def a7b:Row I:=⟨63,[.var 61 (.lvs [.row 5 false]) true,.d (.int .i64)],[],Y1⟩
theorem J3:RK (a7b) :=
 okR [] 39 a8H [] Go.Proofs.Tryz.func63 (by kernel_rfl)
def a9o:Row I:=⟨31,[.var 61 (.lvs [.row 5 false]) true,.d (.str)],[],W0⟩
theorem a00:RK (a9o) :=
 okR [eR J3] 17 Z0 [] Go.Proofs.Tryz.func31 (by kernel_rfl)
def a8T:Row I:=⟨32,[.var 61 (.lvs [.row 5 false]) true,.d (.bool)],[],a0x⟩
theorem a3H:RK (a8T) :=
 okR [] 23 Z0 [] Go.Proofs.Tryz.func32 (by kernel_rfl)
def a7J:Row I:=⟨64,[.var 61 (.lvs [.row 5 false]) true,.d (.int .i64)],[],Y7⟩
theorem X2:RK (a7J) :=
 okR [eR J3] 7 Z0 [] Go.Proofs.Tryz.func64 (by kernel_rfl)
def b3c:Hints I:=mkH [] [] [] [] [(14,⟨4178048,[],[(0,.lvs [.row 5 false])],[(14,.k (.d (.int .i64)))],[((.exit 0),[])],bnd tb (.slot 13) 1⟩)] [] [] []
def b1r:Row I:=⟨120,[.var 61 (.lvs [.row 5 false]) true,.d (.sl 3),.d (.any)],[],a39⟩
theorem b2m:a0l Go.Proofs.Tryz.prog (b1r) (a8N 64 2 0) :=
 a2R a1D (a1c (a2K [eR J3,eR X2]) 3) mixed 22 (s0:=fun a=>b2h 64 2 0 (a1B tb 22 [.var 61 (.lvs [.row 5 false]) true,.d (.sl 3),.d (.any)] a)) (fn:=Go.Proofs.Tryz.f120) (cd:=a4G Go.Proofs.Tryz.f120) (H:=b3c) (rl:=[]) (fun X c σ a vs F h hv hF hC=>a4r rfl h hF hC) Go.Proofs.Tryz.func120 (by kernel_rfl) (by kernel_rfl) (by kernel_rfl) (by kernel_rfl) (by kernel_rfl) (by kernel_rfl) (by kernel_rfl)
def a8v:Row I:=⟨122,[.var 61 (.lvs [.row 5 false]) true,.d (.dat 102)],[],a0F⟩
theorem a9g:RK (a8v) :=
 okR [eR X2,eR a00,eR a3H] 22 Z0 [] Go.Proofs.Tryz.func122 (by kernel_rfl)
def a8r:Hints I:=mkH [] [] [] [] [(14,⟨4178048,[],[(0,.lvs [.row 5 false])],[(14,.k (.d (.int .i64)))],[((.exit 0),[])],bnd tb (.slot 13) 1⟩)] [] [] []
def a7a:Row I:=⟨121,[.var 61 (.lvs [.row 5 false]) true,.d (.sl 102),.d (.any)],[],a17⟩
theorem a78:a0l Go.Proofs.Tryz.prog (a7a) (a8N 122 2 0) :=
 a2R a1D (a1c (a2K [eR J3,eR a9g]) 3) mixed 22 (s0:=fun a=>b2h 122 2 0 (a1B tb 22 [.var 61 (.lvs [.row 5 false]) true,.d (.sl 102),.d (.any)] a)) (fn:=Go.Proofs.Tryz.f121) (cd:=a4G Go.Proofs.Tryz.f121) (H:=a8r) (rl:=[]) (fun X c σ a vs F h hv hF hC=>a4r rfl h hF hC) Go.Proofs.Tryz.func121 (by kernel_rfl) (by kernel_rfl) (by kernel_rfl) (by kernel_rfl) (by kernel_rfl) (by kernel_rfl) (by kernel_rfl)
def a9c:Row I:=⟨93,[.var 61 (.lvs [.row 5 false]) true,.d (.dat 81)],[],a0T⟩
theorem a9S:RK (a9c) :=
 okR [eR X2,eR J3,eR a00,eM 64 2 0 b2m,eM 122 2 0 a78] 42 Z0 [] Go.Proofs.Tryz.func93 (by kernel_rfl)
def a6u:Hints I:=mkH [] [] [] [] [(14,⟨4178048,[],[(0,.lvs [.row 5 false])],[(14,.k (.d (.int .i64)))],[((.exit 0),[])],bnd tb (.slot 13) 1⟩)] [] [] []
def a5k:Row I:=⟨92,[.var 61 (.lvs [.row 5 false]) true,.d (.sl 81),.d (.any)],[],a1m⟩
theorem a58:a0l Go.Proofs.Tryz.prog (a5k) (a8N 93 2 0) :=
 a2R a1D (a1c (a2K [eR J3,eR a9S]) 3) mixed 22 (s0:=fun a=>b2h 93 2 0 (a1B tb 22 [.var 61 (.lvs [.row 5 false]) true,.d (.sl 81),.d (.any)] a)) (fn:=Go.Proofs.Tryz.f92) (cd:=a4G Go.Proofs.Tryz.f92) (H:=a6u) (rl:=[]) (fun X c σ a vs F h hv hF hC=>a4r rfl h hF hC) Go.Proofs.Tryz.func92 (by kernel_rfl) (by kernel_rfl) (by kernel_rfl) (by kernel_rfl) (by kernel_rfl) (by kernel_rfl) (by kernel_rfl)
def a9U:Row I:=⟨65,[.var 61 (.lvs [.row 5 false]) true,.d (.dat 54)],[],a12⟩
theorem b0z:RK (a9U) :=
 okR [eM 93 2 0 a58,eR X2] 14 Z0 [] Go.Proofs.Tryz.func65 (by kernel_rfl)
def a6f:Row I:=⟨34,[.var 61 (.lvs [.row 5 false]) true,.d (.dat 57)],[],W8⟩
theorem a6V:RK (a6f) :=
 okR [eR a00,eR X2,eR b0z] 18 Z0 [] Go.Proofs.Tryz.func34 (by kernel_rfl)
def a5U:Hints I:=mkH [] [] [] [] [(14,⟨4178048,[],[(0,.lvs [.row 5 false])],[(14,.k (.d (.int .i64)))],[((.exit 0),[])],bnd tb (.slot 13) 1⟩)] [] [] []
def a4M:Row I:=⟨33,[.var 61 (.lvs [.row 5 false]) true,.d (.sl 57),.d (.any)],[],a1e⟩
theorem a5j:a0l Go.Proofs.Tryz.prog (a4M) (a8N 34 2 0) :=
 a2R a1D (a1c (a2K [eR J3,eR a6V]) 3) mixed 22 (s0:=fun a=>b2h 34 2 0 (a1B tb 22 [.var 61 (.lvs [.row 5 false]) true,.d (.sl 57),.d (.any)] a)) (fn:=Go.Proofs.Tryz.f33) (cd:=a4G Go.Proofs.Tryz.f33) (H:=a5U) (rl:=[]) (fun X c σ a vs F h hv hF hC=>a4r rfl h hF hC) Go.Proofs.Tryz.func33 (by kernel_rfl) (by kernel_rfl) (by kernel_rfl) (by kernel_rfl) (by kernel_rfl) (by kernel_rfl) (by kernel_rfl)
def a9z:Row I:=⟨16,[.var 61 (.lvs [.row 5 false]) true,.d (.dat 25)],[],a1F⟩
theorem b0i:RK (a9z) :=
 okR [eR a00,eR a3H,eM 34 2 0 a5j] 18 Z0 [] Go.Proofs.Tryz.func16 (by kernel_rfl)
def b4Q:Row I:=⟨17,[.d (.str)],[.k (.d (.str))],a3q⟩
theorem a9I:RK (b4Q) :=
 okR [eR c3C] 21 Z0 [.tmp 2] Go.Proofs.Tryz.func17 (by kernel_rfl)
def b3p (n:Nat):Row I:=⟨6,[.d (.dat 25)],[.k (.d (.str)),.k (.d (.int .i64))],a1s n⟩
theorem a7r (n:Nat):RK (b3p n) :=
 okR [eR (b2j n),eR b0i,eR a9I] 19 Z0 [.tmp 2,.tmp 3] Go.Proofs.Tryz.func6 (by kernel_rfl)
def b5e:Row I:=⟨18,[.d (.str)],[.k (.d (.str)),.k (.d (.int .i64))],a3r⟩
theorem b50:RK (b5e) :=
 okR [eR a9I] 18 Z0 [.tmp 2,.tmp 3] Go.Proofs.Tryz.func18 (by kernel_rfl)
def a9j:Row I:=⟨39,[.var 67 (.k (.d (.dat 67))) true,.d (.int .i64)],[],W2⟩
theorem V9:RK (a9j) :=
 okR [] 13 Z0 [] Go.Proofs.Tryz.func39 (by kernel_rfl)
def b0x:Hints I:=mkH [(1,[[],[0],[0,1],[0,1,2],[0,1,2,3],[0,1,2,3,4],[0,1,2,3,4,5],[0,1,2,3,4,5,6],[0,1,2,3,4,5,6,7],[0,1,2,3,4,5,6,7,8],[0,1,2,3,4,5],[0,1,2,3,4,5,10],[0,1,2,3,4,5,10,11],[0,1,2,3,4,5,10,11,12],[0,1,2,3,4,5,10,11,12,13],[0,1,2,3,4,5,6,7,8,9,10,11,12,13,14],[0,1,2,3,4,5,6,7,8,9,10,11,12,13,14,15]]),(5,[[],[0],[0,1],[0,1,2],[],[4],[4,5],[4,5,6],[4,5,6,7],[0,1,2,3,4,5,6,7,8],[0,1,2,3,4,5,6,7,8,9]])] [] [] [] [] [] [] []
def a9k:Row I:=⟨67,[.var 67 (.k (.d (.dat 67))) true],[.k (.d (.int .u8))],a2U⟩
theorem a3Z:RK (a9k) :=
 okR [eR V9] 39 b0x [.tmp 2] Go.Proofs.Tryz.func67 (by kernel_rfl)
def a8m (n:Nat):Hints I:=mkH [] [] [] [(1925,⟨50331648,[],[(0,.k (.d (.dat 67)))],[(.normal,[])]⟩)] [(30,⟨281474976710652,[],[(0,.k (.d (.dat 67)))],[(3,.k (.d (.int .u64))),(4,.k (.d (.int .i64)))],[(.ret,[(2,.k (.d (.int .i64)))])],fun _=>some n⟩)] [] [] []
def a7c (n:Nat):Row I:=⟨94,[.var 67 (.k (.d (.dat 67))) true],[.k (.d (.int .i64))],a03 n⟩
theorem a25 (n:Nat):RK (a7c n) :=
 okR [eR a3Z,eR V9] 48 (a8m n) [.tmp 2] Go.Proofs.Tryz.func94 (by kernel_rfl)
def a7H (n:Nat):Row I:=⟨68,[.var 67 (.k (.d (.dat 67))) true],[.k (.d (.int .i64))],Q4 n⟩
theorem K8 (n:Nat):RK (a7H n) :=
 okR [eR (a25 n)] 5 Z0 [.tmp 2] Go.Proofs.Tryz.func68 (by kernel_rfl)
def a9b (_:Nat):Hints I:=mkH [] [] [] [(29,⟨768,[],[(0,.k (.d (.dat 67)))],[(.normal,[])]⟩)] [] [] [] []
def a7U (n:Nat):Row I:=⟨66,[.var 67 (.k (.d (.dat 67))) true],[.k (.d (.int .i64))],W5 n⟩
theorem X1 (n:Nat):RK (a7U n) :=
 okR [eR (K8 n),eR V9] 16 (a9b n) [.tmp 2] Go.Proofs.Tryz.func66 (by kernel_rfl)
def b0R (_:Nat):Hints I:=mkH [(2,[[],[],[1],[1,2],[1,2,3],[1,2,3,4],[],[6],[6,7],[6,7,8],[1,2,3,4,5,6,7,8,9],[0,1,2,3,4,5,6,7,8,9,10]]),(6,[[],[0],[0,1],[0,1,2],[],[4],[4,5],[4,5,6],[],[4,5,6,7,8],[],[10],[10,11],[10,11,12],[0,1,2,3,4,5,6,7,8,9,10,11,12,13],[0,1,2,3,4,5,6,7,8,9,10,11,12,13,14]])] [] [] [] [] [] [] []
def a9d (n:Nat):Row I:=⟨35,[.var 67 (.k (.d (.dat 67))) true],[.k (.d (.str))],a0S n⟩
theorem a01 (n:Nat):RK (a9d n) :=
 okR [eR (X1 n),eR V9] 43 (b0R n) [.tmp 2] Go.Proofs.Tryz.func35 (by kernel_rfl)
def a92:Hints I:=mkH [] [] [] [(29,⟨768,[],[(0,.k (.d (.dat 67)))],[(.normal,[])]⟩)] [] [] [] []
def a8z:Row I:=⟨36,[.var 67 (.k (.d (.dat 67))) true],[.k (.d (.bool))],a2w⟩
theorem a3I:RK (a8z) :=
 okR [eR a3Z,eR V9] 12 a92 [.tmp 2] Go.Proofs.Tryz.func36 (by kernel_rfl)
def b0l (_:Nat):Hints I:=mkH [] [] [] [] [(58,⟨33554016,[],[(0,.k (.d (.dat 67)))],[(5,.k (.row 3 false)),(6,.k (.d (.int .i64)))],[((.exit 0),[(5,.k (.row 3 false))])],bnd tb (.slot 6) 2⟩)] [] [] []
def a8Z (n:Nat):Row I:=⟨123,[.var 67 (.k (.d (.dat 67))) true,.d (.any)],[.k (.row 3 false)],a4J n⟩
theorem a9l (n:Nat):a0l Go.Proofs.Tryz.prog (a8Z n) (a8N 68 1 0) :=
 a2R a1D (a1c (a2K [eR (X1 n),eR (K8 n)]) 3) mixed 26 (s0:=fun a=>b2h 68 1 0 (a1B tb 26 [.var 67 (.k (.d (.dat 67))) true,.d (.any)] a)) (fn:=Go.Proofs.Tryz.f123) (cd:=a4G Go.Proofs.Tryz.f123) (H:=(b0l n)) (rl:=[.tmp 4]) (fun X c σ a vs F h hv hF hC=>a4r rfl h hF hC) Go.Proofs.Tryz.func123 (by kernel_rfl) (by kernel_rfl) (by kernel_rfl) (by kernel_rfl) (by kernel_rfl) (by kernel_rfl) (by kernel_rfl)
def a85 (n:Nat):Row I:=⟨125,[.var 67 (.k (.d (.dat 67))) true],[.k (.d (.dat 102))],a4R n⟩
theorem a9p (n:Nat):RK (a85 n) :=
 okR [eR (K8 n),eR (a01 n),eR a3I] 13 Z0 [.cell 2 102] Go.Proofs.Tryz.func125 (by kernel_rfl)
def a5O (_:Nat):Hints I:=mkH [] [] [] [] [(58,⟨33554016,[],[(0,.k (.d (.dat 67)))],[(5,.k (.row 102 false)),(6,.k (.d (.int .i64)))],[((.exit 0),[(5,.k (.row 102 false))])],bnd tb (.slot 6) 2⟩)] [] [] []
def a45 (n:Nat):Row I:=⟨124,[.var 67 (.k (.d (.dat 67))) true,.d (.any)],[.k (.row 102 false)],a2M n⟩
theorem a5f (n:Nat):a0l Go.Proofs.Tryz.prog (a45 n) (a8N 125 1 0) :=
 a2R a1D (a1c (a2K [eR (X1 n),eR (a9p n)]) 3) mixed 26 (s0:=fun a=>b2h 125 1 0 (a1B tb 26 [.var 67 (.k (.d (.dat 67))) true,.d (.any)] a)) (fn:=Go.Proofs.Tryz.f124) (cd:=a4G Go.Proofs.Tryz.f124) (H:=(a5O n)) (rl:=[.tmp 4]) (fun X c σ a vs F h hv hF hC=>a4r rfl h hF hC) Go.Proofs.Tryz.func124 (by kernel_rfl) (by kernel_rfl) (by kernel_rfl) (by kernel_rfl) (by kernel_rfl) (by kernel_rfl) (by kernel_rfl)
def a9u (n:Nat):Row I:=⟨96,[.var 67 (.k (.d (.dat 67))) true],[.k (.d (.dat 81))],a5v n⟩
theorem a97 (n:Nat):RK (a9u n) :=
 okR [eR (K8 n),eR (a25 n),eR (a01 n),eM 68 1 0 (a9l n),eM 125 1 0 (a5f n)] 30 Z0 [.cell 2 81] Go.Proofs.Tryz.func96 (by kernel_rfl)
def a4z (_:Nat):Hints I:=mkH [] [] [] [] [(58,⟨33554016,[],[(0,.k (.d (.dat 67)))],[(5,.k (.row 81 false)),(6,.k (.d (.int .i64)))],[((.exit 0),[(5,.k (.row 81 false))])],bnd tb (.slot 6) 2⟩)] [] [] []
def a3V (n:Nat):Row I:=⟨95,[.var 67 (.k (.d (.dat 67))) true,.d (.any)],[.k (.row 81 false)],a2a n⟩
theorem a35 (n:Nat):a0l Go.Proofs.Tryz.prog (a3V n) (a8N 96 1 0) :=
 a2R a1D (a1c (a2K [eR (X1 n),eR (a97 n)]) 3) mixed 26 (s0:=fun a=>b2h 96 1 0 (a1B tb 26 [.var 67 (.k (.d (.dat 67))) true,.d (.any)] a)) (fn:=Go.Proofs.Tryz.f95) (cd:=a4G Go.Proofs.Tryz.f95) (H:=(a4z n)) (rl:=[.tmp 4]) (fun X c σ a vs F h hv hF hC=>a4r rfl h hF hC) Go.Proofs.Tryz.func95 (by kernel_rfl) (by kernel_rfl) (by kernel_rfl) (by kernel_rfl) (by kernel_rfl) (by kernel_rfl) (by kernel_rfl)
def b0b (n:Nat):Row I:=⟨69,[.var 67 (.k (.d (.dat 67))) true],[.k (.d (.dat 54))],a6s n⟩
theorem b08 (n:Nat):RK (b0b n) :=
 okR [eM 96 1 0 (a35 n),eR (K8 n)] 10 Z0 [.cell 2 54] Go.Proofs.Tryz.func69 (by kernel_rfl)
def a5F (n:Nat):Row I:=⟨38,[.var 67 (.k (.d (.dat 67))) true],[.k (.d (.dat 57))],a3i n⟩
theorem a6n (n:Nat):RK (a5F n) :=
 okR [eR (a01 n),eR (K8 n),eR (b08 n)] 11 Z0 [.cell 2 57] Go.Proofs.Tryz.func38 (by kernel_rfl)
def a4n (_:Nat):Hints I:=mkH [] [] [] [] [(58,⟨33554016,[],[(0,.k (.d (.dat 67)))],[(5,.k (.row 57 false)),(6,.k (.d (.int .i64)))],[((.exit 0),[(5,.k (.row 57 false))])],bnd tb (.slot 6) 2⟩)] [] [] []
def a3M (n:Nat):Row I:=⟨37,[.var 67 (.k (.d (.dat 67))) true,.d (.any)],[.k (.row 57 false)],a11 n⟩
theorem a3W (n:Nat):a0l Go.Proofs.Tryz.prog (a3M n) (a8N 38 1 0) :=
 a2R a1D (a1c (a2K [eR (X1 n),eR (a6n n)]) 3) mixed 26 (s0:=fun a=>b2h 38 1 0 (a1B tb 26 [.var 67 (.k (.d (.dat 67))) true,.d (.any)] a)) (fn:=Go.Proofs.Tryz.f37) (cd:=a4G Go.Proofs.Tryz.f37) (H:=(a4n n)) (rl:=[.tmp 4]) (fun X c σ a vs F h hv hF hC=>a4r rfl h hF hC) Go.Proofs.Tryz.func37 (by kernel_rfl) (by kernel_rfl) (by kernel_rfl) (by kernel_rfl) (by kernel_rfl) (by kernel_rfl) (by kernel_rfl)
def a9h (n:Nat):Row I:=⟨19,[.var 67 (.k (.d (.dat 67))) true],[.k (.d (.dat 25))],a5A n⟩
theorem a9Z (n:Nat):RK (a9h n) :=
 okR [eR (a01 n),eR a3I,eM 38 1 0 (a3W n)] 12 Z0 [.cell 2 25] Go.Proofs.Tryz.func19 (by kernel_rfl)
def b0W:Hints I:=mkH [(1,[[],[0],[0,1],[0,1,2],[],[4],[4,5],[4,5,6],[4,5,6,7],[0,1,2,3,4,5,6,7,8]])] [] [] [(13,⟨24576,[],[(0,.k (.d (.dat 67)))],[(.normal,[])]⟩)] [] [] [] []
def a9v:Row I:=⟨20,[.var 67 (.k (.d (.dat 67))) true],[.k (.d (.int .i64))],a5s⟩
theorem a9Q:RK (a9v) :=
 okR [eR V9] 19 b0W [.tmp 2] Go.Proofs.Tryz.func20 (by kernel_rfl)
def b3t (n:Nat):Row I:=⟨7,[.d (.str)],[.k (.d (.dat 25)),.k (.d (.int .i64))],a2p n⟩
theorem a7s (n:Nat):RK (b3t n) :=
 okR [eR b50,eR (a9Z n),eR a9Q,eR (b2j n)] 34 Z0 [.cell 2 25,.tmp 3] Go.Proofs.Tryz.func7 (by kernel_rfl)
def a9T (n:Nat):Row I:=⟨9,[],[.k (.d (.bool))],a1Y n⟩
theorem b0t (n:Nat):RK (a9T n) :=
 okR [eR (a7r n),eR (a7s n),eR c3C] 41 Z0 [.tmp 0] Go.Proofs.Tryz.func9 (by kernel_rfl)
def a5o (_:Nat):Hints I:=mkH [(7,[[],[],[0,1],[],[3],[3,4],[0,1,2,3,4,5],[],[],[8],[7,8,9],[0,1,2,3,4,5,6,7,8,9,10],[0,1,2,3,4,5,6,7,8,9,10,11],[0,1,2,3,4,5,6,7,8,9,10,11,12],[0,1,2,3,4,5,6,7,8,9,10,11,12,13],[0,1,2,3,4,5,6,7,8,9,10,11,12,13],[],[0,1,2,3,4,5,6,7,8,9,10,11,12,13,14,16],[0,1,2,3,4,5,6,7,8,9,10,11,12,13,14,15,16,17]])] [] [] [(125,⟨824633720836,[],[],[(.normal,[(2,.k (.d (.int .u8)))])]⟩)] [] [] [] []
def a4x (n:Nat):Row I:=⟨4,[.d (.sl 3),.d (.int .i64),.d (.int .u8)],[.k (.d (.bool))],a0g n⟩
theorem a4S (n:Nat):RK (a4x n) :=
 okR [eR (b1B n),eR (a7r n),eR (b0t n),eR (a7s n)] 61 (a5o n) [.tmp 6] Go.Proofs.Tryz.func4 (by kernel_rfl)
end Go.Qx
end
section
namespace Go.Pl
open Go Go.RowKit Go.Sx Go.Qx Go.Proofs.YthpckkffhbifnaaGreatDoor
def a55 (w:World):S:=⟨w,fun b=>match w.heap[b]? with | some (.cells c _ _)=>(c.size,0) | _=>(0,0)⟩
theorem c0X {w:World}{b o:Nat}{cs:List Value}(hn:cs≠[])(h:w.rangeAt b o cs)(hf:∀ j,j<cs.length->w.frozen? ⟨b,o+j,none⟩=false):a1h (a55 w) b o cs:=by
 refine ⟨⟨?_,hf⟩,h⟩
 have hl:0<cs.length:=List.length_pos_iff.2 hn
 have hj:=h (cs.length-1) _ (List.getElem?_eq_getElem (by omega))
 unfold World.cell? at hj
 simp only at hj
 split at hj
 ·rename_i c e f hb
  have h2:o+(cs.length-1)<c.size:=by
   simp only [Option.isSome_none,Bool.false_eq_true,if_false] at hj
   exact (Array.getElem?_eq_some_iff.1 hj).1
  show o+cs.length<=(match w.heap[b]? with | some (.cells c _ _)=>(c.size,0) | _=>(0,0)).1
  rw [hb]
  show o+cs.length<=c.size
  omega
 ·cases hj
theorem c0O {w:World}{base:Nat}{a:Addr}{n:Nat}{cs:List Value}(h:w.cells? base a n=some cs) :
 cs.length=n/\∀ (i:Nat) (v:Value),cs[i]?=some v->w.cell? (a.add i)=some v:=by
 unfold World.cells? at h
 split at h
 ·have hl:cs.length=n:=by simpa using mapM_some_length h
  refine ⟨hl,fun i v hv=>?_⟩
  have hi:i<n:=by have:=(List.getElem?_eq_some_iff.1 hv).1; omega
  have:=mapM_some_get h i i (by simp [hi])
  rw [this,hv]
 ·cases h
theorem c3H (a:Addr)(x j:Nat):(a.add x).add j=a.add (x+j):=by
 unfold Addr.add
 by_cases hx:x=0
 ·subst hx; simp
 ·by_cases hj:j=0
  ·subst hj; simp [hx]
  ·rw [if_neg hj,if_neg hx,if_neg (by omega),Nat.add_assoc]
theorem c1o {w:World}{a:Addr}{v:Value}(h:w.cell? a=some v):a.spot=none:=by
 unfold World.cell? at h
 split at h
 ·split at h
  ·cases h
  ·rename_i hs; simpa using hs
 ·cases h
section
variable {H:Type}{enc:TypeId×Value->H}{P:Program}{w:World}{base:Nat}{spare:Nat->Bool}{held:Bool}
theorem c0j {α:Type} [Rp α] {fuel:Nat}{t e:TypeId}{cs:List Value}{x:DataW H×List MemPlace}(ht:P.underlying t=some (.slice e))(hc:P.cellsOf e=Rp.sz α)(bk:α->Nat)
 (hrd:∀ (n:Nat) (cs:List Value) (x:DataW H×List MemPlace),n<fuel->w.noneFrozen x.2->DataW.trod enc P w base spare held n e cs=some x->∃ d:α,Rp.cells (a55 w) d cs/\bk d<=Rows.uptoBulk x.1) (hz:w.noneFrozen x.2)
 (h:DataW.trod enc P w base spare held fuel t cs=some x) :
 ∃ (ds:List α) (A:Option Addr) (c:Nat),cs=[.slice A ds.length c]/\Sl (a55 w) ds A c/\(ds.map bk).sum+1<=Rows.uptoBulk x.1:=by
 rcases DataW.trod_slice ht h with ⟨rfl,rfl⟩ | ⟨a,len,cap,elems,rest,n,rfl,rfl,rfl,hb,hl,hm,hle,hget,-,-⟩
 ·exact ⟨[],none,0,rfl,Sl.nil_ _ _ _ (Nat.zero_le _),by simp [Rows.uptoBulk]⟩
 have hze:∀ y∈elems,w.noneFrozen y.2:=fun y hy b off hm'=>hz b off (List.mem_append_right _ (List.mem_flatMap.2 ⟨y,List.mem_append_left _ hy,hm'⟩))
 have hzr:∀ i,i<(elems.length+rest.length)*P.cellsOf e->w.frozen? ⟨a.block,a.off+i,none⟩=false:=fun i hi=>hz _ _ (List.mem_append_left _ (List.mem_map.2 ⟨i,List.mem_range.2 hi,rfl⟩))
 have key:∀ (m i:Nat),i+m=len->∃ (ds:List α) (cs:List Value),ds.length=m/\Q8 (a55 w) ds cs /\
  (∀ (j:Nat) (v:Value),cs[j]?=some v->w.cell? (a.add (i*Rp.sz α+j))=some v)/\(ds.map bk).sum<=Rows.uptoBulkAll ((elems.drop i).map (·.1)):=by
  intro m
  induction m with
  | zero=>intro i _; exact ⟨[],[],rfl,rfl,fun j v hv=>by simp at hv,by simp⟩
  | succ m ih =>
    intro i hi
    obtain ⟨ds,cs,h1,h2,h3,h4⟩:=ih (i+1) (by omega)
    have hlt:i<elems.length:=by omega
    have hg:=hget i (by omega)
    rw [List.getElem?_eq_getElem hlt,Option.bind_eq_some_iff] at hg
    obtain ⟨cs0,hcs,htr⟩:=hg
    obtain ⟨d,hd,hbk⟩:=hrd n cs0 _ (by omega) (hze _ (List.getElem_mem hlt)) htr
    obtain ⟨hcl,hci⟩:=c0O hcs
    rw [hc] at hcl hci
    refine ⟨d::ds,cs0++cs,by simp [h1],⟨cs0,cs,rfl,hd,h2⟩,?_,?_⟩
    ·intro j v hv
     by_cases hj:j<Rp.sz α
     ·rw [List.getElem?_append_left (by omega)] at hv
      rw [<- c3H]
      exact hci j v hv
     ·rw [List.getElem?_append_right (by omega)] at hv
      have:=h3 _ v hv
      rw [hcl,Nat.add_mul,Nat.one_mul] at this
      have e:i*Rp.sz α+Rp.sz α+(j-Rp.sz α)=i*Rp.sz α+j:=by omega
      rw [e] at this
      exact this
    ·rw [List.drop_eq_getElem_cons hlt]
     simp only [List.map_cons,List.sum_cons,Rows.uptoBulkAll]
     omega
 obtain ⟨ds,cs,h1,h2,h3,h4⟩:=key len 0 (by omega)
 simp only [Nat.zero_mul,Nat.zero_add,List.drop_zero] at h3 h4
 refine ⟨ds,some a,cap,by rw [h1],⟨by omega,hm,cs,h2,fun hn=>?_⟩,by simp only [Rows.uptoBulk]; omega⟩
 have hne:=h2.ne_nil hn
 cases cs with
 | nil=>exact absurd rfl hne
 | cons v0 r =>
   have h0:=h3 0 v0 rfl
   have hs:a.spot=none:=c1o (by simpa [Addr.add] using h0)
   obtain ⟨b,o,sp⟩:=a
   simp only at hs
   subst hs
   refine ⟨b,o,rfl,c0X (by simp) ?_ (fun j hj=>hzr j (by
    have h5:=h2.len
    rw [h5,h1] at hj
    rw [hc,hle]
    exact Nat.lt_of_lt_of_le hj (Nat.mul_le_mul_right _ (Nat.le_add_right _ _))))⟩
   intro j v hv
   have:=h3 j v hv
   unfold Addr.add at this
   by_cases hj:j=0
   ·subst hj; simpa using this
   ·rw [if_neg hj] at this
    exact this
end
end Go.Pl
end
section
namespace Go.Pl
open Go Go.RowKit Go.Sx Go.Qx Go.Proofs.YthpckkffhbifnaaGreatDoor
theorem c3:Go.Proofs.Tryz.prog.cellsOf 3=1:=by kernel_rfl
theorem c5:Go.Proofs.Tryz.prog.cellsOf 5=1:=by kernel_rfl
section
variable {H:Type}{enc:TypeId×Value->H}{w:World}{base:Nat}{spare:Nat->Bool}{held:Bool}
theorem c69 {n:Nat}{cs:List Value}{x:DataW H×List MemPlace}(hz:w.noneFrozen x.2)(h:DataW.trod enc Go.Proofs.Tryz.prog w base spare held n 3 cs=some x):∃ d:Int,(rpK .i64).cells (a55 w) d cs/\b2D d<=Rows.uptoBulk x.1:=by
 obtain ⟨k,e0,rfl,_⟩:=DataW.trod_int Go.Proofs.Tryz.underlying3 h
 exact ⟨k,e0,by simp [b2D,Rows.uptoBulk]⟩
end
end Go.Pl
end

/- Part 4. -/
import Derived.Test.YthpckkffhbifnaaGreatDoorK2
import Derived.Test.YthpckkffhbifnaaGreatDoorK3
import Derived.ChangeArms
import Derived.KernelRfl
import Derived.OpenShut
import Derived.Shelf.Lays
import Derived.Shelf.Strconv.Itoa3
import Derived.Shelf.Strings.Builder1
import Derived.Test.YthpckkffhbifnaaGreatDoorProg
import Derived.Test.YthpckkffhbifnaaGreatDoorRows
section
namespace Go.Pl
open Go Go.RowKit Go.Sx Go.Qx
def isI (k:Int):Prop := -9223372036854775808<=k/\k<=9223372036854775807
theorem a29 {k:Int}(h0:0<=k)(h1:k<=1000000):isI k:=⟨by omega,by omega⟩
def a2F (k:Int):List Int:=b1Q 9 (zig k)
theorem b74:∀ (f z:Nat),(b1Q f z).length<=f+1
 | 0,z=>by simp [b1Q]
 | f+1,z=>by
   unfold b1Q
   split
   ·simp
   ·have:=b74 f (z / 128)
    simp only [List.length_cons]
    omega
theorem K2 (k:Int):(a2F k).length<=10:=b74 9 (zig k)
theorem b5P {a:Nat}(h:a<=100000000):Y5 a 1=some ():=by
 unfold Y5
 rw [if_pos (by omega)]
theorem b91 {z:Nat}(h:z<256):wr .u8 (z:Int)=(z:Int):=by rw [b8v]; omega
theorem b8l:∀ (f m z:Nat) (w:List Int),z<128^(f+1)->w.length+f<=90000000->z+1<=m->∃ z':Int,∃ w':List Int,y0 a0r m ((z:Int),w)=some (z',w')/\w'++[wr .u8 z']=w++b1Q f z/\w'.length<=w.length+f
 | 0,m,z,w,hz,_,hm=>by
   obtain ⟨m,rfl⟩:∃ k,m=k+1:=⟨m-1,by omega⟩
   have h1:decide (128<=(z:Int))=false:=decide_eq_false (by omega)
   refine ⟨(z:Int),w,?_,?_,by omega⟩
   ·rw [y0]
    unfold a0r
    simp only [h1,cond_false]
    rfl
   ·unfold b1Q
    rw [b91 (by omega)]
 | f+1,m,z,w,hz,hw,hm=>by
   obtain ⟨m,rfl⟩:∃ k,m=k+1:=⟨m-1,by omega⟩
   rw [y0]
   unfold a0r
   by_cases h:z<128
   ·have h1:decide (128<=(z:Int))=false:=decide_eq_false (by omega)
    refine ⟨(z:Int),w,?_,?_,by omega⟩
    ·simp only [h1,cond_false]
     rfl
    ·unfold b1Q
     rw [if_pos h,b91 (by omega)]
   ·have h1:decide (128<=(z:Int))=true:=decide_eq_true (by omega)
    have hd:z / 128<128^(f+1):=by
     rw [Nat.pow_succ] at hz
     exact Nat.div_lt_of_lt_mul (by rw [Nat.mul_comm]; exact hz)
    obtain ⟨z',w',k1,k2,k3⟩:=b8l f m (z / 128) (w++[((z%128+128:Nat):Int)]) hd (by rw [List.length_append]; simp only [List.length_cons,List.length_nil]; omega) (by omega)
    refine ⟨z',w',?_,?_,?_⟩
    ·simp only [h1,cond_true,Option.bind_some,c6v,c6R,b5P (show w.length+([((z%128+128:Nat):Int)]:List Int).length<=100000000 by simp only [List.length_cons,List.length_nil]; omega)]
     exact k1
    ·rw [k2,List.append_assoc]
     congr 1
     conv=>rhs; unfold b1Q
     rw [if_neg h]
     rfl
    ·rw [List.length_append] at k3
     simp only [List.length_cons,List.length_nil] at k3
     omega
theorem a4I {k:Int}(hk:isI k){w:List Int}(hw:w.length<=50000000):Y1 w k=some (w++a2F k):=by
 obtain ⟨a,c,h1,h2,h3⟩:=c5y hk
 have hz:=c4t hk
 obtain ⟨z',w',k1,k2,k3⟩:=b8l 9 (zig k+2) (zig k) w (by
  have:(18446744073709551616:Nat)<=128^(9+1):=by decide
  omega) (by omega) (by omega)
 unfold Y1
 rw [h1,Option.bind_some,h2,Option.bind_some,h3,show ((zig k:Int)).toNat+2=zig k+2 from rfl,k1,Option.bind_some]
 simp only [b5P (show w'.length+([wr .u8 z']:List Int).length<=100000000 by simp only [List.length_cons,List.length_nil]; omega),Option.bind_some]
 rw [k2]
 rfl
theorem a2s {k:Int}(hk:isI k){w:List Int}(hw:w.length<=50000000):Y7 w k=some (w++a2F k):=by
 unfold Y7
 rw [a4I hk hw]
 rfl
def b3b (s:ByteArray):List Int:=a2F (s.size:Int)++b9b s
def c0T (b:Bool):List Int:=if b=true then [1] else [0]
theorem b87 (s:ByteArray):(b9b s).length=s.size:=by
 unfold b9b
 rw [List.length_map]
 exact Array.length_toList
def OkT (s:ByteArray):Prop:=s.size<=20
theorem a3k {s:ByteArray}(h:OkT s):(b3b s).length<=30:=by
 have:=K2 (s.size:Int)
 unfold b3b
 rw [List.length_append,b87]
 unfold OkT at h
 omega
theorem b3T {s:ByteArray}(h:OkT s){w:List Int}(hw:w.length<=50000000):W2 w s=some (w++b3b s):=by
 have h1:s.size<=20:=h
 have h2:=K2 (s.size:Int)
 unfold W2
 rw [a4I (a29 (by omega) (by omega)) hw,Option.bind_some,b5P (by rw [List.length_append,b87]; omega),Option.bind_some]
 unfold b3b
 rw [List.append_assoc]
theorem b76 (b:Bool){w:List Int}(hw:w.length<=50000000):a0E w b=some (w++c0T b):=by
 unfold a0E
 cases b
 ·rw [cond_false,b5P (by simp only [List.length_cons,List.length_nil]; omega)]
  rfl
 ·rw [cond_true,b5P (by simp only [List.length_cons,List.length_nil]; omega)]
  rfl
theorem b8N {α:Type}(enc:α->List Int)(B:Nat):∀ (l:List α),(∀ x∈l,(enc x).length<=B)->(l.flatMap enc).length<=l.length*B
 | [],_=>by simp
 | x::l,h=>by
   have h1:=h x List.mem_cons_self
   have h2:=b8N enc B l fun y hy=>h y (List.mem_cons_of_mem _ hy)
   rw [List.flatMap_cons,List.length_append,List.length_cons,Nat.add_mul]
   omega
theorem c1c {α:Type}{step:Int×List Int->Option (Fl (Int×List Int) (List Int))}(wr1:List Int->α->Option (List Int))(enc:α->List Int)(l:List α)(B M:Nat)
 (hstep:∀ i w,step (i,w)=bif decide (i<(l.length:Int)) then (Option.bind (idx l i) fun e=>Option.bind (wr1 w e) fun r=>some (.next (wr .i64 (i+1),r))) else some (.done w))
 (hw1:∀ x∈l,∀ w:List Int,w.length<=M->wr1 w x=some (w++enc x)) (hB:∀ x∈l,(enc x).length<=B) (hl:l.length<=1000) {w:List Int} (hw:w.length+l.length*B<=M) :
 y0 step ((l.length:Int).toNat+1) (0,w)=some (w++l.flatMap enc):=by
 have key:∀ (m j:Nat) (v:List Int),l.length-j=m->j<=l.length->v.length<=w.length+j*B->y0 step (m+1) ((j:Int),v)=some (v++(l.drop j).flatMap enc):=by
  intro m
  induction m with
  | zero =>
    intro j v hm hj hv
    have e:j=l.length:=by omega
    subst e
    rw [y0,hstep,show decide ((l.length:Int)<(l.length:Int))=false from decide_eq_false (by omega),cond_false,List.drop_length]
    simp
  | succ m ih =>
    intro j v hm hj hv
    have hlt:j<l.length:=by omega
    have hjB:j*B<=l.length*B:=Nat.mul_le_mul_right _ (Nat.le_of_lt hlt)
    have hx:l[j]∈l:=List.getElem_mem hlt
    have hx1:=hB _ hx
    rw [y0,hstep,show decide ((j:Int)<(l.length:Int))=true from decide_eq_true (by omega),cond_true,a0b (List.getElem?_eq_getElem hlt),Option.bind_some,hw1 _ hx v (by omega),Option.bind_some]
    have e:wr .i64 ((j:Int)+1)=((j+1:Nat):Int):=by
     rw [a1A,a0c (by omega) (by omega)]
     omega
    show y0 step (m+1) (wr .i64 ((j:Int)+1),v++enc l[j])=_
    rw [e,ih (j+1) (v++enc l[j]) (by omega) (by omega) (by rw [List.length_append,Nat.add_mul]; omega),List.append_assoc,List.drop_eq_getElem_cons hlt,List.flatMap_cons]
 have:=key l.length 0 w (by omega) (by omega) (by omega)
 rw [List.drop_zero] at this
 exact this
def a3g {α:Type}(enc:α->List Int)(l:List α):List Int:=a2F (l.length:Int)++l.flatMap enc
theorem a8B {α:Type}{enc:α->List Int}{l:List α}(B n:Nat)(h:∀ x∈l,(enc x).length<=B)(hl:l.length<=n):(a3g enc l).length<=10+n*B:=by
 have h1:=b8N enc B l h
 have h2:=K2 (l.length:Int)
 have h3:l.length*B<=n*B:=Nat.mul_le_mul_right _ hl
 unfold a3g
 rw [List.length_append]
 omega
theorem b4j {α:Type}{step:Int×List Int->Option (Fl (Int×List Int) (List Int))}(wr1:List Int->α->Option (List Int))(enc:α->List Int)(l:List α)(B M:Nat)
 (hstep:∀ i w,step (i,w)=bif decide (i<(l.length:Int)) then (Option.bind (idx l i) fun e=>Option.bind (wr1 w e) fun r=>some (.next (wr .i64 (i+1),r))) else some (.done w))
 (hw1:∀ x∈l,∀ w:List Int,w.length<=M->wr1 w x=some (w++enc x)) (hB:∀ x∈l,(enc x).length<=B) (hl:l.length<=1000) {w:List Int} (hw0:w.length<=50000000) (hw:w.length+10+l.length*B<=M) :
 (Option.bind (Y1 w (l.length:Int)) fun r1=>Option.bind (y0 step ((l.length:Int).toNat+1) (0,r1)) fun b5=>some b5)=some (w++a3g enc l):=by
 have h2:=K2 (l.length:Int)
 rw [a4I (a29 (by omega) (by omega)) hw0,Option.bind_some,c1c wr1 enc l B M hstep hw1 hB hl (by rw [List.length_append]; omega),Option.bind_some]
 unfold a3g
 rw [List.append_assoc]
def b3M (f:Api_Field):List Int:=a2F f.Key_.Kind++(b3b f.Key_.Text++(a2F f.Node++c0T f.Optional))
def OkF (f:Api_Field):Prop:=isI f.Key_.Kind/\OkT f.Key_.Text/\isI f.Node
theorem b5v (b:Bool):(c0T b).length=1:=by cases b<;>rfl
theorem b8j {f:Api_Field}(h:OkF f):(b3M f).length<=51:=by
 have h1:=K2 f.Key_.Kind
 have h2:=a3k h.2.1
 have h3:=K2 f.Node
 unfold b3M
 simp only [List.length_append,b5v]
 omega
theorem c2d {f:Api_Field}(h:OkF f){w:List Int}(hw:w.length<=40000000):a0B w f=some (w++b3M f):=by
 have h1:=K2 f.Key_.Kind
 have h2:=a3k h.2.1
 have h3:=K2 f.Node
 unfold a0B
 rw [a2s h.1 (by omega),Option.bind_some,b3T h.2.1 (by simp only [List.length_append]; omega),Option.bind_some,a2s h.2.2 (by simp only [List.length_append]; omega),Option.bind_some,
  b76 _ (by simp only [List.length_append]; omega),Option.bind_some]
 unfold b3M
 simp only [List.append_assoc]
def b2d (x:Api_TypeNode):List Int:=a2F x.Kind++(a2F x.Lo++(a2F x.Hi++(b3b x.Text++(a3g a2F x.Kids++(a3g b3M x.Fields++(a2F x.Rest.1++a2F x.Rest.2))))))
structure OkN (x:Api_TypeNode):Prop where
 kind:isI x.Kind
 lo:isI x.Lo
 hi:isI x.Hi
 text:OkT x.Text
 kids:∀ k∈x.Kids,isI k
 kidl:x.Kids.length<=8
 flds:∀ f∈x.Fields,OkF f
 fldl:x.Fields.length<=8
 r1:isI x.Rest.1
 r2:isI x.Rest.2
theorem b7l {x:Api_TypeNode}(h:OkN x):(a3g a2F x.Kids).length<=90/\(a3g b3M x.Fields).length<=418 :=
 ⟨a8B 10 8 (fun k _=>K2 k) h.kidl,a8B 51 8 (fun f hf=>b8j (h.flds f hf)) h.fldl⟩
theorem b5q {x:Api_TypeNode}(h:OkN x):(b2d x).length<=588:=by
 have h1:=K2 x.Kind
 have h2:=K2 x.Lo
 have h3:=K2 x.Hi
 have h4:=a3k h.text
 have h5:=b7l h
 have h6:=K2 x.Rest.1
 have h7:=K2 x.Rest.2
 unfold b2d
 simp only [List.length_append]
 omega
theorem c4f {x:Api_TypeNode}(h:OkN x){w:List Int}(hw:w.length<=20000000):a0S w x=some (w++b2d x):=by
 have h1:=K2 x.Kind
 have h2:=K2 x.Lo
 have h3:=K2 x.Hi
 have h4:=a3k h.text
 have h5:=b7l h
 have h6:=K2 x.Rest.1
 have hkl:=h.kidl
 have hfl:=h.fldl
 have hk:∀ w:List Int,w.length<=30000000->a4m w x.Kids ()=some (w++a3g a2F x.Kids):=fun w hw =>
  b4j Y7 a2F x.Kids 10 50000000 (fun i w=>rfl) (fun k hk w hw=>a2s (h.kids k hk) hw) (fun k _=>K2 k) (by omega) (by omega) (by omega)
 have hf:∀ w:List Int,w.length<=30000000->a18 w x.Fields ()=some (w++a3g b3M x.Fields):=fun w hw =>
  b4j a0B b3M x.Fields 51 40000000 (fun i w=>rfl) (fun f hf w hw=>c2d (h.flds f hf) hw) (fun f hf=>b8j (h.flds f hf)) (by omega) (by omega) (by omega)
 unfold a0S
 rw [a2s h.kind (by omega),Option.bind_some,a4I h.lo (by simp only [List.length_append]; omega),Option.bind_some,a4I h.hi (by simp only [List.length_append]; omega),Option.bind_some,
  b3T h.text (by simp only [List.length_append]; omega),Option.bind_some,hk _ (by simp only [List.length_append]; omega),Option.bind_some,hf _ (by simp only [List.length_append]; omega),Option.bind_some,
  a2s h.r1 (by simp only [List.length_append]; omega),Option.bind_some,a2s h.r2 (by simp only [List.length_append]; omega),Option.bind_some]
 unfold b2d
 simp only [List.append_assoc]
def b6b (t:Api_Type):List Int:=a3g b2d t.Nodes++a2F t.Root
structure OkTy (t:Api_Type):Prop where
 nodes:∀ x∈t.Nodes,OkN x
 len:t.Nodes.length<=64
 root:isI t.Root
theorem c1G {t:Api_Type}(h:OkTy t):(b6b t).length<=37652:=by
 have h1:(a3g b2d t.Nodes).length<=10+64*588:=a8B 588 64 (fun x hx=>b5q (h.nodes x hx)) h.len
 have h2:=K2 t.Root
 unfold b6b
 rw [List.length_append]
 omega
theorem c4R {t:Api_Type}(h:OkTy t){w:List Int}(hw:w.length<=15000000):a1W w t=some (w++b6b t):=by
 have h1:(a3g b2d t.Nodes).length<=10+64*588:=a8B 588 64 (fun x hx=>b5q (h.nodes x hx)) h.len
 have hl:=h.len
 have hn:a1m w t.Nodes ()=some (w++a3g b2d t.Nodes) :=
  b4j a0S b2d t.Nodes 588 20000000 (fun i w=>rfl) (fun x hx w hw=>c4f (h.nodes x hx) hw) (fun x hx=>b5q (h.nodes x hx)) (by omega) (by omega) (by omega)
 unfold a1W
 rw [hn,Option.bind_some,a2s h.root (by simp only [List.length_append]; omega),Option.bind_some]
 unfold b6b
 rw [List.append_assoc]
def b3L (s:Api_Signature):List Int:=b3b s.Ref.Name++(a2F s.Ref.Arity++b6b s.Type_)
structure OkS (s:Api_Signature):Prop where
 name:OkT s.Ref.Name
 ar:isI s.Ref.Arity
 ty:OkTy s.Type_
theorem b85 {s:Api_Signature}(h:OkS s):(b3L s).length<=37692:=by
 have h1:=a3k h.name
 have h2:=K2 s.Ref.Arity
 have h3:=c1G h.ty
 unfold b3L
 simp only [List.length_append]
 omega
theorem b79 {s:Api_Signature}(h:OkS s){w:List Int}(hw:w.length<=10000000):W8 w s=some (w++b3L s):=by
 have h1:=a3k h.name
 have h2:=K2 s.Ref.Arity
 unfold W8
 rw [b3T h.name (by omega),Option.bind_some,a2s h.ar (by simp only [List.length_append]; omega),Option.bind_some,c4R h.ty (by simp only [List.length_append]; omega),Option.bind_some]
 unfold b3L
 simp only [List.append_assoc]
def a79 (i:Api_Interface):List Int:=b3b i.Module++(c0T i.Checked++a3g b3L i.Signatures)
end Go.Pl
end
section
namespace Go.Pl
open Go Go.RowKit Go.Sx Go.Qx
def a8w (k:Int):Bool:=decide (-9223372036854775808<=k)&&decide (k<=9223372036854775807)
def c4F (f:Api_Field):Bool:=a8w f.Key_.Kind&&(decide (f.Key_.Text.size<=20)&&a8w f.Node)
def c43 (x:Api_TypeNode):Bool:=a8w x.Kind&&(a8w x.Lo&&(a8w x.Hi&&(decide (x.Text.size<=20)&&(x.Kids.all a8w&&(decide (x.Kids.length<=8)&&(x.Fields.all c4F&&(decide (x.Fields.length<=8)&&(a8w x.Rest.1&&a8w x.Rest.2))))))))
def c0c (t:Api_Type):Bool:=t.Nodes.all c43&&(decide (t.Nodes.length<=64)&&a8w t.Root)
theorem a3v {k:Int}(h:a8w k=true):isI k:=by
 unfold a8w at h
 simpa [isI] using h
theorem c2z {t:Api_Type}(h:c0c t=true):OkTy t:=by
 unfold c0c at h
 simp only [Bool.and_eq_true,decide_eq_true_eq] at h
 refine ⟨fun x hx=>?_,h.2.1,a3v h.2.2⟩
 have hx:=List.all_eq_true.1 h.1 x hx
 unfold c43 at hx
 simp only [Bool.and_eq_true,decide_eq_true_eq] at hx
 obtain ⟨h1,h2,h3,h4,h5,h6,h7,h8,h9,h10⟩:=hx
 refine ⟨a3v h1,a3v h2,a3v h3,h4,fun k hk=>a3v (List.all_eq_true.1 h5 k hk),h6,fun f hf=>?_,h8,a3v h9,a3v h10⟩
 have hf:=List.all_eq_true.1 h7 f hf
 unfold c4F at hf
 simp only [Bool.and_eq_true,decide_eq_true_eq] at hf
 exact ⟨a3v hf.1,hf.2.1,a3v hf.2.2⟩
def b67:Api_TypeNode:=⟨3,-9223372036854775808,9223372036854775807,⟨#[]⟩,[],[],(0,0)⟩
def a4M:List Api_Type:=[⟨[b67],0⟩,
 ⟨[⟨6,0,0,⟨#[116,114,117,101]⟩,[],[],(0,0)⟩,⟨6,0,0,⟨#[102,97,108,115,101]⟩,[],[],(0,0)⟩,⟨16,0,0,⟨#[]⟩,[0,1],[],(0,0)⟩],2⟩,
 ⟨[⟨7,0,0,⟨#[]⟩,[],[],(0,0)⟩],0⟩,
 ⟨[b67,⟨9,0,0,⟨#[]⟩,[],[],(0,0)⟩,⟨12,0,0,⟨#[]⟩,[0,3],[],(0,0)⟩,⟨16,0,0,⟨#[]⟩,[1,2],[],(0,0)⟩],3⟩,
 ⟨[⟨7,0,0,⟨#[]⟩,[],[],(0,0)⟩,b67,⟨10,0,0,⟨#[]⟩,[0,1],[],(0,0)⟩],2⟩,
 ⟨[b67,b67,⟨14,0,0,⟨#[]⟩,[0,1],[],(0,0)⟩],2⟩,
 ⟨[b67,⟨2,0,0,⟨#[]⟩,[],[],(0,0)⟩,⟨2,0,0,⟨#[]⟩,[],[],(0,0)⟩,⟨13,0,0,⟨#[]⟩,[],[⟨⟨0,⟨#[97]⟩⟩,0,false⟩],(1,2)⟩],3⟩,
 ⟨[⟨2,0,0,⟨#[]⟩,[],[],(0,0)⟩],0⟩]
theorem c6n:J7 200000000 0=a4M[0]?:=by kernel_rfl
theorem c5V:J7 200000000 1=a4M[1]?:=by kernel_rfl
theorem c5T:J7 200000000 2=a4M[2]?:=by kernel_rfl
theorem c6r:J7 200000000 3=a4M[3]?:=by kernel_rfl
theorem c54:J7 200000000 4=a4M[4]?:=by kernel_rfl
theorem c6j:J7 200000000 5=a4M[5]?:=by kernel_rfl
theorem c6m:J7 200000000 6=a4M[6]?:=by kernel_rfl
theorem c5L:J7 200000000 7=a4M[7]?:=by kernel_rfl
def c3q (k:Int):Option Api_Type:=bif decide (0<=k) then a4M[k.toNat]? else none
theorem c2G {k:Int}(h0:0<=k)(h1:k<8):J7 200000000 k=c3q k:=by
 have e:k=0\/k=1\/k=2\/k=3\/k=4\/k=5\/k=6\/k=7:=by omega
 rcases e with rfl | rfl | rfl | rfl | rfl | rfl | rfl | rfl
 ·exact c6n
 ·exact c5V
 ·exact c5T
 ·exact c6r
 ·exact c54
 ·exact c6j
 ·exact c6m
 ·exact c5L
def b3P (d:Semtypeprog_Callee)(x3:(List Api_TypeNode)×Int×(Int×Int×Int×ByteArray×(List Int)×(List Api_Field)×Int×Int)):Option (Fl ((List Api_TypeNode)×Int×(Int×Int×Int×ByteArray×(List Int)×(List Api_Field)×Int×Int)) ((List Api_TypeNode)×(Int×Int×Int×ByteArray×(List Int)×(List Api_Field)×Int×Int))) :=
 bif decide (x3.2.1<((d.Params++([d.Result]:List Int)).length:Int))
 then (Option.bind (idx (d.Params++([d.Result]:List Int)) x3.2.1) fun e4 =>
 Option.bind (c3q e4) fun r5 =>
 Option.bind (Y5 (x3.2.2.2.2.2.2.1.length+([wr .i64 ((x3.1.length:Int)+r5.Root)]:List Int).length) 8) fun u6 =>
 Option.bind (y0 (a3o x3 r5) ((r5.Nodes.length:Int).toNat+1) (x3.1,0)) fun b19 =>
 some (.next (b19,wr .i64 (x3.2.1+1),(x3.2.2.1,x3.2.2.2.1,x3.2.2.2.2.1,x3.2.2.2.2.2.1,x3.2.2.2.2.2.2.1++([wr .i64 ((x3.1.length:Int)+r5.Root)]:List Int),x3.2.2.2.2.2.2.2.1,x3.2.2.2.2.2.2.2.2.1,x3.2.2.2.2.2.2.2.2.2))))
 else (some (.done (x3.1,(x3.2.2.1,x3.2.2.2.1,x3.2.2.2.2.1,x3.2.2.2.2.2.1,x3.2.2.2.2.2.2.1,x3.2.2.2.2.2.2.2.1,x3.2.2.2.2.2.2.2.2.1,x3.2.2.2.2.2.2.2.2.2))))
def b4T (d:Semtypeprog_Callee):Option Api_Signature :=
 Option.bind (Y5 (0+d.Params.length) 8) fun u1 =>
 Option.bind (Y5 (d.Params.length+([d.Result]:List Int).length) 8) fun u2 =>
 Option.bind (y0 (b3P d) (((d.Params++([d.Result]:List Int)).length:Int).toNat+1) (([Api_TypeNode.mk 0 0 0 (⟨#[]⟩:ByteArray) ([]:List Int) ([]:List Api_Field) (0,0)]:List Api_TypeNode),0,(14,0,0,(⟨#[]⟩:ByteArray),[],[],0,0))) fun b20 =>
 Option.bind (idx b20.1 0) fun e21 =>
 Option.bind (b20.1[(0:Int).toNat]?) fun e22 =>
 some (Api_Signature.mk (Api_Ref.mk d.Name (d.Params.length:Int)) (Api_Type.mk (b20.1.set ((0:Int).toNat) (Api_TypeNode.mk b20.2.1 b20.2.2.1 b20.2.2.2.1 b20.2.2.2.2.1 b20.2.2.2.2.2.1 b20.2.2.2.2.2.2.1 (b20.2.2.2.2.2.2.2.1,b20.2.2.2.2.2.2.2.2))) 0))
theorem c2I {d:Semtypeprog_Callee}(h:∀ x∈d.Params++([d.Result]:List Int),0<=x/\x<8):a1x d 200000000=b3P d:=by
 funext x3
 unfold a1x b3P
 cases decide (x3.2.1<((d.Params++([d.Result]:List Int)).length:Int))
 ·rfl
 ·simp only [cond_true]
  cases he:idx (d.Params++([d.Result]:List Int)) x3.2.1 with
  | none=>rfl
  | some e =>
    have hm:=h e (List.mem_of_getElem? (a4d he).2)
    simp only [Option.bind_some,c2G hm.1 hm.2]
theorem c4h {d:Semtypeprog_Callee}(h:∀ x∈d.Params++([d.Result]:List Int),0<=x/\x<8):a0q 200000000 d=b4T d:=by
 unfold a0q b4T
 rw [c2I h]
theorem c1j (m nm:ByteArray)(ps:List Int)(r:Int):b4T (Semtypeprog_Callee.mk m nm ps r)=(b4T (Semtypeprog_Callee.mk (⟨#[]⟩:ByteArray) (⟨#[]⟩:ByteArray) ps r)).map fun s=>Api_Signature.mk (Api_Ref.mk nm (ps.length:Int)) s.Type_:=by
 have e:b3P (Semtypeprog_Callee.mk m nm ps r)=b3P (Semtypeprog_Callee.mk (⟨#[]⟩:ByteArray) (⟨#[]⟩:ByteArray) ps r):=rfl
 unfold b4T
 rw [e]
 simp only [Option.map_bind]
 cases Y5 (0+ps.length) 8<;>try rfl
 cases Y5 (ps.length+([r]:List Int).length) 8<;>try rfl
 simp only [Option.bind_some]
 cases y0 (b3P (Semtypeprog_Callee.mk (⟨#[]⟩:ByteArray) (⟨#[]⟩:ByteArray) ps r)) (((ps++([r]:List Int)).length:Int).toNat+1) (([Api_TypeNode.mk 0 0 0 (⟨#[]⟩:ByteArray) ([]:List Int) ([]:List Api_Field) (0,0)]:List Api_TypeNode),0,(14,0,0,(⟨#[]⟩:ByteArray),[],[],0,0)) with
 | none=>rfl
 | some b =>
   simp only [Option.bind_some,Function.comp_def]
   cases idx b.1 0 with
   | none=>rfl
   | some e =>
     simp only [Option.bind_some,Function.comp_def]
     cases b.1[(0:Int).toNat]? with
     | none=>rfl
     | some e2=>rfl
def a3z (ps:List Int)(r:Int):Bool:=match b4T (Semtypeprog_Callee.mk (⟨#[]⟩:ByteArray) (⟨#[]⟩:ByteArray) ps r) with
 | some s=>c0c s.Type_&&(match a0K 200000000 s.Type_ (ps.length:Int) with
   | some _=>true
   | none=>false)
 | none=>false
end Go.Pl
end
section
namespace Go.Pl
open Go Go.RowKit Go.Sx Go.Qx
theorem b3k {i:Nat}(h:i<=2000000):wr .i64 ((i:Int)+1)=((i+1:Nat):Int):=by
 rw [a1A,a0c (by omega) (by omega)]
 omega
theorem b5Q {a b:Nat}(ha:a<=1000)(hb:b<=1000):Y5 a b=some ():=by
 unfold Y5
 have:a*b<=1000*1000:=Nat.mul_le_mul ha hb
 rw [if_pos (by omega)]
section
variable {L:List Int}
theorem c1y (hL:L.length<=4194304)(m nm:ByteArray)(r:Int):∀ (k f:Nat) (ps:List Int) (s:Semtypebase_Source),k+1<=f->OS L s->ps.length+k<=2->(∀ x∈ps,0<=x/\x<8) ->
 ∃ ps' s',y0 X9 f ((k:Int),(m,nm,ps,r),s)=some ((m,nm,ps',r),s')/\OS L s'/\ps'.length<=2/\∀ x∈ps',0<=x/\x<8
 | 0,f,ps,s,hf,hs,hl,hp=>by
   obtain ⟨f,rfl⟩:∃ k,f=k+1:=⟨f-1,by omega⟩
   refine ⟨ps,s,?_,hs,by omega,hp⟩
   rw [y0]
   rfl
 | k+1,f,ps,s,hf,hs,hl,hp=>by
   obtain ⟨f,rfl⟩:∃ k,f=k+1:=⟨f-1,by omega⟩
   obtain ⟨x,t,h1,h2,h3,h4⟩:=J9 hL hs (n:=8) (by omega) (by omega)
   have hstep:X9 (((k+1:Nat):Int),(m,nm,ps,r),s)=some (.next ((k:Int),(m,nm,ps++[x],r),t)):=by
    unfold X9
    have e1:decide ((0:Int)<((k+1:Nat):Int))=true:=decide_eq_true (by omega)
    have e2:wr .i64 (((k+1:Nat):Int)-1)=(k:Int):=by rw [a1A,a0c (by omega) (by omega)]; omega
    simp only [e1,cond_true,h1,Option.bind_some,b5Q (show ps.length+([x]:List Int).length<=1000 by simp only [List.length_cons,List.length_nil]; omega) (show 8<=1000 by omega),e2]
   obtain ⟨ps',s',k1,k2,k3,k4⟩:=c1y hL m nm r k f (ps++[x]) t (by omega) h2 (by rw [List.length_append]; simp only [List.length_cons,List.length_nil]; omega) (fun y hy=>by
    rcases List.mem_append.1 hy with hy | hy
    ·exact hp y hy
    ·rw [List.mem_singleton.1 hy]; exact ⟨h3,h4⟩)
   refine ⟨ps',s',?_,k2,k3,k4⟩
   rw [y0,hstep]
   exact k1
def a3b:List ByteArray:=[⟨#[102]⟩,⟨#[103]⟩,⟨#[104]⟩]
structure Cal (c:Semtypeprog_Callee):Prop where
 name:c.Name∈a3b
 ps:c.Params.length<=2
 pr:∀ x∈c.Params,0<=x/\x<8
 res:0<=c.Result/\c.Result<8
def b6X (l:List Semtypeprog_Callee):Prop:=(∀ c∈l,Cal c)/\l.map (·.Name)=a3b.take l.length
theorem c1o (hL:L.length<=4194304)(m:ByteArray)(n:Nat)(hn:n<=3)(q:(List Semtypeprog_Callee)×Int×Bool×Int):∀ (k j:Nat) (acc:List Semtypeprog_Callee) (s:Semtypebase_Source),j+k=n->acc.length=j->b6X acc->OS L s ->
 ∃ acc' s',y0 (J4 m (n:Int)) (k+1) (acc,(j:Int),(s,q))=some (acc',(s',q))/\OS L s'/\acc'.length=n/\b6X acc'
 | 0,j,acc,s,hk,hj,ha,hs=>by
   refine ⟨acc,s,?_,hs,by omega,ha⟩
   rw [y0]
   unfold J4
   rw [show decide ((j:Int)<(n:Int))=false from decide_eq_false (by omega)]
   rfl
 | k+1,j,acc,s,hk,hj,ha,hs=>by
   obtain ⟨nm,hnm⟩:∃ nm,a3b[j]?=some nm:=⟨a3b[j]'(by show j<3; omega),List.getElem?_eq_getElem (by show j<3; omega)⟩
   obtain ⟨r,t,h1,h2,h3,h4⟩:=J9 hL hs (n:=8) (by omega) (by omega)
   obtain ⟨x,t2,g1,g2,g3,g4⟩:=J9 hL h2 (n:=3) (by omega) (by omega)
   obtain ⟨x',rfl⟩:∃ x':Nat,x=(x':Int):=⟨x.toNat,by omega⟩
   obtain ⟨ps',t3,k1,k2,k3,k4⟩:=c1y hL m nm r x' (((x':Int)).toNat+2) [] t2 (by omega) g2 (by simp only [List.length_nil]; omega) (fun y hy=>by cases hy)
   have hstep:J4 m (n:Int) (acc,(j:Int),(s,q))=some (.next (acc++[Semtypeprog_Callee.mk m nm ps' r],((j+1:Nat):Int),(t3,q))):=by
    unfold J4
    have e1:decide ((j:Int)<(n:Int))=true:=decide_eq_true (by omega)
    have e2:idx ([(⟨#[102]⟩:ByteArray),(⟨#[103]⟩:ByteArray),(⟨#[104]⟩:ByteArray)]:List ByteArray) (j:Int)=some nm:=a0b hnm
    have e3:([(⟨#[102]⟩:ByteArray),(⟨#[103]⟩:ByteArray),(⟨#[104]⟩:ByteArray)]:List ByteArray)[((j:Int)).toNat]?=some nm:=hnm
    simp only [e1,cond_true,e2,Option.bind_some,e3,h1,g1,k1,b5Q (show acc.length+([Semtypeprog_Callee.mk m nm ps' r]:List Semtypeprog_Callee).length<=1000 by simp only [List.length_cons,List.length_nil]; omega) (show 64<=1000 by omega),b3k (show j<=2000000 by omega)]
   have hc:b6X (acc++[Semtypeprog_Callee.mk m nm ps' r]):=by
    refine ⟨fun c hc=>?_,?_⟩
    ·rcases List.mem_append.1 hc with hc | hc
     ·exact ha.1 c hc
     ·rw [List.mem_singleton.1 hc]; exact ⟨List.mem_of_getElem? hnm,k3,k4,h3,h4⟩
    ·rw [List.map_append,ha.2,List.length_append,hj]
     show a3b.take j++[nm]=a3b.take (j+1)
     rw [List.take_add_one,hnm]
     rfl
   obtain ⟨acc',s',q1,q2,q3,q4⟩:=c1o hL m n hn q k (j+1) (acc++[Semtypeprog_Callee.mk m nm ps' r]) t3 (by omega) (by rw [List.length_append,hj]; rfl) hc k2
   refine ⟨acc',s',?_,q2,q3,q4⟩
   rw [y0,hstep]
   exact q1
theorem c0i (hL:L.length<=4194304)(m:ByteArray)(n:Nat)(hn:n<=3)(q:(List Semtypeprog_Callee)×Int×Bool×Int){s:Semtypebase_Source}(hs:OS L s) :
 ∃ l s',a0t (s,q) m (n:Int)=some (l,(s',q))/\OS L s'/\l.length=n/\b6X l:=by
 obtain ⟨l,s',k1,k2,k3,k4⟩:=c1o hL m n hn q n 0 [] s (by omega) rfl ⟨fun c hc=>(List.not_mem_nil hc).elim,rfl⟩ hs
 refine ⟨l,s',?_,k2,k3,k4⟩
 unfold a0t a1j
 have k1':y0 (J4 m (n:Int)) (((n:Int)).toNat+1) ([],0,(s,q))=some (l,(s',q)):=k1
 simp only [k1',Option.bind_some]
end
def b1L (c:Semtypeprog_Callee):Api_Ref:=Api_Ref.mk c.Name (c.Params.length:Int)
theorem c5g (l:List Semtypeprog_Callee)(hl:l.length<=3):y0 (K8 l) ((l.length:Int).toNat+1) ([],0)=some (l.map b1L):=by
 have key:∀ (k j:Nat) (acc:List Api_Ref),j+k=l.length->acc.length=j->y0 (K8 l) (k+1) (acc,(j:Int))=some (acc++(l.drop j).map b1L):=by
  intro k
  induction k with
  | zero =>
    intro j acc hj ha
    rw [y0]
    unfold K8
    rw [show decide ((j:Int)<(l.length:Int))=false from decide_eq_false (by omega),List.drop_of_length_le (by omega)]
    simp
  | succ k ih =>
    intro j acc hj ha
    have hlt:j<l.length:=by omega
    have hstep:K8 l (acc,(j:Int))=some (.next (acc++[b1L l[j]],((j+1:Nat):Int))):=by
     unfold K8
     simp only [show decide ((j:Int)<(l.length:Int))=true from decide_eq_true (by omega),cond_true,a0b (List.getElem?_eq_getElem hlt),Option.bind_some,b5Q (show acc.length+([Api_Ref.mk l[j].Name (l[j].Params.length:Int)]:List Api_Ref).length<=1000 by simp only [List.length_cons,List.length_nil]; omega) (show 24<=1000 by omega),b3k (show j<=2000000 by omega)]
     rfl
    rw [y0,hstep]
    have:=ih (j+1) (acc++[b1L l[j]]) (by omega) (by rw [List.length_append,ha]; rfl)
    rw [List.append_assoc] at this
    rw [List.drop_eq_getElem_cons hlt]
    exact this
 have:=key l.length 0 [] (by omega) rfl
 simpa using this
def a74 (l:List Api_Ref):Bool:=match a0l l with
 | some r=>decide (r.length<=3)
 | none=>false
theorem sr1:∀ a,a<3->a74 [⟨⟨#[102]⟩,((a:Nat):Int)⟩]=true:=by decide +kernel
theorem sr2:∀ a,a<3->∀ b,b<3->a74 [⟨⟨#[102]⟩,((a:Nat):Int)⟩,⟨⟨#[103]⟩,((b:Nat):Int)⟩]=true:=by decide +kernel
theorem sr3:∀ a,a<3->∀ b,b<3->∀ c,c<3->a74 [⟨⟨#[102]⟩,((a:Nat):Int)⟩,⟨⟨#[103]⟩,((b:Nat):Int)⟩,⟨⟨#[104]⟩,((c:Nat):Int)⟩]=true:=by decide +kernel
theorem sr0:a74 []=true:=by decide +kernel
theorem c51 {l:List Semtypeprog_Callee}(h:b6X l)(hl:l.length<=3):∃ r,a0l (l.map b1L)=some r/\r.length<=3:=by
 have hc:a74 (l.map b1L)=true:=by
  obtain ⟨h1,h2⟩:=h
  match l,hl,h1,h2 with
  | [],_,_,_=>exact sr0
  | [x],_,h1,h2 =>
    have e:x.Name=⟨#[102]⟩:=by simpa [a3b] using h2
    show a74 [⟨x.Name,_⟩]=true
    rw [e]
    exact sr1 _ (by have:=(h1 x List.mem_cons_self).ps; omega)
  | [x,y],_,h1,h2 =>
    have e:x.Name=⟨#[102]⟩/\y.Name=⟨#[103]⟩:=by simpa [a3b] using h2
    show a74 [⟨x.Name,_⟩,⟨y.Name,_⟩]=true
    rw [e.1,e.2]
    exact sr2 _ (by have:=(h1 x (by simp)).ps; omega) _ (by have:=(h1 y (by simp)).ps; omega)
  | [x,y,z],_,h1,h2 =>
    have e:x.Name=⟨#[102]⟩/\y.Name=⟨#[103]⟩/\z.Name=⟨#[104]⟩:=by simpa [a3b] using h2
    show a74 [⟨x.Name,_⟩,⟨y.Name,_⟩,⟨z.Name,_⟩]=true
    rw [e.1,e.2.1,e.2.2]
    exact sr3 _ (by have:=(h1 x (by simp)).ps; omega) _ (by have:=(h1 y (by simp)).ps; omega) _ (by have:=(h1 z (by simp)).ps; omega)
  | x::y::z::u::l,hl,_,_=>simp only [List.length_cons] at hl; omega
 unfold a74 at hc
 cases hs:a0l (l.map b1L) with
 | none=>rw [hs] at hc; cases hc
 | some r =>
   rw [hs] at hc
   exact ⟨r,rfl,of_decide_eq_true hc⟩
end Go.Pl
end
section
namespace Go.Pl
open Go Go.RowKit Go.Sx Go.Qx
theorem sg0:∀ r,r<8->a3z [] ((r:Nat):Int)=true:=by decide +kernel
theorem sg1:∀ a,a<8->∀ r,r<8->a3z [((a:Nat):Int)] ((r:Nat):Int)=true:=by decide +kernel
theorem c6i:∀ b,b<8->∀ r,r<8->a3z [0,((b:Nat):Int)] ((r:Nat):Int)=true:=by decide +kernel
theorem c6f:∀ b,b<8->∀ r,r<8->a3z [1,((b:Nat):Int)] ((r:Nat):Int)=true:=by decide +kernel
theorem c5W:∀ b,b<8->∀ r,r<8->a3z [2,((b:Nat):Int)] ((r:Nat):Int)=true:=by decide +kernel
theorem c6q:∀ b,b<8->∀ r,r<8->a3z [3,((b:Nat):Int)] ((r:Nat):Int)=true:=by decide +kernel
end Go.Pl
end
section
namespace Go.Pl
open Go Go.RowKit Go.Sx Go.Qx
theorem c5M:∀ b,b<8->∀ r,r<8->a3z [4,((b:Nat):Int)] ((r:Nat):Int)=true:=by decide +kernel
theorem c5K:∀ b,b<8->∀ r,r<8->a3z [5,((b:Nat):Int)] ((r:Nat):Int)=true:=by decide +kernel
theorem c5O:∀ b,b<8->∀ r,r<8->a3z [6,((b:Nat):Int)] ((r:Nat):Int)=true:=by decide +kernel
theorem c5Y:∀ b,b<8->∀ r,r<8->a3z [7,((b:Nat):Int)] ((r:Nat):Int)=true:=by decide +kernel
theorem sg2 {a b r:Nat}(ha:a<8)(hb:b<8)(hr:r<8):a3z [(a:Int),(b:Int)] (r:Int)=true:=by
 have e:a=0\/a=1\/a=2\/a=3\/a=4\/a=5\/a=6\/a=7:=by omega
 rcases e with rfl | rfl | rfl | rfl | rfl | rfl | rfl | rfl
 ·exact c6i b hb r hr
 ·exact c6f b hb r hr
 ·exact c5W b hb r hr
 ·exact c6q b hb r hr
 ·exact c5M b hb r hr
 ·exact c5K b hb r hr
 ·exact c5O b hb r hr
 ·exact c5Y b hb r hr
theorem c0l {x:Int}(h:0<=x/\x<8):∃ a:Nat,a<8/\x=(a:Int):=⟨x.toNat,by omega,by omega⟩
theorem c4U {ps:List Int}{r:Int}(hl:ps.length<=2)(hp:∀ x∈ps,0<=x/\x<8)(hr:0<=r/\r<8):a3z ps r=true:=by
 obtain ⟨r',hr',rfl⟩:=c0l hr
 match ps,hl,hp with
 | [],_,_=>exact sg0 r' hr'
 | [x],_,hp =>
   obtain ⟨a,ha,rfl⟩:=c0l (hp x List.mem_cons_self)
   exact sg1 a ha r' hr'
 | [x,y],_,hp =>
   obtain ⟨a,ha,rfl⟩:=c0l (hp x List.mem_cons_self)
   obtain ⟨b,hb,rfl⟩:=c0l (hp y (List.mem_cons_of_mem _ List.mem_cons_self))
   exact sg2 ha hb hr'
 | x::y::z::l,hl,_=>simp only [List.length_cons] at hl; omega
end Go.Pl
end
section
namespace Go.Pl
open Go Go.RowKit Go.Sx Go.Qx
structure Good (s:Api_Signature):Prop where
 ok:OkS s
 named:a0C s.Ref.Name=some true
 call:∃ b,a0K 200000000 s.Type_ s.Ref.Arity=some b
theorem c1F:∀ s∈a3b,a0C s=some true/\s.size<=20:=by
 have h:(a3b.all fun s=>a0C s==some true&&decide (s.size<=20))=true:=by decide +kernel
 intro s hs
 have:=List.all_eq_true.1 h s hs
 simpa using this
theorem c14 {c:Semtypeprog_Callee}(h:Cal c):∃ s,a0q 200000000 c=some s/\Good s:=by
 obtain ⟨m,nm,ps,r⟩:=c
 obtain ⟨h1,h2,h3,h4⟩:=h
 have hg:=c4U h2 h3 h4
 rw [c4h (fun x hx=>by
  rcases List.mem_append.1 hx with hx | hx
  ·exact h3 x hx
  ·rw [List.mem_singleton.1 hx]; exact h4),c1j]
 unfold a3z at hg
 cases hs:b4T (Semtypeprog_Callee.mk (⟨#[]⟩:ByteArray) (⟨#[]⟩:ByteArray) ps r) with
 | none=>rw [hs] at hg; cases hg
 | some s =>
   rw [hs] at hg
   simp only [Bool.and_eq_true] at hg
   obtain ⟨g1,g2⟩:=hg
   refine ⟨_,rfl,⟨(c1F nm h1).2,a29 (Int.natCast_nonneg _) (by have:ps.length<=2:=h2; show (ps.length:Int)<=1000000; omega),c2z g1⟩,(c1F nm h1).1,?_⟩
   show ∃ b,a0K 200000000 s.Type_ (ps.length:Int)=some b
   cases hb:a0K 200000000 s.Type_ (ps.length:Int) with
   | none=>rw [hb] at g2; cases g2
   | some b=>exact ⟨b,rfl⟩
theorem c44 {i:Nat}(h:1<=i)(h2:i<=2000000):wr .i64 ((i:Int)-1)=((i-1:Nat):Int):=by
 rw [a1A,a0c (by omega) (by omega)]
 omega
theorem c4C (l:List Semtypeprog_Callee)(hl:l.length<=3)(hc:∀ c∈l,Cal c)(e:Api_Ref)(d:ByteArray)(t:Bool):∀ (k j:Nat) (acc:List Api_Signature),j+k=l.length->acc.length+k<=100->(∀ s∈acc,Good s) ->
 ∃ acc',y0 (J6 l e 200000000) (k+1) ((j:Int),(d,t,acc))=some (d,t,acc')/\acc'.length<=acc.length+k/\∀ s∈acc',Good s:=by
 intro k
 induction k with
 | zero =>
   intro j acc hj hn ha
   refine ⟨acc,?_,by omega,ha⟩
   rw [y0]
   unfold J6
   rw [show decide ((j:Int)<(l.length:Int))=false from decide_eq_false (by omega)]
   rfl
 | succ k ih =>
   intro j acc hj hn ha
   have hlt:j<l.length:=by omega
   obtain ⟨s,hs,hg⟩:=c14 (hc l[j] (List.getElem_mem hlt))
   have hstep:J6 l e 200000000 ((j:Int),(d,t,acc))=some (.next (((j+1:Nat):Int),(d,t,acc++[s])))\/J6 l e 200000000 ((j:Int),(d,t,acc))=some (.next (((j+1:Nat):Int),(d,t,acc))):=by
    have hr:Y5 (acc.length+([s]:List Api_Signature).length) 56=some ():=b5Q (by simp only [List.length_cons,List.length_nil]; omega) (by omega)
    unfold J6
    simp only [show decide ((j:Int)<(l.length:Int))=true from decide_eq_true (by omega),cond_true,a0b (List.getElem?_eq_getElem hlt),Option.bind_some,hs,hr,b3k (show j<=2000000 by omega)]
    cases a6D s.Ref e
    ·exact .inr rfl
    ·simp only [cond_true]
     cases hz:((acc.length:Int)==0)
     ·simp only [cond_false]
      have hpos:1<=acc.length:=by
       have:(acc.length:Int)≠0:=by simpa using hz
       omega
      rw [c44 hpos (by omega),a0b (List.getElem?_eq_getElem (show acc.length-1<acc.length by omega))]
      simp only [Option.bind_some]
      cases !a6D (acc[acc.length-1]'(by omega)).Ref e
      ·exact .inr rfl
      ·exact .inl rfl
     ·exact .inl rfl
   rcases hstep with hstep | hstep
   ·obtain ⟨acc',k1,k2,k3⟩:=ih (j+1) (acc++[s]) (by omega) (by rw [List.length_append]; simp only [List.length_cons,List.length_nil]; omega) (fun y hy=>by
     rcases List.mem_append.1 hy with hy | hy
     ·exact ha y hy
     ·rw [List.mem_singleton.1 hy]; exact hg)
    refine ⟨acc',by rw [y0,hstep]; exact k1,?_,k3⟩
    rw [List.length_append] at k2
    simp only [List.length_cons,List.length_nil] at k2
    omega
   ·obtain ⟨acc',k1,k2,k3⟩:=ih (j+1) acc (by omega) (by omega) ha
    exact ⟨acc',by rw [y0,hstep]; exact k1,by omega,k3⟩
theorem c4y (l:List Semtypeprog_Callee)(hl:l.length<=3)(hc:∀ c∈l,Cal c)(r:List Api_Ref)(hr:r.length<=3)(d:ByteArray)(t:Bool):∀ (k j:Nat) (acc:List Api_Signature),j+k=r.length->acc.length+3*k<=9->(∀ s∈acc,Good s) ->
 ∃ acc',y0 (K7 l r 200000000) (k+1) ((j:Int),(d,t,acc))=some (d,t,acc')/\acc'.length<=acc.length+3*k/\∀ s∈acc',Good s:=by
 intro k
 induction k with
 | zero =>
   intro j acc hj hn ha
   refine ⟨acc,?_,by omega,ha⟩
   rw [y0]
   unfold K7
   rw [show decide ((j:Int)<(r.length:Int))=false from decide_eq_false (by omega)]
   rfl
 | succ k ih =>
   intro j acc hj hn ha
   have hlt:j<r.length:=by omega
   obtain ⟨acc1,k1,k2,k3⟩:=c4C l hl hc r[j] d t l.length 0 acc (by omega) (by omega) ha
   have k1':y0 (J6 l r[j] 200000000) ((l.length:Int).toNat+1) (0,(d,t,acc))=some (d,t,acc1):=k1
   have hstep:K7 l r 200000000 ((j:Int),(d,t,acc))=some (.next (((j+1:Nat):Int),(d,t,acc1))):=by
    unfold K7
    simp only [show decide ((j:Int)<(r.length:Int))=true from decide_eq_true (by omega),cond_true,a0b (List.getElem?_eq_getElem hlt),Option.bind_some,k1',b3k (show j<=2000000 by omega)]
   obtain ⟨acc',q1,q2,q3⟩:=ih (j+1) acc1 (by omega) (by omega) k3
   exact ⟨acc',by rw [y0,hstep]; exact q1,by omega,q3⟩
theorem b8V {l:List Semtypeprog_Callee}(h:b6X l)(hl:l.length<=3)(d:ByteArray)(t:Bool):∃ ss,a07 200000000 d t l=some (d,t,ss)/\ss.length<=9/\∀ s∈ss,Good s:=by
 obtain ⟨r,h1,h2⟩:=c51 h hl
 obtain ⟨ss,k1,k2,k3⟩:=c4y l hl h.1 r h2 d t r.length 0 [] (by omega) (by simp only [List.length_nil]; omega) (fun s hs=>by cases hs)
 refine ⟨ss,?_,by simp only [List.length_nil] at k2; omega,k3⟩
 have k1':y0 (K7 l r 200000000) ((r.length:Int).toNat+1) (0,(d,t,[]))=some (d,t,ss):=k1
 unfold a07
 simp only [c5g l hl,Option.bind_some,h1,k1']
structure Drw (s:Api_Signature):Prop where
 ok:OkS s
 named:a0C s.Ref.Name=some true
structure Mde (i:Api_Interface):Prop where
 mod:a0C i.Module=some true/\i.Module.size<=20
 len:i.Signatures.length<=10
 sigs:∀ s∈i.Signatures,Drw s
 call:i.Checked=false->∀ s∈i.Signatures,∃ b,a0K 200000000 s.Type_ s.Ref.Arity=some b
def b7P:List ByteArray:=[⟨#[109]⟩,⟨#[97]⟩,⟨#[120,49]⟩]
theorem c6V:∀ s∈b7P,a0C s=some true/\s.size<=20:=by
 have h:(b7P.all fun s=>a0C s==some true&&decide (s.size<=20))=true:=by decide +kernel
 intro s hs
 have:=List.all_eq_true.1 h s hs
 simpa using this
theorem c48:a0C ⟨#[122]⟩=some true:=by decide +kernel
theorem b3Z {N:Nat}(hN:N<=1000){k:Int}(h:inR N k=true):isI k:=by
 unfold inR at h
 simp only [Bool.and_eq_true,decide_eq_true_eq] at h
 exact a29 (by omega) (by omega)
theorem c3c {N:Nat}{x:Api_TypeNode}(h:a33 N x=true):1<=x.Kind/\x.Kind<=19:=by
 rcases a7Y x.Kind with hk | hk
 ·omega
 ·have hne:∀ n:Int,1<=n->n<=19->¬ x.Kind=n:=fun n h1 h2 e=>by
   have:=hk n h1 h2
   rw [e] at this
   simp at this
  unfold a33 at h
  rw [if_neg (hne 3 (by omega) (by omega)),if_neg (hne 4 (by omega) (by omega)),if_neg (hne 6 (by omega) (by omega)),if_neg (hne 19 (by omega) (by omega)),if_neg,if_neg (hne 10 (by omega) (by omega)),if_neg (hne 12 (by omega) (by omega)),
   if_neg (hne 14 (by omega) (by omega)),if_neg,if_neg (hne 18 (by omega) (by omega)),if_neg (hne 13 (by omega) (by omega))] at h
  ·cases h
  ·rintro (e | e)
   ·exact hne 16 (by omega) (by omega) e
   ·exact hne 17 (by omega) (by omega) e
  ·rintro (e | e | e | e | e | e | e | e)
   ·exact hne 1 (by omega) (by omega) e
   ·exact hne 2 (by omega) (by omega) e
   ·exact hne 5 (by omega) (by omega) e
   ·exact hne 7 (by omega) (by omega) e
   ·exact hne 8 (by omega) (by omega) e
   ·exact hne 9 (by omega) (by omega) e
   ·exact hne 11 (by omega) (by omega) e
   ·exact hne 15 (by omega) (by omega) e
theorem c17:isI 0:=⟨by omega,by omega⟩
theorem c5f {N i:Nat}{x:Api_TypeNode}(hN:N<=1000)(h:GN N i x):OkN x:=by
 have h1:=h.ok
 unfold a09 at h1
 simp only [Bool.and_eq_true] at h1
 obtain ⟨k1,_,_,k4,k5⟩:=h1
 have hk:=c3c k5
 have hr:=h.rng
 have hrest:(∀ f∈x.Fields,OkF f)/\isI x.Rest.1/\isI x.Rest.2:=by
  by_cases h13:x.Kind=13
  ·unfold a33 at k5
   rw [if_neg (by omega),if_neg (by omega),if_neg (by omega),if_neg (by omega),if_neg (by omega),if_neg (by omega),if_neg (by omega),if_neg (by omega),if_neg (by omega),if_neg (by omega),if_pos h13] at k5
   simp only [Bool.and_eq_true] at k5
   obtain ⟨f1,_,f2,f3⟩:=k5
   refine ⟨fun f hf=>?_,b3Z hN f2,b3Z hN f3⟩
   unfold a8f at f1
   simp only [Bool.and_eq_true] at f1
   have hb:=h.keys f hf
   have g1:=List.all_eq_true.1 f1.2.1 f hf
   have g2:=List.all_eq_true.1 f1.2.2 f hf
   refine ⟨?_,?_,b3Z hN g2⟩
   ·have:f.Key_.Kind=0\/f.Key_.Kind=1:=by
     unfold a7V at g1
     by_cases e0:f.Key_.Kind=0
     ·exact .inl e0
     ·by_cases e1:f.Key_.Kind=1
      ·exact .inr e1
      ·rw [if_neg e0,if_neg e1] at g1
       cases g1
    rcases this with e | e<;>rw [e]<;>exact a29 (by omega) (by omega)
   ·show f.Key_.Text.size<=20
    unfold b9L b6t at hb
    omega
  ·simp only [Bool.or_eq_true,beq_iff_eq,h13,false_or,Bool.and_eq_true] at k4
   obtain ⟨e1,e2⟩:=k4
   have e1:x.Fields=[]:=by simpa using e1
   unfold a24 at e2
   simp only [Bool.and_eq_true,beq_iff_eq] at e2
   refine ⟨fun f hf=>?_,by rw [e2.1]; exact c17,by rw [e2.2]; exact c17⟩
   rw [e1] at hf
   cases hf
 exact ⟨a29 (by omega) (by omega),⟨hr.1,hr.2.1⟩,⟨hr.2.2.1,hr.2.2.2⟩,by have:=h.text; show x.Text.size<=20; omega,fun k hk=>b3Z hN (List.all_eq_true.1 k1 k hk),by have:=h.kids; omega,hrest.1,by have:=h.flds; omega,hrest.2.1,hrest.2.2⟩
theorem c0m {N:Nat}{ns:List Api_TypeNode}(hN:N<=60)(hl:ns.length=N)(h:GNs N ns):OkTy (Api_Type.mk ns 0) :=
 ⟨fun x hx=>by
  obtain ⟨i,hi⟩:=List.getElem?_of_mem hx
  exact c5f (by omega) (h i x hi),by show ns.length<=64; omega,c17⟩
theorem b8n {s:Api_Signature}(h:Good s):Drw s:=⟨h.ok,h.named⟩
theorem c4o (l:List Int)(hl:l.length<=4194304):∃ i,a2c 200000000 l=some i/\Mde i:=by
 have hL:(l.take 50).length<=4194304:=by rw [List.length_take]; omega
 obtain ⟨x1,s1,a1,a2,a3,a4⟩:=J9 hL (s:=Semtypebase_Source.mk (l.take 50) 0) ⟨rfl,Int.le_refl _,Int.natCast_nonneg _⟩ (n:=3) (by omega) (by omega)
 obtain ⟨x2,s2,b1,b2,b3,b4⟩:=J9 hL a2 (n:=2) (by omega) (by omega)
 obtain ⟨x3,s3,c1,c2,c3,c4⟩:=J9 hL b2 (n:=3) (by omega) (by omega)
 obtain ⟨m1,rfl⟩:∃ m:Nat,x1=(m:Int):=⟨x1.toNat,by omega⟩
 obtain ⟨m3,rfl⟩:∃ m:Nat,x3=(m:Int):=⟨x3.toNat,by omega⟩
 obtain ⟨nm,hnm⟩:∃ nm,b7P[m1]?=some nm:=⟨b7P[m1]'(by show m1<3; omega),List.getElem?_eq_getElem (by show m1<3; omega)⟩
 have e3:wr .i64 (1+(m3:Int))=((m3+1:Nat):Int):=by rw [Int.add_comm]; exact b3k (by omega)
 obtain ⟨cs,s4,d1,d2,d3,d4⟩:=c0i hL (⟨#[]⟩:ByteArray) (m3+1) (by omega) (([]:List Semtypeprog_Callee),0,false,0) c2
 obtain ⟨ss,f1,f2,f3⟩:=b8V d4 (by omega) nm (x2==0)
 obtain ⟨x8,s8,g1,g2,g3,g4⟩:=J9 hL d2 (n:=3) (by omega) (by omega)
 have hi1:idx ([(⟨#[109]⟩:ByteArray),(⟨#[97]⟩:ByteArray),(⟨#[120,49]⟩:ByteArray)]:List ByteArray) (m1:Int)=some nm:=a0b hnm
 have hi2:([(⟨#[109]⟩:ByteArray),(⟨#[97]⟩:ByteArray),(⟨#[120,49]⟩:ByteArray)]:List ByteArray)[((m1:Int)).toNat]?=some nm:=hnm
 have hmod:=c6V nm (List.mem_of_getElem? hnm)
 unfold a2c
 simp only [a1,Option.bind_some,hi1,hi2,b1,c1,e3,d1,f1,g1]
 cases hz:(x8==1)
 ·refine ⟨_,rfl,hmod,by show ss.length<=10; omega,fun s hs=>b8n (f3 s hs),fun _ s hs=>(f3 s hs).call⟩
 ·simp only [cond_true]
  obtain ⟨x9,s9,p1,p2,p3,p4⟩:=J9 hL g2 (n:=4) (by omega) (by omega)
  obtain ⟨x10,s10,q1,q2,q3,q4⟩:=J9 hl (s:=Semtypebase_Source.mk l 0) ⟨rfl,Int.le_refl _,Int.natCast_nonneg _⟩ (n:=6) (by omega) (by omega)
  obtain ⟨m10,rfl⟩:∃ m:Nat,x10=(m:Int):=⟨x10.toNat,by omega⟩
  have e10:wr .i64 (1+(m10:Int))=((m10+1:Nat):Int):=by rw [Int.add_comm]; exact b3k (by omega)
  obtain ⟨ns,t,r1,r2,r3,r4⟩:=c2S hl q2 (m10+1) (by omega) (by omega)
  have hr:=b5Q (a:=ss.length+([Api_Signature.mk (Api_Ref.mk (⟨#[122]⟩:ByteArray) x9) (Api_Type.mk ns 0)]:List Api_Signature).length) (b:=56) (by simp only [List.length_cons,List.length_nil]; omega) (by omega)
  simp only [p1,Option.bind_some,q1,e10,r1,hr]
  refine ⟨_,rfl,hmod,?_,fun s hs=>?_,fun h=>by cases h⟩
  ·show (ss++[_]).length<=10
   rw [List.length_append]
   simp only [List.length_cons,List.length_nil]
   omega
  ·rcases List.mem_append.1 hs with hs | hs
   ·exact b8n (f3 s hs)
   ·rw [List.mem_singleton.1 hs]
    exact ⟨⟨show (⟨#[122]⟩:ByteArray).size<=20 from by decide,show isI x9 from a29 p3 (by omega),c0m (by omega) r3 r4⟩,c48⟩
end Go.Pl
end
section
namespace Go.Pl
open Go Go.RowKit Go.Sx Go.Qx
structure OkJ (i:Api_Interface):Prop where
 mod:OkT i.Module
 sigs:∀ s∈i.Signatures,OkS s
 len:i.Signatures.length<=10
theorem b8q {i:Api_Interface}(h:OkJ i):(a79 i).length<=400000:=by
 have h1:=a3k h.mod
 have h2:(a3g b3L i.Signatures).length<=10+10*37692:=a8B 37692 10 (fun x hx=>b85 (h.sigs x hx)) h.len
 unfold a79
 simp only [List.length_append,b5v]
 omega
theorem c23 {i:Api_Interface}(h:OkJ i):a1F [] i=some (a79 i):=by
 have h1:=a3k h.mod
 have hl:=h.len
 have e1:=b3T h.mod (w:=[]) (by simp)
 rw [List.nil_append] at e1
 have hn:∀ w:List Int,w.length<=1000->a1c w i.Signatures ()=some (w++a3g b3L i.Signatures):=fun w hw =>
  b4j W8 b3L i.Signatures 37692 10000000 (fun i w=>rfl) (fun x hx w hw=>b79 (h.sigs x hx) hw) (fun x hx=>b85 (h.sigs x hx)) (by omega) (by omega) (by omega)
 unfold a1F
 rw [e1,Option.bind_some,b76 _ (by omega),Option.bind_some,hn _ (by simp only [List.length_append,b5v]; omega),Option.bind_some]
 unfold a79
 simp only [List.append_assoc]
end Go.Pl
end
section
namespace Go.Pl
open Go Go.RowKit Go.Sx Go.Qx
theorem c1Z (x y:ByteArray):∃ r,a1X x y=some r:=by
 unfold a1X a2D
 simp only [Option.bind_some]
 generalize k7 x x=a
 generalize k7 y y=b
 generalize a1Z x y=c
 generalize k7 x y=d
 cases a<;>cases b<;>cases c<;>cases d<;>exact ⟨_,rfl⟩
theorem c1P (x y:Int):∃ r,a0A x y=some r:=by
 unfold a0A a2K
 simp only [Option.bind_some]
 cases (x != x)<;>cases (y != y)<;>cases decide (x<y)<;>cases decide (y<x)<;>exact ⟨_,rfl⟩
theorem c22 (a b:Int):∃ r,a7I [a,b]=some r:=by
 have h0:a1M [a,b] 0=(bif a != 0 then some (.done (.inr a)) else some (.next 1)):=by
  cases h:(a != 0)<;>simp [a1M,idx,h]<;>rfl
 have h1:a1M [a,b] 1=(bif b != 0 then some (.done (.inr b)) else some (.next 2)):=by
  cases h:(b != 0)<;>simp [a1M,idx,h]<;>rfl
 have h2:a1M [a,b] 2=some (.done (.inl ())):=rfl
 unfold a7I
 rw [show ((([a,b]:List Int).length:Int)).toNat+1=3 from rfl]
 simp only [y0,h0]
 cases (a != 0)
 ·simp only [cond_false,Option.bind_some,h1]
  cases (b != 0)
  ·simp only [cond_false,Option.bind_some,h2]
   exact ⟨_,rfl⟩
  ·exact ⟨_,rfl⟩
 ·exact ⟨_,rfl⟩
theorem b71 (a b:Api_Signature):∃ r,a3d a b=some r:=by
 obtain ⟨r1,h1⟩:=c1Z a.Ref.Name b.Ref.Name
 obtain ⟨r2,h2⟩:=c1P a.Ref.Arity b.Ref.Arity
 obtain ⟨r3,h3⟩:=c22 r1 r2
 unfold a3d
 simp only [h1,h2,Option.bind_some]
 rw [h3]
 exact ⟨_,rfl⟩
theorem c4d {t:Api_Type}(h:OkTy t):∃ r,J8 200000000 t=some r :=
 ⟨_,c4z t (fun x hx=>⟨by have:=(h.nodes x hx).kidl; omega,by have:=(h.nodes x hx).fldl; omega⟩) (by have:=h.len; omega) 200000000 (by have:=h.len; omega)⟩
theorem b98 {i:Api_Interface}(h:Mde i){j:Nat}(hj:j<i.Signatures.length):(∃ b,a1e i 200000000 (j:Int)=some (.done (.inr b)))\/a1e i 200000000 (j:Int)=some (.next ((j+1:Nat):Int)):=by
 have hs:=List.getElem_mem hj
 have hd:=h.sigs _ hs
 have hlen:=h.len
 obtain ⟨w,hw⟩:=c4d hd.ok.ty
 unfold a1e
 simp only [show decide ((j:Int)<(i.Signatures.length:Int))=true from decide_eq_true (by omega),cond_true,a0b (List.getElem?_eq_getElem hj),Option.bind_some,hd.named,Bool.not_true,cond_false,hw,b3k (show j<=2000000 by omega)]
 generalize hq:(bif decide (i.Signatures[j].Ref.Arity<0) then some true else some (decide (4<i.Signatures[j].Ref.Arity)))=q
 obtain ⟨b1,rfl⟩:∃ b1,q=some b1:=by
  rw [<- hq]
  cases decide (i.Signatures[j].Ref.Arity<0)
  ·exact ⟨_,rfl⟩
  ·exact ⟨_,rfl⟩
 simp only [Option.bind_some]
 generalize hq2:(bif b1 then some true else some (w != 0))=q2
 obtain ⟨b2,rfl⟩:∃ b2,q2=some b2:=by
  rw [<- hq2]
  cases b1
  ·exact ⟨_,rfl⟩
  ·exact ⟨_,rfl⟩
 simp only [Option.bind_some]
 cases b2
 ·simp only [cond_false]
  have hcall:∃ b,(bif !i.Checked then (Option.bind (a0K 200000000 i.Signatures[j].Type_ i.Signatures[j].Ref.Arity) fun r13=>some (!r13)) else some false)=some b:=by
   cases hc:i.Checked
   ·obtain ⟨b,hb⟩:=h.call hc _ hs
    rw [hb]
    exact ⟨_,rfl⟩
   ·exact ⟨_,rfl⟩
  obtain ⟨b3,hb3⟩:=hcall
  rw [hb3]
  have hcmp:∃ b,(bif decide ((0:Int)<(j:Int)) then (Option.bind (idx i.Signatures (wr .i64 ((j:Int)-1))) fun e10=>Option.bind (a3d e10 i.Signatures[j]) fun r11=>some (decide (0<=r11))) else some false)=some b:=by
   by_cases h0:0<j
   ·rw [show decide ((0:Int)<(j:Int))=true from decide_eq_true (by omega),c44 h0 (by omega),a0b (List.getElem?_eq_getElem (show j-1<i.Signatures.length by omega))]
    obtain ⟨r,hr⟩:=b71 (i.Signatures[j-1]'(by omega)) i.Signatures[j]
    simp only [cond_true,Option.bind_some,hr]
    exact ⟨_,rfl⟩
   ·rw [show decide ((0:Int)<(j:Int))=false from decide_eq_false (by omega)]
    exact ⟨_,rfl⟩
  obtain ⟨b4,hb4⟩:=hcmp
  rw [hb4]
  cases b4
  ·cases b3
   ·exact .inr rfl
   ·exact .inl ⟨_,rfl⟩
  ·exact .inl ⟨_,rfl⟩
 ·exact .inl ⟨_,rfl⟩
theorem c0j {i:Api_Interface}(h:Mde i):∃ b,a3s 200000000 i=some b:=by
 have key:∀ (k j:Nat),j+k=i.Signatures.length->∃ r,y0 (a1e i 200000000) (k+1) (j:Int)=some r:=by
  intro k
  induction k with
  | zero =>
    intro j hj
    refine ⟨.inl (),?_⟩
    rw [y0]
    unfold a1e
    rw [show decide ((j:Int)<(i.Signatures.length:Int))=false from decide_eq_false (by omega)]
    rfl
  | succ k ih =>
    intro j hj
    rcases b98 h (show j<i.Signatures.length by omega) with ⟨b,hb⟩ | hb
    ·exact ⟨_,by rw [y0,hb]; rfl⟩
    ·obtain ⟨r,hr⟩:=ih (j+1) (by omega)
     exact ⟨r,by rw [y0,hb]; exact hr⟩
 obtain ⟨r,hr⟩:=key i.Signatures.length 0 (by omega)
 have hr':y0 (a1e i 200000000) ((i.Signatures.length:Int).toNat+1) 0=some r:=hr
 unfold a3s
 have hlen:=h.len
 simp only [h.mod.1,Option.bind_some,Bool.not_true,cond_false,show decide ((10:Int)<(i.Signatures.length:Int))=false from decide_eq_false (by omega),hr']
 cases r<;>exact ⟨_,rfl⟩
theorem b9H {i:Api_Interface}(h:Mde i):OkJ i:=⟨h.mod.2,fun s hs=>(h.sigs s hs).ok,h.len⟩
theorem b7a (l:List Int):(a14 l).size=l.length:=by
 show (List.map _ l).toArray.size=_
 simp
theorem c13 {i:Api_Interface}(h:Mde i):a1s 200000000 i=some ((⟨#[]⟩:ByteArray),1)\/(a1s 200000000 i=some (Q1 (a14 (a79 i)),0)/\a3s 200000000 i=some true):=by
 obtain ⟨b,hb⟩:=c0j h
 have hJ:=b9H h
 have hl:=b8q hJ
 unfold a1s
 rw [hb]
 cases b
 ·exact .inl rfl
 ·refine .inr ⟨?_,rfl⟩
  simp only [Option.bind_some,Bool.not_true,cond_false,c23 hJ,b93 (s:=a14 (a79 i)) (by rw [b7a]; omega)]
end Go.Pl
end
section
namespace Go.Pl
open Go Go.RowKit Go.Sx Go.Qx
def b2U (_:Int):Nat:=1
def a8H (l:List Int):Nat:=(l.map b2U).sum+1
theorem b9S {α:Type}(b:α->Nat)(h:∀ x,1<=b x):∀ l:List α,l.length<=(l.map b).sum
 | []=>Nat.zero_le _
 | y::l=>by
   have h1:=h y
   have h2:=b9S b h l
   rw [List.map_cons,List.sum_cons,List.length_cons]
   omega
end Go.Pl
end
section
namespace Go.Pl
open Go Go.RowKit Go.Sx Go.Qx
theorem c3Z:a1U 200000000=some true:=by decide +kernel
theorem c6t {b:UInt8}{v:Int}(h0:0<=v)(h1:v<256)(hne:(b.toNat:Int)≠v):UInt8.ofNat v.toNat≠b:=by
 intro e
 apply hne
 rw [<- e]
 exact b9Y h0 h1
theorem c1E {s t:ByteArray}(h:s.size+t.size<=2000000):a2L s t=some (s++t):=by
 unfold a2L
 rw [if_pos (by omega)]
theorem c0F {n:Nat}{s x:ByteArray}{e:Int}(h:a3p s=some (x,e))(he:(e==0)=false):∃ i,a2g n s=some (i,e):=by
 unfold a2g
 rw [h]
 have h1:(e != 0)=true:=by simp [bne,he]
 simp only [Option.bind_some,h1,cond_true]
 exact ⟨_,rfl⟩
theorem c4w (a:Int){s:Nat}(h0:0<s)(h1:s<=1000000):∃ k:Nat,b0l (wr .u64 a) (wr .u64 (s:Int))=some (k:Int)/\k<s:=by
 have e:wr .u64 (s:Int)=(s:Int):=by rw [wrU]; omega
 have ha:0<=wr .u64 a:=by rw [wrU]; omega
 obtain ⟨b,hb⟩:∃ b:Nat,wr .u64 a=(b:Int):=⟨(wr .u64 a).toNat,by omega⟩
 refine ⟨b%s,?_,Nat.mod_lt _ h0⟩
 unfold b0l
 rw [e,hb,if_neg (by omega)]
 congr 1
theorem c5a:∀ l:List Int,l.length<=a8H l:=fun l=>by
 unfold a8H
 have:=b9S b2U (fun _=>Nat.le_refl _) l
 omega
theorem b2C (l:List Int)(a c:Int)(hb:a8H l<=1048576)(hc:0<=c/\c<256):∃ n,a0g n l a c=some true:=by
 refine ⟨200000000,?_⟩
 obtain ⟨i,h1,h2⟩:=c4o l (by have:=c5a l; omega)
 unfold a0g
 rw [h1,c3Z]
 simp only [Option.bind_some]
 rcases c13 h2 with he | ⟨he,_⟩
 ·rw [he]
  rfl
 ·rw [he]
  have hJ:=b9H h2
  have hs:(a14 (a79 i)).size<=400000:=by rw [b7a]; exact b8q hJ
  have hz:=b4M (a14 (a79 i))
  generalize a14 (a79 i)=s at *
  obtain ⟨k,hk,hkl⟩:=c4w a (s:=(Q1 s).size) (by omega) (by omega)
  have hlen:(Q1 s).data.toList.length=(Q1 s).size:=Array.length_toList
  obtain ⟨b,hbk⟩:∃ b,(Q1 s).data.toList[k]?=some b:=⟨_,List.getElem?_eq_getElem (by omega)⟩
  have w1:wr .i64 (k:Int)=(k:Int):=by rw [a1A,a0c (by omega) (by omega)]
  have hsx:a0M (Q1 s) (k:Int)=some b:=by
   unfold a0M
   rw [if_pos (Int.natCast_nonneg k),Int.toNat_natCast,<- hbk,Array.getElem?_toList]
   rfl
  have hz0:((((Q1 s).size:Int))==0)=false:=by
   have:((Q1 s).size:Int)≠0:=by omega
   simpa using this
  simp only [Option.bind_some,bne_self_eq_false,cond_false,hz0,hk,w1,hsx]
  obtain ⟨v,hv,hv0,hv1,hvn⟩:∃ v:Int,(bif ((b.toNat:Int)==c) then some (wr .u8 (c+1)) else some c)=some v/\0<=v/\v<256/\(b.toNat:Int)≠v:=by
   cases hbc:((b.toNat:Int)==c)
   ·exact ⟨c,rfl,hc.1,hc.2,by simpa using hbc⟩
   ·have e:(b.toNat:Int)=c:=by simpa using hbc
    refine ⟨wr .u8 (c+1),rfl,by rw [b8v]; omega,by rw [b8v]; omega,by rw [e,b8v]; omega⟩
  rw [hv]
  have hx1:((Q1 s).extract 0 k).size=k:=b82 (by omega)
  have hx2:(a14 ([v]:List Int)).size=1:=rfl
  have hx3:((Q1 s).extract (k+1) (Q1 s).size).size=(Q1 s).size-(k+1):=by rw [ByteArray.size_extract]; omega
  have w2:wr .i64 ((k:Int)+1)=((k+1:Nat):Int):=b3k (by omega)
  simp only [Option.bind_some,c1H (s:=Q1 s) (k:=k) (by omega),c1E (s:=(Q1 s).extract 0 k) (t:=a14 ([v]:List Int)) (by omega),w2,c4M (s:=Q1 s) (k:=k+1) (by omega),
   c1E (s:=(Q1 s).extract 0 k++a14 ([v]:List Int)) (t:=(Q1 s).extract (k+1) (Q1 s).size) (by rw [ByteArray.size_append]; omega)]
  obtain ⟨x,e,ho,he0⟩:=b8L (s:=s) (by omega) hbk (c6t hv0 hv1 hvn) (b9x (s:=Q1 s) (by omega) v)
  obtain ⟨j,hj⟩:=c0F (n:=200000000) ho he0
  have h1:(e != 0)=true:=by simp [bne,he0]
  rw [hj]
  simp only [Option.bind_some,h1,cond_true]
end Go.Pl
end
section
namespace Go.Proofs
open Go.Shelf
set_option maxRecDepth 100000
def Tryz.lay110_ren:Go.Shelf.Ren:=⟨fun | 190=>110 | 125=>141 | 258=>140 | 128=>163 | 129=>164 | 302=>154 | 303=>155 | 304=>156 | 305=>157 | 306=>158 | 307=>159 | 308=>160 | 309=>161 | 310=>162 | 333=>173 | 329=>174 | 330=>175 | 334=>176 | 335=>177 | 336=>82 | 344=>185 | n=>n,fun | 31=>41 | 9=>9 | 3=>3 | 46=>35 | 0=>0 | 51=>71 | 53=>143 | 4=>4 | 183=>197 | 182=>196 | 131=>181 | 5=>5 | 218=>206 | 222=>210 | 228=>219 | 229=>220 | n=>n,fun | n=>n⟩
theorem Tryz.lay110:Go.Proofs.Lays.n190 Tryz.prog Tryz.lay110_ren:={
 mixed:=by kernel_rfl
 f125:=Tryz.func141.trans (congrArg some (by kernel_rfl))
 f128:=Tryz.func163.trans (congrArg some (by kernel_rfl))
 f129:=Tryz.func164.trans (congrArg some (by kernel_rfl))
 f190:=Tryz.func110.trans (congrArg some (by kernel_rfl))
 f258:=Tryz.func140.trans (congrArg some (by kernel_rfl))
 f302:=Tryz.func154.trans (congrArg some (by kernel_rfl))
 f303:=Tryz.func155.trans (congrArg some (by kernel_rfl))
 f304:=Tryz.func156.trans (congrArg some (by kernel_rfl))
 f305:=Tryz.func157.trans (congrArg some (by kernel_rfl))
 f306:=Tryz.func158.trans (congrArg some (by kernel_rfl))
 f307:=Tryz.func159.trans (congrArg some (by kernel_rfl))
 f308:=Tryz.func160.trans (congrArg some (by kernel_rfl))
 f309:=Tryz.func161.trans (congrArg some (by kernel_rfl))
 f310:=Tryz.func162.trans (congrArg some (by kernel_rfl))
 f329:=Tryz.func174.trans (congrArg some (by kernel_rfl))
 f330:=Tryz.func175.trans (congrArg some (by kernel_rfl))
 f333:=Tryz.func173.trans (congrArg some (by kernel_rfl))
 f334:=Tryz.func176.trans (congrArg some (by kernel_rfl))
 f335:=Tryz.func177.trans (congrArg some (by kernel_rfl))
 f336:=Tryz.func82.trans (congrArg some (by kernel_rfl))
 f344:=Tryz.func185.trans (congrArg some (by kernel_rfl))
 t0:=Tryz.underlying0
 a0:=Tryz.isAgg0
 z0:=Tryz.sizeOf0
 v0:=Tryz.zeroValue0
 t3:=Tryz.underlying3
 a3:=Tryz.isAgg3
 z3:=Tryz.sizeOf3
 v3:=Tryz.zeroValue3
 t4:=Tryz.underlying4
 a4:=Tryz.isAgg4
 z4:=Tryz.sizeOf4
 v4:=Tryz.zeroValue4
 t5:=Tryz.underlying5
 a5:=Tryz.isAgg5
 z5:=Tryz.sizeOf5
 v5:=Tryz.zeroValue5
 t9:=Tryz.underlying9
 a9:=Tryz.isAgg9
 z9:=Tryz.sizeOf9
 v9:=Tryz.zeroValue9
 t31:=Tryz.underlying41
 a31:=Tryz.isAgg41
 z31:=Tryz.sizeOf41
 v31:=Tryz.zeroValue41
 t46:=Tryz.underlying35
 a46:=Tryz.isAgg35
 z46:=Tryz.sizeOf35
 v46:=Tryz.zeroValue35
 t51:=Tryz.underlying71
 a51:=Tryz.isAgg71
 z51:=Tryz.sizeOf71
 v51:=Tryz.zeroValue71
 t53:=Tryz.underlying143
 a53:=Tryz.isAgg143
 z53:=Tryz.sizeOf143
 v53:=Tryz.zeroValue143
 t131:=Tryz.underlying181
 a131:=Tryz.isAgg181
 z131:=Tryz.sizeOf181
 v131:=Tryz.zeroValue181
 t182:=Tryz.underlying196
 a182:=Tryz.isAgg196
 z182:=Tryz.sizeOf196
 v182:=Tryz.zeroValue196
 t183:=Tryz.underlying197
 a183:=Tryz.isAgg197
 z183:=Tryz.sizeOf197
 v183:=Tryz.zeroValue197
 t218:=Tryz.underlying206
 a218:=Tryz.isAgg206
 z218:=Tryz.sizeOf206
 v218:=Tryz.zeroValue206
 t222:=Tryz.underlying210
 a222:=Tryz.isAgg210
 z222:=Tryz.sizeOf210
 v222:=Tryz.zeroValue210
 t228:=Tryz.underlying219
 a228:=Tryz.isAgg219
 z228:=Tryz.sizeOf219
 v228:=Tryz.zeroValue219
 t229:=Tryz.underlying220
 a229:=Tryz.isAgg220
 z229:=Tryz.sizeOf220
 v229:=Tryz.zeroValue220 }
end Go.Proofs
end
section
namespace Go.Qx
open Go Go.RowKit Go.Sx
set_option maxRecDepth 100000
abbrev b6m (v:Api_Ref):ByteArray×Int:=(v.Name,v.Arity)
abbrev c0U (x:ByteArray×Int):Api_Ref:=⟨x.1,x.2⟩
@[reducible] def a4T:Rp Api_Ref:=a34 b6m (Q5 (rpStr) (rpK .i64))
abbrev b2E (v:Api_Field):Key×Int×Bool:=(v.Key_,v.Node,v.Optional)
abbrev b8O (x:Key×Int×Bool):Api_Field:=⟨x.1,x.2.1,x.2.2⟩
@[reducible] def a2h:Rp Api_Field:=a34 b2E (Q5 (rpKey) (Q5 (rpK .i64) (rpBool)))
abbrev a9L (v:Api_TypeNode):Int×Int×Int×ByteArray×(List Int)×(List Api_Field)×(Int×Int):=(v.Kind,v.Lo,v.Hi,v.Text,v.Kids,v.Fields,v.Rest)
abbrev b5I (x:Int×Int×Int×ByteArray×(List Int)×(List Api_Field)×(Int×Int)):Api_TypeNode:=⟨x.1,x.2.1,x.2.2.1,x.2.2.2.1,x.2.2.2.2.1,x.2.2.2.2.2.1,x.2.2.2.2.2.2⟩
@[reducible] def a1a:Rp Api_TypeNode:=a34 a9L (Q5 (rpK .i64) (Q5 (rpK .i64) (Q5 (rpK .i64) (Q5 (rpStr) (Q5 (@rpList _ (rpK .i64)) (Q5 (@rpList _ (a2h)) (Q5 (rpK .i64) (rpK .i64))))))))
abbrev b4L (v:Api_Type):(List Api_TypeNode)×Int:=(v.Nodes,v.Root)
abbrev b9C (x:(List Api_TypeNode)×Int):Api_Type:=⟨x.1,x.2⟩
@[reducible] def a0w:Rp Api_Type:=a34 b4L (Q5 (@rpList _ (a1a)) (rpK .i64))
abbrev a8S (v:Api_Signature):Api_Ref×Api_Type:=(v.Ref,v.Type_)
abbrev b4Y (x:Api_Ref×Api_Type):Api_Signature:=⟨x.1,x.2⟩
@[reducible] def a0V:Rp Api_Signature:=a34 a8S (Q5 (a4T) (a0w))
abbrev a89 (v:Api_Interface):ByteArray×Bool×(List Api_Signature):=(v.Module,v.Checked,v.Signatures)
abbrev b40 (x:ByteArray×Bool×(List Api_Signature)):Api_Interface:=⟨x.1,x.2.1,x.2.2⟩
@[reducible] def a4f:Rp Api_Interface:=a34 a89 (Q5 (rpStr) (Q5 (rpBool) (@rpList _ (a0V))))
abbrev a4s (v:Semtypebase_Source):(List Int)×Int:=(v.L,v.At)
abbrev b02 (x:(List Int)×Int):Semtypebase_Source:=⟨x.1,x.2⟩
@[reducible] def a2j:Rp Semtypebase_Source:=a34 a4s (Q5 (@rpList _ (rpK .i64)) (rpK .i64))
abbrev a7r (v:Summary_writer):(List Int):=v.b
abbrev b4C (x:(List Int)):Summary_writer:=⟨x⟩
@[reducible] def a3J:Rp Summary_writer:=a34 a7r (@rpList _ (rpK .u8))
abbrev a7y (v:Summary_reader):ByteArray×Int×Int:=(v.s,v.at_,v.code)
abbrev b4p (x:ByteArray×Int×Int):Summary_reader:=⟨x.1,x.2.1,x.2.2⟩
@[reducible] def a3Q:Rp Summary_reader:=a34 a7y (Q5 (rpStr) (Q5 (rpK .i64) (rpK .i64)))
abbrev a4t (v:Semtypeprog_Callee):ByteArray×ByteArray×(List Int)×Int:=(v.Module,v.Name,v.Params,v.Result)
abbrev b0M (x:ByteArray×ByteArray×(List Int)×Int):Semtypeprog_Callee:=⟨x.1,x.2.1,x.2.2.1,x.2.2.2⟩
@[reducible] def a2k:Rp Semtypeprog_Callee:=a34 a4t (Q5 (rpStr) (Q5 (rpStr) (Q5 (@rpList _ (rpK .i64)) (rpK .i64))))
abbrev b3E (v:Api_Arrow):(List Api_Type)×Api_Type:=(v.Params,v.Result)
abbrev b73 (x:(List Api_Type)×Api_Type):Api_Arrow:=⟨x.1,x.2⟩
@[reducible] def a8o:Rp Api_Arrow:=a34 b3E (Q5 (@rpList _ (a0w)) (a0w))
abbrev a4r (v:Semtyperef18_token):Int×ByteArray:=(v.Kind,v.Text)
abbrev b0C (x:Int×ByteArray):Semtyperef18_token:=⟨x.1,x.2⟩
@[reducible] def a2l:Rp Semtyperef18_token:=a34 a4r (Q5 (rpK .i64) (rpStr))
def tyL:List TE:=[⟨2,Int,rpK .i64⟩,
 ⟨3,Int,rpK .i64⟩,
 ⟨4,Bool,rpBool⟩,
 ⟨5,Int,rpK .u8⟩,
 ⟨9,ByteArray,rpStr⟩,
 ⟨22,List Int,@rpList _ (rpK .i64)⟩,
 ⟨23,List Api_Signature,@rpList _ (a0V)⟩,
 ⟨25,Api_Interface,a4f⟩,
 ⟨27,Int,rpK .i64⟩,
 ⟨36,List Int,@rpList _ (rpK .u8)⟩,
 ⟨49,Semtypebase_Source,a2j⟩,
 ⟨51,Api_Ref,a4T⟩,
 ⟨52,List Api_TypeNode,@rpList _ (a1a)⟩,
 ⟨54,Api_Type,a0w⟩,
 ⟨57,Api_Signature,a0V⟩,
 ⟨61,Summary_writer,a3J⟩,
 ⟨67,Summary_reader,a3Q⟩,
 ⟨75,Semtypeprog_Callee,a2k⟩,
 ⟨78,List Api_Field,@rpList _ (a2h)⟩,
 ⟨79,Int×Int,Q5 (rpK .i64) (rpK .i64)⟩,
 ⟨81,Api_TypeNode,a1a⟩,
 ⟨100,Key,rpKey⟩,
 ⟨102,Api_Field,a2h⟩,
 ⟨115,List Api_Type,@rpList _ (a0w)⟩,
 ⟨117,Api_Arrow,a8o⟩,
 ⟨174,Semtyperef18_token,a2l⟩,
 ⟨290,Bool×Bool,Q5 (rpBool) (rpBool)⟩]
abbrev I (E:TypeId):Type:=(c0y tyL E).α
instance rI (E:TypeId):Rp (I E):=(c0y tyL E).rp
def b5y:Fd I (I 25) inferInstance:=(a3x (rg:=a4f) (W4 (a7R:Fd I ByteArray (rpStr)) (W4 (b3N:Fd I Bool (rpBool)) ((a4F 57:Fd I (List Api_Signature) (@rpList _ (a0V)))))) a89 b40 (fun _=>rfl) (fun _ _ _=>Iff.rfl):Fd I Api_Interface a4f)
def b0P:Fd I (I 49) inferInstance:=(a3x (rg:=a2j) (W4 (a4F 3:Fd I (List Int) (@rpList _ (rpK .i64))) ((a1E .i64:Fd I Int (rpK .i64)))) a4s b02 (fun _=>rfl) (fun _ _ _=>Iff.rfl):Fd I Semtypebase_Source a2j)
def b5X:Fd I (I 51) inferInstance:=(a3x (rg:=a4T) (W4 (a7R:Fd I ByteArray (rpStr)) ((a1E .i64:Fd I Int (rpK .i64)))) b6m c0U (fun _=>rfl) (fun _ _ _=>Iff.rfl):Fd I Api_Ref a4T)
def a9P:Fd I (I 54) inferInstance:=(a3x (rg:=a0w) (W4 (a4F 81:Fd I (List Api_TypeNode) (@rpList _ (a1a))) ((a1E .i64:Fd I Int (rpK .i64)))) b4L b9C (fun _=>rfl) (fun _ _ _=>Iff.rfl):Fd I Api_Type a0w)
def b43:Fd I (I 57) inferInstance:=(a3x (rg:=a0V) (W4 (b58 51 b5X:Fd I Api_Ref (a4T)) ((b58 54 a9P:Fd I Api_Type (a0w)))) a8S b4Y (fun _=>rfl) (fun _ _ _=>Iff.rfl):Fd I Api_Signature a0V)
def b4E:Fd I (I 61) inferInstance:=(a3x (rg:=a3J) ((a4F 5:Fd I (List Int) (@rpList _ (rpK .u8)))) a7r b4C (fun _=>rfl) (fun _ _ _=>Iff.rfl):Fd I Summary_writer a3J)
def b4q:Fd I (I 67) inferInstance:=(a3x (rg:=a3Q) (W4 (a7R:Fd I ByteArray (rpStr)) (W4 (a1E .i64:Fd I Int (rpK .i64)) ((a1E .i64:Fd I Int (rpK .i64))))) a7y b4p (fun _=>rfl) (fun _ _ _=>Iff.rfl):Fd I Summary_reader a3Q)
def b0z:Fd I (I 75) inferInstance:=(a3x (rg:=a2k) (W4 (a7R:Fd I ByteArray (rpStr)) (W4 (a7R:Fd I ByteArray (rpStr)) (W4 (a4F 3:Fd I (List Int) (@rpList _ (rpK .i64))) ((a1E .i64:Fd I Int (rpK .i64)))))) a4t b0M (fun _=>rfl) (fun _ _ _=>Iff.rfl):Fd I Semtypeprog_Callee a2k)
def c11:Fd I (I 79) inferInstance:=(W4 (a1E .i64:Fd I Int (rpK .i64)) ((a1E .i64:Fd I Int (rpK .i64))):Fd I (Int×Int) (Q5 (rpK .i64) (rpK .i64)))
def b6c:Fd I (I 81) inferInstance:=(a3x (rg:=a1a) (W4 (a1E .i64:Fd I Int (rpK .i64)) (W4 (a1E .i64:Fd I Int (rpK .i64)) (W4 (a1E .i64:Fd I Int (rpK .i64)) (W4 (a7R:Fd I ByteArray (rpStr)) (W4 (a4F 3:Fd I (List Int) (@rpList _ (rpK .i64))) (W4 (a4F 102:Fd I (List Api_Field) (@rpList _ (a2h))) ((b58 79 c11:Fd I (Int×Int) (Q5 (rpK .i64) (rpK .i64)))))))))) a9L b5I (fun _=>rfl) (fun _ _ _=>Iff.rfl):Fd I Api_TypeNode a1a)
def c1m:Fd I (I 100) inferInstance:=(a3x (rg:=rpKey) (W4 (a1E .i64:Fd I Int (rpK .i64)) ((a7R:Fd I ByteArray (rpStr)))) Key.to Key.of (fun _=>rfl) Key.cells_to:Fd I Key rpKey)
def b88:Fd I (I 102) inferInstance:=(a3x (rg:=a2h) (W4 (b58 100 c1m:Fd I Key (rpKey)) (W4 (a1E .i64:Fd I Int (rpK .i64)) ((b3N:Fd I Bool (rpBool))))) b2E b8O (fun _=>rfl) (fun _ _ _=>Iff.rfl):Fd I Api_Field a2h)
def b72:Fd I (I 117) inferInstance:=(a3x (rg:=a8o) (W4 (a4F 54:Fd I (List Api_Type) (@rpList _ (a0w))) ((b58 54 a9P:Fd I Api_Type (a0w)))) b3E b73 (fun _=>rfl) (fun _ _ _=>Iff.rfl):Fd I Api_Arrow a8o)
def b0H:Fd I (I 174) inferInstance:=(a3x (rg:=a2l) (W4 (a1E .i64:Fd I Int (rpK .i64)) ((a7R:Fd I ByteArray (rpStr)))) a4r b0C (fun _=>rfl) (fun _ _ _=>Iff.rfl):Fd I Semtyperef18_token a2l)
def c31:Fd I (I 290) inferInstance:=(W4 (b3N:Fd I Bool (rpBool)) ((b3N:Fd I Bool (rpBool))):Fd I (Bool×Bool) (Q5 (rpBool) (rpBool)))
def feL:List (FE I):=[⟨2,a1E .i64⟩,
 ⟨3,a1E .i64⟩,
 ⟨4,b3N⟩,
 ⟨5,a1E .u8⟩,
 ⟨9,a7R⟩,
 ⟨22,a4F 3⟩,
 ⟨23,a4F 57⟩,
 ⟨25,b5y⟩,
 ⟨27,a1E .i64⟩,
 ⟨36,a4F 5⟩,
 ⟨49,b0P⟩,
 ⟨51,b5X⟩,
 ⟨52,a4F 81⟩,
 ⟨54,a9P⟩,
 ⟨57,b43⟩,
 ⟨61,b4E⟩,
 ⟨67,b4q⟩,
 ⟨75,b0z⟩,
 ⟨78,a4F 102⟩,
 ⟨79,c11⟩,
 ⟨81,b6c⟩,
 ⟨100,c1m⟩,
 ⟨102,b88⟩,
 ⟨115,a4F 54⟩,
 ⟨117,b72⟩,
 ⟨174,b0H⟩,
 ⟨290,c31⟩]
def c4s:TabL I where
 sz:=[(25,3),(51,2),(54,2),(57,4),(75,4),(79,2),(81,8),(100,2),(102,4),(117,3),(174,2)]
 one:=[(2,()),(3,()),(4,()),(9,()),(22,()),(23,()),(27,()),(36,()),(41,()),(42,()),(52,()),(78,()),(115,()),(120,()),(135,()),(149,()),(153,())]
 fld:=[(25,[(0,9),(1,4),(2,23)]),(45,[(0,42),(1,43),(2,3),(3,4),(4,3)]),(49,[(0,22),(1,3)]),(51,[(0,9),(1,3)]),(54,[(0,52),(1,3)]),(57,[(0,51),(2,54)]),(61,[(0,36)]),(67,[(0,9),(1,3),(2,27)]),(75,[(0,9),(1,9),(2,22),(3,3)]),(81,[(0,3),(1,2),(2,2),(3,9),(4,22),(5,78),(6,79)]),(100,[(0,3),(1,9)]),(102,[(0,100),(2,3),(3,4)]),(117,[(0,115),(1,54)]),(155,[(0,149),(1,3),(2,4),(3,4),(4,4),(5,3),(6,54),(8,41),(9,22),(10,153),(11,41)]),(174,[(0,3),(1,9)])]
 el:=[(22,3),(23,57),(36,5),(41,9),(43,75),(52,81),(73,51),(78,102),(103,2),(112,117),(115,54),(129,100),(149,174),(153,4)]
 str:=[(9,())]
 bool:=[]
 ik:=[(2,.i64),(3,.i64),(5,.u8),(35,.u64),(71,.u32),(143,.u64)]
 fe:=feL
 inf:=[(2,1,8,[.int .i64 0]),(3,1,8,[.int .i64 0]),(4,1,1,[.bool false]),(5,1,1,[.int .u8 0]),(9,1,16,[.str ⟨#[]⟩]),(22,1,24,[.nl 3]),(23,1,24,[.nl 57]),(25,3,48,[.str ⟨#[]⟩,.bool false,.nl 57]),(27,1,8,[.int .i64 0]),(36,1,24,[.nl 5]),(45,5,56,[.any,.nl 75,.int .i64 0,.bool false,.int .i64 0]),(49,2,32,[.nl 3,.int .i64 0]),(51,2,24,[.str ⟨#[]⟩,.int .i64 0]),(52,1,24,[.nl 81]),(54,2,32,[.nl 81,.int .i64 0]),(57,4,56,[.str ⟨#[]⟩,.int .i64 0,.nl 81,.int .i64 0]),(61,1,24,[.nl 5]),(67,3,32,[.str ⟨#[]⟩,.int .i64 0,.int .i64 0]),(75,4,64,[.str ⟨#[]⟩,.str ⟨#[]⟩,.nl 3,.int .i64 0]),(78,1,24,[.nl 102]),(79,2,16,[.int .i64 0,.int .i64 0]),(81,8,104,[.int .i64 0,.int .i64 0,.int .i64 0,.str ⟨#[]⟩,.nl 3,.nl 102,.int .i64 0,.int .i64 0]),(100,2,24,[.int .i64 0,.str ⟨#[]⟩]),(102,4,40,[.int .i64 0,.str ⟨#[]⟩,.int .i64 0,.bool false]),(115,1,24,[.nl 54]),(117,3,56,[.nl 54,.nl 81,.int .i64 0]),(120,1,8,[.any]),(135,1,8,[.any]),(153,1,24,[.nl 4]),(155,12,176,[.nl 174,.int .i64 0,.bool false,.bool false,.bool false,.int .i64 0,.nl 81,.int .i64 0,.nl 9,.nl 3,.nl 4,.nl 9]),(174,2,24,[.int .i64 0,.str ⟨#[]⟩]),(290,2,2,[.bool false,.bool false])]
 st:=[(25,[(0,1),(1,1),(2,1)]),(45,[(0,1),(1,1),(2,1),(3,1),(4,1)]),(49,[(0,1),(1,1)]),(51,[(0,1),(1,1)]),(54,[(0,1),(1,1)]),(57,[(0,2),(2,2)]),(61,[(0,1)]),(67,[(0,1),(1,1),(2,1)]),(75,[(0,1),(1,1),(2,1),(3,1)]),(79,[(0,1),(1,1)]),(81,[(0,1),(1,1),(2,1),(3,1),(4,1),(5,1),(6,2)]),(100,[(0,1),(1,1)]),(102,[(0,2),(2,1),(3,1)]),(117,[(0,1),(1,2)]),(155,[(0,1),(1,1),(2,1),(3,1),(4,1),(5,1),(6,2),(8,1),(9,1),(10,1),(11,1)]),(174,[(0,1),(1,1)]),(290,[(0,1),(1,1)])]
 eq:=[(51,b62 feL 51 a6D),(79,b62 feL 79 a8R),(100,b62 feL 100 b3X)]
 nest:=[(22,3,0),(191,3,1)]
 arr:=[(79,3,2,1),(290,4,2,1)]
 u8:=[(5,())]
 u8g:=[⟨5,fun y=>y⟩]
 mp:=[(132,.bool)]
 fb:=[(74,()),(75,()),(91,()),(103,()),(104,()),(115,())]
abbrev tb:Tab I:=c3v c4s
theorem ti2:Z9 Go.Proofs.Tryz.prog 2 (.int .i64 0) 1 8:=Z5 (by kernel_rfl)
theorem ti3:Z9 Go.Proofs.Tryz.prog 3 (.int .i64 0) 1 8:=Z5 (by kernel_rfl)
theorem ti4:Z9 Go.Proofs.Tryz.prog 4 (.bool false) 1 1:=Z5 (by kernel_rfl)
theorem ti5:Z9 Go.Proofs.Tryz.prog 5 (.int .u8 0) 1 1:=Z5 (by kernel_rfl)
theorem ti9:Z9 Go.Proofs.Tryz.prog 9 (.string ⟨#[]⟩) 1 16:=Z5 (by kernel_rfl)
theorem c6S:Z9 Go.Proofs.Tryz.prog 22 (.slice none 0 0) 1 24:=Z5 (by kernel_rfl)
theorem c6J:Z9 Go.Proofs.Tryz.prog 23 (.slice none 0 0) 1 24:=Z5 (by kernel_rfl)
theorem c7h:Z9 Go.Proofs.Tryz.prog 25 (.agg #[.string ⟨#[]⟩,.bool false,.slice none 0 0]) 3 48:=Z5 (by kernel_rfl)
theorem c6U:Z9 Go.Proofs.Tryz.prog 27 (.int .i64 0) 1 8:=Z5 (by kernel_rfl)
theorem c6I:Z9 Go.Proofs.Tryz.prog 36 (.slice none 0 0) 1 24:=Z5 (by kernel_rfl)
theorem c6P:Z9 Go.Proofs.Tryz.prog 45 (.agg #[.pointer none,.slice none 0 0,.int .i64 0,.bool false,.int .i64 0]) 5 56:=Z5 (by kernel_rfl)
theorem c67:Z9 Go.Proofs.Tryz.prog 49 (.agg #[.slice none 0 0,.int .i64 0]) 2 32:=Z5 (by kernel_rfl)
theorem c4K:Z9 Go.Proofs.Tryz.prog 51 (.agg #[.string ⟨#[]⟩,.int .i64 0]) 2 24:=Z5 (by kernel_rfl)
theorem c6O:Z9 Go.Proofs.Tryz.prog 52 (.slice none 0 0) 1 24:=Z5 (by kernel_rfl)
theorem c4A:Z9 Go.Proofs.Tryz.prog 54 (.agg #[.slice none 0 0,.int .i64 0]) 2 32:=Z5 (by kernel_rfl)
theorem c4W:Z9 Go.Proofs.Tryz.prog 57 (.agg #[.string ⟨#[]⟩,.int .i64 0,.slice none 0 0,.int .i64 0]) 4 56:=Z5 (by kernel_rfl)
theorem c7e:Z9 Go.Proofs.Tryz.prog 61 (.agg #[.slice none 0 0]) 1 24:=Z5 (by kernel_rfl)
theorem c6L:Z9 Go.Proofs.Tryz.prog 67 (.agg #[.string ⟨#[]⟩,.int .i64 0,.int .i64 0]) 3 32:=Z5 (by kernel_rfl)
theorem c4Y:Z9 Go.Proofs.Tryz.prog 75 (.agg #[.string ⟨#[]⟩,.string ⟨#[]⟩,.slice none 0 0,.int .i64 0]) 4 64:=Z5 (by kernel_rfl)
theorem c66:Z9 Go.Proofs.Tryz.prog 78 (.slice none 0 0) 1 24:=Z5 (by kernel_rfl)
theorem c6Z:Z9 Go.Proofs.Tryz.prog 79 (.agg #[.int .i64 0,.int .i64 0]) 2 16:=Z5 (by kernel_rfl)
theorem c5x:Z9 Go.Proofs.Tryz.prog 81 (.agg #[.int .i64 0,.int .i64 0,.int .i64 0,.string ⟨#[]⟩,.slice none 0 0,.slice none 0 0,.int .i64 0,.int .i64 0]) 8 104:=Z5 (by kernel_rfl)
theorem c3m:Z9 Go.Proofs.Tryz.prog 100 (.agg #[.int .i64 0,.string ⟨#[]⟩]) 2 24:=Z5 (by kernel_rfl)
theorem c3r:Z9 Go.Proofs.Tryz.prog 102 (.agg #[.int .i64 0,.string ⟨#[]⟩,.int .i64 0,.bool false]) 4 40:=Z5 (by kernel_rfl)
theorem c58:Z9 Go.Proofs.Tryz.prog 115 (.slice none 0 0) 1 24:=Z5 (by kernel_rfl)
theorem c3t:Z9 Go.Proofs.Tryz.prog 117 (.agg #[.slice none 0 0,.slice none 0 0,.int .i64 0]) 3 56:=Z5 (by kernel_rfl)
theorem c6s:Z9 Go.Proofs.Tryz.prog 120 (.nilFunc) 1 8:=Z5 (by kernel_rfl)
theorem c56:Z9 Go.Proofs.Tryz.prog 135 (.nilFunc) 1 8:=Z5 (by kernel_rfl)
theorem c6l:Z9 Go.Proofs.Tryz.prog 153 (.slice none 0 0) 1 24:=Z5 (by kernel_rfl)
theorem c5G:Z9 Go.Proofs.Tryz.prog 155 (.agg #[.slice none 0 0,.int .i64 0,.bool false,.bool false,.bool false,.int .i64 0,.slice none 0 0,.int .i64 0,.slice none 0 0,.slice none 0 0,.slice none 0 0,.slice none 0 0]) 12 176:=Z5 (by kernel_rfl)
theorem c3B:Z9 Go.Proofs.Tryz.prog 174 (.agg #[.int .i64 0,.string ⟨#[]⟩]) 2 24:=Z5 (by kernel_rfl)
theorem c5H:Z9 Go.Proofs.Tryz.prog 290 (.agg #[.bool false,.bool false]) 2 2:=Z5 (by kernel_rfl)
theorem to2:a0F Go.Proofs.Tryz.prog 2:=⟨_,Go.Proofs.Tryz.underlying2,rfl,by kernel_rfl⟩
theorem to3:a0F Go.Proofs.Tryz.prog 3:=⟨_,Go.Proofs.Tryz.underlying3,rfl,by kernel_rfl⟩
theorem to4:a0F Go.Proofs.Tryz.prog 4:=⟨_,Go.Proofs.Tryz.underlying4,rfl,by kernel_rfl⟩
theorem to9:a0F Go.Proofs.Tryz.prog 9:=⟨_,Go.Proofs.Tryz.underlying9,rfl,by kernel_rfl⟩
theorem c6Y:a0F Go.Proofs.Tryz.prog 22:=⟨_,Go.Proofs.Tryz.underlying22,rfl,by kernel_rfl⟩
theorem c6Q:a0F Go.Proofs.Tryz.prog 23:=⟨_,Go.Proofs.Tryz.underlying23,rfl,by kernel_rfl⟩
theorem c64:a0F Go.Proofs.Tryz.prog 27:=⟨_,Go.Proofs.Tryz.underlying27,rfl,by kernel_rfl⟩
theorem c6W:a0F Go.Proofs.Tryz.prog 36:=⟨_,Go.Proofs.Tryz.underlying36,rfl,by kernel_rfl⟩
theorem c7b:a0F Go.Proofs.Tryz.prog 41:=⟨_,Go.Proofs.Tryz.underlying41,rfl,by kernel_rfl⟩
theorem c6C:a0F Go.Proofs.Tryz.prog 42:=⟨_,Go.Proofs.Tryz.underlying42,rfl,by kernel_rfl⟩
theorem c6D:a0F Go.Proofs.Tryz.prog 52:=⟨_,Go.Proofs.Tryz.underlying52,rfl,by kernel_rfl⟩
theorem c6E:a0F Go.Proofs.Tryz.prog 78:=⟨_,Go.Proofs.Tryz.underlying78,rfl,by kernel_rfl⟩
theorem c6b:a0F Go.Proofs.Tryz.prog 115:=⟨_,Go.Proofs.Tryz.underlying115,rfl,by kernel_rfl⟩
theorem c53:a0F Go.Proofs.Tryz.prog 120:=⟨_,Go.Proofs.Tryz.underlying120,rfl,by kernel_rfl⟩
theorem c6y:a0F Go.Proofs.Tryz.prog 135:=⟨_,Go.Proofs.Tryz.underlying135,rfl,by kernel_rfl⟩
theorem c5I:a0F Go.Proofs.Tryz.prog 149:=⟨_,Go.Proofs.Tryz.underlying149,rfl,by kernel_rfl⟩
theorem c52:a0F Go.Proofs.Tryz.prog 153:=⟨_,Go.Proofs.Tryz.underlying153,rfl,by kernel_rfl⟩
theorem c7g {σ:S}{x y:Api_Ref}{cs ds:List Value}(h:(rI 51).cells σ x cs)(k:(rI 51).cells σ y ds):Sx.EqAt Go.Proofs.Tryz.prog 2 51 (.agg cs.toArray) (.agg ds.toArray) (a6D x y):=by
 obtain ⟨_,_,rfl,rfl,rfl⟩:=h
 obtain ⟨_,_,rfl,rfl,rfl⟩:=k
 exact b4N Go.Proofs.Tryz.underlying51 (by kernel_rfl) (a9I (by decide) (a0Y to9 rfl) (a0Y to9 rfl) (b8b Go.Proofs.Tryz.underlying9) (a9I (by decide) (a0Y to3 rfl) (a0Y to3 rfl) (b1H Go.Proofs.Tryz.underlying3) b8X))
theorem c6G {σ:S}{x y:Int×Int}{cs ds:List Value}(h:(rI 79).cells σ x cs)(k:(rI 79).cells σ y ds):Sx.EqAt Go.Proofs.Tryz.prog 2 79 (.agg cs.toArray) (.agg ds.toArray) (a8R x y):=by
 obtain ⟨_,_,rfl,rfl,rfl⟩:=h
 obtain ⟨_,_,rfl,rfl,rfl⟩:=k
 exact c2v Go.Proofs.Tryz.underlying79 ti3 (b7s (a0Y to3 rfl) (a0Y to3 rfl) (b1H Go.Proofs.Tryz.underlying3) (b7s (a0Y to3 rfl) (a0Y to3 rfl) (b1H Go.Proofs.Tryz.underlying3) c2l))
theorem c5P {σ:S}{x y:Key}{cs ds:List Value}(h:(rI 100).cells σ x cs)(k:(rI 100).cells σ y ds):Sx.EqAt Go.Proofs.Tryz.prog 2 100 (.agg cs.toArray) (.agg ds.toArray) (b3X x y):=by
 obtain ⟨_,_,rfl,rfl,rfl⟩:=h
 obtain ⟨_,_,rfl,rfl,rfl⟩:=k
 exact b4N Go.Proofs.Tryz.underlying100 (by kernel_rfl) (a9I (by decide) (a0Y to3 rfl) (a0Y to3 rfl) (b1H Go.Proofs.Tryz.underlying3) (a9I (by decide) (a0Y to9 rfl) (a0Y to9 rfl) (b8b Go.Proofs.Tryz.underlying9) b8X))
theorem eqT (T:TypeId)(g:I T->I T->Bool){K:Nat}(h:∀ {σ:S} {x y:I T} {cs ds:List Value},Rp.cells σ x cs->Rp.cells σ y ds->Sx.EqAt Go.Proofs.Tryz.prog K T (.agg cs.toArray) (.agg ds.toArray) (g x y))(hg:Go.Proofs.Tryz.prog.eqGuardType (Go.Proofs.Tryz.prog).depth T=false)(hK:Nat.ble K 10000=true)
 {X:Cxt} {c:Cx} {σ:S} {ls ms:List (PV I)} {r:Bool} {cs ds:List Value} (h1:b62 feL T g ls ms=some r) (h2:RG X c σ ls cs) (h3:RG X c σ ms ds) :
 Go.Proofs.Tryz.prog.eqGuardType (Go.Proofs.Tryz.prog).depth T=false/\∃ j,Nat.ble j 10000=true/\Sx.EqAt Go.Proofs.Tryz.prog j T (.agg cs.toArray) (.agg ds.toArray) r:=by
 obtain ⟨x,y,k1,k2,rfl⟩:=c4l h1 h2 h3
 exact ⟨hg,K,hK,h k1 k2⟩
theorem c40:TabLOk Go.Proofs.Tryz.prog c4s where
 sz:=⟨⟨_,Go.Proofs.Tryz.underlying25,rfl,by kernel_rfl⟩,⟨⟨_,Go.Proofs.Tryz.underlying51,rfl,by kernel_rfl⟩,⟨⟨_,Go.Proofs.Tryz.underlying54,rfl,by kernel_rfl⟩,⟨⟨_,Go.Proofs.Tryz.underlying57,rfl,by kernel_rfl⟩,⟨⟨_,Go.Proofs.Tryz.underlying75,rfl,by kernel_rfl⟩,⟨⟨_,Go.Proofs.Tryz.underlying79,rfl,by kernel_rfl⟩,⟨⟨_,Go.Proofs.Tryz.underlying81,rfl,by kernel_rfl⟩,⟨⟨_,Go.Proofs.Tryz.underlying100,rfl,by kernel_rfl⟩,⟨⟨_,Go.Proofs.Tryz.underlying102,rfl,by kernel_rfl⟩,⟨⟨_,Go.Proofs.Tryz.underlying117,rfl,by kernel_rfl⟩,⟨⟨_,Go.Proofs.Tryz.underlying174,rfl,by kernel_rfl⟩,trivial⟩⟩⟩⟩⟩⟩⟩⟩⟩⟩⟩
 one:=⟨to2,⟨to3,⟨to4,⟨to9,⟨c6Y,⟨c6Q,⟨c64,⟨c6W,⟨c7b,⟨c6C,⟨c6D,⟨c6E,⟨c6b,⟨c53,⟨c6y,⟨c5I,⟨c52,trivial⟩⟩⟩⟩⟩⟩⟩⟩⟩⟩⟩⟩⟩⟩⟩⟩⟩
 fld:=⟨⟨⟨_,_,Go.Proofs.Tryz.underlying25,rfl,rfl,by kernel_rfl⟩,⟨⟨_,_,Go.Proofs.Tryz.underlying25,rfl,rfl⟩,⟨⟨_,_,Go.Proofs.Tryz.underlying25,rfl,rfl,by kernel_rfl⟩,⟨⟨_,_,Go.Proofs.Tryz.underlying25,rfl,rfl⟩,⟨⟨_,_,Go.Proofs.Tryz.underlying25,rfl,rfl,by kernel_rfl⟩,⟨⟨_,_,Go.Proofs.Tryz.underlying25,rfl,rfl⟩,trivial⟩⟩⟩⟩⟩⟩,⟨⟨⟨_,_,Go.Proofs.Tryz.underlying45,rfl,rfl,by kernel_rfl⟩,⟨⟨_,_,Go.Proofs.Tryz.underlying45,rfl,rfl⟩,⟨⟨_,_,Go.Proofs.Tryz.underlying45,rfl,rfl,by kernel_rfl⟩,⟨⟨_,_,Go.Proofs.Tryz.underlying45,rfl,rfl⟩,⟨⟨_,_,Go.Proofs.Tryz.underlying45,rfl,rfl,by kernel_rfl⟩,⟨⟨_,_,Go.Proofs.Tryz.underlying45,rfl,rfl⟩,⟨⟨_,_,Go.Proofs.Tryz.underlying45,rfl,rfl,by kernel_rfl⟩,⟨⟨_,_,Go.Proofs.Tryz.underlying45,rfl,rfl⟩,⟨⟨_,_,Go.Proofs.Tryz.underlying45,rfl,rfl,by kernel_rfl⟩,⟨⟨_,_,Go.Proofs.Tryz.underlying45,rfl,rfl⟩,trivial⟩⟩⟩⟩⟩⟩⟩⟩⟩⟩,⟨⟨⟨_,_,Go.Proofs.Tryz.underlying49,rfl,rfl,by kernel_rfl⟩,⟨⟨_,_,Go.Proofs.Tryz.underlying49,rfl,rfl⟩,⟨⟨_,_,Go.Proofs.Tryz.underlying49,rfl,rfl,by kernel_rfl⟩,⟨⟨_,_,Go.Proofs.Tryz.underlying49,rfl,rfl⟩,trivial⟩⟩⟩⟩,⟨⟨⟨_,_,Go.Proofs.Tryz.underlying51,rfl,rfl,by kernel_rfl⟩,⟨⟨_,_,Go.Proofs.Tryz.underlying51,rfl,rfl⟩,⟨⟨_,_,Go.Proofs.Tryz.underlying51,rfl,rfl,by kernel_rfl⟩,⟨⟨_,_,Go.Proofs.Tryz.underlying51,rfl,rfl⟩,trivial⟩⟩⟩⟩,⟨⟨⟨_,_,Go.Proofs.Tryz.underlying54,rfl,rfl,by kernel_rfl⟩,⟨⟨_,_,Go.Proofs.Tryz.underlying54,rfl,rfl⟩,⟨⟨_,_,Go.Proofs.Tryz.underlying54,rfl,rfl,by kernel_rfl⟩,⟨⟨_,_,Go.Proofs.Tryz.underlying54,rfl,rfl⟩,trivial⟩⟩⟩⟩,⟨⟨⟨_,_,Go.Proofs.Tryz.underlying57,rfl,rfl,by kernel_rfl⟩,⟨⟨_,_,Go.Proofs.Tryz.underlying57,rfl,rfl⟩,⟨⟨_,_,Go.Proofs.Tryz.underlying57,rfl,rfl,by kernel_rfl⟩,⟨⟨_,_,Go.Proofs.Tryz.underlying57,rfl,rfl⟩,trivial⟩⟩⟩⟩,⟨⟨⟨_,_,Go.Proofs.Tryz.underlying61,rfl,rfl,by kernel_rfl⟩,⟨⟨_,_,Go.Proofs.Tryz.underlying61,rfl,rfl⟩,trivial⟩⟩,⟨⟨⟨_,_,Go.Proofs.Tryz.underlying67,rfl,rfl,by kernel_rfl⟩,⟨⟨_,_,Go.Proofs.Tryz.underlying67,rfl,rfl⟩,⟨⟨_,_,Go.Proofs.Tryz.underlying67,rfl,rfl,by kernel_rfl⟩,⟨⟨_,_,Go.Proofs.Tryz.underlying67,rfl,rfl⟩,⟨⟨_,_,Go.Proofs.Tryz.underlying67,rfl,rfl,by kernel_rfl⟩,⟨⟨_,_,Go.Proofs.Tryz.underlying67,rfl,rfl⟩,trivial⟩⟩⟩⟩⟩⟩,⟨⟨⟨_,_,Go.Proofs.Tryz.underlying75,rfl,rfl,by kernel_rfl⟩,⟨⟨_,_,Go.Proofs.Tryz.underlying75,rfl,rfl⟩,⟨⟨_,_,Go.Proofs.Tryz.underlying75,rfl,rfl,by kernel_rfl⟩,⟨⟨_,_,Go.Proofs.Tryz.underlying75,rfl,rfl⟩,⟨⟨_,_,Go.Proofs.Tryz.underlying75,rfl,rfl,by kernel_rfl⟩,⟨⟨_,_,Go.Proofs.Tryz.underlying75,rfl,rfl⟩,⟨⟨_,_,Go.Proofs.Tryz.underlying75,rfl,rfl,by kernel_rfl⟩,⟨⟨_,_,Go.Proofs.Tryz.underlying75,rfl,rfl⟩,trivial⟩⟩⟩⟩⟩⟩⟩⟩,⟨⟨⟨_,_,Go.Proofs.Tryz.underlying81,rfl,rfl,by kernel_rfl⟩,⟨⟨_,_,Go.Proofs.Tryz.underlying81,rfl,rfl⟩,⟨⟨_,_,Go.Proofs.Tryz.underlying81,rfl,rfl,by kernel_rfl⟩,⟨⟨_,_,Go.Proofs.Tryz.underlying81,rfl,rfl⟩,⟨⟨_,_,Go.Proofs.Tryz.underlying81,rfl,rfl,by kernel_rfl⟩,⟨⟨_,_,Go.Proofs.Tryz.underlying81,rfl,rfl⟩,⟨⟨_,_,Go.Proofs.Tryz.underlying81,rfl,rfl,by kernel_rfl⟩,⟨⟨_,_,Go.Proofs.Tryz.underlying81,rfl,rfl⟩,⟨⟨_,_,Go.Proofs.Tryz.underlying81,rfl,rfl,by kernel_rfl⟩,⟨⟨_,_,Go.Proofs.Tryz.underlying81,rfl,rfl⟩,⟨⟨_,_,Go.Proofs.Tryz.underlying81,rfl,rfl,by kernel_rfl⟩,⟨⟨_,_,Go.Proofs.Tryz.underlying81,rfl,rfl⟩,⟨⟨_,_,Go.Proofs.Tryz.underlying81,rfl,rfl,by kernel_rfl⟩,⟨⟨_,_,Go.Proofs.Tryz.underlying81,rfl,rfl⟩,trivial⟩⟩⟩⟩⟩⟩⟩⟩⟩⟩⟩⟩⟩⟩,⟨⟨⟨_,_,Go.Proofs.Tryz.underlying100,rfl,rfl,by kernel_rfl⟩,⟨⟨_,_,Go.Proofs.Tryz.underlying100,rfl,rfl⟩,⟨⟨_,_,Go.Proofs.Tryz.underlying100,rfl,rfl,by kernel_rfl⟩,⟨⟨_,_,Go.Proofs.Tryz.underlying100,rfl,rfl⟩,trivial⟩⟩⟩⟩,⟨⟨⟨_,_,Go.Proofs.Tryz.underlying102,rfl,rfl,by kernel_rfl⟩,⟨⟨_,_,Go.Proofs.Tryz.underlying102,rfl,rfl⟩,⟨⟨_,_,Go.Proofs.Tryz.underlying102,rfl,rfl,by kernel_rfl⟩,⟨⟨_,_,Go.Proofs.Tryz.underlying102,rfl,rfl⟩,⟨⟨_,_,Go.Proofs.Tryz.underlying102,rfl,rfl,by kernel_rfl⟩,⟨⟨_,_,Go.Proofs.Tryz.underlying102,rfl,rfl⟩,trivial⟩⟩⟩⟩⟩⟩,⟨⟨⟨_,_,Go.Proofs.Tryz.underlying117,rfl,rfl,by kernel_rfl⟩,⟨⟨_,_,Go.Proofs.Tryz.underlying117,rfl,rfl⟩,⟨⟨_,_,Go.Proofs.Tryz.underlying117,rfl,rfl,by kernel_rfl⟩,⟨⟨_,_,Go.Proofs.Tryz.underlying117,rfl,rfl⟩,trivial⟩⟩⟩⟩,⟨⟨⟨_,_,Go.Proofs.Tryz.underlying155,rfl,rfl,by kernel_rfl⟩,⟨⟨_,_,Go.Proofs.Tryz.underlying155,rfl,rfl⟩,⟨⟨_,_,Go.Proofs.Tryz.underlying155,rfl,rfl,by kernel_rfl⟩,⟨⟨_,_,Go.Proofs.Tryz.underlying155,rfl,rfl⟩,⟨⟨_,_,Go.Proofs.Tryz.underlying155,rfl,rfl,by kernel_rfl⟩,⟨⟨_,_,Go.Proofs.Tryz.underlying155,rfl,rfl⟩,⟨⟨_,_,Go.Proofs.Tryz.underlying155,rfl,rfl,by kernel_rfl⟩,⟨⟨_,_,Go.Proofs.Tryz.underlying155,rfl,rfl⟩,⟨⟨_,_,Go.Proofs.Tryz.underlying155,rfl,rfl,by kernel_rfl⟩,⟨⟨_,_,Go.Proofs.Tryz.underlying155,rfl,rfl⟩,⟨⟨_,_,Go.Proofs.Tryz.underlying155,rfl,rfl,by kernel_rfl⟩,⟨⟨_,_,Go.Proofs.Tryz.underlying155,rfl,rfl⟩,⟨⟨_,_,Go.Proofs.Tryz.underlying155,rfl,rfl,by kernel_rfl⟩,⟨⟨_,_,Go.Proofs.Tryz.underlying155,rfl,rfl⟩,⟨⟨_,_,Go.Proofs.Tryz.underlying155,rfl,rfl,by kernel_rfl⟩,⟨⟨_,_,Go.Proofs.Tryz.underlying155,rfl,rfl⟩,⟨⟨_,_,Go.Proofs.Tryz.underlying155,rfl,rfl,by kernel_rfl⟩,⟨⟨_,_,Go.Proofs.Tryz.underlying155,rfl,rfl⟩,⟨⟨_,_,Go.Proofs.Tryz.underlying155,rfl,rfl,by kernel_rfl⟩,⟨⟨_,_,Go.Proofs.Tryz.underlying155,rfl,rfl⟩,⟨⟨_,_,Go.Proofs.Tryz.underlying155,rfl,rfl,by kernel_rfl⟩,⟨⟨_,_,Go.Proofs.Tryz.underlying155,rfl,rfl⟩,trivial⟩⟩⟩⟩⟩⟩⟩⟩⟩⟩⟩⟩⟩⟩⟩⟩⟩⟩⟩⟩⟩⟩,⟨⟨⟨_,_,Go.Proofs.Tryz.underlying174,rfl,rfl,by kernel_rfl⟩,⟨⟨_,_,Go.Proofs.Tryz.underlying174,rfl,rfl⟩,⟨⟨_,_,Go.Proofs.Tryz.underlying174,rfl,rfl,by kernel_rfl⟩,⟨⟨_,_,Go.Proofs.Tryz.underlying174,rfl,rfl⟩,trivial⟩⟩⟩⟩,trivial⟩⟩⟩⟩⟩⟩⟩⟩⟩⟩⟩⟩⟩⟩⟩
 el:=⟨⟨Go.Proofs.Tryz.underlying22,_,_,ti3,rfl,by decide⟩,⟨⟨Go.Proofs.Tryz.underlying23,_,_,c4W,rfl,by decide⟩,⟨⟨Go.Proofs.Tryz.underlying36,_,_,ti5,rfl,by decide⟩,⟨⟨Go.Proofs.Tryz.underlying41,_,_,ti9,rfl,by decide⟩,⟨⟨Go.Proofs.Tryz.underlying43,_,_,c4Y,rfl,by decide⟩,⟨⟨Go.Proofs.Tryz.underlying52,_,_,c5x,rfl,by decide⟩,⟨⟨Go.Proofs.Tryz.underlying73,_,_,c4K,rfl,by decide⟩,⟨⟨Go.Proofs.Tryz.underlying78,_,_,c3r,rfl,by decide⟩,⟨⟨Go.Proofs.Tryz.underlying103,_,_,ti2,rfl,by decide⟩,⟨⟨Go.Proofs.Tryz.underlying112,_,_,c3t,rfl,by decide⟩,⟨⟨Go.Proofs.Tryz.underlying115,_,_,c4A,rfl,by decide⟩,⟨⟨Go.Proofs.Tryz.underlying129,_,_,c3m,rfl,by decide⟩,⟨⟨Go.Proofs.Tryz.underlying149,_,_,c3B,rfl,by decide⟩,⟨⟨Go.Proofs.Tryz.underlying153,_,_,ti4,rfl,by decide⟩,trivial⟩⟩⟩⟩⟩⟩⟩⟩⟩⟩⟩⟩⟩⟩
 str:=⟨Go.Proofs.Tryz.underlying9,trivial⟩
 bool:=trivial
 ik:=⟨Go.Proofs.Tryz.underlying2,⟨Go.Proofs.Tryz.underlying3,⟨Go.Proofs.Tryz.underlying5,⟨Go.Proofs.Tryz.underlying35,⟨Go.Proofs.Tryz.underlying71,⟨Go.Proofs.Tryz.underlying143,trivial⟩⟩⟩⟩⟩⟩
 inf:=⟨⟨_,ti2,fun X c σ=>RG.cns rfl W3 (RG.nl)⟩,⟨⟨_,ti3,fun X c σ=>RG.cns rfl W3 (RG.nl)⟩,⟨⟨_,ti4,fun X c σ=>RG.cns rfl a4S (RG.nl)⟩,⟨⟨_,ti5,fun X c σ=>RG.cns rfl W3 (RG.nl)⟩,⟨⟨_,ti9,fun X c σ=>RG.cns rfl a45 (RG.nl)⟩,⟨⟨_,c6S,fun X c σ=>RG.cns rfl a1n (RG.nl)⟩,⟨⟨_,c6J,fun X c σ=>RG.cns rfl a1n (RG.nl)⟩,⟨⟨_,c7h,fun X c σ=>RG.cns rfl a45 (RG.cns rfl a4S (RG.cns rfl a1n (RG.nl)))⟩,⟨⟨_,c6U,fun X c σ=>RG.cns rfl W3 (RG.nl)⟩,⟨⟨_,c6I,fun X c σ=>RG.cns rfl a1n (RG.nl)⟩,⟨⟨_,c6P,fun X c σ=>RG.cns rfl c00 (RG.cns rfl a1n (RG.cns rfl W3 (RG.cns rfl a4S (RG.cns rfl W3 (RG.nl)))))⟩,⟨⟨_,c67,fun X c σ=>RG.cns rfl a1n (RG.cns rfl W3 (RG.nl))⟩,⟨⟨_,c4K,fun X c σ=>RG.cns rfl a45 (RG.cns rfl W3 (RG.nl))⟩,⟨⟨_,c6O,fun X c σ=>RG.cns rfl a1n (RG.nl)⟩,⟨⟨_,c4A,fun X c σ=>RG.cns rfl a1n (RG.cns rfl W3 (RG.nl))⟩,⟨⟨_,c4W,fun X c σ=>RG.cns rfl a45 (RG.cns rfl W3 (RG.cns rfl a1n (RG.cns rfl W3 (RG.nl))))⟩,⟨⟨_,c7e,fun X c σ=>RG.cns rfl a1n (RG.nl)⟩,⟨⟨_,c6L,fun X c σ=>RG.cns rfl a45 (RG.cns rfl W3 (RG.cns rfl W3 (RG.nl)))⟩,⟨⟨_,c4Y,fun X c σ=>RG.cns rfl a45 (RG.cns rfl a45 (RG.cns rfl a1n (RG.cns rfl W3 (RG.nl))))⟩,⟨⟨_,c66,fun X c σ=>RG.cns rfl a1n (RG.nl)⟩,⟨⟨_,c6Z,fun X c σ=>RG.cns rfl W3 (RG.cns rfl W3 (RG.nl))⟩,⟨⟨_,c5x,fun X c σ=>RG.cns rfl W3 (RG.cns rfl W3 (RG.cns rfl W3 (RG.cns rfl a45 (RG.cns rfl a1n (RG.cns rfl a1n (RG.cns rfl W3 (RG.cns rfl W3 (RG.nl))))))))⟩,⟨⟨_,c3m,fun X c σ=>RG.cns rfl W3 (RG.cns rfl a45 (RG.nl))⟩,⟨⟨_,c3r,fun X c σ=>RG.cns rfl W3 (RG.cns rfl a45 (RG.cns rfl W3 (RG.cns rfl a4S (RG.nl))))⟩,⟨⟨_,c58,fun X c σ=>RG.cns rfl a1n (RG.nl)⟩,⟨⟨_,c3t,fun X c σ=>RG.cns rfl a1n (RG.cns rfl a1n (RG.cns rfl W3 (RG.nl)))⟩,⟨⟨_,c6s,fun X c σ=>RG.cns rfl c00 (RG.nl)⟩,⟨⟨_,c56,fun X c σ=>RG.cns rfl c00 (RG.nl)⟩,⟨⟨_,c6l,fun X c σ=>RG.cns rfl a1n (RG.nl)⟩,⟨⟨_,c5G,fun X c σ=>RG.cns rfl a1n (RG.cns rfl W3 (RG.cns rfl a4S (RG.cns rfl a4S (RG.cns rfl a4S (RG.cns rfl W3 (RG.cns rfl a1n (RG.cns rfl W3 (RG.cns rfl a1n (RG.cns rfl a1n (RG.cns rfl a1n (RG.cns rfl a1n (RG.nl))))))))))))⟩,⟨⟨_,c3B,fun X c σ=>RG.cns rfl W3 (RG.cns rfl a45 (RG.nl))⟩,⟨⟨_,c5H,fun X c σ=>RG.cns rfl a4S (RG.cns rfl a4S (RG.nl))⟩,trivial⟩⟩⟩⟩⟩⟩⟩⟩⟩⟩⟩⟩⟩⟩⟩⟩⟩⟩⟩⟩⟩⟩⟩⟩⟩⟩⟩⟩⟩⟩⟩⟩
 st:=⟨.inl ⟨_,Go.Proofs.Tryz.underlying25,by kernel_rfl⟩,⟨.inl ⟨_,Go.Proofs.Tryz.underlying45,by kernel_rfl⟩,⟨.inl ⟨_,Go.Proofs.Tryz.underlying49,by kernel_rfl⟩,⟨.inl ⟨_,Go.Proofs.Tryz.underlying51,by kernel_rfl⟩,⟨.inl ⟨_,Go.Proofs.Tryz.underlying54,by kernel_rfl⟩,⟨.inl ⟨_,Go.Proofs.Tryz.underlying57,by kernel_rfl⟩,⟨.inl ⟨_,Go.Proofs.Tryz.underlying61,by kernel_rfl⟩,⟨.inl ⟨_,Go.Proofs.Tryz.underlying67,by kernel_rfl⟩,⟨.inl ⟨_,Go.Proofs.Tryz.underlying75,by kernel_rfl⟩,⟨.inr (c1r Go.Proofs.Tryz.underlying79 ti3 rfl),⟨.inl ⟨_,Go.Proofs.Tryz.underlying81,by kernel_rfl⟩,⟨.inl ⟨_,Go.Proofs.Tryz.underlying100,by kernel_rfl⟩,⟨.inl ⟨_,Go.Proofs.Tryz.underlying102,by kernel_rfl⟩,⟨.inl ⟨_,Go.Proofs.Tryz.underlying117,by kernel_rfl⟩,⟨.inl ⟨_,Go.Proofs.Tryz.underlying155,by kernel_rfl⟩,⟨.inl ⟨_,Go.Proofs.Tryz.underlying174,by kernel_rfl⟩,⟨.inr (c1r Go.Proofs.Tryz.underlying290 ti4 rfl),trivial⟩⟩⟩⟩⟩⟩⟩⟩⟩⟩⟩⟩⟩⟩⟩⟩⟩
 eq:=⟨fun X c σ ls ms r cs ds h1 h2 h3=>eqT 51 a6D (fun h k=>c7g h k) (by kernel_rfl) (by decide) h1 h2 h3,⟨fun X c σ ls ms r cs ds h1 h2 h3=>eqT 79 a8R (fun h k=>c6G h k) (by kernel_rfl) (by decide) h1 h2 h3,⟨fun X c σ ls ms r cs ds h1 h2 h3=>eqT 100 b3X (fun h k=>c5P h k) (by kernel_rfl) (by decide) h1 h2 h3,trivial⟩⟩⟩
 arr:=⟨⟨Go.Proofs.Tryz.underlying79,by kernel_rfl⟩,⟨⟨Go.Proofs.Tryz.underlying290,by kernel_rfl⟩,trivial⟩⟩
 u8:=⟨⟨Go.Proofs.Tryz.underlying5,fun y=>⟨y,rfl⟩⟩,trivial⟩
 u8g:=⟨fun σ k=>rfl,trivial⟩
 mp:=⟨⟨_,_,_,_,_,Go.Proofs.Tryz.underlying132,Go.Proofs.Tryz.underlying9,ti4,fun x h σ=>by cases h; exact rfl⟩,trivial⟩
 fb:=⟨⟨_,_,Go.Proofs.Tryz.func74,rfl,by kernel_rfl⟩,⟨⟨_,_,Go.Proofs.Tryz.func75,rfl,by kernel_rfl⟩,⟨⟨_,_,Go.Proofs.Tryz.func91,rfl,by kernel_rfl⟩,⟨⟨_,_,Go.Proofs.Tryz.func103,rfl,by kernel_rfl⟩,⟨⟨_,_,Go.Proofs.Tryz.func104,rfl,by kernel_rfl⟩,⟨⟨_,_,Go.Proofs.Tryz.func115,rfl,by kernel_rfl⟩,trivial⟩⟩⟩⟩⟩⟩
theorem a1D:TabOk Go.Proofs.Tryz.prog tb:=c2D c40
theorem mixed:(Go.Proofs.Tryz.prog).follows .mixedOrders=true:=by kernel_rfl
end Go.Qx
end
section
namespace Go.Qx
open Go Go.RowKit Go.Sx
end Go.Qx
end
section
namespace Go.Qx
open Go Go.RowKit Go.Sx
structure Bw (B:Nat)(w w':World):Prop where
 below:Below B w w'
 drawn:w.drawn<=w'.drawn
theorem Bw.refl (B:Nat)(w:World):Bw B w w:=⟨Below.refl B w,Nat.le_refl _⟩
theorem Bw.trans {B:Nat}{a b c:World}(h:Bw B a b)(k:Bw B b c):Bw B a c:=⟨h.below.trans k.below,Nat.le_trans h.drawn k.drawn⟩
theorem Bw.setCells {B b:Nat}(hb:B<=b)(o:Nat)(vs:List Value)(w:World):Bw B w (w.setCells b o vs):=by
 obtain ⟨r1,r2,r3⟩:=a60 b vs o w
 exact ⟨⟨r1,r2,r3,Nat.le_of_eq (a7n b vs o w).symm,fun k hk=>a2i b vs o w k (by omega)⟩,Nat.le_of_eq (a6b b vs o w).symm⟩
section
variable {P:Program}{ops:Array Oper}{Q:Exit->Act->World->Prop}{n:Nat}{F:Fr}{rest:List Oper}{d:Option Nat}{ty:TypeId}{pos:String}{aft:Array Edge}{w:World}
theorem c3g {T T':TypeId}{x y:Operand}{b:Nat}{cs:List Value}(hb:w.heap[b]?=some (.cells cs.toArray T' (0,0)))(o:Nat)(v:Value)(hx:ev F x=.pointer (some ⟨b,o,none⟩))(hy:ev F y=v)
 (hkx:Z3 n x=true) (hky:Z3 n y=true) (hv:v.cells.toList=[v]) (hT:(P.info? T).map (·.size)=some 1) (h1:v.oneCell'=true) (hl:o<cs.length)
 (h:wpList P ops Q rest (fr n (Y9 F d undef)) (w.setCells b o [v])) :
 wpList P ops Q (⟨d,.store T x y,ty,pos,aft,none⟩::rest) (fr n F) w:=by
 have hsz:v.cells.size=1:=by rw [<- Array.length_toList,hv]; rfl
 refine b0Q rfl (w.setCells b o [v]) ?_ h
 show Sem.run P (do Instr.storeAt T ((fr n F).eval x) ((fr n F).eval y); pure Next.skip) w=_
 rw [j5 hkx,j5 hky,hx,hy]
 have hst:=run_storeCells_cells (P:=P) b o [v] 0 w (fun j hj=>by
  have hj0:j=0:=by simp at hj; omega
  subst hj0
  simp only [World.cell?,hb,Nat.add_zero]
  simp [List.getElem?_eq_getElem hl]) (fun j hj=>by simp [World.frozen?,hb]) (fun u hu=>by simp at hu; subst hu; exact h1)
 simp only [Nat.add_zero] at hst
 simp only [Instr.storeAt,Instr.sureAddr,storeVar,Sem.run_bind,Sem.run_pure,Result.andThen_ok,Go.Sx.run_sizeOf hT,hsz,ne_eq,not_true_eq_false,if_false,hv,hst]
theorem b9a {f:FuncId}{fn:Func}{c:Code}{vs:List Value}{R:Ending->World->Prop}(nt:Nat)(hf:P.funcs[f]?=some fn)(hb:fn.body=some c)(hn:fn.ntmps=nt)(hle:Nat.ble vs.length nt=true)
 (h:c.wp P (bodyPost P fn R) (fr nt (a1P vs)) w):Calls P f vs.toArray w R:=by
 refine calls_of_wp hf hb ?_
 have hle':=Nat.le_of_ble_eq_true hle
 have e:(⟨vs.toArray++Array.replicate (fn.ntmps-vs.toArray.size) undef,[]⟩:Act)=fr nt (a1P vs):=by
  rw [hn]
  simp only [fr]
  congr 1
  apply Array.ext
  ·simp; omega
  ·intro i h1 h2
   simp only [Array.getElem_ofFn,a1P,Array.getElem_append]
   split
   ·rename_i hi; simp at hi; simp [List.getD,List.getElem?_eq_getElem hi]
   ·rename_i hi; simp at hi; simp [List.getD,List.getElem?_eq_none hi]
 rw [e]
 exact h
theorem c59 {fn:Func}{R:Ending->World->Prop}{t:Nat}(v:Value)(hr:fn.results=#[.tmp t])(ht:Nat.blt t n=true)(hv:F t=v)(h:R (.returned v) w):bodyPost P fn R .ret (fr n F) w :=
 ⟨rfl,v,by
  have e1:=b1Z (P:=P) (w:=w) (r:=.tmp t) (v:=v) ⟨ht,hv⟩
  rw [b1W,hr]
  simp only [List.mapM_toArray,List.mapM_cons,List.mapM_nil,Sem.run_bind,Sem.run_map,e1,Result.andThen_ok,Sem.run_pure]
  rfl,h⟩
theorem c4e {f:FuncId}{xs:List Operand}{ats:Array TypeId}(vs:List Value){R:Ending->World->Prop}(hvs:xs.map (ev F)=vs)(hk:xs.all (Z3 n)=true)(hb:a2R P f)(hc:Calls P f vs.toArray w R)
 (hR:∀ e w',R e w'->∃ v,e=.returned v/\wpList P ops Q rest (fr n (Y9 F d v)) w') :
 wpList P ops Q (⟨d,.call ⟨.value (.func f),xs.toArray,ats⟩,ty,pos,aft,none⟩::rest) (fr n F) w:=by
 subst hvs
 refine a6V (σ:=⟨w,fun _=>(0,0)⟩) (E:=fun _=>True) (R:=fun v τ=>wpList P ops Q rest (fr n (Y9 F d v)) τ.w) rfl (.inl ⟨hb,hc.mono fun e w' h=>?_⟩) (b9p hk w) (fun v τ _ h=>h)
 obtain ⟨v,e1,h2⟩:=hR e w' h
 exact ⟨v,⟨w',fun _=>(0,0)⟩,e1,rfl,trivial,h2⟩
end
end Go.Qx
end
section
namespace Go.Qx
open Go Go.RowKit Go.Sx
set_option maxHeartbeats 1600000
set_option maxRecDepth 100000
section
variable {P:Program}{ops:Array Oper}{Q:Exit->Act->World->Prop}{n:Nat}{F:Fr}{rest:List Oper}{d:Option Nat}{ty:TypeId}{pos:String}{aft:Array Edge}{w:World}
theorem b4O {T:TypeId}{z:Value}{cs:List Value}{sz by_:Nat}(hT:Z9 P T z sz by_)(hc:z.cells.toList=cs)
 (h:wpList P ops Q rest (fr n (Y9 F d (.pointer (some ⟨w.heap.size,0,none⟩)))) (w.alloc (.cells cs.toArray T))) :
 wpList P ops Q (⟨d,.alloc T,ty,pos,aft,none⟩::rest) (fr n F) w:=by
 refine Q0 rfl (.pointer (some ⟨w.heap.size,0,none⟩)) (w.alloc (.cells cs.toArray T)) ?_ h
 obtain ⟨i,h1,h2,_,_⟩:=hT
 have hcc:z.cells=cs.toArray:=by rw [<- hc]
 simp [execOp,Instr.alloc,zeroValue,typeInfo,h1,h2,newVar,newRow,hcc]
theorem b8Z {T T':TypeId}{x y:Operand}{b:Nat}{cs:List Value}(hb:w.heap[b]?=some (.cells cs.toArray T' (0,0)))(v:Value)(vs:List Value)(hx:ev F x=.pointer (some ⟨b,0,none⟩))(hy:ev F y=v)
 (hkx:Z3 n x=true) (hky:Z3 n y=true) (hv:v.cells.toList=vs) (hT:(P.info? T).map (·.size)=some vs.length) (h1:∀ u∈vs,u.oneCell'=true) (hl:vs.length=cs.length)
 (h:∀ w',w'.heap[b]?=some (.cells vs.toArray T' (0,0))->(∀ B,B<=b->Bw B w w')->wpList P ops Q rest (fr n (Y9 F d undef)) w') :
 wpList P ops Q (⟨d,.store T x y,ty,pos,aft,none⟩::rest) (fr n F) w:=by
 have hsz:v.cells.size=vs.length:=by rw [<- hv]; simp
 have hh:=a2I b T' vs 0 w cs hb (by omega)
 have e:cs.take 0++vs++cs.drop (0+vs.length)=vs:=by
  rw [Nat.zero_add,hl,List.drop_length]; simp
 rw [e] at hh
 refine b0Q rfl (w.setCells b 0 vs) ?_ (h _ hh fun B hB=>Bw.setCells hB 0 vs w)
 show Sem.run P (do Instr.storeAt T ((fr n F).eval x) ((fr n F).eval y); pure Next.skip) w=_
 rw [j5 hkx,j5 hky,hx,hy]
 have hst:=run_storeCells_cells (P:=P) b 0 vs 0 w (fun j hj=>by
  simp only [World.cell?,hb,Nat.add_zero,Nat.zero_add]
  simp [List.getElem?_eq_getElem (show j<cs.length by omega)]) (fun j hj=>by simp [World.frozen?,hb]) h1
 simp only [Nat.add_zero] at hst
 simp only [Instr.storeAt,Instr.sureAddr,storeVar,Sem.run_bind,Sem.run_pure,Result.andThen_ok,Go.Sx.run_sizeOf hT,hsz,ne_eq,not_true_eq_false,if_false,hv,hst]
theorem b9Z {T E:TypeId}{x y:Operand}{m i b:Nat}{kd:IntKind}
 (hx:ev F x=.pointer (some ⟨b,0,none⟩)) (hy:ev F y=.int kd (Int.ofNat i)) (hkx:Z3 n x=true) (hky:Z3 n y=true) (hT:P.underlying T=some (.array m E)) (hE:(P.info? E).map (·.size)=some 1) (hi:i<m)
 (h:wpList P ops Q rest (fr n (Y9 F d (.pointer (some ⟨b,i,none⟩)))) w) :
 wpList P ops Q (⟨d,.indexAddr T x y,ty,pos,aft,none⟩::rest) (fr n F) w:=by
 refine Q0 rfl (.pointer (some ⟨b,i,none⟩)) w ?_ h
 show Sem.run P (do pure (Next.value (<- Instr.indexAt T ((fr n F).eval x) ((fr n F).eval y)))) w=_
 rw [j5 hkx,j5 hky,hx,hy]
 have h0:(0:Int)<=(i:Int)/\(i:Int)<(m:Int):=⟨Int.natCast_nonneg i,by simpa using hi⟩
 simp only [Instr.indexAt,Instr.sureAddr,asIntOf,Sem.run_bind,Sem.run_pure,Result.andThen_ok,run_underlying hT,Addr.add_mid,Int.ofNat_eq_natCast,Int.toNat_natCast,if_pos h0,Sx.run_sizeOf hE,Nat.mul_one,Nat.zero_add]
theorem c5J {fn:Func}{R:Ending->World->Prop}{t b:Nat}{T:TypeId}(v:Value)(hr:fn.results=#[.cell t T])(ht:Nat.blt t n=true)(hv:F t=.pointer (some ⟨b,0,none⟩))(hl:j7 P w (loadVar T ⟨b,0,none⟩) v)(h:R (.returned v) w):bodyPost P fn R .ret (fr n F) w :=
 ⟨rfl,v,by
  have e1:=b1Z (P:=P) (w:=w) (r:=.cell t T) (v:=v) ⟨ht,b,hv,hl⟩
  rw [b1W,hr]
  simp only [List.mapM_toArray,List.mapM_cons,List.mapM_nil,Sem.run_bind,Sem.run_map,e1,Result.andThen_ok,Sem.run_pure]
  rfl,h⟩
end
def X8 (i:Nat):List Value:=(List.range 256).map fun j=>if j<i then Value.int .u32 (nB (tb8 j)) else Value.int .u32 0
theorem a0W (i:Nat):(X8 i).length=256:=by simp [X8]
theorem b4a {i j:Nat}(hj:j<256):(X8 i)[j]?=some (if j<i then Value.int .u32 (nB (tb8 j)) else Value.int .u32 0):=by
 simp [X8,hj]
theorem b8y (i:Nat):∀ u∈X8 i,u.oneCell'=true:=by
 intro u hu
 obtain ⟨j,_,rfl⟩:=List.mem_map.1 hu
 split<;>rfl
theorem c3d {i:Nat}(hi:i<256):(X8 i).take i++[Value.int .u32 (nB (tb8 i))]++(X8 i).drop (i+[Value.int .u32 (nB (tb8 i))].length)=X8 (i+1):=by
 apply List.ext_getElem?
 intro j
 have hl:((X8 i).take i).length=i:=by rw [List.length_take,a0W]; omega
 by_cases hj:j<256
 ·rw [b4a hj]
  rcases Nat.lt_trichotomy j i with h | h | h
  ·rw [List.append_assoc,List.getElem?_append_left (by omega),List.getElem?_take_of_lt h,b4a hj,if_pos h,if_pos (by omega)]
  ·subst h
   rw [List.append_assoc,List.getElem?_append_right (by omega),hl,Nat.sub_self,if_pos (by omega)]
   rfl
  ·rw [List.append_assoc,List.getElem?_append_right (by omega),hl,List.getElem?_append_right (by simp; omega),List.getElem?_drop]
   simp only [List.length_cons,List.length_nil,Nat.zero_add]
   rw [show i+1+(j-i-1)=j by omega,b4a hj,if_neg (by omega),if_neg (by omega)]
 ·have e:(X8 (i+1))[j]?=none:=List.getElem?_eq_none (by rw [a0W]; omega)
  rw [e,List.getElem?_eq_none]
  simp only [List.length_append,List.length_take,List.length_drop,a0W,List.length_cons,List.length_nil]
  omega
theorem b2O {w:World}{b:Nat}{cs:List Value}{T:TypeId}(h:w.heap[b]?=some (.cells cs.toArray T (0,0))):w.rangeAt b 0 cs:=fun j v hj=>by
 simp [World.cell?,h,hj]
theorem tz:Z9 Go.Proofs.Tryz.prog 96 (.agg (X8 0).toArray) 256 1024:=Z5 (by kernel_rfl)
theorem c5r:b3O Go.Proofs.Tryz.prog 96 256:=⟨_,Go.Proofs.Tryz.underlying96,rfl,by kernel_rfl⟩
theorem c62:a0F Go.Proofs.Tryz.prog 71:=⟨_,Go.Proofs.Tryz.underlying71,rfl,by kernel_rfl⟩
def c0R (i:Nat):Option (Fl Nat Unit):=some (if i<256 then .next (i+1) else .done ())
def c0u (q:Nat×BitVec 32):Option (Fl (Nat×BitVec 32) (BitVec 32)):=some (if q.1<8 then .next (q.1+1,cst q.2) else .done q.2)
attribute [irreducible] X8
theorem c7d:(4294967295:Int)=nB (BitVec.allOnes 32):=by decide
theorem c0a:y0 c0R 257 0=some ():=by kernel_rfl
theorem c0C (r:BitVec 32):y0 c0u 9 (0,r)=some (a2V 8 r):=rfl
theorem c4n:(2197175160:Int)=nB 0x82f63b78#32:=rfl
theorem b6o {i:Nat}(h:i<=2000000):wr .i64 ((i:Int)+1)=((i+1:Nat):Int):=by
 show IntKind.i64.wrap ((i:Int)+1)=_
 rw [IntKind.wrap_i64]
 omega
theorem b7h (r:BitVec 32):((nB (r &&& 1#32)==1)=true->nB (cst r)=a69 .u32 (nB (r >>> 1)) 2197175160)/\((nB (r &&& 1#32)==1)=false->nB (cst r)=nB (r >>> 1)):=by
 rw [c38]
 constructor
 ·intro h
  unfold cst
  rw [h,c4n,c3h]
  rfl
 ·intro h
  rw [b5z h]
theorem c6X {w:World}{i:Nat}(hi:i<256):j7 Go.Proofs.Tryz.prog w (convert 3 71 (.int .i64 (i:Int))) (.int .u32 (nB (BitVec.ofNat 32 i))):=by
 have h:IntKind.u32.wrap (i:Int)=nB (BitVec.ofNat 32 i):=by
  show (i:Int)%4294967296=((BitVec.ofNat 32 i).toNat:Int)
  rw [BitVec.toNat_ofNat]
  omega
 rw [<- h]
 exact b78 (by rw [Go.Proofs.Tryz.underlying3]; rfl) Go.Proofs.Tryz.underlying71
def b7I (σ:S):Nat->Nat×Nat:=fun b=>if b<σ.N then σ.L b else (0,0)
theorem b97 {σ:S}{w:World}(h:Bw σ.N σ.w w):Wext σ ⟨w,b7I σ⟩ :=
 ⟨h.below.size,fun b hb=>by simp [b7I,hb],fun b o v ho hc=>(a0k (h.below.block b (a1O hc)) o).trans hc,h.drawn,fun b o hb hf=>(a0z (h.below.block b hb) o).trans hf⟩
abbrev b6w (b0 b1:Nat)(w0:World)(i:Nat)(F:Fr)(w:World):Prop:=F 0=.pointer (some ⟨b0,0,none⟩)/\F 1=.pointer (some ⟨b1,0,none⟩)/\w.heap[b0]?=some (.cells (X8 0).toArray 96 (0,0))/\w.heap[b1]?=some (.cells (X8 i).toArray 96 (0,0))/\Bw b0 w0 w
theorem c20 (w0:World):Calls Go.Proofs.Tryz.prog 41 ([]:List Value).toArray w0 fun e w'=>e=.returned (.agg (X8 256).toArray)/\Bw w0.heap.size w0 w':=by
 refine b9a 25 Go.Proofs.Tryz.func41 rfl rfl rfl ?_
 refine wp_seq (wp_region_lit ?_)
 refine b4O tz rfl ?_
 refine wpList_nil (K3 (wp_seq (wp_region_lit ?_)))
 refine b4O tz rfl ?_
 have hz:((Value.agg (X8 0).toArray).cells.toList).toArray=(X8 0).toArray:=rfl
 rw [hz]
 generalize hw1:w0.alloc (.cells (X8 0).toArray 96)=w1
 have n1:w1.heap.size=w0.heap.size+1:=by rw [<- hw1]; exact Array.size_push _
 have g1:w1.heap[w0.heap.size]?=some (.cells (X8 0).toArray 96 (0,0)):=by rw [<- hw1]; exact heap_alloc_new w0 _
 have k1:Bw w0.heap.size w0 w1:=by rw [<- hw1]; exact ⟨(Below.refl _ _).alloc (Nat.le_refl _) _,Nat.le_refl _⟩
 generalize hw2:w1.alloc (.cells (X8 0).toArray 96)=w2
 have g2:w2.heap[w0.heap.size]?=some (.cells (X8 0).toArray 96 (0,0)):=by rw [<- hw2,heap_alloc_old _ _ (by omega)]; exact g1
 have g3:w2.heap[w1.heap.size]?=some (.cells (X8 0).toArray 96 (0,0)):=by rw [<- hw2]; exact heap_alloc_new w1 _
 have k2:Bw w0.heap.size w0 w2:=k1.trans (by rw [<- hw2]; exact ⟨(Below.refl _ _).alloc (by omega) _,Nat.le_refl _⟩)
 have hne:w0.heap.size≠w1.heap.size:=by omega
 have hle:w0.heap.size<=w1.heap.size:=by omega
 clear hw2 n1 g1 k1 hw1
 generalize w1.heap.size=b1 at *
 generalize w0.heap.size=b0 at *
 refine wpList_nil (K3 (b5k (fun a w=>∃ F,a=fr 25 F/\b6w b0 b1 w0 256 F w) ?_ ?_))
 ·refine wp_seq (wp_region_lit ?_)
  refine X4 (.int .i64 0) rfl rfl ?_
  refine wpList_nil (K3 (wp_block ?_))
  refine wp_mono (a8g (step:=c0R) (fun i a w=>∃ F,a=fr 25 F/\b6w b0 b1 w0 i F w/\F 4=.int .i64 ((i:Nat):Int)/\i<=256) (fun _ e a w=>e=.exit 0/\∃ F,a=fr 25 F/\b6w b0 b1 w0 256 F w) (by rintro _ _ _ ⟨h,_⟩; cases h) ?_ _ 0 () _ _ c0a ⟨_,rfl,⟨rfl,rfl,g2,g3,k2⟩,rfl,Nat.zero_le _⟩) ?_
  ·rintro i fl a w hst ⟨F,rfl,⟨f0,f1,h0,h1,hB⟩,f4,hi⟩
   simp only [c0R,Option.some.injEq] at hst
   refine wp_seq (wp_region_lit ?_)
   refine a10 (.int .i64 (i:Int)) (.int .i64 256) (.bool (decide ((i:Int)<256))) f4 rfl rfl rfl b7J ?_
   refine wpList_nil (K3 (wp_seq ?_))
   by_cases hlt:i<256
   ·rw [if_pos hlt] at hst
    subst hst
    refine b2L rfl (decide_eq_true (by omega)) rfl (wp_skip (K3 (wp_seq (wp_block (wp_seq (wp_region_lit ?_))))))
    refine X4 (.int .i64 (i:Int)) f4 rfl ?_
    refine a0X (.int .i64 (i:Int)) rfl rfl ?_
    refine wpList_nil (K3 (wp_seq (wp_region_lit ?_)))
    refine X4 (.int .i64 (i:Int)) rfl rfl ?_
    refine a9C (.int .i64 (i:Int)) (.int .u32 (nB (BitVec.ofNat 32 i))) rfl rfl (c6X hlt) ?_
    refine a0X (.int .u32 (nB (BitVec.ofNat 32 i))) rfl rfl ?_
    refine wpList_nil (K3 (b5k (fun a w'=>∃ F,a=fr 25 F/\b6w b0 b1 w0 i F w'/\F 2=.int .i64 (i:Int)/\F 4=.int .i64 (i:Int)/\F 3=.int .u32 (nB (tb8 i))) ?_ ?_))
    ·refine wp_seq (wp_region_lit ?_)
     refine X4 (.int .i64 0) rfl rfl ?_
     refine wpList_nil (K3 (wp_block ?_))
     refine wp_mono (a8g (step:=c0u) (fun q a w'=>∃ F,a=fr 25 F/\b6w b0 b1 w0 i F w'/\F 2=.int .i64 (i:Int)/\F 4=.int .i64 (i:Int)/\F 3=.int .u32 (nB q.2)/\F 9=.int .i64 ((q.1:Nat):Int)/\q.1<=8) (fun r e a w'=>e=.exit 2/\∃ F,a=fr 25 F/\b6w b0 b1 w0 i F w'/\F 2=.int .i64 (i:Int)/\F 4=.int .i64 (i:Int)/\F 3=.int .u32 (nB r)) (by rintro _ _ _ ⟨h,_⟩; cases h) ?_ _ (0,BitVec.ofNat 32 i) (tb8 i) _ _ (c0C _) ⟨_,rfl,⟨f0,f1,h0,h1,hB⟩,rfl,f4,rfl,rfl,Nat.zero_le _⟩) ?_
     ·rintro ⟨k,r⟩ fl a w' hst ⟨F2,rfl,⟨e0,e1,j0,j1,jB⟩,e2,e4,e3,e9,hk⟩
      simp only [c0u,Option.some.injEq] at hst
      refine wp_seq (wp_region_lit ?_)
      refine a10 (.int .i64 (k:Int)) (.int .i64 8) (.bool (decide ((k:Int)<8))) e9 rfl rfl rfl b7J ?_
      refine wpList_nil (K3 (wp_seq ?_))
      by_cases hlt2:k<8
      ·rw [if_pos hlt2] at hst
       subst hst
       refine b2L rfl (decide_eq_true (by omega)) rfl (wp_skip (K3 (wp_seq (wp_block (wp_seq (wp_region_lit ?_))))))
       refine X4 (.int .u32 (nB r)) e3 rfl ?_
       refine a10 (.int .u32 (nB r)) (.int .u32 1) (.int .u32 (nB (r &&& 1#32))) rfl rfl rfl rfl (by rw [<- c5Z]; exact c3n) ?_
       refine a10 (.int .u32 (nB (r &&& 1#32))) (.int .u32 1) (.bool (nB (r &&& 1#32)==1)) rfl rfl rfl rfl c3l ?_
       refine wpList_nil (K3 ?_)
       rcases hbit:(nB (r &&& 1#32)==1) with _ | _
       ·refine b0w (c:=false) rfl rfl rfl (wp_region_lit ?_)
        refine X4 (.int .u32 (nB r)) e3 rfl ?_
        refine a10 (.int .u32 (nB r)) (.int .u64 1) (.int .u32 (nB (cst r))) rfl rfl rfl rfl (by rw [(b7h r).2 hbit]; exact b7F (b4m r 1 (by omega))) ?_
        refine a0X (.int .u32 (nB (cst r))) rfl rfl ?_
        refine wpList_nil (c02 (K3 (wp_region_lit ?_)))
        refine a10 (.int .i64 (k:Int)) (.int .i64 1) (.int .i64 (wr .i64 ((k:Int)+1))) e9 rfl rfl rfl b51 ?_
        refine X4 (.int .i64 (wr .i64 ((k:Int)+1))) rfl rfl ?_
        exact wpList_nil ⟨rfl,_,rfl,⟨e0,e1,j0,j1,jB⟩,e2,e4,rfl,congrArg _ (b6o (by omega)),hlt2⟩
       ·refine b2L (c:=true) rfl rfl rfl (wp_region_lit ?_)
        refine X4 (.int .u32 (nB r)) e3 rfl ?_
        refine a10 (.int .u32 (nB r)) (.int .u64 1) (.int .u32 (nB (r >>> 1))) rfl rfl rfl rfl (b7F (b4m r 1 (by omega))) ?_
        refine a10 (.int .u32 (nB (r >>> 1))) (.int .u32 2197175160) (.int .u32 (nB (cst r))) rfl rfl rfl rfl (by rw [(b7h r).1 hbit]; exact b7L) ?_
        refine a0X (.int .u32 (nB (cst r))) rfl rfl ?_
        refine wpList_nil (c02 (K3 (wp_region_lit ?_)))
        refine a10 (.int .i64 (k:Int)) (.int .i64 1) (.int .i64 (wr .i64 ((k:Int)+1))) e9 rfl rfl rfl b51 ?_
        refine X4 (.int .i64 (wr .i64 ((k:Int)+1))) rfl rfl ?_
        exact wpList_nil ⟨rfl,_,rfl,⟨e0,e1,j0,j1,jB⟩,e2,e4,rfl,congrArg _ (b6o (by omega)),hlt2⟩
      ·rw [if_neg hlt2] at hst
       subst hst
       refine b0w rfl (decide_eq_false (by omega)) rfl (wp_exit ?_)
       exact b6x ⟨rfl,_,rfl,⟨e0,e1,j0,j1,jB⟩,e2,e4,e3⟩
     ·rintro e a w' ⟨rfl,F2,rfl,hI,e2,e4,e3⟩
      exact c2Y ⟨rfl,F2,rfl,hI,e2,e4,e3⟩
    ·rintro a w' ⟨F3,rfl,⟨e0,e1,j0,j1,jB⟩,e2,e4,e3⟩
     refine wp_region_lit ?_
     refine X4 (.int .i64 (i:Int)) e2 rfl ?_
     refine X4 (.int .u32 (nB (tb8 i))) e3 rfl ?_
     refine b9Z (i:=i) e1 rfl rfl rfl Go.Proofs.Tryz.underlying96 (by kernel_rfl) hlt ?_
     refine c3g (cs:=X8 i) j1 i (.int .u32 (nB (tb8 i))) rfl rfl rfl rfl rfl (by kernel_rfl) rfl (by rw [a0W]; exact hlt) ?_
     refine wpList_nil (c02 (K3 (wp_region_lit ?_)))
     refine a10 (.int .i64 (i:Int)) (.int .i64 1) (.int .i64 (wr .i64 ((i:Int)+1))) e4 rfl rfl rfl b51 ?_
     refine X4 (.int .i64 (wr .i64 ((i:Int)+1))) rfl rfl ?_
     refine wpList_nil ⟨rfl,_,rfl,⟨e0,e1,?_,?_,?_⟩,congrArg _ (b6o (by omega)),hlt⟩
     ·rw [a2i _ _ _ _ _ hne]; exact j0
     ·have:=a2I b1 96 [.int .u32 (nB (tb8 i))] i w' (X8 i) j1 (by rw [a0W]; simp; omega)
      rw [c3d hlt] at this
      exact this
     ·exact jB.trans (Bw.setCells hle _ _ _)
   ·rw [if_neg hlt] at hst
    subst hst
    have e:i=256:=by omega
    subst e
    refine b0w rfl (decide_eq_false (by omega)) rfl (wp_exit ?_)
    exact b6x ⟨rfl,_,rfl,f0,f1,h0,h1,hB⟩
  ·rintro e a w ⟨rfl,F,rfl,hI⟩
   exact c2Y ⟨rfl,F,rfl,hI⟩
 ·rintro a w ⟨F,rfl,f0,f1,h0,h1,hB⟩
  refine wp_seq (wp_region_lit ?_)
  refine a6P b1 0 (.agg (X8 256).toArray) f1 rfl (b3x (by rw [a0W]; exact c5r) (b2O h1)) ?_
  refine b8Z h0 (.agg (X8 256).toArray) (X8 256) f0 rfl rfl rfl rfl (by rw [a0W]; kernel_rfl) (b8y 256) (by rw [a0W,a0W]) fun w' h2 hB2=>?_
  exact wpList_nil (K3 (wp_ret (c5J (b:=b0) (.agg (X8 256).toArray) rfl rfl f0 (b3x (by rw [a0W]; exact c5r) (b2O h2)) ⟨rfl,hB.trans (hB2 _ (Nat.le_refl _))⟩)))
def b4e (s:ByteArray)(q:Nat×BitVec 32):Option (Fl (Nat×BitVec 32) (BitVec 32)):=some (match s.data.toList[q.1]? with | some b=>.next (q.1+1,a7h q.2 b) | none=>.done q.2)
theorem b5T (s:ByteArray):∀ (m i:Nat) (r:BitVec 32),s.data.toList.length-i=m->i<=s.data.toList.length->y0 (b4e s) (m+1) (i,r)=some (a2U (s.data.toList.drop i) r)
 | 0,i,r,hm,hi=>by
   have e:i=s.data.toList.length:=by omega
   subst e
   rw [List.drop_length]
   simp only [y0,b4e,List.getElem?_eq_none (Nat.le_refl _),a2U,Option.bind]
 | m+1,i,r,hm,hi=>by
   have hlt:i<s.data.toList.length:=by omega
   rw [List.drop_eq_getElem_cons hlt]
   have:=b5T s m (i+1) (a7h r s.data.toList[i]) (by omega) (by omega)
   rw [y0]
   simp only [b4e,List.getElem?_eq_getElem hlt,a2U,Option.bind]
   exact this
theorem hbT:a2R Go.Proofs.Tryz.prog 41:=⟨_,_,Go.Proofs.Tryz.func41,rfl,by kernel_rfl⟩
theorem hbS:a2R Go.Proofs.Tryz.prog 22:=⟨_,_,Go.Proofs.Tryz.func22,rfl,by kernel_rfl⟩
theorem c09 (s:ByteArray)(hs:s.size<=1000000)(w0:World):Calls Go.Proofs.Tryz.prog 22 [Value.string s].toArray w0 fun e w'=>e=.returned (.int .u32 (b6M s))/\Bw w0.heap.size w0 w':=by
 refine b9a 26 Go.Proofs.Tryz.func22 rfl rfl rfl ?_
 refine wp_seq (wp_region_lit ?_)
 refine a0X (.int .u32 0) rfl rfl ?_
 refine wpList_nil (K3 (wp_seq (wp_region_lit ?_)))
 refine c4e [] rfl rfl hbT (c20 w0) ?_
 rintro e w1 ⟨rfl,hB1⟩
 refine ⟨_,rfl,?_⟩
 refine b4O tz rfl ?_
 have hz:((Value.agg (X8 0).toArray).cells.toList).toArray=(X8 0).toArray:=rfl
 rw [hz]
 generalize hw2:w1.alloc (.cells (X8 0).toArray 96)=w2
 have g2:w2.heap[w1.heap.size]?=some (.cells (X8 0).toArray 96 (0,0)):=by rw [<- hw2]; exact heap_alloc_new w1 _
 have hle:w0.heap.size<=w1.heap.size:=hB1.below.size
 have k2:Bw w0.heap.size w0 w2:=hB1.trans (by rw [<- hw2]; exact ⟨(Below.refl _ _).alloc hle _,Nat.le_refl _⟩)
 clear hw2
 generalize w1.heap.size=b at *
 refine b8Z g2 (.agg (X8 256).toArray) (X8 256) rfl rfl rfl rfl rfl (by rw [a0W]; kernel_rfl) (b8y _) (by rw [a0W,a0W]) fun w3 h3 hB3=>?_
 refine wpList_nil (K3 (wp_seq (wp_region_lit ?_)))
 refine a0X (.int .u32 4294967295) rfl rfl ?_
 refine wpList_nil (K3 (b5k (fun a w=>∃ F,a=fr 26 F/\F 4=.int .u32 (nB (a2U s.data.toList (BitVec.allOnes 32)))/\w=w3) ?_ ?_))
 ·refine wp_seq (wp_region_lit ?_)
  refine X4 (.string s) rfl rfl ?_
  refine b8a s rfl rfl Go.Proofs.Tryz.underlying9 ?_
  refine X4 (.int .i64 0) rfl rfl ?_
  refine wpList_nil (K3 (wp_block ?_))
  refine wp_mono (a8g (step:=b4e s) (fun q a w=>∃ F,a=fr 26 F/\F 0=.string s/\F 3=.pointer (some ⟨b,0,none⟩)/\F 4=.int .u32 (nB q.2)/\F 8=.int .i64 (s.size:Int)/\F 9=.int .i64 ((q.1:Nat):Int)/\q.1<=s.size/\w=w3) (fun r e a w=>e=.exit 0/\∃ F,a=fr 26 F/\F 4=.int .u32 (nB r)/\w=w3) (by rintro _ _ _ ⟨h,_⟩; cases h) ?_ _ (0,BitVec.allOnes 32) _ _ _ (b5T s _ 0 _ rfl (Nat.zero_le _)) ⟨_,rfl,rfl,rfl,congrArg _ c7d,rfl,rfl,Nat.zero_le _,rfl⟩) ?_
  ·rintro ⟨i,r⟩ fl a w hst ⟨F,rfl,f0,f3,f4,f8,f9,hi,rfl⟩
   have hsz:s.data.toList.length=s.size:=Array.length_toList
   refine wp_seq (wp_region_lit ?_)
   refine a10 (.int .i64 (i:Int)) (.int .i64 (s.size:Int)) (.bool (decide ((i:Int)<(s.size:Int)))) f9 f8 rfl rfl b7J ?_
   refine wpList_nil (K3 (wp_seq ?_))
   rcases hx:s.data.toList[i]? with _ | c
   ·simp only [b4e,hx,Option.some.injEq] at hst
    subst hst
    have hge:s.data.toList.length<=i:=List.getElem?_eq_none_iff.1 hx
    refine b0w rfl (decide_eq_false (by omega)) rfl (wp_exit ?_)
    exact b6x ⟨rfl,_,rfl,f4,rfl⟩
   ·simp only [b4e,hx,Option.some.injEq] at hst
    subst hst
    have hlt:i<s.data.toList.length:=(List.getElem?_eq_some_iff.1 hx).1
    have hsi:a0M s (i:Int)=some c:=by
     unfold a0M
     rw [if_pos (Int.natCast_nonneg i),Int.toNat_natCast,<- hx,Array.getElem?_toList]
     rfl
    refine b2L rfl (decide_eq_true (by omega)) rfl (wp_skip (K3 (wp_seq (wp_block (wp_seq (wp_region_lit ?_))))))
    refine X4 (.int .i64 (i:Int)) f9 rfl ?_
    refine a0X (.int .i64 (i:Int)) rfl rfl ?_
    refine wpList_nil (K3 (wp_region_lit ?_))
    refine X4 (.int .u32 (nB r)) f4 rfl ?_
    refine a10 (.int .u32 (nB r)) (.int .u64 8) (.int .u32 (nB (r >>> 8))) rfl rfl rfl rfl (b7F (b4m r 8 (by omega))) ?_
    refine X4 (.int .u32 (nB r)) f4 rfl ?_
    refine a9C (.int .u32 (nB r)) (.int .u8 (wr .u8 (nB r))) rfl rfl (b78 (by rw [Go.Proofs.Tryz.underlying71]; rfl) Go.Proofs.Tryz.underlying5) ?_
    refine X4 (.string s) f0 rfl ?_
    refine X4 (.int .i64 (i:Int)) rfl rfl ?_
    refine b6r (.string s) (.int .i64 (i:Int)) (.int .u8 (c.toNat:Int)) rfl rfl rfl rfl (c1w Go.Proofs.Tryz.underlying9 hsi) ?_
    refine a10 (.int .u8 (wr .u8 (nB r))) (.int .u8 (c.toNat:Int)) (.int .u8 (Int.ofNat (ix8 r c))) rfl rfl rfl rfl (by rw [<- c60]; exact b7L) ?_
    refine b9Z (i:=ix8 r c) f3 rfl rfl rfl Go.Proofs.Tryz.underlying96 (by kernel_rfl) (b3p r c) ?_
    refine a6P b (ix8 r c) (.int .u32 (nB (tb8 (ix8 r c)))) rfl rfl (b2Y c62 ?_) ?_
    ·have:=b2O h3 (ix8 r c) _ (b4a (b3p r c))
     rw [if_pos (b3p r c),Nat.zero_add] at this
     exact this
    refine a10 (.int .u32 (nB (r >>> 8))) (.int .u32 (nB (tb8 (ix8 r c)))) (.int .u32 (nB (a7h r c))) rfl rfl rfl rfl (by rw [c2b,<- c3h]; exact b7L) ?_
    refine a0X (.int .u32 (nB (a7h r c))) rfl rfl ?_
    refine wpList_nil (c02 (K3 (wp_region_lit ?_)))
    refine a10 (.int .i64 (i:Int)) (.int .i64 1) (.int .i64 (wr .i64 ((i:Int)+1))) f9 rfl rfl rfl b51 ?_
    refine X4 (.int .i64 (wr .i64 ((i:Int)+1))) rfl rfl ?_
    exact wpList_nil ⟨rfl,_,rfl,f0,f3,rfl,f8,congrArg _ (b6o (by omega)),by omega,rfl⟩
  ·rintro e a w ⟨rfl,F,rfl,f4,rfl⟩
   exact c2Y ⟨rfl,F,rfl,f4,rfl⟩
 ·rintro a w ⟨F,rfl,f4,rfl⟩
  refine wp_seq (wp_region_lit ?_)
  refine X4 (.int .u32 (nB (a2U s.data.toList (BitVec.allOnes 32)))) f4 rfl ?_
  refine c0I (.int .u32 (nB (a2U s.data.toList (BitVec.allOnes 32)))) (.int .u32 (b6M s)) rfl rfl (by unfold b6M; rw [<- c6g]; exact c3k) ?_
  refine a0X (.int .u32 (b6M s)) rfl rfl ?_
  exact wpList_nil (K3 (wp_ret (c59 (.int .u32 (b6M s)) rfl rfl rfl ⟨rfl,k2.trans (hB3 _ hle)⟩)))
theorem c5A:y4 Go.Proofs.Tryz.prog (⟨22,[.d .str],[.k (.d (.int .u32))],b2F⟩:Row I):=by
 intro σ a vs pls res hA hnd happ
 obtain ⟨v1,vs1,p1,q1,e1,e2,⟨e3,e4⟩,e5,e6⟩:=hA
 obtain ⟨s,u⟩:=a
 subst e1 e2 e4 e5 e6
 have e3:v1=.string s:=e3
 subst e3
 have happ:b2F s=some res:=happ
 unfold b2F at happ
 obtain ⟨hle,happ⟩:=y1 happ
 cases happ
 refine .inl ⟨hbS,(c09 s (Nat.le_of_ble_eq_true hle) σ.w).mono fun e w' ⟨e1,hB⟩=>⟨_,⟨w',b7I σ⟩,e1,rfl,?_,?_⟩⟩
 ·exact ⟨b97 hB,hB.below.os,hB.below.tape,hB.below.output,fun k hk _=>⟨hB.below.block k hk,by simp [b7I,hk]⟩⟩
 ·exact ⟨[_],[],[],rfl,rfl,⟨_,rfl,⟨rfl,rfl⟩⟩,rfl,List.nodup_nil,fun g hg=>by cases hg⟩
end Go.Qx
end
section
namespace Go.Qx
open Go Go.RowKit Go.Sx
section
variable {I:TypeId->Type} [∀ E,Rp (I E)] {P:Program}{tb:Tab I}{X X':Cxt}{c c':Cx}{σ τ:S}{s:St I}{n:Nat}{F:Fr}
def b06:PV I->Bool
 | .int _ _=>true
 | .bool _=>true
 | .str _=>true
 | .nl _=>true
 | _=>false
theorem b7m:∀ {ls:List (PV I)} {cs:List Value},ls.all b06=true->RG X c σ ls cs->RG X' c' σ ls cs
 | [],_,_,h=>by simp only [RG] at h ⊢; exact h
 | p::ls,cs,hp,h=>by
   simp only [List.all_cons,Bool.and_eq_true] at hp
   simp only [RG] at h ⊢
   obtain ⟨a,r,e,h1,h2⟩:=h
   refine ⟨a,r,e,?_,b7m hp.2 h2⟩
   rcases h1 with h1 | ⟨h1,v,e2,h3⟩
   ·exact .inl h1
   ·refine .inr ⟨h1,v,e2,?_⟩
    revert h3
    cases p<;>first | (intro h3; simp only [RV] at h3 ⊢; exact h3) | exact absurd hp.1 (by simp [b06])
def c1d (tb:Tab I)(TS TM:TypeId)(rl:List ResultVar):Ex->St I->Option (I TS×List (PV I)):=fun e s=>match e with
 | .exit _=>none
 | _=>match a8V tb s rl with
   | some [.ptr l2 0]=>match s.O l2 with
     | some (some (.var T2 (.ptr l1 0::r) true))=>match s.O l1 with
       | some (some (.var T1 ls true))=>bif Nat.beq T1 TS&&Nat.beq T2 TM&&!(Nat.beq l1 l2)&&r.all b06 then Option.bind (ofG tb TS ls) fun d=>some (d,r) else none
       | _=>none
     | _=>none
   | _=>none
def c2F (E:TypeId)(nt:Nat)(xs:List (I E)):St I:=⟨nt,fun i=>bif Nat.beq i 0 then some (.sl E xs false) else none,fun _=>none,0⟩
def b1F (tb:Tab I)(E TS TM:TypeId)(m:Nat)(_:X2 I)(ρ:Type)(_:Obs I)(nb:Nat)(ps:List (PV I))(k:Ef I->Option ρ):Option ρ:=match ps with
 | [.sl E' xs _]=>Option.bind (a0u E E' xs) fun ys=>Option.bind (ofG tb TS [.sl E (ys.take m) false,.int .i64 0]) fun d=>Option.bind (tb.zero TM) fun zs =>
    k ⟨.ptr (nb+1) 0,[],[.var TS [.dat TS d] true,.var TM (.ptr nb 0::zs.drop 1) true]⟩
 | _=>none
theorem c4a (ht:TabOk P tb)(hmx:P.follows .mixedOrders=true){f:FuncId}{fn:Func}{E TS TM:TypeId}{m nt:Nat}{cd:Code}{rl:List ResultVar}{H:Hints I}{q:Nat}
 (hf : P.funcs[f]? = some fn) (hb : ∃ (i0 : Nat) (t0 : TypeId) (p0 : String), fn.body = some (.seq (.region i0 #[⟨some q, .assign (.const (.pointer none)), t0, p0, #[], none⟩] false) cd)) (hq : q ≠ 0) (hname : (fn.name == "runtime.NumGoroutine") = false) (hn : fn.ntmps = nt) (hres : fn.results.toList = rl) (hle : Nat.ble 1 nt = true) (hcode : a05 H cd 1 = true)
 (hex:∀ (xs:List (I E)) (d:I TS) (zs:List (PV I)),ofG tb TS [.sl E (xs.take m) false,.int .i64 0]=some d->tb.zero TM=some zs->a38 tb noD H cd 1 (I TS×List (PV I)) (c2F E nt xs) (c1d tb TS TM rl)=some (d,zs.drop 1)) :
 EntOk P (⟨f,b1F tb E TS TM m⟩:Ans I):=by
 obtain ⟨i0,t0,p0,hb⟩:=hb
 refine ⟨fun disp ρ O nb ps k=>?_,fun disp hd O nb ps ef he=>?_⟩
 ·show b1F tb E TS TM m disp ρ O nb ps k=(b1F tb E TS TM m disp (Ef I) O nb ps some).bind k
  unfold b1F
  split
  ·simp only [Option.bind_assoc,Option.bind_some]
  ·rfl
 ·intro X c σ s n F vs hX hO h hvs hfree
  have he':b1F tb E TS TM m disp (Ef I) O nb ps some=some ef:=he
  unfold b1F at he'
  split at he'
  ·rename_i E' xs full
   obtain ⟨ys,hys,he'⟩:=bind_some he'
   obtain ⟨d,hd',he'⟩:=bind_some he'
   obtain ⟨zs,hzs,he'⟩:=bind_some he'
   cases he'
   unfold a0u at hys
   split at hys
   ·rename_i hE
    subst hE
    cases hys
    simp only [RVs] at hvs
    obtain ⟨v,r,rfl,hv,hr⟩:=hvs
    subst hr
    let X0:Cxt:=⟨P,σ.N,fun _=>False⟩
    have hexec:=hex xs d zs hd' hzs
    have hini:Rel X0 (fun _=>none) σ (c2F E' nt xs) nt (Y9 (a1P [v]) (some q) (.pointer none)):=by
     refine ⟨rfl,fun i p hp=>?_,(fun _ _ h=>by cases h),(fun _ _ _ _ _ ⟨_,h⟩=>by cases h),(fun _ _ _ ⟨_,h⟩=>by cases h),fun _ _=>rfl,Nat.le_refl _,noN.nests fun _ _ _ _ _ _ h=>by cases h⟩
     have hp':(bif Nat.beq i 0 then some (PV.sl E' xs false) else none)=some p:=hp
     obtain ⟨hi,hp'⟩:=y1 hp'
     cases hp'
     have:=Nat.eq_of_beq_eq_true hi
     subst this
     simp only [RV] at hv
     obtain ⟨A,k,e,hs,_⟩:=hv
     have:Y9 (a1P [v]) (some q) (.pointer none) 0=v:=by
      have hb0:Nat.beq 0 q=false:=by
       cases hb0:Nat.beq 0 q with
       | false=>rfl
       | true=>exact absurd (Nat.eq_of_beq_eq_true hb0).symm hq
      simp [Y9,upd,hb0,a1P,List.getD]
     rw [this]
     simp only [RV]
     exact ⟨A,k,e,hs,fun e=>by cases e⟩
    refine .inl ⟨⟨fn,_,hf,hb,hname⟩,calls_of_wp hf hb ?_⟩
    have hle':=Nat.le_of_ble_eq_true hle
    have e:(⟨[v].toArray++Array.replicate (fn.ntmps - [v].toArray.size) undef,[]⟩:Act)=fr nt (a1P [v]):=by
     rw [hn]
     simp only [fr]
     congr 1
     apply Array.ext
     ·simp; omega
     ·intro i h1 h2
      simp only [Array.getElem_ofFn,a1P,Array.getElem_append]
      split
      ·rename_i hi; simp at hi; simp [List.getD,hi]
      ·rename_i hi; simp at hi; simp [List.getD,List.getElem?_eq_none (l:=[v]) (show [v].length<=i by simp; omega)]
    rw [e]
    refine wp_seq (wp_region_lit ?_)
    refine a0X (.pointer none) rfl rfl ?_
    refine wpList_nil (K3 ?_)
    refine a1r ht c1x hmx cd 1 hcode _ _ _ _ X0 _ σ _ _ rfl hexec hini fun ex s' c2 τ F' hfin hle2 hr st _=>?_
    have key:(∃ l1 l2 T1 T2 r ls,a8V tb s' rl=some [.ptr l2 0]/\s'.O l2=some (some (.var T2 (.ptr l1 0::r) true))/\s'.O l1=some (some (.var T1 ls true))/\(Nat.beq T1 TS&&Nat.beq T2 TM&&!(Nat.beq l1 l2)&&r.all b06)=true/\ofG tb TS ls=some d/\r=zs.drop 1) ->
     ∃ v,(results fn (fr nt F').tmps).run P τ.w=.ok v τ.w/\∃ v' τ',Ending.returned v=.returned v'/\τ'.w=τ.w/\Stp X.M σ τ'/\∃ c',Cx.le c c'/\Rel X c' τ' (apE s nb ⟨.ptr (nb+1) 0,[],[.var TS [.dat TS d] true,.var TM (.ptr nb 0::zs.drop 1) true]⟩) n F/\RV X c' τ' (.ptr (nb+1) 0:PV I) v':=by
     rintro ⟨l1,l2,T1,T2,r,ls,g1,g2,g3,g4,g5,rfl⟩
     simp only [Bool.and_eq_true] at g4
     obtain ⟨⟨⟨t1,t2⟩,t3⟩,t4⟩:=g4
     have t1:=Nat.eq_of_beq_eq_true t1
     have t2:=Nat.eq_of_beq_eq_true t2
     subst t1
     subst t2
     have hne:l1≠l2:=fun e=>by subst e; simp at t3
     obtain ⟨ws,w1,w2⟩:=b39 ht hr g1
     simp only [RVs] at w1
     obtain ⟨v2,r2,rfl,hv2,hr2⟩:=w1
     subst hr2
     simp only [RV] at hv2
     obtain ⟨b2,w2',cc2,rfl⟩:=hv2
     obtain ⟨b2',cs2,k1,k2,k3,k4,_⟩:=hr.objs l2 _ g2
     rw [k1] at cc2
     cases cc2
     obtain ⟨b1,cs1,m1,m2,m3,m4,_⟩:=hr.objs l1 _ g3
     have hb1:σ.N<=b1:=(hr.mine l1 _ b1 ⟨_,g3⟩ m1 rfl).elim id False.elim
     have hb2:σ.N<=b2:=(hr.mine l2 _ b2 ⟨_,g2⟩ k1 rfl).elim id False.elim
     have hbne:b1≠b2:=fun e=>by
      subst e
      exact hne (hr.inj l1 l2 _ _ b1 ⟨_,g3⟩ ⟨_,g2⟩ m1 k1 rfl rfl)
     have stN:Stp NoB σ τ:=st.mono fun b hb hM=>hM.elim (fun (hM:σ.N<=b)=>by omega) id
     have h1:=h.step stN
     have hcd:Rp.cells τ d cs1:=b3y ht g5 m2
     simp only [a0P,Bool.and_eq_true,Option.isNone_iff_eq_none] at hfree
     obtain ⟨f1,f2,_⟩:=hfree
     have f1:s.O nb=none:=f1
     have f2:s.O (nb+1)=none:=f2
     have hle1:Cx.le c (K0 c nb ⟨some ⟨b1,0,none⟩,0,0,some b1⟩):=a5Y (h.nom nb f1)
     obtain ⟨n1,n2⟩:=h1.add (l:=nb) (o:=.var T1 [.dat T1 d] true) (p:=⟨some ⟨b1,0,none⟩,0,0,some b1⟩) f1 (fun g hg=>by
      cases hg
      refine ⟨.inl (Nat.le_trans h.base hb1),h.freshN stN hb1,fun l' p' ⟨o,ho⟩ hc hw=>?_⟩
      have:=(h.objs l' o ho).lt hc hw
      omega) ⟨b1,cs1,w7 _ _ _,RG.one hcd,m3,fun _=>m4 rfl,fun e=>by cases e⟩
     have f2':(Z2 s nb (some (.var T1 [.dat T1 d] true))).O (nb+1)=none:=by
      show upF s.O nb _ (nb+1)=none
      rw [Y3 (by omega)]; exact f2
     have hcs2:RG X (K0 (K0 c nb ⟨some ⟨b1,0,none⟩,0,0,some b1⟩) (nb+1) ⟨some ⟨b2,0,none⟩,0,0,some b2⟩) τ (.ptr nb 0::zs.drop 1) cs2:=by
      simp only [RG] at k2 ⊢
      obtain ⟨a,r0,e,q1,q2⟩:=k2
      refine ⟨a,r0,e,?_,b7m t4 q2⟩
      rcases q1 with q1 | ⟨_,v,e2,q3⟩
      ·exact absurd q1 (by simp [b3D])
      ·refine .inr ⟨rfl,v,e2,?_⟩
       simp only [RV] at q3 ⊢
       obtain ⟨b',w',q4,q5⟩:=q3
       rw [m1] at q4
       cases q4
       exact ⟨b1,some b1,by simp [K0],q5⟩
     obtain ⟨n3,n4⟩:=n2.add (l:=nb+1) (o:=.var T2 (.ptr nb 0::zs.drop 1) true) (p:=⟨some ⟨b2,0,none⟩,0,0,some b2⟩) f2' (fun g hg=>by
      cases hg
      refine ⟨.inl (Nat.le_trans h.base hb2),notIn.grow (s':=Z2 s nb (some (.var T1 [.dat T1 d] true))) (h.freshN stN hb2) h1 hle1 fun l' E E' u xs q e=>?_,fun l' p' ⟨o,ho⟩ hc hw=>?_⟩
      ·rcases j6 e with ⟨_,e'⟩ | ⟨_,e'⟩
       ·cases e'
       ·exact e'
      ·by_cases el:l'=nb
       ·subst el
        rw [w7] at hc
        cases hc
        cases hw
        exact hbne rfl
       ·have ho':s.O l'=some (some o):=(Y3 el).symm.trans ho
        have hc':c l'=some p':=by simpa [K0,el] using hc
        have:=(h.objs l' o ho').lt hc' hw
        omega) ⟨b2,cs2,w7 _ _ _,hcs2,k3,fun _=>k4 rfl,fun e=>by cases e⟩
     refine ⟨_,b4K (by rw [hres]; exact w2),_,τ,rfl,rfl,stN.no,_,Cx.le_trans n1 n3,n4,?_⟩
     simp only [a7b,RV]
     exact ⟨b2,_,w7 _ _ _,rfl⟩
    have hfin':(match a8V tb s' rl with
     | some [.ptr l2 0]=>match s'.O l2 with
       | some (some (.var T2 (.ptr l1 0::r) true))=>match s'.O l1 with
         | some (some (.var T1 ls true))=>bif Nat.beq T1 TS&&Nat.beq T2 TM&&!(Nat.beq l1 l2)&&r.all b06 then Option.bind (ofG tb TS ls) fun d=>some (d,r) else none
         | _=>none
       | _=>none
     | _=>none)=some (d,zs.drop 1)->∃ l1 l2 T1 T2 r ls,a8V tb s' rl=some [.ptr l2 0]/\s'.O l2=some (some (.var T2 (.ptr l1 0::r) true))/\s'.O l1=some (some (.var T1 ls true))/\(Nat.beq T1 TS&&Nat.beq T2 TM&&!(Nat.beq l1 l2)&&r.all b06)=true/\ofG tb TS ls=some d/\r=zs.drop 1:=by
     intro hh
     split at hh
     ·rename_i l2 e1
      split at hh
      ·rename_i T2 l1 r e2
       split at hh
       ·rename_i T1 ls e3
        obtain ⟨q1,hh⟩:=y1 hh
        obtain ⟨d0,q2,hh⟩:=bind_some hh
        cases hh
        exact ⟨l1,l2,T1,T2,_,ls,e1,e2,e3,q1,q2,rfl⟩
       ·cases hh
      ·cases hh
     ·cases hh
    cases ex with
    | exit i=>cases hfin
    | normal =>
      obtain ⟨v,h1,v',τ',h2,h3⟩:=key (hfin' hfin)
      exact ⟨rfl,v,h1,v',τ',h2,h3⟩
    | ret =>
      obtain ⟨v,h1,v',τ',h2,h3⟩:=key (hfin' hfin)
      exact ⟨rfl,v,h1,v',τ',h2,h3⟩
   ·cases hys
  ·cases he'
end
end Go.Qx
end
section
namespace Go.Qx
open Go Go.RowKit Go.Sx
set_option maxHeartbeats 1600000
set_option maxRecDepth 100000
abbrev RK (r:Row I):Prop:=y4 Go.Proofs.Tryz.prog r
abbrev RO (r:Rio I):Prop:=b7T Go.Proofs.Tryz.prog r
def mkH (a:List (Nat×List (List Nat)))(b c:List (Nat×List Nat))(j:List (Nat×JH))(l:List (Nat×LH I))(k:List (Nat×KH I))(ns:List (Nat×NH I))(u:List (Nat×Nat)):Hints I :=
 ⟨fun i=>(asc a i).getD [],fun i=>(asc b i).getD [],fun i=>(asc c i).getD [],asc j,asc l,asc k,asc ns,fun i=>(asc u i).getD 0⟩
def Z0:Hints I:=mkH [] [] [] [] [] [] [] []
structure En where
 ans:Ans I
 ok:EntOk Go.Proofs.Tryz.prog ans
def enL:List En->List (Ans I)
 | []=>[]
 | e::r=>e.ans::enL r
theorem a2P:∀ l:List En,c0x Go.Proofs.Tryz.prog (enL l)
 | []=>trivial
 | e::r=>⟨e.ok,a2P r⟩
def eR {r:Row I}(h:RK r):En:=⟨c4P tb r,c3K a1D h⟩
def eO {r:Rio I}(h:RO r):En:=⟨c5u tb r,c3O a1D h⟩
def eS {r:Row I}(T f j:Nat)(is:List Nat)(h:a0n Go.Proofs.Tryz.prog r (a78 T f j is)):En:=⟨b99 tb r (b65 T f j is),b5A a1D h (fun _ _ _ _ _ _ _ _ _ hO h hc hv=>c0d hO h hc hv)⟩
def eM {r:Row I}(f j i:Nat)(h:a0n Go.Proofs.Tryz.prog r (a8X f j i)):En:=⟨b99 tb r (b8g f j i),b5A a1D h (fun _ _ _ _ _ _ _ _ _ _ _ hc hv=>c1s hc hv)⟩
theorem okR {r:Row I}(l:List En){fn:Func}(nt:Nat)(H:Hints I)(rl:List ResultVar)(hf:(Go.Proofs.Tryz.prog).funcs[r.f]?=some fn)
 (h : (fn.body, fn.name == "runtime.NumGoroutine", fn.ntmps, fn.results.toList, Nat.ble r.ps.length nt, a05 H (a4H fn) 1, r.run) = (some (a4H fn), false, nt, rl, true, true, b5C r.ps (c3y tb (b59 (enL l) 3) H (a4H fn) nt r.ps r.rs rl))) : RK r := by
 simp only [Prod.mk.injEq] at h
 obtain ⟨h1,h2,h3,h4,h5,h6,h7⟩:=h
 exact c5m a1D (a1d (a2P l) 3) mixed nt hf h1 h2 h3 h4 h5 h6 h7
def cd2 (fn:Func):Code:=match a4H fn with
 | .seq _ b=>b
 | c=>c
theorem c6h (xs:List (I 3)):cut xs 0 (min (xs.length:Int) 50)=some (xs.take 50):=by
 unfold cut
 rw [if_pos ⟨by omega,by omega,by omega⟩]
 congr 1
 rw [show (0:Int).toNat=0 from rfl,List.drop_zero]
 by_cases h:xs.length<=50
 ·rw [List.take_of_length_le (by omega),List.take_of_length_le h]
 ·congr 1; omega
theorem c5t:(fun xs:List (I 3)=>a38 tb noD Z0 (cd2 Go.Proofs.Tryz.f10) 1 (I 49×List (PV I)) (c2F 3 12 xs) (c1d tb 49 45 [.tmp 2])) =
 fun xs=>Option.bind (cut xs 0 (min (xs.length:Int) 50)) fun ys=>Option.bind (ofG tb 49 [.sl 3 ys false,.int .i64 0]) fun d=>Option.bind (tb.zero 45) fun zs=>some (d,zs.drop 1):=by kernel_rfl
def c5E:En:=⟨⟨10,b1F tb 3 49 45 50⟩,c4a (H:=Z0) (q:=2) (rl:=[.tmp 2]) (nt:=12) (cd:=cd2 Go.Proofs.Tryz.f10) a1D mixed Go.Proofs.Tryz.func10 ⟨_,_,_,rfl⟩ (by decide) (by kernel_rfl) (by kernel_rfl) (by kernel_rfl) (by kernel_rfl) (by kernel_rfl) fun xs d zs h1 h2=>by
 have h:=congrFun c5t xs
 rw [c6h,Option.bind_some,h1,Option.bind_some,h2] at h
 exact h⟩
def c4p:Row I:=⟨172,[.d (.str),.d (.str)],[.k (.d (.int .i64))],b8h⟩
theorem c5k:y4 Go.Proofs.Tryz.prog c4p:=c47 Go.Proofs.Tryz.func172 (by kernel_rfl) rfl (by kernel_rfl) (by kernel_rfl)
def c5d:Row I:=⟨79,[.d (.sl 3)],[.k (.row 3 false)],a3Y 8⟩
theorem c3A:y4 Go.Proofs.Tryz.prog c5d:=b77 a1D mixed Go.Proofs.Tryz.func79 (by kernel_rfl) (by kernel_rfl) (by kernel_rfl) Go.Proofs.Tryz.underlying22 rfl (by kernel_rfl) (fun _=>by kernel_rfl)
def c4r:Row I:=⟨142,[.d (.sl 102)],[.k (.row 102 false)],a3Y 40⟩
theorem c5j:y4 Go.Proofs.Tryz.prog c4r:=b77 a1D mixed Go.Proofs.Tryz.func142 (by kernel_rfl) (by kernel_rfl) (by kernel_rfl) Go.Proofs.Tryz.underlying78 rfl (by kernel_rfl) (fun _=>by kernel_rfl)
def c3X:Rio I:=⟨110,9,[],[],b9I⟩
theorem c5e:b7T Go.Proofs.Tryz.prog c3X:=c1L (I:=I) (E:=9) Go.Proofs.Tryz.lay110 110 (by kernel_rfl) (fun x=>x) Iff.rfl ⟨_,_,Go.Proofs.Tryz.func110,rfl,by kernel_rfl⟩
def c4B:Row I:=⟨22,[.d (.str)],[.k (.d (.int .u32))],b2F⟩
theorem c3p:y4 Go.Proofs.Tryz.prog c4B:=c5A
def a76:Hints I:=mkH [(1,[[],[0],[0,1],[0,1,2],[0,1,2,3],[0,1,2,3,4],[0,1,2,3,4,5],[0,1,2],[0,1,2,7],[0,1,2,7,8],[0,1,2,7,8,9],[0,1,2,7,8,9,10],[0,1,2,3,4,5,6,7,8,9,10,11],[0,1,2,3,4,5,6,7,8,9,10,11,12]]),(3,[[],[0],[0,1],[0,1,2],[],[4],[4,5],[4,5,6],[0,1,2,3,4,5,6,7],[0,1,2,3,4,5,6,7,8],[],[0,1,2,3,4,5,6,7,8,9,10],[0,1,2,3,4,5,6,7,8,9,10,11]])] [] [] [] [] [] [] []
def a6T:Row I:=⟨12,[.var 49 (.k (.d (.dat 49))) true,.d (.int .i64)],[.k (.d (.int .i64))],z8⟩
theorem Q3:RK (a6T) :=
 okR [] 46 a76 [.tmp 4] Go.Proofs.Tryz.func12 (by kernel_rfl)
def a6I:Hints I:=mkH [(5,[[],[],[],[1,2],[1,2,3],[],[5],[5,6],[5,6,7],[5,6,7,8],[0,1,2,3,4,5,6,7,8,9],[],[0,1,2,3,4,5,6,7,8,9,10,11]]),(9,[[],[0],[],[2],[2,3],[2,3,4],[2,3,4,5],[2,3,4,5,6],[0,1,2,3,4,5,6,7],[0,1,2,3,4,5,6,7,8],[0,1,2,3,4,5,6,7,8,9]])] [] [] [] [(58,⟨1125899906842496,[],[(0,.lvs [.pv 49,.d (.sl 75),.d (.int .i64),.d (.bool),.d (.int .i64)])],[(7,.k (.row 75 false)),(8,.k (.d (.int .i64)))],[((.exit 0),[(7,.k (.row 75 false))])],bnd tb (.slot 2) 1⟩),
 (14922,⟨70364449211392,[],[(9,.lvs [.d (.str),.d (.str),.row 3 false,.d (.int .i64)]),(24,.k (.d (.dat 49)))],[(10,.k (.d (.int .i64)))],[((.exit 2),[])],bnd tb (.slot 10) 2⟩)] [] [] []
def a49:Row I:=⟨25,[.var 45 (.lvs [.pv 49,.d (.sl 75),.d (.int .i64),.d (.bool),.d (.int .i64)]) true,.d (.str),.d (.int .i64)],[.k (.row 75 false)],a1j⟩
theorem a5T:RK (a49) :=
 okR [eR Q3] 51 a6I [.tmp 6] Go.Proofs.Tryz.func25 (by kernel_rfl)
def a5b:Row I:=⟨13,[.var 45 (.lvs [.pv 49,.d (.sl 75),.d (.int .i64),.d (.bool),.d (.int .i64)]) true,.d (.str),.d (.int .i64)],[.k (.row 75 false)],a0t⟩
theorem a5U:RK (a5b) :=
 okR [eR a5T] 11 Z0 [.tmp 6] Go.Proofs.Tryz.func13 (by kernel_rfl)
def b2f:Row I:=⟨97,[.d (.str),.d (.str)],[.k (.d (.int .i64))],a36⟩
theorem a5s:RK (b2f) :=
 okR [] 11 Z0 [.tmp 4] Go.Proofs.Tryz.func97 (by kernel_rfl)
def a83:Row I:=⟨70,[.d (.dat 51),.d (.dat 51)],[.k (.d (.bool))],a4O⟩
theorem a9j:RK (a83) :=
 okR [eR a5s] 24 Z0 [.tmp 4] Go.Proofs.Tryz.func70 (by kernel_rfl)
def b0I:Hints I:=mkH [] [] [] [(62669,⟨1006633056,[],[],[(.normal,[(5,.k (.row 51 false)),(6,.k (.d (.bool)))])]⟩)] [(122,⟨34359736688,[],[],[(5,.k (.row 51 false)),(6,.k (.d (.bool))),(11,.k (.d (.int .i64)))],[((.exit 0),[(5,.k (.row 51 false)),(6,.k (.d (.bool)))]),(.ret,[(4,.k (.d (.sl 51)))])],bnd tb (.slot 10) 1⟩)] [] [] []
def a9p:Row I:=⟨42,[.d (.sl 51),.d (.dat 51)],[.k (.d (.sl 51))],a5A⟩
theorem b0j:RK (a9p) :=
 okR [eR a9j] 42 b0I [.tmp 4] Go.Proofs.Tryz.func42 (by kernel_rfl)
def a9n:Hints I:=mkH [] [] [] [] [(58,⟨65320,[],[],[(3,.k (.d (.sl 51))),(8,.k (.d (.int .i64)))],[((.exit 0),[(3,.k (.d (.sl 51)))])],bnd tb (.slot 7) 1⟩)] [] [] []
def a8a:Row I:=⟨23,[.d (.sl 51)],[.k (.d (.sl 51))],a0l⟩
theorem a8p:RK (a8a) :=
 okR [eR b0j] 17 a9n [.tmp 2] Go.Proofs.Tryz.func23 (by kernel_rfl)
def a9y:Row I:=⟨72,[.d (.int .i64)],[.k (.d (.str))],a5y⟩
theorem b0k:RK (a9y) :=
 okR [] 7 Z0 [.tmp 2] Go.Proofs.Tryz.func72 (by kernel_rfl)
def a9m:Row I:=⟨126,[.d (.int .u8)],[.k (.d (.bool))],a2T⟩
theorem a9R:RK (a9m) :=
 okR [] 17 Z0 [.tmp 2] Go.Proofs.Tryz.func126 (by kernel_rfl)
def a94:Row I:=⟨127,[.d (.int .u8)],[.k (.d (.bool))],X3⟩
theorem b0J:RK (a94) :=
 okR [] 9 Z0 [.tmp 2] Go.Proofs.Tryz.func127 (by kernel_rfl)
def b2z:Hints I:=mkH [] [] [] [(978976521,⟨34253944624943037145398863266787883273185919104,[],[],[(.normal,[(7,.k (.d (.int .i64)))])]⟩)] [(58,⟨242833611528216133864932738352939863330300854881517440156476551217363035650651062268,[],[],[(4,.k (.row 174 false)),(5,.k (.d (.int .i64)))],[((.exit 0),[(4,.k (.row 174 false))]),(.ret,[(2,.k (.row 174 false)),(3,.k (.d (.bool)))])],bnd tb (.len (.slot 0)) 1⟩),
 (478008,⟨18014397435740288,[],[],[(7,.k (.d (.int .i64)))],[((.exit 3),[(7,.k (.d (.int .i64)))])],bnd tb (.len (.slot 0)) 1⟩),
 (1912056,⟨9901102462643812940843581568,[],[],[(7,.k (.d (.int .i64)))],[((.exit 5),[(7,.k (.d (.int .i64)))])],bnd tb (.len (.slot 0)) 1⟩),
 (7648248,⟨340199290171201906221318119490500690048,[],[],[(7,.k (.d (.int .i64)))],[((.exit 7),[(7,.k (.d (.int .i64)))])],bnd tb (.len (.slot 0)) 1⟩),
 (30593016,⟨182687007768075410693487431098339357195694506112,[],[],[(7,.k (.d (.int .i64)))],[((.exit 9),[(7,.k (.d (.int .i64)))])],bnd tb (.len (.slot 0)) 1⟩)] [] [] []
def b0L:Row I:=⟨98,[.d (.str)],[.k (.row 174 false),.k (.d (.bool))],a7t⟩
theorem b2b:RK (b0L) :=
 okR [eR a9R,eR b0J] 278 b2z [.tmp 2,.tmp 3] Go.Proofs.Tryz.func98 (by kernel_rfl)
def a7T:Hints I:=mkH [(1,[[],[0],[0,1],[0,1,2],[],[4],[4,5],[4,5,6],[4,5,6,7],[0,1,2,3,4,5,6,7,8]]),(2,[[],[0],[0,1],[0,1,2],[],[4],[4,5],[4,5,6],[0,1,2,3,4,5,6,7],[0,1,2,3,4,5,6,7,8],[0,1,2,3,4,5,6,7,8,9]])] [] [] [] [] [] [] []
def a6p:Row I:=⟨134,[.var 155 (.lvs [.d (.sl 174),.d (.int .i64),.d (.bool),.d (.bool),.d (.bool),.d (.int .i64),.row 81 true,.d (.int .i64),.d (.sl 9),.d (.sl 3),.d (.sl 4),.d (.sl 9)]) true],[.k (.d (.dat 174))],K1⟩
theorem V8:RK (a6p) :=
 okR [] 24 a7T [.cell 2 174] Go.Proofs.Tryz.func134 (by kernel_rfl)
def a6J:Hints I:=mkH [] [(1,[9,15])] [] [(12,⟨2097120,[],[(0,.lvs [.d (.sl 174),.d (.int .i64),.d (.bool),.d (.bool),.d (.bool),.d (.int .i64),.row 81 true,.d (.int .i64),.d (.sl 9),.d (.sl 3),.d (.sl 4),.d (.sl 9)])],[(.normal,[(20,.k (.d (.bool)))])]⟩),
 (978,⟨316912650057057350356995932172,[],[],[(.normal,[(3,.k (.d (.int .i64)))]),(.ret,[(2,.k (.d (.bool)))])]⟩),
 (62617,⟨65302194596872192,[],[],[(.normal,[(51,.k (.d (.bool)))])]⟩),
 (250477,⟨3746994889972252672,[],[],[(.normal,[(58,.k (.d (.bool)))])]⟩)] [(122,⟨316912650057057350374142246940,[],[],[(3,.k (.d (.int .i64))),(4,.k (.d (.int .i64)))],[((.exit 0),[]),(.ret,[(2,.k (.d (.bool)))])],bnd tb (.len (.ld 149 (.fld 155 0 (.slot 0)))) 1⟩)] [] [] []
def a5d:Row I:=⟨129,[.var 155 (.lvs [.d (.sl 174),.d (.int .i64),.d (.bool),.d (.bool),.d (.bool),.d (.int .i64),.row 81 true,.d (.int .i64),.d (.sl 9),.d (.sl 3),.d (.sl 4),.d (.sl 9)]) true],[.k (.d (.bool))],a2Y⟩
theorem a5F:RK (a5d) :=
 okR [eR V8] 98 a6J [.tmp 2] Go.Proofs.Tryz.func129 (by kernel_rfl)
def a7p:Row I:=⟨100,[.var 155 (.lvs [.d (.sl 174),.d (.int .i64),.d (.bool),.d (.bool),.d (.bool),.d (.int .i64),.row 81 true,.d (.int .i64),.d (.sl 9),.d (.sl 3),.d (.sl 4),.d (.sl 9)]) true,.d (.int .i64),.d (.str)],[.k (.d (.bool))],Z4⟩
theorem Q6:RK (a7p) :=
 okR [eR V8] 33 Z0 [.tmp 6] Go.Proofs.Tryz.func100 (by kernel_rfl)
def a8E:Hints I:=mkH [(1,[[],[],[1],[1,2],[1,2,3],[1,2,3,4],[],[6],[1,2,3,4,5,6,7],[0,1,2,3,4,5,6,7,8],[0,1,2,3,4,5,6,7,8,9],[0,1,2,3,4,5,6,7,8,9,10],[0,1,2,3,4,5,6,7,8,9,10,11]])] [] [] [] [] [] [] []
def a6X:Row I:=⟨133,[.var 155 (.lvs [.d (.sl 174),.d (.int .i64),.d (.bool),.d (.bool),.d (.bool),.d (.int .i64),.row 81 true,.d (.int .i64),.d (.sl 9),.d (.sl 3),.d (.sl 4),.d (.sl 9)]) true,.d (.dat 81)],[.k (.d (.int .i64))],y3⟩
theorem Q7:RK (a6X) :=
 okR [] 24 a8E [.tmp 4] Go.Proofs.Tryz.func133 (by kernel_rfl)
def a6v:Row I:=⟨131,[.var 155 (.lvs [.d (.sl 174),.d (.int .i64),.d (.bool),.d (.bool),.d (.bool),.d (.int .i64),.row 81 true,.d (.int .i64),.d (.sl 9),.d (.sl 3),.d (.sl 4),.d (.sl 9)]) true,.d (.str)],[],Y6⟩
theorem V6:RK (a6v) :=
 okR [eR Q6] 11 Z0 [] Go.Proofs.Tryz.func131 (by kernel_rfl)
def b0r:Row I:=⟨182,[.d (.int .u8)],[.k (.d (.bool))],a3K⟩
theorem b2h:RK (b0r) :=
 okR [] 9 Z0 [.tmp 2] Go.Proofs.Tryz.func182 (by kernel_rfl)
def b0q:Row I:=⟨166,[.d (.int .u8)],[.k (.d (.bool))],a7u⟩
theorem b1R:RK (b0q) :=
 okR [] 9 Z0 [.tmp 2] Go.Proofs.Tryz.func166 (by kernel_rfl)
def b1l:Hints I:=mkH [] [] [] [] [(58,⟨4398046248972,[],[],[(3,.k (.d (.int .i64)))],[((.exit 0),[]),(.ret,[(2,.k (.d (.bool)))])],bnd tb (.len (.slot 0)) 1⟩)] [] [] []
def a9U:Row I:=⟨168,[.d (.str)],[.k (.d (.bool))],a1Y⟩
theorem a2m:RK (a9U) :=
 okR [eR b2h,eR b1R] 42 b1l [.tmp 2] Go.Proofs.Tryz.func168 (by kernel_rfl)
def a81:Row I:=⟨170,[.d (.dat 100)],[.k (.d (.bool))],a2v⟩
theorem a3I:RK (a81) :=
 okR [eR a2m] 22 Z0 [.tmp 2] Go.Proofs.Tryz.func170 (by kernel_rfl)
def b1a:Row I:=⟨184,[.d (.int .i64),.d (.int .i64)],[.k (.d (.int .i64))],a7v⟩
theorem b1n:RK (b1a) :=
 okR [] 11 Z0 [.tmp 4] Go.Proofs.Tryz.func184 (by kernel_rfl)
def a6o:Row I:=⟨171,[.d (.dat 100),.d (.dat 100)],[.k (.d (.int .i64))],a1I⟩
theorem a2Q:RK (a6o) :=
 okR [eR b1n,eR a5s] 20 Z0 [.tmp 4] Go.Proofs.Tryz.func171 (by kernel_rfl)
def a6F:Hints I:=mkH [(2,[[],[],[1],[0,1,2],[0,1,2,3],[0,1,2,3,4],[0,1,2,3,4],[0,1,2,3,4,5,6],[0,1,2,3,4,5,6,7],[0,1,2,3,4,5,6,7,8],[0,1,2,3,4],[0,1,2,3,4,10],[0,1,2,3,4,5,6,7,8,9,10,11],[0,1,2,3,4,5,6,7,8,9,10,11,12],[0,1,2,3,4,5,6,7,8,9,10,11,12,13]]),(4,[[],[],[1],[0,1,2],[0,1,2,3],[0,1,2,3,4],[0,1,2,3,4],[0,1,2,3,4,5,6],[0,1,2,3,4,5,6,7],[0,1,2,3,4,5,6,7,8],[0,1,2,3,4],[0,1,2,3,4,10],[0,1,2,3,4,5,6,7,8,9,10,11],[0,1,2,3,4,5,6,7,8,9,10,11,12]]),(7,[[],[],[1],[0,1,2],[],[],[4,5],[0,1,2,3,4,5,6],[0,1,2,3,4,5,6,7]])] [] [] [(61,⟨7696581394432,[],[(0,.lvs [.d (.sl 174),.d (.int .i64),.d (.bool),.d (.bool),.d (.bool),.d (.int .i64),.row 81 true,.d (.int .i64),.d (.sl 9),.d (.sl 3),.d (.sl 4),.d (.sl 9)])],[(.normal,[])]⟩)] [(28,⟨67108480,[],[],[(7,.k (.d (.int .i64)))],[((.exit 0),[(7,.k (.d (.int .i64)))])],bnd tb (.len (.slot 1)) 1⟩)] [] [] []
def a5m:Row I:=⟨230,[.var 155 (.lvs [.d (.sl 174),.d (.int .i64),.d (.bool),.d (.bool),.d (.bool),.d (.int .i64),.row 81 true,.d (.int .i64),.d (.sl 9),.d (.sl 3),.d (.sl 4),.d (.sl 9)]) true,.d (.sl 102),.d (.dat 102)],[.k (.row 102 false)],a2X⟩
theorem a6d:RK (a5m) :=
 okR [eR a2Q] 55 a6F [.tmp 6] Go.Proofs.Tryz.func230 (by kernel_rfl)
def j8 (n:Nat):Row I:=⟨196,[.var 155 (.lvs [.d (.sl 174),.d (.int .i64),.d (.bool),.d (.bool),.d (.bool),.d (.int .i64),.row 81 true,.d (.int .i64),.d (.sl 9),.d (.sl 3),.d (.sl 4),.d (.sl 9)]) true,.d (.str)],[.k (.d (.int .i64))],a6G n⟩
def a7e (n:Nat):Hints I:=mkH [] [] [] [] [(28,⟨16264,[],[(0,.lvs [.d (.sl 174),.d (.int .i64),.d (.bool),.d (.bool),.d (.bool),.d (.int .i64),.row 81 true,.d (.int .i64),.d (.sl 9),.d (.sl 3),.d (.sl 4),.d (.sl 9)])],[(3,.k (.row 3 false))],[((.exit 0),[(3,.k (.row 3 false))])],fun _=>some n⟩)] [] [] []
def w4 (n:Nat):Row I:=⟨149,[.var 155 (.lvs [.d (.sl 174),.d (.int .i64),.d (.bool),.d (.bool),.d (.bool),.d (.int .i64),.row 81 true,.d (.int .i64),.d (.sl 9),.d (.sl 3),.d (.sl 4),.d (.sl 9)]) true],[.k (.d (.int .i64))],a8L n⟩
def a5O (n:Nat):Hints I:=mkH [(20,[[],[],[1],[0,1,2],[],[0,1,2,3,4]])] [(7,[46])] [] [(8146,⟨11139483563523841539937031148886364170223616,[],[(0,.lvs [.d (.sl 174),.d (.int .i64),.d (.bool),.d (.bool),.d (.bool),.d (.int .i64),.row 81 true,.d (.int .i64),.d (.sl 9),.d (.sl 3),.d (.sl 4),.d (.sl 9)]),(3,.lvs [.d (.int .i64),.d (.int .i64),.d (.int .i64),.d (.str),.row 3 false,.row 102 false,.d (.int .i64),.d (.int .i64)])],[(.normal,[])]⟩),
 (15916,⟨1125891316908032,[],[(0,.lvs [.d (.sl 174),.d (.int .i64),.d (.bool),.d (.bool),.d (.bool),.d (.int .i64),.row 81 true,.d (.int .i64),.d (.sl 9),.d (.sl 3),.d (.sl 4),.d (.sl 9)])],[(.normal,[(49,.k (.d (.bool)))])]⟩),
 (15917,⟨1298074214633706906006724175463300,[],[(0,.lvs [.d (.sl 174),.d (.int .i64),.d (.bool),.d (.bool),.d (.bool),.d (.int .i64),.row 81 true,.d (.int .i64),.d (.sl 9),.d (.sl 3),.d (.sl 4),.d (.sl 9)]),(3,.lvs [.d (.int .i64),.d (.int .i64),.d (.int .i64),.d (.str),.row 3 false,.row 102 false,.d (.int .i64),.d (.int .i64)]),(4,.k (.d (.dat 290)))],[(.normal,[]),(.ret,[(2,.k (.d (.int .i64)))])]⟩),
 (32584,⟨163335536122050462462419811567248741498880,[],[],[(.normal,[(136,.k (.d (.bool)))])]⟩),
 (254677,⟨128,[],[],[(.normal,[(7,.k (.d (.int .i64)))])]⟩),
 (254685,⟨302231454903657293676544,[],[(8,.k (.d (.dat 100)))],[(.normal,[])]⟩),
 (509358,⟨110680464442257309696,[],[(4,.k (.d (.dat 290)))],[(.normal,[])]⟩)] [(124,⟨83076749736557242056487941267489764,[],[(0,.lvs [.d (.sl 174),.d (.int .i64),.d (.bool),.d (.bool),.d (.bool),.d (.int .i64),.row 81 true,.d (.int .i64),.d (.sl 9),.d (.sl 3),.d (.sl 4),.d (.sl 9)]),(3,.lvs [.d (.int .i64),.d (.int .i64),.d (.int .i64),.d (.str),.row 3 false,.row 102 false,.d (.int .i64),.d (.int .i64)]),(4,.k (.d (.dat 290)))],[(5,.k (.d (.bool)))],[((.exit 0),[]),(.ret,[(2,.k (.d (.int .i64)))])],fun _=>some n⟩),
 (1018,⟨11149692034531469693840932387109317216568320,[],[(0,.lvs [.d (.sl 174),.d (.int .i64),.d (.bool),.d (.bool),.d (.bool),.d (.int .i64),.row 81 true,.d (.int .i64),.d (.sl 9),.d (.sl 3),.d (.sl 4),.d (.sl 9)]),(3,.lvs [.d (.int .i64),.d (.int .i64),.d (.int .i64),.d (.str),.row 3 false,.row 102 false,.d (.int .i64),.d (.int .i64)])],[(10,.k (.d (.int .i64)))],[((.exit 2),[])],bnd tb (.cst 2) 1⟩)] [] [] []
def k8 (n:Nat):Row I:=⟨211,[.var 155 (.lvs [.d (.sl 174),.d (.int .i64),.d (.bool),.d (.bool),.d (.bool),.d (.int .i64),.row 81 true,.d (.int .i64),.d (.sl 9),.d (.sl 3),.d (.sl 4),.d (.sl 9)]) true],[.k (.d (.int .i64))],a62 n⟩
def v8 (n:Nat):Row I:=⟨167,[.var 155 (.lvs [.d (.sl 174),.d (.int .i64),.d (.bool),.d (.bool),.d (.bool),.d (.int .i64),.row 81 true,.d (.int .i64),.d (.sl 9),.d (.sl 3),.d (.sl 4),.d (.sl 9)]) true],[.k (.d (.int .i64))],a73 n⟩
def k9 (n:Nat):Row I:=⟨99,[.var 155 (.lvs [.d (.sl 174),.d (.int .i64),.d (.bool),.d (.bool),.d (.bool),.d (.int .i64),.row 81 true,.d (.int .i64),.d (.sl 9),.d (.sl 3),.d (.sl 4),.d (.sl 9)]) true],[.k (.d (.int .i64))],a3G n⟩
def v7 (n:Nat):Row I:=⟨181,[.var 155 (.lvs [.d (.sl 174),.d (.int .i64),.d (.bool),.d (.bool),.d (.bool),.d (.int .i64),.row 81 true,.d (.int .i64),.d (.sl 9),.d (.sl 3),.d (.sl 4),.d (.sl 9)]) true],[.k (.d (.int .i64))],a7z n⟩
def a66 (n:Nat):Hints I:=mkH [] [] [] [] [(60,⟨33553968,[],[(0,.lvs [.d (.sl 174),.d (.int .i64),.d (.bool),.d (.bool),.d (.bool),.d (.int .i64),.row 81 true,.d (.int .i64),.d (.sl 9),.d (.sl 3),.d (.sl 4),.d (.sl 9)])],[(5,.k (.row 3 false))],[((.exit 0),[]),(.ret,[(4,.k (.row 3 false))])],fun _=>some n⟩)] [] [] []
def w5 (n:Nat):Row I:=⟨132,[.var 155 (.lvs [.d (.sl 174),.d (.int .i64),.d (.bool),.d (.bool),.d (.bool),.d (.int .i64),.row 81 true,.d (.int .i64),.d (.sl 9),.d (.sl 3),.d (.sl 4),.d (.sl 9)]) true,.d (.str)],[.k (.row 3 false)],a8m n⟩
def a7q (n:Nat):Hints I:=mkH [] [] [] [] [(28,⟨16264,[],[(0,.lvs [.d (.sl 174),.d (.int .i64),.d (.bool),.d (.bool),.d (.bool),.d (.int .i64),.row 81 true,.d (.int .i64),.d (.sl 9),.d (.sl 3),.d (.sl 4),.d (.sl 9)])],[(3,.k (.row 3 false))],[((.exit 0),[(3,.k (.row 3 false))])],fun _=>some n⟩)] [] [] []
def w6 (n:Nat):Row I:=⟨130,[.var 155 (.lvs [.d (.sl 174),.d (.int .i64),.d (.bool),.d (.bool),.d (.bool),.d (.int .i64),.row 81 true,.d (.int .i64),.d (.sl 9),.d (.sl 3),.d (.sl 4),.d (.sl 9)]) true],[.k (.d (.int .i64))],a8u n⟩
def w8 (n:Nat):Row I:=⟨195,[.var 155 (.lvs [.d (.sl 174),.d (.int .i64),.d (.bool),.d (.bool),.d (.bool),.d (.int .i64),.row 81 true,.d (.int .i64),.d (.sl 9),.d (.sl 3),.d (.sl 4),.d (.sl 9)]) true,.d (.str)],[.k (.d (.int .i64))],a9d n⟩
theorem a4y (n:Nat)(_:y4 Go.Proofs.Tryz.prog (j8 n))(_:y4 Go.Proofs.Tryz.prog (w4 n))(h_semtyperef18_typer_mapping:y4 Go.Proofs.Tryz.prog (k8 n))(_:y4 Go.Proofs.Tryz.prog (v8 n))(h_semtyperef18_typer_read:y4 Go.Proofs.Tryz.prog (k9 n))(_:y4 Go.Proofs.Tryz.prog (v7 n))(h_semtyperef18_typer_types:y4 Go.Proofs.Tryz.prog (w5 n))(_:y4 Go.Proofs.Tryz.prog (w6 n))(_:y4 Go.Proofs.Tryz.prog (w8 n)):RK (j8 (n+1)) :=
 okR [eR V8,eR a2m,eR Q7,eR h_semtyperef18_typer_read,eR V6,eR h_semtyperef18_typer_types,eR Q6,eR h_semtyperef18_typer_mapping] 94 Z0 [.tmp 4] Go.Proofs.Tryz.func196 (by kernel_rfl)
theorem a6a (n:Nat)(_:y4 Go.Proofs.Tryz.prog (j8 n))(_:y4 Go.Proofs.Tryz.prog (w4 n))(_:y4 Go.Proofs.Tryz.prog (k8 n))(h_semtyperef18_typer_prefix:y4 Go.Proofs.Tryz.prog (v8 n))(_:y4 Go.Proofs.Tryz.prog (k9 n))(_:y4 Go.Proofs.Tryz.prog (v7 n))(_:y4 Go.Proofs.Tryz.prog (w5 n))(_:y4 Go.Proofs.Tryz.prog (w6 n))(_:y4 Go.Proofs.Tryz.prog (w8 n)):RK (w4 (n+1)) :=
 okR [eR h_semtyperef18_typer_prefix,eR Q6,eR Q7] 24 (a7e n) [.tmp 2] Go.Proofs.Tryz.func149 (by kernel_rfl)
theorem a41 (n:Nat)(_:y4 Go.Proofs.Tryz.prog (j8 n))(_:y4 Go.Proofs.Tryz.prog (w4 n))(_:y4 Go.Proofs.Tryz.prog (k8 n))(_:y4 Go.Proofs.Tryz.prog (v8 n))(h_semtyperef18_typer_read:y4 Go.Proofs.Tryz.prog (k9 n))(_:y4 Go.Proofs.Tryz.prog (v7 n))(_:y4 Go.Proofs.Tryz.prog (w5 n))(_:y4 Go.Proofs.Tryz.prog (w6 n))(_:y4 Go.Proofs.Tryz.prog (w8 n)):RK (k8 (n+1)) :=
 okR [eR Q6,eR V8,eR h_semtyperef18_typer_read,eR a3I,eR V6,eR a6d,eR Q7] 146 (a5O n) [.tmp 2] Go.Proofs.Tryz.func211 (by kernel_rfl)
theorem a5c (n:Nat)(_:y4 Go.Proofs.Tryz.prog (j8 n))(_:y4 Go.Proofs.Tryz.prog (w4 n))(_:y4 Go.Proofs.Tryz.prog (k8 n))(h_semtyperef18_typer_prefix:y4 Go.Proofs.Tryz.prog (v8 n))(_:y4 Go.Proofs.Tryz.prog (k9 n))(h_semtyperef18_typer_simple:y4 Go.Proofs.Tryz.prog (v7 n))(_:y4 Go.Proofs.Tryz.prog (w5 n))(_:y4 Go.Proofs.Tryz.prog (w6 n))(_:y4 Go.Proofs.Tryz.prog (w8 n)):RK (v8 (n+1)) :=
 okR [eR Q6,eR h_semtyperef18_typer_prefix,eR Q7,eR h_semtyperef18_typer_simple] 19 Z0 [.tmp 2] Go.Proofs.Tryz.func167 (by kernel_rfl)
theorem a6N (n:Nat)(_:y4 Go.Proofs.Tryz.prog (j8 n))(_:y4 Go.Proofs.Tryz.prog (w4 n))(_:y4 Go.Proofs.Tryz.prog (k8 n))(_:y4 Go.Proofs.Tryz.prog (v8 n))(h_semtyperef18_typer_read:y4 Go.Proofs.Tryz.prog (k9 n))(_:y4 Go.Proofs.Tryz.prog (v7 n))(h_semtyperef18_typer_types:y4 Go.Proofs.Tryz.prog (w5 n))(h_semtyperef18_typer_union:y4 Go.Proofs.Tryz.prog (w6 n))(_:y4 Go.Proofs.Tryz.prog (w8 n)):RK (k9 (n+1)) :=
 okR [eR a5F,eR h_semtyperef18_typer_union,eR V6,eR h_semtyperef18_typer_types,eR h_semtyperef18_typer_read,eR Q7] 45 Z0 [.tmp 2] Go.Proofs.Tryz.func99 (by kernel_rfl)
theorem a5q (n:Nat)(h_semtyperef18_typer_compound:y4 Go.Proofs.Tryz.prog (j8 n))(_:y4 Go.Proofs.Tryz.prog (w4 n))(_:y4 Go.Proofs.Tryz.prog (k8 n))(_:y4 Go.Proofs.Tryz.prog (v8 n))(_:y4 Go.Proofs.Tryz.prog (k9 n))(_:y4 Go.Proofs.Tryz.prog (v7 n))(_:y4 Go.Proofs.Tryz.prog (w5 n))(_:y4 Go.Proofs.Tryz.prog (w6 n))(h_semtyperef18_typer_word:y4 Go.Proofs.Tryz.prog (w8 n)):RK (v7 (n+1)) :=
 okR [eR V8,eR Q7,eR h_semtyperef18_typer_word,eR h_semtyperef18_typer_compound] 112 Z0 [.tmp 2] Go.Proofs.Tryz.func181 (by kernel_rfl)
theorem a52 (n:Nat)(_:y4 Go.Proofs.Tryz.prog (j8 n))(_:y4 Go.Proofs.Tryz.prog (w4 n))(_:y4 Go.Proofs.Tryz.prog (k8 n))(_:y4 Go.Proofs.Tryz.prog (v8 n))(h_semtyperef18_typer_read:y4 Go.Proofs.Tryz.prog (k9 n))(_:y4 Go.Proofs.Tryz.prog (v7 n))(_:y4 Go.Proofs.Tryz.prog (w5 n))(_:y4 Go.Proofs.Tryz.prog (w6 n))(_:y4 Go.Proofs.Tryz.prog (w8 n)):RK (w5 (n+1)) :=
 okR [eR Q6,eR h_semtyperef18_typer_read,eR V6] 25 (a66 n) [.tmp 4] Go.Proofs.Tryz.func132 (by kernel_rfl)
theorem a58 (n:Nat)(_:y4 Go.Proofs.Tryz.prog (j8 n))(h_semtyperef18_typer_inter:y4 Go.Proofs.Tryz.prog (w4 n))(_:y4 Go.Proofs.Tryz.prog (k8 n))(_:y4 Go.Proofs.Tryz.prog (v8 n))(_:y4 Go.Proofs.Tryz.prog (k9 n))(_:y4 Go.Proofs.Tryz.prog (v7 n))(_:y4 Go.Proofs.Tryz.prog (w5 n))(_:y4 Go.Proofs.Tryz.prog (w6 n))(_:y4 Go.Proofs.Tryz.prog (w8 n)):RK (w6 (n+1)) :=
 okR [eR h_semtyperef18_typer_inter,eR Q6,eR Q7] 24 (a7q n) [.tmp 2] Go.Proofs.Tryz.func130 (by kernel_rfl)
theorem a6K (n:Nat)(_:y4 Go.Proofs.Tryz.prog (j8 n))(_:y4 Go.Proofs.Tryz.prog (w4 n))(_:y4 Go.Proofs.Tryz.prog (k8 n))(_:y4 Go.Proofs.Tryz.prog (v8 n))(h_semtyperef18_typer_read:y4 Go.Proofs.Tryz.prog (k9 n))(_:y4 Go.Proofs.Tryz.prog (v7 n))(_:y4 Go.Proofs.Tryz.prog (w5 n))(_:y4 Go.Proofs.Tryz.prog (w6 n))(_:y4 Go.Proofs.Tryz.prog (w8 n)):RK (w8 (n+1)) :=
 okR [eR Q7,eR V6,eR h_semtyperef18_typer_read] 94 Z0 [.tmp 4] Go.Proofs.Tryz.func195 (by kernel_rfl)
theorem a1g:∀ n:Nat,y4 Go.Proofs.Tryz.prog (j8 n)/\y4 Go.Proofs.Tryz.prog (w4 n)/\y4 Go.Proofs.Tryz.prog (k8 n)/\y4 Go.Proofs.Tryz.prog (v8 n)/\y4 Go.Proofs.Tryz.prog (k9 n)/\y4 Go.Proofs.Tryz.prog (v7 n)/\y4 Go.Proofs.Tryz.prog (w5 n)/\y4 Go.Proofs.Tryz.prog (w6 n)/\y4 Go.Proofs.Tryz.prog (w8 n)
 | 0=>⟨a0y (by kernel_rfl),a0y (by kernel_rfl),a0y (by kernel_rfl),a0y (by kernel_rfl),a0y (by kernel_rfl),a0y (by kernel_rfl),a0y (by kernel_rfl),a0y (by kernel_rfl),a0y (by kernel_rfl)⟩
 | n+1=>by
   obtain ⟨h0,h1,h2,h3,h4,h5,h6,h7,h8⟩:=a1g n
   exact ⟨a4y n h0 h1 h2 h3 h4 h5 h6 h7 h8,a6a n h0 h1 h2 h3 h4 h5 h6 h7 h8,a41 n h0 h1 h2 h3 h4 h5 h6 h7 h8,a5c n h0 h1 h2 h3 h4 h5 h6 h7 h8,a6N n h0 h1 h2 h3 h4 h5 h6 h7 h8,a5q n h0 h1 h2 h3 h4 h5 h6 h7 h8,a52 n h0 h1 h2 h3 h4 h5 h6 h7 h8,a58 n h0 h1 h2 h3 h4 h5 h6 h7 h8,a6K n h0 h1 h2 h3 h4 h5 h6 h7 h8⟩
theorem a65 (n:Nat):y4 Go.Proofs.Tryz.prog (k9 n):=(a1g n).2.2.2.2.1
def a5D:Hints I:=mkH [] [] [] [] [(26,⟨268435394,[],[],[(1,.k (.d (.int .i64))),(6,.k (.d (.int .i64)))],[((.exit 0),[(1,.k (.d (.int .i64)))])],bnd tb (.cst 0) 1⟩)] [] [] []
def a43:Row I:=⟨136,[.var 155 (.lvs [.d (.sl 174),.d (.int .i64),.d (.bool),.d (.bool),.d (.bool),.d (.int .i64),.row 81 true,.d (.int .i64),.d (.sl 9),.d (.sl 3),.d (.sl 4),.d (.sl 9)]) true,.d (.int .i64)],[.k (.d (.int .i64)),.k (.d (.bool))],Q9⟩
theorem a5g:RK (a43) :=
 okR [] 31 a5D [.tmp 4,.tmp 5] Go.Proofs.Tryz.func136 (by kernel_rfl)
def b1c:Row I:=⟨150,[.d (.dat 54),.d (.int .i64)],[.k (.d (.bool))],a0H⟩
theorem a44:RK (b1c) :=
 okR [] 14 Z0 [.tmp 4] Go.Proofs.Tryz.func150 (by kernel_rfl)
def b3v:Hints I:=mkH [(4,[[],[],[1],[],[1,2,3],[1,2,3,4],[0,1,2,3,4,5],[0,1,2,3,4,5,6]]),(47,[[],[],[1],[0,1,2],[0,1,2,3],[0,1,2,3,4],[0,1,2,3,4,5],[0,1,2,3,4,5,6],[0,1,2,3,4,5,6,7],[0,1,2,3,4,5,6,7,8],[0,1,2,3,4,5,6,7,8,9],[0,1,2,3,4,5,6,7,8,9,10],[0,1,2,3,4,5,6,7,8,9,10,11],[0,1,2,3,4,5,6,7,8,9,10,11,12],[0,1,2,3,4,5,6,7,8,9,10,11,12,13],[0,1,2,3,4,5,6,7,8,9,10,11,12,13,14],[0,1,2,3,4,5,6,7,8,9,10,11,12,13,14,15],[0,1,2,3,4,5,6,7,8,9,10,11,12,13,14],[0,1,2,3,4,5,6,7,8,9,10,11,12,13,14,17],[0,1,2,3,4,5,6,7,8,9,10,11,12,13,14,15,16,17,18],[0,1,2,3,4,5,6,7,8,9,10,11,12,13,14,15,16,17,18,19],[0,1,2,3,4,5,6,7,8,9,10,11,12,13,14,15,16,17,18,19,20],[0,1,2,3,4,5,6,7,8,9,10,11,12,13,14],[0,1,2,3,4,5,6,7,8,9,10,11,12,13,14,22],[0,1,2,3,4,5,6,7,8,9,10,11,12,13,14,15,16,17,18,19,20,21,22,23],[0,1,2,3,4,5,6,7,8,9,10,11,12,13,14,15,16,17,18,19,20,21,22,23,24],[0,1,2,3,4,5,6,7,8,9,10,11,12,13,14,15,16,17,18,19,20,21,22,23,24,25],[0,1,2,3,4,5,6,7,8,9,10,11,12,13,14,15,16,17,18,19,20,21,22,23,24,25,26]])] [] [] [(2092029,⟨2706308199418088717232151174730781556736,[],[],[(.normal,[(122,.k (.d (.bool)))])]⟩),
 (535560189,⟨3568119231764899702645714923623737840956866560,[],[],[(.normal,[(149,.k (.d (.bool)))])]⟩)] [(26,⟨67106864,[],[],[(5,.k (.d (.int .i64)))],[((.exit 0),[]),(.ret,[(4,.k (.d (.bool)))])],bnd tb (.len (.ld 22 (.fld 81 4 (.slot 3)))) 1⟩),
 (68551704562,⟨1606938044257528773904631189422958917689486710763136902759952,[],[],[(9,.k (.d (.int .i64)))],[((.exit 3),[]),(.ret,[(4,.k (.d (.bool)))])],bnd tb (.len (.ld 78 (.fld 81 5 (.slot 3)))) 1⟩)] [] [] []
def b1E:Row I:=⟨151,[.d (.dat 54),.d (.dat 81)],[.k (.d (.bool))],a8s⟩
theorem b2m:RK (b1E) :=
 okR [eR a44,eR a2m,eR a3I,eR a2Q] 216 b3v [.tmp 4] Go.Proofs.Tryz.func151 (by kernel_rfl)
def a9z:Row I:=⟨152,[.d (.dat 81)],[.k (.d (.bool))],a5v⟩
theorem b0o:RK (a9z) :=
 okR [] 16 Z0 [.tmp 2] Go.Proofs.Tryz.func152 (by kernel_rfl)
def a8v (n:Nat):Hints I:=mkH [(6,[[],[],[1],[],[1,2,3],[1,2,3,4],[0,1,2,3,4,5],[0,1,2,3,4,5,6]])] [] [] [] [(58,⟨1073709068,[],[],[(3,.k (.d (.int .i64)))],[((.exit 0),[]),(.ret,[(2,.k (.d (.int .i64)))])],bnd tb (.len (.ld 52 (.fld 54 0 (.slot 1)))) 1⟩),
 (250,⟨4951760157141521082416628192,[],[],[(4,.k (.row 4 false)),(5,.k (.d (.int .i64)))],[((.exit 2),[(4,.k (.row 4 false))])],bnd tb (.len (.ld 52 (.fld 54 0 (.slot 1)))) 1⟩),
 (506,⟨10136253041668693690874029146628,[],[],[(4,.k (.row 4 false)),(9,.k (.d (.int .i64)))],[((.exit 8),[(4,.k (.row 4 false))]),(.ret,[(2,.k (.d (.int .i64))),(4,.k (.row 4 false))])],bnd tb (.len (.slot 4)) 1⟩),
 (16018,⟨4951760157141518900573241792,[],[],[(4,.k (.row 4 false)),(6,.k (.d (.int .i64)))],[((.exit 4),[(4,.k (.row 4 false))])],bnd tb (.len (.ld 52 (.fld 54 0 (.slot 1)))) 1⟩),
 (4100682,⟨4835703278177041722114432,[],[],[(4,.k (.row 4 false)),(7,.k (.d (.bool))),(8,.k (.d (.int .i64)))],[((.exit 6),[(4,.k (.row 4 false)),(7,.k (.d (.bool)))])],fun _=>some n⟩)] [] [] []
def a7l (n:Nat):Row I:=⟨137,[.d (.dat 54)],[.k (.d (.int .i64))],a32 n⟩
theorem a7W (n:Nat):RK (a7l n) :=
 okR [eR a44,eR b2m,eR b0o] 103 (a8v n) [.tmp 2] Go.Proofs.Tryz.func137 (by kernel_rfl)
def a6w (n:Nat):Hints I:=mkH [(18,[[],[0],[],[],[],[4],[],[4,5,6],[4,5,6,7],[3,4,5,6,7,8],[3,4,5,6,7,8,9],[3,4,5,6,7,8,9,10],[3,4,5,6,7,8,9,10],[0,1,2,3,4,5,6,7,8,9,10,11],[0,1,2,3,4,5,6,7,8,9,10,11,13]]),(22,[[],[0],[],[],[],[4],[],[4,5,6],[4,5,6,7],[4,5,6,7,8],[3,4,5,6,7,8,9],[3,4,5,6,7,8,9,10],[3,4,5,6,7,8,9,10,11],[3,4,5,6,7,8,9,10,11],[0,1,2,3,4,5,6,7,8,9,10,11,12],[0,1,2,3,4,5,6,7,8,9,10,11,12,14],[0,1,2,3,4,5,6,7,8,9,10,11,12,14,15]])] [] [] [(16683940,⟨87091018283827687992657438589568176619520,[],[(0,.lvs [.d (.sl 174),.d (.int .i64),.d (.bool),.d (.bool),.d (.bool),.d (.int .i64),.row 81 true,.d (.int .i64),.d (.sl 9),.d (.sl 3),.d (.sl 4),.d (.sl 9)]),(12,.k (.d (.dat 81)))],[(.normal,[])]⟩)] [(58,⟨4398046380992,[],[(0,.lvs [.d (.sl 174),.d (.int .i64),.d (.bool),.d (.bool),.d (.bool),.d (.int .i64),.row 81 true,.d (.int .i64),.d (.sl 9),.d (.sl 3),.d (.sl 4),.d (.sl 9)])],[(6,.k (.d (.bool))),(7,.k (.d (.int .i64)))],[((.exit 0),[(6,.k (.d (.bool)))])],fun _=>some n⟩),
 (1018,⟨5575186299632655785383929559154891121817600,[],[(0,.lvs [.d (.sl 174),.d (.int .i64),.d (.bool),.d (.bool),.d (.bool),.d (.int .i64),.row 81 true,.d (.int .i64),.d (.sl 9),.d (.sl 3),.d (.sl 4),.d (.sl 9)]),(10,.lvs [.row 81 false,.d (.int .i64)])],[(11,.k (.d (.int .i64)))],[((.exit 2),[])],fun _=>some n⟩),
 (260682,⟨4951757795958279664773898240,[],[(0,.lvs [.d (.sl 174),.d (.int .i64),.d (.bool),.d (.bool),.d (.bool),.d (.int .i64),.row 81 true,.d (.int .i64),.d (.sl 9),.d (.sl 3),.d (.sl 4),.d (.sl 9)])],[(13,.k (.d (.int .i64)))],[((.exit 4),[])],bnd tb (.len (.ld 22 (.fld 81 4 (.slot 12)))) 1⟩),
 (521370,⟨41538369916518463886722871037280256,[],[(0,.lvs [.d (.sl 174),.d (.int .i64),.d (.bool),.d (.bool),.d (.bool),.d (.int .i64),.row 81 true,.d (.int .i64),.d (.sl 9),.d (.sl 3),.d (.sl 4),.d (.sl 9)])],[(14,.k (.d (.int .i64)))],[((.exit 6),[])],bnd tb (.len (.ld 78 (.fld 81 5 (.slot 12)))) 1⟩),
 (1042746,⟨87112244393385378368002871258562028404736,[],[(0,.lvs [.d (.sl 174),.d (.int .i64),.d (.bool),.d (.bool),.d (.bool),.d (.int .i64),.row 81 true,.d (.int .i64),.d (.sl 9),.d (.sl 3),.d (.sl 4),.d (.sl 9)]),(12,.k (.d (.dat 81)))],[(15,.k (.d (.int .i64)))],[((.exit 8),[])],bnd tb (.cst 2) 1⟩)] [] [] []
def a5i (n:Nat):Row I:=⟨102,[.var 155 (.lvs [.d (.sl 174),.d (.int .i64),.d (.bool),.d (.bool),.d (.bool),.d (.int .i64),.row 81 true,.d (.int .i64),.d (.sl 9),.d (.sl 3),.d (.sl 4),.d (.sl 9)]) true,.d (.int .i64)],[.k (.d (.dat 54)),.k (.d (.int .i64))],a21 n⟩
theorem a6c (n:Nat):RK (a5i n) :=
 okR [eR a5g,eR (a7W n)] 148 (a6w n) [.cell 4 54,.tmp 5] Go.Proofs.Tryz.func102 (by kernel_rfl)
def a8k (_:Nat):Hints I:=mkH [] [] [] [] [(4090,⟨147573389639722991880,[],[(2,.lvs [.row 81 false,.d (.int .i64)])],[(8,.k (.d (.int .i64)))],[((.exit 2),[]),(.ret,[(3,.k (.d (.int .i64)))])],bnd tb (.len (.ld 153 (.fld 155 9 (.slot 6)))) 1⟩)] [] [] []
def a7j (n:Nat):Row I:=⟨71,[.d (.str)],[.k (.d (.dat 54)),.k (.d (.int .i64))],a3U n⟩
theorem a7X (n:Nat):RK (a7j n) :=
 okR [eR b2b,eR (a65 n),eR Q6,eR (a6c n)] 92 (a8k n) [.cell 2 54,.tmp 3] Go.Proofs.Tryz.func71 (by kernel_rfl)
def b1I (n:Nat):Row I:=⟨43,[.d (.int .i64)],[.k (.d (.dat 54))],J7 n⟩
theorem b2y (n:Nat):RK (b1I n) :=
 okR [eR b0k,eR (a7X n)] 12 Z0 [.cell 2 54] Go.Proofs.Tryz.func43 (by kernel_rfl)
def a9o (_:Nat):Hints I:=mkH [(3,[[],[0],[0,1],[],[3],[3,4],[0,1,2,3,4,5],[0,1,2,3,4,5,6],[]])] [] [] [(1026811517,⟨316835278804602014106994606080,[],[(10,.k (.d (.dat 81)))],[(.normal,[])]⟩)] [(122,⟨324518553658426726783155752234440,[26],[(4,.lvs [.d (.int .i64),.d (.int .i64),.d (.int .i64),.d (.str),.row 3 false,.row 102 false,.d (.int .i64),.d (.int .i64)])],[(3,.k (.row 81 false)),(28,.k (.d (.int .i64)))],[((.exit 0),[(3,.k (.row 81 false))])],bnd tb (.slot 27) 1⟩),
 (250686,⟨162259276829213363110103033670664,[],[],[(3,.k (.row 81 false)),(48,.k (.d (.int .i64)))],[((.exit 2),[(3,.k (.row 81 false))])],bnd tb (.slot 47) 1⟩),
 (256702874,⟨73750947497819252736,[],[],[(11,.k (.row 3 false)),(55,.k (.d (.int .i64)))],[((.exit 4),[(11,.k (.row 3 false))])],bnd tb (.slot 54) 1⟩),
 (1026811514,⟨9670816261106674692079616,[],[],[(14,.k (.row 102 false)),(69,.k (.d (.int .i64)))],[((.exit 6),[(14,.k (.row 102 false))])],bnd tb (.slot 68) 1⟩)] [] [] []
def a7B (n:Nat):Row I:=⟨24,[.d (.dat 75)],[.k (.d (.dat 57))],a0q n⟩
theorem a8A (n:Nat):RK (a7B n) :=
 okR [eR (b2y n)] 120 (a9o n) [.cell 2 57] Go.Proofs.Tryz.func24 (by kernel_rfl)
def a9a (_:Nat):Hints I:=mkH [(15,[[],[0],[],[0,1,2],[0,1,2,3],[0,1,2,3,4],[0,1,2,3,4,5],[0,1,2,3,4,5,6],[0,1,2,3,4,5,6,7],[0,1,2,3,4,5,6,7,8],[0,1,2,3,4,5,6,7,8,9],[0,1,2,3,4,5,6,7,8,9,10],[0,1,2,3,4,5,6,7,8,9],[0,1,2,3,4,5,6,7,8,9,12],[0,1,2,3,4,5,6,7,8,9,12,13],[0,1,2,3,4,5,6,7,8,9,12,13,14],[0,1,2,3,4,5,6,7,8,9,10,11,12,13,14,15],[0,1,2,3,4,5,6,7,8,9,10,11,12,13,14,15,16],[0,1,2,3,4,5,6,7,8,9,10,11,12,13,14,15,16,17],[0,1,2,3,4,5,6,7,8,9],[0,1,2,3,4,5,6,7,8,9,10,11,12,13,14,15,16,17,18,19],[0,1,2,3,4,5,6,7,8,9,10,11,12,13,14,15,16,17,18,19,20],[0,1,2,3,4,5,6,7,8,9,10,11,12,13,14,15,16,17,18,19,20,21]])] [] [] [] [(122,⟨34357642496,[],[],[(8,.k (.row 51 false)),(21,.k (.d (.int .i64)))],[((.exit 0),[(8,.k (.row 51 false))])],bnd tb (.slot 20) 1⟩),
 (250,⟨2417851639228983471558656,[7],[(7,.lvs [.d (.str),.d (.bool),.row 57 true])],[(38,.k (.d (.int .i64)))],[((.exit 2),[])],bnd tb (.slot 37) 1⟩),
 (64102,⟨1208925819597036988710912,[7],[(7,.lvs [.d (.str),.d (.bool),.row 57 true])],[(44,.k (.d (.int .i64)))],[((.exit 4),[])],bnd tb (.slot 43) 1⟩)] [] [] []
def a7G (n:Nat):Row I:=⟨11,[.d (.str),.d (.bool),.d (.sl 75)],[.lvs [.d (.str),.d (.bool),.row 57 true]],a07 n⟩
theorem a8j (n:Nat):RK (a7G n) :=
 okR [eR a8p,eR (a8A n)] 82 (a9a n) [.cell 6 25] Go.Proofs.Tryz.func11 (by kernel_rfl)
def a4A:Row I:=⟨44,[.var 49 (.k (.d (.dat 49))) true],[.k (.d (.str))],a0f⟩
theorem a4N:RK (a4A) :=
 okR [eR Q3] 8 Z0 [.tmp 2] Go.Proofs.Tryz.func44 (by kernel_rfl)
def a6R:Row I:=⟨45,[.var 49 (.k (.d (.dat 49))) true],[.k (.d (.str))],a0N⟩
theorem a7f:RK (a6R) :=
 okR [eR Q3] 8 Z0 [.tmp 2] Go.Proofs.Tryz.func45 (by kernel_rfl)
def a5B:Row I:=⟨46,[.var 49 (.k (.d (.dat 49))) true],[.k (.d (.str))],a0x⟩
theorem a6z:RK (a5B) :=
 okR [eR Q3] 8 Z0 [.tmp 2] Go.Proofs.Tryz.func46 (by kernel_rfl)
def a5R:Hints I:=mkH [] [] [] [] [(28,⟨16776706,[],[(0,.k (.d (.dat 49)))],[(1,.k (.d (.int .i64))),(9,.k (.row 3 false))],[((.exit 0),[(9,.k (.row 3 false))])],bnd tb (.slot 1) 2⟩)] [] [] []
def a4V:Row I:=⟨47,[.var 49 (.k (.d (.dat 49))) true,.d (.int .i64),.d (.int .i64),.d (.int .i64)],[.k (.row 3 false)],y8⟩
theorem a5o:RK (a4V) :=
 okR [eR Q3] 25 a5R [.tmp 8] Go.Proofs.Tryz.func47 (by kernel_rfl)
def a5M:Hints I:=mkH [(7,[[],[0],[],[],[2,3],[2,3,4],[],[],[6,7],[],[6,7,8,9],[6,7,8,9,10],[2,3,4,5,6,7,8,9,10,11],[2,3,4,5,6,7,8,9,10,11,12],[0,1,2,3,4,5,6,7,8,9,10,11,12,13],[0,1,2,3,4,5,6,7,8,9,10,11,12,13,14],[0,1,2,3,4,5,6,7,8,9,10,11,12,13,14,15]])] [] [] [(978,⟨8796076244992,[],[(0,.k (.d (.dat 49))),(5,.lvs [.d (.int .i64),.d (.int .i64),.d (.int .i64),.d (.str),.row 3 false,.row 102 false,.d (.int .i64),.d (.int .i64)])],[(.normal,[])]⟩)] [(122,⟨8796091973760,[6],[(0,.k (.d (.dat 49))),(5,.lvs [.d (.int .i64),.d (.int .i64),.d (.int .i64),.d (.str),.row 3 false,.row 102 false,.d (.int .i64),.d (.int .i64)])],[(7,.k (.d (.int .i64)))],[((.exit 0),[])],bnd tb (.cst 3) 1⟩)] [] [] []
def a4P:Row I:=⟨48,[.var 49 (.k (.d (.dat 49))) true,.d (.int .i64)],[.k (.d (.dat 81))],a0j⟩
theorem a5h:RK (a4P) :=
 okR [eR Q3] 44 a5M [.cell 4 81] Go.Proofs.Tryz.func48 (by kernel_rfl)
def a7O:Hints I:=mkH [(8,[[],[],[0,1],[0,1,2],[],[],[],[],[7],[6,7,8],[5,6,7,8,9],[4,5,6,7,8,9,10],[4,5,6,7,8,9,10,11],[0,1,2,3,4,5,6,7,8,9,10,11,12],[0,1,2,3,4,5,6,7,8,9,10,11,12,13]])] [] [] [(29,⟨128,[],[],[(.normal,[(7,.k (.d (.int .i64)))])]⟩),
 (32243709,⟨47223664828696452136960,[],[],[(.normal,[(73,.k (.d (.bool)))])]⟩),
 (2063597565,⟨49517601571415210995964968960,[],[],[(.normal,[(93,.k (.d (.bool)))])]⟩)] [] [] [] []
def a6n:Row I:=⟨26,[.var 49 (.k (.d (.dat 49))) true,.d (.int .i64),.d (.int .i64)],[.k (.d (.dat 81))],a0Q⟩
theorem a7o:RK (a6n) :=
 okR [eR Q3,eR a4N,eR a7f,eR a6z,eR a5o,eR a5h] 128 a7O [.cell 6 81] Go.Proofs.Tryz.func26 (by kernel_rfl)
def a7S:Hints I:=mkH [(6,[[],[0],[],[],[],[2,3,4],[2,3,4,5],[0,1,2,3,4,5,6],[0,1,2,3,4,5,6,7],[0,1,2,3,4,5,6,7,8]])] [] [] [] [(122,⟨16776256,[],[(0,.k (.d (.dat 49))),(5,.lvs [.row 81 false,.d (.int .i64)])],[(6,.k (.d (.int .i64)))],[((.exit 0),[])],bnd tb (.slot 1) 1⟩)] [] [] []
def a6u:Row I:=⟨14,[.var 49 (.k (.d (.dat 49))) true,.d (.int .i64)],[.k (.d (.dat 54))],a0O⟩
theorem a68:RK (a6u) :=
 okR [eR a7o] 25 a7S [.cell 4 54] Go.Proofs.Tryz.func14 (by kernel_rfl)
def b2v (_:Nat):Hints I:=mkH [(2,[[],[],[1],[1,2],[1,2,3],[1,2,3,4],[0,1,2,3,4,5],[0,1,2,3,4,5,6],[],[8],[8,9],[8,9,10],[1,2,3,4,5,8,9,10,11],[1,2,3,4,5,8,9,10,11,12],[],[],[15],[15,16],[15,16,17],[1,2,3,4,5,8,9,10,11,12,15,16,17,18],[1,2,3,4,5,8,9,10,11,12,15,16,17,18,19],[1,2,3,4,5,8,9,10,11,12,14,15,16,17,18,19,20],[0,1,2,3,4,5,6,7,8,9,10,11,12,13,14,15,16,17,18,19,20,21],[],[0,1,2,3,4,5,6,7,8,9,10,11,12,13,14,15,16,17,18,19,20,21,22,23]]),(6,[[],[0],[],[2],[2,3],[2,3,4],[2,3,4,5],[2,3,4,5,6],[],[],[2,3,4,5,6,9],[2,3,4,5,6,9,10],[2,3,4,5,6,8,9,10,11],[2,3,4,5,6,7,8,9,10,11,12],[2,3,4,5,6,7,8,9,10,11,12,13],[0,1,2,3,4,5,6,7,8,9,10,11,12,13,14],[0,1,2,3,4,5,6,7,8,9,10,11,12,13,14,15],[0,1,2,3,4,5,6,7,8,9,10,11,12,13,14,15,16]])] [] [] [] [] [] [] []
def b00 (n:Nat):Row I:=⟨5,[.d (.sl 3)],[.k (.d (.dat 25))],a2c n⟩
theorem b1V (n:Nat):RK (b00 n) :=
 okR [c5E,eR Q3,eR a5U,eR (a8j n),eR a68] 59 (b2v n) [.cell 2 25] Go.Proofs.Tryz.func5 (by kernel_rfl)
def b6Y:Hints I:=mkH [] [] [] [] [(58,⟨34351349952,[],[],[(7,.k (.d (.int .i64)))],[((.exit 0),[]),(.ret,[(6,.k (.d (.bool)))])],bnd tb (.len (.slot 0)) 1⟩)] [] [] []
def b5r:Row I:=⟨73,[.d (.str),.fn [.int .u8] [.k (.d (.bool))],.fn [.int .u8] [.k (.d (.bool))]],[.k (.d (.bool))],a3j⟩
theorem a9F:RK (b5r) :=
 okR [] 35 b6Y [.tmp 6] Go.Proofs.Tryz.func73 (by kernel_rfl)
def b4t:Row I:=⟨74,[.d (.int .u8)],[.k (.d (.bool))],a1N⟩
theorem a4k:RK (b4t) :=
 okR [] 9 Z0 [.tmp 2] Go.Proofs.Tryz.func74 (by kernel_rfl)
def b4u:Row I:=⟨76,[.d (.int .u8)],[.k (.d (.bool))],a2J⟩
theorem a8l:RK (b4u) :=
 okR [] 9 Z0 [.tmp 2] Go.Proofs.Tryz.func76 (by kernel_rfl)
def b3d:Row I:=⟨75,[.d (.int .u8)],[.k (.d (.bool))],a5S⟩
theorem b4A:RK (b3d) :=
 okR [eR a4k,eR a8l] 13 Z0 [.tmp 2] Go.Proofs.Tryz.func75 (by kernel_rfl)
def b5b:Row I:=⟨49,[.d (.str)],[.k (.d (.bool))],a2o⟩
theorem a4X:RK (b5b) :=
 okR [eR a9F,eR a4k,eR b4A] 5 Z0 [.tmp 2] Go.Proofs.Tryz.func49 (by kernel_rfl)
def b3f:Row I:=⟨50,[.d (.str)],[.k (.d (.bool))],b04⟩
theorem b4w:RK (b3f) :=
 okR [] 9 Z0 [.tmp 2] Go.Proofs.Tryz.func50 (by kernel_rfl)
def b6L:Row I:=⟨27,[.d (.str)],[.k (.d (.bool))],a0C⟩
theorem b7w:RK (b6L) :=
 okR [eR a4X,eR b4w] 10 Z0 [.tmp 2] Go.Proofs.Tryz.func27 (by kernel_rfl)
def b1Y:Hints I:=mkH [] [] [] [(29,⟨16776824,[],[],[(.normal,[(3,.k (.d (.bool))),(4,.k (.d (.bool))),(5,.k (.d (.bool))),(6,.k (.d (.bool)))])]⟩),
 (941,⟨26624,[],[],[(.normal,[(11,.k (.d (.bool)))])]⟩),
 (3773,⟨4096000,[],[],[(.normal,[(15,.k (.d (.bool)))])]⟩)] [] [] [] []
def a97:Row I:=⟨51,[.d (.dat 81)],[.k (.d (.bool))],a1R⟩
theorem b0O:RK (a97) :=
 okR [] 67 b1Y [.tmp 2] Go.Proofs.Tryz.func51 (by kernel_rfl)
def b4F:Row I:=⟨103,[.d (.int .u8)],[.k (.d (.bool))],a2H⟩
theorem a8K:RK (b4F) :=
 okR [] 9 Z0 [.tmp 2] Go.Proofs.Tryz.func103 (by kernel_rfl)
def a90:Row I:=⟨104,[.d (.int .u8)],[.k (.d (.bool))],a3r⟩
theorem b0B:RK (a90) :=
 okR [eR a4k,eR a8K,eR a8l] 17 Z0 [.tmp 2] Go.Proofs.Tryz.func104 (by kernel_rfl)
def b1y:Row I:=⟨77,[.d (.str)],[.k (.d (.bool))],a2x⟩
theorem b2p:RK (b1y) :=
 okR [eR a9F,eR a8K,eR b0B] 5 Z0 [.tmp 2] Go.Proofs.Tryz.func77 (by kernel_rfl)
def b3n:Row I:=⟨105,[.d (.dat 100)],[.k (.d (.bool))],a3t⟩
theorem b4v:RK (b3n) :=
 okR [eR a4X] 16 Z0 [.tmp 2] Go.Proofs.Tryz.func105 (by kernel_rfl)
def b4H:Row I:=⟨83,[.d (.int .i64)],[.k (.d (.bool))],a2K⟩
theorem b5p:RK (b4H) :=
 okR [] 6 Z0 [.tmp 2] Go.Proofs.Tryz.func83 (by kernel_rfl)
def b2x:Row I:=⟨57,[.d (.int .i64),.d (.int .i64)],[.k (.d (.int .i64))],a0A⟩
theorem a6x:RK (b2x) :=
 okR [eR b5p] 20 Z0 [.tmp 4] Go.Proofs.Tryz.func57 (by kernel_rfl)
def a3L:Row I:=⟨153,[.d (.str),.d (.str)],[.k (.d (.int .i64))],a0D⟩
theorem a3S:RK (a3L) :=
 okR [eR c5k] 8 Z0 [.tmp 4] Go.Proofs.Tryz.func153 (by kernel_rfl)
def b2r:Row I:=⟨138,[.d (.str),.d (.str)],[.k (.d (.int .i64))],a22⟩
theorem b2H:RK (b2r) :=
 okR [eR a3S] 8 Z0 [.tmp 4] Go.Proofs.Tryz.func138 (by kernel_rfl)
def b08:Row I:=⟨106,[.d (.dat 100),.d (.dat 100)],[.k (.d (.int .i64))],a2d⟩
theorem b1h:RK (b08) :=
 okR [eR a6x,eR b2H] 19 Z0 [.tmp 4] Go.Proofs.Tryz.func106 (by kernel_rfl)
def a92:Hints I:=mkH [(4,[[],[0],[0,1],[0,1,2],[0,1,2,3],[0,1,2,3,4],[0,1,2,3,4,5],[0,1,2,3,4,5,6],[0,1,2,3,4,5,6,7],[0,1,2,3,4,5,6,7],[0,1,2,3,4,5,6,7,9],[0,1,2,3,4,5,6,7,8,9,10],[0,1,2,3,4,5,6,7,8,9,10,11],[0,1,2,3,4,5,6,7,8,9,10,11,12],[0,1,2,3,4,5,6,7],[0,1,2,3,4,5,6,7,14],[0,1,2,3,4,5,6,7,8,9,10,11,12,13,14,15],[0,1,2,3,4,5,6,7,8,9,10,11,12,13,14,15,16],[0,1,2,3,4,5,6,7,8,9,10,11,12,13,14,15,16,17],[0,1,2,3,4,5,6,7,8,9,10,11,12,13,14,15,16,17,18]])] [] [] [] [(26,⟨8589934492,[],[],[(7,.k (.d (.int .i64)))],[((.exit 0),[]),(.ret,[(2,.k (.d (.bool)))])],bnd tb (.slot 6) 1⟩)] [] [] []
def a8Q:Row I:=⟨78,[.d (.sl 102)],[.k (.d (.bool))],a1k⟩
theorem a9h:RK (a8Q) :=
 okR [eR b4v,eR b1h] 33 a92 [.tmp 2] Go.Proofs.Tryz.func78 (by kernel_rfl)
def b1z:Hints I:=mkH [] [] [] [(105,⟨16288,[],[],[(.normal,[(5,.k (.d (.bool)))])]⟩),
 (28311549,⟨368934881474191032320,[],[],[(.normal,[(66,.k (.d (.bool)))])]⟩)] [] [] [] []
def b0e:Row I:=⟨52,[.d (.dat 81)],[.k (.d (.bool))],a11⟩
theorem b0x:RK (b0e) :=
 okR [eR a4X,eR b2p,eR a9h] 79 b1z [.tmp 2] Go.Proofs.Tryz.func52 (by kernel_rfl)
def b5s:Hints I:=mkH [] [] [] [] [(58,⟨4190248,[],[],[(3,.k (.row 3 false)),(12,.k (.d (.int .i64)))],[((.exit 0),[(3,.k (.row 3 false))])],bnd tb (.slot 11) 1⟩)] [] [] []
def b2V:Row I:=⟨53,[.d (.dat 81)],[.k (.row 3 false)],a2n⟩
theorem a7x:RK (b2V) :=
 okR [eR c3A] 35 b5s [.tmp 2] Go.Proofs.Tryz.func53 (by kernel_rfl)
def a9Y:Row I:=⟨81,[.d (.int .i64)],[.k (.d (.bool))],a1Q⟩
theorem b01:RK (a9Y) :=
 okR [] 13 Z0 [.tmp 2] Go.Proofs.Tryz.func81 (by kernel_rfl)
def a8O (_:Nat):Hints I:=mkH [] [] [] [] [(122,⟨140462610448544,[],[(1,.k (.row 3 false))],[(38,.k (.d (.int .i64)))],[((.exit 0),[]),(.ret,[(5,.k (.d (.bool)))])],bnd tb (.slot 37) 1⟩)] [] [] []
def a1b (n:Nat):Row I:=⟨80,[.d (.int .i64),.var 22 (.k (.row 3 false)) true,.var 54 (.k (.d (.dat 54))) false,.var 135 (.k (.d .any)) false],[.k (.d (.bool))],Y2 n⟩
theorem a64 (n:Nat)(h_typeexpr_contractive_1:a0n Go.Proofs.Tryz.prog (a1b n) (a78 135 80 3 [1,2,3])):a0n Go.Proofs.Tryz.prog (a1b (n+1)) (a78 135 80 3 [1,2,3]) :=
 a2S a1D (a1d (a2P [eR b01,eS 135 80 3 [1,2,3] h_typeexpr_contractive_1]) 3) mixed 50 (s0:=fun a=>c0K 135 80 3 3 [1,2,3] (a1z tb 50 [.d (.int .i64),.var 22 (.k (.row 3 false)) true,.var 54 (.k (.d (.dat 54))) false,.var 135 (.k (.d .any)) false] a)) (fn:=Go.Proofs.Tryz.f80) (cd:=a4H Go.Proofs.Tryz.f80) (H:=(a8O n)) (rl:=[.tmp 5]) (fun X c σ a vs F h hv _ hC=>b8r rfl rfl rfl h hv hC) Go.Proofs.Tryz.func80 (by kernel_rfl) (by kernel_rfl) (by kernel_rfl) (by kernel_rfl) (by kernel_rfl) (by kernel_rfl) (by kernel_rfl)
theorem a20:∀ n:Nat,a0n Go.Proofs.Tryz.prog (a1b n) (a78 135 80 3 [1,2,3])
 | 0=>b7g (a0y (by kernel_rfl))
 | n+1=>a64 n (a20 n)
def a9Z (_:Nat):Hints I:=mkH [] [] [] [] [(250,⟨4177956,[],[(3,.k (.row 3 false))],[(14,.k (.d (.int .i64)))],[((.exit 0),[]),(.ret,[(2,.k (.d (.bool)))])],bnd tb (.slot 13) 1⟩)] [] [] []
def a8i (n:Nat):Row I:=⟨54,[.d (.dat 54)],[.k (.d (.bool))],a1l n⟩
theorem a9x (n:Nat):RK (a8i n) :=
 okR [eS 135 80 3 [1,2,3] (a20 n)] 22 (a9Z n) [.tmp 2] Go.Proofs.Tryz.func54 (by kernel_rfl)
def b09 (_:Nat):Hints I:=mkH [] [] [] [] [(58,⟨2251799811588180,[],[],[(21,.k (.d (.int .i64)))],[((.exit 0),[]),(.ret,[(2,.k (.d (.int .i64)))])],bnd tb (.slot 20) 1⟩),
 (29902,⟨1125831187365956,[34],[],[(36,.k (.d (.int .i64)))],[((.exit 2),[]),(.ret,[(2,.k (.d (.int .i64)))])],bnd tb (.slot 35) 1⟩)] [] [] []
def a9b (n:Nat):Row I:=⟨28,[.d (.dat 54)],[.k (.d (.int .i64))],J8 n⟩
theorem a0i (n:Nat):RK (a9b n) :=
 okR [eR b0O,eR b0x,eR a7x,eR (a9x n)] 54 (b09 n) [.tmp 2] Go.Proofs.Tryz.func28 (by kernel_rfl)
def b1u:Row I:=⟨82,[.d (.str)],[.k (.d (.bool))],a2D⟩
theorem b2t:RK (b1u) :=
 okR [] 6 Z0 [.tmp 2] Go.Proofs.Tryz.func82 (by kernel_rfl)
def a96:Row I:=⟨56,[.d (.str),.d (.str)],[.k (.d (.int .i64))],a1X⟩
theorem b0E:RK (a96) :=
 okR [eR b2t] 20 Z0 [.tmp 4] Go.Proofs.Tryz.func56 (by kernel_rfl)
def b8m:Hints I:=mkH [] [] [] [] [(58,⟨130852,[],[],[(8,.k (.d (.int .i64)))],[((.exit 0),[]),(.ret,[(2,.k (.d (.int .i64)))])],bnd tb (.slot 7) 1⟩)] [] [] []
def b6H:Row I:=⟨55,[.d (.sl 3)],[.k (.d (.int .i64))],a7I⟩
theorem b7v:RK (b6H) :=
 okR [] 18 b8m [.tmp 2] Go.Proofs.Tryz.func55 (by kernel_rfl)
def b6B:Hints I:=mkH [(1,[[],[0],[0,1],[],[3],[3,4],[0,1,2,3,4,5],[],[7],[7,8],[],[10],[10,11],[0,1,2,3,4,5,6,7,8,9,10,11,12],[0,1,2,3,4,5,6,7,8,9,10,11,12,13],[0,1,2,3,4,5,6,7,8,9,10,11,12,13,14],[0,1,2,3,4,5,6,7,8,9,10,11,12,13,14,15]])] [] [] [] [] [] [] []
def b5e:Row I:=⟨29,[.d (.dat 57),.d (.dat 57)],[.k (.d (.int .i64))],a3d⟩
theorem b5Y:RK (b5e) :=
 okR [eR b0E,eR a6x,eR b7v] 21 b6B [.tmp 4] Go.Proofs.Tryz.func29 (by kernel_rfl)
def b2A:Row I:=⟨146,[.d (.dat 81)],[.k (.d (.dat 54))],a9E⟩
theorem b3G:RK (b2A) :=
 okR [] 6 Z0 [.cell 2 54] Go.Proofs.Tryz.func146 (by kernel_rfl)
def b4r:Row I:=⟨117,[],[.k (.d (.dat 54))],a7c⟩
theorem a8N:RK (b4r) :=
 okR [eR b3G] 3 Z0 [.cell 0 54] Go.Proofs.Tryz.func117 (by kernel_rfl)
def b2T (n:Nat):Row I:=⟨108,[.d (.dat 54)],[.k (.d (.dat 54))],a3D n⟩
theorem a3O (n:Nat):RK (b2T n) :=
 okR [eR (a0i n),eR a8N] 8 Z0 [.cell 2 54] Go.Proofs.Tryz.func108 (by kernel_rfl)
def b3i:Hints I:=mkH [] [] [] [] [(58,⟨67092512,[],[(2,.lvs [.d (.int .i64),.d (.int .i64),.d (.int .i64),.d (.str),.row 3 false,.d (.sl 102),.d (.int .i64),.d (.int .i64)])],[(14,.k (.d (.int .i64)))],[((.exit 0),[])],bnd tb (.slot 13) 1⟩),
 (250,⟨140728898420800,[],[(2,.lvs [.d (.int .i64),.d (.int .i64),.d (.int .i64),.d (.str),.row 3 false,.row 102 false,.d (.int .i64),.d (.int .i64)])],[(33,.k (.d (.int .i64)))],[((.exit 2),[])],bnd tb (.slot 32) 1⟩)] [] [] []
def b1D:Row I:=⟨113,[.d (.dat 81),.d (.int .i64)],[.lvs [.d (.int .i64),.d (.int .i64),.d (.int .i64),.d (.str),.row 3 false,.row 102 false,.d (.int .i64),.d (.int .i64)]],a4n⟩
theorem a5z:RK (b1D) :=
 okR [eR c3A,eR c5j] 65 b3i [.cell 4 81] Go.Proofs.Tryz.func113 (by kernel_rfl)
def b47 (_:Nat):Hints I:=mkH [(8,[[],[],[1],[],[1,2,3],[0],[0,1,2,3,4,5]])] [] [] [] [(122,⟨134152449,[],[],[(0,.k (.row 81 false)),(16,.k (.d (.int .i64)))],[((.exit 0),[(0,.k (.row 81 false))])],bnd tb (.slot 15) 1⟩)] [] [] []
def b2Q (n:Nat):Row I:=⟨118,[.row 81 false,.d (.dat 54)],[.k (.row 81 false),.k (.d (.int .i64))],b0K n⟩
theorem b4D (n:Nat):RK (b2Q n) :=
 okR [eR (a3O n),eR a5z] 32 (b47 n) [.tmp 4,.tmp 5] Go.Proofs.Tryz.func118 (by kernel_rfl)
def b5F (n:Nat):Row I:=⟨89,[.d (.dat 54),.d (.int .i64)],[.k (.d (.dat 54))],a3X n⟩
theorem a5G (n:Nat):RK (b5F n) :=
 okR [eR (a0i n),eR a8N,eR (b4D n)] 30 Z0 [.cell 4 54] Go.Proofs.Tryz.func89 (by kernel_rfl)
def b1p (_:Nat):Hints I:=mkH [] [] [] [] [(30,⟨534773824,[19],[(1,.k (.row 4 false))],[(21,.k (.d (.int .i64)))],[((.exit 0),[])],bnd tb (.slot 20) 1⟩)] [] [] []
def a17 (n:Nat):Row I:=⟨139,[.d (.int .i64),.var 153 (.k (.row 4 false)) true,.var 54 (.k (.d (.dat 54))) false,.var 120 (.k (.d .any)) false],[],a28 n⟩
theorem b0b (n:Nat)(h_typeexpr_reached_1:a0n Go.Proofs.Tryz.prog (a17 n) (a78 120 139 3 [1,2,3])):a0n Go.Proofs.Tryz.prog (a17 (n+1)) (a78 120 139 3 [1,2,3]) :=
 a2S a1D (a1d (a2P [eR a7x,eS 120 139 3 [1,2,3] h_typeexpr_reached_1]) 3) mixed 29 (s0:=fun a=>c0K 120 139 3 3 [1,2,3] (a1z tb 29 [.d (.int .i64),.var 153 (.k (.row 4 false)) true,.var 54 (.k (.d (.dat 54))) false,.var 120 (.k (.d .any)) false] a)) (fn:=Go.Proofs.Tryz.f139) (cd:=a4H Go.Proofs.Tryz.f139) (H:=(b1p n)) (rl:=[]) (fun X c σ a vs F h hv _ hC=>b8r rfl rfl rfl h hv hC) Go.Proofs.Tryz.func139 (by kernel_rfl) (by kernel_rfl) (by kernel_rfl) (by kernel_rfl) (by kernel_rfl) (by kernel_rfl) (by kernel_rfl)
theorem a4q:∀ n:Nat,a0n Go.Proofs.Tryz.prog (a17 n) (a78 120 139 3 [1,2,3])
 | 0=>b7g (a0y (by kernel_rfl))
 | n+1=>b0b n (a4q n)
def b1N (n:Nat):Row I:=⟨109,[.d (.dat 54)],[.k (.row 4 false)],a4h n⟩
theorem a5x (n:Nat):RK (b1N n) :=
 okR [eS 120 139 3 [1,2,3] (a4q n)] 15 Z0 [.tmp 2] Go.Proofs.Tryz.func109 (by kernel_rfl)
def b5j (_:Nat):Hints I:=mkH [(19,[[],[0],[],[],[],[4],[],[4,5,6],[4,5,6,7],[3,4,5,6,7,8],[3,4,5,6,7,8,9],[0,1,2,3,4,5,6,7,8,9,10],[0,1,2,3,4,5,6,7,8,9,10,11]]),(24,[[],[0],[],[],[],[4],[],[4,5,6],[4,5,6,7],[4,5,6,7,8],[3,4,5,6,7,8,9],[3,4,5,6,7,8,9,10],[0,1,2,3,4,5,6,7,8,9,10,11],[0,1,2,3,4,5,6,7,8,9,10,11,12],[0,1,2,3,4,5,6,7,8,9,10,11,12,13]]),(27,[[],[],[1],[1,2],[0,1,2,3],[0,1,2,3,4],[],[],[7],[7,8],[6,7,8,9],[6,7,8,9,10],[0,1,2,3,4,5,6,7,8,9,10,11],[0,1,2,3,4,5,6,7,8,9,10,11,12],[0,1,2,3,4,5,6,7,8,9,10,11,12,13]])] [] [] [(2085693,⟨162249373308899080349378817294336,[],[(10,.lvs [.d (.int .i64),.d (.int .i64),.d (.int .i64),.d (.str),.row 3 false,.row 102 false,.d (.int .i64),.d (.int .i64)])],[(.normal,[(3,.k (.row 3 false))])]⟩)] [(250,⟨274873712752,[20],[],[(3,.k (.row 3 false)),(4,.k (.row 3 false)),(22,.k (.d (.int .i64)))],[((.exit 0),[(3,.k (.row 3 false)),(4,.k (.row 3 false))])],bnd tb (.slot 21) 1⟩),
 (1018,⟨5192296858534827628529396817600128,[],[],[(3,.k (.row 3 false)),(7,.k (.row 81 false)),(38,.k (.row 3 false)),(40,.k (.d (.int .i64)))],[((.exit 2),[(3,.k (.row 3 false)),(7,.k (.row 81 false)),(38,.k (.row 3 false))])],bnd tb (.slot 39) 1⟩),
 (1042842,⟨590286803159450912768,[],[(10,.lvs [.d (.int .i64),.d (.int .i64),.d (.int .i64),.d (.str),.row 3 false,.row 102 false,.d (.int .i64),.d (.int .i64)])],[(3,.k (.row 3 false)),(53,.k (.d (.int .i64)))],[((.exit 4),[(3,.k (.row 3 false))])],bnd tb (.slot 52) 1⟩),
 (2085690,⟨1237935316918897405253914624,[],[(10,.lvs [.d (.int .i64),.d (.int .i64),.d (.int .i64),.d (.str),.row 3 false,.row 102 false,.d (.int .i64),.d (.int .i64)])],[(3,.k (.row 3 false)),(72,.k (.d (.int .i64)))],[((.exit 6),[(3,.k (.row 3 false))])],bnd tb (.slot 71) 1⟩)] [] [] []
def b3o (n:Nat):Row I:=⟨86,[.d (.dat 54)],[.k (.d (.dat 54))],a3u n⟩
theorem a3N (n:Nat):RK (b3o n) :=
 okR [eR (a3O n),eR (a5x n),eR a5z] 119 (b5j n) [.cell 2 54] Go.Proofs.Tryz.func86 (by kernel_rfl)
def b61 (n:Nat):Row I:=⟨107,[.d (.dat 54),.d (.int .i64)],[.k (.d (.dat 54))],b1J n⟩
theorem b7B (n:Nat):RK (b61 n) :=
 okR [eR (a5G n),eR (a3N n)] 9 Z0 [.cell 4 54] Go.Proofs.Tryz.func107 (by kernel_rfl)
def b7x (_:Nat):Hints I:=mkH [(4,[[],[],[],[1,2],[1,2,3],[0,1,2,3,4],[0,1,2,3,4,5],[],[0,1,2,3,4,5,6,7]]),(8,[[],[0],[],[],[2,3],[2,3,4],[0,1,2,3,4,5],[0,1,2,3,4,5,6],[0,1,2,3,4,5,6,7]])] [] [] [] [(250,⟨144097595889813504,[],[(9,.lvs [.row 54 false,.d (.sl 81),.d (.int .i64)])],[(44,.k (.d (.int .i64)))],[((.exit 0),[])],bnd tb (.slot 43) 1⟩)] [] [] []
def b5V (n:Nat):Row I:=⟨84,[.d (.dat 54),.d (.int .i64),.d (.int .i64)],[.k (.d (.dat 117)),.k (.d (.bool))],a9Q n⟩
theorem b6N (n:Nat):RK (b5V n) :=
 okR [eR (b7B n)] 58 (b7x n) [.cell 6 117,.tmp 7] Go.Proofs.Tryz.func84 (by kernel_rfl)
def a4E:Hints I:=mkH [(6,[[],[],[0,1],[0,1,2],[],[],[5],[4,5,6],[4,5,6,7],[0,1,2,3,4,5,6,7,8]]),(11,[[],[],[0,1],[0,1,2],[],[],[5],[4,5,6],[4,5,6,7],[0,1,2,3,4,5,6,7,8]])] [] [] [] [(58,⟨1152921504606846012,[],[],[(0,.k (.row 9 false)),(3,.k (.d (.int .i64)))],[((.exit 0),[(0,.k (.row 9 false))]),(.ret,[(2,.k (.row 9 false))])],bnd tb (.len (.slot 0)) 1⟩)] [(59690,⟨18014397972611112,0,9,[(3,.k (.d (.int .i64))),(5,.k (.d (.int .i64)))],[((.exit 2),[(3,.k (.d (.int .i64)))])],bnd tb (.len (.slot 4)) 1⟩)] [] []
def a4l:Row I:=⟨112,[.row 9 false],[.k (.row 9 false)],a2r⟩
theorem a4v:RK (a4l) :=
 okR [] 61 a4E [.tmp 2] Go.Proofs.Tryz.func112 (by kernel_rfl)
def a5a:Row I:=⟨111,[.d (.sl 9)],[.k (.row 9 true)],a26⟩
theorem a6i:RK (a5a) :=
 okR [] 9 Z0 [.tmp 2] Go.Proofs.Tryz.func111 (by kernel_rfl)
def b1j (_:Nat):Hints I:=mkH [] [] [] [] [(122,⟨68719474744,[9],[],[(3,.k (.row 9 false)),(11,.k (.d (.int .i64)))],[((.exit 0),[(3,.k (.row 9 false))])],bnd tb (.slot 10) 1⟩)] [] [] []
def a93 (n:Nat):Row I:=⟨85,[.d (.dat 54)],[.k (.row 9 true)],a6L n⟩
theorem b0t (n:Nat):RK (a93 n) :=
 okR [eR (a3O n),eR (a5x n),eO c5e,eR a4v,eR a6i] 41 (b1j n) [.tmp 2] Go.Proofs.Tryz.func85 (by kernel_rfl)
def b05 (n:Nat):Row I:=⟨59,[.d (.dat 54)],[.k (.d (.bool))],a2e n⟩
theorem a2A (n:Nat):RK (b05 n) :=
 okR [eR (b0t n)] 7 Z0 [.tmp 2] Go.Proofs.Tryz.func59 (by kernel_rfl)
def b6I (_:Nat):Hints I:=mkH [] [] [] [] [(506,⟨73786694819861503280,[],[],[(8,.k (.row 117 false)),(48,.k (.d (.int .i64)))],[((.exit 0),[(8,.k (.row 117 false))]),(.ret,[(4,.k (.row 117 false)),(5,.k (.d (.bool)))])],bnd tb (.slot 47) 1⟩)] [] [] []
def b4S (n:Nat):Row I:=⟨58,[.d (.dat 54),.d (.int .i64)],[.k (.row 117 false),.k (.d (.bool))],b3e n⟩
theorem b5G (n:Nat):RK (b4S n) :=
 okR [eR (a0i n),eR (b6N n),eR (a2A n)] 67 (b6I n) [.tmp 4,.tmp 5] Go.Proofs.Tryz.func58 (by kernel_rfl)
def a6Y:Hints I:=mkH [] [] [] [] [(26,⟨524080,[],[],[(8,.k (.d (.int .i64)))],[((.exit 0),[]),(.ret,[(4,.k (.d (.int .i64)))])],bnd tb (.slot 7) 1⟩)] [] [] []
def a5C:Row I:=⟨143,[.d (.sl 3),.fn [.int .i64] [.k (.d (.bool))]],[.k (.d (.int .i64))],a3e⟩
theorem a6S:RK (a5C) :=
 okR [] 19 a6Y [.tmp 4] Go.Proofs.Tryz.func143 (by kernel_rfl)
def a4w:Row I:=⟨114,[.d (.sl 3),.fn [.int .i64] [.k (.d (.bool))]],[.k (.d (.bool))],a2u⟩
theorem a4K:RK (a4w) :=
 okR [eR a6S] 9 Z0 [.tmp 4] Go.Proofs.Tryz.func114 (by kernel_rfl)
def a15:Hints I:=mkH [] [] [] [] [(26,⟨524080,[],[],[(8,.k (.d (.int .i64)))],[((.exit 0),[]),(.ret,[(4,.k (.d (.int .i64)))])],bnd tb (.slot 7) 1⟩)] [] [] []
def a1L:Row I:=⟨119,[.d (.sl 81),.fn [.dat 81] [.k (.d (.bool))]],[.k (.d (.int .i64))],a0m⟩
theorem a12:RK (a1L) :=
 okR [] 19 a15 [.tmp 4] Go.Proofs.Tryz.func119 (by kernel_rfl)
def a1p:Row I:=⟨90,[.d (.sl 81),.fn [.dat 81] [.k (.d (.bool))]],[.k (.d (.bool))],a0e⟩
theorem a1C:RK (a1p) :=
 okR [eR a12] 9 Z0 [.tmp 4] Go.Proofs.Tryz.func90 (by kernel_rfl)
def b5g:Row I:=⟨91,[.d (.dat 81)],[.k (.d (.bool))],b3A⟩
theorem b6f:RK (b5g) :=
 okR [] 6 Z0 [.tmp 2] Go.Proofs.Tryz.func91 (by kernel_rfl)
def b6F (n:Nat):Row I:=⟨62,[.d (.dat 54),.d (.int .i64)],[.k (.d (.bool))],a7Z n⟩
theorem a67 (n:Nat):RK (b6F n) :=
 okR [eR (a5G n),eR (a3N n),eR a1C,eR b6f] 14 Z0 [.tmp 4] Go.Proofs.Tryz.func62 (by kernel_rfl)
def b1m (n:Nat):Row I:=⟨115,[.d (.int .i64),.var 54 (.k (.d (.dat 54))) false],[.k (.d (.bool))],a8y n⟩
theorem b2q (n:Nat):RK (b1m n) :=
 okR [eR (a67 n)] 8 Z0 [.tmp 3] Go.Proofs.Tryz.func115 (by kernel_rfl)
def b2S (n:Nat):Row I:=⟨87,[.d (.dat 54),.d (.sl 3)],[.k (.d (.bool))],b07 n⟩
theorem b4I (n:Nat):RK (b2S n) :=
 okR [eR a4K,eR (b2q n)] 9 Z0 [.tmp 4] Go.Proofs.Tryz.func87 (by kernel_rfl)
def b8S (_:Nat):Hints I:=mkH [(8,[[],[],[0,1],[0,1,2],[0,1,2,3],[0,1,2,3],[0,1,2,3,4,5],[0,1,2,3],[0,1,2,3],[0,1,2,3,4,5,6,7,8],[0,1,2,3,4,5,6,7,8,9],[0,1,2,3,4,5,6,7,8,9,10],[0,1,2,3,4,5,6,7,8,9,10,11]])] [] [] [] [(26,⟨2199023254000,[],[],[(11,.k (.d (.int .i64)))],[((.exit 0),[]),(.ret,[(4,.k (.d (.bool)))])],bnd tb (.slot 10) 1⟩),
 (13518,⟨1099509531024,[],[],[(21,.k (.d (.int .i64)))],[((.exit 2),[]),(.ret,[(4,.k (.d (.bool)))])],bnd tb (.slot 20) 1⟩)] [] [] []
def b6G (n:Nat):Row I:=⟨88,[.d (.dat 54),.d (.sl 3)],[.k (.d (.bool))],b6i n⟩
theorem b7z (n:Nat):RK (b6G n) :=
 okR [eR (a67 n),eR (a5G n)] 41 (b8S n) [.tmp 4] Go.Proofs.Tryz.func88 (by kernel_rfl)
def b6p (_:Nat):Hints I:=mkH [] [] [] [(125337,⟨83886080,[],[],[(.normal,[(24,.k (.d (.bool)))])]⟩)] [(122,⟨1099511365652,[],[],[(18,.k (.d (.int .i64)))],[((.exit 0),[]),(.ret,[(2,.k (.d (.bool)))])],bnd tb (.slot 17) 1⟩)] [] [] []
def b4G (n:Nat):Row I:=⟨60,[.d (.dat 54)],[.k (.d (.bool))],b2k n⟩
theorem b4U (n:Nat):RK (b4G n) :=
 okR [eR (a0i n),eR (a2A n),eR (a3N n),eR (b4I n),eR (b7z n)] 40 (b6p n) [.tmp 2] Go.Proofs.Tryz.func60 (by kernel_rfl)
def a3V:Row I:=⟨61,[.d (.sl 54)],[.k (.row 54 true)],a19⟩
theorem a4e:RK (a3V) :=
 okR [] 9 Z0 [.tmp 2] Go.Proofs.Tryz.func61 (by kernel_rfl)
def b5L (_:Nat):Hints I:=mkH [(9,[[],[0],[0,1],[],[3],[3,4],[0,1,2,3,4,5],[0,1,2,3,4,5,6],[]])] [] [] [] [(250,⟨2305842734335788304,[36],[],[(38,.k (.d (.int .i64)))],[((.exit 0),[]),(.ret,[(4,.k (.d (.bool)))])],bnd tb (.slot 37) 1⟩),
 (64102,⟨1151795604700005392,[],[],[(50,.k (.d (.int .i64)))],[((.exit 2),[]),(.ret,[(4,.k (.d (.bool)))])],bnd tb (.slot 49) 1⟩)] [] [] []
def b4s (n:Nat):Row I:=⟨30,[.d (.dat 54),.d (.int .i64)],[.k (.d (.bool))],a0K n⟩
theorem b4Z (n:Nat):RK (b4s n) :=
 okR [eR (b5G n),eR (a2A n),eR (b4U n),eR a4e,eR (a67 n)] 61 (b5L n) [.tmp 4] Go.Proofs.Tryz.func30 (by kernel_rfl)
def b9l (_:Nat):Hints I:=mkH [(8,[[],[0],[0,1],[0,1,2],[0,1,2,3],[0,1,2],[0,1,2,5],[0,1,2,3,4,5,6],[0,1,2,3,4,5,6,7],[0,1,2],[0,1,2,3,4,5,6,7,8,9],[0,1,2,3,4,5,6,7,8,9,10],[0,1,2,3,4,5,6,7,8,9,10,11],[0,1,2,3,4,5,6,7,8,9,10,11,12],[0,1,2,3,4,5,6,7,8,9,10,11,12,13],[0,1,2,3,4,5,6,7,8,9,10,11,12,13,14],[0,1,2,3,4,5,6,7,8,9,10,11,12,13,14,15],[0,1,2,3,4,5,6,7,8,9,10,11,12,13,14,15,16],[0,1,2,3,4,5,6,7,8,9,10,11,12,13,14,15,16,17],[0,1,2,3,4,5,6,7,8,9,10,11,12,13,14,15,16,17,18],[0,1,2,3,4,5,6,7,8,9,10,11,12,13,14,15,16,17],[0,1,2,3,4,5,6,7,8,9,10,11,12,13,14,15,16,17,20],[0,1,2,3,4,5,6,7,8,9,10,11,12,13,14,15,16,17,20,21],[0,1,2,3,4,5,6,7,8,9,10,11,12,13,14,15,16,17,18,19,20,21,22],[0,1,2,3,4,5,6,7,8,9,10,11,12,13,14,15,16,17,18,19,20,21,22,23],[0,1,2,3,4,5,6,7,8,9,10,11,12,13,14,15,16,17,18,19,20,21,22,23,24],[0,1,2,3,4,5,6,7,8,9,10,11,12,13,14,15,16,17,18,19,20,21,22,23,24,25]])] [] [] [] [(58,⟨18889465931478580592668,[],[],[(18,.k (.d (.int .i64)))],[((.exit 0),[]),(.ret,[(2,.k (.d (.bool)))])],bnd tb (.slot 17) 1⟩)] [] [] []
def b6A (n:Nat):Row I:=⟨15,[.d (.dat 25)],[.k (.d (.bool))],a3s n⟩
theorem b2j (n:Nat):RK (b6A n) :=
 okR [eR b7w,eR (a0i n),eR b5Y,eR (b4Z n)] 74 (b9l n) [.tmp 2] Go.Proofs.Tryz.func15 (by kernel_rfl)
def a8z:Hints I:=mkH [] [] [] [] [(12,⟨268431376,[],[(0,.lvs [.row 5 false])],[(4,.k (.d (.int .u64)))],[((.exit 0),[(4,.k (.d (.int .u64)))])],bnd tb (.slot 4) 2⟩)] [] [] []
def a6Z:Row I:=⟨63,[.var 61 (.lvs [.row 5 false]) true,.d (.int .i64)],[],Y1⟩
theorem J3:RK (a6Z) :=
 okR [] 39 a8z [] Go.Proofs.Tryz.func63 (by kernel_rfl)
def a9i:Row I:=⟨31,[.var 61 (.lvs [.row 5 false]) true,.d (.str)],[],W2⟩
theorem a03:RK (a9i) :=
 okR [eR J3] 17 Z0 [] Go.Proofs.Tryz.func31 (by kernel_rfl)
def a8n:Row I:=⟨32,[.var 61 (.lvs [.row 5 false]) true,.d (.bool)],[],a0E⟩
theorem a3F:RK (a8n) :=
 okR [] 23 Z0 [] Go.Proofs.Tryz.func32 (by kernel_rfl)
def a7U:Row I:=⟨64,[.var 61 (.lvs [.row 5 false]) true,.d (.int .i64)],[],Y7⟩
theorem W9:RK (a7U) :=
 okR [eR J3] 7 Z0 [] Go.Proofs.Tryz.func64 (by kernel_rfl)
def b3h:Hints I:=mkH [] [] [] [] [(14,⟨4178048,[],[(0,.lvs [.row 5 false])],[(14,.k (.d (.int .i64)))],[((.exit 0),[])],bnd tb (.slot 13) 1⟩)] [] [] []
def b1g:Row I:=⟨120,[.var 61 (.lvs [.row 5 false]) true,.d (.sl 3),.d (.any)],[],a4m⟩
theorem b2l:a0n Go.Proofs.Tryz.prog (b1g) (a8X 64 2 0) :=
 a2S a1D (a1d (a2P [eR J3,eR W9]) 3) mixed 22 (s0:=fun a=>b1s 64 2 0 (a1z tb 22 [.var 61 (.lvs [.row 5 false]) true,.d (.sl 3),.d (.any)] a)) (fn:=Go.Proofs.Tryz.f120) (cd:=a4H Go.Proofs.Tryz.f120) (H:=b3h) (rl:=[]) (fun X c σ a vs F h hv hF hC=>a4p rfl h hF hC) Go.Proofs.Tryz.func120 (by kernel_rfl) (by kernel_rfl) (by kernel_rfl) (by kernel_rfl) (by kernel_rfl) (by kernel_rfl) (by kernel_rfl)
def a8Z:Row I:=⟨122,[.var 61 (.lvs [.row 5 false]) true,.d (.dat 102)],[],a0B⟩
theorem a9f:RK (a8Z) :=
 okR [eR W9,eR a03,eR a3F] 22 Z0 [] Go.Proofs.Tryz.func122 (by kernel_rfl)
def a8G:Hints I:=mkH [] [] [] [] [(14,⟨4178048,[],[(0,.lvs [.row 5 false])],[(14,.k (.d (.int .i64)))],[((.exit 0),[])],bnd tb (.slot 13) 1⟩)] [] [] []
def a61:Row I:=⟨121,[.var 61 (.lvs [.row 5 false]) true,.d (.sl 102),.d (.any)],[],a18⟩
theorem a7F:a0n Go.Proofs.Tryz.prog (a61) (a8X 122 2 0) :=
 a2S a1D (a1d (a2P [eR J3,eR a9f]) 3) mixed 22 (s0:=fun a=>b1s 122 2 0 (a1z tb 22 [.var 61 (.lvs [.row 5 false]) true,.d (.sl 102),.d (.any)] a)) (fn:=Go.Proofs.Tryz.f121) (cd:=a4H Go.Proofs.Tryz.f121) (H:=a8G) (rl:=[]) (fun X c σ a vs F h hv hF hC=>a4p rfl h hF hC) Go.Proofs.Tryz.func121 (by kernel_rfl) (by kernel_rfl) (by kernel_rfl) (by kernel_rfl) (by kernel_rfl) (by kernel_rfl) (by kernel_rfl)
def a9l:Row I:=⟨93,[.var 61 (.lvs [.row 5 false]) true,.d (.dat 81)],[],a0S⟩
theorem a98:RK (a9l) :=
 okR [eR W9,eR J3,eR a03,eM 64 2 0 b2l,eM 122 2 0 a7F] 42 Z0 [] Go.Proofs.Tryz.func93 (by kernel_rfl)
def a6q:Hints I:=mkH [] [] [] [] [(14,⟨4178048,[],[(0,.lvs [.row 5 false])],[(14,.k (.d (.int .i64)))],[((.exit 0),[])],bnd tb (.slot 13) 1⟩)] [] [] []
def a5k:Row I:=⟨92,[.var 61 (.lvs [.row 5 false]) true,.d (.sl 81),.d (.any)],[],a1m⟩
theorem a50:a0n Go.Proofs.Tryz.prog (a5k) (a8X 93 2 0) :=
 a2S a1D (a1d (a2P [eR J3,eR a98]) 3) mixed 22 (s0:=fun a=>b1s 93 2 0 (a1z tb 22 [.var 61 (.lvs [.row 5 false]) true,.d (.sl 81),.d (.any)] a)) (fn:=Go.Proofs.Tryz.f92) (cd:=a4H Go.Proofs.Tryz.f92) (H:=a6q) (rl:=[]) (fun X c σ a vs F h hv hF hC=>a4p rfl h hF hC) Go.Proofs.Tryz.func92 (by kernel_rfl) (by kernel_rfl) (by kernel_rfl) (by kernel_rfl) (by kernel_rfl) (by kernel_rfl) (by kernel_rfl)
def b0n:Row I:=⟨65,[.var 61 (.lvs [.row 5 false]) true,.d (.dat 54)],[],a1W⟩
theorem b0S:RK (b0n) :=
 okR [eM 93 2 0 a50,eR W9] 14 Z0 [] Go.Proofs.Tryz.func65 (by kernel_rfl)
def a5Q:Row I:=⟨34,[.var 61 (.lvs [.row 5 false]) true,.d (.dat 57)],[],W8⟩
theorem a6y:RK (a5Q) :=
 okR [eR a03,eR W9,eR b0S] 18 Z0 [] Go.Proofs.Tryz.func34 (by kernel_rfl)
def a5H:Hints I:=mkH [] [] [] [] [(14,⟨4178048,[],[(0,.lvs [.row 5 false])],[(14,.k (.d (.int .i64)))],[((.exit 0),[])],bnd tb (.slot 13) 1⟩)] [] [] []
def a42:Row I:=⟨33,[.var 61 (.lvs [.row 5 false]) true,.d (.sl 57),.d (.any)],[],a1c⟩
theorem a5j:a0n Go.Proofs.Tryz.prog (a42) (a8X 34 2 0) :=
 a2S a1D (a1d (a2P [eR J3,eR a6y]) 3) mixed 22 (s0:=fun a=>b1s 34 2 0 (a1z tb 22 [.var 61 (.lvs [.row 5 false]) true,.d (.sl 57),.d (.any)] a)) (fn:=Go.Proofs.Tryz.f33) (cd:=a4H Go.Proofs.Tryz.f33) (H:=a5H) (rl:=[]) (fun X c σ a vs F h hv hF hC=>a4p rfl h hF hC) Go.Proofs.Tryz.func33 (by kernel_rfl) (by kernel_rfl) (by kernel_rfl) (by kernel_rfl) (by kernel_rfl) (by kernel_rfl) (by kernel_rfl)
def a9g:Row I:=⟨16,[.var 61 (.lvs [.row 5 false]) true,.d (.dat 25)],[],a1F⟩
theorem a91:RK (a9g) :=
 okR [eR a03,eR a3F,eM 34 2 0 a5j] 18 Z0 [] Go.Proofs.Tryz.func16 (by kernel_rfl)
def b5u:Row I:=⟨17,[.d (.str)],[.k (.d (.str))],a3q⟩
theorem a9K:RK (b5u) :=
 okR [eR c3p] 21 Z0 [.tmp 2] Go.Proofs.Tryz.func17 (by kernel_rfl)
def b3z (n:Nat):Row I:=⟨6,[.d (.dat 25)],[.k (.d (.str)),.k (.d (.int .i64))],a1s n⟩
theorem a7s (n:Nat):RK (b3z n) :=
 okR [eR (b2j n),eR a91,eR a9K] 19 Z0 [.tmp 2,.tmp 3] Go.Proofs.Tryz.func6 (by kernel_rfl)
def b5o:Row I:=⟨18,[.d (.str)],[.k (.d (.str)),.k (.d (.int .i64))],a3p⟩
theorem b5H:RK (b5o) :=
 okR [eR a9K] 18 Z0 [.tmp 2,.tmp 3] Go.Proofs.Tryz.func18 (by kernel_rfl)
def a9u:Row I:=⟨39,[.var 67 (.k (.d (.dat 67))) true,.d (.int .i64)],[],W0⟩
theorem V9:RK (a9u) :=
 okR [] 13 Z0 [] Go.Proofs.Tryz.func39 (by kernel_rfl)
def b0s:Hints I:=mkH [(1,[[],[0],[0,1],[0,1,2],[0,1,2,3],[0,1,2,3,4],[0,1,2,3,4,5],[0,1,2,3,4,5,6],[0,1,2,3,4,5,6,7],[0,1,2,3,4,5,6,7,8],[0,1,2,3,4,5],[0,1,2,3,4,5,10],[0,1,2,3,4,5,10,11],[0,1,2,3,4,5,10,11,12],[0,1,2,3,4,5,10,11,12,13],[0,1,2,3,4,5,6,7,8,9,10,11,12,13,14],[0,1,2,3,4,5,6,7,8,9,10,11,12,13,14,15]]),(5,[[],[0],[0,1],[0,1,2],[],[4],[4,5],[4,5,6],[4,5,6,7],[0,1,2,3,4,5,6,7,8],[0,1,2,3,4,5,6,7,8,9]])] [] [] [] [] [] [] []
def a9s:Row I:=⟨67,[.var 67 (.k (.d (.dat 67))) true],[.k (.d (.int .u8))],a2W⟩
theorem a3R:RK (a9s) :=
 okR [eR V9] 39 b0s [.tmp 2] Go.Proofs.Tryz.func67 (by kernel_rfl)
def a8D (n:Nat):Hints I:=mkH [] [] [] [(1925,⟨50331648,[],[(0,.k (.d (.dat 67)))],[(.normal,[])]⟩)] [(30,⟨281474976710652,[],[(0,.k (.d (.dat 67)))],[(3,.k (.d (.int .u64))),(4,.k (.d (.int .i64)))],[(.ret,[(2,.k (.d (.int .i64)))])],fun _=>some n⟩)] [] [] []
def a6W (n:Nat):Row I:=⟨94,[.var 67 (.k (.d (.dat 67))) true],[.k (.d (.int .i64))],a01 n⟩
theorem a25 (n:Nat):RK (a6W n) :=
 okR [eR a3R,eR V9] 48 (a8D n) [.tmp 2] Go.Proofs.Tryz.func94 (by kernel_rfl)
def a7M (n:Nat):Row I:=⟨68,[.var 67 (.k (.d (.dat 67))) true],[.k (.d (.int .i64))],Q4 n⟩
theorem V1 (n:Nat):RK (a7M n) :=
 okR [eR (a25 n)] 5 Z0 [.tmp 2] Go.Proofs.Tryz.func68 (by kernel_rfl)
def a9k (_:Nat):Hints I:=mkH [] [] [] [(29,⟨768,[],[(0,.k (.d (.dat 67)))],[(.normal,[])]⟩)] [] [] [] []
def a7N (n:Nat):Row I:=⟨66,[.var 67 (.k (.d (.dat 67))) true],[.k (.d (.int .i64))],W5 n⟩
theorem X1 (n:Nat):RK (a7N n) :=
 okR [eR (V1 n),eR V9] 16 (a9k n) [.tmp 2] Go.Proofs.Tryz.func66 (by kernel_rfl)
def b1b (_:Nat):Hints I:=mkH [(2,[[],[],[1],[1,2],[1,2,3],[1,2,3,4],[],[6],[6,7],[6,7,8],[1,2,3,4,5,6,7,8,9],[0,1,2,3,4,5,6,7,8,9,10]]),(6,[[],[0],[0,1],[0,1,2],[],[4],[4,5],[4,5,6],[],[4,5,6,7,8],[],[10],[10,11],[10,11,12],[0,1,2,3,4,5,6,7,8,9,10,11,12,13],[0,1,2,3,4,5,6,7,8,9,10,11,12,13,14]])] [] [] [] [] [] [] []
def a9q (n:Nat):Row I:=⟨35,[.var 67 (.k (.d (.dat 67))) true],[.k (.d (.str))],a0T n⟩
theorem a04 (n:Nat):RK (a9q n) :=
 okR [eR (X1 n),eR V9] 43 (b1b n) [.tmp 2] Go.Proofs.Tryz.func35 (by kernel_rfl)
def a9V:Hints I:=mkH [] [] [] [(29,⟨768,[],[(0,.k (.d (.dat 67)))],[(.normal,[])]⟩)] [] [] [] []
def a8q:Row I:=⟨36,[.var 67 (.k (.d (.dat 67))) true],[.k (.d (.bool))],a2B⟩
theorem a3H:RK (a8q) :=
 okR [eR a3R,eR V9] 12 a9V [.tmp 2] Go.Proofs.Tryz.func36 (by kernel_rfl)
def b0p (_:Nat):Hints I:=mkH [] [] [] [] [(58,⟨33554016,[],[(0,.k (.d (.dat 67)))],[(5,.k (.row 3 false)),(6,.k (.d (.int .i64)))],[((.exit 0),[(5,.k (.row 3 false))])],bnd tb (.slot 6) 2⟩)] [] [] []
def a8h (n:Nat):Row I:=⟨123,[.var 67 (.k (.d (.dat 67))) true,.d (.any)],[.k (.row 3 false)],a4R n⟩
theorem a9e (n:Nat):a0n Go.Proofs.Tryz.prog (a8h n) (a8X 68 1 0) :=
 a2S a1D (a1d (a2P [eR (X1 n),eR (V1 n)]) 3) mixed 26 (s0:=fun a=>b1s 68 1 0 (a1z tb 26 [.var 67 (.k (.d (.dat 67))) true,.d (.any)] a)) (fn:=Go.Proofs.Tryz.f123) (cd:=a4H Go.Proofs.Tryz.f123) (H:=(b0p n)) (rl:=[.tmp 4]) (fun X c σ a vs F h hv hF hC=>a4p rfl h hF hC) Go.Proofs.Tryz.func123 (by kernel_rfl) (by kernel_rfl) (by kernel_rfl) (by kernel_rfl) (by kernel_rfl) (by kernel_rfl) (by kernel_rfl)
def a82 (n:Nat):Row I:=⟨125,[.var 67 (.k (.d (.dat 67))) true],[.k (.d (.dat 102))],a40 n⟩
theorem a9v (n:Nat):RK (a82 n) :=
 okR [eR (V1 n),eR (a04 n),eR a3H] 13 Z0 [.cell 2 102] Go.Proofs.Tryz.func125 (by kernel_rfl)
def a5K (_:Nat):Hints I:=mkH [] [] [] [] [(58,⟨33554016,[],[(0,.k (.d (.dat 67)))],[(5,.k (.row 102 false)),(6,.k (.d (.int .i64)))],[((.exit 0),[(5,.k (.row 102 false))])],bnd tb (.slot 6) 2⟩)] [] [] []
def a4Y (n:Nat):Row I:=⟨124,[.var 67 (.k (.d (.dat 67))) true,.d (.any)],[.k (.row 102 false)],a2O n⟩
theorem a5p (n:Nat):a0n Go.Proofs.Tryz.prog (a4Y n) (a8X 125 1 0) :=
 a2S a1D (a1d (a2P [eR (X1 n),eR (a9v n)]) 3) mixed 26 (s0:=fun a=>b1s 125 1 0 (a1z tb 26 [.var 67 (.k (.d (.dat 67))) true,.d (.any)] a)) (fn:=Go.Proofs.Tryz.f124) (cd:=a4H Go.Proofs.Tryz.f124) (H:=(a5K n)) (rl:=[.tmp 4]) (fun X c σ a vs F h hv hF hC=>a4p rfl h hF hC) Go.Proofs.Tryz.func124 (by kernel_rfl) (by kernel_rfl) (by kernel_rfl) (by kernel_rfl) (by kernel_rfl) (by kernel_rfl) (by kernel_rfl)
def a9r (n:Nat):Row I:=⟨96,[.var 67 (.k (.d (.dat 67))) true],[.k (.d (.dat 81))],a5u n⟩
theorem a9T (n:Nat):RK (a9r n) :=
 okR [eR (V1 n),eR (a25 n),eR (a04 n),eM 68 1 0 (a9e n),eM 125 1 0 (a5p n)] 30 Z0 [.cell 2 81] Go.Proofs.Tryz.func96 (by kernel_rfl)
def a4x (_:Nat):Hints I:=mkH [] [] [] [] [(58,⟨33554016,[],[(0,.k (.d (.dat 67)))],[(5,.k (.row 81 false)),(6,.k (.d (.int .i64)))],[((.exit 0),[(5,.k (.row 81 false))])],bnd tb (.slot 6) 2⟩)] [] [] []
def a3T (n:Nat):Row I:=⟨95,[.var 67 (.k (.d (.dat 67))) true,.d (.any)],[.k (.row 81 false)],a2a n⟩
theorem a4i (n:Nat):a0n Go.Proofs.Tryz.prog (a3T n) (a8X 96 1 0) :=
 a2S a1D (a1d (a2P [eR (X1 n),eR (a9T n)]) 3) mixed 26 (s0:=fun a=>b1s 96 1 0 (a1z tb 26 [.var 67 (.k (.d (.dat 67))) true,.d (.any)] a)) (fn:=Go.Proofs.Tryz.f95) (cd:=a4H Go.Proofs.Tryz.f95) (H:=(a4x n)) (rl:=[.tmp 4]) (fun X c σ a vs F h hv hF hC=>a4p rfl h hF hC) Go.Proofs.Tryz.func95 (by kernel_rfl) (by kernel_rfl) (by kernel_rfl) (by kernel_rfl) (by kernel_rfl) (by kernel_rfl) (by kernel_rfl)
def b0a (n:Nat):Row I:=⟨69,[.var 67 (.k (.d (.dat 67))) true],[.k (.d (.dat 54))],a6M n⟩
theorem b0N (n:Nat):RK (b0a n) :=
 okR [eM 96 1 0 (a4i n),eR (V1 n)] 10 Z0 [.cell 2 54] Go.Proofs.Tryz.func69 (by kernel_rfl)
def a54 (n:Nat):Row I:=⟨38,[.var 67 (.k (.d (.dat 67))) true],[.k (.d (.dat 57))],a3f n⟩
theorem a6O (n:Nat):RK (a54 n) :=
 okR [eR (a04 n),eR (V1 n),eR (b0N n)] 11 Z0 [.cell 2 57] Go.Proofs.Tryz.func38 (by kernel_rfl)
def a35 (_:Nat):Hints I:=mkH [] [] [] [] [(58,⟨33554016,[],[(0,.k (.d (.dat 67)))],[(5,.k (.row 57 false)),(6,.k (.d (.int .i64)))],[((.exit 0),[(5,.k (.row 57 false))])],bnd tb (.slot 6) 2⟩)] [] [] []
def a3P (n:Nat):Row I:=⟨37,[.var 67 (.k (.d (.dat 67))) true,.d (.any)],[.k (.row 57 false)],a1S n⟩
theorem a3W (n:Nat):a0n Go.Proofs.Tryz.prog (a3P n) (a8X 38 1 0) :=
 a2S a1D (a1d (a2P [eR (X1 n),eR (a6O n)]) 3) mixed 26 (s0:=fun a=>b1s 38 1 0 (a1z tb 26 [.var 67 (.k (.d (.dat 67))) true,.d (.any)] a)) (fn:=Go.Proofs.Tryz.f37) (cd:=a4H Go.Proofs.Tryz.f37) (H:=(a35 n)) (rl:=[.tmp 4]) (fun X c σ a vs F h hv hF hC=>a4p rfl h hF hC) Go.Proofs.Tryz.func37 (by kernel_rfl) (by kernel_rfl) (by kernel_rfl) (by kernel_rfl) (by kernel_rfl) (by kernel_rfl) (by kernel_rfl)
def a9t (n:Nat):Row I:=⟨19,[.var 67 (.k (.d (.dat 67))) true],[.k (.d (.dat 25))],a5t n⟩
theorem b0d (n:Nat):RK (a9t n) :=
 okR [eR (a04 n),eR a3H,eM 38 1 0 (a3W n)] 12 Z0 [.cell 2 25] Go.Proofs.Tryz.func19 (by kernel_rfl)
def b0Y:Hints I:=mkH [(1,[[],[0],[0,1],[0,1,2],[],[4],[4,5],[4,5,6],[4,5,6,7],[0,1,2,3,4,5,6,7,8]])] [] [] [(13,⟨24576,[],[(0,.k (.d (.dat 67)))],[(.normal,[])]⟩)] [] [] [] []
def a9c:Row I:=⟨20,[.var 67 (.k (.d (.dat 67))) true],[.k (.d (.int .i64))],a5w⟩
theorem a9N:RK (a9c) :=
 okR [eR V9] 19 b0Y [.tmp 2] Go.Proofs.Tryz.func20 (by kernel_rfl)
def b3s (n:Nat):Row I:=⟨7,[.d (.str)],[.k (.d (.dat 25)),.k (.d (.int .i64))],a2g n⟩
theorem a7w (n:Nat):RK (b3s n) :=
 okR [eR b5H,eR (b0d n),eR a9N,eR (b2j n)] 34 Z0 [.cell 2 25,.tmp 3] Go.Proofs.Tryz.func7 (by kernel_rfl)
def a9X (n:Nat):Row I:=⟨9,[],[.k (.d (.bool))],a1U n⟩
theorem b0u (n:Nat):RK (a9X n) :=
 okR [eR (a7s n),eR (a7w n),eR c3p] 41 Z0 [.tmp 0] Go.Proofs.Tryz.func9 (by kernel_rfl)
def a5l (_:Nat):Hints I:=mkH [(7,[[],[],[0,1],[],[3],[3,4],[0,1,2,3,4,5],[],[],[8],[7,8,9],[0,1,2,3,4,5,6,7,8,9,10],[0,1,2,3,4,5,6,7,8,9,10,11],[0,1,2,3,4,5,6,7,8,9,10,11,12],[0,1,2,3,4,5,6,7,8,9,10,11,12,13],[0,1,2,3,4,5,6,7,8,9,10,11,12,13],[],[0,1,2,3,4,5,6,7,8,9,10,11,12,13,14,16],[0,1,2,3,4,5,6,7,8,9,10,11,12,13,14,15,16,17]])] [] [] [(125,⟨824633720836,[],[],[(.normal,[(2,.k (.d (.int .u8)))])]⟩)] [] [] [] []
def a4C (n:Nat):Row I:=⟨4,[.d (.sl 3),.d (.int .i64),.d (.int .u8)],[.k (.d (.bool))],a0g n⟩
theorem a4L (n:Nat):RK (a4C n) :=
 okR [eR (b1V n),eR (a7s n),eR (b0u n),eR (a7w n)] 61 (a5l n) [.tmp 6] Go.Proofs.Tryz.func4 (by kernel_rfl)
end Go.Qx
end
section
namespace Go.Pl
open Go Go.RowKit Go.Sx Go.Qx Go.Proofs.YthpckkffhbifnaaGreatDoor
def a5X (w:World):S:=⟨w,fun b=>match w.heap[b]? with | some (.cells c _ _)=>(c.size,0) | _=>(0,0)⟩
theorem c0N {w:World}{b o:Nat}{cs:List Value}(hn:cs≠[])(h:w.rangeAt b o cs)(hf:∀ j,j<cs.length->w.frozen? ⟨b,o+j,none⟩=false):a1h (a5X w) b o cs:=by
 refine ⟨⟨?_,hf⟩,h⟩
 have hl:0<cs.length:=List.length_pos_iff.2 hn
 have hj:=h (cs.length-1) _ (List.getElem?_eq_getElem (by omega))
 unfold World.cell? at hj
 simp only at hj
 split at hj
 ·rename_i c e f hb
  have h2:o+(cs.length-1)<c.size:=by
   simp only [Option.isSome_none,Bool.false_eq_true,if_false] at hj
   exact (Array.getElem?_eq_some_iff.1 hj).1
  show o+cs.length<=(match w.heap[b]? with | some (.cells c _ _)=>(c.size,0) | _=>(0,0)).1
  rw [hb]
  show o+cs.length<=c.size
  omega
 ·cases hj
theorem c0W {w:World}{base:Nat}{a:Addr}{n:Nat}{cs:List Value}(h:w.cells? base a n=some cs) :
 cs.length=n/\∀ (i:Nat) (v:Value),cs[i]?=some v->w.cell? (a.add i)=some v:=by
 unfold World.cells? at h
 split at h
 ·have hl:cs.length=n:=by simpa using mapM_some_length h
  refine ⟨hl,fun i v hv=>?_⟩
  have hi:i<n:=by have:=(List.getElem?_eq_some_iff.1 hv).1; omega
  have:=mapM_some_get h i i (by simp [hi])
  rw [this,hv]
 ·cases h
theorem c3W (a:Addr)(x j:Nat):(a.add x).add j=a.add (x+j):=by
 unfold Addr.add
 by_cases hx:x=0
 ·subst hx; simp
 ·by_cases hj:j=0
  ·subst hj; simp [hx]
  ·rw [if_neg hj,if_neg hx,if_neg (by omega),Nat.add_assoc]
theorem c1l {w:World}{a:Addr}{v:Value}(h:w.cell? a=some v):a.spot=none:=by
 unfold World.cell? at h
 split at h
 ·split at h
  ·cases h
  ·rename_i hs; simpa using hs
 ·cases h
section
variable {H:Type}{enc:TypeId×Value->H}{P:Program}{w:World}{base:Nat}{spare:Nat->Bool}{held:Bool}
theorem c01 {α:Type} [Rp α] {fuel:Nat}{t e:TypeId}{cs:List Value}{x:DataW H×List MemPlace}(ht:P.underlying t=some (.slice e))(hc:P.cellsOf e=Rp.sz α)(bk:α->Nat)
 (hrd:∀ (n:Nat) (cs:List Value) (x:DataW H×List MemPlace),n<fuel->w.noneFrozen x.2->DataW.trod enc P w base spare held n e cs=some x->∃ d:α,Rp.cells (a5X w) d cs/\bk d<=Rows.uptoBulk x.1) (hz:w.noneFrozen x.2)
 (h:DataW.trod enc P w base spare held fuel t cs=some x) :
 ∃ (ds:List α) (A:Option Addr) (c:Nat),cs=[.slice A ds.length c]/\Sl (a5X w) ds A c/\(ds.map bk).sum+1<=Rows.uptoBulk x.1:=by
 rcases DataW.trod_slice ht h with ⟨rfl,rfl⟩ | ⟨a,len,cap,elems,rest,n,rfl,rfl,rfl,hb,hl,hm,hle,hget,-,-⟩
 ·exact ⟨[],none,0,rfl,Sl.nil_ _ _ _ (Nat.zero_le _),by simp [Rows.uptoBulk]⟩
 have hze:∀ y∈elems,w.noneFrozen y.2:=fun y hy b off hm'=>hz b off (List.mem_append_right _ (List.mem_flatMap.2 ⟨y,List.mem_append_left _ hy,hm'⟩))
 have hzr:∀ i,i<(elems.length+rest.length)*P.cellsOf e->w.frozen? ⟨a.block,a.off+i,none⟩=false:=fun i hi=>hz _ _ (List.mem_append_left _ (List.mem_map.2 ⟨i,List.mem_range.2 hi,rfl⟩))
 have key:∀ (m i:Nat),i+m=len->∃ (ds:List α) (cs:List Value),ds.length=m/\Q8 (a5X w) ds cs /\
  (∀ (j:Nat) (v:Value),cs[j]?=some v->w.cell? (a.add (i*Rp.sz α+j))=some v)/\(ds.map bk).sum<=Rows.uptoBulkAll ((elems.drop i).map (·.1)):=by
  intro m
  induction m with
  | zero=>intro i _; exact ⟨[],[],rfl,rfl,fun j v hv=>by simp at hv,by simp⟩
  | succ m ih =>
    intro i hi
    obtain ⟨ds,cs,h1,h2,h3,h4⟩:=ih (i+1) (by omega)
    have hlt:i<elems.length:=by omega
    have hg:=hget i (by omega)
    rw [List.getElem?_eq_getElem hlt,Option.bind_eq_some_iff] at hg
    obtain ⟨cs0,hcs,htr⟩:=hg
    obtain ⟨d,hd,hbk⟩:=hrd n cs0 _ (by omega) (hze _ (List.getElem_mem hlt)) htr
    obtain ⟨hcl,hci⟩:=c0W hcs
    rw [hc] at hcl hci
    refine ⟨d::ds,cs0++cs,by simp [h1],⟨cs0,cs,rfl,hd,h2⟩,?_,?_⟩
    ·intro j v hv
     by_cases hj:j<Rp.sz α
     ·rw [List.getElem?_append_left (by omega)] at hv
      rw [<- c3W]
      exact hci j v hv
     ·rw [List.getElem?_append_right (by omega)] at hv
      have:=h3 _ v hv
      rw [hcl,Nat.add_mul,Nat.one_mul] at this
      have e:i*Rp.sz α+Rp.sz α+(j-Rp.sz α)=i*Rp.sz α+j:=by omega
      rw [e] at this
      exact this
    ·rw [List.drop_eq_getElem_cons hlt]
     simp only [List.map_cons,List.sum_cons,Rows.uptoBulkAll]
     omega
 obtain ⟨ds,cs,h1,h2,h3,h4⟩:=key len 0 (by omega)
 simp only [Nat.zero_mul,Nat.zero_add,List.drop_zero] at h3 h4
 refine ⟨ds,some a,cap,by rw [h1],⟨by omega,hm,cs,h2,fun hn=>?_⟩,by simp only [Rows.uptoBulk]; omega⟩
 have hne:=h2.ne_nil hn
 cases cs with
 | nil=>exact absurd rfl hne
 | cons v0 r =>
   have h0:=h3 0 v0 rfl
   have hs:a.spot=none:=c1l (by simpa [Addr.add] using h0)
   obtain ⟨b,o,sp⟩:=a
   simp only at hs
   subst hs
   refine ⟨b,o,rfl,c0N (by simp) ?_ (fun j hj=>hzr j (by
    have h5:=h2.len
    rw [h5,h1] at hj
    rw [hc,hle]
    exact Nat.lt_of_lt_of_le hj (Nat.mul_le_mul_right _ (Nat.le_add_right _ _))))⟩
   intro j v hv
   have:=h3 j v hv
   unfold Addr.add at this
   by_cases hj:j=0
   ·subst hj; simpa using this
   ·rw [if_neg hj] at this
    exact this
end
end Go.Pl
end
section
namespace Go.Pl
open Go Go.RowKit Go.Sx Go.Qx Go.Proofs.YthpckkffhbifnaaGreatDoor
theorem c3:Go.Proofs.Tryz.prog.cellsOf 3=1:=by kernel_rfl
theorem c5:Go.Proofs.Tryz.prog.cellsOf 5=1:=by kernel_rfl
section
variable {H:Type}{enc:TypeId×Value->H}{w:World}{base:Nat}{spare:Nat->Bool}{held:Bool}
theorem c63 {n:Nat}{cs:List Value}{x:DataW H×List MemPlace}(hz:w.noneFrozen x.2)(h:DataW.trod enc Go.Proofs.Tryz.prog w base spare held n 3 cs=some x):∃ d:Int,(rpK .i64).cells (a5X w) d cs/\b2U d<=Rows.uptoBulk x.1:=by
 obtain ⟨k,e0,rfl,_⟩:=DataW.trod_int Go.Proofs.Tryz.underlying3 h
 exact ⟨k,e0,by simp [b2U,Rows.uptoBulk]⟩
end
end Go.Pl
end

/- Part 4. -/
import Derived.Test.YthpckkffhbifnaaGreatDoorK2
import Derived.Test.YthpckkffhbifnaaGreatDoorK3
import Derived.ChangeArms
import Derived.KernelRfl
import Derived.OpenShut
import Derived.Shelf.Lays
import Derived.Shelf.Strconv.Itoa3
import Derived.Shelf.Strings.Builder1
import Derived.Test.YthpckkffhbifnaaGreatDoorProg
import Derived.Test.YthpckkffhbifnaaGreatDoorRows
section
namespace Go.Pl
open Go Go.RowKit Go.Sx Go.Qx
def isI (k:Int):Prop := -9223372036854775808<=k/\k<=9223372036854775807
theorem a1M {k:Int}(h0:0<=k)(h1:k<=1000000):isI k:=⟨by omega,by omega⟩
def K5 (k:Int):List Int:=a15 9 (zig k)
theorem b8Y:∀ (f z:Nat),(a15 f z).length<=f+1
 | 0,z=>by simp [a15]
 | f+1,z=>by
   unfold a15
   split
   ·simp
   ·have:=b8Y f (z / 128)
    simp only [List.length_cons]
    omega
theorem K2 (k:Int):(K5 k).length<=10:=b8Y 9 (zig k)
theorem b6E {a:Nat}(h:a<=100000000):Y0 a 1=some ():=by
 unfold Y0
 rw [if_pos (by omega)]
theorem b99 {z:Nat}(h:z<256):wr .u8 (z:Int)=(z:Int):=by rw [c5a]; omega
theorem b9C:∀ (f m z:Nat) (w:List Int),z<128^(f+1)->w.length+f<=90000000->z+1<=m->∃ z':Int,∃ w':List Int,z8 a0B m ((z:Int),w)=some (z',w')/\w'++[wr .u8 z']=w++a15 f z/\w'.length<=w.length+f
 | 0,m,z,w,hz,_,hm=>by
   obtain ⟨m,rfl⟩:∃ k,m=k+1:=⟨m-1,by omega⟩
   have h1:decide (128<=(z:Int))=false:=decide_eq_false (by omega)
   refine ⟨(z:Int),w,?_,?_,by omega⟩
   ·rw [z8]
    unfold a0B
    simp only [h1,cond_false]
    rfl
   ·unfold a15
    rw [b99 (by omega)]
 | f+1,m,z,w,hz,hw,hm=>by
   obtain ⟨m,rfl⟩:∃ k,m=k+1:=⟨m-1,by omega⟩
   rw [z8]
   unfold a0B
   by_cases h:z<128
   ·have h1:decide (128<=(z:Int))=false:=decide_eq_false (by omega)
    refine ⟨(z:Int),w,?_,?_,by omega⟩
    ·simp only [h1,cond_false]
     rfl
    ·unfold a15
     rw [if_pos h,b99 (by omega)]
   ·have h1:decide (128<=(z:Int))=true:=decide_eq_true (by omega)
    have hd:z / 128<128^(f+1):=by
     rw [Nat.pow_succ] at hz
     exact Nat.div_lt_of_lt_mul (by rw [Nat.mul_comm]; exact hz)
    obtain ⟨z',w',k1,k2,k3⟩:=b9C f m (z / 128) (w++[((z%128+128:Nat):Int)]) hd (by rw [List.length_append]; simp only [List.length_cons,List.length_nil]; omega) (by omega)
    refine ⟨z',w',?_,?_,?_⟩
    ·simp only [h1,cond_true,Option.bind_some,c7a,c7r,b6E (show w.length+([((z%128+128:Nat):Int)]:List Int).length<=100000000 by simp only [List.length_cons,List.length_nil]; omega)]
     exact k1
    ·rw [k2,List.append_assoc]
     congr 1
     conv=>rhs; unfold a15
     rw [if_neg h]
     rfl
    ·rw [List.length_append] at k3
     simp only [List.length_cons,List.length_nil] at k3
     omega
theorem a48 {k:Int}(hk:isI k){w:List Int}(hw:w.length<=50000000):Y2 w k=some (w++K5 k):=by
 obtain ⟨a,c,h1,h2,h3⟩:=c6i hk
 have hz:=b3B hk
 obtain ⟨z',w',k1,k2,k3⟩:=b9C 9 (zig k+2) (zig k) w (by
  have:(18446744073709551616:Nat)<=128^(9+1):=by decide
  omega) (by omega) (by omega)
 unfold Y2
 rw [h1,Option.bind_some,h2,Option.bind_some,h3,show ((zig k:Int)).toNat+2=zig k+2 from rfl,k1,Option.bind_some]
 simp only [b6E (show w'.length+([wr .u8 z']:List Int).length<=100000000 by simp only [List.length_cons,List.length_nil]; omega),Option.bind_some]
 rw [k2]
 rfl
theorem a2S {k:Int}(hk:isI k){w:List Int}(hw:w.length<=50000000):Y7 w k=some (w++K5 k):=by
 unfold Y7
 rw [a48 hk hw]
 rfl
def a5b (s:ByteArray):List Int:=K5 (s.size:Int)++a3F s
def b7y (b:Bool):List Int:=if b=true then [1] else [0]
theorem a5Y (s:ByteArray):(a3F s).length=s.size:=by
 unfold a3F
 rw [List.length_map]
 exact Array.length_toList
def OkT (s:ByteArray):Prop:=s.size<=20
theorem a3z {s:ByteArray}(h:OkT s):(a5b s).length<=30:=by
 have:=K2 (s.size:Int)
 unfold a5b
 rw [List.length_append,a5Y]
 unfold OkT at h
 omega
theorem b4E {s:ByteArray}(h:OkT s){w:List Int}(hw:w.length<=50000000):W8 w s=some (w++a5b s):=by
 have h1:s.size<=20:=h
 have h2:=K2 (s.size:Int)
 unfold W8
 rw [a48 (a1M (by omega) (by omega)) hw,Option.bind_some,b6E (by rw [List.length_append,a5Y]; omega),Option.bind_some]
 unfold a5b
 rw [List.append_assoc]
theorem b8C (b:Bool){w:List Int}(hw:w.length<=50000000):a0N w b=some (w++b7y b):=by
 unfold a0N
 cases b
 ·rw [cond_false,b6E (by simp only [List.length_cons,List.length_nil]; omega)]
  rfl
 ·rw [cond_true,b6E (by simp only [List.length_cons,List.length_nil]; omega)]
  rfl
theorem b8Z {α:Type}(enc:α->List Int)(B:Nat):∀ (l:List α),(∀ x∈l,(enc x).length<=B)->(l.flatMap enc).length<=l.length*B
 | [],_=>by simp
 | x::l,h=>by
   have h1:=h x List.mem_cons_self
   have h2:=b8Z enc B l fun y hy=>h y (List.mem_cons_of_mem _ hy)
   rw [List.flatMap_cons,List.length_append,List.length_cons,Nat.add_mul]
   omega
theorem c1W {α:Type}{step:Int×List Int->Option (Fl (Int×List Int) (List Int))}(wr1:List Int->α->Option (List Int))(enc:α->List Int)(l:List α)(B M:Nat)
 (hstep:∀ i w,step (i,w)=bif decide (i<(l.length:Int)) then (Option.bind (idx l i) fun e=>Option.bind (wr1 w e) fun r=>some (.next (wr .i64 (i+1),r))) else some (.done w))
 (hw1:∀ x∈l,∀ w:List Int,w.length<=M->wr1 w x=some (w++enc x)) (hB:∀ x∈l,(enc x).length<=B) (hl:l.length<=1000) {w:List Int} (hw:w.length+l.length*B<=M) :
 z8 step ((l.length:Int).toNat+1) (0,w)=some (w++l.flatMap enc):=by
 have key:∀ (m j:Nat) (v:List Int),l.length-j=m->j<=l.length->v.length<=w.length+j*B->z8 step (m+1) ((j:Int),v)=some (v++(l.drop j).flatMap enc):=by
  intro m
  induction m with
  | zero =>
    intro j v hm hj hv
    have e:j=l.length:=by omega
    subst e
    rw [z8,hstep,show decide ((l.length:Int)<(l.length:Int))=false from decide_eq_false (by omega),cond_false,List.drop_length]
    simp
  | succ m ih =>
    intro j v hm hj hv
    have hlt:j<l.length:=by omega
    have hjB:j*B<=l.length*B:=Nat.mul_le_mul_right _ (Nat.le_of_lt hlt)
    have hx:l[j]∈l:=List.getElem_mem hlt
    have hx1:=hB _ hx
    rw [z8,hstep,show decide ((j:Int)<(l.length:Int))=true from decide_eq_true (by omega),cond_true,K1 (List.getElem?_eq_getElem hlt),Option.bind_some,hw1 _ hx v (by omega),Option.bind_some]
    have e:wr .i64 ((j:Int)+1)=((j+1:Nat):Int):=by
     rw [a0L,K9 (by omega) (by omega)]
     omega
    show z8 step (m+1) (wr .i64 ((j:Int)+1),v++enc l[j])=_
    rw [e,ih (j+1) (v++enc l[j]) (by omega) (by omega) (by rw [List.length_append,Nat.add_mul]; omega),List.append_assoc,List.drop_eq_getElem_cons hlt,List.flatMap_cons]
 have:=key l.length 0 w (by omega) (by omega) (by omega)
 rw [List.drop_zero] at this
 exact this
def a01 {α:Type}(enc:α->List Int)(l:List α):List Int:=K5 (l.length:Int)++l.flatMap enc
theorem a8N {α:Type}{enc:α->List Int}{l:List α}(B n:Nat)(h:∀ x∈l,(enc x).length<=B)(hl:l.length<=n):(a01 enc l).length<=10+n*B:=by
 have h1:=b8Z enc B l h
 have h2:=K2 (l.length:Int)
 have h3:l.length*B<=n*B:=Nat.mul_le_mul_right _ hl
 unfold a01
 rw [List.length_append]
 omega
theorem b4s {α:Type}{step:Int×List Int->Option (Fl (Int×List Int) (List Int))}(wr1:List Int->α->Option (List Int))(enc:α->List Int)(l:List α)(B M:Nat)
 (hstep:∀ i w,step (i,w)=bif decide (i<(l.length:Int)) then (Option.bind (idx l i) fun e=>Option.bind (wr1 w e) fun r=>some (.next (wr .i64 (i+1),r))) else some (.done w))
 (hw1:∀ x∈l,∀ w:List Int,w.length<=M->wr1 w x=some (w++enc x)) (hB:∀ x∈l,(enc x).length<=B) (hl:l.length<=1000) {w:List Int} (hw0:w.length<=50000000) (hw:w.length+10+l.length*B<=M) :
 (Option.bind (Y2 w (l.length:Int)) fun r1=>Option.bind (z8 step ((l.length:Int).toNat+1) (0,r1)) fun b5=>some b5)=some (w++a01 enc l):=by
 have h2:=K2 (l.length:Int)
 rw [a48 (a1M (by omega) (by omega)) hw0,Option.bind_some,c1W wr1 enc l B M hstep hw1 hB hl (by rw [List.length_append]; omega),Option.bind_some]
 unfold a01
 rw [List.append_assoc]
def a4r (f:Api_Field):List Int:=K5 f.Key_.Kind++(a5b f.Key_.Text++(K5 f.Node++b7y f.Optional))
def OkF (f:Api_Field):Prop:=isI f.Key_.Kind/\OkT f.Key_.Text/\isI f.Node
theorem a6D (b:Bool):(b7y b).length=1:=by cases b<;>rfl
theorem b8S {f:Api_Field}(h:OkF f):(a4r f).length<=51:=by
 have h1:=K2 f.Key_.Kind
 have h2:=a3z h.2.1
 have h3:=K2 f.Node
 unfold a4r
 simp only [List.length_append,a6D]
 omega
theorem c3S {f:Api_Field}(h:OkF f){w:List Int}(hw:w.length<=40000000):a0E w f=some (w++a4r f):=by
 have h1:=K2 f.Key_.Kind
 have h2:=a3z h.2.1
 have h3:=K2 f.Node
 unfold a0E
 rw [a2S h.1 (by omega),Option.bind_some,b4E h.2.1 (by simp only [List.length_append]; omega),Option.bind_some,a2S h.2.2 (by simp only [List.length_append]; omega),Option.bind_some,
  b8C _ (by simp only [List.length_append]; omega),Option.bind_some]
 unfold a4r
 simp only [List.append_assoc]
def a4y (x:Api_TypeNode):List Int:=K5 x.Kind++(K5 x.Lo++(K5 x.Hi++(a5b x.Text++(a01 K5 x.Kids++(a01 a4r x.Fields++(K5 x.Rest.1++K5 x.Rest.2))))))
structure OkN (x:Api_TypeNode):Prop where
 kind:isI x.Kind
 lo:isI x.Lo
 hi:isI x.Hi
 text:OkT x.Text
 kids:∀ k∈x.Kids,isI k
 kidl:x.Kids.length<=8
 flds:∀ f∈x.Fields,OkF f
 fldl:x.Fields.length<=8
 r1:isI x.Rest.1
 r2:isI x.Rest.2
theorem b7H {x:Api_TypeNode}(h:OkN x):(a01 K5 x.Kids).length<=90/\(a01 a4r x.Fields).length<=418 :=
 ⟨a8N 10 8 (fun k _=>K2 k) h.kidl,a8N 51 8 (fun f hf=>b8S (h.flds f hf)) h.fldl⟩
theorem b5T {x:Api_TypeNode}(h:OkN x):(a4y x).length<=588:=by
 have h1:=K2 x.Kind
 have h2:=K2 x.Lo
 have h3:=K2 x.Hi
 have h4:=a3z h.text
 have h5:=b7H h
 have h6:=K2 x.Rest.1
 have h7:=K2 x.Rest.2
 unfold a4y
 simp only [List.length_append]
 omega
theorem c4H {x:Api_TypeNode}(h:OkN x){w:List Int}(hw:w.length<=20000000):a09 w x=some (w++a4y x):=by
 have h1:=K2 x.Kind
 have h2:=K2 x.Lo
 have h3:=K2 x.Hi
 have h4:=a3z h.text
 have h5:=b7H h
 have h6:=K2 x.Rest.1
 have hkl:=h.kidl
 have hfl:=h.fldl
 have hk:∀ w:List Int,w.length<=30000000->a4q w x.Kids ()=some (w++a01 K5 x.Kids):=fun w hw =>
  b4s Y7 K5 x.Kids 10 50000000 (fun i w=>rfl) (fun k hk w hw=>a2S (h.kids k hk) hw) (fun k _=>K2 k) (by omega) (by omega) (by omega)
 have hf:∀ w:List Int,w.length<=30000000->a2x w x.Fields ()=some (w++a01 a4r x.Fields):=fun w hw =>
  b4s a0E a4r x.Fields 51 40000000 (fun i w=>rfl) (fun f hf w hw=>c3S (h.flds f hf) hw) (fun f hf=>b8S (h.flds f hf)) (by omega) (by omega) (by omega)
 unfold a09
 rw [a2S h.kind (by omega),Option.bind_some,a48 h.lo (by simp only [List.length_append]; omega),Option.bind_some,a48 h.hi (by simp only [List.length_append]; omega),Option.bind_some,
  b4E h.text (by simp only [List.length_append]; omega),Option.bind_some,hk _ (by simp only [List.length_append]; omega),Option.bind_some,hf _ (by simp only [List.length_append]; omega),Option.bind_some,
  a2S h.r1 (by simp only [List.length_append]; omega),Option.bind_some,a2S h.r2 (by simp only [List.length_append]; omega),Option.bind_some]
 unfold a4y
 simp only [List.append_assoc]
def a7W (t:Api_Type):List Int:=a01 a4y t.Nodes++K5 t.Root
structure OkTy (t:Api_Type):Prop where
 nodes:∀ x∈t.Nodes,OkN x
 len:t.Nodes.length<=64
 root:isI t.Root
theorem c1z {t:Api_Type}(h:OkTy t):(a7W t).length<=37652:=by
 have h1:(a01 a4y t.Nodes).length<=10+64*588:=a8N 588 64 (fun x hx=>b5T (h.nodes x hx)) h.len
 have h2:=K2 t.Root
 unfold a7W
 rw [List.length_append]
 omega
theorem c5P {t:Api_Type}(h:OkTy t){w:List Int}(hw:w.length<=15000000):a2e w t=some (w++a7W t):=by
 have h1:(a01 a4y t.Nodes).length<=10+64*588:=a8N 588 64 (fun x hx=>b5T (h.nodes x hx)) h.len
 have hl:=h.len
 have hn:a1I w t.Nodes ()=some (w++a01 a4y t.Nodes) :=
  b4s a09 a4y t.Nodes 588 20000000 (fun i w=>rfl) (fun x hx w hw=>c4H (h.nodes x hx) hw) (fun x hx=>b5T (h.nodes x hx)) (by omega) (by omega) (by omega)
 unfold a2e
 rw [hn,Option.bind_some,a2S h.root (by simp only [List.length_append]; omega),Option.bind_some]
 unfold a7W
 rw [List.append_assoc]
def a4x (s:Api_Signature):List Int:=a5b s.Ref.Name++(K5 s.Ref.Arity++a7W s.Type_)
structure OkS (s:Api_Signature):Prop where
 name:OkT s.Ref.Name
 ar:isI s.Ref.Arity
 ty:OkTy s.Type_
theorem b8R {s:Api_Signature}(h:OkS s):(a4x s).length<=37692:=by
 have h1:=a3z h.name
 have h2:=K2 s.Ref.Arity
 have h3:=c1z h.ty
 unfold a4x
 simp only [List.length_append]
 omega
theorem b8V {s:Api_Signature}(h:OkS s){w:List Int}(hw:w.length<=10000000):a0b w s=some (w++a4x s):=by
 have h1:=a3z h.name
 have h2:=K2 s.Ref.Arity
 unfold a0b
 rw [b4E h.name (by omega),Option.bind_some,a2S h.ar (by simp only [List.length_append]; omega),Option.bind_some,c5P h.ty (by simp only [List.length_append]; omega),Option.bind_some]
 unfold a4x
 simp only [List.append_assoc]
def a0Q (i:Api_Interface):List Int:=a5b i.Module++(b7y i.Checked++a01 a4x i.Signatures)
end Go.Pl
end
section
namespace Go.Pl
open Go Go.RowKit Go.Sx Go.Qx
structure OkJ (i:Api_Interface):Prop where
 mod:OkT i.Module
 sigs:∀ s∈i.Signatures,OkS s
 len:i.Signatures.length<=10
theorem b8r {i:Api_Interface}(h:OkJ i):(a0Q i).length<=400000:=by
 have h1:=a3z h.mod
 have h2:(a01 a4x i.Signatures).length<=10+10*37692:=a8N 37692 10 (fun x hx=>b8R (h.sigs x hx)) h.len
 unfold a0Q
 simp only [List.length_append,a6D]
 omega
theorem c3n {i:Api_Interface}(h:OkJ i):a1Z [] i=some (a0Q i):=by
 have h1:=a3z h.mod
 have hl:=h.len
 have e1:=b4E h.mod (w:=[]) (by simp)
 rw [List.nil_append] at e1
 have hn:∀ w:List Int,w.length<=1000->a1x w i.Signatures ()=some (w++a01 a4x i.Signatures):=fun w hw =>
  b4s a0b a4x i.Signatures 37692 10000000 (fun i w=>rfl) (fun x hx w hw=>b8V (h.sigs x hx) hw) (fun x hx=>b8R (h.sigs x hx)) (by omega) (by omega) (by omega)
 unfold a1Z
 rw [e1,Option.bind_some,b8C _ (by omega),Option.bind_some,hn _ (by simp only [List.length_append,a6D]; omega),Option.bind_some]
 unfold a0Q
 simp only [List.append_assoc]
end Go.Pl
end
section
namespace Go.Pl
open Go Go.RowKit Go.Sx Go.Qx
def a9e (k:Int):Bool:=decide (-9223372036854775808<=k)&&decide (k<=9223372036854775807)
def c54 (f:Api_Field):Bool:=a9e f.Key_.Kind&&(decide (f.Key_.Text.size<=20)&&a9e f.Node)
def c6h (x:Api_TypeNode):Bool:=a9e x.Kind&&(a9e x.Lo&&(a9e x.Hi&&(decide (x.Text.size<=20)&&(x.Kids.all a9e&&(decide (x.Kids.length<=8)&&(x.Fields.all c54&&(decide (x.Fields.length<=8)&&(a9e x.Rest.1&&a9e x.Rest.2))))))))
def c04 (t:Api_Type):Bool:=t.Nodes.all c6h&&(decide (t.Nodes.length<=64)&&a9e t.Root)
theorem a3V {k:Int}(h:a9e k=true):isI k:=by
 unfold a9e at h
 simpa [isI] using h
theorem c2T {t:Api_Type}(h:c04 t=true):OkTy t:=by
 unfold c04 at h
 simp only [Bool.and_eq_true,decide_eq_true_eq] at h
 refine ⟨fun x hx=>?_,h.2.1,a3V h.2.2⟩
 have hx:=List.all_eq_true.1 h.1 x hx
 unfold c6h at hx
 simp only [Bool.and_eq_true,decide_eq_true_eq] at hx
 obtain ⟨h1,h2,h3,h4,h5,h6,h7,h8,h9,h10⟩:=hx
 refine ⟨a3V h1,a3V h2,a3V h3,h4,fun k hk=>a3V (List.all_eq_true.1 h5 k hk),h6,fun f hf=>?_,h8,a3V h9,a3V h10⟩
 have hf:=List.all_eq_true.1 h7 f hf
 unfold c54 at hf
 simp only [Bool.and_eq_true,decide_eq_true_eq] at hf
 exact ⟨a3V hf.1,hf.2.1,a3V hf.2.2⟩
def b65:Api_TypeNode:=⟨3,-9223372036854775808,9223372036854775807,⟨#[]⟩,[],[],(0,0)⟩
def a49:List Api_Type:=[⟨[b65],0⟩,
 ⟨[⟨6,0,0,⟨#[116,114,117,101]⟩,[],[],(0,0)⟩,⟨6,0,0,⟨#[102,97,108,115,101]⟩,[],[],(0,0)⟩,⟨16,0,0,⟨#[]⟩,[0,1],[],(0,0)⟩],2⟩,
 ⟨[⟨7,0,0,⟨#[]⟩,[],[],(0,0)⟩],0⟩,
 ⟨[b65,⟨9,0,0,⟨#[]⟩,[],[],(0,0)⟩,⟨12,0,0,⟨#[]⟩,[0,3],[],(0,0)⟩,⟨16,0,0,⟨#[]⟩,[1,2],[],(0,0)⟩],3⟩,
 ⟨[⟨7,0,0,⟨#[]⟩,[],[],(0,0)⟩,b65,⟨10,0,0,⟨#[]⟩,[0,1],[],(0,0)⟩],2⟩,
 ⟨[b65,b65,⟨14,0,0,⟨#[]⟩,[0,1],[],(0,0)⟩],2⟩,
 ⟨[b65,⟨2,0,0,⟨#[]⟩,[],[],(0,0)⟩,⟨2,0,0,⟨#[]⟩,[],[],(0,0)⟩,⟨13,0,0,⟨#[]⟩,[],[⟨⟨0,⟨#[97]⟩⟩,0,false⟩],(1,2)⟩],3⟩,
 ⟨[⟨2,0,0,⟨#[]⟩,[],[],(0,0)⟩],0⟩]
theorem c6D:J6 200000000 0=a49[0]?:=by kernel_rfl
theorem c6L:J6 200000000 1=a49[1]?:=by kernel_rfl
theorem c6q:J6 200000000 2=a49[2]?:=by kernel_rfl
theorem c61:J6 200000000 3=a49[3]?:=by kernel_rfl
theorem c6W:J6 200000000 4=a49[4]?:=by kernel_rfl
theorem c7c:J6 200000000 5=a49[5]?:=by kernel_rfl
theorem c6U:J6 200000000 6=a49[6]?:=by kernel_rfl
theorem c6M:J6 200000000 7=a49[7]?:=by kernel_rfl
def c3Z (k:Int):Option Api_Type:=bif decide (0<=k) then a49[k.toNat]? else none
theorem c2I {k:Int}(h0:0<=k)(h1:k<8):J6 200000000 k=c3Z k:=by
 have e:k=0\/k=1\/k=2\/k=3\/k=4\/k=5\/k=6\/k=7:=by omega
 rcases e with rfl | rfl | rfl | rfl | rfl | rfl | rfl | rfl
 ·exact c6D
 ·exact c6L
 ·exact c6q
 ·exact c61
 ·exact c6W
 ·exact c7c
 ·exact c6U
 ·exact c6M
def b4K (d:Semtypeprog_Callee)(x3:(List Api_TypeNode)×Int×(Int×Int×Int×ByteArray×(List Int)×(List Api_Field)×Int×Int)):Option (Fl ((List Api_TypeNode)×Int×(Int×Int×Int×ByteArray×(List Int)×(List Api_Field)×Int×Int)) ((List Api_TypeNode)×(Int×Int×Int×ByteArray×(List Int)×(List Api_Field)×Int×Int))) :=
 bif decide (x3.2.1<((d.Params++([d.Result]:List Int)).length:Int))
 then (Option.bind (idx (d.Params++([d.Result]:List Int)) x3.2.1) fun e4 =>
 Option.bind (c3Z e4) fun r5 =>
 Option.bind (Y0 (x3.2.2.2.2.2.2.1.length+([wr .i64 ((x3.1.length:Int)+r5.Root)]:List Int).length) 8) fun _ =>
 Option.bind (z8 (a3B x3 r5) ((r5.Nodes.length:Int).toNat+1) (x3.1,0)) fun b19 =>
 some (.next (b19,wr .i64 (x3.2.1+1),(x3.2.2.1,x3.2.2.2.1,x3.2.2.2.2.1,x3.2.2.2.2.2.1,x3.2.2.2.2.2.2.1++([wr .i64 ((x3.1.length:Int)+r5.Root)]:List Int),x3.2.2.2.2.2.2.2.1,x3.2.2.2.2.2.2.2.2.1,x3.2.2.2.2.2.2.2.2.2))))
 else (some (.done (x3.1,(x3.2.2.1,x3.2.2.2.1,x3.2.2.2.2.1,x3.2.2.2.2.2.1,x3.2.2.2.2.2.2.1,x3.2.2.2.2.2.2.2.1,x3.2.2.2.2.2.2.2.2.1,x3.2.2.2.2.2.2.2.2.2))))
def b5U (d:Semtypeprog_Callee):Option Api_Signature :=
 Option.bind (Y0 (0+d.Params.length) 8) fun _ =>
 Option.bind (Y0 (d.Params.length+([d.Result]:List Int).length) 8) fun _ =>
 Option.bind (z8 (b4K d) (((d.Params++([d.Result]:List Int)).length:Int).toNat+1) (([Api_TypeNode.mk 0 0 0 (⟨#[]⟩:ByteArray) ([]:List Int) ([]:List Api_Field) (0,0)]:List Api_TypeNode),0,(14,0,0,(⟨#[]⟩:ByteArray),[],[],0,0))) fun b20 =>
 Option.bind (idx b20.1 0) fun _ =>
 Option.bind (b20.1[(0:Int).toNat]?) fun _ =>
 some (Api_Signature.mk (Api_Ref.mk d.Name (d.Params.length:Int)) (Api_Type.mk (b20.1.set ((0:Int).toNat) (Api_TypeNode.mk b20.2.1 b20.2.2.1 b20.2.2.2.1 b20.2.2.2.2.1 b20.2.2.2.2.2.1 b20.2.2.2.2.2.2.1 (b20.2.2.2.2.2.2.2.1,b20.2.2.2.2.2.2.2.2))) 0))
theorem c3A {d:Semtypeprog_Callee}(h:∀ x∈d.Params++([d.Result]:List Int),0<=x/\x<8):a1S d 200000000=b4K d:=by
 funext x3
 unfold a1S b4K
 cases decide (x3.2.1<((d.Params++([d.Result]:List Int)).length:Int))
 ·rfl
 ·simp only [cond_true]
  cases he:idx (d.Params++([d.Result]:List Int)) x3.2.1 with
  | none=>rfl
  | some e =>
    have hm:=h e (List.mem_of_getElem? (a4w he).2)
    simp only [Option.bind_some,c2I hm.1 hm.2]
theorem c48 {d:Semtypeprog_Callee}(h:∀ x∈d.Params++([d.Result]:List Int),0<=x/\x<8):a0w 200000000 d=b5U d:=by
 unfold a0w b5U
 rw [c3A h]
theorem c2e (m nm:ByteArray)(ps:List Int)(r:Int):b5U (Semtypeprog_Callee.mk m nm ps r)=(b5U (Semtypeprog_Callee.mk (⟨#[]⟩:ByteArray) (⟨#[]⟩:ByteArray) ps r)).map fun s=>Api_Signature.mk (Api_Ref.mk nm (ps.length:Int)) s.Type_:=by
 have e:b4K (Semtypeprog_Callee.mk m nm ps r)=b4K (Semtypeprog_Callee.mk (⟨#[]⟩:ByteArray) (⟨#[]⟩:ByteArray) ps r):=rfl
 unfold b5U
 rw [e]
 simp only [Option.map_bind]
 cases Y0 (0+ps.length) 8<;>try rfl
 cases Y0 (ps.length+([r]:List Int).length) 8<;>try rfl
 simp only [Option.bind_some]
 cases z8 (b4K (Semtypeprog_Callee.mk (⟨#[]⟩:ByteArray) (⟨#[]⟩:ByteArray) ps r)) (((ps++([r]:List Int)).length:Int).toNat+1) (([Api_TypeNode.mk 0 0 0 (⟨#[]⟩:ByteArray) ([]:List Int) ([]:List Api_Field) (0,0)]:List Api_TypeNode),0,(14,0,0,(⟨#[]⟩:ByteArray),[],[],0,0)) with
 | none=>rfl
 | some b =>
   simp only [Option.bind_some,Function.comp_def]
   cases idx b.1 0 with
   | none=>rfl
   | some e =>
     simp only [Option.bind_some]
     cases b.1[(0:Int).toNat]? with
     | none=>rfl
     | some e2=>rfl
def a3Q (ps:List Int)(r:Int):Bool:=match b5U (Semtypeprog_Callee.mk (⟨#[]⟩:ByteArray) (⟨#[]⟩:ByteArray) ps r) with
 | some s=>c04 s.Type_&&(match a0Y 200000000 s.Type_ (ps.length:Int) with
   | some _=>true
   | none=>false)
 | none=>false
end Go.Pl
end
section
namespace Go.Pl
open Go Go.RowKit Go.Sx Go.Qx
theorem a9k {i:Nat}(h:i<=2000000):wr .i64 ((i:Int)+1)=((i+1:Nat):Int):=by
 rw [a0L,K9 (by omega) (by omega)]
 omega
theorem b4S {a b:Nat}(ha:a<=1000)(hb:b<=1000):Y0 a b=some ():=by
 unfold Y0
 have:a*b<=1000*1000:=Nat.mul_le_mul ha hb
 rw [if_pos (by omega)]
section
variable {L:List Int}
theorem c2w (hL:L.length<=4194304)(m nm:ByteArray)(r:Int):∀ (k f:Nat) (ps:List Int) (s:Semtypebase_Source),k+1<=f->OS L s->ps.length+k<=2->(∀ x∈ps,0<=x/\x<8) ->
 ∃ ps' s',z8 a0j f ((k:Int),(m,nm,ps,r),s)=some ((m,nm,ps',r),s')/\OS L s'/\ps'.length<=2/\∀ x∈ps',0<=x/\x<8
 | 0,f,ps,s,hf,hs,hl,hp=>by
   obtain ⟨f,rfl⟩:∃ k,f=k+1:=⟨f-1,by omega⟩
   refine ⟨ps,s,?_,hs,by omega,hp⟩
   rw [z8]
   rfl
 | k+1,f,ps,s,hf,hs,hl,hp=>by
   obtain ⟨f,rfl⟩:∃ k,f=k+1:=⟨f-1,by omega⟩
   obtain ⟨x,t,h1,h2,h3,h4⟩:=J9 hL hs (n:=8) (by omega) (by omega)
   have hstep:a0j (((k+1:Nat):Int),(m,nm,ps,r),s)=some (.next ((k:Int),(m,nm,ps++[x],r),t)):=by
    unfold a0j
    have e1:decide ((0:Int)<((k+1:Nat):Int))=true:=decide_eq_true (by omega)
    have e2:wr .i64 (((k+1:Nat):Int)-1)=(k:Int):=by rw [a0L,K9 (by omega) (by omega)]; omega
    simp only [e1,cond_true,h1,Option.bind_some,b4S (show ps.length+([x]:List Int).length<=1000 by simp only [List.length_cons,List.length_nil]; omega) (show 8<=1000 by omega),e2]
   obtain ⟨ps',s',k1,k2,k3,k4⟩:=c2w hL m nm r k f (ps++[x]) t (by omega) h2 (by rw [List.length_append]; simp only [List.length_cons,List.length_nil]; omega) (fun y hy=>by
    rcases List.mem_append.1 hy with hy | hy
    ·exact hp y hy
    ·rw [List.mem_singleton.1 hy]; exact ⟨h3,h4⟩)
   refine ⟨ps',s',?_,k2,k3,k4⟩
   rw [z8,hstep]
   exact k1
def a3r:List ByteArray:=[⟨#[102]⟩,⟨#[103]⟩,⟨#[104]⟩]
structure Cal (c:Semtypeprog_Callee):Prop where
 name:c.Name∈a3r
 ps:c.Params.length<=2
 pr:∀ x∈c.Params,0<=x/\x<8
 res:0<=c.Result/\c.Result<8
def b7c (l:List Semtypeprog_Callee):Prop:=(∀ c∈l,Cal c)/\l.map (·.Name)=a3r.take l.length
theorem c2s (hL:L.length<=4194304)(m:ByteArray)(n:Nat)(hn:n<=3)(q:(List Semtypeprog_Callee)×Int×Bool×Int):∀ (k j:Nat) (acc:List Semtypeprog_Callee) (s:Semtypebase_Source),j+k=n->acc.length=j->b7c acc->OS L s ->
 ∃ acc' s',z8 (J4 m (n:Int)) (k+1) (acc,(j:Int),(s,q))=some (acc',(s',q))/\OS L s'/\acc'.length=n/\b7c acc'
 | 0,j,acc,s,hk,hj,ha,hs=>by
   refine ⟨acc,s,?_,hs,by omega,ha⟩
   rw [z8]
   unfold J4
   rw [show decide ((j:Int)<(n:Int))=false from decide_eq_false (by omega)]
   rfl
 | k+1,j,acc,s,hk,hj,ha,hs=>by
   obtain ⟨nm,hnm⟩:∃ nm,a3r[j]?=some nm:=⟨a3r[j]'(by show j<3; omega),List.getElem?_eq_getElem (by show j<3; omega)⟩
   obtain ⟨r,t,h1,h2,h3,h4⟩:=J9 hL hs (n:=8) (by omega) (by omega)
   obtain ⟨x,t2,g1,g2,g3,g4⟩:=J9 hL h2 (n:=3) (by omega) (by omega)
   obtain ⟨x',rfl⟩:∃ x':Nat,x=(x':Int):=⟨x.toNat,by omega⟩
   obtain ⟨ps',t3,k1,k2,k3,k4⟩:=c2w hL m nm r x' (((x':Int)).toNat+2) [] t2 (by omega) g2 (by simp only [List.length_nil]; omega) (fun y hy=>by cases hy)
   have hstep:J4 m (n:Int) (acc,(j:Int),(s,q))=some (.next (acc++[Semtypeprog_Callee.mk m nm ps' r],((j+1:Nat):Int),(t3,q))):=by
    unfold J4
    have e1:decide ((j:Int)<(n:Int))=true:=decide_eq_true (by omega)
    have e2:idx ([(⟨#[102]⟩:ByteArray),(⟨#[103]⟩:ByteArray),(⟨#[104]⟩:ByteArray)]:List ByteArray) (j:Int)=some nm:=K1 hnm
    have e3:([(⟨#[102]⟩:ByteArray),(⟨#[103]⟩:ByteArray),(⟨#[104]⟩:ByteArray)]:List ByteArray)[((j:Int)).toNat]?=some nm:=hnm
    simp only [e1,cond_true,e2,Option.bind_some,e3,h1,g1,k1,b4S (show acc.length+([Semtypeprog_Callee.mk m nm ps' r]:List Semtypeprog_Callee).length<=1000 by simp only [List.length_cons,List.length_nil]; omega) (show 64<=1000 by omega),a9k (show j<=2000000 by omega)]
   have hc:b7c (acc++[Semtypeprog_Callee.mk m nm ps' r]):=by
    refine ⟨fun c hc=>?_,?_⟩
    ·rcases List.mem_append.1 hc with hc | hc
     ·exact ha.1 c hc
     ·rw [List.mem_singleton.1 hc]; exact ⟨List.mem_of_getElem? hnm,k3,k4,h3,h4⟩
    ·rw [List.map_append,ha.2,List.length_append,hj]
     show a3r.take j++[nm]=a3r.take (j+1)
     rw [List.take_add_one,hnm]
     rfl
   obtain ⟨acc',s',q1,q2,q3,q4⟩:=c2s hL m n hn q k (j+1) (acc++[Semtypeprog_Callee.mk m nm ps' r]) t3 (by omega) (by rw [List.length_append,hj]; rfl) hc k2
   refine ⟨acc',s',?_,q2,q3,q4⟩
   rw [z8,hstep]
   exact q1
theorem c1j (hL:L.length<=4194304)(m:ByteArray)(n:Nat)(hn:n<=3)(q:(List Semtypeprog_Callee)×Int×Bool×Int){s:Semtypebase_Source}(hs:OS L s) :
 ∃ l s',a0A (s,q) m (n:Int)=some (l,(s',q))/\OS L s'/\l.length=n/\b7c l:=by
 obtain ⟨l,s',k1,k2,k3,k4⟩:=c2s hL m n hn q n 0 [] s (by omega) rfl ⟨fun c hc=>(List.not_mem_nil hc).elim,rfl⟩ hs
 refine ⟨l,s',?_,k2,k3,k4⟩
 unfold a0A a1J
 have k1':z8 (J4 m (n:Int)) (((n:Int)).toNat+1) ([],0,(s,q))=some (l,(s',q)):=k1
 simp only [k1',Option.bind_some]
end
def b1X (c:Semtypeprog_Callee):Api_Ref:=Api_Ref.mk c.Name (c.Params.length:Int)
theorem c5B (l:List Semtypeprog_Callee)(hl:l.length<=3):z8 (V3 l) ((l.length:Int).toNat+1) ([],0)=some (l.map b1X):=by
 have key:∀ (k j:Nat) (acc:List Api_Ref),j+k=l.length->acc.length=j->z8 (V3 l) (k+1) (acc,(j:Int))=some (acc++(l.drop j).map b1X):=by
  intro k
  induction k with
  | zero =>
    intro j acc hj ha
    rw [z8]
    unfold V3
    rw [show decide ((j:Int)<(l.length:Int))=false from decide_eq_false (by omega),List.drop_of_length_le (by omega)]
    simp
  | succ k ih =>
    intro j acc hj ha
    have hlt:j<l.length:=by omega
    have hstep:V3 l (acc,(j:Int))=some (.next (acc++[b1X l[j]],((j+1:Nat):Int))):=by
     unfold V3
     simp only [show decide ((j:Int)<(l.length:Int))=true from decide_eq_true (by omega),cond_true,K1 (List.getElem?_eq_getElem hlt),Option.bind_some,b4S (show acc.length+([Api_Ref.mk l[j].Name (l[j].Params.length:Int)]:List Api_Ref).length<=1000 by simp only [List.length_cons,List.length_nil]; omega) (show 24<=1000 by omega),a9k (show j<=2000000 by omega)]
     rfl
    rw [z8,hstep]
    have:=ih (j+1) (acc++[b1X l[j]]) (by omega) (by rw [List.length_append,ha]; rfl)
    rw [List.append_assoc] at this
    rw [List.drop_eq_getElem_cons hlt]
    exact this
 have:=key l.length 0 [] (by omega) rfl
 simpa using this
def a8p (l:List Api_Ref):Bool:=match a0s l with
 | some r=>decide (r.length<=3)
 | none=>false
theorem sr1:∀ a,a<3->a8p [⟨⟨#[102]⟩,((a:Nat):Int)⟩]=true:=by decide +kernel
theorem sr2:∀ a,a<3->∀ b,b<3->a8p [⟨⟨#[102]⟩,((a:Nat):Int)⟩,⟨⟨#[103]⟩,((b:Nat):Int)⟩]=true:=by decide +kernel
theorem sr3:∀ a,a<3->∀ b,b<3->∀ c,c<3->a8p [⟨⟨#[102]⟩,((a:Nat):Int)⟩,⟨⟨#[103]⟩,((b:Nat):Int)⟩,⟨⟨#[104]⟩,((c:Nat):Int)⟩]=true:=by decide +kernel
theorem sr0:a8p []=true:=by decide +kernel
theorem c6z {l:List Semtypeprog_Callee}(h:b7c l)(hl:l.length<=3):∃ r,a0s (l.map b1X)=some r/\r.length<=3:=by
 have hc:a8p (l.map b1X)=true:=by
  obtain ⟨h1,h2⟩:=h
  match l,hl,h1,h2 with
  | [],_,_,_=>exact sr0
  | [x],_,h1,h2 =>
    have e:x.Name=⟨#[102]⟩:=by simpa [a3r] using h2
    show a8p [⟨x.Name,_⟩]=true
    rw [e]
    exact sr1 _ (by have:=(h1 x List.mem_cons_self).ps; omega)
  | [x,y],_,h1,h2 =>
    have e:x.Name=⟨#[102]⟩/\y.Name=⟨#[103]⟩:=by simpa [a3r] using h2
    show a8p [⟨x.Name,_⟩,⟨y.Name,_⟩]=true
    rw [e.1,e.2]
    exact sr2 _ (by have:=(h1 x (by simp)).ps; omega) _ (by have:=(h1 y (by simp)).ps; omega)
  | [x,y,z],_,h1,h2 =>
    have e:x.Name=⟨#[102]⟩/\y.Name=⟨#[103]⟩/\z.Name=⟨#[104]⟩:=by simpa [a3r] using h2
    show a8p [⟨x.Name,_⟩,⟨y.Name,_⟩,⟨z.Name,_⟩]=true
    rw [e.1,e.2.1,e.2.2]
    exact sr3 _ (by have:=(h1 x (by simp)).ps; omega) _ (by have:=(h1 y (by simp)).ps; omega) _ (by have:=(h1 z (by simp)).ps; omega)
  | x::y::z::u::l,hl,_,_=>simp only [List.length_cons] at hl; omega
 unfold a8p at hc
 cases hs:a0s (l.map b1X) with
 | none=>rw [hs] at hc; cases hc
 | some r =>
   rw [hs] at hc
   exact ⟨r,rfl,of_decide_eq_true hc⟩
end Go.Pl
end
section
namespace Go.Pl
open Go Go.RowKit Go.Sx Go.Qx
theorem c2b {l:List Int}(h:∀ x∈l,0<=x/\x<256):a3F (a2O l)=l:=by
 show List.map (fun b:UInt8=>(b.toNat:Int)) (List.map (fun x:Int=>UInt8.ofNat x.toNat) l).toArray.toList=l
 simp only [List.map_map]
 conv=>rhs; rw [<- List.map_id l]
 apply List.map_congr_left
 intro x hx
 exact c4n (h x hx).1 (h x hx).2
theorem c3u {a b:ByteArray}(h:a3F a=a3F b):a=b:=by
 apply ByteArray.ext
 apply Array.toList_inj.1
 unfold a3F at h
 exact (List.map_inj_right fun x y e=>UInt8.toNat_inj.1 (by exact_mod_cast e)).1 h
theorem c4U (s:ByteArray)(a b:Nat):a3F (s.extract a b)=((a3F s).take b).drop a:=by
 unfold a3F
 rw [c4J,List.map_drop,List.map_take]
def Pos (s:ByteArray)(p:Nat)(bs:List Int):Prop:=p<=s.size/\∃ rest,(a3F s).drop p=bs++rest
section
variable {s:ByteArray}
theorem Pos.len {p:Nat}{bs:List Int}(h:Pos s p bs):p+bs.length<=s.size:=by
 obtain ⟨h1,rest,h2⟩:=h
 have:=congrArg List.length h2
 rw [List.length_drop,a5Y,List.length_append] at this
 omega
theorem Pos.split {p:Nat}{a b:List Int}(h:Pos s p (a++b)):Pos s p a/\Pos s (p+a.length) b:=by
 have hl:=h.len
 obtain ⟨h1,rest,h2⟩:=h
 refine ⟨⟨h1,b++rest,by rw [h2,List.append_assoc]⟩,⟨by rw [List.length_append] at hl; omega,rest,?_⟩⟩
 rw [<- List.drop_drop,h2,List.append_assoc,List.drop_left]
theorem Pos.head {p:Nat}{x:Int}{bs:List Int}(h:Pos s p (x::bs)):∃ u:UInt8,s.data.toList[p]?=some u/\(u.toNat:Int)=x/\p<s.size:=by
 have hl:=h.len
 obtain ⟨_,rest,h2⟩:=h
 simp only [List.length_cons] at hl
 have h3:((a3F s).drop p)[0]?=some x:=by rw [h2]; rfl
 rw [List.getElem?_drop,Nat.add_zero] at h3
 unfold a3F at h3
 rw [List.getElem?_map,Option.map_eq_some_iff] at h3
 obtain ⟨u,h4,h5⟩:=h3
 exact ⟨u,h4,h5,by omega⟩
theorem b1P (hs:s.size<=1000000){p:Nat}{x:Int}{bs:List Int}(h:Pos s p (x::bs)):a07 ⟨s,(p:Int),0⟩=some (x,⟨s,((p+1:Nat):Int),0⟩):=by
 obtain ⟨u,h1,h2,h3⟩:=h.head
 have e1:wr .i64 ((p:Int)+1)=((p+1:Nat):Int):=by rw [a0L,K9 (by omega) (by omega)]; omega
 have e2:wr .i64 (((p+1:Nat):Int)-1)=(p:Int):=by rw [a0L,K9 (by omega) (by omega)]; omega
 have e3:a1f s (p:Int)=some u:=by
  unfold a1f
  rw [if_pos (Int.natCast_nonneg p),Int.toNat_natCast,<- h1,Array.getElem?_toList]
  rfl
 unfold a07
 simp only [bne_self_eq_false,cond_false,Option.bind_some,show decide ((s.size:Int)<=(p:Int))=false from decide_eq_false (by omega),e1,e2,e3,h2]
theorem c7j (f:Nat)(h:f<=8):2^(7*(9-f))=128*2^(7*(9-(f+1))):=by
 have e:7*(9-f)=7+7*(9-(f+1)):=by omega
 rw [e,Nat.pow_add]
theorem p63:(2:Nat)^63=9223372036854775808:=by decide
theorem c0e {z acc n:Nat}(hz:n<18446744073709551616)(hT:z*2^63+acc=n):z<=1:=by
 rw [p63] at hT
 omega
theorem c3o (hs:s.size<=1000000){k:Int}(hk:isI k):∀ (f m acc z p:Nat),f<=9->acc<2^(7*(9-f))->(f<9->1<=z)->z<128->z*2^(7*(9-f))+acc=zig k->Pos s p [(z:Int)] ->
 z8 Q6 (m+1) ((acc:Int),((7*(9-f):Nat):Int),⟨s,(p:Int),0⟩)=some (k,⟨s,((p+1:Nat):Int),0⟩):=by
 have hz:=b3B hk
 intro f m acc z p hf hacc hz1 hzl hT hp
 have h63:7*(9-f)=63->z<=1:=fun e=>by
  rw [e] at hT
  exact c0e hz hT
 obtain ⟨a,h1,h2⟩:=b8P (z:=acc) (w:=z) (s:=7*(9-f)) hacc (by omega) (by rw [hT]; exact hz)
 obtain ⟨d,h3,h4⟩:=c6J hk
 rw [z8]
 have hstep:Q6 ((acc:Int),((7*(9-f):Nat):Int),⟨s,(p:Int),0⟩)=some (.done (k,⟨s,((p+1:Nat):Int),0⟩)):=by
  unfold Q6
  have q1:(bif (((7*(9-f):Nat):Int)==63) then some (decide ((1:Int)<(z:Int))) else some false)=some false:=by
   cases hq:(((7*(9-f):Nat):Int)==63)
   ·rfl
   ·have:7*(9-f)=63:=by
     have:((7*(9-f):Nat):Int)=63:=by simpa using hq
     omega
    have:=h63 this
    rw [cond_true,decide_eq_false (by omega)]
  have q2:(bif decide ((0:Int)<((7*(9-f):Nat):Int)) then some ((z:Int)==0) else some false)=some false:=by
   cases hq:decide ((0:Int)<((7*(9-f):Nat):Int))
   ·rfl
   ·have h0:=of_decide_eq_true hq
    have:1<=z:=hz1 (by omega)
    have:((z:Int)==0)=false:=by
     have:(z:Int)≠0:=by omega
     simpa using this
    rw [cond_true,this]
  have hb:bOr .u64 (acc:Int) a=(zig k:Int):=by rw [h2,hT]
  have h127:b0j .u8 (z:Int) 127=(z:Int):=by rw [c1T (show z<256 by omega),Nat.mod_eq_of_lt hzl]
  have h128:decide ((z:Int)<128)=true:=decide_eq_true (by omega)
  rw [b1P hs hp]
  simp only [Option.bind_some]
  rw [q1]
  simp only [Option.bind_some,cond_false]
  rw [q2]
  simp only [Option.bind_some,cond_false,bne_self_eq_false]
  rw [h127,h1]
  simp only [Option.bind_some]
  rw [h128,hb,h3]
  simp only [Option.bind_some,cond_true]
  rw [h4]
 rw [hstep]
 rfl
theorem c3J (hs:s.size<=1000000){k:Int}(hk:isI k):∀ (f m acc z p:Nat),f<=9->f+1<=m->acc<2^(7*(9-f))->(f<9->1<=z)->z*2^(7*(9-f))+acc=zig k->Pos s p (a15 f z) ->
 z8 Q6 m ((acc:Int),((7*(9-f):Nat):Int),⟨s,(p:Int),0⟩)=some (k,⟨s,((p+(a15 f z).length:Nat):Int),0⟩):=by
 have hz:=b3B hk
 have last:=c3o hs hk
 intro f
 induction f with
 | zero =>
   intro m acc z p hf hm hacc hz1 hT hp
   obtain ⟨m,rfl⟩:∃ q,m=q+1:=⟨m-1,by omega⟩
   have hzl:z<128:=Nat.lt_of_le_of_lt (c0e hz hT) (by omega)
   exact last 0 m acc z p hf hacc hz1 hzl hT hp
 | succ f ih =>
   intro m acc z p hf hm hacc hz1 hT hp
   obtain ⟨m,rfl⟩:∃ q,m=q+1:=⟨m-1,by omega⟩
   by_cases hzl:z<128
   ·have e:a15 (f+1) z=[(z:Int)]:=by unfold a15; rw [if_pos hzl]
    rw [e] at hp ⊢
    exact last (f+1) m acc z p hf hacc hz1 hzl hT hp
   ·have e:a15 (f+1) z=((z%128+128:Nat):Int)::a15 f (z / 128):=by
     conv=>lhs; unfold a15
     rw [if_neg hzl]
    rw [e] at hp ⊢
    have hp2:Pos s (p+1) (a15 f (z / 128)):=(Pos.split (a:=[((z%128+128:Nat):Int)]) hp).2
    have hpw:=c7j f (by omega)
    have hdm:=Nat.div_add_mod z 128
    have hT2:z / 128*2^(7*(9-f))+((z%128)*2^(7*(9-(f+1)))+acc)=zig k:=by
     rw [hpw,<- Nat.mul_assoc,<- Nat.add_assoc,<- Nat.add_mul,Nat.mul_comm (z / 128) 128,hdm]
     exact hT
    have hac2:(z%128)*2^(7*(9-(f+1)))+acc<2^(7*(9-f)):=by
     rw [hpw]
     have:(z%128+1)*2^(7*(9-(f+1)))<=128*2^(7*(9-(f+1))):=Nat.mul_le_mul_right _ (by omega)
     rw [Nat.add_mul,Nat.one_mul] at this
     omega
    obtain ⟨a,h1,h2⟩:=b8P (z:=acc) (w:=z%128) (s:=7*(9-(f+1))) hacc (by omega) (by omega)
    have hstep:Q6 ((acc:Int),((7*(9-(f+1)):Nat):Int),⟨s,(p:Int),0⟩)=some (.next ((((z%128)*2^(7*(9-(f+1)))+acc:Nat):Int),((7*(9-f):Nat):Int),⟨s,((p+1:Nat):Int),0⟩)):=by
     unfold Q6
     have q1:(((7*(9-(f+1)):Nat):Int)==63)=false:=by
      have:((7*(9-(f+1)):Nat):Int)≠63:=by omega
      simpa using this
     have q2:(bif decide ((0:Int)<((7*(9-(f+1)):Nat):Int)) then some ((((z%128+128:Nat):Int))==0) else some false)=some false:=by
      have:((((z%128+128:Nat):Int))==0)=false:=by
       have:((z%128+128:Nat):Int)≠0:=by omega
       simpa using this
      rw [this]
      cases decide ((0:Int)<((7*(9-(f+1)):Nat):Int))<;>rfl
     have e7:wr .i64 (((7*(9-(f+1)):Nat):Int)+7)=((7*(9-f):Nat):Int):=by rw [a0L,K9 (by omega) (by omega)]; omega
     have em:(z%128+128)%128=z%128:=by omega
     simp only [b1P hs hp,Option.bind_some,q1,cond_false,q2,bne_self_eq_false,c1T (show z%128+128<256 by omega),em,h1,h2,show decide (((z%128+128:Nat):Int)<128)=false from decide_eq_false (by omega),e7]
    rw [z8,hstep]
    have:=ih m ((z%128)*2^(7*(9-(f+1)))+acc) (z / 128) (p+1) (by omega) (by omega) hac2 (fun _=>by omega) hT2 hp2
    rw [List.length_cons,show p+((a15 f (z / 128)).length+1)=p+1+(a15 f (z / 128)).length from by omega]
    exact this
theorem b2O (hs:s.size<=1000000){k:Int}(hk:isI k){p:Nat}(h:Pos s p (K5 k)):W6 200000000 ⟨s,(p:Int),0⟩=some (k,⟨s,((p+(K5 k).length:Nat):Int),0⟩):=by
 have:=c3J hs hk 9 200000000 0 (zig k) p (Nat.le_refl _) (by omega) (by decide) (fun h=>by omega) (by simp) h
 have e:z8 Q6 200000000 (0,0,⟨s,(p:Int),0⟩)=some (k,⟨s,((p+(K5 k).length:Nat):Int),0⟩):=this
 unfold W6
 rw [e]
 rfl
theorem a2o (hs:s.size<=1000000){k:Int}(hk:isI k){p:Nat}(h:Pos s p (K5 k)):Z7 200000000 ⟨s,(p:Int),0⟩=some (k,⟨s,((p+(K5 k).length:Nat):Int),0⟩):=by
 unfold Z7
 rw [b2O hs hk h]
 rfl
theorem b7M (hs:s.size<=1000000){n:Nat}(hn:n<=1000000){p:Nat}(h:Pos s p (K5 (n:Int))):Q9 200000000 ⟨s,(p:Int),0⟩=some ((n:Int),⟨s,((p+(K5 (n:Int)).length:Nat):Int),0⟩):=by
 unfold Q9
 rw [a2o hs (a1M (by omega) (by omega)) h]
 simp only [Option.bind_some,show decide ((n:Int)<0)=false from decide_eq_false (by omega),cond_false,bne_self_eq_false]
theorem b4u (hs:s.size<=1000000){t:ByteArray}(ht:OkT t){p:Nat}(h:Pos s p (a5b t)):V0 200000000 ⟨s,(p:Int),0⟩=some (t,⟨s,((p+(a5b t).length:Nat):Int),0⟩):=by
 have ht':t.size<=20:=ht
 have hl:=h.len
 obtain ⟨h1,h2⟩:=h.split
 have hl2:=h2.len
 rw [a5Y] at hl2
 have e0:(a5b t).length=(K5 (t.size:Int)).length+t.size:=by unfold a5b; rw [List.length_append,a5Y]
 have hex:s.extract (p+(K5 (t.size:Int)).length) (p+(K5 (t.size:Int)).length+t.size)=t:=by
  apply c3u
  obtain ⟨_,rest,h3⟩:=h2
  rw [c4U,List.drop_take,h3,Nat.add_sub_cancel_left]
  rw [<- a5Y t,List.take_left]
 unfold V0
 rw [b7M hs (by omega) h1]
 have w1:wr .i64 ((s.size:Int)-((p+(K5 (t.size:Int)).length:Nat):Int))=((s.size-(p+(K5 (t.size:Int)).length):Nat):Int):=by rw [a0L,K9 (by omega) (by omega)]; omega
 have w2:wr .i64 (((p+(K5 (t.size:Int)).length:Nat):Int)+(t.size:Int))=((p+(K5 (t.size:Int)).length+t.size:Nat):Int):=by rw [a0L,K9 (by omega) (by omega)]; omega
 have w3:wr .i64 (((p+(K5 (t.size:Int)).length+t.size:Nat):Int)-(t.size:Int))=((p+(K5 (t.size:Int)).length:Nat):Int):=by rw [a0L,K9 (by omega) (by omega)]; omega
 have hc:a2v s ((p+(K5 (t.size:Int)).length:Nat):Int) ((p+(K5 (t.size:Int)).length+t.size:Nat):Int)=some t:=by
  unfold a2v
  rw [if_pos ⟨by omega,by omega,by omega⟩,Int.toNat_natCast,Int.toNat_natCast,hex]
 simp only [Option.bind_some,w1,w2,w3,hc,show decide (((s.size-(p+(K5 (t.size:Int)).length):Nat):Int)<(t.size:Int))=false from decide_eq_false (by omega),cond_false]
 rw [e0,<- Nat.add_assoc]
theorem b8J (hs:s.size<=1000000){b:Bool}{p:Nat}(h:Pos s p (b7y b)):a0M ⟨s,(p:Int),0⟩=some (b,⟨s,((p+1:Nat):Int),0⟩):=by
 unfold a0M
 cases b
 ·rw [b1P hs (x:=0) (bs:=[]) h]
  rfl
 ·rw [b1P hs (x:=1) (bs:=[]) h]
  rfl
theorem c18 {α:Type}{step:List α×Int×Summary_reader->Option (Fl (List α×Int×Summary_reader) (List α×Summary_reader))}(rd:Summary_reader->Option (α×Summary_reader))(enc:α->List Int)(sz:Nat)(hsz:sz<=1000)(l:List α)(hl:l.length<=500)
 (hstep:∀ acc k r,step (acc,k,r)=(Option.bind (bif decide (0<k) then some (r.code==0) else some false) fun q3=>bif q3 then (Option.bind (rd r) fun r4=>Option.bind (Y0 (acc.length+([r4.1]:List α).length) sz) fun _=>some (.next (acc++([r4.1]:List α),wr .i64 (k-1),r4.2))) else some (.done (acc,r))))
 (hrd:∀ x∈l,∀ p,Pos s p (enc x)->rd ⟨s,(p:Int),0⟩=some (x,⟨s,((p+(enc x).length:Nat):Int),0⟩)) :
 ∀ (m j p:Nat),l.length-j+1<=m->j<=l.length->Pos s p ((l.drop j).flatMap enc)->z8 step m (l.take j,((l.length-j:Nat):Int),⟨s,(p:Int),0⟩)=some (l,⟨s,((p+((l.drop j).flatMap enc).length:Nat):Int),0⟩):=by
 intro m
 induction m with
 | zero=>intro j p hm; omega
 | succ m ih =>
   intro j p hm hj hp
   by_cases he:j=l.length
   ·subst he
    rw [z8,hstep,show decide ((0:Int)<((l.length-l.length:Nat):Int))=false from decide_eq_false (by omega)]
    simp
   ·have hlt:j<l.length:=by omega
    rw [List.drop_eq_getElem_cons hlt,List.flatMap_cons] at hp ⊢
    obtain ⟨h1,h2⟩:=hp.split
    have e1:wr .i64 (((l.length-j:Nat):Int)-1)=((l.length-(j+1):Nat):Int):=by rw [a0L,K9 (by omega) (by omega)]; omega
    have hr:Y0 ((l.take j).length+([l[j]]:List α).length) sz=some ():=b4S (by rw [List.length_take]; simp only [List.length_cons,List.length_nil]; omega) hsz
    have hst:step (l.take j,((l.length-j:Nat):Int),⟨s,(p:Int),0⟩)=some (.next (l.take (j+1),((l.length-(j+1):Nat):Int),⟨s,((p+(enc l[j]).length:Nat):Int),0⟩)):=by
     rw [hstep,show decide ((0:Int)<((l.length-j:Nat):Int))=true from decide_eq_true (by omega)]
     simp only [cond_true,Option.bind_some,beq_self_eq_true,hrd _ (List.getElem_mem hlt) p h1,hr,e1]
     rw [List.take_add_one,List.getElem?_eq_getElem hlt]
     rfl
    rw [z8,hst]
    have:=ih (j+1) (p+(enc l[j]).length) (by omega) (by omega) h2
    rw [List.length_append,<- Nat.add_assoc]
    exact this
theorem b2u {α:Type}{step:List α×Int×Summary_reader->Option (Fl (List α×Int×Summary_reader) (List α×Summary_reader))}(rd:Summary_reader->Option (α×Summary_reader))(enc:α->List Int)(sz:Nat)(hsz:sz<=1000)(l:List α)(hl:l.length<=500)(hs:s.size<=1000000)
 (hstep:∀ acc k r,step (acc,k,r)=(Option.bind (bif decide (0<k) then some (r.code==0) else some false) fun q3=>bif q3 then (Option.bind (rd r) fun r4=>Option.bind (Y0 (acc.length+([r4.1]:List α).length) sz) fun _=>some (.next (acc++([r4.1]:List α),wr .i64 (k-1),r4.2))) else some (.done (acc,r))))
 (hrd:∀ x∈l,∀ p,Pos s p (enc x)->rd ⟨s,(p:Int),0⟩=some (x,⟨s,((p+(enc x).length:Nat):Int),0⟩)) {p:Nat} (hp:Pos s p (a01 enc l)) :
 (Option.bind (Q9 200000000 ⟨s,(p:Int),0⟩) fun r1=>Option.bind (z8 step (r1.1.toNat+2) ([],r1.1,r1.2)) fun b6=>some (b6.1,b6.2))=some (l,⟨s,((p+(a01 enc l).length:Nat):Int),0⟩):=by
 obtain ⟨h1,h2⟩:=hp.split
 rw [b7M hs (by omega) h1]
 have:=c18 rd enc sz hsz l hl hstep hrd (l.length+2) 0 (p+(K5 (l.length:Int)).length) (by omega) (by omega) h2
 simp only [List.take_zero,List.drop_zero,Nat.sub_zero] at this
 simp only [Option.bind_some,Int.toNat_natCast,this]
 unfold a01
 rw [List.length_append,Nat.add_assoc]
theorem c2O (hs:s.size<=1000000){f:Api_Field}(hf:OkF f){p:Nat}(h:Pos s p (a4r f)):a0J 200000000 ⟨s,(p:Int),0⟩=some (f,⟨s,((p+(a4r f).length:Nat):Int),0⟩):=by
 obtain ⟨h1,h⟩:=h.split
 obtain ⟨h2,h⟩:=h.split
 obtain ⟨h3,h4⟩:=h.split
 unfold a0J
 rw [a2o hs hf.1 h1]
 simp only [Option.bind_some]
 rw [b4u hs hf.2.1 h2]
 simp only [Option.bind_some]
 rw [a2o hs hf.2.2 h3]
 simp only [Option.bind_some]
 rw [b8J hs h4]
 simp only [Option.bind_some]
 unfold a4r
 simp only [List.length_append,a6D,Nat.add_assoc]
theorem c46 (hs:s.size<=1000000){x:Api_TypeNode}(hx:OkN x){p:Nat}(h:Pos s p (a4y x)):a08 200000000 ⟨s,(p:Int),0⟩=some (x,⟨s,((p+(a4y x).length:Nat):Int),0⟩):=by
 obtain ⟨h1,h⟩:=h.split
 obtain ⟨h2,h⟩:=h.split
 obtain ⟨h3,h⟩:=h.split
 obtain ⟨h4,h⟩:=h.split
 obtain ⟨h5,h⟩:=h.split
 obtain ⟨h6,h⟩:=h.split
 obtain ⟨h7,h8⟩:=h.split
 have hkl:=hx.kidl
 have hfl:=hx.fldl
 have hk:∀ p,Pos s p (a01 K5 x.Kids)->a2W 200000000 ⟨s,(p:Int),0⟩ ()=some (x.Kids,⟨s,((p+(a01 K5 x.Kids).length:Nat):Int),0⟩):=fun p hp =>
  b2u (Z7 200000000) K5 8 (by omega) x.Kids (by omega) hs (fun acc k r=>rfl) (fun k hk p hp=>a2o hs (hx.kids k hk) hp) hp
 have hf:∀ p,Pos s p (a01 a4r x.Fields)->a1z 200000000 ⟨s,(p:Int),0⟩ ()=some (x.Fields,⟨s,((p+(a01 a4r x.Fields).length:Nat):Int),0⟩):=fun p hp =>
  b2u (a0J 200000000) a4r 40 (by omega) x.Fields (by omega) hs (fun acc k r=>rfl) (fun f hf p hp=>c2O hs (hx.flds f hf) hp) hp
 unfold a08
 rw [a2o hs hx.kind h1]
 simp only [Option.bind_some]
 rw [b2O hs hx.lo h2]
 simp only [Option.bind_some]
 rw [b2O hs hx.hi h3]
 simp only [Option.bind_some]
 rw [b4u hs hx.text h4]
 simp only [Option.bind_some]
 rw [hk _ h5]
 simp only [Option.bind_some]
 rw [hf _ h6]
 simp only [Option.bind_some]
 rw [a2o hs hx.r1 h7]
 simp only [Option.bind_some]
 rw [a2o hs hx.r2 h8]
 simp only [Option.bind_some]
 unfold a4y
 simp only [List.length_append,Nat.add_assoc]
theorem c6f (hs:s.size<=1000000){t:Api_Type}(ht:OkTy t){p:Nat}(h:Pos s p (a7W t)):a2f 200000000 ⟨s,(p:Int),0⟩=some (t,⟨s,((p+(a7W t).length:Nat):Int),0⟩):=by
 obtain ⟨h1,h2⟩:=h.split
 have hl:=ht.len
 have hn:a00 200000000 ⟨s,(p:Int),0⟩ ()=some (t.Nodes,⟨s,((p+(a01 a4y t.Nodes).length:Nat):Int),0⟩) :=
  b2u (a08 200000000) a4y 104 (by omega) t.Nodes (by omega) hs (fun acc k r=>rfl) (fun x hx p hp=>c46 hs (ht.nodes x hx) hp) h1
 unfold a2f
 rw [hn]
 simp only [Option.bind_some]
 rw [a2o hs ht.root h2]
 simp only [Option.bind_some]
 unfold a7W
 simp only [List.length_append,Nat.add_assoc]
theorem b9K (hs:s.size<=1000000){g:Api_Signature}(hg:OkS g){p:Nat}(h:Pos s p (a4x g)):X8 200000000 ⟨s,(p:Int),0⟩=some (g,⟨s,((p+(a4x g).length:Nat):Int),0⟩):=by
 obtain ⟨h1,h⟩:=h.split
 obtain ⟨h2,h3⟩:=h.split
 unfold X8
 rw [b4u hs hg.name h1]
 simp only [Option.bind_some]
 rw [a2o hs hg.ar h2]
 simp only [Option.bind_some]
 rw [c6f hs hg.ty h3]
 simp only [Option.bind_some]
 unfold a4x
 simp only [List.length_append,Nat.add_assoc]
theorem c4S (hs:s.size<=1000000){i:Api_Interface}(hi:OkJ i)(h:Pos s 0 (a0Q i)):a13 200000000 ⟨s,0,0⟩=some (i,⟨s,(((a0Q i).length:Nat):Int),0⟩):=by
 obtain ⟨h1,h⟩:=h.split
 obtain ⟨h2,h3⟩:=h.split
 have hl:=hi.len
 rw [a6D] at h3
 have hn:∀ p,Pos s p (a01 a4x i.Signatures)->a0K 200000000 ⟨s,(p:Int),0⟩ ()=some (i.Signatures,⟨s,((p+(a01 a4x i.Signatures).length:Nat):Int),0⟩):=fun p hp =>
  b2u (X8 200000000) a4x 56 (by omega) i.Signatures (by omega) hs (fun acc k r=>rfl) (fun x hx p hp=>b9K hs (hi.sigs x hx) hp) hp
 have h1':V0 200000000 ⟨s,0,0⟩=some (i.Module,⟨s,(((a5b i.Module).length:Nat):Int),0⟩):=by
  have:=b4u hs hi.mod h1
  rw [Nat.zero_add] at this
  exact this
 rw [Nat.zero_add] at h2 h3
 unfold a13
 rw [h1']
 simp only [Option.bind_some]
 rw [b8J hs h2]
 simp only [Option.bind_some]
 rw [hn _ h3]
 simp only [Option.bind_some]
 unfold a0Q
 simp only [List.length_append,a6D,Nat.add_assoc,Nat.zero_add]
end
end Go.Pl
end
section
namespace Go.Pl
open Go Go.RowKit Go.Sx Go.Qx
theorem sg0:∀ r,r<8->a3Q [] ((r:Nat):Int)=true:=by decide +kernel
theorem sg1:∀ a,a<8->∀ r,r<8->a3Q [((a:Nat):Int)] ((r:Nat):Int)=true:=by decide +kernel
theorem c7h:∀ b,b<8->∀ r,r<8->a3Q [0,((b:Nat):Int)] ((r:Nat):Int)=true:=by decide +kernel
theorem c6w:∀ b,b<8->∀ r,r<8->a3Q [1,((b:Nat):Int)] ((r:Nat):Int)=true:=by decide +kernel
theorem c6T:∀ b,b<8->∀ r,r<8->a3Q [2,((b:Nat):Int)] ((r:Nat):Int)=true:=by decide +kernel
theorem c6S:∀ b,b<8->∀ r,r<8->a3Q [3,((b:Nat):Int)] ((r:Nat):Int)=true:=by decide +kernel
end Go.Pl
end
section
namespace Go.Pl
open Go Go.RowKit Go.Sx Go.Qx
theorem c60:∀ b,b<8->∀ r,r<8->a3Q [4,((b:Nat):Int)] ((r:Nat):Int)=true:=by decide +kernel
theorem c6m:∀ b,b<8->∀ r,r<8->a3Q [5,((b:Nat):Int)] ((r:Nat):Int)=true:=by decide +kernel
theorem c6I:∀ b,b<8->∀ r,r<8->a3Q [6,((b:Nat):Int)] ((r:Nat):Int)=true:=by decide +kernel
theorem c68:∀ b,b<8->∀ r,r<8->a3Q [7,((b:Nat):Int)] ((r:Nat):Int)=true:=by decide +kernel
theorem sg2 {a b r:Nat}(ha:a<8)(hb:b<8)(hr:r<8):a3Q [(a:Int),(b:Int)] (r:Int)=true:=by
 have e:a=0\/a=1\/a=2\/a=3\/a=4\/a=5\/a=6\/a=7:=by omega
 rcases e with rfl | rfl | rfl | rfl | rfl | rfl | rfl | rfl
 ·exact c7h b hb r hr
 ·exact c6w b hb r hr
 ·exact c6T b hb r hr
 ·exact c6S b hb r hr
 ·exact c60 b hb r hr
 ·exact c6m b hb r hr
 ·exact c6I b hb r hr
 ·exact c68 b hb r hr
theorem c05 {x:Int}(h:0<=x/\x<8):∃ a:Nat,a<8/\x=(a:Int):=⟨x.toNat,by omega,by omega⟩
theorem c5F {ps:List Int}{r:Int}(hl:ps.length<=2)(hp:∀ x∈ps,0<=x/\x<8)(hr:0<=r/\r<8):a3Q ps r=true:=by
 obtain ⟨r',hr',rfl⟩:=c05 hr
 match ps,hl,hp with
 | [],_,_=>exact sg0 r' hr'
 | [x],_,hp =>
   obtain ⟨a,ha,rfl⟩:=c05 (hp x List.mem_cons_self)
   exact sg1 a ha r' hr'
 | [x,y],_,hp =>
   obtain ⟨a,ha,rfl⟩:=c05 (hp x List.mem_cons_self)
   obtain ⟨b,hb,rfl⟩:=c05 (hp y (List.mem_cons_of_mem _ List.mem_cons_self))
   exact sg2 ha hb hr'
 | x::y::z::l,hl,_=>simp only [List.length_cons] at hl; omega
end Go.Pl
end
section
namespace Go.Pl
open Go Go.RowKit Go.Sx Go.Qx
structure Good (s:Api_Signature):Prop where
 ok:OkS s
 named:a0H s.Ref.Name=some true
 call:∃ b,a0Y 200000000 s.Type_ s.Ref.Arity=some b
theorem c2o:∀ s∈a3r,a0H s=some true/\s.size<=20:=by
 have h:(a3r.all fun s=>a0H s==some true&&decide (s.size<=20))=true:=by decide +kernel
 intro s hs
 have:=List.all_eq_true.1 h s hs
 simpa using this
theorem c2K {c:Semtypeprog_Callee}(h:Cal c):∃ s,a0w 200000000 c=some s/\Good s:=by
 obtain ⟨m,nm,ps,r⟩:=c
 obtain ⟨h1,h2,h3,h4⟩:=h
 have hg:=c5F h2 h3 h4
 rw [c48 (fun x hx=>by
  rcases List.mem_append.1 hx with hx | hx
  ·exact h3 x hx
  ·rw [List.mem_singleton.1 hx]; exact h4),c2e]
 unfold a3Q at hg
 cases hs:b5U (Semtypeprog_Callee.mk (⟨#[]⟩:ByteArray) (⟨#[]⟩:ByteArray) ps r) with
 | none=>rw [hs] at hg; cases hg
 | some s =>
   rw [hs] at hg
   simp only [Bool.and_eq_true] at hg
   obtain ⟨g1,g2⟩:=hg
   refine ⟨_,rfl,⟨(c2o nm h1).2,a1M (Int.natCast_nonneg _) (by have:ps.length<=2:=h2; show (ps.length:Int)<=1000000; omega),c2T g1⟩,(c2o nm h1).1,?_⟩
   show ∃ b,a0Y 200000000 s.Type_ (ps.length:Int)=some b
   cases hb:a0Y 200000000 s.Type_ (ps.length:Int) with
   | none=>rw [hb] at g2; cases g2
   | some b=>exact ⟨b,rfl⟩
theorem c5O {i:Nat}(h:1<=i)(h2:i<=2000000):wr .i64 ((i:Int)-1)=((i-1:Nat):Int):=by
 rw [a0L,K9 (by omega) (by omega)]
 omega
theorem c6d (l:List Semtypeprog_Callee)(hl:l.length<=3)(hc:∀ c∈l,Cal c)(e:Api_Ref)(d:ByteArray)(t:Bool):∀ (k j:Nat) (acc:List Api_Signature),j+k=l.length->acc.length+k<=100->(∀ s∈acc,Good s) ->
 ∃ acc',z8 (J7 l e 200000000) (k+1) ((j:Int),(d,t,acc))=some (d,t,acc')/\acc'.length<=acc.length+k/\∀ s∈acc',Good s:=by
 intro k
 induction k with
 | zero =>
   intro j acc hj hn ha
   refine ⟨acc,?_,by omega,ha⟩
   rw [z8]
   unfold J7
   rw [show decide ((j:Int)<(l.length:Int))=false from decide_eq_false (by omega)]
   rfl
 | succ k ih =>
   intro j acc hj hn ha
   have hlt:j<l.length:=by omega
   obtain ⟨s,hs,hg⟩:=c2K (hc l[j] (List.getElem_mem hlt))
   have hstep:J7 l e 200000000 ((j:Int),(d,t,acc))=some (.next (((j+1:Nat):Int),(d,t,acc++[s])))\/J7 l e 200000000 ((j:Int),(d,t,acc))=some (.next (((j+1:Nat):Int),(d,t,acc))):=by
    have hr:Y0 (acc.length+([s]:List Api_Signature).length) 56=some ():=b4S (by simp only [List.length_cons,List.length_nil]; omega) (by omega)
    unfold J7
    simp only [show decide ((j:Int)<(l.length:Int))=true from decide_eq_true (by omega),cond_true,K1 (List.getElem?_eq_getElem hlt),Option.bind_some,hs,hr,a9k (show j<=2000000 by omega)]
    cases a23 s.Ref e
    ·exact .inr rfl
    ·simp only [cond_true]
     cases hz:((acc.length:Int)==0)
     ·simp only [cond_false]
      have hpos:1<=acc.length:=by
       have:(acc.length:Int)≠0:=by simpa using hz
       omega
      rw [c5O hpos (by omega),K1 (List.getElem?_eq_getElem (show acc.length-1<acc.length by omega))]
      simp only [Option.bind_some]
      cases !a23 (acc[acc.length-1]'(by omega)).Ref e
      ·exact .inr rfl
      ·exact .inl rfl
     ·exact .inl rfl
   rcases hstep with hstep | hstep
   ·obtain ⟨acc',k1,k2,k3⟩:=ih (j+1) (acc++[s]) (by omega) (by rw [List.length_append]; simp only [List.length_cons,List.length_nil]; omega) (fun y hy=>by
     rcases List.mem_append.1 hy with hy | hy
     ·exact ha y hy
     ·rw [List.mem_singleton.1 hy]; exact hg)
    refine ⟨acc',by rw [z8,hstep]; exact k1,?_,k3⟩
    rw [List.length_append] at k2
    simp only [List.length_cons,List.length_nil] at k2
    omega
   ·obtain ⟨acc',k1,k2,k3⟩:=ih (j+1) acc (by omega) (by omega) ha
    exact ⟨acc',by rw [z8,hstep]; exact k1,by omega,k3⟩
theorem c5Q (l:List Semtypeprog_Callee)(hl:l.length<=3)(hc:∀ c∈l,Cal c)(r:List Api_Ref)(hr:r.length<=3)(d:ByteArray)(t:Bool):∀ (k j:Nat) (acc:List Api_Signature),j+k=r.length->acc.length+3*k<=9->(∀ s∈acc,Good s) ->
 ∃ acc',z8 (V7 l r 200000000) (k+1) ((j:Int),(d,t,acc))=some (d,t,acc')/\acc'.length<=acc.length+3*k/\∀ s∈acc',Good s:=by
 intro k
 induction k with
 | zero =>
   intro j acc hj hn ha
   refine ⟨acc,?_,by omega,ha⟩
   rw [z8]
   unfold V7
   rw [show decide ((j:Int)<(r.length:Int))=false from decide_eq_false (by omega)]
   rfl
 | succ k ih =>
   intro j acc hj hn ha
   have hlt:j<r.length:=by omega
   obtain ⟨acc1,k1,k2,k3⟩:=c6d l hl hc r[j] d t l.length 0 acc (by omega) (by omega) ha
   have k1':z8 (J7 l r[j] 200000000) ((l.length:Int).toNat+1) (0,(d,t,acc))=some (d,t,acc1):=k1
   have hstep:V7 l r 200000000 ((j:Int),(d,t,acc))=some (.next (((j+1:Nat):Int),(d,t,acc1))):=by
    unfold V7
    simp only [show decide ((j:Int)<(r.length:Int))=true from decide_eq_true (by omega),cond_true,K1 (List.getElem?_eq_getElem hlt),Option.bind_some,k1',a9k (show j<=2000000 by omega)]
   obtain ⟨acc',q1,q2,q3⟩:=ih (j+1) acc1 (by omega) (by omega) k3
   exact ⟨acc',by rw [z8,hstep]; exact q1,by omega,q3⟩
theorem b8F {l:List Semtypeprog_Callee}(h:b7c l)(hl:l.length<=3)(d:ByteArray)(t:Bool):∃ ss,a1q 200000000 d t l=some (d,t,ss)/\ss.length<=9/\∀ s∈ss,Good s:=by
 obtain ⟨r,h1,h2⟩:=c6z h hl
 obtain ⟨ss,k1,k2,k3⟩:=c5Q l hl h.1 r h2 d t r.length 0 [] (by omega) (by simp only [List.length_nil]; omega) (fun s hs=>by cases hs)
 refine ⟨ss,?_,by simp only [List.length_nil] at k2; omega,k3⟩
 have k1':z8 (V7 l r 200000000) ((r.length:Int).toNat+1) (0,(d,t,[]))=some (d,t,ss):=k1
 unfold a1q
 simp only [c5B l hl,Option.bind_some,h1,k1']
structure Drw (s:Api_Signature):Prop where
 ok:OkS s
 named:a0H s.Ref.Name=some true
structure Mde (i:Api_Interface):Prop where
 mod:a0H i.Module=some true/\i.Module.size<=20
 len:i.Signatures.length<=10
 sigs:∀ s∈i.Signatures,Drw s
 call:i.Checked=false->∀ s∈i.Signatures,∃ b,a0Y 200000000 s.Type_ s.Ref.Arity=some b
def b8g:List ByteArray:=[⟨#[109]⟩,⟨#[97]⟩,⟨#[120,49]⟩]
theorem c7F:∀ s∈b8g,a0H s=some true/\s.size<=20:=by
 have h:(b8g.all fun s=>a0H s==some true&&decide (s.size<=20))=true:=by decide +kernel
 intro s hs
 have:=List.all_eq_true.1 h s hs
 simpa using this
theorem c6a:a0H ⟨#[122]⟩=some true:=by decide +kernel
theorem b4O {N:Nat}(hN:N<=1000){k:Int}(h:inR N k=true):isI k:=by
 unfold inR at h
 simp only [Bool.and_eq_true,decide_eq_true_eq] at h
 exact a1M (by omega) (by omega)
theorem c2G {N:Nat}{x:Api_TypeNode}(h:a4k N x=true):1<=x.Kind/\x.Kind<=19:=by
 rcases a8c x.Kind with hk | hk
 ·omega
 ·have hne:∀ n:Int,1<=n->n<=19->¬ x.Kind=n:=fun n h1 h2 e=>by
   have:=hk n h1 h2
   rw [e] at this
   simp at this
  unfold a4k at h
  rw [if_neg (hne 3 (by omega) (by omega)),if_neg (hne 4 (by omega) (by omega)),if_neg (hne 6 (by omega) (by omega)),if_neg (hne 19 (by omega) (by omega)),if_neg,if_neg (hne 10 (by omega) (by omega)),if_neg (hne 12 (by omega) (by omega)),
   if_neg (hne 14 (by omega) (by omega)),if_neg,if_neg (hne 18 (by omega) (by omega)),if_neg (hne 13 (by omega) (by omega))] at h
  ·cases h
  ·rintro (e | e)
   ·exact hne 16 (by omega) (by omega) e
   ·exact hne 17 (by omega) (by omega) e
  ·rintro (e | e | e | e | e | e | e | e)
   ·exact hne 1 (by omega) (by omega) e
   ·exact hne 2 (by omega) (by omega) e
   ·exact hne 5 (by omega) (by omega) e
   ·exact hne 7 (by omega) (by omega) e
   ·exact hne 8 (by omega) (by omega) e
   ·exact hne 9 (by omega) (by omega) e
   ·exact hne 11 (by omega) (by omega) e
   ·exact hne 15 (by omega) (by omega) e
theorem c2H:isI 0:=⟨by omega,by omega⟩
theorem c51 {N i:Nat}{x:Api_TypeNode}(hN:N<=1000)(h:GN N i x):OkN x:=by
 have h1:=h.ok
 unfold a1t at h1
 simp only [Bool.and_eq_true] at h1
 obtain ⟨k1,_,_,k4,k5⟩:=h1
 have hk:=c2G k5
 have hr:=h.rng
 have hrest:(∀ f∈x.Fields,OkF f)/\isI x.Rest.1/\isI x.Rest.2:=by
  by_cases h13:x.Kind=13
  ·unfold a4k at k5
   rw [if_neg (by omega),if_neg (by omega),if_neg (by omega),if_neg (by omega),if_neg (by omega),if_neg (by omega),if_neg (by omega),if_neg (by omega),if_neg (by omega),if_neg (by omega),if_pos h13] at k5
   simp only [Bool.and_eq_true] at k5
   obtain ⟨f1,_,f2,f3⟩:=k5
   refine ⟨fun f hf=>?_,b4O hN f2,b4O hN f3⟩
   unfold a8B at f1
   simp only [Bool.and_eq_true] at f1
   have hb:=h.keys f hf
   have g1:=List.all_eq_true.1 f1.2.1 f hf
   have g2:=List.all_eq_true.1 f1.2.2 f hf
   refine ⟨?_,?_,b4O hN g2⟩
   ·have:f.Key_.Kind=0\/f.Key_.Kind=1:=by
     unfold a8h at g1
     by_cases e0:f.Key_.Kind=0
     ·exact .inl e0
     ·by_cases e1:f.Key_.Kind=1
      ·exact .inr e1
      ·rw [if_neg e0,if_neg e1] at g1
       cases g1
    rcases this with e | e<;>rw [e]<;>exact a1M (by omega) (by omega)
   ·show f.Key_.Text.size<=20
    unfold c0o b7g at hb
    omega
  ·simp only [Bool.or_eq_true,beq_iff_eq,h13,false_or,Bool.and_eq_true] at k4
   obtain ⟨e1,e2⟩:=k4
   have e1:x.Fields=[]:=by simpa using e1
   unfold a3g at e2
   simp only [Bool.and_eq_true,beq_iff_eq] at e2
   refine ⟨fun f hf=>?_,by rw [e2.1]; exact c2H,by rw [e2.2]; exact c2H⟩
   rw [e1] at hf
   cases hf
 exact ⟨a1M (by omega) (by omega),⟨hr.1,hr.2.1⟩,⟨hr.2.2.1,hr.2.2.2⟩,by have:=h.text; show x.Text.size<=20; omega,fun k hk=>b4O hN (List.all_eq_true.1 k1 k hk),by have:=h.kids; omega,hrest.1,by have:=h.flds; omega,hrest.2.1,hrest.2.2⟩
theorem c0A {N:Nat}{ns:List Api_TypeNode}(hN:N<=60)(hl:ns.length=N)(h:GNs N ns):OkTy (Api_Type.mk ns 0) :=
 ⟨fun x hx=>by
  obtain ⟨i,hi⟩:=List.getElem?_of_mem hx
  exact c51 (by omega) (h i x hi),by show ns.length<=64; omega,c2H⟩
theorem b8p {s:Api_Signature}(h:Good s):Drw s:=⟨h.ok,h.named⟩
theorem c0w (l:List Int)(hl:l.length<=4194304):∃ i,a1B 200000000 l=some i/\Mde i:=by
 have hL:(l.take 50).length<=4194304:=by rw [List.length_take]; omega
 obtain ⟨x1,s1,a1,a2,a3,a4⟩:=J9 hL (s:=Semtypebase_Source.mk (l.take 50) 0) ⟨rfl,Int.le_refl _,Int.natCast_nonneg _⟩ (n:=3) (by omega) (by omega)
 obtain ⟨x2,s2,b1,b2,b3,b4⟩:=J9 hL a2 (n:=2) (by omega) (by omega)
 obtain ⟨x3,s3,c1,c2,c3,c4⟩:=J9 hL b2 (n:=3) (by omega) (by omega)
 obtain ⟨m1,rfl⟩:∃ m:Nat,x1=(m:Int):=⟨x1.toNat,by omega⟩
 obtain ⟨m3,rfl⟩:∃ m:Nat,x3=(m:Int):=⟨x3.toNat,by omega⟩
 obtain ⟨nm,hnm⟩:∃ nm,b8g[m1]?=some nm:=⟨b8g[m1]'(by show m1<3; omega),List.getElem?_eq_getElem (by show m1<3; omega)⟩
 have e3:wr .i64 (1+(m3:Int))=((m3+1:Nat):Int):=by rw [Int.add_comm]; exact a9k (by omega)
 obtain ⟨cs,s4,d1,d2,d3,d4⟩:=c1j hL (⟨#[]⟩:ByteArray) (m3+1) (by omega) (([]:List Semtypeprog_Callee),0,false,0) c2
 obtain ⟨ss,f1,f2,f3⟩:=b8F d4 (by omega) nm (x2==0)
 obtain ⟨x8,s8,g1,g2,g3,g4⟩:=J9 hL d2 (n:=3) (by omega) (by omega)
 have hi1:idx ([(⟨#[109]⟩:ByteArray),(⟨#[97]⟩:ByteArray),(⟨#[120,49]⟩:ByteArray)]:List ByteArray) (m1:Int)=some nm:=K1 hnm
 have hi2:([(⟨#[109]⟩:ByteArray),(⟨#[97]⟩:ByteArray),(⟨#[120,49]⟩:ByteArray)]:List ByteArray)[((m1:Int)).toNat]?=some nm:=hnm
 have hmod:=c7F nm (List.mem_of_getElem? hnm)
 unfold a1B
 simp only [a1,Option.bind_some,hi1,hi2,b1,c1,e3,d1,f1,g1]
 cases hz:(x8==1)
 ·refine ⟨_,rfl,hmod,by show ss.length<=10; omega,fun s hs=>b8p (f3 s hs),fun _ s hs=>(f3 s hs).call⟩
 ·simp only [cond_true]
  obtain ⟨x9,s9,p1,p2,p3,p4⟩:=J9 hL g2 (n:=4) (by omega) (by omega)
  obtain ⟨x10,s10,q1,q2,q3,q4⟩:=J9 hl (s:=Semtypebase_Source.mk l 0) ⟨rfl,Int.le_refl _,Int.natCast_nonneg _⟩ (n:=6) (by omega) (by omega)
  obtain ⟨m10,rfl⟩:∃ m:Nat,x10=(m:Int):=⟨x10.toNat,by omega⟩
  have e10:wr .i64 (1+(m10:Int))=((m10+1:Nat):Int):=by rw [Int.add_comm]; exact a9k (by omega)
  obtain ⟨ns,t,r1,r2,r3,r4⟩:=c2M hl q2 (m10+1) (by omega) (by omega)
  have hr:=b4S (a:=ss.length+([Api_Signature.mk (Api_Ref.mk (⟨#[122]⟩:ByteArray) x9) (Api_Type.mk ns 0)]:List Api_Signature).length) (b:=56) (by simp only [List.length_cons,List.length_nil]; omega) (by omega)
  simp only [p1,Option.bind_some,q1,e10,r1,hr]
  refine ⟨_,rfl,hmod,?_,fun s hs=>?_,fun h=>by cases h⟩
  ·show (ss++[_]).length<=10
   rw [List.length_append]
   simp only [List.length_cons,List.length_nil]
   omega
  ·rcases List.mem_append.1 hs with hs | hs
   ·exact b8p (f3 s hs)
   ·rw [List.mem_singleton.1 hs]
    exact ⟨⟨show (⟨#[122]⟩:ByteArray).size<=20 from by decide,show isI x9 from a1M p3 (by omega),c0A (by omega) r3 r4⟩,c6a⟩
end Go.Pl
end
section
namespace Go.Pl
open Go Go.RowKit Go.Sx Go.Qx
theorem c1Y (x y:ByteArray):∃ r,a2q x y=some r:=by
 unfold a2q a20
 simp only [Option.bind_some]
 generalize j7 x x=a
 generalize j7 y y=b
 generalize a2m x y=c
 generalize j7 x y=d
 cases a<;>cases b<;>cases c<;>cases d<;>exact ⟨_,rfl⟩
theorem c2q (x y:Int):∃ r,a0O x y=some r:=by
 unfold a0O a29
 simp only [Option.bind_some]
 cases (x != x)<;>cases (y != y)<;>cases decide (x<y)<;>cases decide (y<x)<;>exact ⟨_,rfl⟩
theorem c28 (a b:Int):∃ r,a8n [a,b]=some r:=by
 have h0:a2b [a,b] 0=(bif a != 0 then some (.done (.inr a)) else some (.next 1)):=by
  cases h:(a != 0)<;>simp [a2b,idx,h]<;>rfl
 have h1:a2b [a,b] 1=(bif b != 0 then some (.done (.inr b)) else some (.next 2)):=by
  cases h:(b != 0)<;>simp [a2b,idx,h]<;>rfl
 have h2:a2b [a,b] 2=some (.done (.inl ())):=rfl
 unfold a8n
 rw [show ((([a,b]:List Int).length:Int)).toNat+1=3 from rfl]
 simp only [z8,h0]
 cases (a != 0)
 ·simp only [cond_false,Option.bind_some,h1]
  cases (b != 0)
  ·simp only [cond_false,Option.bind_some,h2]
   exact ⟨_,rfl⟩
  ·exact ⟨_,rfl⟩
 ·exact ⟨_,rfl⟩
theorem b9b (a b:Api_Signature):∃ r,a3u a b=some r:=by
 obtain ⟨r1,h1⟩:=c1Y a.Ref.Name b.Ref.Name
 obtain ⟨r2,h2⟩:=c2q a.Ref.Arity b.Ref.Arity
 obtain ⟨r3,h3⟩:=c28 r1 r2
 unfold a3u
 simp only [h1,h2,Option.bind_some]
 rw [h3]
 exact ⟨_,rfl⟩
theorem c4O {t:Api_Type}(h:OkTy t):∃ r,J8 200000000 t=some r :=
 ⟨_,c57 t (fun x hx=>⟨by have:=(h.nodes x hx).kidl; omega,by have:=(h.nodes x hx).fldl; omega⟩) (by have:=h.len; omega) 200000000 (by have:=h.len; omega)⟩
theorem c0E {i:Api_Interface}(h:Mde i){j:Nat}(hj:j<i.Signatures.length):(∃ b,a1A i 200000000 (j:Int)=some (.done (.inr b)))\/a1A i 200000000 (j:Int)=some (.next ((j+1:Nat):Int)):=by
 have hs:=List.getElem_mem hj
 have hd:=h.sigs _ hs
 have hlen:=h.len
 obtain ⟨w,hw⟩:=c4O hd.ok.ty
 unfold a1A
 simp only [show decide ((j:Int)<(i.Signatures.length:Int))=true from decide_eq_true (by omega),cond_true,K1 (List.getElem?_eq_getElem hj),Option.bind_some,hd.named,Bool.not_true,cond_false,hw,a9k (show j<=2000000 by omega)]
 generalize hq:(bif decide (i.Signatures[j].Ref.Arity<0) then some true else some (decide (4<i.Signatures[j].Ref.Arity)))=q
 obtain ⟨b1,rfl⟩:∃ b1,q=some b1:=by
  rw [<- hq]
  cases decide (i.Signatures[j].Ref.Arity<0)
  ·exact ⟨_,rfl⟩
  ·exact ⟨_,rfl⟩
 simp only [Option.bind_some]
 generalize hq2:(bif b1 then some true else some (w != 0))=q2
 obtain ⟨b2,rfl⟩:∃ b2,q2=some b2:=by
  rw [<- hq2]
  cases b1
  ·exact ⟨_,rfl⟩
  ·exact ⟨_,rfl⟩
 simp only [Option.bind_some]
 cases b2
 ·simp only [cond_false]
  have hcall:∃ b,(bif !i.Checked then (Option.bind (a0Y 200000000 i.Signatures[j].Type_ i.Signatures[j].Ref.Arity) fun r13=>some (!r13)) else some false)=some b:=by
   cases hc:i.Checked
   ·obtain ⟨b,hb⟩:=h.call hc _ hs
    rw [hb]
    exact ⟨_,rfl⟩
   ·exact ⟨_,rfl⟩
  obtain ⟨b3,hb3⟩:=hcall
  rw [hb3]
  have hcmp:∃ b,(bif decide ((0:Int)<(j:Int)) then (Option.bind (idx i.Signatures (wr .i64 ((j:Int)-1))) fun e10=>Option.bind (a3u e10 i.Signatures[j]) fun r11=>some (decide (0<=r11))) else some false)=some b:=by
   by_cases h0:0<j
   ·rw [show decide ((0:Int)<(j:Int))=true from decide_eq_true (by omega),c5O h0 (by omega),K1 (List.getElem?_eq_getElem (show j-1<i.Signatures.length by omega))]
    obtain ⟨r,hr⟩:=b9b (i.Signatures[j-1]'(by omega)) i.Signatures[j]
    simp only [cond_true,Option.bind_some,hr]
    exact ⟨_,rfl⟩
   ·rw [show decide ((0:Int)<(j:Int))=false from decide_eq_false (by omega)]
    exact ⟨_,rfl⟩
  obtain ⟨b4,hb4⟩:=hcmp
  rw [hb4]
  cases b4
  ·cases b3
   ·exact .inr rfl
   ·exact .inl ⟨_,rfl⟩
  ·exact .inl ⟨_,rfl⟩
 ·exact .inl ⟨_,rfl⟩
theorem c0G {i:Api_Interface}(h:Mde i):∃ b,a1E 200000000 i=some b:=by
 have key:∀ (k j:Nat),j+k=i.Signatures.length->∃ r,z8 (a1A i 200000000) (k+1) (j:Int)=some r:=by
  intro k
  induction k with
  | zero =>
    intro j hj
    refine ⟨.inl (),?_⟩
    rw [z8]
    unfold a1A
    rw [show decide ((j:Int)<(i.Signatures.length:Int))=false from decide_eq_false (by omega)]
    rfl
  | succ k ih =>
    intro j hj
    rcases c0E h (show j<i.Signatures.length by omega) with ⟨b,hb⟩ | hb
    ·exact ⟨_,by rw [z8,hb]; rfl⟩
    ·obtain ⟨r,hr⟩:=ih (j+1) (by omega)
     exact ⟨r,by rw [z8,hb]; exact hr⟩
 obtain ⟨r,hr⟩:=key i.Signatures.length 0 (by omega)
 have hr':z8 (a1A i 200000000) ((i.Signatures.length:Int).toNat+1) 0=some r:=hr
 unfold a1E
 have hlen:=h.len
 simp only [h.mod.1,Option.bind_some,Bool.not_true,cond_false,show decide ((10:Int)<(i.Signatures.length:Int))=false from decide_eq_false (by omega),hr']
 cases r<;>exact ⟨_,rfl⟩
theorem b7m {i:Api_Interface}(h:Mde i):OkJ i:=⟨h.mod.2,fun s hs=>(h.sigs s hs).ok,h.len⟩
theorem b7C (l:List Int):(a2O l).size=l.length:=by
 show (List.map _ l).toArray.size=_
 simp
theorem b4b {i:Api_Interface}(h:Mde i):a1b 200000000 i=some ((⟨#[]⟩:ByteArray),1)\/(a1b 200000000 i=some (a0X (a2O (a0Q i)),0)/\a1E 200000000 i=some true):=by
 obtain ⟨b,hb⟩:=c0G h
 have hJ:=b7m h
 have hl:=b8r hJ
 unfold a1b
 rw [hb]
 cases b
 ·exact .inl rfl
 ·refine .inr ⟨?_,rfl⟩
  simp only [Option.bind_some,Bool.not_true,cond_false,c3n hJ,c0y (s:=a2O (a0Q i)) (by rw [b7C]; omega)]
end Go.Pl
end
section
namespace Go.Pl
open Go Go.RowKit Go.Sx Go.Qx
def Byt (l:List Int):Prop:=∀ x∈l,0<=x/\x<256
theorem Byt.app {a b:List Int}(h:Byt a)(k:Byt b):Byt (a++b):=fun x hx=>(List.mem_append.1 hx).elim (h x) (k x)
theorem b8I:∀ (f z:Nat),z<128^(f+1)->Byt (a15 f z)
 | 0,z,hz=>fun x hx=>by
   unfold a15 at hx
   rw [List.mem_singleton.1 hx]
   simp only [Nat.zero_add,Nat.pow_one] at hz
   exact ⟨by omega,by omega⟩
 | f+1,z,hz=>by
   unfold a15
   split
   ·intro x hx
    rw [List.mem_singleton.1 hx]
    exact ⟨by omega,by omega⟩
   ·intro x hx
    rcases List.mem_cons.1 hx with rfl | hx
    ·exact ⟨by omega,by omega⟩
    ·refine b8I f (z / 128) ?_ x hx
     rw [Nat.pow_succ] at hz
     exact Nat.div_lt_of_lt_mul (by rw [Nat.mul_comm]; exact hz)
theorem a1y {k:Int}(h:isI k):Byt (K5 k):=b8I 9 (zig k) (by
 have:=b3B h
 have h2:(18446744073709551616:Nat)<=128^(9+1):=by decide
 omega)
theorem c2Q (s:ByteArray):Byt (a3F s):=fun x hx=>by
 unfold a3F at hx
 obtain ⟨u,_,rfl⟩:=List.mem_map.1 hx
 have:=u.toNat_lt
 exact ⟨by omega,by omega⟩
theorem b2N {s:ByteArray}(h:OkT s):Byt (a5b s):=(a1y (a1M (by omega) (by have:s.size<=20:=h; omega))).app (c2Q s)
theorem b9J (b:Bool):Byt (b7y b):=by
 cases b
 ·intro x hx; rw [List.mem_singleton.1 hx]; exact ⟨by omega,by omega⟩
 ·intro x hx; rw [List.mem_singleton.1 hx]; exact ⟨by omega,by omega⟩
theorem b1Q {α:Type}{enc:α->List Int}{l:List α}(hl:l.length<=1000)(h:∀ x∈l,Byt (enc x)):Byt (a01 enc l):=(a1y (a1M (by omega) (by omega))).app fun x hx=>by
 obtain ⟨y,hy,hx⟩:=List.mem_flatMap.1 hx
 exact h y hy x hx
theorem c2X {f:Api_Field}(h:OkF f):Byt (a4r f):=(a1y h.1).app ((b2N h.2.1).app ((a1y h.2.2).app (b9J _)))
theorem c3C {x:Api_TypeNode}(h:OkN x):Byt (a4y x) :=
 (a1y h.kind).app ((a1y h.lo).app ((a1y h.hi).app ((b2N h.text).app ((b1Q (by have:=h.kidl; omega) fun k hk=>a1y (h.kids k hk)).app ((b1Q (by have:=h.fldl; omega) fun f hf=>c2X (h.flds f hf)).app ((a1y h.r1).app (a1y h.r2)))))))
theorem c2i {t:Api_Type}(h:OkTy t):Byt (a7W t):=(b1Q (by have:=h.len; omega) fun x hx=>c3C (h.nodes x hx)).app (a1y h.root)
theorem c2E {s:Api_Signature}(h:OkS s):Byt (a4x s):=(b2N h.name).app ((a1y h.ar).app (c2i h.ty))
theorem c1S {i:Api_Interface}(h:OkJ i):Byt (a0Q i):=(b2N h.mod).app ((b9J _).app (b1Q (by have:=h.len; omega) fun s hs=>c2E (h.sigs s hs)))
theorem a8m (s:ByteArray):j7 s s=true:=by simp [j7]
theorem b9S {s:ByteArray}(hs:s.size<=900000):a44 (a0X s)=some (s,0):=by
 have hz:=b91 s
 unfold a44
 rw [c6p (by omega),hz]
 have h0:decide (((s.size+4:Nat):Int)<4)=false:=decide_eq_false (by omega)
 have h2:((s.size+4:Nat):Int)-4=(s.size:Int):=by omega
 have he:(a0X s).extract 0 s.size=s:=by
  unfold a0X
  apply ByteArray.ext
  rw [ByteArray.data_extract,ByteArray.data_append]
  show ((s.data++(a2O (c1n (a4X s))).data).extract 0 s.data.size)=s.data
  simp
 rw [h0,h2,c5e (by omega),he]
 simp only [cond_false,Option.bind_some,c0y (s:=s) (by omega),a8m,Bool.not_true]
theorem a97 {i:Api_Interface}(h:OkJ i)(hv:a1E 200000000 i=some true):a1Q 200000000 (a0X (a2O (a0Q i)))=some (i,0):=by
 have hl:=b8r h
 have hsz:=b7C (a0Q i)
 have hI:=c2b (c1S h)
 have hp:Pos (a2O (a0Q i)) 0 (a0Q i):=⟨Nat.zero_le _,[],by rw [List.drop_zero,hI,List.append_nil]⟩
 have hf:=c4S (s:=a2O (a0Q i)) (by omega) h hp
 unfold a1Q
 rw [b9S (by omega)]
 simp only [Option.bind_some,bne_self_eq_false,cond_false]
 rw [hf]
 simp only [Option.bind_some]
 unfold a3e
 simp only [hsz,show decide ((((a0Q i).length:Nat):Int)<(((a0Q i).length:Nat):Int))=false from decide_eq_false (by omega),cond_false,Option.bind_some,bne_self_eq_false,hv,Bool.not_true]
theorem b9T:∃ j,a1Q 200000000 (⟨#[]⟩:ByteArray)=some (j,26):=⟨_,rfl⟩
theorem c1G {i k:Api_Interface}(hi:OkJ i)(hk:OkJ k)(vi:a1E 200000000 i=some true)(vk:a1E 200000000 k=some true)(h:a0X (a2O (a0Q i))=a0X (a2O (a0Q k))):i=k:=by
 have h1:=a97 hi vi
 rw [h,a97 hk vk] at h1
 have:=Option.some.inj h1
 exact (congrArg (·.1) this).symm
end Go.Pl
end
section
namespace Go.Pl
open Go Go.RowKit Go.Sx Go.Qx
theorem a6j {a b:ByteArray}:j7 a b=true↔a=b:=by
 constructor
 ·intro h
  rw [j7,ByteArray.toList_eq,ByteArray.toList_eq] at h
  exact ByteArray.ext (Array.toList_inj.1 (eq_of_beq h))
 ·rintro rfl
  exact a8m _
theorem b0a {α:Type}{step:Int->Option (Fl Int (Sum Unit Bool))}(a b:List α)(hl:a.length=b.length)
 (hstep:∀ (j:Nat) (x y:α),a[j]?=some x->b[j]?=some y->(step (j:Int)=some (.next ((j+1:Nat):Int))/\x=y)\/(step (j:Int)=some (.done (.inr false))/\x≠y))
 (hend:step ((a.length:Nat):Int)=some (.done (.inl ()))) :
 (z8 step ((a.length:Int).toNat+1) 0=some (.inl ())/\a=b)\/(z8 step ((a.length:Int).toNat+1) 0=some (.inr false)/\a≠b):=by
 have key:∀ (k j:Nat),j+k=a.length->(z8 step (k+1) (j:Int)=some (.inl ())/\a.drop j=b.drop j)\/(z8 step (k+1) (j:Int)=some (.inr false)/\a.drop j≠b.drop j):=by
  intro k
  induction k with
  | zero =>
    intro j hj
    have e:j=a.length:=by omega
    subst e
    refine .inl ⟨by rw [z8,hend]; rfl,?_⟩
    rw [List.drop_length,hl,List.drop_length]
  | succ k ih =>
    intro j hj
    have h1:j<a.length:=by omega
    have h2:j<b.length:=by omega
    rw [List.drop_eq_getElem_cons h1,List.drop_eq_getElem_cons h2]
    rcases hstep j a[j] b[j] (List.getElem?_eq_getElem h1) (List.getElem?_eq_getElem h2) with ⟨hs,he⟩ | ⟨hs,he⟩
    ·rcases ih (j+1) (by omega) with ⟨k1,k2⟩ | ⟨k1,k2⟩
     ·exact .inl ⟨by rw [z8,hs]; exact k1,by rw [he,k2]⟩
     ·exact .inr ⟨by rw [z8,hs]; exact k1,fun h=>k2 (List.cons.inj h).2⟩
    ·exact .inr ⟨by rw [z8,hs]; rfl,fun h=>he (List.cons.inj h).1⟩
 have:=key a.length 0 (by omega)
 simpa using this
theorem c2p {x y:Api_TypeNode}(hl:x.Kids.length=y.Kids.length)(hs:x.Kids.length<=1000) :
 (z8 (X3 x y) ((x.Kids.length:Int).toNat+1) 0=some (.inl ())/\x.Kids=y.Kids)\/(z8 (X3 x y) ((x.Kids.length:Int).toNat+1) 0=some (.inr false)/\x.Kids≠y.Kids):=by
 refine b0a x.Kids y.Kids hl (fun j a b ha hb=>?_) ?_
 ·have hj:=(List.getElem?_eq_some_iff.1 ha).1
  unfold X3
  simp only [show decide ((j:Int)<(x.Kids.length:Int))=true from decide_eq_true (by omega),cond_true,K1 ha,K1 hb,Option.bind_some,a9k (show j<=2000000 by omega)]
  by_cases h:a=b
  ·subst h
   exact .inl ⟨by simp,rfl⟩
  ·exact .inr ⟨by rw [show (a != b)=true by simpa using h]; rfl,h⟩
 ·unfold X3
  rw [show decide ((x.Kids.length:Int)<(x.Kids.length:Int))=false from decide_eq_false (by omega)]
  rfl
theorem c2k {a b:Api_Field}:a5S a b=true↔a=b:=by
 obtain ⟨⟨k,t⟩,n,o⟩:=a
 obtain ⟨⟨k',t'⟩,n',o'⟩:=b
 unfold a5S
 simp only [Bool.and_eq_true,beq_iff_eq,a6j,and_true,Api_Field.mk.injEq,Key.mk.injEq]
theorem c2a {x y:Api_TypeNode}(hl:x.Fields.length=y.Fields.length)(hs:x.Fields.length<=1000) :
 (z8 (X2 x y) ((x.Fields.length:Int).toNat+1) 0=some (.inl ())/\x.Fields=y.Fields)\/(z8 (X2 x y) ((x.Fields.length:Int).toNat+1) 0=some (.inr false)/\x.Fields≠y.Fields):=by
 refine b0a x.Fields y.Fields hl (fun j a b ha hb=>?_) ?_
 ·have hj:=(List.getElem?_eq_some_iff.1 ha).1
  unfold X2
  simp only [show decide ((j:Int)<(x.Fields.length:Int))=true from decide_eq_true (by omega),cond_true,K1 ha,K1 hb,Option.bind_some,a9k (show j<=2000000 by omega)]
  cases h:a5S a b
  ·exact .inr ⟨rfl,fun e=>by rw [c2k.2 e] at h; cases h⟩
  ·exact .inl ⟨rfl,c2k.1 h⟩
 ·unfold X2
  rw [show decide ((x.Fields.length:Int)<(x.Fields.length:Int))=false from decide_eq_false (by omega)]
  rfl
theorem c5w {γ:Type}(a b c d e f g:Bool)(K:Bool->Option γ):(Option.bind (bif a then some true else some b) fun q5=>Option.bind (bif q5 then some true else some c) fun q6=>Option.bind (bif q6 then some true else some d) fun q7=>Option.bind (bif q7 then some true else some e) fun q8 =>
 Option.bind (bif q8 then some true else some f) fun q9=>Option.bind (bif q9 then some true else some g) fun q10=>K q10)=K (a||(b||(c||(d||(e||(f||g)))))):=by
 cases a<;>cases b<;>cases c<;>cases d<;>cases e<;>cases f<;>cases g<;>rfl
theorem c0d {a b:Int×Int}:a3v a b=true↔a=b:=by
 obtain ⟨p,q⟩:=a
 obtain ⟨p',q'⟩:=b
 unfold a3v
 simp only [Bool.and_eq_true,beq_iff_eq,and_true,Prod.mk.injEq]
theorem c1f {d t:Api_Type}{j:Nat}{x y:Api_TypeNode}(hx:d.Nodes[j]?=some x)(hy:t.Nodes[j]?=some y)(hd:d.Nodes.length<=1000)(hk:x.Kids.length<=1000)(hf:x.Fields.length<=1000) :
 (K8 d t (j:Int)=some (.next ((j+1:Nat):Int))/\x=y)\/(K8 d t (j:Int)=some (.done (.inr false))/\x≠y):=by
 have hj:=(List.getElem?_eq_some_iff.1 hx).1
 unfold K8
 simp only [show decide ((j:Int)<(d.Nodes.length:Int))=true from decide_eq_true (by omega),cond_true,K1 hx,K1 hy,Option.bind_some,a9k (show j<=2000000 by omega)]
 rw [c5w]
 generalize hq:(x.Kind != y.Kind||(x.Lo != y.Lo||(x.Hi != y.Hi||(!j7 x.Text y.Text||(!a3v x.Rest y.Rest||((x.Kids.length:Int) != (y.Kids.length:Int)||(x.Fields.length:Int) != (y.Fields.length:Int)))))))=q
 cases q
 ·simp only [Bool.or_eq_false_iff,bne_eq_false_iff_eq,Bool.not_eq_false',a6j,c0d] at hq
  obtain ⟨h1,h2,h3,h4,h5,h6,h7⟩:=hq
  simp only [cond_false]
  rcases c2p (x:=x) (y:=y) (by omega) hk with ⟨k1,k2⟩ | ⟨k1,k2⟩
  ·rw [k1]
   simp only [Option.bind_some,Q3]
   rcases c2a (x:=x) (y:=y) (by omega) hf with ⟨f1,f2⟩ | ⟨f1,f2⟩
   ·rw [f1]
    refine .inl ⟨rfl,?_⟩
    obtain ⟨a1,a2,a3,a4,a5,a6,a7⟩:=x
    obtain ⟨b1,b2,b3,b4,b5,b6,b7⟩:=y
    simp only at h1 h2 h3 h4 h5 k2 f2
    rw [h1,h2,h3,h4,h5,k2,f2]
   ·rw [f1]
    exact .inr ⟨rfl,fun e=>f2 (by rw [e])⟩
  ·rw [k1]
   exact .inr ⟨rfl,fun e=>k2 (by rw [e])⟩
 ·refine .inr ⟨rfl,fun e=>?_⟩
  subst e
  simp only [bne_self_eq_false,a8m,Bool.not_true,Bool.false_or,Bool.or_false] at hq
  rw [c0d.2 rfl] at hq
  cases hq
theorem c2v {d t:Api_Type}(hd:OkTy d):∃ r,a1l d t=some r/\(r=true↔d=t):=by
 have hl:=hd.len
 unfold a1l
 by_cases h1:d.Nodes.length=t.Nodes.length
 ·by_cases h2:d.Root=t.Root
  ·have e1:((d.Nodes.length:Int) != (t.Nodes.length:Int))=false:=by rw [h1]; simp
   have e2:(d.Root != t.Root)=false:=by rw [h2]; simp
   simp only [e1,e2,cond_false,Option.bind_some]
   rcases b0a (step:=K8 d t) d.Nodes t.Nodes h1 (fun j x y hx hy=>c1f hx hy (by omega) (by have:=(hd.nodes x (List.mem_of_getElem? hx)).kidl; omega) (by have:=(hd.nodes x (List.mem_of_getElem? hx)).fldl; omega)) (by
    unfold K8
    rw [show decide ((d.Nodes.length:Int)<(d.Nodes.length:Int))=false from decide_eq_false (by omega)]
    rfl) with ⟨k1,k2⟩ | ⟨k1,k2⟩
   ·rw [k1]
    refine ⟨true,rfl,fun _=>?_,fun _=>rfl⟩
    obtain ⟨a,b⟩:=d
    obtain ⟨a',b'⟩:=t
    simp only at k2 h2
    rw [k2,h2]
   ·rw [k1]
    exact ⟨false,rfl,fun h=>(by cases h),fun e=>absurd (by rw [e]) k2⟩
  ·have e2:(d.Root != t.Root)=true:=by simpa using h2
   have e1:((d.Nodes.length:Int) != (t.Nodes.length:Int))=false:=by rw [h1]; simp
   simp only [e1,e2,cond_false,Option.bind_some,cond_true]
   exact ⟨false,rfl,fun h=>(by cases h),fun e=>absurd (by rw [e]) h2⟩
 ·have e1:((d.Nodes.length:Int) != (t.Nodes.length:Int))=true:=by
   have:(d.Nodes.length:Int)≠(t.Nodes.length:Int):=by omega
   simpa using this
  simp only [e1,cond_true,Option.bind_some]
  exact ⟨false,rfl,fun h=>(by cases h),fun e=>absurd (by rw [e]) h1⟩
theorem c1Q {a b:Api_Ref}:a23 a b=true↔a=b:=by
 obtain ⟨p,q⟩:=a
 obtain ⟨p',q'⟩:=b
 unfold a23
 simp only [Bool.and_eq_true,beq_iff_eq,a6j,and_true,Api_Ref.mk.injEq]
theorem c2W {a b:List Api_Signature}{j:Nat}{x y:Api_Signature}(hx:a[j]?=some x)(hy:b[j]?=some y)(ha:a.length<=1000)(ho:OkS x) :
 (V8 a b (j:Int)=some (.next ((j+1:Nat):Int))/\x=y)\/(V8 a b (j:Int)=some (.done (.inr false))/\x≠y):=by
 have hj:=(List.getElem?_eq_some_iff.1 hx).1
 obtain ⟨r,h1,h2⟩:=c2v (t:=y.Type_) ho.ty
 unfold V8
 simp only [show decide ((j:Int)<(a.length:Int))=true from decide_eq_true (by omega),cond_true,K1 hx,K1 hy,Option.bind_some,a9k (show j<=2000000 by omega),h1]
 cases hr:a23 x.Ref y.Ref
 ·exact .inr ⟨rfl,fun e=>by rw [c1Q.2 (by rw [e])] at hr; cases hr⟩
 ·cases r
  ·exact .inr ⟨rfl,fun e=>absurd (h2.2 (by rw [e])) (by simp)⟩
  ·refine .inl ⟨rfl,?_⟩
   obtain ⟨a1,a2⟩:=x
   obtain ⟨b1,b2⟩:=y
   have e1:=c1Q.1 hr
   have e2:=h2.1 rfl
   simp only at e1 e2
   rw [e1,e2]
theorem b9A {i k:Api_Interface}(hi:OkJ i):∃ r,a1m i k=some r/\(r=true↔i=k):=by
 have hlen:=hi.len
 have hall:∃ r,a1o i.Signatures k.Signatures=some r/\(r=true↔i.Signatures=k.Signatures):=by
  unfold a1o
  by_cases h1:i.Signatures.length=k.Signatures.length
  ·have e1:((i.Signatures.length:Int) != (k.Signatures.length:Int))=false:=by rw [h1]; simp
   simp only [e1,cond_false]
   rcases b0a (step:=V8 i.Signatures k.Signatures) i.Signatures k.Signatures h1 (fun j x y hx hy=>c2W hx hy (by omega) (hi.sigs x (List.mem_of_getElem? hx))) (by
    unfold V8
    rw [show decide ((i.Signatures.length:Int)<(i.Signatures.length:Int))=false from decide_eq_false (by omega)]
    rfl) with ⟨k1,k2⟩ | ⟨k1,k2⟩
   ·rw [k1]
    exact ⟨true,rfl,fun _=>k2,fun _=>rfl⟩
   ·rw [k1]
    exact ⟨false,rfl,fun h=>(by cases h),fun e=>absurd e k2⟩
  ·have e1:((i.Signatures.length:Int) != (k.Signatures.length:Int))=true:=by
    have:(i.Signatures.length:Int)≠(k.Signatures.length:Int):=by omega
    simpa using this
   simp only [e1,cond_true]
   exact ⟨false,rfl,fun h=>(by cases h),fun e=>absurd (by rw [e]) h1⟩
 obtain ⟨r,h1,h2⟩:=hall
 unfold a1m
 rw [h1]
 cases hm:j7 i.Module k.Module
 ·exact ⟨false,rfl,fun h=>(by cases h),fun e=>by rw [a6j.2 (by rw [e])] at hm; cases hm⟩
 ·by_cases hc:i.Checked=k.Checked
  ·have e1:(i.Checked==k.Checked)=true:=by rw [hc]; simp
   simp only [e1,cond_true,Option.bind_some]
   refine ⟨r,rfl,fun h=>?_,fun e=>h2.2 (by rw [e])⟩
   obtain ⟨a1,a2,a3⟩:=i
   obtain ⟨b1,b2,b3⟩:=k
   have e1:=a6j.1 hm
   have e2:=h2.1 h
   simp only at e1 e2 hc
   rw [e1,e2,hc]
  ·have e1:(i.Checked==k.Checked)=false:=by simpa using hc
   simp only [e1,cond_true,cond_false,Option.bind_some]
   exact ⟨false,rfl,fun h=>(by cases h),fun e=>absurd (by rw [e]) hc⟩
end Go.Pl
end
section
namespace Go.Pl
open Go Go.RowKit Go.Sx Go.Qx
def b1s (_:Int):Nat:=1
def a3G (l:List Int):Nat:=(l.map b1s).sum+1
theorem c0k {α:Type}(b:α->Nat)(h:∀ x,1<=b x):∀ l:List α,l.length<=(l.map b).sum
 | []=>Nat.zero_le _
 | y::l=>by
   have h1:=h y
   have h2:=c0k b h l
   rw [List.map_cons,List.sum_cons,List.length_cons]
   omega
end Go.Pl
end
section
namespace Go.Pl
open Go Go.RowKit Go.Sx Go.Qx
theorem c4P:a3t 200000000=some true:=by decide +kernel
theorem c2n:∀ l:List Int,l.length<=a3G l:=fun l=>by
 unfold a3G
 have:=c0k b1s (fun _=>Nat.le_refl _) l
 omega
theorem b6M (l m:List Int)(hl:a3G l<=1048576)(hm:a3G m<=1048576):∃ n,a0I n l m=some true:=by
 refine ⟨200000000,?_⟩
 obtain ⟨i,h1,h2⟩:=c0w l (by have:=c2n l; omega)
 obtain ⟨k,h3,h4⟩:=c0w m (by have:=c2n m; omega)
 have hi:=b7m h2
 have hk:=b7m h4
 unfold a0I
 rw [h1,h3,c4P]
 simp only [Option.bind_some]
 rcases b4b h2 with he | ⟨he,vi⟩
 ·rw [he]
  simp only [Option.bind_some]
  obtain ⟨j,hj⟩:=b9T
  rcases b4b h4 with hf | ⟨hf,_⟩
  ·rw [hf]
   simp only [Option.bind_some,hj]
   rfl
  ·rw [hf]
   simp only [Option.bind_some,hj]
   rfl
 ·rw [he]
  obtain ⟨r,q1,q2⟩:=b9A (k:=i) hi
  have hr:r=true:=q2.2 rfl
  subst hr
  rcases b4b h4 with hf | ⟨hf,vk⟩
  ·rw [hf]
   simp only [Option.bind_some,a97 hi vi,bne_self_eq_false,cond_false,beq_self_eq_true,cond_true,q1]
   rfl
  ·rw [hf]
   obtain ⟨r,p1,p2⟩:=b9A (k:=k) hi
   have hs:(j7 (a0X (a2O (a0Q i))) (a0X (a2O (a0Q k)))==r)=true:=by
    cases r
    ·cases hb:j7 (a0X (a2O (a0Q i))) (a0X (a2O (a0Q k)))
     ·rfl
     ·have:=p2.2 (c1G hi hk vi vk (a6j.1 hb))
      cases this
    ·rw [p2.1 rfl,a8m]
     rfl
   simp only [Option.bind_some,a97 hi vi,bne_self_eq_false,cond_false,beq_self_eq_true,cond_true,q1,p1,hs]
end Go.Pl
end
section
namespace Go.Proofs
open Go.Shelf
set_option maxRecDepth 100000
def Tryz.lay110_ren:Go.Shelf.Ren:=⟨fun | 190=>110 | 125=>141 | 258=>140 | 128=>163 | 129=>164 | 302=>154 | 303=>155 | 304=>156 | 305=>157 | 306=>158 | 307=>159 | 308=>160 | 309=>161 | 310=>162 | 333=>173 | 329=>174 | 330=>175 | 334=>176 | 335=>177 | 336=>82 | 344=>185 | n=>n,fun | 31=>41 | 9=>9 | 3=>3 | 46=>35 | 0=>0 | 51=>71 | 53=>143 | 4=>4 | 183=>197 | 182=>196 | 131=>181 | 5=>5 | 218=>206 | 222=>210 | 228=>219 | 229=>220 | n=>n,fun | n=>n⟩
theorem Tryz.lay110:Go.Proofs.Lays.n190 Tryz.prog Tryz.lay110_ren:={
 mixed:=by kernel_rfl
 f125:=Tryz.func141.trans (congrArg some (by kernel_rfl))
 f128:=Tryz.func163.trans (congrArg some (by kernel_rfl))
 f129:=Tryz.func164.trans (congrArg some (by kernel_rfl))
 f190:=Tryz.func110.trans (congrArg some (by kernel_rfl))
 f258:=Tryz.func140.trans (congrArg some (by kernel_rfl))
 f302:=Tryz.func154.trans (congrArg some (by kernel_rfl))
 f303:=Tryz.func155.trans (congrArg some (by kernel_rfl))
 f304:=Tryz.func156.trans (congrArg some (by kernel_rfl))
 f305:=Tryz.func157.trans (congrArg some (by kernel_rfl))
 f306:=Tryz.func158.trans (congrArg some (by kernel_rfl))
 f307:=Tryz.func159.trans (congrArg some (by kernel_rfl))
 f308:=Tryz.func160.trans (congrArg some (by kernel_rfl))
 f309:=Tryz.func161.trans (congrArg some (by kernel_rfl))
 f310:=Tryz.func162.trans (congrArg some (by kernel_rfl))
 f329:=Tryz.func174.trans (congrArg some (by kernel_rfl))
 f330:=Tryz.func175.trans (congrArg some (by kernel_rfl))
 f333:=Tryz.func173.trans (congrArg some (by kernel_rfl))
 f334:=Tryz.func176.trans (congrArg some (by kernel_rfl))
 f335:=Tryz.func177.trans (congrArg some (by kernel_rfl))
 f336:=Tryz.func82.trans (congrArg some (by kernel_rfl))
 f344:=Tryz.func185.trans (congrArg some (by kernel_rfl))
 t0:=Tryz.underlying0
 a0:=Tryz.isAgg0
 z0:=Tryz.sizeOf0
 v0:=Tryz.zeroValue0
 t3:=Tryz.underlying3
 a3:=Tryz.isAgg3
 z3:=Tryz.sizeOf3
 v3:=Tryz.zeroValue3
 t4:=Tryz.underlying4
 a4:=Tryz.isAgg4
 z4:=Tryz.sizeOf4
 v4:=Tryz.zeroValue4
 t5:=Tryz.underlying5
 a5:=Tryz.isAgg5
 z5:=Tryz.sizeOf5
 v5:=Tryz.zeroValue5
 t9:=Tryz.underlying9
 a9:=Tryz.isAgg9
 z9:=Tryz.sizeOf9
 v9:=Tryz.zeroValue9
 t31:=Tryz.underlying41
 a31:=Tryz.isAgg41
 z31:=Tryz.sizeOf41
 v31:=Tryz.zeroValue41
 t46:=Tryz.underlying35
 a46:=Tryz.isAgg35
 z46:=Tryz.sizeOf35
 v46:=Tryz.zeroValue35
 t51:=Tryz.underlying71
 a51:=Tryz.isAgg71
 z51:=Tryz.sizeOf71
 v51:=Tryz.zeroValue71
 t53:=Tryz.underlying143
 a53:=Tryz.isAgg143
 z53:=Tryz.sizeOf143
 v53:=Tryz.zeroValue143
 t131:=Tryz.underlying181
 a131:=Tryz.isAgg181
 z131:=Tryz.sizeOf181
 v131:=Tryz.zeroValue181
 t182:=Tryz.underlying196
 a182:=Tryz.isAgg196
 z182:=Tryz.sizeOf196
 v182:=Tryz.zeroValue196
 t183:=Tryz.underlying197
 a183:=Tryz.isAgg197
 z183:=Tryz.sizeOf197
 v183:=Tryz.zeroValue197
 t218:=Tryz.underlying206
 a218:=Tryz.isAgg206
 z218:=Tryz.sizeOf206
 v218:=Tryz.zeroValue206
 t222:=Tryz.underlying210
 a222:=Tryz.isAgg210
 z222:=Tryz.sizeOf210
 v222:=Tryz.zeroValue210
 t228:=Tryz.underlying219
 a228:=Tryz.isAgg219
 z228:=Tryz.sizeOf219
 v228:=Tryz.zeroValue219
 t229:=Tryz.underlying220
 a229:=Tryz.isAgg220
 z229:=Tryz.sizeOf220
 v229:=Tryz.zeroValue220 }
end Go.Proofs
end
section
namespace Go.Qx
open Go Go.RowKit Go.Sx
set_option maxRecDepth 100000
abbrev b6w (v:Api_Ref):ByteArray×Int:=(v.Name,v.Arity)
abbrev c09 (x:ByteArray×Int):Api_Ref:=⟨x.1,x.2⟩
@[reducible] def a5m:Rp Api_Ref:=a4l b6w (Q4 (rpStr) (rpK .i64))
abbrev b3w (v:Api_Field):Key×Int×Bool:=(v.Key_,v.Node,v.Optional)
abbrev b9o (x:Key×Int×Bool):Api_Field:=⟨x.1,x.2.1,x.2.2⟩
@[reducible] def a2G:Rp Api_Field:=a4l b3w (Q4 (rpKey) (Q4 (rpK .i64) (rpBool)))
abbrev b0b (v:Api_TypeNode):Int×Int×Int×ByteArray×(List Int)×(List Api_Field)×(Int×Int):=(v.Kind,v.Lo,v.Hi,v.Text,v.Kids,v.Fields,v.Rest)
abbrev b6P (x:Int×Int×Int×ByteArray×(List Int)×(List Api_Field)×(Int×Int)):Api_TypeNode:=⟨x.1,x.2.1,x.2.2.1,x.2.2.2.1,x.2.2.2.2.1,x.2.2.2.2.2.1,x.2.2.2.2.2.2⟩
@[reducible] def a1s:Rp Api_TypeNode:=a4l b0b (Q4 (rpK .i64) (Q4 (rpK .i64) (Q4 (rpK .i64) (Q4 (rpStr) (Q4 (@rpList _ (rpK .i64)) (Q4 (@rpList _ (a2G)) (Q4 (rpK .i64) (rpK .i64))))))))
abbrev b5i (v:Api_Type):(List Api_TypeNode)×Int:=(v.Nodes,v.Root)
abbrev b9Z (x:(List Api_TypeNode)×Int):Api_Type:=⟨x.1,x.2⟩
@[reducible] def a0D:Rp Api_Type:=a4l b5i (Q4 (@rpList _ (a1s)) (rpK .i64))
abbrev a8P (v:Api_Signature):Api_Ref×Api_Type:=(v.Ref,v.Type_)
abbrev b5M (x:Api_Ref×Api_Type):Api_Signature:=⟨x.1,x.2⟩
@[reducible] def a1c:Rp Api_Signature:=a4l a8P (Q4 (a5m) (a0D))
abbrev a9m (v:Api_Interface):ByteArray×Bool×(List Api_Signature):=(v.Module,v.Checked,v.Signatures)
abbrev b5O (x:ByteArray×Bool×(List Api_Signature)):Api_Interface:=⟨x.1,x.2.1,x.2.2⟩
@[reducible] def a4A:Rp Api_Interface:=a4l a9m (Q4 (rpStr) (Q4 (rpBool) (@rpList _ (a1c))))
abbrev a4J (v:Semtypebase_Source):(List Int)×Int:=(v.L,v.At)
abbrev b1h (x:(List Int)×Int):Semtypebase_Source:=⟨x.1,x.2⟩
@[reducible] def a2K:Rp Semtypebase_Source:=a4l a4J (Q4 (@rpList _ (rpK .i64)) (rpK .i64))
abbrev a7V (v:Summary_writer):(List Int):=v.b
abbrev b4T (x:(List Int)):Summary_writer:=⟨x⟩
@[reducible] def a38:Rp Summary_writer:=a4l a7V (@rpList _ (rpK .u8))
abbrev a7R (v:Summary_reader):ByteArray×Int×Int:=(v.s,v.at_,v.code)
abbrev b44 (x:ByteArray×Int×Int):Summary_reader:=⟨x.1,x.2.1,x.2.2⟩
@[reducible] def a30:Rp Summary_reader:=a4l a7R (Q4 (rpStr) (Q4 (rpK .i64) (rpK .i64)))
abbrev a4L (v:Semtypeprog_Callee):ByteArray×ByteArray×(List Int)×Int:=(v.Module,v.Name,v.Params,v.Result)
abbrev b0U (x:ByteArray×ByteArray×(List Int)×Int):Semtypeprog_Callee:=⟨x.1,x.2.1,x.2.2.1,x.2.2.2⟩
@[reducible] def a2P:Rp Semtypeprog_Callee:=a4l a4L (Q4 (rpStr) (Q4 (rpStr) (Q4 (@rpList _ (rpK .i64)) (rpK .i64))))
abbrev b4i (v:Api_Arrow):(List Api_Type)×Api_Type:=(v.Params,v.Result)
abbrev b80 (x:(List Api_Type)×Api_Type):Api_Arrow:=⟨x.1,x.2⟩
@[reducible] def a82:Rp Api_Arrow:=a4l b4i (Q4 (@rpList _ (a0D)) (a0D))
abbrev a4O (v:Semtyperef18_token):Int×ByteArray:=(v.Kind,v.Text)
abbrev b1o (x:Int×ByteArray):Semtyperef18_token:=⟨x.1,x.2⟩
@[reducible] def a2H:Rp Semtyperef18_token:=a4l a4O (Q4 (rpK .i64) (rpStr))
def tyL:List TE:=[⟨2,Int,rpK .i64⟩,
 ⟨3,Int,rpK .i64⟩,
 ⟨4,Bool,rpBool⟩,
 ⟨5,Int,rpK .u8⟩,
 ⟨9,ByteArray,rpStr⟩,
 ⟨22,List Int,@rpList _ (rpK .i64)⟩,
 ⟨23,List Api_Signature,@rpList _ (a1c)⟩,
 ⟨25,Api_Interface,a4A⟩,
 ⟨27,Int,rpK .i64⟩,
 ⟨36,List Int,@rpList _ (rpK .u8)⟩,
 ⟨49,Semtypebase_Source,a2K⟩,
 ⟨51,Api_Ref,a5m⟩,
 ⟨52,List Api_TypeNode,@rpList _ (a1s)⟩,
 ⟨54,Api_Type,a0D⟩,
 ⟨57,Api_Signature,a1c⟩,
 ⟨61,Summary_writer,a38⟩,
 ⟨67,Summary_reader,a30⟩,
 ⟨75,Semtypeprog_Callee,a2P⟩,
 ⟨78,List Api_Field,@rpList _ (a2G)⟩,
 ⟨79,Int×Int,Q4 (rpK .i64) (rpK .i64)⟩,
 ⟨81,Api_TypeNode,a1s⟩,
 ⟨100,Key,rpKey⟩,
 ⟨102,Api_Field,a2G⟩,
 ⟨115,List Api_Type,@rpList _ (a0D)⟩,
 ⟨117,Api_Arrow,a82⟩,
 ⟨174,Semtyperef18_token,a2H⟩,
 ⟨290,Bool×Bool,Q4 (rpBool) (rpBool)⟩]
abbrev I (E:TypeId):Type:=(c0T tyL E).α
instance rI (E:TypeId):Rp (I E):=(c0T tyL E).rp
def b5I:Fd I (I 25) inferInstance:=(a3K (rg:=a4A) (X4 (a7Y:Fd I ByteArray (rpStr)) (X4 (b3q:Fd I Bool (rpBool)) ((a5i 57:Fd I (List Api_Signature) (@rpList _ (a1c)))))) a9m b5O (fun _=>rfl) (fun _ _ _=>Iff.rfl):Fd I Api_Interface a4A)
def b1r:Fd I (I 49) inferInstance:=(a3K (rg:=a2K) (X4 (a5i 3:Fd I (List Int) (@rpList _ (rpK .i64))) ((a11 .i64:Fd I Int (rpK .i64)))) a4J b1h (fun _=>rfl) (fun _ _ _=>Iff.rfl):Fd I Semtypebase_Source a2K)
def b6h:Fd I (I 51) inferInstance:=(a3K (rg:=a5m) (X4 (a7Y:Fd I ByteArray (rpStr)) ((a11 .i64:Fd I Int (rpK .i64)))) b6w c09 (fun _=>rfl) (fun _ _ _=>Iff.rfl):Fd I Api_Ref a5m)
def b0M:Fd I (I 54) inferInstance:=(a3K (rg:=a0D) (X4 (a5i 81:Fd I (List Api_TypeNode) (@rpList _ (a1s))) ((a11 .i64:Fd I Int (rpK .i64)))) b5i b9Z (fun _=>rfl) (fun _ _ _=>Iff.rfl):Fd I Api_Type a0D)
def b5D:Fd I (I 57) inferInstance:=(a3K (rg:=a1c) (X4 (b6e 51 b6h:Fd I Api_Ref (a5m)) ((b6e 54 b0M:Fd I Api_Type (a0D)))) a8P b5M (fun _=>rfl) (fun _ _ _=>Iff.rfl):Fd I Api_Signature a1c)
def b4X:Fd I (I 61) inferInstance:=(a3K (rg:=a38) ((a5i 5:Fd I (List Int) (@rpList _ (rpK .u8)))) a7V b4T (fun _=>rfl) (fun _ _ _=>Iff.rfl):Fd I Summary_writer a38)
def b4U:Fd I (I 67) inferInstance:=(a3K (rg:=a30) (X4 (a7Y:Fd I ByteArray (rpStr)) (X4 (a11 .i64:Fd I Int (rpK .i64)) ((a11 .i64:Fd I Int (rpK .i64))))) a7R b44 (fun _=>rfl) (fun _ _ _=>Iff.rfl):Fd I Summary_reader a30)
def b0Y:Fd I (I 75) inferInstance:=(a3K (rg:=a2P) (X4 (a7Y:Fd I ByteArray (rpStr)) (X4 (a7Y:Fd I ByteArray (rpStr)) (X4 (a5i 3:Fd I (List Int) (@rpList _ (rpK .i64))) ((a11 .i64:Fd I Int (rpK .i64)))))) a4L b0U (fun _=>rfl) (fun _ _ _=>Iff.rfl):Fd I Semtypeprog_Callee a2P)
def c10:Fd I (I 79) inferInstance:=(X4 (a11 .i64:Fd I Int (rpK .i64)) ((a11 .i64:Fd I Int (rpK .i64))):Fd I (Int×Int) (Q4 (rpK .i64) (rpK .i64)))
def b6v:Fd I (I 81) inferInstance:=(a3K (rg:=a1s) (X4 (a11 .i64:Fd I Int (rpK .i64)) (X4 (a11 .i64:Fd I Int (rpK .i64)) (X4 (a11 .i64:Fd I Int (rpK .i64)) (X4 (a7Y:Fd I ByteArray (rpStr)) (X4 (a5i 3:Fd I (List Int) (@rpList _ (rpK .i64))) (X4 (a5i 102:Fd I (List Api_Field) (@rpList _ (a2G))) ((b6e 79 c10:Fd I (Int×Int) (Q4 (rpK .i64) (rpK .i64)))))))))) b0b b6P (fun _=>rfl) (fun _ _ _=>Iff.rfl):Fd I Api_TypeNode a1s)
def c1C:Fd I (I 100) inferInstance:=(a3K (rg:=rpKey) (X4 (a11 .i64:Fd I Int (rpK .i64)) ((a7Y:Fd I ByteArray (rpStr)))) Key.to Key.of (fun _=>rfl) Key.cells_to:Fd I Key rpKey)
def b8D:Fd I (I 102) inferInstance:=(a3K (rg:=a2G) (X4 (b6e 100 c1C:Fd I Key (rpKey)) (X4 (a11 .i64:Fd I Int (rpK .i64)) ((b3q:Fd I Bool (rpBool))))) b3w b9o (fun _=>rfl) (fun _ _ _=>Iff.rfl):Fd I Api_Field a2G)
def b81:Fd I (I 117) inferInstance:=(a3K (rg:=a82) (X4 (a5i 54:Fd I (List Api_Type) (@rpList _ (a0D))) ((b6e 54 b0M:Fd I Api_Type (a0D)))) b4i b80 (fun _=>rfl) (fun _ _ _=>Iff.rfl):Fd I Api_Arrow a82)
def b1y:Fd I (I 174) inferInstance:=(a3K (rg:=a2H) (X4 (a11 .i64:Fd I Int (rpK .i64)) ((a7Y:Fd I ByteArray (rpStr)))) a4O b1o (fun _=>rfl) (fun _ _ _=>Iff.rfl):Fd I Semtyperef18_token a2H)
def c4M:Fd I (I 290) inferInstance:=(X4 (b3q:Fd I Bool (rpBool)) ((b3q:Fd I Bool (rpBool))):Fd I (Bool×Bool) (Q4 (rpBool) (rpBool)))
def feL:List (FE I):=[⟨2,a11 .i64⟩,
 ⟨3,a11 .i64⟩,
 ⟨4,b3q⟩,
 ⟨5,a11 .u8⟩,
 ⟨9,a7Y⟩,
 ⟨22,a5i 3⟩,
 ⟨23,a5i 57⟩,
 ⟨25,b5I⟩,
 ⟨27,a11 .i64⟩,
 ⟨36,a5i 5⟩,
 ⟨49,b1r⟩,
 ⟨51,b6h⟩,
 ⟨52,a5i 81⟩,
 ⟨54,b0M⟩,
 ⟨57,b5D⟩,
 ⟨61,b4X⟩,
 ⟨67,b4U⟩,
 ⟨75,b0Y⟩,
 ⟨78,a5i 102⟩,
 ⟨79,c10⟩,
 ⟨81,b6v⟩,
 ⟨100,c1C⟩,
 ⟨102,b8D⟩,
 ⟨115,a5i 54⟩,
 ⟨117,b81⟩,
 ⟨174,b1y⟩,
 ⟨290,c4M⟩]
def c6j:TabL I where
 sz:=[(25,3),(51,2),(54,2),(57,4),(75,4),(79,2),(81,8),(100,2),(102,4),(117,3),(174,2)]
 one:=[(2,()),(3,()),(4,()),(9,()),(22,()),(23,()),(27,()),(36,()),(41,()),(42,()),(52,()),(78,()),(115,()),(120,()),(135,()),(149,()),(153,())]
 fld:=[(25,[(0,9),(1,4),(2,23)]),(45,[(0,42),(1,43),(2,3),(3,4),(4,3)]),(49,[(0,22),(1,3)]),(51,[(0,9),(1,3)]),(54,[(0,52),(1,3)]),(57,[(0,51),(2,54)]),(61,[(0,36)]),(67,[(0,9),(1,3),(2,27)]),(75,[(0,9),(1,9),(2,22),(3,3)]),(81,[(0,3),(1,2),(2,2),(3,9),(4,22),(5,78),(6,79)]),(100,[(0,3),(1,9)]),(102,[(0,100),(2,3),(3,4)]),(117,[(0,115),(1,54)]),(155,[(0,149),(1,3),(2,4),(3,4),(4,4),(5,3),(6,54),(8,41),(9,22),(10,153),(11,41)]),(174,[(0,3),(1,9)])]
 el:=[(22,3),(23,57),(36,5),(41,9),(43,75),(52,81),(73,51),(78,102),(103,2),(112,117),(115,54),(129,100),(149,174),(153,4)]
 str:=[(9,())]
 bool:=[(4,())]
 ik:=[(2,.i64),(5,.u8),(71,.u32),(143,.u64)]
 fe:=feL
 inf:=[(2,1,8,[.int .i64 0]),(3,1,8,[.int .i64 0]),(4,1,1,[.bool false]),(5,1,1,[.int .u8 0]),(9,1,16,[.str ⟨#[]⟩]),(22,1,24,[.nl 3]),(23,1,24,[.nl 57]),(25,3,48,[.str ⟨#[]⟩,.bool false,.nl 57]),(27,1,8,[.int .i64 0]),(36,1,24,[.nl 5]),(45,5,56,[.any,.nl 75,.int .i64 0,.bool false,.int .i64 0]),(49,2,32,[.nl 3,.int .i64 0]),(51,2,24,[.str ⟨#[]⟩,.int .i64 0]),(52,1,24,[.nl 81]),(54,2,32,[.nl 81,.int .i64 0]),(57,4,56,[.str ⟨#[]⟩,.int .i64 0,.nl 81,.int .i64 0]),(61,1,24,[.nl 5]),(67,3,32,[.str ⟨#[]⟩,.int .i64 0,.int .i64 0]),(75,4,64,[.str ⟨#[]⟩,.str ⟨#[]⟩,.nl 3,.int .i64 0]),(78,1,24,[.nl 102]),(79,2,16,[.int .i64 0,.int .i64 0]),(81,8,104,[.int .i64 0,.int .i64 0,.int .i64 0,.str ⟨#[]⟩,.nl 3,.nl 102,.int .i64 0,.int .i64 0]),(100,2,24,[.int .i64 0,.str ⟨#[]⟩]),(102,4,40,[.int .i64 0,.str ⟨#[]⟩,.int .i64 0,.bool false]),(115,1,24,[.nl 54]),(117,3,56,[.nl 54,.nl 81,.int .i64 0]),(120,1,8,[.any]),(135,1,8,[.any]),(153,1,24,[.nl 4]),(155,12,176,[.nl 174,.int .i64 0,.bool false,.bool false,.bool false,.int .i64 0,.nl 81,.int .i64 0,.nl 9,.nl 3,.nl 4,.nl 9]),(174,2,24,[.int .i64 0,.str ⟨#[]⟩]),(290,2,2,[.bool false,.bool false])]
 st:=[(25,[(0,1),(1,1),(2,1)]),(45,[(0,1),(1,1),(2,1),(3,1),(4,1)]),(49,[(0,1),(1,1)]),(51,[(0,1),(1,1)]),(54,[(0,1),(1,1)]),(57,[(0,2),(2,2)]),(61,[(0,1)]),(67,[(0,1),(1,1),(2,1)]),(75,[(0,1),(1,1),(2,1),(3,1)]),(79,[(0,1),(1,1)]),(81,[(0,1),(1,1),(2,1),(3,1),(4,1),(5,1),(6,2)]),(100,[(0,1),(1,1)]),(102,[(0,2),(2,1),(3,1)]),(117,[(0,1),(1,2)]),(155,[(0,1),(1,1),(2,1),(3,1),(4,1),(5,1),(6,2),(8,1),(9,1),(10,1),(11,1)]),(174,[(0,1),(1,1)]),(290,[(0,1),(1,1)])]
 eq:=[(51,b5r feL 51 a23),(79,b5r feL 79 a3v),(100,b5r feL 100 b4x),(102,b5r feL 102 a5S)]
 nest:=[(22,3,0),(191,3,1)]
 arr:=[(79,3,2,1),(290,4,2,1)]
 u8:=[(5,())]
 u8g:=[⟨5,fun y=>y⟩]
 mp:=[(132,.bool)]
 fb:=[(74,()),(75,()),(91,()),(103,()),(104,()),(115,())]
abbrev tb:Tab I:=c4h c6j
theorem ti2:Y1 Go.Proofs.Tryz.prog 2 (.int .i64 0) 1 8:=Z4 (by kernel_rfl)
theorem ti3:Y1 Go.Proofs.Tryz.prog 3 (.int .i64 0) 1 8:=Z4 (by kernel_rfl)
theorem ti4:Y1 Go.Proofs.Tryz.prog 4 (.bool false) 1 1:=Z4 (by kernel_rfl)
theorem ti5:Y1 Go.Proofs.Tryz.prog 5 (.int .u8 0) 1 1:=Z4 (by kernel_rfl)
theorem ti9:Y1 Go.Proofs.Tryz.prog 9 (.string ⟨#[]⟩) 1 16:=Z4 (by kernel_rfl)
theorem c7v:Y1 Go.Proofs.Tryz.prog 22 (.slice none 0 0) 1 24:=Z4 (by kernel_rfl)
theorem c7C:Y1 Go.Proofs.Tryz.prog 23 (.slice none 0 0) 1 24:=Z4 (by kernel_rfl)
theorem c7P:Y1 Go.Proofs.Tryz.prog 25 (.agg #[.string ⟨#[]⟩,.bool false,.slice none 0 0]) 3 48:=Z4 (by kernel_rfl)
theorem c7G:Y1 Go.Proofs.Tryz.prog 27 (.int .i64 0) 1 8:=Z4 (by kernel_rfl)
theorem c7E:Y1 Go.Proofs.Tryz.prog 36 (.slice none 0 0) 1 24:=Z4 (by kernel_rfl)
theorem c7p:Y1 Go.Proofs.Tryz.prog 45 (.agg #[.pointer none,.slice none 0 0,.int .i64 0,.bool false,.int .i64 0]) 5 56:=Z4 (by kernel_rfl)
theorem c7T:Y1 Go.Proofs.Tryz.prog 49 (.agg #[.slice none 0 0,.int .i64 0]) 2 32:=Z4 (by kernel_rfl)
theorem c5m:Y1 Go.Proofs.Tryz.prog 51 (.agg #[.string ⟨#[]⟩,.int .i64 0]) 2 24:=Z4 (by kernel_rfl)
theorem c7Q:Y1 Go.Proofs.Tryz.prog 52 (.slice none 0 0) 1 24:=Z4 (by kernel_rfl)
theorem c52:Y1 Go.Proofs.Tryz.prog 54 (.agg #[.slice none 0 0,.int .i64 0]) 2 32:=Z4 (by kernel_rfl)
theorem c5R:Y1 Go.Proofs.Tryz.prog 57 (.agg #[.string ⟨#[]⟩,.int .i64 0,.slice none 0 0,.int .i64 0]) 4 56:=Z4 (by kernel_rfl)
theorem c7K:Y1 Go.Proofs.Tryz.prog 61 (.agg #[.slice none 0 0]) 1 24:=Z4 (by kernel_rfl)
theorem c7s:Y1 Go.Proofs.Tryz.prog 67 (.agg #[.string ⟨#[]⟩,.int .i64 0,.int .i64 0]) 3 32:=Z4 (by kernel_rfl)
theorem c5i:Y1 Go.Proofs.Tryz.prog 75 (.agg #[.string ⟨#[]⟩,.string ⟨#[]⟩,.slice none 0 0,.int .i64 0]) 4 64:=Z4 (by kernel_rfl)
theorem c7N:Y1 Go.Proofs.Tryz.prog 78 (.slice none 0 0) 1 24:=Z4 (by kernel_rfl)
theorem c7l:Y1 Go.Proofs.Tryz.prog 79 (.agg #[.int .i64 0,.int .i64 0]) 2 16:=Z4 (by kernel_rfl)
theorem c6c:Y1 Go.Proofs.Tryz.prog 81 (.agg #[.int .i64 0,.int .i64 0,.int .i64 0,.string ⟨#[]⟩,.slice none 0 0,.slice none 0 0,.int .i64 0,.int .i64 0]) 8 104:=Z4 (by kernel_rfl)
theorem c4f:Y1 Go.Proofs.Tryz.prog 100 (.agg #[.int .i64 0,.string ⟨#[]⟩]) 2 24:=Z4 (by kernel_rfl)
theorem c37:Y1 Go.Proofs.Tryz.prog 102 (.agg #[.int .i64 0,.string ⟨#[]⟩,.int .i64 0,.bool false]) 4 40:=Z4 (by kernel_rfl)
theorem c7b:Y1 Go.Proofs.Tryz.prog 115 (.slice none 0 0) 1 24:=Z4 (by kernel_rfl)
theorem c4g:Y1 Go.Proofs.Tryz.prog 117 (.agg #[.slice none 0 0,.slice none 0 0,.int .i64 0]) 3 56:=Z4 (by kernel_rfl)
theorem c6r:Y1 Go.Proofs.Tryz.prog 120 (.nilFunc) 1 8:=Z4 (by kernel_rfl)
theorem c6X:Y1 Go.Proofs.Tryz.prog 135 (.nilFunc) 1 8:=Z4 (by kernel_rfl)
theorem c6B:Y1 Go.Proofs.Tryz.prog 153 (.slice none 0 0) 1 24:=Z4 (by kernel_rfl)
theorem c6V:Y1 Go.Proofs.Tryz.prog 155 (.agg #[.slice none 0 0,.int .i64 0,.bool false,.bool false,.bool false,.int .i64 0,.slice none 0 0,.int .i64 0,.slice none 0 0,.slice none 0 0,.slice none 0 0,.slice none 0 0]) 12 176:=Z4 (by kernel_rfl)
theorem c3W:Y1 Go.Proofs.Tryz.prog 174 (.agg #[.int .i64 0,.string ⟨#[]⟩]) 2 24:=Z4 (by kernel_rfl)
theorem c6Y:Y1 Go.Proofs.Tryz.prog 290 (.agg #[.bool false,.bool false]) 2 2:=Z4 (by kernel_rfl)
theorem to2:a0P Go.Proofs.Tryz.prog 2:=⟨_,Go.Proofs.Tryz.underlying2,rfl,by kernel_rfl⟩
theorem to3:a0P Go.Proofs.Tryz.prog 3:=⟨_,Go.Proofs.Tryz.underlying3,rfl,by kernel_rfl⟩
theorem to4:a0P Go.Proofs.Tryz.prog 4:=⟨_,Go.Proofs.Tryz.underlying4,rfl,by kernel_rfl⟩
theorem to9:a0P Go.Proofs.Tryz.prog 9:=⟨_,Go.Proofs.Tryz.underlying9,rfl,by kernel_rfl⟩
theorem c7D:a0P Go.Proofs.Tryz.prog 22:=⟨_,Go.Proofs.Tryz.underlying22,rfl,by kernel_rfl⟩
theorem c7R:a0P Go.Proofs.Tryz.prog 23:=⟨_,Go.Proofs.Tryz.underlying23,rfl,by kernel_rfl⟩
theorem c7S:a0P Go.Proofs.Tryz.prog 27:=⟨_,Go.Proofs.Tryz.underlying27,rfl,by kernel_rfl⟩
theorem c7w:a0P Go.Proofs.Tryz.prog 36:=⟨_,Go.Proofs.Tryz.underlying36,rfl,by kernel_rfl⟩
theorem c7n:a0P Go.Proofs.Tryz.prog 41:=⟨_,Go.Proofs.Tryz.underlying41,rfl,by kernel_rfl⟩
theorem c7B:a0P Go.Proofs.Tryz.prog 42:=⟨_,Go.Proofs.Tryz.underlying42,rfl,by kernel_rfl⟩
theorem c7t:a0P Go.Proofs.Tryz.prog 52:=⟨_,Go.Proofs.Tryz.underlying52,rfl,by kernel_rfl⟩
theorem c7U:a0P Go.Proofs.Tryz.prog 78:=⟨_,Go.Proofs.Tryz.underlying78,rfl,by kernel_rfl⟩
theorem c6u:a0P Go.Proofs.Tryz.prog 115:=⟨_,Go.Proofs.Tryz.underlying115,rfl,by kernel_rfl⟩
theorem c7f:a0P Go.Proofs.Tryz.prog 120:=⟨_,Go.Proofs.Tryz.underlying120,rfl,by kernel_rfl⟩
theorem c69:a0P Go.Proofs.Tryz.prog 135:=⟨_,Go.Proofs.Tryz.underlying135,rfl,by kernel_rfl⟩
theorem c7d:a0P Go.Proofs.Tryz.prog 149:=⟨_,Go.Proofs.Tryz.underlying149,rfl,by kernel_rfl⟩
theorem c6R:a0P Go.Proofs.Tryz.prog 153:=⟨_,Go.Proofs.Tryz.underlying153,rfl,by kernel_rfl⟩
theorem c7m {σ:S}{x y:Api_Ref}{cs ds:List Value}(h:(rI 51).cells σ x cs)(k:(rI 51).cells σ y ds):Sx.EqAt Go.Proofs.Tryz.prog 2 51 (.agg cs.toArray) (.agg ds.toArray) (a23 x y):=by
 obtain ⟨_,_,rfl,rfl,rfl⟩:=h
 obtain ⟨_,_,rfl,rfl,rfl⟩:=k
 exact a6G Go.Proofs.Tryz.underlying51 (by kernel_rfl) (a2j (by decide) (K6 to9 rfl) (K6 to9 rfl) (b50 Go.Proofs.Tryz.underlying9) (a2j (by decide) (K6 to3 rfl) (K6 to3 rfl) (a6f Go.Proofs.Tryz.underlying3) b2p))
theorem c7V {σ:S}{x y:Int×Int}{cs ds:List Value}(h:(rI 79).cells σ x cs)(k:(rI 79).cells σ y ds):Sx.EqAt Go.Proofs.Tryz.prog 2 79 (.agg cs.toArray) (.agg ds.toArray) (a3v x y):=by
 obtain ⟨_,_,rfl,rfl,rfl⟩:=h
 obtain ⟨_,_,rfl,rfl,rfl⟩:=k
 exact c3G Go.Proofs.Tryz.underlying79 ti3 (b7O (K6 to3 rfl) (K6 to3 rfl) (a6f Go.Proofs.Tryz.underlying3) (b7O (K6 to3 rfl) (K6 to3 rfl) (a6f Go.Proofs.Tryz.underlying3) c3r))
theorem c6K {σ:S}{x y:Key}{cs ds:List Value}(h:(rI 100).cells σ x cs)(k:(rI 100).cells σ y ds):Sx.EqAt Go.Proofs.Tryz.prog 2 100 (.agg cs.toArray) (.agg ds.toArray) (b4x x y):=by
 obtain ⟨_,_,rfl,rfl,rfl⟩:=h
 obtain ⟨_,_,rfl,rfl,rfl⟩:=k
 exact a6G Go.Proofs.Tryz.underlying100 (by kernel_rfl) (a2j (by decide) (K6 to3 rfl) (K6 to3 rfl) (a6f Go.Proofs.Tryz.underlying3) (a2j (by decide) (K6 to9 rfl) (K6 to9 rfl) (b50 Go.Proofs.Tryz.underlying9) b2p))
theorem c7i {σ:S}{x y:Api_Field}{cs ds:List Value}(h:(rI 102).cells σ x cs)(k:(rI 102).cells σ y ds):Sx.EqAt Go.Proofs.Tryz.prog 3 102 (.agg cs.toArray) (.agg ds.toArray) (a5S x y):=by
 obtain ⟨_,_,rfl,rfl,⟨_,_,rfl,rfl,rfl⟩⟩:=h
 obtain ⟨_,_,rfl,rfl,⟨_,_,rfl,rfl,rfl⟩⟩:=k
 exact a6G Go.Proofs.Tryz.underlying102 (by kernel_rfl) (a2j (by decide) (b5m (k:=2) ⟨_,Go.Proofs.Tryz.underlying100,rfl,by kernel_rfl⟩) (b5m (k:=2) ⟨_,Go.Proofs.Tryz.underlying100,rfl,by kernel_rfl⟩) (a6G Go.Proofs.Tryz.underlying100 (by kernel_rfl) (a2j (by decide) (K6 to3 rfl) (K6 to3 rfl) (a6f Go.Proofs.Tryz.underlying3) (a2j (by decide) (K6 to9 rfl) (K6 to9 rfl) (b50 Go.Proofs.Tryz.underlying9) b2p))) (a2j (by decide) (K6 to3 rfl) (K6 to3 rfl) ((a6f Go.Proofs.Tryz.underlying3).le (by decide)) (a2j (by decide) (K6 to4 rfl) (K6 to4 rfl) ((c1E Go.Proofs.Tryz.underlying4).le (by decide)) b2p)))
theorem eqT (T:TypeId)(g:I T->I T->Bool){K:Nat}(h:∀ {σ:S} {x y:I T} {cs ds:List Value},Rp.cells σ x cs->Rp.cells σ y ds->Sx.EqAt Go.Proofs.Tryz.prog K T (.agg cs.toArray) (.agg ds.toArray) (g x y))(hg:Go.Proofs.Tryz.prog.eqGuardType (Go.Proofs.Tryz.prog).depth T=false)(hK:Nat.ble K 10000=true)
 {X:Cxt} {c:Cx} {σ:S} {ls ms:List (PV I)} {r:Bool} {cs ds:List Value} (h1:b5r feL T g ls ms=some r) (h2:RG X c σ ls cs) (h3:RG X c σ ms ds) :
 Go.Proofs.Tryz.prog.eqGuardType (Go.Proofs.Tryz.prog).depth T=false/\∃ j,Nat.ble j 10000=true/\Sx.EqAt Go.Proofs.Tryz.prog j T (.agg cs.toArray) (.agg ds.toArray) r:=by
 obtain ⟨x,y,k1,k2,rfl⟩:=c4L h1 h2 h3
 exact ⟨hg,K,hK,h k1 k2⟩
theorem c5V:TabLOk Go.Proofs.Tryz.prog c6j where
 sz:=⟨⟨_,Go.Proofs.Tryz.underlying25,rfl,by kernel_rfl⟩,⟨⟨_,Go.Proofs.Tryz.underlying51,rfl,by kernel_rfl⟩,⟨⟨_,Go.Proofs.Tryz.underlying54,rfl,by kernel_rfl⟩,⟨⟨_,Go.Proofs.Tryz.underlying57,rfl,by kernel_rfl⟩,⟨⟨_,Go.Proofs.Tryz.underlying75,rfl,by kernel_rfl⟩,⟨⟨_,Go.Proofs.Tryz.underlying79,rfl,by kernel_rfl⟩,⟨⟨_,Go.Proofs.Tryz.underlying81,rfl,by kernel_rfl⟩,⟨⟨_,Go.Proofs.Tryz.underlying100,rfl,by kernel_rfl⟩,⟨⟨_,Go.Proofs.Tryz.underlying102,rfl,by kernel_rfl⟩,⟨⟨_,Go.Proofs.Tryz.underlying117,rfl,by kernel_rfl⟩,⟨⟨_,Go.Proofs.Tryz.underlying174,rfl,by kernel_rfl⟩,trivial⟩⟩⟩⟩⟩⟩⟩⟩⟩⟩⟩
 one:=⟨to2,⟨to3,⟨to4,⟨to9,⟨c7D,⟨c7R,⟨c7S,⟨c7w,⟨c7n,⟨c7B,⟨c7t,⟨c7U,⟨c6u,⟨c7f,⟨c69,⟨c7d,⟨c6R,trivial⟩⟩⟩⟩⟩⟩⟩⟩⟩⟩⟩⟩⟩⟩⟩⟩⟩
 fld:=⟨⟨⟨_,_,Go.Proofs.Tryz.underlying25,rfl,rfl,by kernel_rfl⟩,⟨⟨_,_,Go.Proofs.Tryz.underlying25,rfl,rfl⟩,⟨⟨_,_,Go.Proofs.Tryz.underlying25,rfl,rfl,by kernel_rfl⟩,⟨⟨_,_,Go.Proofs.Tryz.underlying25,rfl,rfl⟩,⟨⟨_,_,Go.Proofs.Tryz.underlying25,rfl,rfl,by kernel_rfl⟩,⟨⟨_,_,Go.Proofs.Tryz.underlying25,rfl,rfl⟩,trivial⟩⟩⟩⟩⟩⟩,⟨⟨⟨_,_,Go.Proofs.Tryz.underlying45,rfl,rfl,by kernel_rfl⟩,⟨⟨_,_,Go.Proofs.Tryz.underlying45,rfl,rfl⟩,⟨⟨_,_,Go.Proofs.Tryz.underlying45,rfl,rfl,by kernel_rfl⟩,⟨⟨_,_,Go.Proofs.Tryz.underlying45,rfl,rfl⟩,⟨⟨_,_,Go.Proofs.Tryz.underlying45,rfl,rfl,by kernel_rfl⟩,⟨⟨_,_,Go.Proofs.Tryz.underlying45,rfl,rfl⟩,⟨⟨_,_,Go.Proofs.Tryz.underlying45,rfl,rfl,by kernel_rfl⟩,⟨⟨_,_,Go.Proofs.Tryz.underlying45,rfl,rfl⟩,⟨⟨_,_,Go.Proofs.Tryz.underlying45,rfl,rfl,by kernel_rfl⟩,⟨⟨_,_,Go.Proofs.Tryz.underlying45,rfl,rfl⟩,trivial⟩⟩⟩⟩⟩⟩⟩⟩⟩⟩,⟨⟨⟨_,_,Go.Proofs.Tryz.underlying49,rfl,rfl,by kernel_rfl⟩,⟨⟨_,_,Go.Proofs.Tryz.underlying49,rfl,rfl⟩,⟨⟨_,_,Go.Proofs.Tryz.underlying49,rfl,rfl,by kernel_rfl⟩,⟨⟨_,_,Go.Proofs.Tryz.underlying49,rfl,rfl⟩,trivial⟩⟩⟩⟩,⟨⟨⟨_,_,Go.Proofs.Tryz.underlying51,rfl,rfl,by kernel_rfl⟩,⟨⟨_,_,Go.Proofs.Tryz.underlying51,rfl,rfl⟩,⟨⟨_,_,Go.Proofs.Tryz.underlying51,rfl,rfl,by kernel_rfl⟩,⟨⟨_,_,Go.Proofs.Tryz.underlying51,rfl,rfl⟩,trivial⟩⟩⟩⟩,⟨⟨⟨_,_,Go.Proofs.Tryz.underlying54,rfl,rfl,by kernel_rfl⟩,⟨⟨_,_,Go.Proofs.Tryz.underlying54,rfl,rfl⟩,⟨⟨_,_,Go.Proofs.Tryz.underlying54,rfl,rfl,by kernel_rfl⟩,⟨⟨_,_,Go.Proofs.Tryz.underlying54,rfl,rfl⟩,trivial⟩⟩⟩⟩,⟨⟨⟨_,_,Go.Proofs.Tryz.underlying57,rfl,rfl,by kernel_rfl⟩,⟨⟨_,_,Go.Proofs.Tryz.underlying57,rfl,rfl⟩,⟨⟨_,_,Go.Proofs.Tryz.underlying57,rfl,rfl,by kernel_rfl⟩,⟨⟨_,_,Go.Proofs.Tryz.underlying57,rfl,rfl⟩,trivial⟩⟩⟩⟩,⟨⟨⟨_,_,Go.Proofs.Tryz.underlying61,rfl,rfl,by kernel_rfl⟩,⟨⟨_,_,Go.Proofs.Tryz.underlying61,rfl,rfl⟩,trivial⟩⟩,⟨⟨⟨_,_,Go.Proofs.Tryz.underlying67,rfl,rfl,by kernel_rfl⟩,⟨⟨_,_,Go.Proofs.Tryz.underlying67,rfl,rfl⟩,⟨⟨_,_,Go.Proofs.Tryz.underlying67,rfl,rfl,by kernel_rfl⟩,⟨⟨_,_,Go.Proofs.Tryz.underlying67,rfl,rfl⟩,⟨⟨_,_,Go.Proofs.Tryz.underlying67,rfl,rfl,by kernel_rfl⟩,⟨⟨_,_,Go.Proofs.Tryz.underlying67,rfl,rfl⟩,trivial⟩⟩⟩⟩⟩⟩,⟨⟨⟨_,_,Go.Proofs.Tryz.underlying75,rfl,rfl,by kernel_rfl⟩,⟨⟨_,_,Go.Proofs.Tryz.underlying75,rfl,rfl⟩,⟨⟨_,_,Go.Proofs.Tryz.underlying75,rfl,rfl,by kernel_rfl⟩,⟨⟨_,_,Go.Proofs.Tryz.underlying75,rfl,rfl⟩,⟨⟨_,_,Go.Proofs.Tryz.underlying75,rfl,rfl,by kernel_rfl⟩,⟨⟨_,_,Go.Proofs.Tryz.underlying75,rfl,rfl⟩,⟨⟨_,_,Go.Proofs.Tryz.underlying75,rfl,rfl,by kernel_rfl⟩,⟨⟨_,_,Go.Proofs.Tryz.underlying75,rfl,rfl⟩,trivial⟩⟩⟩⟩⟩⟩⟩⟩,⟨⟨⟨_,_,Go.Proofs.Tryz.underlying81,rfl,rfl,by kernel_rfl⟩,⟨⟨_,_,Go.Proofs.Tryz.underlying81,rfl,rfl⟩,⟨⟨_,_,Go.Proofs.Tryz.underlying81,rfl,rfl,by kernel_rfl⟩,⟨⟨_,_,Go.Proofs.Tryz.underlying81,rfl,rfl⟩,⟨⟨_,_,Go.Proofs.Tryz.underlying81,rfl,rfl,by kernel_rfl⟩,⟨⟨_,_,Go.Proofs.Tryz.underlying81,rfl,rfl⟩,⟨⟨_,_,Go.Proofs.Tryz.underlying81,rfl,rfl,by kernel_rfl⟩,⟨⟨_,_,Go.Proofs.Tryz.underlying81,rfl,rfl⟩,⟨⟨_,_,Go.Proofs.Tryz.underlying81,rfl,rfl,by kernel_rfl⟩,⟨⟨_,_,Go.Proofs.Tryz.underlying81,rfl,rfl⟩,⟨⟨_,_,Go.Proofs.Tryz.underlying81,rfl,rfl,by kernel_rfl⟩,⟨⟨_,_,Go.Proofs.Tryz.underlying81,rfl,rfl⟩,⟨⟨_,_,Go.Proofs.Tryz.underlying81,rfl,rfl,by kernel_rfl⟩,⟨⟨_,_,Go.Proofs.Tryz.underlying81,rfl,rfl⟩,trivial⟩⟩⟩⟩⟩⟩⟩⟩⟩⟩⟩⟩⟩⟩,⟨⟨⟨_,_,Go.Proofs.Tryz.underlying100,rfl,rfl,by kernel_rfl⟩,⟨⟨_,_,Go.Proofs.Tryz.underlying100,rfl,rfl⟩,⟨⟨_,_,Go.Proofs.Tryz.underlying100,rfl,rfl,by kernel_rfl⟩,⟨⟨_,_,Go.Proofs.Tryz.underlying100,rfl,rfl⟩,trivial⟩⟩⟩⟩,⟨⟨⟨_,_,Go.Proofs.Tryz.underlying102,rfl,rfl,by kernel_rfl⟩,⟨⟨_,_,Go.Proofs.Tryz.underlying102,rfl,rfl⟩,⟨⟨_,_,Go.Proofs.Tryz.underlying102,rfl,rfl,by kernel_rfl⟩,⟨⟨_,_,Go.Proofs.Tryz.underlying102,rfl,rfl⟩,⟨⟨_,_,Go.Proofs.Tryz.underlying102,rfl,rfl,by kernel_rfl⟩,⟨⟨_,_,Go.Proofs.Tryz.underlying102,rfl,rfl⟩,trivial⟩⟩⟩⟩⟩⟩,⟨⟨⟨_,_,Go.Proofs.Tryz.underlying117,rfl,rfl,by kernel_rfl⟩,⟨⟨_,_,Go.Proofs.Tryz.underlying117,rfl,rfl⟩,⟨⟨_,_,Go.Proofs.Tryz.underlying117,rfl,rfl,by kernel_rfl⟩,⟨⟨_,_,Go.Proofs.Tryz.underlying117,rfl,rfl⟩,trivial⟩⟩⟩⟩,⟨⟨⟨_,_,Go.Proofs.Tryz.underlying155,rfl,rfl,by kernel_rfl⟩,⟨⟨_,_,Go.Proofs.Tryz.underlying155,rfl,rfl⟩,⟨⟨_,_,Go.Proofs.Tryz.underlying155,rfl,rfl,by kernel_rfl⟩,⟨⟨_,_,Go.Proofs.Tryz.underlying155,rfl,rfl⟩,⟨⟨_,_,Go.Proofs.Tryz.underlying155,rfl,rfl,by kernel_rfl⟩,⟨⟨_,_,Go.Proofs.Tryz.underlying155,rfl,rfl⟩,⟨⟨_,_,Go.Proofs.Tryz.underlying155,rfl,rfl,by kernel_rfl⟩,⟨⟨_,_,Go.Proofs.Tryz.underlying155,rfl,rfl⟩,⟨⟨_,_,Go.Proofs.Tryz.underlying155,rfl,rfl,by kernel_rfl⟩,⟨⟨_,_,Go.Proofs.Tryz.underlying155,rfl,rfl⟩,⟨⟨_,_,Go.Proofs.Tryz.underlying155,rfl,rfl,by kernel_rfl⟩,⟨⟨_,_,Go.Proofs.Tryz.underlying155,rfl,rfl⟩,⟨⟨_,_,Go.Proofs.Tryz.underlying155,rfl,rfl,by kernel_rfl⟩,⟨⟨_,_,Go.Proofs.Tryz.underlying155,rfl,rfl⟩,⟨⟨_,_,Go.Proofs.Tryz.underlying155,rfl,rfl,by kernel_rfl⟩,⟨⟨_,_,Go.Proofs.Tryz.underlying155,rfl,rfl⟩,⟨⟨_,_,Go.Proofs.Tryz.underlying155,rfl,rfl,by kernel_rfl⟩,⟨⟨_,_,Go.Proofs.Tryz.underlying155,rfl,rfl⟩,⟨⟨_,_,Go.Proofs.Tryz.underlying155,rfl,rfl,by kernel_rfl⟩,⟨⟨_,_,Go.Proofs.Tryz.underlying155,rfl,rfl⟩,⟨⟨_,_,Go.Proofs.Tryz.underlying155,rfl,rfl,by kernel_rfl⟩,⟨⟨_,_,Go.Proofs.Tryz.underlying155,rfl,rfl⟩,trivial⟩⟩⟩⟩⟩⟩⟩⟩⟩⟩⟩⟩⟩⟩⟩⟩⟩⟩⟩⟩⟩⟩,⟨⟨⟨_,_,Go.Proofs.Tryz.underlying174,rfl,rfl,by kernel_rfl⟩,⟨⟨_,_,Go.Proofs.Tryz.underlying174,rfl,rfl⟩,⟨⟨_,_,Go.Proofs.Tryz.underlying174,rfl,rfl,by kernel_rfl⟩,⟨⟨_,_,Go.Proofs.Tryz.underlying174,rfl,rfl⟩,trivial⟩⟩⟩⟩,trivial⟩⟩⟩⟩⟩⟩⟩⟩⟩⟩⟩⟩⟩⟩⟩
 el:=⟨⟨Go.Proofs.Tryz.underlying22,_,_,ti3,rfl,by decide⟩,⟨⟨Go.Proofs.Tryz.underlying23,_,_,c5R,rfl,by decide⟩,⟨⟨Go.Proofs.Tryz.underlying36,_,_,ti5,rfl,by decide⟩,⟨⟨Go.Proofs.Tryz.underlying41,_,_,ti9,rfl,by decide⟩,⟨⟨Go.Proofs.Tryz.underlying43,_,_,c5i,rfl,by decide⟩,⟨⟨Go.Proofs.Tryz.underlying52,_,_,c6c,rfl,by decide⟩,⟨⟨Go.Proofs.Tryz.underlying73,_,_,c5m,rfl,by decide⟩,⟨⟨Go.Proofs.Tryz.underlying78,_,_,c37,rfl,by decide⟩,⟨⟨Go.Proofs.Tryz.underlying103,_,_,ti2,rfl,by decide⟩,⟨⟨Go.Proofs.Tryz.underlying112,_,_,c4g,rfl,by decide⟩,⟨⟨Go.Proofs.Tryz.underlying115,_,_,c52,rfl,by decide⟩,⟨⟨Go.Proofs.Tryz.underlying129,_,_,c4f,rfl,by decide⟩,⟨⟨Go.Proofs.Tryz.underlying149,_,_,c3W,rfl,by decide⟩,⟨⟨Go.Proofs.Tryz.underlying153,_,_,ti4,rfl,by decide⟩,trivial⟩⟩⟩⟩⟩⟩⟩⟩⟩⟩⟩⟩⟩⟩
 str:=⟨Go.Proofs.Tryz.underlying9,trivial⟩
 bool:=⟨Go.Proofs.Tryz.underlying4,trivial⟩
 ik:=⟨Go.Proofs.Tryz.underlying2,⟨Go.Proofs.Tryz.underlying5,⟨Go.Proofs.Tryz.underlying71,⟨Go.Proofs.Tryz.underlying143,trivial⟩⟩⟩⟩
 inf:=⟨⟨_,ti2,fun X c σ=>RG.cns rfl X5 (RG.nl)⟩,⟨⟨_,ti3,fun X c σ=>RG.cns rfl X5 (RG.nl)⟩,⟨⟨_,ti4,fun X c σ=>RG.cns rfl a41 (RG.nl)⟩,⟨⟨_,ti5,fun X c σ=>RG.cns rfl X5 (RG.nl)⟩,⟨⟨_,ti9,fun X c σ=>RG.cns rfl a5f (RG.nl)⟩,⟨⟨_,c7v,fun X c σ=>RG.cns rfl a1F (RG.nl)⟩,⟨⟨_,c7C,fun X c σ=>RG.cns rfl a1F (RG.nl)⟩,⟨⟨_,c7P,fun X c σ=>RG.cns rfl a5f (RG.cns rfl a41 (RG.cns rfl a1F (RG.nl)))⟩,⟨⟨_,c7G,fun X c σ=>RG.cns rfl X5 (RG.nl)⟩,⟨⟨_,c7E,fun X c σ=>RG.cns rfl a1F (RG.nl)⟩,⟨⟨_,c7p,fun X c σ=>RG.cns rfl c1c (RG.cns rfl a1F (RG.cns rfl X5 (RG.cns rfl a41 (RG.cns rfl X5 (RG.nl)))))⟩,⟨⟨_,c7T,fun X c σ=>RG.cns rfl a1F (RG.cns rfl X5 (RG.nl))⟩,⟨⟨_,c5m,fun X c σ=>RG.cns rfl a5f (RG.cns rfl X5 (RG.nl))⟩,⟨⟨_,c7Q,fun X c σ=>RG.cns rfl a1F (RG.nl)⟩,⟨⟨_,c52,fun X c σ=>RG.cns rfl a1F (RG.cns rfl X5 (RG.nl))⟩,⟨⟨_,c5R,fun X c σ=>RG.cns rfl a5f (RG.cns rfl X5 (RG.cns rfl a1F (RG.cns rfl X5 (RG.nl))))⟩,⟨⟨_,c7K,fun X c σ=>RG.cns rfl a1F (RG.nl)⟩,⟨⟨_,c7s,fun X c σ=>RG.cns rfl a5f (RG.cns rfl X5 (RG.cns rfl X5 (RG.nl)))⟩,⟨⟨_,c5i,fun X c σ=>RG.cns rfl a5f (RG.cns rfl a5f (RG.cns rfl a1F (RG.cns rfl X5 (RG.nl))))⟩,⟨⟨_,c7N,fun X c σ=>RG.cns rfl a1F (RG.nl)⟩,⟨⟨_,c7l,fun X c σ=>RG.cns rfl X5 (RG.cns rfl X5 (RG.nl))⟩,⟨⟨_,c6c,fun X c σ=>RG.cns rfl X5 (RG.cns rfl X5 (RG.cns rfl X5 (RG.cns rfl a5f (RG.cns rfl a1F (RG.cns rfl a1F (RG.cns rfl X5 (RG.cns rfl X5 (RG.nl))))))))⟩,⟨⟨_,c4f,fun X c σ=>RG.cns rfl X5 (RG.cns rfl a5f (RG.nl))⟩,⟨⟨_,c37,fun X c σ=>RG.cns rfl X5 (RG.cns rfl a5f (RG.cns rfl X5 (RG.cns rfl a41 (RG.nl))))⟩,⟨⟨_,c7b,fun X c σ=>RG.cns rfl a1F (RG.nl)⟩,⟨⟨_,c4g,fun X c σ=>RG.cns rfl a1F (RG.cns rfl a1F (RG.cns rfl X5 (RG.nl)))⟩,⟨⟨_,c6r,fun X c σ=>RG.cns rfl c1c (RG.nl)⟩,⟨⟨_,c6X,fun X c σ=>RG.cns rfl c1c (RG.nl)⟩,⟨⟨_,c6B,fun X c σ=>RG.cns rfl a1F (RG.nl)⟩,⟨⟨_,c6V,fun X c σ=>RG.cns rfl a1F (RG.cns rfl X5 (RG.cns rfl a41 (RG.cns rfl a41 (RG.cns rfl a41 (RG.cns rfl X5 (RG.cns rfl a1F (RG.cns rfl X5 (RG.cns rfl a1F (RG.cns rfl a1F (RG.cns rfl a1F (RG.cns rfl a1F (RG.nl))))))))))))⟩,⟨⟨_,c3W,fun X c σ=>RG.cns rfl X5 (RG.cns rfl a5f (RG.nl))⟩,⟨⟨_,c6Y,fun X c σ=>RG.cns rfl a41 (RG.cns rfl a41 (RG.nl))⟩,trivial⟩⟩⟩⟩⟩⟩⟩⟩⟩⟩⟩⟩⟩⟩⟩⟩⟩⟩⟩⟩⟩⟩⟩⟩⟩⟩⟩⟩⟩⟩⟩⟩
 st:=⟨.inl ⟨_,Go.Proofs.Tryz.underlying25,by kernel_rfl⟩,⟨.inl ⟨_,Go.Proofs.Tryz.underlying45,by kernel_rfl⟩,⟨.inl ⟨_,Go.Proofs.Tryz.underlying49,by kernel_rfl⟩,⟨.inl ⟨_,Go.Proofs.Tryz.underlying51,by kernel_rfl⟩,⟨.inl ⟨_,Go.Proofs.Tryz.underlying54,by kernel_rfl⟩,⟨.inl ⟨_,Go.Proofs.Tryz.underlying57,by kernel_rfl⟩,⟨.inl ⟨_,Go.Proofs.Tryz.underlying61,by kernel_rfl⟩,⟨.inl ⟨_,Go.Proofs.Tryz.underlying67,by kernel_rfl⟩,⟨.inl ⟨_,Go.Proofs.Tryz.underlying75,by kernel_rfl⟩,⟨.inr (c2C Go.Proofs.Tryz.underlying79 ti3 rfl),⟨.inl ⟨_,Go.Proofs.Tryz.underlying81,by kernel_rfl⟩,⟨.inl ⟨_,Go.Proofs.Tryz.underlying100,by kernel_rfl⟩,⟨.inl ⟨_,Go.Proofs.Tryz.underlying102,by kernel_rfl⟩,⟨.inl ⟨_,Go.Proofs.Tryz.underlying117,by kernel_rfl⟩,⟨.inl ⟨_,Go.Proofs.Tryz.underlying155,by kernel_rfl⟩,⟨.inl ⟨_,Go.Proofs.Tryz.underlying174,by kernel_rfl⟩,⟨.inr (c2C Go.Proofs.Tryz.underlying290 ti4 rfl),trivial⟩⟩⟩⟩⟩⟩⟩⟩⟩⟩⟩⟩⟩⟩⟩⟩⟩
 eq:=⟨fun X c σ ls ms r cs ds h1 h2 h3=>eqT 51 a23 (fun h k=>c7m h k) (by kernel_rfl) (by decide) h1 h2 h3,⟨fun X c σ ls ms r cs ds h1 h2 h3=>eqT 79 a3v (fun h k=>c7V h k) (by kernel_rfl) (by decide) h1 h2 h3,⟨fun X c σ ls ms r cs ds h1 h2 h3=>eqT 100 b4x (fun h k=>c6K h k) (by kernel_rfl) (by decide) h1 h2 h3,⟨fun X c σ ls ms r cs ds h1 h2 h3=>eqT 102 a5S (fun h k=>c7i h k) (by kernel_rfl) (by decide) h1 h2 h3,trivial⟩⟩⟩⟩
 arr:=⟨⟨Go.Proofs.Tryz.underlying79,by kernel_rfl⟩,⟨⟨Go.Proofs.Tryz.underlying290,by kernel_rfl⟩,trivial⟩⟩
 u8:=⟨⟨Go.Proofs.Tryz.underlying5,fun y=>⟨y,rfl⟩⟩,trivial⟩
 u8g:=⟨fun σ k=>rfl,trivial⟩
 mp:=⟨⟨_,_,_,_,_,Go.Proofs.Tryz.underlying132,Go.Proofs.Tryz.underlying9,ti4,fun x h σ=>by cases h; exact rfl⟩,trivial⟩
 fb:=⟨⟨_,_,Go.Proofs.Tryz.func74,rfl,by kernel_rfl⟩,⟨⟨_,_,Go.Proofs.Tryz.func75,rfl,by kernel_rfl⟩,⟨⟨_,_,Go.Proofs.Tryz.func91,rfl,by kernel_rfl⟩,⟨⟨_,_,Go.Proofs.Tryz.func103,rfl,by kernel_rfl⟩,⟨⟨_,_,Go.Proofs.Tryz.func104,rfl,by kernel_rfl⟩,⟨⟨_,_,Go.Proofs.Tryz.func115,rfl,by kernel_rfl⟩,trivial⟩⟩⟩⟩⟩⟩
theorem a12:TabOk Go.Proofs.Tryz.prog tb:=c3Q c5V
theorem mixed:(Go.Proofs.Tryz.prog).follows .mixedOrders=true:=by kernel_rfl
end Go.Qx
end
section
namespace Go.Qx
open Go Go.RowKit Go.Sx
end Go.Qx
end
section
namespace Go.Qx
open Go Go.RowKit Go.Sx
structure Bw (B:Nat)(w w':World):Prop where
 below:Below B w w'
 drawn:w.drawn<=w'.drawn
theorem Bw.refl (B:Nat)(w:World):Bw B w w:=⟨Below.refl B w,Nat.le_refl _⟩
theorem Bw.trans {B:Nat}{a b c:World}(h:Bw B a b)(k:Bw B b c):Bw B a c:=⟨h.below.trans k.below,Nat.le_trans h.drawn k.drawn⟩
theorem Bw.setCells {B b:Nat}(hb:B<=b)(o:Nat)(vs:List Value)(w:World):Bw B w (w.setCells b o vs):=by
 obtain ⟨r1,r2,r3⟩:=a7x b vs o w
 exact ⟨⟨r1,r2,r3,Nat.le_of_eq (a7p b vs o w).symm,fun k hk=>a2N b vs o w k (by omega)⟩,Nat.le_of_eq (a57 b vs o w).symm⟩
section
variable {P:Program}{ops:Array Oper}{Q:Exit->Act->World->Prop}{n:Nat}{F:Fr}{rest:List Oper}{d:Option Nat}{ty:TypeId}{pos:String}{aft:Array Edge}{w:World}
theorem c3I {T T':TypeId}{x y:Operand}{b:Nat}{cs:List Value}(hb:w.heap[b]?=some (.cells cs.toArray T' (0,0)))(o:Nat)(v:Value)(hx:ev F x=.pointer (some ⟨b,o,none⟩))(hy:ev F y=v)
 (hkx:Z2 n x=true) (hky:Z2 n y=true) (hv:v.cells.toList=[v]) (hT:(P.info? T).map (·.size)=some 1) (h1:v.oneCell'=true) (hl:o<cs.length)
 (h:wpList P ops Q rest (fr n (Y9 F d undef)) (w.setCells b o [v])) :
 wpList P ops Q (⟨d,.store T x y,ty,pos,aft,none⟩::rest) (fr n F) w:=by
 have hsz:v.cells.size=1:=by rw [<- Array.length_toList,hv]; rfl
 refine b1J rfl (w.setCells b o [v]) ?_ h
 show Sem.run P (do Instr.storeAt T ((fr n F).eval x) ((fr n F).eval y); pure Next.skip) w=_
 rw [y8 hkx,y8 hky,hx,hy]
 have hst:=run_storeCells_cells (P:=P) b o [v] 0 w (fun j hj=>by
  have hj0:j=0:=by simp at hj; omega
  subst hj0
  simp only [World.cell?,hb,Nat.add_zero]
  simp [List.getElem?_eq_getElem hl]) (fun j hj=>by simp [World.frozen?,hb]) (fun u hu=>by simp at hu; subst hu; exact h1)
 simp only [Nat.add_zero] at hst
 simp only [Instr.storeAt,Instr.sureAddr,storeVar,Sem.run_bind,Sem.run_pure,Result.andThen_ok,Go.Sx.run_sizeOf hT,hsz,ne_eq,not_true_eq_false,if_false,hv,hst]
theorem b9y {f:FuncId}{fn:Func}{c:Code}{vs:List Value}{R:Ending->World->Prop}(nt:Nat)(hf:P.funcs[f]?=some fn)(hb:fn.body=some c)(hn:fn.ntmps=nt)(hle:Nat.ble vs.length nt=true)
 (h:c.wp P (bodyPost P fn R) (fr nt (a2h vs)) w):Calls P f vs.toArray w R:=by
 refine calls_of_wp hf hb ?_
 have hle':=Nat.le_of_ble_eq_true hle
 have e:(⟨vs.toArray++Array.replicate (fn.ntmps-vs.toArray.size) undef,[]⟩:Act)=fr nt (a2h vs):=by
  rw [hn]
  simp only [fr]
  congr 1
  apply Array.ext
  ·simp; omega
  ·intro i h1 h2
   simp only [Array.getElem_ofFn,a2h,Array.getElem_append]
   split
   ·rename_i hi; simp at hi; simp [List.getD,List.getElem?_eq_getElem hi]
   ·rename_i hi; simp at hi; simp [List.getD,List.getElem?_eq_none hi]
 rw [e]
 exact h
theorem c6x {fn:Func}{R:Ending->World->Prop}{t:Nat}(v:Value)(hr:fn.results=#[.tmp t])(ht:Nat.blt t n=true)(hv:F t=v)(h:R (.returned v) w):bodyPost P fn R .ret (fr n F) w :=
 ⟨rfl,v,by
  have e1:=b1U (P:=P) (w:=w) (r:=.tmp t) (v:=v) ⟨ht,hv⟩
  rw [b2t,hr]
  simp only [List.mapM_toArray,List.mapM_cons,List.mapM_nil,Sem.run_bind,Sem.run_map,e1,Result.andThen_ok,Sem.run_pure]
  rfl,h⟩
theorem c4m {f:FuncId}{xs:List Operand}{ats:Array TypeId}(vs:List Value){R:Ending->World->Prop}(hvs:xs.map (ev F)=vs)(hk:xs.all (Z2 n)=true)(hb:a3c P f)(hc:Calls P f vs.toArray w R)
 (hR:∀ e w',R e w'->∃ v,e=.returned v/\wpList P ops Q rest (fr n (Y9 F d v)) w') :
 wpList P ops Q (⟨d,.call ⟨.value (.func f),xs.toArray,ats⟩,ty,pos,aft,none⟩::rest) (fr n F) w:=by
 subst hvs
 refine a7h (σ:=⟨w,fun _=>(0,0)⟩) (E:=fun _=>True) (R:=fun v τ=>wpList P ops Q rest (fr n (Y9 F d v)) τ.w) rfl (.inl ⟨hb,hc.mono fun e w' h=>?_⟩) (b9z hk w) (fun v τ _ h=>h)
 obtain ⟨v,e1,h2⟩:=hR e w' h
 exact ⟨v,⟨w',fun _=>(0,0)⟩,e1,rfl,trivial,h2⟩
end
end Go.Qx
end
section
namespace Go.Qx
open Go Go.RowKit Go.Sx
set_option maxHeartbeats 1600000
set_option maxRecDepth 100000
section
variable {P:Program}{ops:Array Oper}{Q:Exit->Act->World->Prop}{n:Nat}{F:Fr}{rest:List Oper}{d:Option Nat}{ty:TypeId}{pos:String}{aft:Array Edge}{w:World}
theorem b5W {T:TypeId}{z:Value}{cs:List Value}{sz by_:Nat}(hT:Y1 P T z sz by_)(hc:z.cells.toList=cs)
 (h:wpList P ops Q rest (fr n (Y9 F d (.pointer (some ⟨w.heap.size,0,none⟩)))) (w.alloc (.cells cs.toArray T))) :
 wpList P ops Q (⟨d,.alloc T,ty,pos,aft,none⟩::rest) (fr n F) w:=by
 refine Q0 rfl (.pointer (some ⟨w.heap.size,0,none⟩)) (w.alloc (.cells cs.toArray T)) ?_ h
 obtain ⟨i,h1,h2,_,_⟩:=hT
 have hcc:z.cells=cs.toArray:=by rw [<- hc]
 simp [execOp,Instr.alloc,zeroValue,typeInfo,h1,h2,newVar,newRow,hcc]
theorem b8A {T T':TypeId}{x y:Operand}{b:Nat}{cs:List Value}(hb:w.heap[b]?=some (.cells cs.toArray T' (0,0)))(v:Value)(vs:List Value)(hx:ev F x=.pointer (some ⟨b,0,none⟩))(hy:ev F y=v)
 (hkx:Z2 n x=true) (hky:Z2 n y=true) (hv:v.cells.toList=vs) (hT:(P.info? T).map (·.size)=some vs.length) (h1:∀ u∈vs,u.oneCell'=true) (hl:vs.length=cs.length)
 (h:∀ w',w'.heap[b]?=some (.cells vs.toArray T' (0,0))->(∀ B,B<=b->Bw B w w')->wpList P ops Q rest (fr n (Y9 F d undef)) w') :
 wpList P ops Q (⟨d,.store T x y,ty,pos,aft,none⟩::rest) (fr n F) w:=by
 have hsz:v.cells.size=vs.length:=by rw [<- hv]; simp
 have hh:=a27 b T' vs 0 w cs hb (by omega)
 have e:cs.take 0++vs++cs.drop (0+vs.length)=vs:=by
  rw [Nat.zero_add,hl,List.drop_length]; simp
 rw [e] at hh
 refine b1J rfl (w.setCells b 0 vs) ?_ (h _ hh fun B hB=>Bw.setCells hB 0 vs w)
 show Sem.run P (do Instr.storeAt T ((fr n F).eval x) ((fr n F).eval y); pure Next.skip) w=_
 rw [y8 hkx,y8 hky,hx,hy]
 have hst:=run_storeCells_cells (P:=P) b 0 vs 0 w (fun j hj=>by
  simp only [World.cell?,hb,Nat.add_zero,Nat.zero_add]
  simp [List.getElem?_eq_getElem (show j<cs.length by omega)]) (fun j hj=>by simp [World.frozen?,hb]) h1
 simp only [Nat.add_zero] at hst
 simp only [Instr.storeAt,Instr.sureAddr,storeVar,Sem.run_bind,Sem.run_pure,Result.andThen_ok,Go.Sx.run_sizeOf hT,hsz,ne_eq,not_true_eq_false,if_false,hv,hst]
theorem c0x {T E:TypeId}{x y:Operand}{m i b:Nat}{kd:IntKind}
 (hx:ev F x=.pointer (some ⟨b,0,none⟩)) (hy:ev F y=.int kd (Int.ofNat i)) (hkx:Z2 n x=true) (hky:Z2 n y=true) (hT:P.underlying T=some (.array m E)) (hE:(P.info? E).map (·.size)=some 1) (hi:i<m)
 (h:wpList P ops Q rest (fr n (Y9 F d (.pointer (some ⟨b,i,none⟩)))) w) :
 wpList P ops Q (⟨d,.indexAddr T x y,ty,pos,aft,none⟩::rest) (fr n F) w:=by
 refine Q0 rfl (.pointer (some ⟨b,i,none⟩)) w ?_ h
 show Sem.run P (do pure (Next.value (<- Instr.indexAt T ((fr n F).eval x) ((fr n F).eval y)))) w=_
 rw [y8 hkx,y8 hky,hx,hy]
 have h0:(0:Int)<=(i:Int)/\(i:Int)<(m:Int):=⟨Int.natCast_nonneg i,by simpa using hi⟩
 simp only [Instr.indexAt,Instr.sureAddr,asIntOf,Sem.run_bind,Sem.run_pure,Result.andThen_ok,run_underlying hT,Addr.add_mid,Int.ofNat_eq_natCast,Int.toNat_natCast,if_pos h0,Sx.run_sizeOf hE,Nat.mul_one,Nat.zero_add]
theorem c66 {fn:Func}{R:Ending->World->Prop}{t b:Nat}{T:TypeId}(v:Value)(hr:fn.results=#[.cell t T])(ht:Nat.blt t n=true)(hv:F t=.pointer (some ⟨b,0,none⟩))(hl:j6 P w (loadVar T ⟨b,0,none⟩) v)(h:R (.returned v) w):bodyPost P fn R .ret (fr n F) w :=
 ⟨rfl,v,by
  have e1:=b1U (P:=P) (w:=w) (r:=.cell t T) (v:=v) ⟨ht,b,hv,hl⟩
  rw [b2t,hr]
  simp only [List.mapM_toArray,List.mapM_cons,List.mapM_nil,Sem.run_bind,Sem.run_map,e1,Result.andThen_ok,Sem.run_pure]
  rfl,h⟩
end
def a0h (i:Nat):List Value:=(List.range 256).map fun j=>if j<i then Value.int .u32 (nB (tb8 j)) else Value.int .u32 0
theorem a1d (i:Nat):(a0h i).length=256:=by simp [a0h]
theorem b4A {i j:Nat}(hj:j<256):(a0h i)[j]?=some (if j<i then Value.int .u32 (nB (tb8 j)) else Value.int .u32 0):=by
 simp [a0h,hj]
theorem b8t (i:Nat):∀ u∈a0h i,u.oneCell'=true:=by
 intro u hu
 obtain ⟨j,_,rfl⟩:=List.mem_map.1 hu
 split<;>rfl
theorem c2Y {i:Nat}(hi:i<256):(a0h i).take i++[Value.int .u32 (nB (tb8 i))]++(a0h i).drop (i+[Value.int .u32 (nB (tb8 i))].length)=a0h (i+1):=by
 apply List.ext_getElem?
 intro j
 have hl:((a0h i).take i).length=i:=by rw [List.length_take,a1d]; omega
 by_cases hj:j<256
 ·rw [b4A hj]
  rcases Nat.lt_trichotomy j i with h | h | h
  ·rw [List.append_assoc,List.getElem?_append_left (by omega),List.getElem?_take_of_lt h,b4A hj,if_pos h,if_pos (by omega)]
  ·subst h
   rw [List.append_assoc,List.getElem?_append_right (by omega),hl,Nat.sub_self,if_pos (by omega)]
   rfl
  ·rw [List.append_assoc,List.getElem?_append_right (by omega),hl,List.getElem?_append_right (by simp; omega),List.getElem?_drop]
   simp only [List.length_cons,List.length_nil,Nat.zero_add]
   rw [show i+1+(j-i-1)=j by omega,b4A hj,if_neg (by omega),if_neg (by omega)]
 ·have e:(a0h (i+1))[j]?=none:=List.getElem?_eq_none (by rw [a1d]; omega)
  rw [e,List.getElem?_eq_none]
  simp only [List.length_append,List.length_take,List.length_drop,a1d,List.length_cons,List.length_nil]
  omega
theorem b3I {w:World}{b:Nat}{cs:List Value}{T:TypeId}(h:w.heap[b]?=some (.cells cs.toArray T (0,0))):w.rangeAt b 0 cs:=fun j v hj=>by
 simp [World.cell?,h,hj]
theorem tz:Y1 Go.Proofs.Tryz.prog 96 (.agg (a0h 0).toArray) 256 1024:=Z4 (by kernel_rfl)
theorem c6g:b4H Go.Proofs.Tryz.prog 96 256:=⟨_,Go.Proofs.Tryz.underlying96,rfl,by kernel_rfl⟩
theorem c7x:a0P Go.Proofs.Tryz.prog 71:=⟨_,Go.Proofs.Tryz.underlying71,rfl,by kernel_rfl⟩
def c0Z (i:Nat):Option (Fl Nat Unit):=some (if i<256 then .next (i+1) else .done ())
def c0M (q:Nat×BitVec 32):Option (Fl (Nat×BitVec 32) (BitVec 32)):=some (if q.1<8 then .next (q.1+1,cst q.2) else .done q.2)
attribute [irreducible] a0h
theorem c7k:(4294967295:Int)=nB (BitVec.allOnes 32):=by decide
theorem c0R:z8 c0Z 257 0=some ():=by kernel_rfl
theorem c0F (r:BitVec 32):z8 c0M 9 (0,r)=some (a4u 8 r):=rfl
theorem c43:(2197175160:Int)=nB 0x82f63b78#32:=rfl
theorem b6F {i:Nat}(h:i<=2000000):wr .i64 ((i:Int)+1)=((i+1:Nat):Int):=by
 show IntKind.i64.wrap ((i:Int)+1)=_
 rw [IntKind.wrap_i64]
 omega
theorem b7P (r:BitVec 32):((nB (r &&& 1#32)==1)=true->nB (cst r)=a6m .u32 (nB (r >>> 1)) 2197175160)/\((nB (r &&& 1#32)==1)=false->nB (cst r)=nB (r >>> 1)):=by
 rw [c40]
 constructor
 ·intro h
  unfold cst
  rw [h,c43,c3X]
  rfl
 ·intro h
  rw [b9t h]
theorem c7X {w:World}{i:Nat}(_:i<256):j6 Go.Proofs.Tryz.prog w (convert 3 71 (.int .i64 (i:Int))) (.int .u32 (nB (BitVec.ofNat 32 i))):=by
 have h:IntKind.u32.wrap (i:Int)=nB (BitVec.ofNat 32 i):=by
  show (i:Int)%4294967296=((BitVec.ofNat 32 i).toNat:Int)
  rw [BitVec.toNat_ofNat]
  omega
 rw [<- h]
 exact b9m (by rw [Go.Proofs.Tryz.underlying3]; rfl) Go.Proofs.Tryz.underlying71
def b8j (σ:S):Nat->Nat×Nat:=fun b=>if b<σ.N then σ.L b else (0,0)
theorem c0P {σ:S}{w:World}(h:Bw σ.N σ.w w):Wext σ ⟨w,b8j σ⟩ :=
 ⟨h.below.size,fun b hb=>by simp [b8j,hb],fun b o v ho hc=>(a0q (h.below.block b (a2c hc)) o).trans hc,h.drawn,fun b o hb hf=>(a0G (h.below.block b hb) o).trans hf⟩
abbrev b66 (b0 b1:Nat)(w0:World)(i:Nat)(F:Fr)(w:World):Prop:=F 0=.pointer (some ⟨b0,0,none⟩)/\F 1=.pointer (some ⟨b1,0,none⟩)/\w.heap[b0]?=some (.cells (a0h 0).toArray 96 (0,0))/\w.heap[b1]?=some (.cells (a0h i).toArray 96 (0,0))/\Bw b0 w0 w
theorem c3M (w0:World):Calls Go.Proofs.Tryz.prog 41 ([]:List Value).toArray w0 fun e w'=>e=.returned (.agg (a0h 256).toArray)/\Bw w0.heap.size w0 w':=by
 refine b9y 25 Go.Proofs.Tryz.func41 rfl rfl rfl ?_
 refine wp_seq (wp_region_lit ?_)
 refine b5W tz rfl ?_
 refine wpList_nil (K4 (wp_seq (wp_region_lit ?_)))
 refine b5W tz rfl ?_
 have hz:((Value.agg (a0h 0).toArray).cells.toList).toArray=(a0h 0).toArray:=rfl
 rw [hz]
 generalize hw1:w0.alloc (.cells (a0h 0).toArray 96)=w1
 have n1:w1.heap.size=w0.heap.size+1:=by rw [<- hw1]; exact Array.size_push _
 have g1:w1.heap[w0.heap.size]?=some (.cells (a0h 0).toArray 96 (0,0)):=by rw [<- hw1]; exact heap_alloc_new w0 _
 have k1:Bw w0.heap.size w0 w1:=by rw [<- hw1]; exact ⟨(Below.refl _ _).alloc (Nat.le_refl _) _,Nat.le_refl _⟩
 generalize hw2:w1.alloc (.cells (a0h 0).toArray 96)=w2
 have g2:w2.heap[w0.heap.size]?=some (.cells (a0h 0).toArray 96 (0,0)):=by rw [<- hw2,heap_alloc_old _ _ (by omega)]; exact g1
 have g3:w2.heap[w1.heap.size]?=some (.cells (a0h 0).toArray 96 (0,0)):=by rw [<- hw2]; exact heap_alloc_new w1 _
 have k2:Bw w0.heap.size w0 w2:=k1.trans (by rw [<- hw2]; exact ⟨(Below.refl _ _).alloc (by omega) _,Nat.le_refl _⟩)
 have hne:w0.heap.size≠w1.heap.size:=by omega
 have hle:w0.heap.size<=w1.heap.size:=by omega
 clear hw2 n1 g1 k1 hw1
 generalize w1.heap.size=b1 at *
 generalize w0.heap.size=b0 at *
 refine wpList_nil (K4 (b5s (fun a w=>∃ F,a=fr 25 F/\b66 b0 b1 w0 256 F w) ?_ ?_))
 ·refine wp_seq (wp_region_lit ?_)
  refine a0d (.int .i64 0) rfl rfl ?_
  refine wpList_nil (K4 (wp_block ?_))
  refine wp_mono (a8F (step:=c0Z) (fun i a w=>∃ F,a=fr 25 F/\b66 b0 b1 w0 i F w/\F 4=.int .i64 ((i:Nat):Int)/\i<=256) (fun _ e a w=>e=.exit 0/\∃ F,a=fr 25 F/\b66 b0 b1 w0 256 F w) (by rintro _ _ _ ⟨h,_⟩; cases h) ?_ _ 0 () _ _ c0R ⟨_,rfl,⟨rfl,rfl,g2,g3,k2⟩,rfl,Nat.zero_le _⟩) ?_
  ·rintro i fl a w hst ⟨F,rfl,⟨f0,f1,h0,h1,hB⟩,f4,hi⟩
   simp only [c0Z,Option.some.injEq] at hst
   refine wp_seq (wp_region_lit ?_)
   refine a2n (.int .i64 (i:Int)) (.int .i64 256) (.bool (decide ((i:Int)<256))) f4 rfl rfl rfl b8m ?_
   refine wpList_nil (K4 (wp_seq ?_))
   by_cases hlt:i<256
   ·rw [if_pos hlt] at hst
    subst hst
    refine b3t rfl (decide_eq_true (by omega)) rfl (wp_skip (K4 (wp_seq (wp_block (wp_seq (wp_region_lit ?_))))))
    refine a0d (.int .i64 (i:Int)) f4 rfl ?_
    refine a1e (.int .i64 (i:Int)) rfl rfl ?_
    refine wpList_nil (K4 (wp_seq (wp_region_lit ?_)))
    refine a0d (.int .i64 (i:Int)) rfl rfl ?_
    refine a98 (.int .i64 (i:Int)) (.int .u32 (nB (BitVec.ofNat 32 i))) rfl rfl (c7X hlt) ?_
    refine a1e (.int .u32 (nB (BitVec.ofNat 32 i))) rfl rfl ?_
    refine wpList_nil (K4 (b5s (fun a w'=>∃ F,a=fr 25 F/\b66 b0 b1 w0 i F w'/\F 2=.int .i64 (i:Int)/\F 4=.int .i64 (i:Int)/\F 3=.int .u32 (nB (tb8 i))) ?_ ?_))
    ·refine wp_seq (wp_region_lit ?_)
     refine a0d (.int .i64 0) rfl rfl ?_
     refine wpList_nil (K4 (wp_block ?_))
     refine wp_mono (a8F (step:=c0M) (fun q a w'=>∃ F,a=fr 25 F/\b66 b0 b1 w0 i F w'/\F 2=.int .i64 (i:Int)/\F 4=.int .i64 (i:Int)/\F 3=.int .u32 (nB q.2)/\F 9=.int .i64 ((q.1:Nat):Int)/\q.1<=8) (fun r e a w'=>e=.exit 2/\∃ F,a=fr 25 F/\b66 b0 b1 w0 i F w'/\F 2=.int .i64 (i:Int)/\F 4=.int .i64 (i:Int)/\F 3=.int .u32 (nB r)) (by rintro _ _ _ ⟨h,_⟩; cases h) ?_ _ (0,BitVec.ofNat 32 i) (tb8 i) _ _ (c0F _) ⟨_,rfl,⟨f0,f1,h0,h1,hB⟩,rfl,f4,rfl,rfl,Nat.zero_le _⟩) ?_
     ·rintro ⟨k,r⟩ fl a w' hst ⟨F2,rfl,⟨e0,e1,j0,j1,jB⟩,e2,e4,e3,e9,hk⟩
      simp only [c0M,Option.some.injEq] at hst
      refine wp_seq (wp_region_lit ?_)
      refine a2n (.int .i64 (k:Int)) (.int .i64 8) (.bool (decide ((k:Int)<8))) e9 rfl rfl rfl b8m ?_
      refine wpList_nil (K4 (wp_seq ?_))
      by_cases hlt2:k<8
      ·rw [if_pos hlt2] at hst
       subst hst
       refine b3t rfl (decide_eq_true (by omega)) rfl (wp_skip (K4 (wp_seq (wp_block (wp_seq (wp_region_lit ?_))))))
       refine a0d (.int .u32 (nB r)) e3 rfl ?_
       refine a2n (.int .u32 (nB r)) (.int .u32 1) (.int .u32 (nB (r &&& 1#32))) rfl rfl rfl rfl (by rw [<- c6N]; exact c3Y) ?_
       refine a2n (.int .u32 (nB (r &&& 1#32))) (.int .u32 1) (.bool (nB (r &&& 1#32)==1)) rfl rfl rfl rfl c31 ?_
       refine wpList_nil (K4 ?_)
       rcases hbit:(nB (r &&& 1#32)==1) with _ | _
       ·refine b08 (c:=false) rfl rfl rfl (wp_region_lit ?_)
        refine a0d (.int .u32 (nB r)) e3 rfl ?_
        refine a2n (.int .u32 (nB r)) (.int .u64 1) (.int .u32 (nB (cst r))) rfl rfl rfl rfl (by rw [(b7P r).2 hbit]; exact b8a (b4y r 1 (by omega))) ?_
        refine a1e (.int .u32 (nB (cst r))) rfl rfl ?_
        refine wpList_nil (c1o (K4 (wp_region_lit ?_)))
        refine a2n (.int .i64 (k:Int)) (.int .i64 1) (.int .i64 (wr .i64 ((k:Int)+1))) e9 rfl rfl rfl b6J ?_
        refine a0d (.int .i64 (wr .i64 ((k:Int)+1))) rfl rfl ?_
        exact wpList_nil ⟨rfl,_,rfl,⟨e0,e1,j0,j1,jB⟩,e2,e4,rfl,congrArg _ (b6F (by omega)),hlt2⟩
       ·refine b3t (c:=true) rfl rfl rfl (wp_region_lit ?_)
        refine a0d (.int .u32 (nB r)) e3 rfl ?_
        refine a2n (.int .u32 (nB r)) (.int .u64 1) (.int .u32 (nB (r >>> 1))) rfl rfl rfl rfl (b8a (b4y r 1 (by omega))) ?_
        refine a2n (.int .u32 (nB (r >>> 1))) (.int .u32 2197175160) (.int .u32 (nB (cst r))) rfl rfl rfl rfl (by rw [(b7P r).1 hbit]; exact b8b) ?_
        refine a1e (.int .u32 (nB (cst r))) rfl rfl ?_
        refine wpList_nil (c1o (K4 (wp_region_lit ?_)))
        refine a2n (.int .i64 (k:Int)) (.int .i64 1) (.int .i64 (wr .i64 ((k:Int)+1))) e9 rfl rfl rfl b6J ?_
        refine a0d (.int .i64 (wr .i64 ((k:Int)+1))) rfl rfl ?_
        exact wpList_nil ⟨rfl,_,rfl,⟨e0,e1,j0,j1,jB⟩,e2,e4,rfl,congrArg _ (b6F (by omega)),hlt2⟩
      ·rw [if_neg hlt2] at hst
       subst hst
       refine b08 rfl (decide_eq_false (by omega)) rfl (wp_exit ?_)
       exact b7w ⟨rfl,_,rfl,⟨e0,e1,j0,j1,jB⟩,e2,e4,e3⟩
     ·rintro e a w' ⟨rfl,F2,rfl,hI,e2,e4,e3⟩
      exact c23 ⟨rfl,F2,rfl,hI,e2,e4,e3⟩
    ·rintro a w' ⟨F3,rfl,⟨e0,e1,j0,j1,jB⟩,e2,e4,e3⟩
     refine wp_region_lit ?_
     refine a0d (.int .i64 (i:Int)) e2 rfl ?_
     refine a0d (.int .u32 (nB (tb8 i))) e3 rfl ?_
     refine c0x (i:=i) e1 rfl rfl rfl Go.Proofs.Tryz.underlying96 (by kernel_rfl) hlt ?_
     refine c3I (cs:=a0h i) j1 i (.int .u32 (nB (tb8 i))) rfl rfl rfl rfl rfl (by kernel_rfl) rfl (by rw [a1d]; exact hlt) ?_
     refine wpList_nil (c1o (K4 (wp_region_lit ?_)))
     refine a2n (.int .i64 (i:Int)) (.int .i64 1) (.int .i64 (wr .i64 ((i:Int)+1))) e4 rfl rfl rfl b6J ?_
     refine a0d (.int .i64 (wr .i64 ((i:Int)+1))) rfl rfl ?_
     refine wpList_nil ⟨rfl,_,rfl,⟨e0,e1,?_,?_,?_⟩,congrArg _ (b6F (by omega)),hlt⟩
     ·rw [a2N _ _ _ _ _ hne]; exact j0
     ·have:=a27 b1 96 [.int .u32 (nB (tb8 i))] i w' (a0h i) j1 (by rw [a1d]; simp; omega)
      rw [c2Y hlt] at this
      exact this
     ·exact jB.trans (Bw.setCells hle _ _ _)
   ·rw [if_neg hlt] at hst
    subst hst
    have e:i=256:=by omega
    subst e
    refine b08 rfl (decide_eq_false (by omega)) rfl (wp_exit ?_)
    exact b7w ⟨rfl,_,rfl,f0,f1,h0,h1,hB⟩
  ·rintro e a w ⟨rfl,F,rfl,hI⟩
   exact c23 ⟨rfl,F,rfl,hI⟩
 ·rintro a w ⟨F,rfl,f0,f1,h0,h1,hB⟩
  refine wp_seq (wp_region_lit ?_)
  refine a68 b1 0 (.agg (a0h 256).toArray) f1 rfl (b3l (by rw [a1d]; exact c6g) (b3I h1)) ?_
  refine b8A h0 (.agg (a0h 256).toArray) (a0h 256) f0 rfl rfl rfl rfl (by rw [a1d]; kernel_rfl) (b8t 256) (by rw [a1d,a1d]) fun w' h2 hB2=>?_
  exact wpList_nil (K4 (wp_ret (c66 (b:=b0) (.agg (a0h 256).toArray) rfl rfl f0 (b3l (by rw [a1d]; exact c6g) (b3I h2)) ⟨rfl,hB.trans (hB2 _ (Nat.le_refl _))⟩)))
def b4G (s:ByteArray)(q:Nat×BitVec 32):Option (Fl (Nat×BitVec 32) (BitVec 32)):=some (match s.data.toList[q.1]? with | some b=>.next (q.1+1,b5B q.2 b) | none=>.done q.2)
theorem b6O (s:ByteArray):∀ (m i:Nat) (r:BitVec 32),s.data.toList.length-i=m->i<=s.data.toList.length->z8 (b4G s) (m+1) (i,r)=some (b2i (s.data.toList.drop i) r)
 | 0,i,r,hm,hi=>by
   have e:i=s.data.toList.length:=by omega
   subst e
   rw [List.drop_length]
   simp only [z8,b4G,List.getElem?_eq_none (Nat.le_refl _),b2i,Option.bind]
 | m+1,i,r,hm,hi=>by
   have hlt:i<s.data.toList.length:=by omega
   rw [List.drop_eq_getElem_cons hlt]
   have:=b6O s m (i+1) (b5B r s.data.toList[i]) (by omega) (by omega)
   rw [z8]
   simp only [b4G,List.getElem?_eq_getElem hlt,b2i,Option.bind]
   exact this
theorem hbT:a3c Go.Proofs.Tryz.prog 41:=⟨_,_,Go.Proofs.Tryz.func41,rfl,by kernel_rfl⟩
theorem hbS:a3c Go.Proofs.Tryz.prog 22:=⟨_,_,Go.Proofs.Tryz.func22,rfl,by kernel_rfl⟩
theorem c2g (s:ByteArray)(hs:s.size<=1000000)(w0:World):Calls Go.Proofs.Tryz.prog 22 [Value.string s].toArray w0 fun e w'=>e=.returned (.int .u32 (b68 s))/\Bw w0.heap.size w0 w':=by
 refine b9y 26 Go.Proofs.Tryz.func22 rfl rfl rfl ?_
 refine wp_seq (wp_region_lit ?_)
 refine a1e (.int .u32 0) rfl rfl ?_
 refine wpList_nil (K4 (wp_seq (wp_region_lit ?_)))
 refine c4m [] rfl rfl hbT (c3M w0) ?_
 rintro e w1 ⟨rfl,hB1⟩
 refine ⟨_,rfl,?_⟩
 refine b5W tz rfl ?_
 have hz:((Value.agg (a0h 0).toArray).cells.toList).toArray=(a0h 0).toArray:=rfl
 rw [hz]
 generalize hw2:w1.alloc (.cells (a0h 0).toArray 96)=w2
 have g2:w2.heap[w1.heap.size]?=some (.cells (a0h 0).toArray 96 (0,0)):=by rw [<- hw2]; exact heap_alloc_new w1 _
 have hle:w0.heap.size<=w1.heap.size:=hB1.below.size
 have k2:Bw w0.heap.size w0 w2:=hB1.trans (by rw [<- hw2]; exact ⟨(Below.refl _ _).alloc hle _,Nat.le_refl _⟩)
 clear hw2
 generalize w1.heap.size=b at *
 refine b8A g2 (.agg (a0h 256).toArray) (a0h 256) rfl rfl rfl rfl rfl (by rw [a1d]; kernel_rfl) (b8t _) (by rw [a1d,a1d]) fun w3 h3 hB3=>?_
 refine wpList_nil (K4 (wp_seq (wp_region_lit ?_)))
 refine a1e (.int .u32 4294967295) rfl rfl ?_
 refine wpList_nil (K4 (b5s (fun a w=>∃ F,a=fr 26 F/\F 4=.int .u32 (nB (b2i s.data.toList (BitVec.allOnes 32)))/\w=w3) ?_ ?_))
 ·refine wp_seq (wp_region_lit ?_)
  refine a0d (.string s) rfl rfl ?_
  refine b9v s rfl rfl Go.Proofs.Tryz.underlying9 ?_
  refine a0d (.int .i64 0) rfl rfl ?_
  refine wpList_nil (K4 (wp_block ?_))
  refine wp_mono (a8F (step:=b4G s) (fun q a w=>∃ F,a=fr 26 F/\F 0=.string s/\F 3=.pointer (some ⟨b,0,none⟩)/\F 4=.int .u32 (nB q.2)/\F 8=.int .i64 (s.size:Int)/\F 9=.int .i64 ((q.1:Nat):Int)/\q.1<=s.size/\w=w3) (fun r e a w=>e=.exit 0/\∃ F,a=fr 26 F/\F 4=.int .u32 (nB r)/\w=w3) (by rintro _ _ _ ⟨h,_⟩; cases h) ?_ _ (0,BitVec.allOnes 32) _ _ _ (b6O s _ 0 _ rfl (Nat.zero_le _)) ⟨_,rfl,rfl,rfl,congrArg _ c7k,rfl,rfl,Nat.zero_le _,rfl⟩) ?_
  ·rintro ⟨i,r⟩ fl a w hst ⟨F,rfl,f0,f3,f4,f8,f9,hi,rfl⟩
   have hsz:s.data.toList.length=s.size:=Array.length_toList
   refine wp_seq (wp_region_lit ?_)
   refine a2n (.int .i64 (i:Int)) (.int .i64 (s.size:Int)) (.bool (decide ((i:Int)<(s.size:Int)))) f9 f8 rfl rfl b8m ?_
   refine wpList_nil (K4 (wp_seq ?_))
   rcases hx:s.data.toList[i]? with _ | c
   ·simp only [b4G,hx,Option.some.injEq] at hst
    subst hst
    have hge:s.data.toList.length<=i:=List.getElem?_eq_none_iff.1 hx
    refine b08 rfl (decide_eq_false (by omega)) rfl (wp_exit ?_)
    exact b7w ⟨rfl,_,rfl,f4,rfl⟩
   ·simp only [b4G,hx,Option.some.injEq] at hst
    subst hst
    have hlt:i<s.data.toList.length:=(List.getElem?_eq_some_iff.1 hx).1
    have hsi:a1f s (i:Int)=some c:=by
     unfold a1f
     rw [if_pos (Int.natCast_nonneg i),Int.toNat_natCast,<- hx,Array.getElem?_toList]
     rfl
    refine b3t rfl (decide_eq_true (by omega)) rfl (wp_skip (K4 (wp_seq (wp_block (wp_seq (wp_region_lit ?_))))))
    refine a0d (.int .i64 (i:Int)) f9 rfl ?_
    refine a1e (.int .i64 (i:Int)) rfl rfl ?_
    refine wpList_nil (K4 (wp_region_lit ?_))
    refine a0d (.int .u32 (nB r)) f4 rfl ?_
    refine a2n (.int .u32 (nB r)) (.int .u64 8) (.int .u32 (nB (r >>> 8))) rfl rfl rfl rfl (b8a (b4y r 8 (by omega))) ?_
    refine a0d (.int .u32 (nB r)) f4 rfl ?_
    refine a98 (.int .u32 (nB r)) (.int .u8 (wr .u8 (nB r))) rfl rfl (b9m (by rw [Go.Proofs.Tryz.underlying71]; rfl) Go.Proofs.Tryz.underlying5) ?_
    refine a0d (.string s) f0 rfl ?_
    refine a0d (.int .i64 (i:Int)) rfl rfl ?_
    refine b7q (.string s) (.int .i64 (i:Int)) (.int .u8 (c.toNat:Int)) rfl rfl rfl rfl (c2l Go.Proofs.Tryz.underlying9 hsi) ?_
    refine a2n (.int .u8 (wr .u8 (nB r))) (.int .u8 (c.toNat:Int)) (.int .u8 (Int.ofNat (ix8 r c))) rfl rfl rfl rfl (by rw [<- c7W]; exact b8b) ?_
    refine c0x (i:=ix8 r c) f3 rfl rfl rfl Go.Proofs.Tryz.underlying96 (by kernel_rfl) (b3Y r c) ?_
    refine a68 b (ix8 r c) (.int .u32 (nB (tb8 (ix8 r c)))) rfl rfl (b3S c7x ?_) ?_
    ·have:=b3I h3 (ix8 r c) _ (b4A (b3Y r c))
     rw [if_pos (b3Y r c),Nat.zero_add] at this
     exact this
    refine a2n (.int .u32 (nB (r >>> 8))) (.int .u32 (nB (tb8 (ix8 r c)))) (.int .u32 (nB (b5B r c))) rfl rfl rfl rfl (by rw [c3D,<- c3X]; exact b8b) ?_
    refine a1e (.int .u32 (nB (b5B r c))) rfl rfl ?_
    refine wpList_nil (c1o (K4 (wp_region_lit ?_)))
    refine a2n (.int .i64 (i:Int)) (.int .i64 1) (.int .i64 (wr .i64 ((i:Int)+1))) f9 rfl rfl rfl b6J ?_
    refine a0d (.int .i64 (wr .i64 ((i:Int)+1))) rfl rfl ?_
    exact wpList_nil ⟨rfl,_,rfl,f0,f3,rfl,f8,congrArg _ (b6F (by omega)),by omega,rfl⟩
  ·rintro e a w ⟨rfl,F,rfl,f4,rfl⟩
   exact c23 ⟨rfl,F,rfl,f4,rfl⟩
 ·rintro a w ⟨F,rfl,f4,rfl⟩
  refine wp_seq (wp_region_lit ?_)
  refine a0d (.int .u32 (nB (b2i s.data.toList (BitVec.allOnes 32)))) f4 rfl ?_
  refine c0I (.int .u32 (nB (b2i s.data.toList (BitVec.allOnes 32)))) (.int .u32 (b68 s)) rfl rfl (by unfold b68; rw [<- c65]; exact c34) ?_
  refine a1e (.int .u32 (b68 s)) rfl rfl ?_
  exact wpList_nil (K4 (wp_ret (c6x (.int .u32 (b68 s)) rfl rfl rfl ⟨rfl,k2.trans (hB3 _ hle)⟩)))
theorem c5s:y3 Go.Proofs.Tryz.prog (⟨22,[.d .str],[.k (.d (.int .u32))],b3X⟩:Row I):=by
 intro σ a vs pls res hA hnd happ
 obtain ⟨v1,vs1,p1,q1,e1,e2,⟨e3,e4⟩,e5,e6⟩:=hA
 obtain ⟨s,u⟩:=a
 subst e1 e2 e4 e5 e6
 have e3:v1=.string s:=e3
 subst e3
 have happ:b3X s=some res:=happ
 unfold b3X at happ
 obtain ⟨hle,happ⟩:=y1 happ
 cases happ
 refine .inl ⟨hbS,(c2g s (Nat.le_of_ble_eq_true hle) σ.w).mono fun e w' ⟨e1,hB⟩=>⟨_,⟨w',b8j σ⟩,e1,rfl,?_,?_⟩⟩
 ·exact ⟨c0P hB,hB.below.os,hB.below.tape,hB.below.output,fun k hk _=>⟨hB.below.block k hk,by simp [b8j,hk]⟩⟩
 ·exact ⟨[_],[],[],rfl,rfl,⟨_,rfl,⟨rfl,rfl⟩⟩,rfl,List.nodup_nil,fun g hg=>by cases hg⟩
end Go.Qx
end
section
namespace Go.Qx
open Go Go.RowKit Go.Sx
section
variable {I:TypeId->Type} [∀ E,Rp (I E)] {P:Program}{tb:Tab I}{X X':Cxt}{c c':Cx}{σ τ:S}{s:St I}{n:Nat}{F:Fr}
def b0X:PV I->Bool
 | .int _ _=>true
 | .bool _=>true
 | .str _=>true
 | .nl _=>true
 | _=>false
theorem b7V:∀ {ls:List (PV I)} {cs:List Value},ls.all b0X=true->RG X c σ ls cs->RG X' c' σ ls cs
 | [],_,_,h=>by simp only [RG] at h ⊢; exact h
 | p::ls,cs,hp,h=>by
   simp only [List.all_cons,Bool.and_eq_true] at hp
   simp only [RG] at h ⊢
   obtain ⟨a,r,e,h1,h2⟩:=h
   refine ⟨a,r,e,?_,b7V hp.2 h2⟩
   rcases h1 with h1 | ⟨h1,v,e2,h3⟩
   ·exact .inl h1
   ·refine .inr ⟨h1,v,e2,?_⟩
    revert h3
    cases p<;>first | (intro h3; simp only [RV] at h3 ⊢; exact h3) | exact absurd hp.1 (by simp [b0X])
def c2r (tb:Tab I)(TS TM:TypeId)(rl:List ResultVar):Ex->St I->Option (I TS×List (PV I)):=fun e s=>match e with
 | .exit _=>none
 | _=>match a9w tb s rl with
   | some [.ptr l2 0]=>match s.O l2 with
     | some (some (.var T2 (.ptr l1 0::r) true))=>match s.O l1 with
       | some (some (.var T1 ls true))=>bif Nat.beq T1 TS&&Nat.beq T2 TM&&!(Nat.beq l1 l2)&&r.all b0X then Option.bind (ofG tb TS ls) fun d=>some (d,r) else none
       | _=>none
     | _=>none
   | _=>none
def c3i (E:TypeId)(nt:Nat)(xs:List (I E)):St I:=⟨nt,fun i=>bif Nat.beq i 0 then some (.sl E xs false) else none,fun _=>none,0⟩
def b2J (tb:Tab I)(E TS TM:TypeId)(m:Nat)(_:a0c I)(ρ:Type)(_:Obs I)(nb:Nat)(ps:List (PV I))(k:Ef I->Option ρ):Option ρ:=match ps with
 | [.sl E' xs _]=>Option.bind (a0y E E' xs) fun ys=>Option.bind (ofG tb TS [.sl E (ys.take m) false,.int .i64 0]) fun d=>Option.bind (tb.zero TM) fun zs =>
    k ⟨.ptr (nb+1) 0,[],[.var TS [.dat TS d] true,.var TM (.ptr nb 0::zs.drop 1) true]⟩
 | _=>none
theorem c4t (ht:TabOk P tb)(hmx:P.follows .mixedOrders=true){f:FuncId}{fn:Func}{E TS TM:TypeId}{m nt:Nat}{cd:Code}{rl:List ResultVar}{H:Hints I}{q:Nat}
 (hf : P.funcs[f]? = some fn) (hb : ∃ (i0 : Nat) (t0 : TypeId) (p0 : String), fn.body = some (.seq (.region i0 #[⟨some q, .assign (.const (.pointer none)), t0, p0, #[], none⟩] false) cd)) (hq : q ≠ 0) (hname : (fn.name == "runtime.NumGoroutine") = false) (hn : fn.ntmps = nt) (hres : fn.results.toList = rl) (hle : Nat.ble 1 nt = true) (hcode : a1n H cd 1 = true)
 (hex:∀ (xs:List (I E)) (d:I TS) (zs:List (PV I)),ofG tb TS [.sl E (xs.take m) false,.int .i64 0]=some d->tb.zero TM=some zs->a4E tb noD H cd 1 (I TS×List (PV I)) (c3i E nt xs) (c2r tb TS TM rl)=some (d,zs.drop 1)) :
 EntOk P (⟨f,b2J tb E TS TM m⟩:Ans I):=by
 obtain ⟨i0,t0,p0,hb⟩:=hb
 refine ⟨fun disp ρ O nb ps k=>?_,fun disp hd O nb ps ef he=>?_⟩
 ·show b2J tb E TS TM m disp ρ O nb ps k=(b2J tb E TS TM m disp (Ef I) O nb ps some).bind k
  unfold b2J
  split
  ·simp only [Option.bind_assoc,Option.bind_some]
  ·rfl
 ·intro X c σ s n F vs hX hO h hvs hfree
  have he':b2J tb E TS TM m disp (Ef I) O nb ps some=some ef:=he
  unfold b2J at he'
  split at he'
  ·rename_i E' xs full
   obtain ⟨ys,hys,he'⟩:=bind_some he'
   obtain ⟨d,hd',he'⟩:=bind_some he'
   obtain ⟨zs,hzs,he'⟩:=bind_some he'
   cases he'
   unfold a0y at hys
   split at hys
   ·rename_i hE
    subst hE
    cases hys
    simp only [RVs] at hvs
    obtain ⟨v,r,rfl,hv,hr⟩:=hvs
    subst hr
    let X0:Cxt:=⟨P,σ.N,fun _=>False⟩
    have hexec:=hex xs d zs hd' hzs
    have hini:Rel X0 (fun _=>none) σ (c3i E' nt xs) nt (Y9 (a2h [v]) (some q) (.pointer none)):=by
     refine ⟨rfl,fun i p hp=>?_,(fun _ _ h=>by cases h),(fun _ _ _ _ _ ⟨_,h⟩=>by cases h),(fun _ _ _ ⟨_,h⟩=>by cases h),fun _ _=>rfl,Nat.le_refl _,noN.nests fun _ _ _ _ _ _ h=>by cases h⟩
     have hp':(bif Nat.beq i 0 then some (PV.sl E' xs false) else none)=some p:=hp
     obtain ⟨hi,hp'⟩:=y1 hp'
     cases hp'
     have:=Nat.eq_of_beq_eq_true hi
     subst this
     simp only [RV] at hv
     obtain ⟨A,k,e,hs,_⟩:=hv
     have:Y9 (a2h [v]) (some q) (.pointer none) 0=v:=by
      have hb0:Nat.beq 0 q=false:=by
       cases hb0:Nat.beq 0 q with
       | false=>rfl
       | true=>exact absurd (Nat.eq_of_beq_eq_true hb0).symm hq
      simp [Y9,upd,hb0,a2h,List.getD]
     rw [this]
     simp only [RV]
     exact ⟨A,k,e,hs,fun e=>by cases e⟩
    refine .inl ⟨⟨fn,_,hf,hb,hname⟩,calls_of_wp hf hb ?_⟩
    have hle':=Nat.le_of_ble_eq_true hle
    have e:(⟨[v].toArray++Array.replicate (fn.ntmps - [v].toArray.size) undef,[]⟩:Act)=fr nt (a2h [v]):=by
     rw [hn]
     simp only [fr]
     congr 1
     apply Array.ext
     ·simp; omega
     ·intro i h1 h2
      simp only [Array.getElem_ofFn,a2h,Array.getElem_append]
      split
      ·rename_i hi; simp at hi; simp [List.getD,hi]
      ·rename_i hi; simp at hi; simp [List.getD,List.getElem?_eq_none (l:=[v]) (show [v].length<=i by simp; omega)]
    rw [e]
    refine wp_seq (wp_region_lit ?_)
    refine a1e (.pointer none) rfl rfl ?_
    refine wpList_nil (K4 ?_)
    refine a1O ht c12 hmx cd 1 hcode _ _ _ _ X0 _ σ _ _ rfl hexec hini fun ex s' c2 τ F' hfin hle2 hr st _=>?_
    have key:(∃ l1 l2 T1 T2 r ls,a9w tb s' rl=some [.ptr l2 0]/\s'.O l2=some (some (.var T2 (.ptr l1 0::r) true))/\s'.O l1=some (some (.var T1 ls true))/\(Nat.beq T1 TS&&Nat.beq T2 TM&&!(Nat.beq l1 l2)&&r.all b0X)=true/\ofG tb TS ls=some d/\r=zs.drop 1) ->
     ∃ v,(results fn (fr nt F').tmps).run P τ.w=.ok v τ.w/\∃ v' τ',Ending.returned v=.returned v'/\τ'.w=τ.w/\Stp X.M σ τ'/\∃ c',Cx.le c c'/\Rel X c' τ' (apE s nb ⟨.ptr (nb+1) 0,[],[.var TS [.dat TS d] true,.var TM (.ptr nb 0::zs.drop 1) true]⟩) n F/\RV X c' τ' (.ptr (nb+1) 0:PV I) v':=by
     rintro ⟨l1,l2,T1,T2,r,ls,g1,g2,g3,g4,g5,rfl⟩
     simp only [Bool.and_eq_true] at g4
     obtain ⟨⟨⟨t1,t2⟩,t3⟩,t4⟩:=g4
     have t1:=Nat.eq_of_beq_eq_true t1
     have t2:=Nat.eq_of_beq_eq_true t2
     subst t1
     subst t2
     have hne:l1≠l2:=fun e=>by subst e; simp at t3
     obtain ⟨ws,w1,w2⟩:=b4q ht hr g1
     simp only [RVs] at w1
     obtain ⟨v2,r2,rfl,hv2,hr2⟩:=w1
     subst hr2
     simp only [RV] at hv2
     obtain ⟨b2,w2',cc2,rfl⟩:=hv2
     obtain ⟨b2',cs2,k1,k2,k3,k4,_⟩:=hr.objs l2 _ g2
     rw [k1] at cc2
     cases cc2
     obtain ⟨b1,cs1,m1,m2,m3,m4,_⟩:=hr.objs l1 _ g3
     have hb1:σ.N<=b1:=(hr.mine l1 _ b1 ⟨_,g3⟩ m1 rfl).elim id False.elim
     have hb2:σ.N<=b2:=(hr.mine l2 _ b2 ⟨_,g2⟩ k1 rfl).elim id False.elim
     have hbne:b1≠b2:=fun e=>by
      subst e
      exact hne (hr.inj l1 l2 _ _ b1 ⟨_,g3⟩ ⟨_,g2⟩ m1 k1 rfl rfl)
     have stN:Stp NoB σ τ:=st.mono fun b hb hM=>hM.elim (fun (hM:σ.N<=b)=>by omega) id
     have h1:=h.step stN
     have hcd:Rp.cells τ d cs1:=b3p ht g5 m2
     simp only [a03,Bool.and_eq_true,Option.isNone_iff_eq_none] at hfree
     obtain ⟨f1,f2,_⟩:=hfree
     have f1:s.O nb=none:=f1
     have f2:s.O (nb+1)=none:=f2
     have hle1:Cx.le c (K0 c nb ⟨some ⟨b1,0,none⟩,0,0,some b1⟩):=a6b (h.nom nb f1)
     obtain ⟨n1,n2⟩:=h1.add (l:=nb) (o:=.var T1 [.dat T1 d] true) (p:=⟨some ⟨b1,0,none⟩,0,0,some b1⟩) f1 (fun g hg=>by
      cases hg
      refine ⟨.inl (Nat.le_trans h.base hb1),h.freshN stN hb1,fun l' p' ⟨o,ho⟩ hc hw=>?_⟩
      have:=(h.objs l' o ho).lt hc hw
      omega) ⟨b1,cs1,w7 _ _ _,RG.one hcd,m3,fun _=>m4 rfl,fun e=>by cases e⟩
     have f2':(Z1 s nb (some (.var T1 [.dat T1 d] true))).O (nb+1)=none:=by
      show upF s.O nb _ (nb+1)=none
      rw [Y4 (by omega)]; exact f2
     have hcs2:RG X (K0 (K0 c nb ⟨some ⟨b1,0,none⟩,0,0,some b1⟩) (nb+1) ⟨some ⟨b2,0,none⟩,0,0,some b2⟩) τ (.ptr nb 0::zs.drop 1) cs2:=by
      simp only [RG] at k2 ⊢
      obtain ⟨a,r0,e,q1,q2⟩:=k2
      refine ⟨a,r0,e,?_,b7V t4 q2⟩
      rcases q1 with q1 | ⟨_,v,e2,q3⟩
      ·exact absurd q1 (by simp [b3P])
      ·refine .inr ⟨rfl,v,e2,?_⟩
       simp only [RV] at q3 ⊢
       obtain ⟨b',w',q4,q5⟩:=q3
       rw [m1] at q4
       cases q4
       exact ⟨b1,some b1,by simp [K0],q5⟩
     obtain ⟨n3,n4⟩:=n2.add (l:=nb+1) (o:=.var T2 (.ptr nb 0::zs.drop 1) true) (p:=⟨some ⟨b2,0,none⟩,0,0,some b2⟩) f2' (fun g hg=>by
      cases hg
      refine ⟨.inl (Nat.le_trans h.base hb2),notIn.grow (s':=Z1 s nb (some (.var T1 [.dat T1 d] true))) (h.freshN stN hb2) h1 hle1 fun l' E E' u xs q e=>?_,fun l' p' ⟨o,ho⟩ hc hw=>?_⟩
      ·rcases j5 e with ⟨_,e'⟩ | ⟨_,e'⟩
       ·cases e'
       ·exact e'
      ·by_cases el:l'=nb
       ·subst el
        rw [w7] at hc
        cases hc
        cases hw
        exact hbne rfl
       ·have ho':s.O l'=some (some o):=(Y4 el).symm.trans ho
        have hc':c l'=some p':=by simpa [K0,el] using hc
        have:=(h.objs l' o ho').lt hc' hw
        omega) ⟨b2,cs2,w7 _ _ _,hcs2,k3,fun _=>k4 rfl,fun e=>by cases e⟩
     refine ⟨_,b5g (by rw [hres]; exact w2),_,τ,rfl,rfl,stN.no,_,Cx.le_trans n1 n3,n4,?_⟩
     simp only [a7k,RV]
     exact ⟨b2,_,w7 _ _ _,rfl⟩
    have hfin':(match a9w tb s' rl with
     | some [.ptr l2 0]=>match s'.O l2 with
       | some (some (.var T2 (.ptr l1 0::r) true))=>match s'.O l1 with
         | some (some (.var T1 ls true))=>bif Nat.beq T1 TS&&Nat.beq T2 TM&&!(Nat.beq l1 l2)&&r.all b0X then Option.bind (ofG tb TS ls) fun d=>some (d,r) else none
         | _=>none
       | _=>none
     | _=>none)=some (d,zs.drop 1)->∃ l1 l2 T1 T2 r ls,a9w tb s' rl=some [.ptr l2 0]/\s'.O l2=some (some (.var T2 (.ptr l1 0::r) true))/\s'.O l1=some (some (.var T1 ls true))/\(Nat.beq T1 TS&&Nat.beq T2 TM&&!(Nat.beq l1 l2)&&r.all b0X)=true/\ofG tb TS ls=some d/\r=zs.drop 1:=by
     intro hh
     split at hh
     ·rename_i l2 e1
      split at hh
      ·rename_i T2 l1 r e2
       split at hh
       ·rename_i T1 ls e3
        obtain ⟨q1,hh⟩:=y1 hh
        obtain ⟨d0,q2,hh⟩:=bind_some hh
        cases hh
        exact ⟨l1,l2,T1,T2,_,ls,e1,e2,e3,q1,q2,rfl⟩
       ·cases hh
      ·cases hh
     ·cases hh
    cases ex with
    | exit i=>cases hfin
    | normal =>
      obtain ⟨v,h1,v',τ',h2,h3⟩:=key (hfin' hfin)
      exact ⟨rfl,v,h1,v',τ',h2,h3⟩
    | ret =>
      obtain ⟨v,h1,v',τ',h2,h3⟩:=key (hfin' hfin)
      exact ⟨rfl,v,h1,v',τ',h2,h3⟩
   ·cases hys
  ·cases he'
end
end Go.Qx
end
section
namespace Go.Qx
open Go Go.RowKit Go.Sx
set_option maxHeartbeats 1600000
set_option maxRecDepth 100000
abbrev RK (r:Row I):Prop:=y3 Go.Proofs.Tryz.prog r
abbrev RO (r:Rio I):Prop:=b8l Go.Proofs.Tryz.prog r
def mkH (a:List (Nat×List (List Nat)))(b c:List (Nat×List Nat))(j:List (Nat×JH))(l:List (Nat×LH I))(k:List (Nat×KH I))(ns:List (Nat×NH I))(u:List (Nat×Nat)):Hints I :=
 ⟨fun i=>(asc a i).getD [],fun i=>(asc b i).getD [],fun i=>(asc c i).getD [],asc j,asc l,asc k,asc ns,fun i=>(asc u i).getD 0⟩
def w6:Hints I:=mkH [] [] [] [] [] [] [] []
structure En where
 ans:Ans I
 ok:EntOk Go.Proofs.Tryz.prog ans
def enL:List En->List (Ans I)
 | []=>[]
 | e::r=>e.ans::enL r
theorem a24:∀ l:List En,c1t Go.Proofs.Tryz.prog (enL l)
 | []=>trivial
 | e::r=>⟨e.ok,a24 r⟩
def eR {r:Row I}(h:RK r):En:=⟨c49 tb r,c4p a12 h⟩
def eO {r:Rio I}(h:RO r):En:=⟨c56 tb r,c44 a12 h⟩
def eS {r:Row I}(T f j:Nat)(is:List Nat)(h:a0v Go.Proofs.Tryz.prog r (a8d T f j is)):En:=⟨c08 tb r (b7d T f j is),b52 a12 h (fun _ _ _ _ _ _ _ _ _ hO h hc hv=>c1h hO h hc hv)⟩
def eM {r:Row I}(f j i:Nat)(h:a0v Go.Proofs.Tryz.prog r (a9g f j i)):En:=⟨c08 tb r (b9H f j i),b52 a12 h (fun _ _ _ _ _ _ _ _ _ _ _ hc hv=>c2u hc hv)⟩
theorem okR {r:Row I}(l:List En){fn:Func}(nt:Nat)(H:Hints I)(rl:List ResultVar)(hf:(Go.Proofs.Tryz.prog).funcs[r.f]?=some fn)
 (h : (fn.body, fn.name == "runtime.NumGoroutine", fn.ntmps, fn.results.toList, Nat.ble r.ps.length nt, a1n H (a5g fn) 1, r.run) = (some (a5g fn), false, nt, rl, true, true, b5Q r.ps (c35 tb (b6n (enL l) 3) H (a5g fn) nt r.ps r.rs rl))) : RK r := by
 simp only [Prod.mk.injEq] at h
 obtain ⟨h1,h2,h3,h4,h5,h6,h7⟩:=h
 exact c5X a12 (a1w (a24 l) 3) mixed nt hf h1 h2 h3 h4 h5 h6 h7
def cd2 (fn:Func):Code:=match a5g fn with
 | .seq _ b=>b
 | c=>c
theorem c6y (xs:List (I 3)):cut xs 0 (min (xs.length:Int) 50)=some (xs.take 50):=by
 unfold cut
 rw [if_pos ⟨by omega,by omega,by omega⟩]
 congr 1
 rw [show (0:Int).toNat=0 from rfl,List.drop_zero]
 by_cases h:xs.length<=50
 ·rw [List.take_of_length_le (by omega),List.take_of_length_le h]
 ·congr 1; omega
theorem c5J:(fun xs:List (I 3)=>a4E tb noD w6 (cd2 Go.Proofs.Tryz.f10) 1 (I 49×List (PV I)) (c3i 3 12 xs) (c2r tb 49 45 [.tmp 2])) =
 fun xs=>Option.bind (cut xs 0 (min (xs.length:Int) 50)) fun ys=>Option.bind (ofG tb 49 [.sl 3 ys false,.int .i64 0]) fun d=>Option.bind (tb.zero 45) fun zs=>some (d,zs.drop 1):=by kernel_rfl
def c6H:En:=⟨⟨10,b2J tb 3 49 45 50⟩,c4t (H:=w6) (q:=2) (rl:=[.tmp 2]) (nt:=12) (cd:=cd2 Go.Proofs.Tryz.f10) a12 mixed Go.Proofs.Tryz.func10 ⟨_,_,_,rfl⟩ (by decide) (by kernel_rfl) (by kernel_rfl) (by kernel_rfl) (by kernel_rfl) (by kernel_rfl) fun xs d zs h1 h2=>by
 have h:=congrFun c5J xs
 rw [c6y,Option.bind_some,h1,Option.bind_some,h2] at h
 exact h⟩
def c4T:Row I:=⟨172,[.d (.str),.d (.str)],[.k (.d (.int .i64))],b9k⟩
theorem c59:y3 Go.Proofs.Tryz.prog c4T:=c5Z Go.Proofs.Tryz.func172 (by kernel_rfl) rfl (by kernel_rfl) (by kernel_rfl)
def c5t:Row I:=⟨79,[.d (.sl 3)],[.k (.row 3 false)],a4b 8⟩
theorem c4e:y3 Go.Proofs.Tryz.prog c5t:=b9p a12 mixed Go.Proofs.Tryz.func79 (by kernel_rfl) (by kernel_rfl) (by kernel_rfl) Go.Proofs.Tryz.underlying22 rfl (by kernel_rfl) (fun _=>by kernel_rfl)
def c42:Row I:=⟨142,[.d (.sl 102)],[.k (.row 102 false)],a4b 40⟩
theorem c5z:y3 Go.Proofs.Tryz.prog c42:=b9p a12 mixed Go.Proofs.Tryz.func142 (by kernel_rfl) (by kernel_rfl) (by kernel_rfl) Go.Proofs.Tryz.underlying78 rfl (by kernel_rfl) (fun _=>by kernel_rfl)
def c4s:Rio I:=⟨110,9,[],[],c0v⟩
theorem c5x:b8l Go.Proofs.Tryz.prog c4s:=c2d (I:=I) (E:=9) Go.Proofs.Tryz.lay110 110 (by kernel_rfl) (fun x=>x) Iff.rfl ⟨_,_,Go.Proofs.Tryz.func110,rfl,by kernel_rfl⟩
def c5A:Row I:=⟨22,[.d (.str)],[.k (.d (.int .u32))],b3X⟩
theorem c36:y3 Go.Proofs.Tryz.prog c5A:=c5s
def a8l:Hints I:=mkH [(1,[[],[0],[0,1],[0,1,2],[0,1,2,3],[0,1,2,3,4],[0,1,2,3,4,5],[0,1,2],[0,1,2,7],[0,1,2,7,8],[0,1,2,7,8,9],[0,1,2,7,8,9,10],[0,1,2,3,4,5,6,7,8,9,10,11],[0,1,2,3,4,5,6,7,8,9,10,11,12]]),(3,[[],[0],[0,1],[0,1,2],[],[4],[4,5],[4,5,6],[0,1,2,3,4,5,6,7],[0,1,2,3,4,5,6,7,8],[],[0,1,2,3,4,5,6,7,8,9,10],[0,1,2,3,4,5,6,7,8,9,10,11]])] [] [] [] [] [] [] []
def a6T:Row I:=⟨12,[.var 49 (.k (.d (.dat 49))) true,.d (.int .i64)],[.k (.d (.int .i64))],y0⟩
theorem Q2:RK (a6T) :=
 okR [] 46 a8l [.tmp 4] Go.Proofs.Tryz.func12 (by kernel_rfl)
def a7d:Hints I:=mkH [(5,[[],[],[],[1,2],[1,2,3],[],[5],[5,6],[5,6,7],[5,6,7,8],[0,1,2,3,4,5,6,7,8,9],[],[0,1,2,3,4,5,6,7,8,9,10,11]]),(9,[[],[0],[],[2],[2,3],[2,3,4],[2,3,4,5],[2,3,4,5,6],[0,1,2,3,4,5,6,7],[0,1,2,3,4,5,6,7,8],[0,1,2,3,4,5,6,7,8,9]])] [] [] [] [(58,⟨1125899906842496,[],[(0,.lvs [.pv 49,.d (.sl 75),.d (.int .i64),.d (.bool),.d (.int .i64)])],[(7,.k (.row 75 false)),(8,.k (.d (.int .i64)))],[((.exit 0),[(7,.k (.row 75 false))])],bnd tb (.slot 2) 1⟩),
 (14922,⟨70364449211392,[],[(9,.lvs [.d (.str),.d (.str),.row 3 false,.d (.int .i64)]),(24,.k (.d (.dat 49)))],[(10,.k (.d (.int .i64)))],[((.exit 2),[])],bnd tb (.slot 10) 2⟩)] [] [] []
def a5s:Row I:=⟨25,[.var 45 (.lvs [.pv 49,.d (.sl 75),.d (.int .i64),.d (.bool),.d (.int .i64)]) true,.d (.str),.d (.int .i64)],[.k (.row 75 false)],a1J⟩
theorem a6s:RK (a5s) :=
 okR [eR Q2] 51 a7d [.tmp 6] Go.Proofs.Tryz.func25 (by kernel_rfl)
def a5x:Row I:=⟨13,[.var 45 (.lvs [.pv 49,.d (.sl 75),.d (.int .i64),.d (.bool),.d (.int .i64)]) true,.d (.str),.d (.int .i64)],[.k (.row 75 false)],a0A⟩
theorem a58:RK (a5x) :=
 okR [eR a6s] 11 w6 [.tmp 6] Go.Proofs.Tryz.func13 (by kernel_rfl)
def b1N:Row I:=⟨97,[.d (.str),.d (.str)],[.k (.d (.int .i64))],a4o⟩
theorem a5P:RK (b1N) :=
 okR [] 11 w6 [.tmp 4] Go.Proofs.Tryz.func97 (by kernel_rfl)
def a86:Row I:=⟨70,[.d (.dat 51),.d (.dat 51)],[.k (.d (.bool))],a40⟩
theorem a9I:RK (a86) :=
 okR [eR a5P] 24 w6 [.tmp 4] Go.Proofs.Tryz.func70 (by kernel_rfl)
def b1t:Hints I:=mkH [] [] [] [(62669,⟨1006633056,[],[],[(.normal,[(5,.k (.row 51 false)),(6,.k (.d (.bool)))])]⟩)] [(122,⟨34359736688,[],[],[(5,.k (.row 51 false)),(6,.k (.d (.bool))),(11,.k (.d (.int .i64)))],[((.exit 0),[(5,.k (.row 51 false)),(6,.k (.d (.bool)))]),(.ret,[(4,.k (.d (.sl 51)))])],bnd tb (.slot 10) 1⟩)] [] [] []
def a9N:Row I:=⟨42,[.d (.sl 51),.d (.dat 51)],[.k (.d (.sl 51))],a5Q⟩
theorem b0n:RK (a9N) :=
 okR [eR a9I] 42 b1t [.tmp 4] Go.Proofs.Tryz.func42 (by kernel_rfl)
def a9C:Hints I:=mkH [] [] [] [] [(58,⟨65320,[],[],[(3,.k (.d (.sl 51))),(8,.k (.d (.int .i64)))],[((.exit 0),[(3,.k (.d (.sl 51)))])],bnd tb (.slot 7) 1⟩)] [] [] []
def a75:Row I:=⟨23,[.d (.sl 51)],[.k (.d (.sl 51))],a0s⟩
theorem a8J:RK (a75) :=
 okR [eR b0n] 17 a9C [.tmp 2] Go.Proofs.Tryz.func23 (by kernel_rfl)
def a9G:Row I:=⟨72,[.d (.int .i64)],[.k (.d (.str))],a5N⟩
theorem b0g:RK (a9G) :=
 okR [] 7 w6 [.tmp 2] Go.Proofs.Tryz.func72 (by kernel_rfl)
def a9B:Row I:=⟨126,[.d (.int .u8)],[.k (.d (.bool))],a3f⟩
theorem b0k:RK (a9B) :=
 okR [] 17 w6 [.tmp 2] Go.Proofs.Tryz.func126 (by kernel_rfl)
def b0B:Row I:=⟨127,[.d (.int .u8)],[.k (.d (.bool))],a0e⟩
theorem b1a:RK (b0B) :=
 okR [] 9 w6 [.tmp 2] Go.Proofs.Tryz.func127 (by kernel_rfl)
def b3f:Hints I:=mkH [] [] [] [(978976521,⟨34253944624943037145398863266787883273185919104,[],[],[(.normal,[(7,.k (.d (.int .i64)))])]⟩)] [(58,⟨242833611528216133864932738352939863330300854881517440156476551217363035650651062268,[],[],[(4,.k (.row 174 false)),(5,.k (.d (.int .i64)))],[((.exit 0),[(4,.k (.row 174 false))]),(.ret,[(2,.k (.row 174 false)),(3,.k (.d (.bool)))])],bnd tb (.len (.slot 0)) 1⟩),
 (478008,⟨18014397435740288,[],[],[(7,.k (.d (.int .i64)))],[((.exit 3),[(7,.k (.d (.int .i64)))])],bnd tb (.len (.slot 0)) 1⟩),
 (1912056,⟨9901102462643812940843581568,[],[],[(7,.k (.d (.int .i64)))],[((.exit 5),[(7,.k (.d (.int .i64)))])],bnd tb (.len (.slot 0)) 1⟩),
 (7648248,⟨340199290171201906221318119490500690048,[],[],[(7,.k (.d (.int .i64)))],[((.exit 7),[(7,.k (.d (.int .i64)))])],bnd tb (.len (.slot 0)) 1⟩),
 (30593016,⟨182687007768075410693487431098339357195694506112,[],[],[(7,.k (.d (.int .i64)))],[((.exit 9),[(7,.k (.d (.int .i64)))])],bnd tb (.len (.slot 0)) 1⟩)] [] [] []
def b1F:Row I:=⟨98,[.d (.str)],[.k (.row 174 false),.k (.d (.bool))],a7Q⟩
theorem b2g:RK (b1F) :=
 okR [eR b0k,eR b1a] 278 b3f [.tmp 2,.tmp 3] Go.Proofs.Tryz.func98 (by kernel_rfl)
def a76:Hints I:=mkH [(1,[[],[0],[0,1],[0,1,2],[],[4],[4,5],[4,5,6],[4,5,6,7],[0,1,2,3,4,5,6,7,8]]),(2,[[],[0],[0,1],[0,1,2],[],[4],[4,5],[4,5,6],[0,1,2,3,4,5,6,7],[0,1,2,3,4,5,6,7,8],[0,1,2,3,4,5,6,7,8,9]])] [] [] [] [] [] [] []
def a7e:Row I:=⟨134,[.var 155 (.lvs [.d (.sl 174),.d (.int .i64),.d (.bool),.d (.bool),.d (.bool),.d (.int .i64),.row 81 true,.d (.int .i64),.d (.sl 9),.d (.sl 3),.d (.sl 4),.d (.sl 9)]) true],[.k (.d (.dat 174))],K3⟩
theorem W4:RK (a7e) :=
 okR [] 24 a76 [.cell 2 174] Go.Proofs.Tryz.func134 (by kernel_rfl)
def a6P:Hints I:=mkH [] [(1,[9,15])] [] [(12,⟨2097120,[],[(0,.lvs [.d (.sl 174),.d (.int .i64),.d (.bool),.d (.bool),.d (.bool),.d (.int .i64),.row 81 true,.d (.int .i64),.d (.sl 9),.d (.sl 3),.d (.sl 4),.d (.sl 9)])],[(.normal,[(20,.k (.d (.bool)))])]⟩),
 (978,⟨316912650057057350356995932172,[],[],[(.normal,[(3,.k (.d (.int .i64)))]),(.ret,[(2,.k (.d (.bool)))])]⟩),
 (62617,⟨65302194596872192,[],[],[(.normal,[(51,.k (.d (.bool)))])]⟩),
 (250477,⟨3746994889972252672,[],[],[(.normal,[(58,.k (.d (.bool)))])]⟩)] [(122,⟨316912650057057350374142246940,[],[],[(3,.k (.d (.int .i64))),(4,.k (.d (.int .i64)))],[((.exit 0),[]),(.ret,[(2,.k (.d (.bool)))])],bnd tb (.len (.ld 149 (.fld 155 0 (.slot 0)))) 1⟩)] [] [] []
def a5E:Row I:=⟨129,[.var 155 (.lvs [.d (.sl 174),.d (.int .i64),.d (.bool),.d (.bool),.d (.bool),.d (.int .i64),.row 81 true,.d (.int .i64),.d (.sl 9),.d (.sl 3),.d (.sl 4),.d (.sl 9)]) true],[.k (.d (.bool))],a3k⟩
theorem a50:RK (a5E) :=
 okR [eR W4] 98 a6P [.tmp 2] Go.Proofs.Tryz.func129 (by kernel_rfl)
def a7K:Row I:=⟨100,[.var 155 (.lvs [.d (.sl 174),.d (.int .i64),.d (.bool),.d (.bool),.d (.bool),.d (.int .i64),.row 81 true,.d (.int .i64),.d (.sl 9),.d (.sl 3),.d (.sl 4),.d (.sl 9)]) true,.d (.int .i64),.d (.str)],[.k (.d (.bool))],Z3⟩
theorem Q7:RK (a7K) :=
 okR [eR W4] 33 w6 [.tmp 6] Go.Proofs.Tryz.func100 (by kernel_rfl)
def a8G:Hints I:=mkH [(1,[[],[],[1],[1,2],[1,2,3],[1,2,3,4],[],[6],[1,2,3,4,5,6,7],[0,1,2,3,4,5,6,7,8],[0,1,2,3,4,5,6,7,8,9],[0,1,2,3,4,5,6,7,8,9,10],[0,1,2,3,4,5,6,7,8,9,10,11]])] [] [] [] [] [] [] []
def a7m:Row I:=⟨133,[.var 155 (.lvs [.d (.sl 174),.d (.int .i64),.d (.bool),.d (.bool),.d (.bool),.d (.int .i64),.row 81 true,.d (.int .i64),.d (.sl 9),.d (.sl 3),.d (.sl 4),.d (.sl 9)]) true,.d (.dat 81)],[.k (.d (.int .i64))],y2⟩
theorem Q5:RK (a7m) :=
 okR [] 24 a8G [.tmp 4] Go.Proofs.Tryz.func133 (by kernel_rfl)
def a6N:Row I:=⟨131,[.var 155 (.lvs [.d (.sl 174),.d (.int .i64),.d (.bool),.d (.bool),.d (.bool),.d (.int .i64),.row 81 true,.d (.int .i64),.d (.sl 9),.d (.sl 3),.d (.sl 4),.d (.sl 9)]) true,.d (.str)],[],Y6⟩
theorem W5:RK (a6N) :=
 okR [eR Q7] 11 w6 [] Go.Proofs.Tryz.func131 (by kernel_rfl)
def b1g:Row I:=⟨182,[.d (.int .u8)],[.k (.d (.bool))],a34⟩
theorem b2L:RK (b1g) :=
 okR [] 9 w6 [.tmp 2] Go.Proofs.Tryz.func182 (by kernel_rfl)
def b06:Row I:=⟨166,[.d (.int .u8)],[.k (.d (.bool))],a7P⟩
theorem b1R:RK (b06) :=
 okR [] 9 w6 [.tmp 2] Go.Proofs.Tryz.func166 (by kernel_rfl)
def b2B:Hints I:=mkH [] [] [] [] [(58,⟨4398046248972,[],[],[(3,.k (.d (.int .i64)))],[((.exit 0),[]),(.ret,[(2,.k (.d (.bool)))])],bnd tb (.len (.slot 0)) 1⟩)] [] [] []
def b0O:Row I:=⟨168,[.d (.str)],[.k (.d (.bool))],a2g⟩
theorem a2D:RK (b0O) :=
 okR [eR b2L,eR b1R] 42 b2B [.tmp 2] Go.Proofs.Tryz.func168 (by kernel_rfl)
def a8I:Row I:=⟨170,[.d (.dat 100)],[.k (.d (.bool))],a2X⟩
theorem a3Z:RK (a8I) :=
 okR [eR a2D] 22 w6 [.tmp 2] Go.Proofs.Tryz.func170 (by kernel_rfl)
def b1c:Row I:=⟨184,[.d (.int .i64),.d (.int .i64)],[.k (.d (.int .i64))],a7O⟩
theorem b2e:RK (b1c) :=
 okR [] 11 w6 [.tmp 4] Go.Proofs.Tryz.func184 (by kernel_rfl)
def a62:Row I:=⟨171,[.d (.dat 100),.d (.dat 100)],[.k (.d (.int .i64))],a17⟩
theorem a25:RK (a62) :=
 okR [eR b2e,eR a5P] 20 w6 [.tmp 4] Go.Proofs.Tryz.func171 (by kernel_rfl)
def a69:Hints I:=mkH [(2,[[],[],[1],[0,1,2],[0,1,2,3],[0,1,2,3,4],[0,1,2,3,4],[0,1,2,3,4,5,6],[0,1,2,3,4,5,6,7],[0,1,2,3,4,5,6,7,8],[0,1,2,3,4],[0,1,2,3,4,10],[0,1,2,3,4,5,6,7,8,9,10,11],[0,1,2,3,4,5,6,7,8,9,10,11,12],[0,1,2,3,4,5,6,7,8,9,10,11,12,13]]),(4,[[],[],[1],[0,1,2],[0,1,2,3],[0,1,2,3,4],[0,1,2,3,4],[0,1,2,3,4,5,6],[0,1,2,3,4,5,6,7],[0,1,2,3,4,5,6,7,8],[0,1,2,3,4],[0,1,2,3,4,10],[0,1,2,3,4,5,6,7,8,9,10,11],[0,1,2,3,4,5,6,7,8,9,10,11,12]]),(7,[[],[],[1],[0,1,2],[],[],[4,5],[0,1,2,3,4,5,6],[0,1,2,3,4,5,6,7]])] [] [] [(61,⟨7696581394432,[],[(0,.lvs [.d (.sl 174),.d (.int .i64),.d (.bool),.d (.bool),.d (.bool),.d (.int .i64),.row 81 true,.d (.int .i64),.d (.sl 9),.d (.sl 3),.d (.sl 4),.d (.sl 9)])],[(.normal,[])]⟩)] [(28,⟨67108480,[],[],[(7,.k (.d (.int .i64)))],[((.exit 0),[(7,.k (.d (.int .i64)))])],bnd tb (.len (.slot 1)) 1⟩)] [] [] []
def a5H:Row I:=⟨230,[.var 155 (.lvs [.d (.sl 174),.d (.int .i64),.d (.bool),.d (.bool),.d (.bool),.d (.int .i64),.row 81 true,.d (.int .i64),.d (.sl 9),.d (.sl 3),.d (.sl 4),.d (.sl 9)]) true,.d (.sl 102),.d (.dat 102)],[.k (.row 102 false)],a3j⟩
theorem a6g:RK (a5H) :=
 okR [eR a25] 55 a69 [.tmp 6] Go.Proofs.Tryz.func230 (by kernel_rfl)
def j8 (n:Nat):Row I:=⟨196,[.var 155 (.lvs [.d (.sl 174),.d (.int .i64),.d (.bool),.d (.bool),.d (.bool),.d (.int .i64),.row 81 true,.d (.int .i64),.d (.sl 9),.d (.sl 3),.d (.sl 4),.d (.sl 9)]) true,.d (.str)],[.k (.d (.int .i64))],a7a n⟩
def a7G (n:Nat):Hints I:=mkH [] [] [] [] [(28,⟨16264,[],[(0,.lvs [.d (.sl 174),.d (.int .i64),.d (.bool),.d (.bool),.d (.bool),.d (.int .i64),.row 81 true,.d (.int .i64),.d (.sl 9),.d (.sl 3),.d (.sl 4),.d (.sl 9)])],[(3,.k (.row 3 false))],[((.exit 0),[(3,.k (.row 3 false))])],fun _=>some n⟩)] [] [] []
def w4 (n:Nat):Row I:=⟨149,[.var 155 (.lvs [.d (.sl 174),.d (.int .i64),.d (.bool),.d (.bool),.d (.bool),.d (.int .i64),.row 81 true,.d (.int .i64),.d (.sl 9),.d (.sl 3),.d (.sl 4),.d (.sl 9)]) true],[.k (.d (.int .i64))],a9x n⟩
def a6q (n:Nat):Hints I:=mkH [(20,[[],[],[1],[0,1,2],[],[0,1,2,3,4]])] [(7,[46])] [] [(8146,⟨11139483563523841539937031148886364170223616,[],[(0,.lvs [.d (.sl 174),.d (.int .i64),.d (.bool),.d (.bool),.d (.bool),.d (.int .i64),.row 81 true,.d (.int .i64),.d (.sl 9),.d (.sl 3),.d (.sl 4),.d (.sl 9)]),(3,.lvs [.d (.int .i64),.d (.int .i64),.d (.int .i64),.d (.str),.row 3 false,.row 102 false,.d (.int .i64),.d (.int .i64)])],[(.normal,[])]⟩),
 (15916,⟨1125891316908032,[],[(0,.lvs [.d (.sl 174),.d (.int .i64),.d (.bool),.d (.bool),.d (.bool),.d (.int .i64),.row 81 true,.d (.int .i64),.d (.sl 9),.d (.sl 3),.d (.sl 4),.d (.sl 9)])],[(.normal,[(49,.k (.d (.bool)))])]⟩),
 (15917,⟨1298074214633706906006724175463300,[],[(0,.lvs [.d (.sl 174),.d (.int .i64),.d (.bool),.d (.bool),.d (.bool),.d (.int .i64),.row 81 true,.d (.int .i64),.d (.sl 9),.d (.sl 3),.d (.sl 4),.d (.sl 9)]),(3,.lvs [.d (.int .i64),.d (.int .i64),.d (.int .i64),.d (.str),.row 3 false,.row 102 false,.d (.int .i64),.d (.int .i64)]),(4,.k (.d (.dat 290)))],[(.normal,[]),(.ret,[(2,.k (.d (.int .i64)))])]⟩),
 (32584,⟨163335536122050462462419811567248741498880,[],[],[(.normal,[(136,.k (.d (.bool)))])]⟩),
 (254677,⟨128,[],[],[(.normal,[(7,.k (.d (.int .i64)))])]⟩),
 (254685,⟨302231454903657293676544,[],[(8,.k (.d (.dat 100)))],[(.normal,[])]⟩),
 (509358,⟨110680464442257309696,[],[(4,.k (.d (.dat 290)))],[(.normal,[])]⟩)] [(124,⟨83076749736557242056487941267489764,[],[(0,.lvs [.d (.sl 174),.d (.int .i64),.d (.bool),.d (.bool),.d (.bool),.d (.int .i64),.row 81 true,.d (.int .i64),.d (.sl 9),.d (.sl 3),.d (.sl 4),.d (.sl 9)]),(3,.lvs [.d (.int .i64),.d (.int .i64),.d (.int .i64),.d (.str),.row 3 false,.row 102 false,.d (.int .i64),.d (.int .i64)]),(4,.k (.d (.dat 290)))],[(5,.k (.d (.bool)))],[((.exit 0),[]),(.ret,[(2,.k (.d (.int .i64)))])],fun _=>some n⟩),
 (1018,⟨11149692034531469693840932387109317216568320,[],[(0,.lvs [.d (.sl 174),.d (.int .i64),.d (.bool),.d (.bool),.d (.bool),.d (.int .i64),.row 81 true,.d (.int .i64),.d (.sl 9),.d (.sl 3),.d (.sl 4),.d (.sl 9)]),(3,.lvs [.d (.int .i64),.d (.int .i64),.d (.int .i64),.d (.str),.row 3 false,.row 102 false,.d (.int .i64),.d (.int .i64)])],[(10,.k (.d (.int .i64)))],[((.exit 2),[])],bnd tb (.cst 2) 1⟩)] [] [] []
def k7 (n:Nat):Row I:=⟨211,[.var 155 (.lvs [.d (.sl 174),.d (.int .i64),.d (.bool),.d (.bool),.d (.bool),.d (.int .i64),.row 81 true,.d (.int .i64),.d (.sl 9),.d (.sl 3),.d (.sl 4),.d (.sl 9)]) true],[.k (.d (.int .i64))],a7B n⟩
def v7 (n:Nat):Row I:=⟨167,[.var 155 (.lvs [.d (.sl 174),.d (.int .i64),.d (.bool),.d (.bool),.d (.bool),.d (.int .i64),.row 81 true,.d (.int .i64),.d (.sl 9),.d (.sl 3),.d (.sl 4),.d (.sl 9)]) true],[.k (.d (.int .i64))],a8v n⟩
def k8 (n:Nat):Row I:=⟨99,[.var 155 (.lvs [.d (.sl 174),.d (.int .i64),.d (.bool),.d (.bool),.d (.bool),.d (.int .i64),.row 81 true,.d (.int .i64),.d (.sl 9),.d (.sl 3),.d (.sl 4),.d (.sl 9)]) true],[.k (.d (.int .i64))],a3Y n⟩
def k9 (n:Nat):Row I:=⟨181,[.var 155 (.lvs [.d (.sl 174),.d (.int .i64),.d (.bool),.d (.bool),.d (.bool),.d (.int .i64),.row 81 true,.d (.int .i64),.d (.sl 9),.d (.sl 3),.d (.sl 4),.d (.sl 9)]) true],[.k (.d (.int .i64))],a8q n⟩
def a7C (n:Nat):Hints I:=mkH [] [] [] [] [(60,⟨33553968,[],[(0,.lvs [.d (.sl 174),.d (.int .i64),.d (.bool),.d (.bool),.d (.bool),.d (.int .i64),.row 81 true,.d (.int .i64),.d (.sl 9),.d (.sl 3),.d (.sl 4),.d (.sl 9)])],[(5,.k (.row 3 false))],[((.exit 0),[]),(.ret,[(4,.k (.row 3 false))])],fun _=>some n⟩)] [] [] []
def w5 (n:Nat):Row I:=⟨132,[.var 155 (.lvs [.d (.sl 174),.d (.int .i64),.d (.bool),.d (.bool),.d (.bool),.d (.int .i64),.row 81 true,.d (.int .i64),.d (.sl 9),.d (.sl 3),.d (.sl 4),.d (.sl 9)]) true,.d (.str)],[.k (.row 3 false)],a8T n⟩
def a7z (n:Nat):Hints I:=mkH [] [] [] [] [(28,⟨16264,[],[(0,.lvs [.d (.sl 174),.d (.int .i64),.d (.bool),.d (.bool),.d (.bool),.d (.int .i64),.row 81 true,.d (.int .i64),.d (.sl 9),.d (.sl 3),.d (.sl 4),.d (.sl 9)])],[(3,.k (.row 3 false))],[((.exit 0),[(3,.k (.row 3 false))])],fun _=>some n⟩)] [] [] []
def v8 (n:Nat):Row I:=⟨130,[.var 155 (.lvs [.d (.sl 174),.d (.int .i64),.d (.bool),.d (.bool),.d (.bool),.d (.int .i64),.row 81 true,.d (.int .i64),.d (.sl 9),.d (.sl 3),.d (.sl 4),.d (.sl 9)]) true],[.k (.d (.int .i64))],a8W n⟩
def w8 (n:Nat):Row I:=⟨195,[.var 155 (.lvs [.d (.sl 174),.d (.int .i64),.d (.bool),.d (.bool),.d (.bool),.d (.int .i64),.row 81 true,.d (.int .i64),.d (.sl 9),.d (.sl 3),.d (.sl 4),.d (.sl 9)]) true,.d (.str)],[.k (.d (.int .i64))],a9Y n⟩
theorem a4W (n:Nat)(_:y3 Go.Proofs.Tryz.prog (j8 n))(_:y3 Go.Proofs.Tryz.prog (w4 n))(h_semtyperef18_typer_mapping:y3 Go.Proofs.Tryz.prog (k7 n))(_:y3 Go.Proofs.Tryz.prog (v7 n))(h_semtyperef18_typer_read:y3 Go.Proofs.Tryz.prog (k8 n))(_:y3 Go.Proofs.Tryz.prog (k9 n))(h_semtyperef18_typer_types:y3 Go.Proofs.Tryz.prog (w5 n))(_:y3 Go.Proofs.Tryz.prog (v8 n))(_:y3 Go.Proofs.Tryz.prog (w8 n)):RK (j8 (n+1)) :=
 okR [eR W4,eR a2D,eR Q5,eR h_semtyperef18_typer_read,eR W5,eR h_semtyperef18_typer_types,eR Q7,eR h_semtyperef18_typer_mapping] 94 w6 [.tmp 4] Go.Proofs.Tryz.func196 (by kernel_rfl)
theorem a59 (n:Nat)(_:y3 Go.Proofs.Tryz.prog (j8 n))(_:y3 Go.Proofs.Tryz.prog (w4 n))(_:y3 Go.Proofs.Tryz.prog (k7 n))(h_semtyperef18_typer_prefix:y3 Go.Proofs.Tryz.prog (v7 n))(_:y3 Go.Proofs.Tryz.prog (k8 n))(_:y3 Go.Proofs.Tryz.prog (k9 n))(_:y3 Go.Proofs.Tryz.prog (w5 n))(_:y3 Go.Proofs.Tryz.prog (v8 n))(_:y3 Go.Proofs.Tryz.prog (w8 n)):RK (w4 (n+1)) :=
 okR [eR h_semtyperef18_typer_prefix,eR Q7,eR Q5] 24 (a7G n) [.tmp 2] Go.Proofs.Tryz.func149 (by kernel_rfl)
theorem a5p (n:Nat)(_:y3 Go.Proofs.Tryz.prog (j8 n))(_:y3 Go.Proofs.Tryz.prog (w4 n))(_:y3 Go.Proofs.Tryz.prog (k7 n))(_:y3 Go.Proofs.Tryz.prog (v7 n))(h_semtyperef18_typer_read:y3 Go.Proofs.Tryz.prog (k8 n))(_:y3 Go.Proofs.Tryz.prog (k9 n))(_:y3 Go.Proofs.Tryz.prog (w5 n))(_:y3 Go.Proofs.Tryz.prog (v8 n))(_:y3 Go.Proofs.Tryz.prog (w8 n)):RK (k7 (n+1)) :=
 okR [eR Q7,eR W4,eR h_semtyperef18_typer_read,eR a3Z,eR W5,eR a6g,eR Q5] 146 (a6q n) [.tmp 2] Go.Proofs.Tryz.func211 (by kernel_rfl)
theorem a5K (n:Nat)(_:y3 Go.Proofs.Tryz.prog (j8 n))(_:y3 Go.Proofs.Tryz.prog (w4 n))(_:y3 Go.Proofs.Tryz.prog (k7 n))(h_semtyperef18_typer_prefix:y3 Go.Proofs.Tryz.prog (v7 n))(_:y3 Go.Proofs.Tryz.prog (k8 n))(h_semtyperef18_typer_simple:y3 Go.Proofs.Tryz.prog (k9 n))(_:y3 Go.Proofs.Tryz.prog (w5 n))(_:y3 Go.Proofs.Tryz.prog (v8 n))(_:y3 Go.Proofs.Tryz.prog (w8 n)):RK (v7 (n+1)) :=
 okR [eR Q7,eR h_semtyperef18_typer_prefix,eR Q5,eR h_semtyperef18_typer_simple] 19 w6 [.tmp 2] Go.Proofs.Tryz.func167 (by kernel_rfl)
theorem a6Y (n:Nat)(_:y3 Go.Proofs.Tryz.prog (j8 n))(_:y3 Go.Proofs.Tryz.prog (w4 n))(_:y3 Go.Proofs.Tryz.prog (k7 n))(_:y3 Go.Proofs.Tryz.prog (v7 n))(h_semtyperef18_typer_read:y3 Go.Proofs.Tryz.prog (k8 n))(_:y3 Go.Proofs.Tryz.prog (k9 n))(h_semtyperef18_typer_types:y3 Go.Proofs.Tryz.prog (w5 n))(h_semtyperef18_typer_union:y3 Go.Proofs.Tryz.prog (v8 n))(_:y3 Go.Proofs.Tryz.prog (w8 n)):RK (k8 (n+1)) :=
 okR [eR a50,eR h_semtyperef18_typer_union,eR W5,eR h_semtyperef18_typer_types,eR h_semtyperef18_typer_read,eR Q5] 45 w6 [.tmp 2] Go.Proofs.Tryz.func99 (by kernel_rfl)
theorem a5z (n:Nat)(h_semtyperef18_typer_compound:y3 Go.Proofs.Tryz.prog (j8 n))(_:y3 Go.Proofs.Tryz.prog (w4 n))(_:y3 Go.Proofs.Tryz.prog (k7 n))(_:y3 Go.Proofs.Tryz.prog (v7 n))(_:y3 Go.Proofs.Tryz.prog (k8 n))(_:y3 Go.Proofs.Tryz.prog (k9 n))(_:y3 Go.Proofs.Tryz.prog (w5 n))(_:y3 Go.Proofs.Tryz.prog (v8 n))(h_semtyperef18_typer_word:y3 Go.Proofs.Tryz.prog (w8 n)):RK (k9 (n+1)) :=
 okR [eR W4,eR Q5,eR h_semtyperef18_typer_word,eR h_semtyperef18_typer_compound] 112 w6 [.tmp 2] Go.Proofs.Tryz.func181 (by kernel_rfl)
theorem a6d (n:Nat)(_:y3 Go.Proofs.Tryz.prog (j8 n))(_:y3 Go.Proofs.Tryz.prog (w4 n))(_:y3 Go.Proofs.Tryz.prog (k7 n))(_:y3 Go.Proofs.Tryz.prog (v7 n))(h_semtyperef18_typer_read:y3 Go.Proofs.Tryz.prog (k8 n))(_:y3 Go.Proofs.Tryz.prog (k9 n))(_:y3 Go.Proofs.Tryz.prog (w5 n))(_:y3 Go.Proofs.Tryz.prog (v8 n))(_:y3 Go.Proofs.Tryz.prog (w8 n)):RK (w5 (n+1)) :=
 okR [eR Q7,eR h_semtyperef18_typer_read,eR W5] 25 (a7C n) [.tmp 4] Go.Proofs.Tryz.func132 (by kernel_rfl)
theorem a6l (n:Nat)(_:y3 Go.Proofs.Tryz.prog (j8 n))(h_semtyperef18_typer_inter:y3 Go.Proofs.Tryz.prog (w4 n))(_:y3 Go.Proofs.Tryz.prog (k7 n))(_:y3 Go.Proofs.Tryz.prog (v7 n))(_:y3 Go.Proofs.Tryz.prog (k8 n))(_:y3 Go.Proofs.Tryz.prog (k9 n))(_:y3 Go.Proofs.Tryz.prog (w5 n))(_:y3 Go.Proofs.Tryz.prog (v8 n))(_:y3 Go.Proofs.Tryz.prog (w8 n)):RK (v8 (n+1)) :=
 okR [eR h_semtyperef18_typer_inter,eR Q7,eR Q5] 24 (a7z n) [.tmp 2] Go.Proofs.Tryz.func130 (by kernel_rfl)
theorem a6Q (n:Nat)(_:y3 Go.Proofs.Tryz.prog (j8 n))(_:y3 Go.Proofs.Tryz.prog (w4 n))(_:y3 Go.Proofs.Tryz.prog (k7 n))(_:y3 Go.Proofs.Tryz.prog (v7 n))(h_semtyperef18_typer_read:y3 Go.Proofs.Tryz.prog (k8 n))(_:y3 Go.Proofs.Tryz.prog (k9 n))(_:y3 Go.Proofs.Tryz.prog (w5 n))(_:y3 Go.Proofs.Tryz.prog (v8 n))(_:y3 Go.Proofs.Tryz.prog (w8 n)):RK (w8 (n+1)) :=
 okR [eR Q5,eR W5,eR h_semtyperef18_typer_read] 94 w6 [.tmp 4] Go.Proofs.Tryz.func195 (by kernel_rfl)
theorem a1D:∀ n:Nat,y3 Go.Proofs.Tryz.prog (j8 n)/\y3 Go.Proofs.Tryz.prog (w4 n)/\y3 Go.Proofs.Tryz.prog (k7 n)/\y3 Go.Proofs.Tryz.prog (v7 n)/\y3 Go.Proofs.Tryz.prog (k8 n)/\y3 Go.Proofs.Tryz.prog (k9 n)/\y3 Go.Proofs.Tryz.prog (w5 n)/\y3 Go.Proofs.Tryz.prog (v8 n)/\y3 Go.Proofs.Tryz.prog (w8 n)
 | 0=>⟨a0S (by kernel_rfl),a0S (by kernel_rfl),a0S (by kernel_rfl),a0S (by kernel_rfl),a0S (by kernel_rfl),a0S (by kernel_rfl),a0S (by kernel_rfl),a0S (by kernel_rfl),a0S (by kernel_rfl)⟩
 | n+1=>by
   obtain ⟨h0,h1,h2,h3,h4,h5,h6,h7,h8⟩:=a1D n
   exact ⟨a4W n h0 h1 h2 h3 h4 h5 h6 h7 h8,a59 n h0 h1 h2 h3 h4 h5 h6 h7 h8,a5p n h0 h1 h2 h3 h4 h5 h6 h7 h8,a5K n h0 h1 h2 h3 h4 h5 h6 h7 h8,a6Y n h0 h1 h2 h3 h4 h5 h6 h7 h8,a5z n h0 h1 h2 h3 h4 h5 h6 h7 h8,a6d n h0 h1 h2 h3 h4 h5 h6 h7 h8,a6l n h0 h1 h2 h3 h4 h5 h6 h7 h8,a6Q n h0 h1 h2 h3 h4 h5 h6 h7 h8⟩
theorem a7D (n:Nat):y3 Go.Proofs.Tryz.prog (k8 n):=(a1D n).2.2.2.2.1
def a6B:Hints I:=mkH [] [] [] [] [(26,⟨268435394,[],[],[(1,.k (.d (.int .i64))),(6,.k (.d (.int .i64)))],[((.exit 0),[(1,.k (.d (.int .i64)))])],bnd tb (.cst 0) 1⟩)] [] [] []
def a5a:Row I:=⟨136,[.var 155 (.lvs [.d (.sl 174),.d (.int .i64),.d (.bool),.d (.bool),.d (.bool),.d (.int .i64),.row 81 true,.d (.int .i64),.d (.sl 9),.d (.sl 3),.d (.sl 4),.d (.sl 9)]) true,.d (.int .i64)],[.k (.d (.int .i64)),.k (.d (.bool))],J0⟩
theorem a5J:RK (a5a) :=
 okR [] 31 a6B [.tmp 4,.tmp 5] Go.Proofs.Tryz.func136 (by kernel_rfl)
def b1m:Row I:=⟨150,[.d (.dat 54),.d (.int .i64)],[.k (.d (.bool))],a0U⟩
theorem a5n:RK (b1m) :=
 okR [] 14 w6 [.tmp 4] Go.Proofs.Tryz.func150 (by kernel_rfl)
def b3D:Hints I:=mkH [(4,[[],[],[1],[],[1,2,3],[1,2,3,4],[0,1,2,3,4,5],[0,1,2,3,4,5,6]]),(47,[[],[],[1],[0,1,2],[0,1,2,3],[0,1,2,3,4],[0,1,2,3,4,5],[0,1,2,3,4,5,6],[0,1,2,3,4,5,6,7],[0,1,2,3,4,5,6,7,8],[0,1,2,3,4,5,6,7,8,9],[0,1,2,3,4,5,6,7,8,9,10],[0,1,2,3,4,5,6,7,8,9,10,11],[0,1,2,3,4,5,6,7,8,9,10,11,12],[0,1,2,3,4,5,6,7,8,9,10,11,12,13],[0,1,2,3,4,5,6,7,8,9,10,11,12,13,14],[0,1,2,3,4,5,6,7,8,9,10,11,12,13,14,15],[0,1,2,3,4,5,6,7,8,9,10,11,12,13,14],[0,1,2,3,4,5,6,7,8,9,10,11,12,13,14,17],[0,1,2,3,4,5,6,7,8,9,10,11,12,13,14,15,16,17,18],[0,1,2,3,4,5,6,7,8,9,10,11,12,13,14,15,16,17,18,19],[0,1,2,3,4,5,6,7,8,9,10,11,12,13,14,15,16,17,18,19,20],[0,1,2,3,4,5,6,7,8,9,10,11,12,13,14],[0,1,2,3,4,5,6,7,8,9,10,11,12,13,14,22],[0,1,2,3,4,5,6,7,8,9,10,11,12,13,14,15,16,17,18,19,20,21,22,23],[0,1,2,3,4,5,6,7,8,9,10,11,12,13,14,15,16,17,18,19,20,21,22,23,24],[0,1,2,3,4,5,6,7,8,9,10,11,12,13,14,15,16,17,18,19,20,21,22,23,24,25],[0,1,2,3,4,5,6,7,8,9,10,11,12,13,14,15,16,17,18,19,20,21,22,23,24,25,26]])] [] [] [(2092029,⟨2706308199418088717232151174730781556736,[],[],[(.normal,[(122,.k (.d (.bool)))])]⟩),
 (535560189,⟨3568119231764899702645714923623737840956866560,[],[],[(.normal,[(149,.k (.d (.bool)))])]⟩)] [(26,⟨67106864,[],[],[(5,.k (.d (.int .i64)))],[((.exit 0),[]),(.ret,[(4,.k (.d (.bool)))])],bnd tb (.len (.ld 22 (.fld 81 4 (.slot 3)))) 1⟩),
 (68551704562,⟨1606938044257528773904631189422958917689486710763136902759952,[],[],[(9,.k (.d (.int .i64)))],[((.exit 3),[]),(.ret,[(4,.k (.d (.bool)))])],bnd tb (.len (.ld 78 (.fld 81 5 (.slot 3)))) 1⟩)] [] [] []
def b1V:Row I:=⟨151,[.d (.dat 54),.d (.dat 81)],[.k (.d (.bool))],a9c⟩
theorem b3c:RK (b1V) :=
 okR [eR a5n,eR a2D,eR a3Z,eR a25] 216 b3D [.tmp 4] Go.Proofs.Tryz.func151 (by kernel_rfl)
def a9V:Row I:=⟨152,[.d (.dat 81)],[.k (.d (.bool))],a5M⟩
theorem b0i:RK (a9V) :=
 okR [] 16 w6 [.tmp 2] Go.Proofs.Tryz.func152 (by kernel_rfl)
def a9i (n:Nat):Hints I:=mkH [(6,[[],[],[1],[],[1,2,3],[1,2,3,4],[0,1,2,3,4,5],[0,1,2,3,4,5,6]])] [] [] [] [(58,⟨1073709068,[],[],[(3,.k (.d (.int .i64)))],[((.exit 0),[]),(.ret,[(2,.k (.d (.int .i64)))])],bnd tb (.len (.ld 52 (.fld 54 0 (.slot 1)))) 1⟩),
 (250,⟨4951760157141521082416628192,[],[],[(4,.k (.row 4 false)),(5,.k (.d (.int .i64)))],[((.exit 2),[(4,.k (.row 4 false))])],bnd tb (.len (.ld 52 (.fld 54 0 (.slot 1)))) 1⟩),
 (506,⟨10136253041668693690874029146628,[],[],[(4,.k (.row 4 false)),(9,.k (.d (.int .i64)))],[((.exit 8),[(4,.k (.row 4 false))]),(.ret,[(2,.k (.d (.int .i64))),(4,.k (.row 4 false))])],bnd tb (.len (.slot 4)) 1⟩),
 (16018,⟨4951760157141518900573241792,[],[],[(4,.k (.row 4 false)),(6,.k (.d (.int .i64)))],[((.exit 4),[(4,.k (.row 4 false))])],bnd tb (.len (.ld 52 (.fld 54 0 (.slot 1)))) 1⟩),
 (4100682,⟨4835703278177041722114432,[],[],[(4,.k (.row 4 false)),(7,.k (.d (.bool))),(8,.k (.d (.int .i64)))],[((.exit 6),[(4,.k (.row 4 false)),(7,.k (.d (.bool)))])],fun _=>some n⟩)] [] [] []
def a7r (n:Nat):Row I:=⟨137,[.d (.dat 54)],[.k (.d (.int .i64))],a39 n⟩
theorem a8k (n:Nat):RK (a7r n) :=
 okR [eR a5n,eR b3c,eR b0i] 103 (a9i n) [.tmp 2] Go.Proofs.Tryz.func137 (by kernel_rfl)
def a6U (n:Nat):Hints I:=mkH [(18,[[],[0],[],[],[],[4],[],[4,5,6],[4,5,6,7],[3,4,5,6,7,8],[3,4,5,6,7,8,9],[3,4,5,6,7,8,9,10],[3,4,5,6,7,8,9,10],[0,1,2,3,4,5,6,7,8,9,10,11],[0,1,2,3,4,5,6,7,8,9,10,11,13]]),(22,[[],[0],[],[],[],[4],[],[4,5,6],[4,5,6,7],[4,5,6,7,8],[3,4,5,6,7,8,9],[3,4,5,6,7,8,9,10],[3,4,5,6,7,8,9,10,11],[3,4,5,6,7,8,9,10,11],[0,1,2,3,4,5,6,7,8,9,10,11,12],[0,1,2,3,4,5,6,7,8,9,10,11,12,14],[0,1,2,3,4,5,6,7,8,9,10,11,12,14,15]])] [] [] [(16683940,⟨87091018283827687992657438589568176619520,[],[(0,.lvs [.d (.sl 174),.d (.int .i64),.d (.bool),.d (.bool),.d (.bool),.d (.int .i64),.row 81 true,.d (.int .i64),.d (.sl 9),.d (.sl 3),.d (.sl 4),.d (.sl 9)]),(12,.k (.d (.dat 81)))],[(.normal,[])]⟩)] [(58,⟨4398046380992,[],[(0,.lvs [.d (.sl 174),.d (.int .i64),.d (.bool),.d (.bool),.d (.bool),.d (.int .i64),.row 81 true,.d (.int .i64),.d (.sl 9),.d (.sl 3),.d (.sl 4),.d (.sl 9)])],[(6,.k (.d (.bool))),(7,.k (.d (.int .i64)))],[((.exit 0),[(6,.k (.d (.bool)))])],fun _=>some n⟩),
 (1018,⟨5575186299632655785383929559154891121817600,[],[(0,.lvs [.d (.sl 174),.d (.int .i64),.d (.bool),.d (.bool),.d (.bool),.d (.int .i64),.row 81 true,.d (.int .i64),.d (.sl 9),.d (.sl 3),.d (.sl 4),.d (.sl 9)]),(10,.lvs [.row 81 false,.d (.int .i64)])],[(11,.k (.d (.int .i64)))],[((.exit 2),[])],fun _=>some n⟩),
 (260682,⟨4951757795958279664773898240,[],[(0,.lvs [.d (.sl 174),.d (.int .i64),.d (.bool),.d (.bool),.d (.bool),.d (.int .i64),.row 81 true,.d (.int .i64),.d (.sl 9),.d (.sl 3),.d (.sl 4),.d (.sl 9)])],[(13,.k (.d (.int .i64)))],[((.exit 4),[])],bnd tb (.len (.ld 22 (.fld 81 4 (.slot 12)))) 1⟩),
 (521370,⟨41538369916518463886722871037280256,[],[(0,.lvs [.d (.sl 174),.d (.int .i64),.d (.bool),.d (.bool),.d (.bool),.d (.int .i64),.row 81 true,.d (.int .i64),.d (.sl 9),.d (.sl 3),.d (.sl 4),.d (.sl 9)])],[(14,.k (.d (.int .i64)))],[((.exit 6),[])],bnd tb (.len (.ld 78 (.fld 81 5 (.slot 12)))) 1⟩),
 (1042746,⟨87112244393385378368002871258562028404736,[],[(0,.lvs [.d (.sl 174),.d (.int .i64),.d (.bool),.d (.bool),.d (.bool),.d (.int .i64),.row 81 true,.d (.int .i64),.d (.sl 9),.d (.sl 3),.d (.sl 4),.d (.sl 9)]),(12,.k (.d (.dat 81)))],[(15,.k (.d (.int .i64)))],[((.exit 8),[])],bnd tb (.cst 2) 1⟩)] [] [] []
def a5G (n:Nat):Row I:=⟨102,[.var 155 (.lvs [.d (.sl 174),.d (.int .i64),.d (.bool),.d (.bool),.d (.bool),.d (.int .i64),.row 81 true,.d (.int .i64),.d (.sl 9),.d (.sl 3),.d (.sl 4),.d (.sl 9)]) true,.d (.int .i64)],[.k (.d (.dat 54)),.k (.d (.int .i64))],a3p n⟩
theorem a5U (n:Nat):RK (a5G n) :=
 okR [eR a5J,eR (a8k n)] 148 (a6U n) [.cell 4 54,.tmp 5] Go.Proofs.Tryz.func102 (by kernel_rfl)
def a9b (_:Nat):Hints I:=mkH [] [] [] [] [(4090,⟨147573389639722991880,[],[(2,.lvs [.row 81 false,.d (.int .i64)])],[(8,.k (.d (.int .i64)))],[((.exit 2),[]),(.ret,[(3,.k (.d (.int .i64)))])],bnd tb (.len (.ld 153 (.fld 155 9 (.slot 6)))) 1⟩)] [] [] []
def a7q (n:Nat):Row I:=⟨71,[.d (.str)],[.k (.d (.dat 54)),.k (.d (.int .i64))],a4i n⟩
theorem a72 (n:Nat):RK (a7q n) :=
 okR [eR b2g,eR (a7D n),eR Q7,eR (a5U n)] 92 (a9b n) [.cell 2 54,.tmp 3] Go.Proofs.Tryz.func71 (by kernel_rfl)
def b2o (n:Nat):Row I:=⟨43,[.d (.int .i64)],[.k (.d (.dat 54))],J6 n⟩
theorem b2U (n:Nat):RK (b2o n) :=
 okR [eR b0g,eR (a72 n)] 12 w6 [.cell 2 54] Go.Proofs.Tryz.func43 (by kernel_rfl)
def a9M (_:Nat):Hints I:=mkH [(3,[[],[0],[0,1],[],[3],[3,4],[0,1,2,3,4,5],[0,1,2,3,4,5,6],[]])] [] [] [(1026811517,⟨316835278804602014106994606080,[],[(10,.k (.d (.dat 81)))],[(.normal,[])]⟩)] [(122,⟨324518553658426726783155752234440,[26],[(4,.lvs [.d (.int .i64),.d (.int .i64),.d (.int .i64),.d (.str),.row 3 false,.row 102 false,.d (.int .i64),.d (.int .i64)])],[(3,.k (.row 81 false)),(28,.k (.d (.int .i64)))],[((.exit 0),[(3,.k (.row 81 false))])],bnd tb (.slot 27) 1⟩),
 (250686,⟨162259276829213363110103033670664,[],[],[(3,.k (.row 81 false)),(48,.k (.d (.int .i64)))],[((.exit 2),[(3,.k (.row 81 false))])],bnd tb (.slot 47) 1⟩),
 (256702874,⟨73750947497819252736,[],[],[(11,.k (.row 3 false)),(55,.k (.d (.int .i64)))],[((.exit 4),[(11,.k (.row 3 false))])],bnd tb (.slot 54) 1⟩),
 (1026811514,⟨9670816261106674692079616,[],[],[(14,.k (.row 102 false)),(69,.k (.d (.int .i64)))],[((.exit 6),[(14,.k (.row 102 false))])],bnd tb (.slot 68) 1⟩)] [] [] []
def a8f (n:Nat):Row I:=⟨24,[.d (.dat 75)],[.k (.d (.dat 57))],a0w n⟩
theorem a8R (n:Nat):RK (a8f n) :=
 okR [eR (b2U n)] 120 (a9M n) [.cell 2 57] Go.Proofs.Tryz.func24 (by kernel_rfl)
def a9K (_:Nat):Hints I:=mkH [(15,[[],[0],[],[0,1,2],[0,1,2,3],[0,1,2,3,4],[0,1,2,3,4,5],[0,1,2,3,4,5,6],[0,1,2,3,4,5,6,7],[0,1,2,3,4,5,6,7,8],[0,1,2,3,4,5,6,7,8,9],[0,1,2,3,4,5,6,7,8,9,10],[0,1,2,3,4,5,6,7,8,9],[0,1,2,3,4,5,6,7,8,9,12],[0,1,2,3,4,5,6,7,8,9,12,13],[0,1,2,3,4,5,6,7,8,9,12,13,14],[0,1,2,3,4,5,6,7,8,9,10,11,12,13,14,15],[0,1,2,3,4,5,6,7,8,9,10,11,12,13,14,15,16],[0,1,2,3,4,5,6,7,8,9,10,11,12,13,14,15,16,17],[0,1,2,3,4,5,6,7,8,9],[0,1,2,3,4,5,6,7,8,9,10,11,12,13,14,15,16,17,18,19],[0,1,2,3,4,5,6,7,8,9,10,11,12,13,14,15,16,17,18,19,20],[0,1,2,3,4,5,6,7,8,9,10,11,12,13,14,15,16,17,18,19,20,21]])] [] [] [] [(122,⟨34357642496,[],[],[(8,.k (.row 51 false)),(21,.k (.d (.int .i64)))],[((.exit 0),[(8,.k (.row 51 false))])],bnd tb (.slot 20) 1⟩),
 (250,⟨2417851639228983471558656,[7],[(7,.lvs [.d (.str),.d (.bool),.row 57 true])],[(38,.k (.d (.int .i64)))],[((.exit 2),[])],bnd tb (.slot 37) 1⟩),
 (64102,⟨1208925819597036988710912,[7],[(7,.lvs [.d (.str),.d (.bool),.row 57 true])],[(44,.k (.d (.int .i64)))],[((.exit 4),[])],bnd tb (.slot 43) 1⟩)] [] [] []
def a7X (n:Nat):Row I:=⟨11,[.d (.str),.d (.bool),.d (.sl 75)],[.lvs [.d (.str),.d (.bool),.row 57 true]],a1q n⟩
theorem a9j (n:Nat):RK (a7X n) :=
 okR [eR a8J,eR (a8R n)] 82 (a9K n) [.cell 6 25] Go.Proofs.Tryz.func11 (by kernel_rfl)
def a4S:Row I:=⟨44,[.var 49 (.k (.d (.dat 49))) true],[.k (.d (.str))],a0m⟩
theorem a4Z:RK (a4S) :=
 okR [eR Q2] 8 w6 [.tmp 2] Go.Proofs.Tryz.func44 (by kernel_rfl)
def a7g:Row I:=⟨45,[.var 49 (.k (.d (.dat 49))) true],[.k (.d (.str))],a02⟩
theorem a7I:RK (a7g) :=
 okR [eR Q2] 8 w6 [.tmp 2] Go.Proofs.Tryz.func45 (by kernel_rfl)
def a6o:Row I:=⟨46,[.var 49 (.k (.d (.dat 49))) true],[.k (.d (.str))],a0R⟩
theorem a67:RK (a6o) :=
 okR [eR Q2] 8 w6 [.tmp 2] Go.Proofs.Tryz.func46 (by kernel_rfl)
def a6c:Hints I:=mkH [] [] [] [] [(28,⟨16776706,[],[(0,.k (.d (.dat 49)))],[(1,.k (.d (.int .i64))),(9,.k (.row 3 false))],[((.exit 0),[(9,.k (.row 3 false))])],bnd tb (.slot 1) 2⟩)] [] [] []
def a5c:Row I:=⟨47,[.var 49 (.k (.d (.dat 49))) true,.d (.int .i64),.d (.int .i64),.d (.int .i64)],[.k (.row 3 false)],y4⟩
theorem a5C:RK (a5c) :=
 okR [eR Q2] 25 a6c [.tmp 8] Go.Proofs.Tryz.func47 (by kernel_rfl)
def a6r:Hints I:=mkH [(7,[[],[0],[],[],[2,3],[2,3,4],[],[],[6,7],[],[6,7,8,9],[6,7,8,9,10],[2,3,4,5,6,7,8,9,10,11],[2,3,4,5,6,7,8,9,10,11,12],[0,1,2,3,4,5,6,7,8,9,10,11,12,13],[0,1,2,3,4,5,6,7,8,9,10,11,12,13,14],[0,1,2,3,4,5,6,7,8,9,10,11,12,13,14,15]])] [] [] [(978,⟨8796076244992,[],[(0,.k (.d (.dat 49))),(5,.lvs [.d (.int .i64),.d (.int .i64),.d (.int .i64),.d (.str),.row 3 false,.row 102 false,.d (.int .i64),.d (.int .i64)])],[(.normal,[])]⟩)] [(122,⟨8796091973760,[6],[(0,.k (.d (.dat 49))),(5,.lvs [.d (.int .i64),.d (.int .i64),.d (.int .i64),.d (.str),.row 3 false,.row 102 false,.d (.int .i64),.d (.int .i64)])],[(7,.k (.d (.int .i64)))],[((.exit 0),[])],bnd tb (.cst 3) 1⟩)] [] [] []
def a5o:Row I:=⟨48,[.var 49 (.k (.d (.dat 49))) true,.d (.int .i64)],[.k (.d (.dat 81))],a0r⟩
theorem a5y:RK (a5o) :=
 okR [eR Q2] 44 a6r [.cell 4 81] Go.Proofs.Tryz.func48 (by kernel_rfl)
def a8r:Hints I:=mkH [(8,[[],[],[0,1],[0,1,2],[],[],[],[],[7],[6,7,8],[5,6,7,8,9],[4,5,6,7,8,9,10],[4,5,6,7,8,9,10,11],[0,1,2,3,4,5,6,7,8,9,10,11,12],[0,1,2,3,4,5,6,7,8,9,10,11,12,13]])] [] [] [(29,⟨128,[],[],[(.normal,[(7,.k (.d (.int .i64)))])]⟩),
 (32243709,⟨47223664828696452136960,[],[],[(.normal,[(73,.k (.d (.bool)))])]⟩),
 (2063597565,⟨49517601571415210995964968960,[],[],[(.normal,[(93,.k (.d (.bool)))])]⟩)] [] [] [] []
def a7i:Row I:=⟨26,[.var 49 (.k (.d (.dat 49))) true,.d (.int .i64),.d (.int .i64)],[.k (.d (.dat 81))],a06⟩
theorem a7y:RK (a7i) :=
 okR [eR Q2,eR a4Z,eR a7I,eR a67,eR a5C,eR a5y] 128 a8r [.cell 6 81] Go.Proofs.Tryz.func26 (by kernel_rfl)
def a73:Hints I:=mkH [(6,[[],[0],[],[],[],[2,3,4],[2,3,4,5],[0,1,2,3,4,5,6],[0,1,2,3,4,5,6,7],[0,1,2,3,4,5,6,7,8]])] [] [] [] [(122,⟨16776256,[],[(0,.k (.d (.dat 49))),(5,.lvs [.row 81 false,.d (.int .i64)])],[(6,.k (.d (.int .i64)))],[((.exit 0),[])],bnd tb (.slot 1) 1⟩)] [] [] []
def a7c:Row I:=⟨14,[.var 49 (.k (.d (.dat 49))) true,.d (.int .i64)],[.k (.d (.dat 54))],a04⟩
theorem a7n:RK (a7c) :=
 okR [eR a7y] 25 a73 [.cell 4 54] Go.Proofs.Tryz.func14 (by kernel_rfl)
def b2V (_:Nat):Hints I:=mkH [(2,[[],[],[1],[1,2],[1,2,3],[1,2,3,4],[0,1,2,3,4,5],[0,1,2,3,4,5,6],[],[8],[8,9],[8,9,10],[1,2,3,4,5,8,9,10,11],[1,2,3,4,5,8,9,10,11,12],[],[],[15],[15,16],[15,16,17],[1,2,3,4,5,8,9,10,11,12,15,16,17,18],[1,2,3,4,5,8,9,10,11,12,15,16,17,18,19],[1,2,3,4,5,8,9,10,11,12,14,15,16,17,18,19,20],[0,1,2,3,4,5,6,7,8,9,10,11,12,13,14,15,16,17,18,19,20,21],[],[0,1,2,3,4,5,6,7,8,9,10,11,12,13,14,15,16,17,18,19,20,21,22,23]]),(6,[[],[0],[],[2],[2,3],[2,3,4],[2,3,4,5],[2,3,4,5,6],[],[],[2,3,4,5,6,9],[2,3,4,5,6,9,10],[2,3,4,5,6,8,9,10,11],[2,3,4,5,6,7,8,9,10,11,12],[2,3,4,5,6,7,8,9,10,11,12,13],[0,1,2,3,4,5,6,7,8,9,10,11,12,13,14],[0,1,2,3,4,5,6,7,8,9,10,11,12,13,14,15],[0,1,2,3,4,5,6,7,8,9,10,11,12,13,14,15,16]])] [] [] [] [] [] [] []
def b1i (n:Nat):Row I:=⟨5,[.d (.sl 3)],[.k (.d (.dat 25))],a1B n⟩
theorem b1L (n:Nat):RK (b1i n) :=
 okR [c6H,eR Q2,eR a58,eR (a9j n),eR a7n] 59 (b2V n) [.cell 2 25] Go.Proofs.Tryz.func5 (by kernel_rfl)
def b7v:Hints I:=mkH [] [] [] [] [(58,⟨34351349952,[],[],[(7,.k (.d (.int .i64)))],[((.exit 0),[]),(.ret,[(6,.k (.d (.bool)))])],bnd tb (.len (.slot 0)) 1⟩)] [] [] []
def b5j:Row I:=⟨73,[.d (.str),.fn [.int .u8] [.k (.d (.bool))],.fn [.int .u8] [.k (.d (.bool))]],[.k (.d (.bool))],a3C⟩
theorem a92:RK (b5j) :=
 okR [] 35 b7v [.tmp 6] Go.Proofs.Tryz.func73 (by kernel_rfl)
def b48:Row I:=⟨74,[.d (.int .u8)],[.k (.d (.bool))],a2a⟩
theorem a4v:RK (b48) :=
 okR [] 9 w6 [.tmp 2] Go.Proofs.Tryz.func74 (by kernel_rfl)
def b4Y:Row I:=⟨76,[.d (.int .u8)],[.k (.d (.bool))],a3b⟩
theorem a9l:RK (b4Y) :=
 okR [] 9 w6 [.tmp 2] Go.Proofs.Tryz.func76 (by kernel_rfl)
def b4j:Row I:=⟨75,[.d (.int .u8)],[.k (.d (.bool))],a5T⟩
theorem b4V:RK (b4j) :=
 okR [eR a4v,eR a9l] 13 w6 [.tmp 2] Go.Proofs.Tryz.func75 (by kernel_rfl)
def b5G:Row I:=⟨49,[.d (.str)],[.k (.d (.bool))],a2J⟩
theorem a43:RK (b5G) :=
 okR [eR a92,eR a4v,eR b4V] 5 w6 [.tmp 2] Go.Proofs.Tryz.func49 (by kernel_rfl)
def b4a:Row I:=⟨50,[.d (.str)],[.k (.d (.bool))],b1e⟩
theorem b4Z:RK (b4a) :=
 okR [] 9 w6 [.tmp 2] Go.Proofs.Tryz.func50 (by kernel_rfl)
def b7n:Row I:=⟨27,[.d (.str)],[.k (.d (.bool))],a0H⟩
theorem b72:RK (b7n) :=
 okR [eR a43,eR b4Z] 10 w6 [.tmp 2] Go.Proofs.Tryz.func27 (by kernel_rfl)
def b2m:Hints I:=mkH [] [] [] [(29,⟨16776824,[],[],[(.normal,[(3,.k (.d (.bool))),(4,.k (.d (.bool))),(5,.k (.d (.bool))),(6,.k (.d (.bool)))])]⟩),
 (941,⟨26624,[],[],[(.normal,[(11,.k (.d (.bool)))])]⟩),
 (3773,⟨4096000,[],[],[(.normal,[(15,.k (.d (.bool)))])]⟩)] [] [] [] []
def b0z:Row I:=⟨51,[.d (.dat 81)],[.k (.d (.bool))],a2r⟩
theorem b1l:RK (b0z) :=
 okR [] 67 b2m [.tmp 2] Go.Proofs.Tryz.func51 (by kernel_rfl)
def b5d:Row I:=⟨103,[.d (.int .u8)],[.k (.d (.bool))],a26⟩
theorem a9f:RK (b5d) :=
 okR [] 9 w6 [.tmp 2] Go.Proofs.Tryz.func103 (by kernel_rfl)
def b0s:Row I:=⟨104,[.d (.int .u8)],[.k (.d (.bool))],a3H⟩
theorem b1x:RK (b0s) :=
 okR [eR a4v,eR a9f,eR a9l] 17 w6 [.tmp 2] Go.Proofs.Tryz.func104 (by kernel_rfl)
def b1S:Row I:=⟨77,[.d (.str)],[.k (.d (.bool))],a2T⟩
theorem b2Y:RK (b1S) :=
 okR [eR a92,eR a9f,eR b1x] 5 w6 [.tmp 2] Go.Proofs.Tryz.func77 (by kernel_rfl)
def b4d:Row I:=⟨105,[.d (.dat 100)],[.k (.d (.bool))],a3M⟩
theorem b5a:RK (b4d) :=
 okR [eR a43] 16 w6 [.tmp 2] Go.Proofs.Tryz.func105 (by kernel_rfl)
def b4W:Row I:=⟨83,[.d (.int .i64)],[.k (.d (.bool))],a29⟩
theorem b5l:RK (b4W) :=
 okR [] 6 w6 [.tmp 2] Go.Proofs.Tryz.func83 (by kernel_rfl)
def b3b:Row I:=⟨57,[.d (.int .i64),.d (.int .i64)],[.k (.d (.int .i64))],a0O⟩
theorem a60:RK (b3b) :=
 okR [eR b5l] 20 w6 [.tmp 4] Go.Proofs.Tryz.func57 (by kernel_rfl)
def a32:Row I:=⟨153,[.d (.str),.d (.str)],[.k (.d (.int .i64))],a0F⟩
theorem a4g:RK (a32) :=
 okR [eR c59] 8 w6 [.tmp 4] Go.Proofs.Tryz.func153 (by kernel_rfl)
def b3d:Row I:=⟨138,[.d (.str),.d (.str)],[.k (.d (.int .i64))],a3q⟩
theorem b4k:RK (b3d) :=
 okR [eR a4g] 8 w6 [.tmp 4] Go.Proofs.Tryz.func138 (by kernel_rfl)
def b0T:Row I:=⟨106,[.d (.dat 100),.d (.dat 100)],[.k (.d (.int .i64))],a2C⟩
theorem b2A:RK (b0T) :=
 okR [eR a60,eR b4k] 19 w6 [.tmp 4] Go.Proofs.Tryz.func106 (by kernel_rfl)
def b0P:Hints I:=mkH [(4,[[],[0],[0,1],[0,1,2],[0,1,2,3],[0,1,2,3,4],[0,1,2,3,4,5],[0,1,2,3,4,5,6],[0,1,2,3,4,5,6,7],[0,1,2,3,4,5,6,7],[0,1,2,3,4,5,6,7,9],[0,1,2,3,4,5,6,7,8,9,10],[0,1,2,3,4,5,6,7,8,9,10,11],[0,1,2,3,4,5,6,7,8,9,10,11,12],[0,1,2,3,4,5,6,7],[0,1,2,3,4,5,6,7,14],[0,1,2,3,4,5,6,7,8,9,10,11,12,13,14,15],[0,1,2,3,4,5,6,7,8,9,10,11,12,13,14,15,16],[0,1,2,3,4,5,6,7,8,9,10,11,12,13,14,15,16,17],[0,1,2,3,4,5,6,7,8,9,10,11,12,13,14,15,16,17,18]])] [] [] [] [(26,⟨8589934492,[],[],[(7,.k (.d (.int .i64)))],[((.exit 0),[]),(.ret,[(2,.k (.d (.bool)))])],bnd tb (.slot 6) 1⟩)] [] [] []
def a9u:Row I:=⟨78,[.d (.sl 102)],[.k (.d (.bool))],a1K⟩
theorem a9P:RK (a9u) :=
 okR [eR b5a,eR b2A] 33 b0P [.tmp 2] Go.Proofs.Tryz.func78 (by kernel_rfl)
def b2b:Hints I:=mkH [] [] [] [(105,⟨16288,[],[],[(.normal,[(5,.k (.d (.bool)))])]⟩),
 (28311549,⟨368934881474191032320,[],[],[(.normal,[(66,.k (.d (.bool)))])]⟩)] [] [] [] []
def b0w:Row I:=⟨52,[.d (.dat 81)],[.k (.d (.bool))],a2i⟩
theorem b01:RK (b0w) :=
 okR [eR a43,eR b2Y,eR a9P] 79 b2b [.tmp 2] Go.Proofs.Tryz.func52 (by kernel_rfl)
def b5F:Hints I:=mkH [] [] [] [] [(58,⟨4190248,[],[],[(3,.k (.row 3 false)),(12,.k (.d (.int .i64)))],[((.exit 0),[(3,.k (.row 3 false))])],bnd tb (.slot 11) 1⟩)] [] [] []
def b3V:Row I:=⟨53,[.d (.dat 81)],[.k (.row 3 false)],a2I⟩
theorem a7U:RK (b3V) :=
 okR [eR c4e] 35 b5F [.tmp 2] Go.Proofs.Tryz.func53 (by kernel_rfl)
def b0x:Row I:=⟨81,[.d (.int .i64)],[.k (.d (.bool))],a2d⟩
theorem b1G:RK (b0x) :=
 okR [] 13 w6 [.tmp 2] Go.Proofs.Tryz.func81 (by kernel_rfl)
def a9r (_:Nat):Hints I:=mkH [] [] [] [] [(122,⟨140462610448544,[],[(1,.k (.row 3 false))],[(38,.k (.d (.int .i64)))],[((.exit 0),[]),(.ret,[(5,.k (.d (.bool)))])],bnd tb (.slot 37) 1⟩)] [] [] []
def a1v (n:Nat):Row I:=⟨80,[.d (.int .i64),.var 22 (.k (.row 3 false)) true,.var 54 (.k (.d (.dat 54))) false,.var 135 (.k (.d .any)) false],[.k (.d (.bool))],Y3 n⟩
theorem a7E (n:Nat)(h_typeexpr_contractive_1:a0v Go.Proofs.Tryz.prog (a1v n) (a8d 135 80 3 [1,2,3])):a0v Go.Proofs.Tryz.prog (a1v (n+1)) (a8d 135 80 3 [1,2,3]) :=
 a3d a12 (a1w (a24 [eR b1G,eS 135 80 3 [1,2,3] h_typeexpr_contractive_1]) 3) mixed 50 (s0:=fun a=>c0S 135 80 3 3 [1,2,3] (a1Y tb 50 [.d (.int .i64),.var 22 (.k (.row 3 false)) true,.var 54 (.k (.d (.dat 54))) false,.var 135 (.k (.d .any)) false] a)) (fn:=Go.Proofs.Tryz.f80) (cd:=a5g Go.Proofs.Tryz.f80) (H:=(a9r n)) (rl:=[.tmp 5]) (fun X c σ a vs F h hv _ hC=>b9q rfl rfl rfl h hv hC) Go.Proofs.Tryz.func80 (by kernel_rfl) (by kernel_rfl) (by kernel_rfl) (by kernel_rfl) (by kernel_rfl) (by kernel_rfl) (by kernel_rfl)
theorem a3i:∀ n:Nat,a0v Go.Proofs.Tryz.prog (a1v n) (a8d 135 80 3 [1,2,3])
 | 0=>b7I (a0S (by kernel_rfl))
 | n+1=>a7E n (a3i n)
def b0d (_:Nat):Hints I:=mkH [] [] [] [] [(250,⟨4177956,[],[(3,.k (.row 3 false))],[(14,.k (.d (.int .i64)))],[((.exit 0),[]),(.ret,[(2,.k (.d (.bool)))])],bnd tb (.slot 13) 1⟩)] [] [] []
def a8Z (n:Nat):Row I:=⟨54,[.d (.dat 54)],[.k (.d (.bool))],a1G n⟩
theorem a9Q (n:Nat):RK (a8Z n) :=
 okR [eS 135 80 3 [1,2,3] (a3i n)] 22 (b0d n) [.tmp 2] Go.Proofs.Tryz.func54 (by kernel_rfl)
def b1w (_:Nat):Hints I:=mkH [] [] [] [] [(58,⟨2251799811588180,[],[],[(21,.k (.d (.int .i64)))],[((.exit 0),[]),(.ret,[(2,.k (.d (.int .i64)))])],bnd tb (.slot 20) 1⟩),
 (29902,⟨1125831187365956,[34],[],[(36,.k (.d (.int .i64)))],[((.exit 2),[]),(.ret,[(2,.k (.d (.int .i64)))])],bnd tb (.slot 35) 1⟩)] [] [] []
def a9S (n:Nat):Row I:=⟨28,[.d (.dat 54)],[.k (.d (.int .i64))],J8 n⟩
theorem a0p (n:Nat):RK (a9S n) :=
 okR [eR b1l,eR b01,eR a7U,eR (a9Q n)] 54 (b1w n) [.tmp 2] Go.Proofs.Tryz.func28 (by kernel_rfl)
def b2k:Row I:=⟨82,[.d (.str)],[.k (.d (.bool))],a20⟩
theorem b2X:RK (b2k) :=
 okR [] 6 w6 [.tmp 2] Go.Proofs.Tryz.func82 (by kernel_rfl)
def b0G:Row I:=⟨56,[.d (.str),.d (.str)],[.k (.d (.int .i64))],a2q⟩
theorem b0W:RK (b0G) :=
 okR [eR b2X] 20 w6 [.tmp 4] Go.Proofs.Tryz.func56 (by kernel_rfl)
def b8L:Hints I:=mkH [] [] [] [] [(58,⟨130852,[],[],[(8,.k (.d (.int .i64)))],[((.exit 0),[]),(.ret,[(2,.k (.d (.int .i64)))])],bnd tb (.slot 7) 1⟩)] [] [] []
def b60:Row I:=⟨55,[.d (.sl 3)],[.k (.d (.int .i64))],a8n⟩
theorem b7Y:RK (b60) :=
 okR [] 18 b8L [.tmp 2] Go.Proofs.Tryz.func55 (by kernel_rfl)
def b67:Hints I:=mkH [(1,[[],[0],[0,1],[],[3],[3,4],[0,1,2,3,4,5],[],[7],[7,8],[],[10],[10,11],[0,1,2,3,4,5,6,7,8,9,10,11,12],[0,1,2,3,4,5,6,7,8,9,10,11,12,13],[0,1,2,3,4,5,6,7,8,9,10,11,12,13,14],[0,1,2,3,4,5,6,7,8,9,10,11,12,13,14,15]])] [] [] [] [] [] [] []
def b5q:Row I:=⟨29,[.d (.dat 57),.d (.dat 57)],[.k (.d (.int .i64))],a3u⟩
theorem b58:RK (b5q) :=
 okR [eR b0W,eR a60,eR b7Y] 21 b67 [.tmp 4] Go.Proofs.Tryz.func29 (by kernel_rfl)
def b3g:Row I:=⟨146,[.d (.dat 81)],[.k (.d (.dat 54))],a99⟩
theorem b3m:RK (b3g) :=
 okR [] 6 w6 [.cell 2 54] Go.Proofs.Tryz.func146 (by kernel_rfl)
def b5e:Row I:=⟨117,[],[.k (.d (.dat 54))],a7M⟩
theorem a9s:RK (b5e) :=
 okR [eR b3m] 3 w6 [.cell 0 54] Go.Proofs.Tryz.func117 (by kernel_rfl)
def b3u (n:Nat):Row I:=⟨108,[.d (.dat 54)],[.k (.d (.dat 54))],a3O n⟩
theorem a33 (n:Nat):RK (b3u n) :=
 okR [eR (a0p n),eR a9s] 8 w6 [.cell 2 54] Go.Proofs.Tryz.func108 (by kernel_rfl)
def b4l:Hints I:=mkH [] [] [] [] [(58,⟨67092512,[],[(2,.lvs [.d (.int .i64),.d (.int .i64),.d (.int .i64),.d (.str),.row 3 false,.d (.sl 102),.d (.int .i64),.d (.int .i64)])],[(14,.k (.d (.int .i64)))],[((.exit 0),[])],bnd tb (.slot 13) 1⟩),
 (250,⟨140728898420800,[],[(2,.lvs [.d (.int .i64),.d (.int .i64),.d (.int .i64),.d (.str),.row 3 false,.row 102 false,.d (.int .i64),.d (.int .i64)])],[(33,.k (.d (.int .i64)))],[((.exit 2),[])],bnd tb (.slot 32) 1⟩)] [] [] []
def b2y:Row I:=⟨113,[.d (.dat 81),.d (.int .i64)],[.lvs [.d (.int .i64),.d (.int .i64),.d (.int .i64),.d (.str),.row 3 false,.row 102 false,.d (.int .i64),.d (.int .i64)]],a4t⟩
theorem a5O:RK (b2y) :=
 okR [eR c4e,eR c5z] 65 b4l [.cell 4 81] Go.Proofs.Tryz.func113 (by kernel_rfl)
def b5X (_:Nat):Hints I:=mkH [(8,[[],[],[1],[],[1,2,3],[0],[0,1,2,3,4,5]])] [] [] [] [(122,⟨134152449,[],[],[(0,.k (.row 81 false)),(16,.k (.d (.int .i64)))],[((.exit 0),[(0,.k (.row 81 false))])],bnd tb (.slot 15) 1⟩)] [] [] []
def b3j (n:Nat):Row I:=⟨118,[.row 81 false,.d (.dat 54)],[.k (.row 81 false),.k (.d (.int .i64))],b0Z n⟩
theorem b49 (n:Nat):RK (b3j n) :=
 okR [eR (a33 n),eR a5O] 32 (b5X n) [.tmp 4,.tmp 5] Go.Proofs.Tryz.func118 (by kernel_rfl)
def b6m (n:Nat):Row I:=⟨89,[.d (.dat 54),.d (.int .i64)],[.k (.d (.dat 54))],a4c n⟩
theorem a6y (n:Nat):RK (b6m n) :=
 okR [eR (a0p n),eR a9s,eR (b49 n)] 30 w6 [.cell 4 54] Go.Proofs.Tryz.func89 (by kernel_rfl)
def b2q (_:Nat):Hints I:=mkH [] [] [] [] [(30,⟨534773824,[19],[(1,.k (.row 4 false))],[(21,.k (.d (.int .i64)))],[((.exit 0),[])],bnd tb (.slot 20) 1⟩)] [] [] []
def a2w (n:Nat):Row I:=⟨139,[.d (.int .i64),.var 153 (.k (.row 4 false)) true,.var 54 (.k (.d (.dat 54))) false,.var 120 (.k (.d .any)) false],[],a3I n⟩
theorem b0y (n:Nat)(h_typeexpr_reached_1:a0v Go.Proofs.Tryz.prog (a2w n) (a8d 120 139 3 [1,2,3])):a0v Go.Proofs.Tryz.prog (a2w (n+1)) (a8d 120 139 3 [1,2,3]) :=
 a3d a12 (a1w (a24 [eR a7U,eS 120 139 3 [1,2,3] h_typeexpr_reached_1]) 3) mixed 29 (s0:=fun a=>c0S 120 139 3 3 [1,2,3] (a1Y tb 29 [.d (.int .i64),.var 153 (.k (.row 4 false)) true,.var 54 (.k (.d (.dat 54))) false,.var 120 (.k (.d .any)) false] a)) (fn:=Go.Proofs.Tryz.f139) (cd:=a5g Go.Proofs.Tryz.f139) (H:=(b2q n)) (rl:=[]) (fun X c σ a vs F h hv _ hC=>b9q rfl rfl rfl h hv hC) Go.Proofs.Tryz.func139 (by kernel_rfl) (by kernel_rfl) (by kernel_rfl) (by kernel_rfl) (by kernel_rfl) (by kernel_rfl) (by kernel_rfl)
theorem a4N:∀ n:Nat,a0v Go.Proofs.Tryz.prog (a2w n) (a8d 120 139 3 [1,2,3])
 | 0=>b7I (a0S (by kernel_rfl))
 | n+1=>b0y n (a4N n)
def b2s (n:Nat):Row I:=⟨109,[.d (.dat 54)],[.k (.row 4 false)],a4I n⟩
theorem a5L (n:Nat):RK (b2s n) :=
 okR [eS 120 139 3 [1,2,3] (a4N n)] 15 w6 [.tmp 2] Go.Proofs.Tryz.func109 (by kernel_rfl)
def b5Y (_:Nat):Hints I:=mkH [(19,[[],[0],[],[],[],[4],[],[4,5,6],[4,5,6,7],[3,4,5,6,7,8],[3,4,5,6,7,8,9],[0,1,2,3,4,5,6,7,8,9,10],[0,1,2,3,4,5,6,7,8,9,10,11]]),(24,[[],[0],[],[],[],[4],[],[4,5,6],[4,5,6,7],[4,5,6,7,8],[3,4,5,6,7,8,9],[3,4,5,6,7,8,9,10],[0,1,2,3,4,5,6,7,8,9,10,11],[0,1,2,3,4,5,6,7,8,9,10,11,12],[0,1,2,3,4,5,6,7,8,9,10,11,12,13]]),(27,[[],[],[1],[1,2],[0,1,2,3],[0,1,2,3,4],[],[],[7],[7,8],[6,7,8,9],[6,7,8,9,10],[0,1,2,3,4,5,6,7,8,9,10,11],[0,1,2,3,4,5,6,7,8,9,10,11,12],[0,1,2,3,4,5,6,7,8,9,10,11,12,13]])] [] [] [(2085693,⟨162249373308899080349378817294336,[],[(10,.lvs [.d (.int .i64),.d (.int .i64),.d (.int .i64),.d (.str),.row 3 false,.row 102 false,.d (.int .i64),.d (.int .i64)])],[(.normal,[(3,.k (.row 3 false))])]⟩)] [(250,⟨274873712752,[20],[],[(3,.k (.row 3 false)),(4,.k (.row 3 false)),(22,.k (.d (.int .i64)))],[((.exit 0),[(3,.k (.row 3 false)),(4,.k (.row 3 false))])],bnd tb (.slot 21) 1⟩),
 (1018,⟨5192296858534827628529396817600128,[],[],[(3,.k (.row 3 false)),(7,.k (.row 81 false)),(38,.k (.row 3 false)),(40,.k (.d (.int .i64)))],[((.exit 2),[(3,.k (.row 3 false)),(7,.k (.row 81 false)),(38,.k (.row 3 false))])],bnd tb (.slot 39) 1⟩),
 (1042842,⟨590286803159450912768,[],[(10,.lvs [.d (.int .i64),.d (.int .i64),.d (.int .i64),.d (.str),.row 3 false,.row 102 false,.d (.int .i64),.d (.int .i64)])],[(3,.k (.row 3 false)),(53,.k (.d (.int .i64)))],[((.exit 4),[(3,.k (.row 3 false))])],bnd tb (.slot 52) 1⟩),
 (2085690,⟨1237935316918897405253914624,[],[(10,.lvs [.d (.int .i64),.d (.int .i64),.d (.int .i64),.d (.str),.row 3 false,.row 102 false,.d (.int .i64),.d (.int .i64)])],[(3,.k (.row 3 false)),(72,.k (.d (.int .i64)))],[((.exit 6),[(3,.k (.row 3 false))])],bnd tb (.slot 71) 1⟩)] [] [] []
def b3Q (n:Nat):Row I:=⟨86,[.d (.dat 54)],[.k (.d (.dat 54))],a3T n⟩
theorem a35 (n:Nat):RK (b3Q n) :=
 okR [eR (a33 n),eR (a5L n),eR a5O] 119 (b5Y n) [.cell 2 54] Go.Proofs.Tryz.func86 (by kernel_rfl)
def b7x (n:Nat):Row I:=⟨107,[.d (.dat 54),.d (.int .i64)],[.k (.d (.dat 54))],b2n n⟩
theorem b7Z (n:Nat):RK (b7x n) :=
 okR [eR (a6y n),eR (a35 n)] 9 w6 [.cell 4 54] Go.Proofs.Tryz.func107 (by kernel_rfl)
def b76 (_:Nat):Hints I:=mkH [(4,[[],[],[],[1,2],[1,2,3],[0,1,2,3,4],[0,1,2,3,4,5],[],[0,1,2,3,4,5,6,7]]),(8,[[],[0],[],[],[2,3],[2,3,4],[0,1,2,3,4,5],[0,1,2,3,4,5,6],[0,1,2,3,4,5,6,7]])] [] [] [] [(250,⟨144097595889813504,[],[(9,.lvs [.row 54 false,.d (.sl 81),.d (.int .i64)])],[(44,.k (.d (.int .i64)))],[((.exit 0),[])],bnd tb (.slot 43) 1⟩)] [] [] []
def b6S (n:Nat):Row I:=⟨84,[.d (.dat 54),.d (.int .i64),.d (.int .i64)],[.k (.d (.dat 117)),.k (.d (.bool))],b0l n⟩
theorem b7A (n:Nat):RK (b6S n) :=
 okR [eR (b7Z n)] 58 (b76 n) [.cell 6 117,.tmp 7] Go.Proofs.Tryz.func84 (by kernel_rfl)
def a5q:Hints I:=mkH [(6,[[],[],[0,1],[0,1,2],[],[],[5],[4,5,6],[4,5,6,7],[0,1,2,3,4,5,6,7,8]]),(11,[[],[],[0,1],[0,1,2],[],[],[5],[4,5,6],[4,5,6,7],[0,1,2,3,4,5,6,7,8]])] [] [] [] [(58,⟨1152921504606846012,[],[],[(0,.k (.row 9 false)),(3,.k (.d (.int .i64)))],[((.exit 0),[(0,.k (.row 9 false))]),(.ret,[(2,.k (.row 9 false))])],bnd tb (.len (.slot 0)) 1⟩)] [(59690,⟨18014397972611112,0,9,[(3,.k (.d (.int .i64))),(5,.k (.d (.int .i64)))],[((.exit 2),[(3,.k (.d (.int .i64)))])],bnd tb (.len (.slot 4)) 1⟩)] [] []
def a4C:Row I:=⟨112,[.row 9 false],[.k (.row 9 false)],a2F⟩
theorem a4V:RK (a4C) :=
 okR [] 61 a5q [.tmp 2] Go.Proofs.Tryz.func112 (by kernel_rfl)
def a5w:Row I:=⟨111,[.d (.sl 9)],[.k (.row 9 true)],a3m⟩
theorem a6w:RK (a5w) :=
 okR [] 9 w6 [.tmp 2] Go.Proofs.Tryz.func111 (by kernel_rfl)
def b2c (_:Nat):Hints I:=mkH [] [] [] [] [(122,⟨68719474744,[9],[],[(3,.k (.row 9 false)),(11,.k (.d (.int .i64)))],[((.exit 0),[(3,.k (.row 9 false))])],bnd tb (.slot 10) 1⟩)] [] [] []
def b0S (n:Nat):Row I:=⟨85,[.d (.dat 54)],[.k (.row 9 true)],a66 n⟩
theorem b1E (n:Nat):RK (b0S n) :=
 okR [eR (a33 n),eR (a5L n),eO c5x,eR a4V,eR a6w] 41 (b2c n) [.tmp 2] Go.Proofs.Tryz.func85 (by kernel_rfl)
def b1v (n:Nat):Row I:=⟨59,[.d (.dat 54)],[.k (.d (.bool))],a2B n⟩
theorem a2V (n:Nat):RK (b1v n) :=
 okR [eR (b1E n)] 7 w6 [.tmp 2] Go.Proofs.Tryz.func59 (by kernel_rfl)
def b7k (_:Nat):Hints I:=mkH [] [] [] [] [(506,⟨73786694819861503280,[],[],[(8,.k (.row 117 false)),(48,.k (.d (.int .i64)))],[((.exit 0),[(8,.k (.row 117 false))]),(.ret,[(4,.k (.row 117 false)),(5,.k (.d (.bool)))])],bnd tb (.slot 47) 1⟩)] [] [] []
def b5J (n:Nat):Row I:=⟨58,[.d (.dat 54),.d (.int .i64)],[.k (.row 117 false),.k (.d (.bool))],b3r n⟩
theorem b6U (n:Nat):RK (b5J n) :=
 okR [eR (a0p n),eR (b7A n),eR (a2V n)] 67 (b7k n) [.tmp 4,.tmp 5] Go.Proofs.Tryz.func58 (by kernel_rfl)
def a7t:Hints I:=mkH [] [] [] [] [(26,⟨524080,[],[],[(8,.k (.d (.int .i64)))],[((.exit 0),[]),(.ret,[(4,.k (.d (.int .i64)))])],bnd tb (.slot 7) 1⟩)] [] [] []
def a55:Row I:=⟨143,[.d (.sl 3),.fn [.int .i64] [.k (.d (.bool))]],[.k (.d (.int .i64))],a3E⟩
theorem a6V:RK (a55) :=
 okR [] 19 a7t [.tmp 4] Go.Proofs.Tryz.func143 (by kernel_rfl)
def a4R:Row I:=⟨114,[.d (.sl 3),.fn [.int .i64] [.k (.d (.bool))]],[.k (.d (.bool))],a2Q⟩
theorem a45:RK (a4R) :=
 okR [eR a6V] 9 w6 [.tmp 4] Go.Proofs.Tryz.func114 (by kernel_rfl)
def a2u:Hints I:=mkH [] [] [] [] [(26,⟨524080,[],[],[(8,.k (.d (.int .i64)))],[((.exit 0),[]),(.ret,[(4,.k (.d (.int .i64)))])],bnd tb (.slot 7) 1⟩)] [] [] []
def a14:Row I:=⟨119,[.d (.sl 81),.fn [.dat 81] [.k (.d (.bool))]],[.k (.d (.int .i64))],a0x⟩
theorem a2l:RK (a14) :=
 okR [] 19 a2u [.tmp 4] Go.Proofs.Tryz.func119 (by kernel_rfl)
def a1N:Row I:=⟨90,[.d (.sl 81),.fn [.dat 81] [.k (.d (.bool))]],[.k (.d (.bool))],a0n⟩
theorem a1X:RK (a1N) :=
 okR [eR a2l] 9 w6 [.tmp 4] Go.Proofs.Tryz.func90 (by kernel_rfl)
def b55:Row I:=⟨91,[.d (.dat 81)],[.k (.d (.bool))],b3L⟩
theorem b6x:RK (b55) :=
 okR [] 6 w6 [.tmp 2] Go.Proofs.Tryz.func91 (by kernel_rfl)
def b6Z (n:Nat):Row I:=⟨62,[.d (.dat 54),.d (.int .i64)],[.k (.d (.bool))],a8t n⟩
theorem a7u (n:Nat):RK (b6Z n) :=
 okR [eR (a6y n),eR (a35 n),eR a1X,eR b6x] 14 w6 [.tmp 4] Go.Proofs.Tryz.func62 (by kernel_rfl)
def b2F (n:Nat):Row I:=⟨115,[.d (.int .i64),.var 54 (.k (.d (.dat 54))) false],[.k (.d (.bool))],a9n n⟩
theorem b29 (n:Nat):RK (b2F n) :=
 okR [eR (a7u n)] 8 w6 [.tmp 3] Go.Proofs.Tryz.func115 (by kernel_rfl)
def b3K (n:Nat):Row I:=⟨87,[.d (.dat 54),.d (.sl 3)],[.k (.d (.bool))],b1j n⟩
theorem b41 (n:Nat):RK (b3K n) :=
 okR [eR a45,eR (b29 n)] 9 w6 [.tmp 4] Go.Proofs.Tryz.func87 (by kernel_rfl)
def b8v (_:Nat):Hints I:=mkH [(8,[[],[],[0,1],[0,1,2],[0,1,2,3],[0,1,2,3],[0,1,2,3,4,5],[0,1,2,3],[0,1,2,3],[0,1,2,3,4,5,6,7,8],[0,1,2,3,4,5,6,7,8,9],[0,1,2,3,4,5,6,7,8,9,10],[0,1,2,3,4,5,6,7,8,9,10,11]])] [] [] [] [(26,⟨2199023254000,[],[],[(11,.k (.d (.int .i64)))],[((.exit 0),[]),(.ret,[(4,.k (.d (.bool)))])],bnd tb (.slot 10) 1⟩),
 (13518,⟨1099509531024,[],[],[(21,.k (.d (.int .i64)))],[((.exit 2),[]),(.ret,[(4,.k (.d (.bool)))])],bnd tb (.slot 20) 1⟩)] [] [] []
def b7h (n:Nat):Row I:=⟨88,[.d (.dat 54),.d (.sl 3)],[.k (.d (.bool))],b6k n⟩
theorem b73 (n:Nat):RK (b7h n) :=
 okR [eR (a7u n),eR (a6y n)] 41 (b8v n) [.tmp 4] Go.Proofs.Tryz.func88 (by kernel_rfl)
def b6f (_:Nat):Hints I:=mkH [] [] [] [(125337,⟨83886080,[],[],[(.normal,[(24,.k (.d (.bool)))])]⟩)] [(122,⟨1099511365652,[],[],[(18,.k (.d (.int .i64)))],[((.exit 0),[]),(.ret,[(2,.k (.d (.bool)))])],bnd tb (.slot 17) 1⟩)] [] [] []
def b42 (n:Nat):Row I:=⟨60,[.d (.dat 54)],[.k (.d (.bool))],b2S n⟩
theorem b5C (n:Nat):RK (b42 n) :=
 okR [eR (a0p n),eR (a2V n),eR (a35 n),eR (b41 n),eR (b73 n)] 40 (b6f n) [.tmp 2] Go.Proofs.Tryz.func60 (by kernel_rfl)
def a4e:Row I:=⟨61,[.d (.sl 54)],[.k (.row 54 true)],a2z⟩
theorem a4p:RK (a4e) :=
 okR [] 9 w6 [.tmp 2] Go.Proofs.Tryz.func61 (by kernel_rfl)
def b6c (_:Nat):Hints I:=mkH [(9,[[],[0],[0,1],[],[3],[3,4],[0,1,2,3,4,5],[0,1,2,3,4,5,6],[]])] [] [] [] [(250,⟨2305842734335788304,[36],[],[(38,.k (.d (.int .i64)))],[((.exit 0),[]),(.ret,[(4,.k (.d (.bool)))])],bnd tb (.slot 37) 1⟩),
 (64102,⟨1151795604700005392,[],[],[(50,.k (.d (.int .i64)))],[((.exit 2),[]),(.ret,[(4,.k (.d (.bool)))])],bnd tb (.slot 49) 1⟩)] [] [] []
def b5f (n:Nat):Row I:=⟨30,[.d (.dat 54),.d (.int .i64)],[.k (.d (.bool))],a0Y n⟩
theorem b5u (n:Nat):RK (b5f n) :=
 okR [eR (b6U n),eR (a2V n),eR (b5C n),eR a4p,eR (a7u n)] 61 (b6c n) [.tmp 4] Go.Proofs.Tryz.func30 (by kernel_rfl)
def b9w (_:Nat):Hints I:=mkH [(8,[[],[0],[0,1],[0,1,2],[0,1,2,3],[0,1,2],[0,1,2,5],[0,1,2,3,4,5,6],[0,1,2,3,4,5,6,7],[0,1,2],[0,1,2,3,4,5,6,7,8,9],[0,1,2,3,4,5,6,7,8,9,10],[0,1,2,3,4,5,6,7,8,9,10,11],[0,1,2,3,4,5,6,7,8,9,10,11,12],[0,1,2,3,4,5,6,7,8,9,10,11,12,13],[0,1,2,3,4,5,6,7,8,9,10,11,12,13,14],[0,1,2,3,4,5,6,7,8,9,10,11,12,13,14,15],[0,1,2,3,4,5,6,7,8,9,10,11,12,13,14,15,16],[0,1,2,3,4,5,6,7,8,9,10,11,12,13,14,15,16,17],[0,1,2,3,4,5,6,7,8,9,10,11,12,13,14,15,16,17,18],[0,1,2,3,4,5,6,7,8,9,10,11,12,13,14,15,16,17],[0,1,2,3,4,5,6,7,8,9,10,11,12,13,14,15,16,17,20],[0,1,2,3,4,5,6,7,8,9,10,11,12,13,14,15,16,17,20,21],[0,1,2,3,4,5,6,7,8,9,10,11,12,13,14,15,16,17,18,19,20,21,22],[0,1,2,3,4,5,6,7,8,9,10,11,12,13,14,15,16,17,18,19,20,21,22,23],[0,1,2,3,4,5,6,7,8,9,10,11,12,13,14,15,16,17,18,19,20,21,22,23,24],[0,1,2,3,4,5,6,7,8,9,10,11,12,13,14,15,16,17,18,19,20,21,22,23,24,25]])] [] [] [] [(58,⟨18889465931478580592668,[],[],[(18,.k (.d (.int .i64)))],[((.exit 0),[]),(.ret,[(2,.k (.d (.bool)))])],bnd tb (.slot 17) 1⟩)] [] [] []
def b64 (n:Nat):Row I:=⟨15,[.d (.dat 25)],[.k (.d (.bool))],a1E n⟩
theorem b2T (n:Nat):RK (b64 n) :=
 okR [eR b72,eR (a0p n),eR b58,eR (b5u n)] 74 (b9w n) [.tmp 2] Go.Proofs.Tryz.func15 (by kernel_rfl)
def a9p:Hints I:=mkH [] [] [] [] [(12,⟨268431376,[],[(0,.lvs [.row 5 false])],[(4,.k (.d (.int .u64)))],[((.exit 0),[(4,.k (.d (.int .u64)))])],bnd tb (.slot 4) 2⟩)] [] [] []
def a7l:Row I:=⟨63,[.var 61 (.lvs [.row 5 false]) true,.d (.int .i64)],[],Y2⟩
theorem J3:RK (a7l) :=
 okR [] 39 a9p [] Go.Proofs.Tryz.func63 (by kernel_rfl)
def a9A:Row I:=⟨31,[.var 61 (.lvs [.row 5 false]) true,.d (.str)],[],W8⟩
theorem a1g:RK (a9A) :=
 okR [eR J3] 17 w6 [] Go.Proofs.Tryz.func31 (by kernel_rfl)
def a8U:Row I:=⟨32,[.var 61 (.lvs [.row 5 false]) true,.d (.bool)],[],a0N⟩
theorem a3W:RK (a8U) :=
 okR [] 23 w6 [] Go.Proofs.Tryz.func32 (by kernel_rfl)
def a8e:Row I:=⟨64,[.var 61 (.lvs [.row 5 false]) true,.d (.int .i64)],[],Y7⟩
theorem X9:RK (a8e) :=
 okR [eR J3] 7 w6 [] Go.Proofs.Tryz.func64 (by kernel_rfl)
def b4m:Hints I:=mkH [] [] [] [] [(14,⟨4178048,[],[(0,.lvs [.row 5 false])],[(14,.k (.d (.int .i64)))],[((.exit 0),[])],bnd tb (.slot 13) 1⟩)] [] [] []
def b2l:Row I:=⟨120,[.var 61 (.lvs [.row 5 false]) true,.d (.sl 3),.d (.any)],[],a4q⟩
theorem b3h:a0v Go.Proofs.Tryz.prog (b2l) (a9g 64 2 0) :=
 a3d a12 (a1w (a24 [eR J3,eR X9]) 3) mixed 22 (s0:=fun a=>b2z 64 2 0 (a1Y tb 22 [.var 61 (.lvs [.row 5 false]) true,.d (.sl 3),.d (.any)] a)) (fn:=Go.Proofs.Tryz.f120) (cd:=a5g Go.Proofs.Tryz.f120) (H:=b4m) (rl:=[]) (fun X c σ a vs F h hv hF hC=>a4P rfl h hF hC) Go.Proofs.Tryz.func120 (by kernel_rfl) (by kernel_rfl) (by kernel_rfl) (by kernel_rfl) (by kernel_rfl) (by kernel_rfl) (by kernel_rfl)
def a9d:Row I:=⟨122,[.var 61 (.lvs [.row 5 false]) true,.d (.dat 102)],[],a0E⟩
theorem a9W:RK (a9d) :=
 okR [eR X9,eR a1g,eR a3W] 22 w6 [] Go.Proofs.Tryz.func122 (by kernel_rfl)
def a89:Hints I:=mkH [] [] [] [] [(14,⟨4178048,[],[(0,.lvs [.row 5 false])],[(14,.k (.d (.int .i64)))],[((.exit 0),[])],bnd tb (.slot 13) 1⟩)] [] [] []
def a7o:Row I:=⟨121,[.var 61 (.lvs [.row 5 false]) true,.d (.sl 102),.d (.any)],[],a2x⟩
theorem a8s:a0v Go.Proofs.Tryz.prog (a7o) (a9g 122 2 0) :=
 a3d a12 (a1w (a24 [eR J3,eR a9W]) 3) mixed 22 (s0:=fun a=>b2z 122 2 0 (a1Y tb 22 [.var 61 (.lvs [.row 5 false]) true,.d (.sl 102),.d (.any)] a)) (fn:=Go.Proofs.Tryz.f121) (cd:=a5g Go.Proofs.Tryz.f121) (H:=a89) (rl:=[]) (fun X c σ a vs F h hv hF hC=>a4P rfl h hF hC) Go.Proofs.Tryz.func121 (by kernel_rfl) (by kernel_rfl) (by kernel_rfl) (by kernel_rfl) (by kernel_rfl) (by kernel_rfl) (by kernel_rfl)
def a9E:Row I:=⟨93,[.var 61 (.lvs [.row 5 false]) true,.d (.dat 81)],[],a09⟩
theorem b0Q:RK (a9E) :=
 okR [eR X9,eR J3,eR a1g,eM 64 2 0 b3h,eM 122 2 0 a8s] 42 w6 [] Go.Proofs.Tryz.func93 (by kernel_rfl)
def a7f:Hints I:=mkH [] [] [] [] [(14,⟨4178048,[],[(0,.lvs [.row 5 false])],[(14,.k (.d (.int .i64)))],[((.exit 0),[])],bnd tb (.slot 13) 1⟩)] [] [] []
def a5v:Row I:=⟨92,[.var 61 (.lvs [.row 5 false]) true,.d (.sl 81),.d (.any)],[],a1I⟩
theorem a6n:a0v Go.Proofs.Tryz.prog (a5v) (a9g 93 2 0) :=
 a3d a12 (a1w (a24 [eR J3,eR b0Q]) 3) mixed 22 (s0:=fun a=>b2z 93 2 0 (a1Y tb 22 [.var 61 (.lvs [.row 5 false]) true,.d (.sl 81),.d (.any)] a)) (fn:=Go.Proofs.Tryz.f92) (cd:=a5g Go.Proofs.Tryz.f92) (H:=a7f) (rl:=[]) (fun X c σ a vs F h hv hF hC=>a4P rfl h hF hC) Go.Proofs.Tryz.func92 (by kernel_rfl) (by kernel_rfl) (by kernel_rfl) (by kernel_rfl) (by kernel_rfl) (by kernel_rfl) (by kernel_rfl)
def b0h:Row I:=⟨65,[.var 61 (.lvs [.row 5 false]) true,.d (.dat 54)],[],a2e⟩
theorem b1p:RK (b0h) :=
 okR [eM 93 2 0 a6n,eR X9] 14 w6 [] Go.Proofs.Tryz.func65 (by kernel_rfl)
def a6t:Row I:=⟨34,[.var 61 (.lvs [.row 5 false]) true,.d (.dat 57)],[],a0b⟩
theorem a6R:RK (a6t) :=
 okR [eR a1g,eR X9,eR b1p] 18 w6 [] Go.Proofs.Tryz.func34 (by kernel_rfl)
def a6z:Hints I:=mkH [] [] [] [] [(14,⟨4178048,[],[(0,.lvs [.row 5 false])],[(14,.k (.d (.int .i64)))],[((.exit 0),[])],bnd tb (.slot 13) 1⟩)] [] [] []
def a42:Row I:=⟨33,[.var 61 (.lvs [.row 5 false]) true,.d (.sl 57),.d (.any)],[],a1x⟩
theorem a5F:a0v Go.Proofs.Tryz.prog (a42) (a9g 34 2 0) :=
 a3d a12 (a1w (a24 [eR J3,eR a6R]) 3) mixed 22 (s0:=fun a=>b2z 34 2 0 (a1Y tb 22 [.var 61 (.lvs [.row 5 false]) true,.d (.sl 57),.d (.any)] a)) (fn:=Go.Proofs.Tryz.f33) (cd:=a5g Go.Proofs.Tryz.f33) (H:=a6z) (rl:=[]) (fun X c σ a vs F h hv hF hC=>a4P rfl h hF hC) Go.Proofs.Tryz.func33 (by kernel_rfl) (by kernel_rfl) (by kernel_rfl) (by kernel_rfl) (by kernel_rfl) (by kernel_rfl) (by kernel_rfl)
def a9H:Row I:=⟨16,[.var 61 (.lvs [.row 5 false]) true,.d (.dat 25)],[],a1Z⟩
theorem b0E:RK (a9H) :=
 okR [eR a1g,eR a3W,eM 34 2 0 a5F] 18 w6 [] Go.Proofs.Tryz.func16 (by kernel_rfl)
def b5H:Row I:=⟨17,[.d (.str)],[.k (.d (.str))],a3y⟩
theorem b0c:RK (b5H) :=
 okR [eR c36] 21 w6 [.tmp 2] Go.Proofs.Tryz.func17 (by kernel_rfl)
def b3Z (n:Nat):Row I:=⟨6,[.d (.dat 25)],[.k (.d (.str)),.k (.d (.int .i64))],a1b n⟩
theorem a7T (n:Nat):RK (b3Z n) :=
 okR [eR (b2T n),eR b0E,eR b0c] 19 w6 [.tmp 2,.tmp 3] Go.Proofs.Tryz.func6 (by kernel_rfl)
def b5P:Row I:=⟨18,[.d (.str)],[.k (.d (.str)),.k (.d (.int .i64))],a44⟩
theorem b6q:RK (b5P) :=
 okR [eR b0c] 18 w6 [.tmp 2,.tmp 3] Go.Proofs.Tryz.func18 (by kernel_rfl)
def a9F:Row I:=⟨39,[.var 67 (.k (.d (.dat 67))) true,.d (.int .i64)],[],X1⟩
theorem W7:RK (a9F) :=
 okR [] 13 w6 [] Go.Proofs.Tryz.func39 (by kernel_rfl)
def b1z:Hints I:=mkH [(1,[[],[0],[0,1],[0,1,2],[0,1,2,3],[0,1,2,3,4],[0,1,2,3,4,5],[0,1,2,3,4,5,6],[0,1,2,3,4,5,6,7],[0,1,2,3,4,5,6,7,8],[0,1,2,3,4,5],[0,1,2,3,4,5,10],[0,1,2,3,4,5,10,11],[0,1,2,3,4,5,10,11,12],[0,1,2,3,4,5,10,11,12,13],[0,1,2,3,4,5,6,7,8,9,10,11,12,13,14],[0,1,2,3,4,5,6,7,8,9,10,11,12,13,14,15]]),(5,[[],[0],[0,1],[0,1,2],[],[4],[4,5],[4,5,6],[4,5,6,7],[0,1,2,3,4,5,6,7,8],[0,1,2,3,4,5,6,7,8,9]])] [] [] [] [] [] [] []
def a9X:Row I:=⟨67,[.var 67 (.k (.d (.dat 67))) true],[.k (.d (.int .u8))],a07⟩
theorem a4d:RK (a9X) :=
 okR [eR W7] 39 b1z [.tmp 2] Go.Proofs.Tryz.func67 (by kernel_rfl)
def a8Y (n:Nat):Hints I:=mkH [] [] [] [(1925,⟨50331648,[],[(0,.k (.d (.dat 67)))],[(.normal,[])]⟩)] [(30,⟨281474976710652,[],[(0,.k (.d (.dat 67)))],[(3,.k (.d (.int .u64))),(4,.k (.d (.int .i64)))],[(.ret,[(2,.k (.d (.int .i64)))])],fun _=>some n⟩)] [] [] []
def a7N (n:Nat):Row I:=⟨94,[.var 67 (.k (.d (.dat 67))) true],[.k (.d (.int .i64))],W6 n⟩
theorem a3n (n:Nat):RK (a7N n) :=
 okR [eR a4d,eR W7] 48 (a8Y n) [.tmp 2] Go.Proofs.Tryz.func94 (by kernel_rfl)
def a8o (n:Nat):Row I:=⟨68,[.var 67 (.k (.d (.dat 67))) true],[.k (.d (.int .i64))],Z7 n⟩
theorem V5 (n:Nat):RK (a8o n) :=
 okR [eR (a3n n)] 5 w6 [.tmp 2] Go.Proofs.Tryz.func68 (by kernel_rfl)
def a9T (_:Nat):Hints I:=mkH [] [] [] [(29,⟨768,[],[(0,.k (.d (.dat 67)))],[(.normal,[])]⟩)] [] [] [] []
def a8w (n:Nat):Row I:=⟨66,[.var 67 (.k (.d (.dat 67))) true],[.k (.d (.int .i64))],Q9 n⟩
theorem a0a (n:Nat):RK (a8w n) :=
 okR [eR (V5 n),eR W7] 16 (a9T n) [.tmp 2] Go.Proofs.Tryz.func66 (by kernel_rfl)
def b03 (_:Nat):Hints I:=mkH [(2,[[],[],[1],[1,2],[1,2,3],[1,2,3,4],[],[6],[6,7],[6,7,8],[1,2,3,4,5,6,7,8,9],[0,1,2,3,4,5,6,7,8,9,10]]),(6,[[],[0],[0,1],[0,1,2],[],[4],[4,5],[4,5,6],[],[4,5,6,7,8],[],[10],[10,11],[10,11,12],[0,1,2,3,4,5,6,7,8,9,10,11,12,13],[0,1,2,3,4,5,6,7,8,9,10,11,12,13,14]])] [] [] [] [] [] [] []
def a9U (n:Nat):Row I:=⟨35,[.var 67 (.k (.d (.dat 67))) true],[.k (.d (.str))],V0 n⟩
theorem a1h (n:Nat):RK (a9U n) :=
 okR [eR (a0a n),eR W7] 43 (b03 n) [.tmp 2] Go.Proofs.Tryz.func35 (by kernel_rfl)
def b0t:Hints I:=mkH [] [] [] [(29,⟨768,[],[(0,.k (.d (.dat 67)))],[(.normal,[])]⟩)] [] [] [] []
def a8H:Row I:=⟨36,[.var 67 (.k (.d (.dat 67))) true],[.k (.d (.bool))],a0M⟩
theorem a3X:RK (a8H) :=
 okR [eR a4d,eR W7] 12 b0t [.tmp 2] Go.Proofs.Tryz.func36 (by kernel_rfl)
def b0K (_:Nat):Hints I:=mkH [] [] [] [] [(58,⟨33554016,[],[(0,.k (.d (.dat 67)))],[(5,.k (.row 3 false)),(6,.k (.d (.int .i64)))],[((.exit 0),[(5,.k (.row 3 false))])],bnd tb (.slot 6) 2⟩)] [] [] []
def a85 (n:Nat):Row I:=⟨123,[.var 67 (.k (.d (.dat 67))) true,.d (.any)],[.k (.row 3 false)],a2W n⟩
theorem a9D (n:Nat):a0v Go.Proofs.Tryz.prog (a85 n) (a9g 68 1 0) :=
 a3d a12 (a1w (a24 [eR (a0a n),eR (V5 n)]) 3) mixed 26 (s0:=fun a=>b2z 68 1 0 (a1Y tb 26 [.var 67 (.k (.d (.dat 67))) true,.d (.any)] a)) (fn:=Go.Proofs.Tryz.f123) (cd:=a5g Go.Proofs.Tryz.f123) (H:=(b0K n)) (rl:=[.tmp 4]) (fun X c σ a vs F h hv hF hC=>a4P rfl h hF hC) Go.Proofs.Tryz.func123 (by kernel_rfl) (by kernel_rfl) (by kernel_rfl) (by kernel_rfl) (by kernel_rfl) (by kernel_rfl) (by kernel_rfl)
def a88 (n:Nat):Row I:=⟨125,[.var 67 (.k (.d (.dat 67))) true],[.k (.d (.dat 102))],a0J n⟩
theorem a9R (n:Nat):RK (a88 n) :=
 okR [eR (V5 n),eR (a1h n),eR a3X] 13 w6 [.cell 2 102] Go.Proofs.Tryz.func125 (by kernel_rfl)
def a6i (_:Nat):Hints I:=mkH [] [] [] [] [(58,⟨33554016,[],[(0,.k (.d (.dat 67)))],[(5,.k (.row 102 false)),(6,.k (.d (.int .i64)))],[((.exit 0),[(5,.k (.row 102 false))])],bnd tb (.slot 6) 2⟩)] [] [] []
def a5l (n:Nat):Row I:=⟨124,[.var 67 (.k (.d (.dat 67))) true,.d (.any)],[.k (.row 102 false)],a1z n⟩
theorem a5D (n:Nat):a0v Go.Proofs.Tryz.prog (a5l n) (a9g 125 1 0) :=
 a3d a12 (a1w (a24 [eR (a0a n),eR (a9R n)]) 3) mixed 26 (s0:=fun a=>b2z 125 1 0 (a1Y tb 26 [.var 67 (.k (.d (.dat 67))) true,.d (.any)] a)) (fn:=Go.Proofs.Tryz.f124) (cd:=a5g Go.Proofs.Tryz.f124) (H:=(a6i n)) (rl:=[.tmp 4]) (fun X c σ a vs F h hv hF hC=>a4P rfl h hF hC) Go.Proofs.Tryz.func124 (by kernel_rfl) (by kernel_rfl) (by kernel_rfl) (by kernel_rfl) (by kernel_rfl) (by kernel_rfl) (by kernel_rfl)
def a9Z (n:Nat):Row I:=⟨96,[.var 67 (.k (.d (.dat 67))) true],[.k (.d (.dat 81))],a08 n⟩
theorem b0q (n:Nat):RK (a9Z n) :=
 okR [eR (V5 n),eR (a3n n),eR (a1h n),eM 68 1 0 (a9D n),eM 125 1 0 (a5D n)] 30 w6 [.cell 2 81] Go.Proofs.Tryz.func96 (by kernel_rfl)
def a4U (_:Nat):Hints I:=mkH [] [] [] [] [(58,⟨33554016,[],[(0,.k (.d (.dat 67)))],[(5,.k (.row 81 false)),(6,.k (.d (.int .i64)))],[((.exit 0),[(5,.k (.row 81 false))])],bnd tb (.slot 6) 2⟩)] [] [] []
def a4j (n:Nat):Row I:=⟨95,[.var 67 (.k (.d (.dat 67))) true,.d (.any)],[.k (.row 81 false)],a00 n⟩
theorem a4G (n:Nat):a0v Go.Proofs.Tryz.prog (a4j n) (a9g 96 1 0) :=
 a3d a12 (a1w (a24 [eR (a0a n),eR (b0q n)]) 3) mixed 26 (s0:=fun a=>b2z 96 1 0 (a1Y tb 26 [.var 67 (.k (.d (.dat 67))) true,.d (.any)] a)) (fn:=Go.Proofs.Tryz.f95) (cd:=a5g Go.Proofs.Tryz.f95) (H:=(a4U n)) (rl:=[.tmp 4]) (fun X c σ a vs F h hv hF hC=>a4P rfl h hF hC) Go.Proofs.Tryz.func95 (by kernel_rfl) (by kernel_rfl) (by kernel_rfl) (by kernel_rfl) (by kernel_rfl) (by kernel_rfl) (by kernel_rfl)
def b0v (n:Nat):Row I:=⟨69,[.var 67 (.k (.d (.dat 67))) true],[.k (.d (.dat 54))],a2f n⟩
theorem b04 (n:Nat):RK (b0v n) :=
 okR [eM 96 1 0 (a4G n),eR (V5 n)] 10 w6 [.cell 2 54] Go.Proofs.Tryz.func69 (by kernel_rfl)
def a6x (n:Nat):Row I:=⟨38,[.var 67 (.k (.d (.dat 67))) true],[.k (.d (.dat 57))],X8 n⟩
theorem a7j (n:Nat):RK (a6x n) :=
 okR [eR (a1h n),eR (V5 n),eR (b04 n)] 11 w6 [.cell 2 57] Go.Proofs.Tryz.func38 (by kernel_rfl)
def a4n (_:Nat):Hints I:=mkH [] [] [] [] [(58,⟨33554016,[],[(0,.k (.d (.dat 67)))],[(5,.k (.row 57 false)),(6,.k (.d (.int .i64)))],[((.exit 0),[(5,.k (.row 57 false))])],bnd tb (.slot 6) 2⟩)] [] [] []
def a37 (n:Nat):Row I:=⟨37,[.var 67 (.k (.d (.dat 67))) true,.d (.any)],[.k (.row 57 false)],a0K n⟩
theorem a4h (n:Nat):a0v Go.Proofs.Tryz.prog (a37 n) (a9g 38 1 0) :=
 a3d a12 (a1w (a24 [eR (a0a n),eR (a7j n)]) 3) mixed 26 (s0:=fun a=>b2z 38 1 0 (a1Y tb 26 [.var 67 (.k (.d (.dat 67))) true,.d (.any)] a)) (fn:=Go.Proofs.Tryz.f37) (cd:=a5g Go.Proofs.Tryz.f37) (H:=(a4n n)) (rl:=[.tmp 4]) (fun X c σ a vs F h hv hF hC=>a4P rfl h hF hC) Go.Proofs.Tryz.func37 (by kernel_rfl) (by kernel_rfl) (by kernel_rfl) (by kernel_rfl) (by kernel_rfl) (by kernel_rfl) (by kernel_rfl)
def a9J (n:Nat):Row I:=⟨19,[.var 67 (.k (.d (.dat 67))) true],[.k (.d (.dat 25))],a13 n⟩
theorem b0H (n:Nat):RK (a9J n) :=
 okR [eR (a1h n),eR a3X,eM 38 1 0 (a4h n)] 12 w6 [.cell 2 25] Go.Proofs.Tryz.func19 (by kernel_rfl)
def b1u:Hints I:=mkH [(1,[[],[0],[0,1],[0,1,2],[],[4],[4,5],[4,5,6],[4,5,6,7],[0,1,2,3,4,5,6,7,8]])] [] [] [(13,⟨24576,[],[(0,.k (.d (.dat 67)))],[(.normal,[])]⟩)] [] [] [] []
def a9O:Row I:=⟨20,[.var 67 (.k (.d (.dat 67))) true],[.k (.d (.int .i64))],a3e⟩
theorem b0F:RK (a9O) :=
 okR [eR W7] 19 b1u [.tmp 2] Go.Proofs.Tryz.func20 (by kernel_rfl)
def b4n (n:Nat):Row I:=⟨7,[.d (.str)],[.k (.d (.dat 25)),.k (.d (.int .i64))],a1Q n⟩
theorem a7S (n:Nat):RK (b4n n) :=
 okR [eR b6q,eR (b0H n),eR b0F,eR (b2T n)] 34 w6 [.cell 2 25,.tmp 3] Go.Proofs.Tryz.func7 (by kernel_rfl)
def a8Q:Hints I:=mkH [(12,[[],[0],[],[0,1,2],[0,1,2,3],[],[5],[],[5,6,7],[5,6,7,8],[0,1,2,3,4,5,6,7,8,9]]),(18,[[],[0],[],[0,1,2],[0,1,2,3],[],[5],[],[5,6,7],[5,6,7,8],[0,1,2,3,4,5,6,7,8,9]])] [] [] [] [(58,⟨42535295865117307932921825928836809712,[],[],[(27,.k (.d (.int .i64)))],[((.exit 0),[]),(.ret,[(4,.k (.d (.bool)))])],bnd tb (.slot 26) 1⟩),
 (119610,⟨81127162534528110935239206895888,[],[],[(91,.k (.d (.int .i64)))],[((.exit 2),[]),(.ret,[(4,.k (.d (.bool)))])],bnd tb (.slot 90) 1⟩),
 (119614,⟨21266998895451337113007346652444361232,[],[],[(109,.k (.d (.int .i64)))],[((.exit 4),[]),(.ret,[(4,.k (.d (.bool)))])],bnd tb (.slot 108) 1⟩)] [] [] []
def a7J:Row I:=⟨40,[.d (.dat 54),.d (.dat 54)],[.k (.d (.bool))],a1l⟩
theorem a78:RK (a7J) :=
 okR [] 125 a8Q [.tmp 4] Go.Proofs.Tryz.func40 (by kernel_rfl)
def a9L:Hints I:=mkH [(6,[[],[],[0,1],[0,1,2],[0,1,2,3],[],[],[5,6],[5,6,7],[5,6,7,8],[0,1,2,3,4,5,6,7,8,9],[0,1,2,3,4,5,6,7,8,9,10],[0,1,2,3,4,5,6,7,8,9,10,11],[0,1,2,3,4,5,6,7,8,9,10,11],[0,1,2,3,4,5,6,7,8,9,10,11,12,13],[0,1,2,3,4,5,6,7,8,9,10,11,12,13,14],[0,1,2,3,4,5,6,7,8,9,10,11,12,13,14,15],[0,1,2,3,4,5,6,7,8,9,10,11],[0,1,2,3,4,5,6,7,8,9,10,11],[0,1,2,3,4,5,6,7,8,9,10,11,17,18],[0,1,2,3,4,5,6,7,8,9,10,11,17,18,19],[0,1,2,3,4,5,6,7,8,9,10,11,17,18,19,20],[0,1,2,3,4,5,6,7,8,9,10,11,12,13,14,15,16,17,18,19,20,21],[0,1,2,3,4,5,6,7,8,9,10,11,12,13,14,15,16,17,18,19,20,21,22],[0,1,2,3,4,5,6,7,8,9,10,11,12,13,14,15,16,17,18,19,20,21,22,23]])] [] [] [] [(58,⟨4398046502960,[],[],[(13,.k (.d (.int .i64)))],[((.exit 0),[]),(.ret,[(4,.k (.d (.bool)))])],bnd tb (.slot 12) 1⟩)] [] [] []
def a8z:Row I:=⟨21,[.d (.sl 57),.d (.sl 57)],[.k (.d (.bool))],a1o⟩
theorem a9v:RK (a8z) :=
 okR [eR a78] 42 a9L [.tmp 4] Go.Proofs.Tryz.func21 (by kernel_rfl)
def b0A:Row I:=⟨8,[.d (.dat 25),.d (.dat 25)],[.k (.d (.bool))],a1m⟩
theorem b1A:RK (b0A) :=
 okR [eR a9v] 24 w6 [.tmp 4] Go.Proofs.Tryz.func8 (by kernel_rfl)
def b0D (n:Nat):Row I:=⟨9,[],[.k (.d (.bool))],a3t n⟩
theorem b1b (n:Nat):RK (b0D n) :=
 okR [eR (a7T n),eR (a7S n),eR c36] 41 w6 [.tmp 0] Go.Proofs.Tryz.func9 (by kernel_rfl)
def a6F (n:Nat):Row I:=⟨3,[.d (.sl 3),.d (.sl 3)],[.k (.d (.bool))],a0I n⟩
theorem a6S (n:Nat):RK (a6F n) :=
 okR [eR (b1L n),eR (a7T n),eR (a7S n),eR b1A,eR (b1b n)] 63 w6 [.tmp 4] Go.Proofs.Tryz.func3 (by kernel_rfl)
end Go.Qx
end
section
namespace Go.Pl
open Go Go.RowKit Go.Sx Go.Qx Go.Proofs.YthpckkffhbifnaaGreatDoor
def a6k (w:World):S:=⟨w,fun b=>match w.heap[b]? with | some (.cells c _ _)=>(c.size,0) | _=>(0,0)⟩
theorem c1d {w:World}{b o:Nat}{cs:List Value}(hn:cs≠[])(h:w.rangeAt b o cs)(hf:∀ j,j<cs.length->w.frozen? ⟨b,o+j,none⟩=false):a1C (a6k w) b o cs:=by
 refine ⟨⟨?_,hf⟩,h⟩
 have hl:0<cs.length:=List.length_pos_iff.2 hn
 have hj:=h (cs.length-1) _ (List.getElem?_eq_getElem (by omega))
 unfold World.cell? at hj
 simp only at hj
 split at hj
 ·rename_i c e f hb
  have h2:o+(cs.length-1)<c.size:=by
   simp only [Option.isSome_none,Bool.false_eq_true,if_false] at hj
   exact (Array.getElem?_eq_some_iff.1 hj).1
  show o+cs.length<=(match w.heap[b]? with | some (.cells c _ _)=>(c.size,0) | _=>(0,0)).1
  rw [hb]
  show o+cs.length<=c.size
  omega
 ·cases hj
theorem c07 {w:World}{base:Nat}{a:Addr}{n:Nat}{cs:List Value}(h:w.cells? base a n=some cs) :
 cs.length=n/\∀ (i:Nat) (v:Value),cs[i]?=some v->w.cell? (a.add i)=some v:=by
 unfold World.cells? at h
 split at h
 ·have hl:cs.length=n:=by simpa using mapM_some_length h
  refine ⟨hl,fun i v hv=>?_⟩
  have hi:i<n:=by have:=(List.getElem?_eq_some_iff.1 hv).1; omega
  have:=mapM_some_get h i i (by simp [hi])
  rw [this,hv]
 ·cases h
theorem c4N (a:Addr)(x j:Nat):(a.add x).add j=a.add (x+j):=by
 unfold Addr.add
 by_cases hx:x=0
 ·subst hx; simp
 ·by_cases hj:j=0
  ·subst hj; simp [hx]
  ·rw [if_neg hj,if_neg hx,if_neg (by omega),Nat.add_assoc]
theorem c1I {w:World}{a:Addr}{v:Value}(h:w.cell? a=some v):a.spot=none:=by
 unfold World.cell? at h
 split at h
 ·split at h
  ·cases h
  ·rename_i hs; simpa using hs
 ·cases h
section
variable {H:Type}{enc:TypeId×Value->H}{P:Program}{w:World}{base:Nat}{spare:Nat->Bool}{held:Bool}
theorem b6T {α:Type} [Rp α] {fuel:Nat}{t e:TypeId}{cs:List Value}{x:DataW H×List MemPlace}(ht:P.underlying t=some (.slice e))(hc:P.cellsOf e=Rp.sz α)(bk:α->Nat)
 (hrd:∀ (n:Nat) (cs:List Value) (x:DataW H×List MemPlace),n<fuel->w.noneFrozen x.2->DataW.trod enc P w base spare held n e cs=some x->∃ d:α,Rp.cells (a6k w) d cs/\bk d<=Rows.uptoBulk x.1) (hz:w.noneFrozen x.2)
 (h:DataW.trod enc P w base spare held fuel t cs=some x) :
 ∃ (ds:List α) (A:Option Addr) (c:Nat),cs=[.slice A ds.length c]/\Sl (a6k w) ds A c/\(ds.map bk).sum+1<=Rows.uptoBulk x.1:=by
 rcases DataW.trod_slice ht h with ⟨rfl,rfl⟩ | ⟨a,len,cap,elems,rest,n,rfl,rfl,rfl,hb,hl,hm,hle,hget,-,-⟩
 ·exact ⟨[],none,0,rfl,Sl.nil_ _ _ _ (Nat.zero_le _),by simp [Rows.uptoBulk]⟩
 have hze:∀ y∈elems,w.noneFrozen y.2:=fun y hy b off hm'=>hz b off (List.mem_append_right _ (List.mem_flatMap.2 ⟨y,List.mem_append_left _ hy,hm'⟩))
 have hzr:∀ i,i<(elems.length+rest.length)*P.cellsOf e->w.frozen? ⟨a.block,a.off+i,none⟩=false:=fun i hi=>hz _ _ (List.mem_append_left _ (List.mem_map.2 ⟨i,List.mem_range.2 hi,rfl⟩))
 have key:∀ (m i:Nat),i+m=len->∃ (ds:List α) (cs:List Value),ds.length=m/\Q8 (a6k w) ds cs /\
  (∀ (j:Nat) (v:Value),cs[j]?=some v->w.cell? (a.add (i*Rp.sz α+j))=some v)/\(ds.map bk).sum<=Rows.uptoBulkAll ((elems.drop i).map (·.1)):=by
  intro m
  induction m with
  | zero=>intro i _; exact ⟨[],[],rfl,rfl,fun j v hv=>by simp at hv,by simp⟩
  | succ m ih =>
    intro i hi
    obtain ⟨ds,cs,h1,h2,h3,h4⟩:=ih (i+1) (by omega)
    have hlt:i<elems.length:=by omega
    have hg:=hget i (by omega)
    rw [List.getElem?_eq_getElem hlt,Option.bind_eq_some_iff] at hg
    obtain ⟨cs0,hcs,htr⟩:=hg
    obtain ⟨d,hd,hbk⟩:=hrd n cs0 _ (by omega) (hze _ (List.getElem_mem hlt)) htr
    obtain ⟨hcl,hci⟩:=c07 hcs
    rw [hc] at hcl hci
    refine ⟨d::ds,cs0++cs,by simp [h1],⟨cs0,cs,rfl,hd,h2⟩,?_,?_⟩
    ·intro j v hv
     by_cases hj:j<Rp.sz α
     ·rw [List.getElem?_append_left (by omega)] at hv
      rw [<- c4N]
      exact hci j v hv
     ·rw [List.getElem?_append_right (by omega)] at hv
      have:=h3 _ v hv
      rw [hcl,Nat.add_mul,Nat.one_mul] at this
      have e:i*Rp.sz α+Rp.sz α+(j-Rp.sz α)=i*Rp.sz α+j:=by omega
      rw [e] at this
      exact this
    ·rw [List.drop_eq_getElem_cons hlt]
     simp only [List.map_cons,List.sum_cons,Rows.uptoBulkAll]
     omega
 obtain ⟨ds,cs,h1,h2,h3,h4⟩:=key len 0 (by omega)
 simp only [Nat.zero_mul,Nat.zero_add,List.drop_zero] at h3 h4
 refine ⟨ds,some a,cap,by rw [h1],⟨by omega,hm,cs,h2,fun hn=>?_⟩,by simp only [Rows.uptoBulk]; omega⟩
 have hne:=h2.ne_nil hn
 cases cs with
 | nil=>exact absurd rfl hne
 | cons v0 r =>
   have h0:=h3 0 v0 rfl
   have hs:a.spot=none:=c1I (by simpa [Addr.add] using h0)
   obtain ⟨b,o,sp⟩:=a
   simp only at hs
   subst hs
   refine ⟨b,o,rfl,c1d (by simp) ?_ (fun j hj=>hzr j (by
    have h5:=h2.len
    rw [h5,h1] at hj
    rw [hc,hle]
    exact Nat.lt_of_lt_of_le hj (Nat.mul_le_mul_right _ (Nat.le_add_right _ _))))⟩
   intro j v hv
   have:=h3 j v hv
   unfold Addr.add at this
   by_cases hj:j=0
   ·subst hj; simpa using this
   ·rw [if_neg hj] at this
    exact this
end
end Go.Pl
end
section
namespace Go.Pl
open Go Go.RowKit Go.Sx Go.Qx Go.Proofs.YthpckkffhbifnaaGreatDoor
theorem c3:Go.Proofs.Tryz.prog.cellsOf 3=1:=by kernel_rfl
section
variable {H:Type}{enc:TypeId×Value->H}{w:World}{base:Nat}{spare:Nat->Bool}{held:Bool}
theorem c5d {n:Nat}{cs:List Value}{x:DataW H×List MemPlace}(hz:w.noneFrozen x.2)(h:DataW.trod enc Go.Proofs.Tryz.prog w base spare held n 3 cs=some x):∃ d:Int,(rpK .i64).cells (a6k w) d cs/\b1s d<=Rows.uptoBulk x.1:=by
 obtain ⟨k,e0,rfl,_⟩:=DataW.trod_int Go.Proofs.Tryz.underlying3 h
 exact ⟨k,e0,by simp [b1s,Rows.uptoBulk]⟩
end
end Go.Pl
end

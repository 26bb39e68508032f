/- Part 5. -/
import Derived.Test.YtlapkakgkamkoaaGreatK3
import Derived.Test.YtlapkakgkamkoaaGreatK4
import Derived.ChangeArms
import Derived.KernelRfl
import Derived.OpenShut
import Derived.Test.YtlapkakgkamkoaaGreatRows
section
namespace Go.Qx
open Go Go.RowKit Go.Sx
set_option maxHeartbeats 1600000
set_option maxRecDepth 100000
abbrev RK (r:Row I):Prop:=j6 Go.Proofs.Tryz.prog r
abbrev RO (r:Rio I):Prop:=b3a Go.Proofs.Tryz.prog r
def mkH (a:List (Nat×List (List Nat)))(b c:List (Nat×List Nat))(j:List (Nat×JH))(l:List (Nat×LH I))(k:List (Nat×KH I))(ns:List (Nat×NH I))(u:List (Nat×Nat)):Hints I :=
 ⟨fun i=>(asc a i).getD [],fun i=>(asc b i).getD [],fun i=>(asc c i).getD [],asc j,asc l,asc k,asc ns,fun i=>(asc u i).getD 0⟩
def Z8:Hints I:=mkH [] [] [] [] [] [] [] []
structure En where
 ans:Ans I
 ok:EntOk Go.Proofs.Tryz.prog ans
def enL:List En->List (Ans I)
 | []=>[]
 | e::r=>e.ans::enL r
theorem b8l:∀ l:List En,b8S Go.Proofs.Tryz.prog (enL l)
 | []=>trivial
 | e::r=>⟨e.ok,b8l r⟩
def eR {r:Row I}(h:RK r):En:=⟨b8I tb r,b2a b1c h⟩
def eO {r:Rio I}(h:RO r):En:=⟨c6F tb r,c2J b1c h⟩
def eS {r:Row I}(T f j:Nat)(is:List Nat)(h:a3N Go.Proofs.Tryz.prog r (b53 T f j is)):En:=⟨b7W tb r (b8N T f j is),b7z b1c h (fun _ _ _ _ _ _ _ _ _ hO h hc hv=>c3H hO h hc hv)⟩
theorem okR {r:Row I}(l:List En){fn:Func}(nt:Nat)(H:Hints I)(rl:List ResultVar)(hf:(Go.Proofs.Tryz.prog).funcs[r.f]?=some fn)
 (h : (fn.body, fn.name == "runtime.NumGoroutine", fn.ntmps, fn.results.toList, Nat.ble r.ps.length nt, a1f H (b3L fn) 1, r.run) = (some (b3L fn), false, nt, rl, true, true, b3b r.ps (c7e tb (b5S (enL l) 3) H (b3L fn) nt r.ps r.rs rl))) : RK r := by
 simp only [Prod.mk.injEq] at h
 obtain ⟨h1,h2,h3,h4,h5,h6,h7⟩:=h
 exact c8v b1c (a7V (b8l l) 3) mixed nt hf h1 h2 h3 h4 h5 h6 h7
theorem okO {r:Rio I}(l:List En){fn:Func}(nt:Nat)(H:Hints I)(rl:List ResultVar)(hf:(Go.Proofs.Tryz.prog).funcs[r.f]?=some fn)
 (h : (fn.body, fn.name == "runtime.NumGoroutine", fn.ntmps, fn.results.toList, Nat.ble (r.ps.length + 1) nt, a1f H (b3L fn) 1, r.run) = (some (b3L fn), false, nt, rl, true, true, fun xs => b3b r.ps (c6Z tb (b5S (enL l) 3) H (b3L fn) nt r.E r.ps r.rs rl xs))) : RO r := by
 simp only [Prod.mk.injEq] at h
 obtain ⟨h1,h2,h3,h4,h5,h6,h7⟩:=h
 exact c8h b1c (a7V (b8l l) 3) mixed nt hf h1 h2 h3 h4 h5 h6 h7
def c9G:Row I:=⟨66,[.d (.sl 3)],[.k (.row 3 false)],a4G 8⟩
theorem c2Z:j6 Go.Proofs.Tryz.prog c9G:=c1t b1c mixed Go.Proofs.Tryz.func66 (by kernel_rfl) (by kernel_rfl) (by kernel_rfl) Go.Proofs.Tryz.underlying22 rfl (by kernel_rfl) (fun _=>by kernel_rfl)
def c7v:Rio I:=⟨130,3,[],[],b9s⟩
theorem c8q:b3a Go.Proofs.Tryz.prog c7v:=c4V (I:=I) (E:=3) Go.Proofs.Tryz.lay130 130 (by kernel_rfl) (fun x=>x) Iff.rfl ⟨_,_,Go.Proofs.Tryz.func130,rfl,by kernel_rfl⟩
def c8c:Row I:=⟨153,[.d (.str),.d (.str)],[.k (.d (.int .i64))],c0t⟩
theorem c83:j6 Go.Proofs.Tryz.prog c8c:=c8r Go.Proofs.Tryz.func153 (by kernel_rfl) rfl (by kernel_rfl) (by kernel_rfl)
def c7G:Row I:=⟨137,[.d (.sl 33)],[.k (.row 33 false)],a4G 128⟩
theorem c80:j6 Go.Proofs.Tryz.prog c7G:=c1t b1c mixed Go.Proofs.Tryz.func137 (by kernel_rfl) (by kernel_rfl) (by kernel_rfl) Go.Proofs.Tryz.underlying28 rfl (by kernel_rfl) (fun _=>by kernel_rfl)
def b3o:Hints I:=mkH [] [] [] [] [(26,⟨65532,[],[],[(3,.k (.d (.int .i64)))],[((.exit 0),[]),(.ret,[(2,.k (.d (.bool)))])],bnd tb (.len (.slot 0)) 1⟩)] [] [] []
def b1k:Row I:=⟨5,[.d (.sl 22)],[.k (.d (.bool))],a3O⟩
theorem b2Y:RK (b1k) :=
 okR [] 16 b3o [.tmp 2] Go.Proofs.Tryz.func5 (by kernel_rfl)
def a8x:Hints I:=mkH [] [] [] [] [(26,⟨524080,[],[],[(8,.k (.d (.int .i64)))],[((.exit 0),[]),(.ret,[(4,.k (.d (.int .i64)))])],bnd tb (.slot 7) 1⟩)] [] [] []
def a7v:Row I:=⟨100,[.d (.sl 22),.fn [.sl 3] [.k (.d (.bool))]],[.k (.d (.int .i64))],a2S⟩
theorem a7M:RK (a7v) :=
 okR [] 19 a8x [.tmp 4] Go.Proofs.Tryz.func100 (by kernel_rfl)
def a6e:Row I:=⟨69,[.d (.sl 22),.fn [.sl 3] [.k (.d (.bool))]],[.k (.d (.bool))],a0Z⟩
theorem a6F:RK (a6e) :=
 okR [eR a7M] 9 Z8 [.tmp 4] Go.Proofs.Tryz.func69 (by kernel_rfl)
def b5h:Row I:=⟨70,[.d (.sl 3),.var 3 (.k (.d (.int .i64))) false],[.k (.d (.bool))],a7Z⟩
theorem b6p:RK (b5h) :=
 okR [] 8 Z8 [.tmp 3] Go.Proofs.Tryz.func70 (by kernel_rfl)
def b63:Row I:=⟨36,[.d (.int .i64),.d (.sl 22)],[.k (.d (.bool))],a4k⟩
theorem b72:RK (b63) :=
 okR [eR a6F,eR b6p] 9 Z8 [.tmp 4] Go.Proofs.Tryz.func36 (by kernel_rfl)
def a8Q:Hints I:=mkH [] [] [] [] [(26,⟨524080,[],[],[(8,.k (.d (.int .i64)))],[((.exit 0),[]),(.ret,[(4,.k (.d (.int .i64)))])],bnd tb (.slot 7) 1⟩)] [] [] []
def a70:Row I:=⟨106,[.d (.sl 3),.fn [.int .i64] [.k (.d (.bool))]],[.k (.d (.int .i64))],a3f⟩
theorem a8J:RK (a70) :=
 okR [] 19 a8Q [.tmp 4] Go.Proofs.Tryz.func106 (by kernel_rfl)
def a6B:Row I:=⟨74,[.d (.sl 3),.fn [.int .i64] [.k (.d (.bool))]],[.k (.d (.bool))],Q9⟩
theorem a1N:RK (a6B) :=
 okR [eR a8J] 9 Z8 [.tmp 4] Go.Proofs.Tryz.func74 (by kernel_rfl)
def b1A:Hints I:=mkH [] [] [] [] [(26,⟨524080,[],[],[(8,.k (.d (.int .i64)))],[((.exit 0),[]),(.ret,[(4,.k (.d (.int .i64)))])],bnd tb (.slot 7) 1⟩)] [] [] []
def b0w:Row I:=⟨129,[.d (.sl 3),.d (.int .i64)],[.k (.d (.int .i64))],a4A⟩
theorem b0H:RK (b0w) :=
 okR [] 19 b1A [.tmp 4] Go.Proofs.Tryz.func129 (by kernel_rfl)
def a8r:Row I:=⟨102,[.d (.sl 3),.d (.int .i64)],[.k (.d (.bool))],a15⟩
theorem a85:RK (a8r) :=
 okR [eR b0H] 9 Z8 [.tmp 4] Go.Proofs.Tryz.func102 (by kernel_rfl)
def b4t:Row I:=⟨101,[.d (.int .i64),.var 22 (.k (.d (.sl 3))) false],[.k (.d (.bool))],a6Z⟩
theorem b4X:RK (b4t) :=
 okR [eR a85] 7 Z8 [.tmp 3] Go.Proofs.Tryz.func101 (by kernel_rfl)
def b6i:Row I:=⟨71,[.d (.sl 3),.d (.sl 3)],[.k (.d (.bool))],a58⟩
theorem b7x:RK (b6i) :=
 okR [eR a1N,eR b4X] 8 Z8 [.tmp 4] Go.Proofs.Tryz.func71 (by kernel_rfl)
def b0j:Hints I:=mkH [(6,[[],[],[0,1],[0,1,2],[],[],[5],[4,5,6],[4,5,6,7],[0,1,2,3,4,5,6,7,8]]),(11,[[],[],[0,1],[0,1,2],[],[],[5],[4,5,6],[4,5,6,7],[0,1,2,3,4,5,6,7,8]])] [] [] [] [(58,⟨1152921504606846012,[],[],[(0,.k (.row 3 false)),(3,.k (.d (.int .i64)))],[((.exit 0),[(0,.k (.row 3 false))]),(.ret,[(2,.k (.row 3 false))])],bnd tb (.len (.slot 0)) 1⟩)] [(59690,⟨18014397972611112,0,.row 3,[(3,.k (.d (.int .i64))),(5,.k (.d (.int .i64)))],[((.exit 2),[(3,.k (.d (.int .i64)))])],bnd tb (.len (.slot 4)) 1,0⟩)] [] []
def a82:Row I:=⟨132,[.row 3 false],[.k (.row 3 false)],a2n⟩
theorem a9j:RK (a82) :=
 okR [] 61 b0j [.tmp 2] Go.Proofs.Tryz.func132 (by kernel_rfl)
def b0B:Row I:=⟨131,[.d (.sl 3)],[.k (.row 3 true)],a4Q⟩
theorem b1P:RK (b0B) :=
 okR [] 9 Z8 [.tmp 2] Go.Proofs.Tryz.func131 (by kernel_rfl)
def b8r:Row I:=⟨103,[.d (.sl 3)],[.k (.row 3 true)],a5T⟩
theorem b87:RK (b8r) :=
 okR [eR c2Z,eO c8q,eR a9j,eR b1P] 11 Z8 [.tmp 2] Go.Proofs.Tryz.func103 (by kernel_rfl)
def b98:Hints I:=mkH [(1,[[],[0],[0,1],[],[3],[0,1,2,3,4],[],[6],[0,1,2,3,4,5,6,7],[0,1,2,3,4,5,6,7,8]])] [] [] [] [] [] [] []
def b8n:Row I:=⟨72,[.d (.dat 56)],[.k (.d (.dat 56))],a8e⟩
theorem b9q:RK (b8n) :=
 okR [eR b87] 12 b98 [.cell 2 56] Go.Proofs.Tryz.func72 (by kernel_rfl)
def b91:Hints I:=mkH [(9,[[],[0],[],[],[2,3],[2,3,4],[2,3,4,5],[0,1,2,3,4,5,6],[0,1,2,3,4,5,6,7],[0,1,2,3,4,5,6,7,8]]),(14,[[],[],[0,1],[0,1,2],[],[],[4,5],[4,5,6],[0,1,2,3,4,5,6,7],[0,1,2,3,4,5,6,7,8],[],[0,1,2,3,4,5,6,7,8,9,10]]),(15,[[],[0],[],[],[2,3],[2,3,4],[2,3,4,5],[0,1,2,3,4,5,6],[0,1,2,3,4,5,6,7],[0,1,2,3,4,5,6,7,8]]),(19,[[],[0],[],[2],[2,3],[0,1,2,3,4],[0,1,2,3,4,5],[0,1,2,3,4,5,6]])] [] [] [] [(58,⟨4835703278458516698261504,[],[(10,.lvs [.row 56 false]),(12,.lvs [.row 56 false])],[(20,.k (.d (.int .i64)))],[((.exit 0),[]),(.ret,[(11,.k (.d (.bool))),(1000012,.lvs [.d (.any)])])],bnd tb (.slot 19) 1⟩),
 (59802,⟨549722324992,[],[(14,.lvs [.row 3 false,.row 3 false,.d (.bool)])],[(25,.k (.d (.int .i64)))],[((.exit 2),[])],bnd tb (.slot 24) 1⟩),
 (119610,⟨295147902980329963520,[],[(14,.lvs [.row 3 false,.row 3 false,.d (.bool)])],[(41,.k (.d (.int .i64)))],[((.exit 4),[])],bnd tb (.slot 40) 1⟩)] [] [] []
def b7H:Row I:=⟨37,[.d (.int .i64),.d (.sl 22),.d (.sl 22),.d (.sl 22),.bor 3],[.lvs [.row 56 false],.k (.d (.bool))],a8h⟩
theorem b8M:RK (b7H) :=
 okR [eR b7x,eR b9q] 83 b91 [.cell 10 52,.tmp 11] Go.Proofs.Tryz.func37 (by kernel_rfl)
def b6f:Hints I:=mkH [(5,[[],[],[0,1],[0,1,2],[],[],[4,5],[4,5,6],[4,5,6,7],[0,1,2,3,4,5,6,7,8]])] [] [] [] [] [(26,⟨2147483440,0,.row 3,[(8,.k (.d (.int .i64)))],[((.exit 0),[]),(.ret,[(4,.k (.d (.bool)))])],bnd tb (.slot 7) 1,0⟩)] [] []
def b4C:Rio I:=⟨38,3,[.d (.sl 22)],[.k (.d (.bool))],a3G⟩
theorem b5j:RO (b4C) :=
 okO [] 31 b6f [.tmp 4] Go.Proofs.Tryz.func38 (by kernel_rfl)
def tyM (B:Nat):List TE:=[⟨2,Int,rpK .i64⟩,
 ⟨3,Int,rpK .i64⟩,
 ⟨4,Bool,rpBool⟩,
 ⟨9,ByteArray,rpStr⟩,
 ⟨22,List Int,@rpList _ (rpK .i64)⟩,
 ⟨25,List Api_TypeNode,@rpList _ (J2)⟩,
 ⟨27,Api_Type,a2Z⟩,
 ⟨28,List Val,@rpList _ (rpVal)⟩,
 ⟨29,List Key,@rpList _ (rpKey)⟩,
 ⟨30,List Ent,@rpList _ (rpEnt)⟩,
 ⟨31,List ByteArray,@rpList _ (rpStr)⟩,
 ⟨33,Val,rpVal⟩,
 ⟨36,List Api_Range,@rpList _ (K5)⟩,
 ⟨38,Api_Names,X4⟩,
 ⟨40,Api_Line,a20⟩,
 ⟨44,Semtypebase_Source,a0M⟩,
 ⟨50,List Api_Goal,@rpList _ (X8)⟩,
 ⟨52,Api_Box,@b3q Api_Box Api_Goal X8 B a2h⟩,
 ⟨56,Api_Goal,X8⟩,
 ⟨62,List Api_Field,@rpList _ (Q2)⟩,
 ⟨63,Int×Int,j8 (rpK .i64) (rpK .i64)⟩,
 ⟨65,Api_TypeNode,J2⟩,
 ⟨88,Ent,rpEnt⟩,
 ⟨109,Key,rpKey⟩,
 ⟨111,Api_Field,Q2⟩,
 ⟨149,Value_used,a3A⟩,
 ⟨206,Api_Range,K5⟩]
abbrev J (B:Nat)(E:TypeId):Type:=(a6T (tyM B) E).α
instance rJ (B:Nat) (E:TypeId):Rp (J B E):=(a6T (tyM B) E).rp
def c1h (B:Nat):Fd (J B) (J B 27) inferInstance:=(a1p (rg:=a2Z) (w6 (K6 65:Fd (J B) (List Api_TypeNode) (@rpList _ (J2))) ((a0b .i64:Fd (J B) Int (rpK .i64)))) b1m b6A (fun _=>rfl) (fun _ _ _=>Iff.rfl):Fd (J B) Api_Type a2Z)
def c2N (B:Nat):Fd (J B) (J B 33) inferInstance:=(a1p (rg:=rpVal) (w6 (a0b .i64:Fd (J B) Int (rpK .i64)) (w6 (a0b .i64:Fd (J B) Int (rpK .i64)) (w6 (b0S:Fd (J B) ByteArray (rpStr)) (w6 (K6 33:Fd (J B) (List Val) (@rpList _ (rpVal))) (w6 (K6 109:Fd (J B) (List Key) (@rpList _ (rpKey))) (w6 (K6 88:Fd (J B) (List Ent) (@rpList _ (rpEnt))) ((K6 9:Fd (J B) (List ByteArray) (@rpList _ (rpStr)))))))))) Val.to Val.of (fun _=>rfl) Val.cells_to:Fd (J B) Val rpVal)
def b4f (B:Nat):Fd (J B) (J B 38) inferInstance:=(a1p (rg:=X4) (w6 (a1y:Fd (J B) Bool (rpBool)) ((K6 9:Fd (J B) (List ByteArray) (@rpList _ (rpStr))))) a9P b4N (fun _=>rfl) (fun _ _ _=>Iff.rfl):Fd (J B) Api_Names X4)
def c0K (B:Nat):Fd (J B) (J B 40) inferInstance:=(a1p (rg:=a20) (w6 (a0b .i64:Fd (J B) Int (rpK .i64)) (w6 (a0b .i64:Fd (J B) Int (rpK .i64)) (w6 (K6 206:Fd (J B) (List Api_Range) (@rpList _ (K5))) (w6 (b02 38 (b4f B):Fd (J B) Api_Names (X4)) (w6 (K6 3:Fd (J B) (List Int) (@rpList _ (rpK .i64))) (w6 (K6 3:Fd (J B) (List Int) (@rpList _ (rpK .i64))) (w6 (K6 9:Fd (J B) (List ByteArray) (@rpList _ (rpStr))) ((K6 9:Fd (J B) (List ByteArray) (@rpList _ (rpStr))))))))))) b1T b6E (fun _=>rfl) (fun _ _ _=>Iff.rfl):Fd (J B) Api_Line a20)
def b1l (B:Nat):Fd (J B) (J B 44) inferInstance:=(a1p (rg:=a0M) (w6 (K6 3:Fd (J B) (List Int) (@rpList _ (rpK .i64))) ((a0b .i64:Fd (J B) Int (rpK .i64)))) a4j a6r (fun _=>rfl) (fun _ _ _=>Iff.rfl):Fd (J B) Semtypebase_Source a0M)
def c12 (B:Nat):Fd (J B) (J B 52) inferInstance:=(d0c (I:=J B) (G:=56) B a2h:Fd (J B) Api_Box (@b3q Api_Box Api_Goal X8 B a2h))
def c0B (B:Nat):Fd (J B) (J B 56) inferInstance:=(a1p (rg:=X8) (w6 (K6 3:Fd (J B) (List Int) (@rpList _ (rpK .i64))) (w6 (K6 3:Fd (J B) (List Int) (@rpList _ (rpK .i64))) ((a1y:Fd (J B) Bool (rpBool))))) b1y b6L (fun _=>rfl) (fun _ _ _=>Iff.rfl):Fd (J B) Api_Goal X8)
def c2X (B:Nat):Fd (J B) (J B 63) inferInstance:=(w6 (a0b .i64:Fd (J B) Int (rpK .i64)) ((a0b .i64:Fd (J B) Int (rpK .i64))):Fd (J B) (Int×Int) (j8 (rpK .i64) (rpK .i64)))
def b6X (B:Nat):Fd (J B) (J B 65) inferInstance:=(a1p (rg:=J2) (w6 (a0b .i64:Fd (J B) Int (rpK .i64)) (w6 (a0b .i64:Fd (J B) Int (rpK .i64)) (w6 (a0b .i64:Fd (J B) Int (rpK .i64)) (w6 (b0S:Fd (J B) ByteArray (rpStr)) (w6 (K6 3:Fd (J B) (List Int) (@rpList _ (rpK .i64))) (w6 (K6 111:Fd (J B) (List Api_Field) (@rpList _ (Q2))) ((b02 63 (c2X B):Fd (J B) (Int×Int) (j8 (rpK .i64) (rpK .i64)))))))))) a65 b0P (fun _=>rfl) (fun _ _ _=>Iff.rfl):Fd (J B) Api_TypeNode J2)
def c7H (B:Nat):Fd (J B) (J B 88) inferInstance:=(a1p (rg:=rpEnt) (w6 (K6 33:Fd (J B) (List Val) (@rpList _ (rpVal))) (w6 (a1y:Fd (J B) Bool (rpBool)) ((b02 33 (c2N B):Fd (J B) Val (rpVal))))) Ent.to Ent.of (fun _=>rfl) Ent.cells_to:Fd (J B) Ent rpEnt)
def c2I (B:Nat):Fd (J B) (J B 109) inferInstance:=(a1p (rg:=rpKey) (w6 (a0b .i64:Fd (J B) Int (rpK .i64)) ((b0S:Fd (J B) ByteArray (rpStr)))) Key.to Key.of (fun _=>rfl) Key.cells_to:Fd (J B) Key rpKey)
def b95 (B:Nat):Fd (J B) (J B 111) inferInstance:=(a1p (rg:=Q2) (w6 (b02 109 (c2I B):Fd (J B) Key (rpKey)) (w6 (a0b .i64:Fd (J B) Int (rpK .i64)) ((a1y:Fd (J B) Bool (rpBool))))) a96 b4U (fun _=>rfl) (fun _ _ _=>Iff.rfl):Fd (J B) Api_Field Q2)
def b85 (B:Nat):Fd (J B) (J B 149) inferInstance:=(a1p (rg:=a3A) (w6 (a1y:Fd (J B) Bool (rpBool)) (w6 (a1y:Fd (J B) Bool (rpBool)) (w6 (a1y:Fd (J B) Bool (rpBool)) (w6 (a1y:Fd (J B) Bool (rpBool)) ((a1y:Fd (J B) Bool (rpBool))))))) a8L b4c (fun _=>rfl) (fun _ _ _=>Iff.rfl):Fd (J B) Value_used a3A)
def b92 (B:Nat):Fd (J B) (J B 206) inferInstance:=(a1p (rg:=K5) (w6 (a0b .i64:Fd (J B) Int (rpK .i64)) ((a0b .i64:Fd (J B) Int (rpK .i64)))) a91 b5C (fun _=>rfl) (fun _ _ _=>Iff.rfl):Fd (J B) Api_Range K5)
def feM (B:Nat):List (FE (J B)):=[⟨2,a0b .i64⟩,
 ⟨3,a0b .i64⟩,
 ⟨4,a1y⟩,
 ⟨9,b0S⟩,
 ⟨22,K6 3⟩,
 ⟨25,K6 65⟩,
 ⟨27,(c1h B)⟩,
 ⟨28,K6 33⟩,
 ⟨29,K6 109⟩,
 ⟨30,K6 88⟩,
 ⟨31,K6 9⟩,
 ⟨33,(c2N B)⟩,
 ⟨36,K6 206⟩,
 ⟨38,(b4f B)⟩,
 ⟨40,(c0K B)⟩,
 ⟨44,(b1l B)⟩,
 ⟨50,K6 56⟩,
 ⟨52,(c12 B)⟩,
 ⟨56,(c0B B)⟩,
 ⟨62,K6 111⟩,
 ⟨63,(c2X B)⟩,
 ⟨65,(b6X B)⟩,
 ⟨88,(c7H B)⟩,
 ⟨109,(c2I B)⟩,
 ⟨111,(b95 B)⟩,
 ⟨149,(b85 B)⟩,
 ⟨206,(b92 B)⟩]
def c9g (B:Nat):TabL (J B) where
 lo:=B
 sz:=[(27,2),(33,7),(40,9),(52,1),(56,3),(63,2),(65,8),(88,9),(109,2),(111,4),(149,5)]
 one:=[(2,()),(3,()),(4,()),(9,()),(22,()),(25,()),(28,()),(29,()),(30,()),(31,()),(50,()),(62,()),(74,())]
 fld:=[(27,[(0,25),(1,3)]),(33,[(0,3),(1,2),(2,9),(3,28),(4,29),(5,30),(6,31)]),(40,[(0,3),(1,3),(2,36),(3,38),(5,22),(6,22),(7,31),(8,31)]),(44,[(0,22),(1,3)]),(52,[(0,50)]),(56,[(0,22),(1,22),(2,4)]),(65,[(0,3),(1,2),(2,2),(3,9),(4,22),(5,62),(6,63)]),(88,[(0,28),(1,4),(2,33)]),(109,[(0,3),(1,9)]),(111,[(0,109),(2,3),(3,4)]),(149,[(0,4),(1,4),(2,4),(3,4),(4,4)])]
 el:=[(22,3),(25,65),(28,33),(29,109),(30,88),(31,9),(45,52),(50,56),(60,22),(62,111),(91,4),(93,2)]
 str:=[(9,())]
 bool:=[(4,())]
 ik:=[]
 fe:=(feM B)
 inf:=[(2,1,8,[.int .i64 0]),(3,1,8,[.int .i64 0]),(4,1,1,[.bool false]),(9,1,16,[.str ⟨#[]⟩]),(22,1,24,[.nl 3]),(25,1,24,[.nl 65]),(27,2,32,[.nl 65,.int .i64 0]),(28,1,24,[.nl 33]),(29,1,24,[.nl 109]),(31,1,24,[.nl 9]),(33,7,128,[.int .i64 0,.int .i64 0,.str ⟨#[]⟩,.nl 33,.nl 109,.nl 88,.nl 9]),(40,9,168,[.int .i64 0,.int .i64 0,.nl 206,.bool false,.nl 9,.nl 3,.nl 3,.nl 9,.nl 9]),(44,2,32,[.nl 3,.int .i64 0]),(50,1,24,[.nl 56]),(52,1,24,[.nl 56]),(56,3,56,[.nl 3,.nl 3,.bool false]),(62,1,24,[.nl 111]),(63,2,16,[.int .i64 0,.int .i64 0]),(65,8,104,[.int .i64 0,.int .i64 0,.int .i64 0,.str ⟨#[]⟩,.nl 3,.nl 111,.int .i64 0,.int .i64 0]),(74,1,8,[.any]),(88,9,160,[.nl 33,.bool false,.int .i64 0,.int .i64 0,.str ⟨#[]⟩,.nl 33,.nl 109,.nl 88,.nl 9]),(109,2,24,[.int .i64 0,.str ⟨#[]⟩]),(111,4,40,[.int .i64 0,.str ⟨#[]⟩,.int .i64 0,.bool false]),(149,5,5,[.bool false,.bool false,.bool false,.bool false,.bool false])]
 st:=[(27,[(0,1),(1,1)]),(33,[(0,1),(1,1),(2,1),(3,1),(4,1),(5,1),(6,1)]),(40,[(0,1),(1,1),(2,1),(3,2),(5,1),(6,1),(7,1),(8,1)]),(44,[(0,1),(1,1)]),(52,[(0,1)]),(56,[(0,1),(1,1),(2,1)]),(63,[(0,1),(1,1)]),(65,[(0,1),(1,1),(2,1),(3,1),(4,1),(5,1),(6,2)]),(109,[(0,1),(1,1)]),(111,[(0,2),(2,1),(3,1)]),(149,[(0,1),(1,1),(2,1),(3,1),(4,1)])]
 eq:=[(63,b5o (feM B) 63 a50),(109,b5o (feM B) 109 a4n)]
 nest:=[(22,3,0)]
 arr:=[(63,3,2,1)]
 fb:=[(22,()),(28,()),(70,()),(75,()),(77,()),(93,()),(94,()),(96,()),(97,()),(99,()),(101,()),(111,()),(112,()),(128,()),(150,()),(166,())]
abbrev tbJ (B:Nat):Tab (J B):=c3c (c9g B)
theorem d0b (B:Nat){σ:S}{x y:Int×Int}{cs ds:List Value}(h:(rJ B 63).cells σ x cs)(k:(rJ B 63).cells σ y ds):Sx.EqAt Go.Proofs.Tryz.prog 2 63 (.agg cs.toArray) (.agg ds.toArray) (a50 x y):=by
 obtain ⟨_,_,rfl,rfl,rfl⟩:=h
 obtain ⟨_,_,rfl,rfl,rfl⟩:=k
 exact c1Q Go.Proofs.Tryz.underlying63 ti3 (b03 (a0T to3 rfl) (a0T to3 rfl) (a71 Go.Proofs.Tryz.underlying3) (b03 (a0T to3 rfl) (a0T to3 rfl) (a71 Go.Proofs.Tryz.underlying3) c0u))
theorem c8B (B:Nat){σ:S}{x y:Key}{cs ds:List Value}(h:(rJ B 109).cells σ x cs)(k:(rJ B 109).cells σ y ds):Sx.EqAt Go.Proofs.Tryz.prog 2 109 (.agg cs.toArray) (.agg ds.toArray) (a4n x y):=by
 obtain ⟨_,_,rfl,rfl,rfl⟩:=h
 obtain ⟨_,_,rfl,rfl,rfl⟩:=k
 exact b6G Go.Proofs.Tryz.underlying109 (by kernel_rfl) (b09 (by decide) (a0T to3 rfl) (a0T to3 rfl) (a71 Go.Proofs.Tryz.underlying3) (b09 (by decide) (a0T to9 rfl) (a0T to9 rfl) (c0C Go.Proofs.Tryz.underlying9) c1r))
theorem c9x (B:Nat)(T:TypeId)(g:J B T->J B T->Bool){K:Nat}(h:∀ {σ:S} {x y:J B T} {cs ds:List Value},Rp.cells σ x cs->Rp.cells σ y ds->Sx.EqAt Go.Proofs.Tryz.prog K T (.agg cs.toArray) (.agg ds.toArray) (g x y))(hg:Go.Proofs.Tryz.prog.eqGuardType (Go.Proofs.Tryz.prog).depth T=false)(hK:Nat.ble K 10000=true)
 {X:Cxt} {c:Cx} {σ:S} {ls ms:List (PV (J B))} {r:Bool} {cs ds:List Value} (h1:b5o (feM B) T g ls ms=some r) (h2:RG X c σ ls cs) (h3:RG X c σ ms ds) :
 Go.Proofs.Tryz.prog.eqGuardType (Go.Proofs.Tryz.prog).depth T=false/\∃ j,Nat.ble j 10000=true/\Sx.EqAt Go.Proofs.Tryz.prog j T (.agg cs.toArray) (.agg ds.toArray) r:=by
 obtain ⟨x,y,k1,k2,rfl⟩:=c2D h1 h2 h3
 exact ⟨hg,K,hK,h k1 k2⟩
theorem c9q (B:Nat):TabLOk Go.Proofs.Tryz.prog (c9g B) where
 low:=fun E=>b9T (l:=tyM B) (n:=B) ⟨Nat.zero_le _,⟨Nat.zero_le _,⟨Nat.zero_le _,⟨Nat.zero_le _,⟨Nat.zero_le _,⟨Nat.zero_le _,⟨Nat.zero_le _,⟨Nat.zero_le _,⟨Nat.zero_le _,⟨Nat.zero_le _,⟨Nat.zero_le _,⟨Nat.zero_le _,⟨Nat.zero_le _,⟨Nat.zero_le _,⟨Nat.zero_le _,⟨Nat.zero_le _,⟨Nat.zero_le _,⟨Nat.le_refl _,⟨Nat.zero_le _,⟨Nat.zero_le _,⟨Nat.zero_le _,⟨Nat.zero_le _,⟨Nat.zero_le _,⟨Nat.zero_le _,⟨Nat.zero_le _,⟨Nat.zero_le _,⟨Nat.zero_le _,trivial⟩⟩⟩⟩⟩⟩⟩⟩⟩⟩⟩⟩⟩⟩⟩⟩⟩⟩⟩⟩⟩⟩⟩⟩⟩⟩⟩ E
 sz:=⟨⟨_,Go.Proofs.Tryz.underlying27,rfl,by kernel_rfl⟩,⟨⟨_,Go.Proofs.Tryz.underlying33,rfl,by kernel_rfl⟩,⟨⟨_,Go.Proofs.Tryz.underlying40,rfl,by kernel_rfl⟩,⟨⟨_,Go.Proofs.Tryz.underlying52,rfl,by kernel_rfl⟩,⟨⟨_,Go.Proofs.Tryz.underlying56,rfl,by kernel_rfl⟩,⟨⟨_,Go.Proofs.Tryz.underlying63,rfl,by kernel_rfl⟩,⟨⟨_,Go.Proofs.Tryz.underlying65,rfl,by kernel_rfl⟩,⟨⟨_,Go.Proofs.Tryz.underlying88,rfl,by kernel_rfl⟩,⟨⟨_,Go.Proofs.Tryz.underlying109,rfl,by kernel_rfl⟩,⟨⟨_,Go.Proofs.Tryz.underlying111,rfl,by kernel_rfl⟩,⟨⟨_,Go.Proofs.Tryz.underlying149,rfl,by kernel_rfl⟩,trivial⟩⟩⟩⟩⟩⟩⟩⟩⟩⟩⟩
 one:=⟨to2,⟨to3,⟨to4,⟨to9,⟨c8l,⟨c8o,⟨c8S,⟨c85,⟨c89,⟨c9J,⟨c56,⟨c8J,⟨c8Y,trivial⟩⟩⟩⟩⟩⟩⟩⟩⟩⟩⟩⟩⟩
 fld:=⟨⟨⟨_,_,Go.Proofs.Tryz.underlying27,rfl,rfl,by kernel_rfl⟩,⟨⟨_,_,Go.Proofs.Tryz.underlying27,rfl,rfl⟩,⟨⟨_,_,Go.Proofs.Tryz.underlying27,rfl,rfl,by kernel_rfl⟩,⟨⟨_,_,Go.Proofs.Tryz.underlying27,rfl,rfl⟩,trivial⟩⟩⟩⟩,⟨⟨⟨_,_,Go.Proofs.Tryz.underlying33,rfl,rfl,by kernel_rfl⟩,⟨⟨_,_,Go.Proofs.Tryz.underlying33,rfl,rfl⟩,⟨⟨_,_,Go.Proofs.Tryz.underlying33,rfl,rfl,by kernel_rfl⟩,⟨⟨_,_,Go.Proofs.Tryz.underlying33,rfl,rfl⟩,⟨⟨_,_,Go.Proofs.Tryz.underlying33,rfl,rfl,by kernel_rfl⟩,⟨⟨_,_,Go.Proofs.Tryz.underlying33,rfl,rfl⟩,⟨⟨_,_,Go.Proofs.Tryz.underlying33,rfl,rfl,by kernel_rfl⟩,⟨⟨_,_,Go.Proofs.Tryz.underlying33,rfl,rfl⟩,⟨⟨_,_,Go.Proofs.Tryz.underlying33,rfl,rfl,by kernel_rfl⟩,⟨⟨_,_,Go.Proofs.Tryz.underlying33,rfl,rfl⟩,⟨⟨_,_,Go.Proofs.Tryz.underlying33,rfl,rfl,by kernel_rfl⟩,⟨⟨_,_,Go.Proofs.Tryz.underlying33,rfl,rfl⟩,⟨⟨_,_,Go.Proofs.Tryz.underlying33,rfl,rfl,by kernel_rfl⟩,⟨⟨_,_,Go.Proofs.Tryz.underlying33,rfl,rfl⟩,trivial⟩⟩⟩⟩⟩⟩⟩⟩⟩⟩⟩⟩⟩⟩,⟨⟨⟨_,_,Go.Proofs.Tryz.underlying40,rfl,rfl,by kernel_rfl⟩,⟨⟨_,_,Go.Proofs.Tryz.underlying40,rfl,rfl⟩,⟨⟨_,_,Go.Proofs.Tryz.underlying40,rfl,rfl,by kernel_rfl⟩,⟨⟨_,_,Go.Proofs.Tryz.underlying40,rfl,rfl⟩,⟨⟨_,_,Go.Proofs.Tryz.underlying40,rfl,rfl,by kernel_rfl⟩,⟨⟨_,_,Go.Proofs.Tryz.underlying40,rfl,rfl⟩,⟨⟨_,_,Go.Proofs.Tryz.underlying40,rfl,rfl,by kernel_rfl⟩,⟨⟨_,_,Go.Proofs.Tryz.underlying40,rfl,rfl⟩,⟨⟨_,_,Go.Proofs.Tryz.underlying40,rfl,rfl,by kernel_rfl⟩,⟨⟨_,_,Go.Proofs.Tryz.underlying40,rfl,rfl⟩,⟨⟨_,_,Go.Proofs.Tryz.underlying40,rfl,rfl,by kernel_rfl⟩,⟨⟨_,_,Go.Proofs.Tryz.underlying40,rfl,rfl⟩,⟨⟨_,_,Go.Proofs.Tryz.underlying40,rfl,rfl,by kernel_rfl⟩,⟨⟨_,_,Go.Proofs.Tryz.underlying40,rfl,rfl⟩,⟨⟨_,_,Go.Proofs.Tryz.underlying40,rfl,rfl,by kernel_rfl⟩,⟨⟨_,_,Go.Proofs.Tryz.underlying40,rfl,rfl⟩,trivial⟩⟩⟩⟩⟩⟩⟩⟩⟩⟩⟩⟩⟩⟩⟩⟩,⟨⟨⟨_,_,Go.Proofs.Tryz.underlying44,rfl,rfl,by kernel_rfl⟩,⟨⟨_,_,Go.Proofs.Tryz.underlying44,rfl,rfl⟩,⟨⟨_,_,Go.Proofs.Tryz.underlying44,rfl,rfl,by kernel_rfl⟩,⟨⟨_,_,Go.Proofs.Tryz.underlying44,rfl,rfl⟩,trivial⟩⟩⟩⟩,⟨⟨⟨_,_,Go.Proofs.Tryz.underlying52,rfl,rfl,by kernel_rfl⟩,⟨⟨_,_,Go.Proofs.Tryz.underlying52,rfl,rfl⟩,trivial⟩⟩,⟨⟨⟨_,_,Go.Proofs.Tryz.underlying56,rfl,rfl,by kernel_rfl⟩,⟨⟨_,_,Go.Proofs.Tryz.underlying56,rfl,rfl⟩,⟨⟨_,_,Go.Proofs.Tryz.underlying56,rfl,rfl,by kernel_rfl⟩,⟨⟨_,_,Go.Proofs.Tryz.underlying56,rfl,rfl⟩,⟨⟨_,_,Go.Proofs.Tryz.underlying56,rfl,rfl,by kernel_rfl⟩,⟨⟨_,_,Go.Proofs.Tryz.underlying56,rfl,rfl⟩,trivial⟩⟩⟩⟩⟩⟩,⟨⟨⟨_,_,Go.Proofs.Tryz.underlying65,rfl,rfl,by kernel_rfl⟩,⟨⟨_,_,Go.Proofs.Tryz.underlying65,rfl,rfl⟩,⟨⟨_,_,Go.Proofs.Tryz.underlying65,rfl,rfl,by kernel_rfl⟩,⟨⟨_,_,Go.Proofs.Tryz.underlying65,rfl,rfl⟩,⟨⟨_,_,Go.Proofs.Tryz.underlying65,rfl,rfl,by kernel_rfl⟩,⟨⟨_,_,Go.Proofs.Tryz.underlying65,rfl,rfl⟩,⟨⟨_,_,Go.Proofs.Tryz.underlying65,rfl,rfl,by kernel_rfl⟩,⟨⟨_,_,Go.Proofs.Tryz.underlying65,rfl,rfl⟩,⟨⟨_,_,Go.Proofs.Tryz.underlying65,rfl,rfl,by kernel_rfl⟩,⟨⟨_,_,Go.Proofs.Tryz.underlying65,rfl,rfl⟩,⟨⟨_,_,Go.Proofs.Tryz.underlying65,rfl,rfl,by kernel_rfl⟩,⟨⟨_,_,Go.Proofs.Tryz.underlying65,rfl,rfl⟩,⟨⟨_,_,Go.Proofs.Tryz.underlying65,rfl,rfl,by kernel_rfl⟩,⟨⟨_,_,Go.Proofs.Tryz.underlying65,rfl,rfl⟩,trivial⟩⟩⟩⟩⟩⟩⟩⟩⟩⟩⟩⟩⟩⟩,⟨⟨⟨_,_,Go.Proofs.Tryz.underlying88,rfl,rfl,by kernel_rfl⟩,⟨⟨_,_,Go.Proofs.Tryz.underlying88,rfl,rfl⟩,⟨⟨_,_,Go.Proofs.Tryz.underlying88,rfl,rfl,by kernel_rfl⟩,⟨⟨_,_,Go.Proofs.Tryz.underlying88,rfl,rfl⟩,⟨⟨_,_,Go.Proofs.Tryz.underlying88,rfl,rfl,by kernel_rfl⟩,⟨⟨_,_,Go.Proofs.Tryz.underlying88,rfl,rfl⟩,trivial⟩⟩⟩⟩⟩⟩,⟨⟨⟨_,_,Go.Proofs.Tryz.underlying109,rfl,rfl,by kernel_rfl⟩,⟨⟨_,_,Go.Proofs.Tryz.underlying109,rfl,rfl⟩,⟨⟨_,_,Go.Proofs.Tryz.underlying109,rfl,rfl,by kernel_rfl⟩,⟨⟨_,_,Go.Proofs.Tryz.underlying109,rfl,rfl⟩,trivial⟩⟩⟩⟩,⟨⟨⟨_,_,Go.Proofs.Tryz.underlying111,rfl,rfl,by kernel_rfl⟩,⟨⟨_,_,Go.Proofs.Tryz.underlying111,rfl,rfl⟩,⟨⟨_,_,Go.Proofs.Tryz.underlying111,rfl,rfl,by kernel_rfl⟩,⟨⟨_,_,Go.Proofs.Tryz.underlying111,rfl,rfl⟩,⟨⟨_,_,Go.Proofs.Tryz.underlying111,rfl,rfl,by kernel_rfl⟩,⟨⟨_,_,Go.Proofs.Tryz.underlying111,rfl,rfl⟩,trivial⟩⟩⟩⟩⟩⟩,⟨⟨⟨_,_,Go.Proofs.Tryz.underlying149,rfl,rfl,by kernel_rfl⟩,⟨⟨_,_,Go.Proofs.Tryz.underlying149,rfl,rfl⟩,⟨⟨_,_,Go.Proofs.Tryz.underlying149,rfl,rfl,by kernel_rfl⟩,⟨⟨_,_,Go.Proofs.Tryz.underlying149,rfl,rfl⟩,⟨⟨_,_,Go.Proofs.Tryz.underlying149,rfl,rfl,by kernel_rfl⟩,⟨⟨_,_,Go.Proofs.Tryz.underlying149,rfl,rfl⟩,⟨⟨_,_,Go.Proofs.Tryz.underlying149,rfl,rfl,by kernel_rfl⟩,⟨⟨_,_,Go.Proofs.Tryz.underlying149,rfl,rfl⟩,⟨⟨_,_,Go.Proofs.Tryz.underlying149,rfl,rfl,by kernel_rfl⟩,⟨⟨_,_,Go.Proofs.Tryz.underlying149,rfl,rfl⟩,trivial⟩⟩⟩⟩⟩⟩⟩⟩⟩⟩,trivial⟩⟩⟩⟩⟩⟩⟩⟩⟩⟩⟩
 el:=⟨⟨Go.Proofs.Tryz.underlying22,_,_,ti3,rfl,by decide⟩,⟨⟨Go.Proofs.Tryz.underlying25,_,_,c3a,rfl,by decide⟩,⟨⟨Go.Proofs.Tryz.underlying28,_,_,c3z,rfl,by decide⟩,⟨⟨Go.Proofs.Tryz.underlying29,_,_,c0h,rfl,by decide⟩,⟨⟨Go.Proofs.Tryz.underlying30,_,_,c28,rfl,by decide⟩,⟨⟨Go.Proofs.Tryz.underlying31,_,_,ti9,rfl,by decide⟩,⟨⟨Go.Proofs.Tryz.underlying45,_,_,c3U,rfl,by decide⟩,⟨⟨Go.Proofs.Tryz.underlying50,_,_,c3d,rfl,by decide⟩,⟨⟨Go.Proofs.Tryz.underlying60,_,_,c3v,rfl,by decide⟩,⟨⟨Go.Proofs.Tryz.underlying62,_,_,c0k,rfl,by decide⟩,⟨⟨Go.Proofs.Tryz.underlying91,_,_,ti4,rfl,by decide⟩,⟨⟨Go.Proofs.Tryz.underlying93,_,_,ti2,rfl,by decide⟩,trivial⟩⟩⟩⟩⟩⟩⟩⟩⟩⟩⟩⟩
 str:=⟨Go.Proofs.Tryz.underlying9,trivial⟩
 bool:=⟨Go.Proofs.Tryz.underlying4,trivial⟩
 ik:=trivial
 inf:=⟨⟨_,ti2,fun X c σ=>RG.cns rfl V5 (RG.nl)⟩,⟨⟨_,ti3,fun X c σ=>RG.cns rfl V5 (RG.nl)⟩,⟨⟨_,ti4,fun X c σ=>RG.cns rfl a1A (RG.nl)⟩,⟨⟨_,ti9,fun X c σ=>RG.cns rfl a6a (RG.nl)⟩,⟨⟨_,c3v,fun X c σ=>RG.cns rfl J6 (RG.nl)⟩,⟨⟨_,c9t,fun X c σ=>RG.cns rfl J6 (RG.nl)⟩,⟨⟨_,c8Z,fun X c σ=>RG.cns rfl J6 (RG.cns rfl V5 (RG.nl))⟩,⟨⟨_,c9i,fun X c σ=>RG.cns rfl J6 (RG.nl)⟩,⟨⟨_,c9A,fun X c σ=>RG.cns rfl J6 (RG.nl)⟩,⟨⟨_,c9I,fun X c σ=>RG.cns rfl J6 (RG.nl)⟩,⟨⟨_,c3z,fun X c σ=>RG.cns rfl V5 (RG.cns rfl V5 (RG.cns rfl a6a (RG.cns rfl J6 (RG.cns rfl J6 (RG.cns rfl J6 (RG.cns rfl J6 (RG.nl)))))))⟩,⟨⟨_,c9z,fun X c σ=>RG.cns rfl V5 (RG.cns rfl V5 (RG.cns rfl J6 (RG.cns rfl a1A (RG.cns rfl J6 (RG.cns rfl J6 (RG.cns rfl J6 (RG.cns rfl J6 (RG.cns rfl J6 (RG.nl)))))))))⟩,⟨⟨_,c9C,fun X c σ=>RG.cns rfl J6 (RG.cns rfl V5 (RG.nl))⟩,⟨⟨_,c8p,fun X c σ=>RG.cns rfl J6 (RG.nl)⟩,⟨⟨_,c3U,fun X c σ=>RG.cns rfl J6 (RG.nl)⟩,⟨⟨_,c3d,fun X c σ=>RG.cns rfl J6 (RG.cns rfl J6 (RG.cns rfl a1A (RG.nl)))⟩,⟨⟨_,c8D,fun X c σ=>RG.cns rfl J6 (RG.nl)⟩,⟨⟨_,c8G,fun X c σ=>RG.cns rfl V5 (RG.cns rfl V5 (RG.nl))⟩,⟨⟨_,c3a,fun X c σ=>RG.cns rfl V5 (RG.cns rfl V5 (RG.cns rfl V5 (RG.cns rfl a6a (RG.cns rfl J6 (RG.cns rfl J6 (RG.cns rfl V5 (RG.cns rfl V5 (RG.nl))))))))⟩,⟨⟨_,c9s,fun X c σ=>RG.cns rfl c67 (RG.nl)⟩,⟨⟨_,c28,fun X c σ=>RG.cns rfl J6 (RG.cns rfl a1A (RG.cns rfl V5 (RG.cns rfl V5 (RG.cns rfl a6a (RG.cns rfl J6 (RG.cns rfl J6 (RG.cns rfl J6 (RG.cns rfl J6 (RG.nl)))))))))⟩,⟨⟨_,c0h,fun X c σ=>RG.cns rfl V5 (RG.cns rfl a6a (RG.nl))⟩,⟨⟨_,c0k,fun X c σ=>RG.cns rfl V5 (RG.cns rfl a6a (RG.cns rfl V5 (RG.cns rfl a1A (RG.nl))))⟩,⟨⟨_,c6T,fun X c σ=>RG.cns rfl a1A (RG.cns rfl a1A (RG.cns rfl a1A (RG.cns rfl a1A (RG.cns rfl a1A (RG.nl)))))⟩,trivial⟩⟩⟩⟩⟩⟩⟩⟩⟩⟩⟩⟩⟩⟩⟩⟩⟩⟩⟩⟩⟩⟩⟩⟩
 st:=⟨.inl ⟨_,Go.Proofs.Tryz.underlying27,by kernel_rfl⟩,⟨.inl ⟨_,Go.Proofs.Tryz.underlying33,by kernel_rfl⟩,⟨.inl ⟨_,Go.Proofs.Tryz.underlying40,by kernel_rfl⟩,⟨.inl ⟨_,Go.Proofs.Tryz.underlying44,by kernel_rfl⟩,⟨.inl ⟨_,Go.Proofs.Tryz.underlying52,by kernel_rfl⟩,⟨.inl ⟨_,Go.Proofs.Tryz.underlying56,by kernel_rfl⟩,⟨.inr (c5l Go.Proofs.Tryz.underlying63 ti3 rfl),⟨.inl ⟨_,Go.Proofs.Tryz.underlying65,by kernel_rfl⟩,⟨.inl ⟨_,Go.Proofs.Tryz.underlying109,by kernel_rfl⟩,⟨.inl ⟨_,Go.Proofs.Tryz.underlying111,by kernel_rfl⟩,⟨.inl ⟨_,Go.Proofs.Tryz.underlying149,by kernel_rfl⟩,trivial⟩⟩⟩⟩⟩⟩⟩⟩⟩⟩⟩
 eq:=⟨fun X c σ ls ms r cs ds h1 h2 h3=>c9x B 63 a50 (fun h k=>d0b B h k) (by kernel_rfl) (by decide) h1 h2 h3,⟨fun X c σ ls ms r cs ds h1 h2 h3=>c9x B 109 a4n (fun h k=>c8B B h k) (by kernel_rfl) (by decide) h1 h2 h3,trivial⟩⟩
 arr:=⟨⟨Go.Proofs.Tryz.underlying63,by kernel_rfl⟩,trivial⟩
 fb:=⟨⟨_,_,Go.Proofs.Tryz.func22,rfl,by kernel_rfl⟩,⟨⟨_,_,Go.Proofs.Tryz.func28,rfl,by kernel_rfl⟩,⟨⟨_,_,Go.Proofs.Tryz.func70,rfl,by kernel_rfl⟩,⟨⟨_,_,Go.Proofs.Tryz.func75,rfl,by kernel_rfl⟩,⟨⟨_,_,Go.Proofs.Tryz.func77,rfl,by kernel_rfl⟩,⟨⟨_,_,Go.Proofs.Tryz.func93,rfl,by kernel_rfl⟩,⟨⟨_,_,Go.Proofs.Tryz.func94,rfl,by kernel_rfl⟩,⟨⟨_,_,Go.Proofs.Tryz.func96,rfl,by kernel_rfl⟩,⟨⟨_,_,Go.Proofs.Tryz.func97,rfl,by kernel_rfl⟩,⟨⟨_,_,Go.Proofs.Tryz.func99,rfl,by kernel_rfl⟩,⟨⟨_,_,Go.Proofs.Tryz.func101,rfl,by kernel_rfl⟩,⟨⟨_,_,Go.Proofs.Tryz.func111,rfl,by kernel_rfl⟩,⟨⟨_,_,Go.Proofs.Tryz.func112,rfl,by kernel_rfl⟩,⟨⟨_,_,Go.Proofs.Tryz.func128,rfl,by kernel_rfl⟩,⟨⟨_,_,Go.Proofs.Tryz.func150,rfl,by kernel_rfl⟩,⟨⟨_,_,Go.Proofs.Tryz.func166,rfl,by kernel_rfl⟩,trivial⟩⟩⟩⟩⟩⟩⟩⟩⟩⟩⟩⟩⟩⟩⟩⟩
theorem b0R (B:Nat):TabOk Go.Proofs.Tryz.prog (tbJ B):=c1S (c9q B)
def c9l (B:Nat)(a:List (Nat×List (List Nat)))(b c:List (Nat×List Nat))(j:List (Nat×JH))(l:List (Nat×LH (J B)))(k:List (Nat×KH (J B)))(ns:List (Nat×NH (J B)))(u:List (Nat×Nat)):Hints (J B) :=
 ⟨fun i=>(asc a i).getD [],fun i=>(asc b i).getD [],fun i=>(asc c i).getD [],asc j,asc l,asc k,asc ns,fun i=>(asc u i).getD 0⟩
def a9e (B:Nat):Row (J B):=⟨36,[.d (.int .i64),.d (.sl 22)],[.k (.d (.bool))],a4k⟩
theorem b7D (B:Nat):j6 Go.Proofs.Tryz.prog (a9e B):=fun σ a vs pls res hA hd hr =>
 a1M.mono (b72 σ a vs pls res hA hd hr) rfl fun _ τ hE ⟨ws,us,pls',hp⟩=>⟨τ,rfl,hE,ws,us,pls',⟨hp.ret,hp.len,hp.tt,hp.out,hp.nodup,hp.own⟩⟩
def b7i (B:Nat):Row (J B):=⟨37,[.d (.int .i64),.d (.sl 22),.d (.sl 22),.d (.sl 22),.bor 3],[.lvs [.row 56 false],.k (.d (.bool))],a8h⟩
theorem b7I (B:Nat):j6 Go.Proofs.Tryz.prog (b7i B):=fun σ a vs pls res hA hd hr =>
 a1M.mono (b8M σ a vs pls res hA hd hr) rfl fun _ τ hE ⟨ws,us,pls',hp⟩=>⟨τ,rfl,hE,ws,us,pls',⟨hp.ret,hp.len,hp.tt,hp.out,hp.nodup,hp.own⟩⟩
def a7g (B:Nat):Rio (J B):=⟨38,3,[.d (.sl 22)],[.k (.d (.bool))],a3G⟩
theorem b4m (B:Nat):b3a Go.Proofs.Tryz.prog (a7g B):=fun σ xs a vs pls res ys hA hd hr =>
 a1M.mono (b5j σ xs a vs pls res ys hA hd hr) rfl fun _ τ hE ⟨ws,us,pls',hp,A,k,ow,h1,h2,h3,h4⟩=>⟨τ,rfl,hE,ws,us,pls',⟨hp.ret,hp.len,hp.tt,hp.out,hp.nodup,hp.own⟩,A,k,ow,h1,h2,h3,h4⟩
def a9a (B:Nat):Row (J B):=⟨37,[.d (.int .i64),.d (.sl 22),.d (.sl 22),.d (.sl 22),.bor 3],[.k (.d (.dat 52)),.k (.d .bool)],a68⟩
theorem b60 (B:Nat):a3N Go.Proofs.Tryz.prog (a9a B) (fun w _=>B<=w.heap.size):=c8H (I:=J B) (T1:=22) (T2:=3) (G:=56) (E:=52) B a2h (fun l=>Api_Box.mk l) (fun _=>rfl) (fun σ x A c h1 h2=>@c5d Api_Box Api_Goal X8 B a2h σ x A c h1 h2) (b7I B)
theorem c84 (B:Nat){r:Row (J B)}(h:a3N Go.Proofs.Tryz.prog r (fun w _=>B<=w.heap.size)):EntOk Go.Proofs.Tryz.prog (b7W (tbJ B) r (fun _ _=>true)):=b7z (b0R B) h (fun _ _ _ _ _ _ _ _ _ _ h _ _=>Nat.le_trans (h.base.2 52) h.base.1)
def esB (B:Nat):List (Ans (J B)):=[b8I (tbJ B) (a9e B),b7W (tbJ B) (a9a B) (fun _ _=>true),c6F (tbJ B) (a7g B)]
theorem c9r (B:Nat):b8S Go.Proofs.Tryz.prog (esB B):=⟨b2a (b0R B) (b7D B),c84 B (b60 B),c2J (b0R B) (b4m B),trivial⟩
def b7C (B:Nat)(n:Nat):Hints (J B):=c9l B [] [] [(11,[1000009]),(17,[9])] [(8131,⟨2321137573660088015435890688,[],[],[(.normal,[(15,.k (.row 52 false))])]⟩)] [(254,⟨79228011398536885764897341696,[],[],[(14,.k (.row 3 false)),(15,.k (.row 52 false))],[(.ret,[(8,.k (.row 52 false)),(14,.k (.row 3 false))])],fun _=>some n⟩)] [] [(122,⟨⟨18889465929279557614848,[],[],[(41,.k (.d (.int .i64)))],[((.exit 0),[]),(.ret,[(8,.k (.row 52 false))])],bnd (tbJ B) (.slot 40) 1⟩,9,22⟩),
 (62666,⟨⟨147573671114699714560,[],[],[(48,.k (.d (.int .i64)))],[((.exit 2),[])],bnd (tbJ B) (.slot 47) 1⟩,9,22⟩)] []
def a8t (B n:Nat):Row (J B):=⟨21,[.d (.int .i64),.d (.sl 22),.d (.sl 22),.fn [.int .i64] [.k (.d (.bool))]],[.k (.row 52 false)],a10 n⟩
theorem a9h (B n:Nat):a3N Go.Proofs.Tryz.prog (a8t B n) (fun w _=>B<=w.heap.size) :=
 c2E (b0R B) (a7V (c9r B) 3) mixed 96 (s0:=fun a=>a5j (tbJ B) 96 [.d (.int .i64),.d (.sl 22),.d (.sl 22),.fn [.int .i64] [.k (.d (.bool))]] a) (fn:=Go.Proofs.Tryz.f21) (cd:=b3L Go.Proofs.Tryz.f21) (H:=b7C B n) (rl:=[.tmp 8]) (fun X c σ a vs F h _ _ _=>h) Go.Proofs.Tryz.func21 (by kernel_rfl) (by kernel_rfl) (by kernel_rfl) (by kernel_rfl) (by kernel_rfl) (by kernel_rfl) (by kernel_rfl) (hlo:=.inr fun w vs h=>h)
def b6e (n:Nat):Row I:=⟨21,[.d (.int .i64),.d (.sl 22),.d (.sl 22),.fn [.int .i64] [.k (.d (.bool))]],[.k (.row 52 false)],a10 n⟩
theorem b7v (n:Nat):RK (b6e n):=fun σ a vs pls res hA hd hr =>
 a1M.mono (a9h 0 n σ a vs pls res hA (Nat.zero_le _) hd hr) rfl fun v τ hE ⟨ws,us,pls',hp⟩=>by
  obtain ⟨v1,e1,A,c,ow,e2,e3,ho⟩:=hp.tt
  exact ⟨τ,rfl,hE,ws,us,pls',hp.ret,hp.len,⟨v1,e1,A,c,ow,e2,e3,c7Q (a:=X8) (to:=a2h) ho⟩,hp.out,hp.nodup,hp.own⟩
def b4k:Row I:=⟨28,[.d (.int .i64)],[.k (.d (.bool))],b01⟩
theorem b5n:RK (b4k) :=
 okR [] 3 Z8 [.tmp 2] Go.Proofs.Tryz.func28 (by kernel_rfl)
def b6v (n:Nat):Row I:=⟨14,[.d (.int .i64),.d (.sl 22),.d (.sl 22)],[.k (.row 52 false)],b4e n⟩
theorem b6O (n:Nat):RK (b6v n) :=
 okR [eR (b7v n),eR b5n] 11 Z8 [.tmp 6] Go.Proofs.Tryz.func14 (by kernel_rfl)
def b4p:Row I:=⟨15,[],[.k (.d (.dat 33))],W3⟩
theorem a1v:RK (b4p) :=
 okR [] 2 Z8 [.cell 0 33] Go.Proofs.Tryz.func15 (by kernel_rfl)
def c1j:Hints I:=mkH [] [] [] [(105,⟨160,[],[],[(.normal,[(5,.k (.d (.bool)))])]⟩),
 (429,⟨2560,[],[],[(.normal,[(9,.k (.d (.bool)))])]⟩),
 (6909,⟨327680,[],[],[(.normal,[(16,.k (.d (.bool)))])]⟩)] [] [] [] []
def b9f:Row I:=⟨133,[.d (.int .i64)],[.k (.d (.dat 149)),.k (.d (.bool))],b7T⟩
theorem b94:RK (b9f) :=
 okR [] 27 c1j [.cell 2 149,.tmp 3] Go.Proofs.Tryz.func133 (by kernel_rfl)
def a9S:Hints I:=mkH [(4,[[],[],[],[2],[1,2,3],[1,2,3,4],[],[],[6,7],[6,7,8],[0,1,2,3,4,5,6,7,8,9],[0,1,2,3,4,5,6,7,8,9,10]])] [] [] [] [(26,⟨16777200,[],[],[(5,.k (.d (.int .i64)))],[((.exit 0),[]),(.ret,[(4,.k (.d (.bool)))])],bnd tb (.len (.slot 0)) 1⟩)] [] [] []
def a8Z:Row I:=⟨147,[.d (.sl 9),.fn [.str,.str] [.k (.d (.int .i64))]],[.k (.d (.bool))],a5Y⟩
theorem a9x:RK (a8Z) :=
 okR [] 24 a9S [.tmp 4] Go.Proofs.Tryz.func147 (by kernel_rfl)
def a5K:Row I:=⟨144,[.d (.str),.d (.str)],[.k (.d (.int .i64))],a1Q⟩
theorem a52:RK (a5K) :=
 okR [eR c83] 8 Z8 [.tmp 4] Go.Proofs.Tryz.func144 (by kernel_rfl)
def b4B:Row I:=⟨128,[.d (.str),.d (.str)],[.k (.d (.int .i64))],a1L⟩
theorem a48:RK (b4B) :=
 okR [eR a52] 8 Z8 [.tmp 4] Go.Proofs.Tryz.func128 (by kernel_rfl)
def b8U:Hints I:=mkH [] [] [] [] [(58,⟨34351349952,[],[],[(7,.k (.d (.int .i64)))],[((.exit 0),[]),(.ret,[(6,.k (.d (.bool)))])],bnd tb (.len (.slot 0)) 1⟩)] [] [] []
def b6U:Row I:=⟨92,[.d (.str),.fn [.int .u8] [.k (.d (.bool))],.fn [.int .u8] [.k (.d (.bool))]],[.k (.d (.bool))],a49⟩
theorem b1a:RK (b6U) :=
 okR [] 35 b8U [.tmp 6] Go.Proofs.Tryz.func92 (by kernel_rfl)
def b6q:Row I:=⟨96,[.d (.int .u8)],[.k (.d (.bool))],a4M⟩
theorem a92:RK (b6q) :=
 okR [] 9 Z8 [.tmp 2] Go.Proofs.Tryz.func96 (by kernel_rfl)
def b6w:Row I:=⟨93,[.d (.int .u8)],[.k (.d (.bool))],a3z⟩
theorem a6l:RK (b6w) :=
 okR [] 9 Z8 [.tmp 2] Go.Proofs.Tryz.func93 (by kernel_rfl)
def b6y:Row I:=⟨95,[.d (.int .u8)],[.k (.d (.bool))],a4H⟩
theorem a9Y:RK (b6y) :=
 okR [] 9 Z8 [.tmp 2] Go.Proofs.Tryz.func95 (by kernel_rfl)
def b1j:Row I:=⟨97,[.d (.int .u8)],[.k (.d (.bool))],a5d⟩
theorem b2i:RK (b1j) :=
 okR [eR a6l,eR a92,eR a9Y] 17 Z8 [.tmp 2] Go.Proofs.Tryz.func97 (by kernel_rfl)
def b3S:Row I:=⟨64,[.d (.str)],[.k (.d (.bool))],a3d⟩
theorem a7B:RK (b3S) :=
 okR [eR b1a,eR a92,eR b2i] 5 Z8 [.tmp 2] Go.Proofs.Tryz.func64 (by kernel_rfl)
def b4w:Hints I:=mkH [] [] [] [] [(58,⟨261140,[],[],[(10,.k (.d (.int .i64)))],[((.exit 0),[]),(.ret,[(2,.k (.d (.bool)))])],bnd tb (.slot 9) 1⟩)] [] [] []
def b2p:Row I:=⟨134,[.d (.sl 9)],[.k (.d (.bool))],a9b⟩
theorem b3Z:RK (b2p) :=
 okR [eR a9x,eR a48,eR a7B] 18 b4w [.tmp 2] Go.Proofs.Tryz.func134 (by kernel_rfl)
def b5H:Row I:=⟨94,[.d (.int .u8)],[.k (.d (.bool))],a7D⟩
theorem b6z:RK (b5H) :=
 okR [eR a6l,eR a9Y] 13 Z8 [.tmp 2] Go.Proofs.Tryz.func94 (by kernel_rfl)
def b7o:Row I:=⟨63,[.d (.str)],[.k (.d (.bool))],a39⟩
theorem a64:RK (b7o) :=
 okR [eR b1a,eR a6l,eR b6z] 5 Z8 [.tmp 2] Go.Proofs.Tryz.func63 (by kernel_rfl)
def a9y:Hints I:=mkH [(4,[[],[],[],[2],[1,2,3],[1,2,3,4],[],[],[6,7],[6,7,8],[0,1,2,3,4,5,6,7,8,9],[0,1,2,3,4,5,6,7,8,9,10]])] [] [] [] [(26,⟨16777200,[],[],[(5,.k (.d (.int .i64)))],[((.exit 0),[]),(.ret,[(4,.k (.d (.bool)))])],bnd tb (.len (.slot 0)) 1⟩)] [] [] []
def a8y:Row I:=⟨148,[.d (.sl 109),.fn [.dat 109,.dat 109] [.k (.d (.int .i64))]],[.k (.d (.bool))],a5J⟩
theorem a8U:RK (a8y) :=
 okR [] 24 a9y [.tmp 4] Go.Proofs.Tryz.func148 (by kernel_rfl)
def b6l:Row I:=⟨143,[.d (.int .i64)],[.k (.d (.bool))],a59⟩
theorem b6W:RK (b6l) :=
 okR [] 6 Z8 [.tmp 2] Go.Proofs.Tryz.func143 (by kernel_rfl)
def b4r:Row I:=⟨127,[.d (.int .i64),.d (.int .i64)],[.k (.d (.int .i64))],a0I⟩
theorem a1u:RK (b4r) :=
 okR [eR b6W] 20 Z8 [.tmp 4] Go.Proofs.Tryz.func127 (by kernel_rfl)
def b2e:Row I:=⟨99,[.d (.dat 109),.d (.dat 109)],[.k (.d (.int .i64))],a1Z⟩
theorem a4x:RK (b2e) :=
 okR [eR a1u,eR a48] 19 Z8 [.tmp 4] Go.Proofs.Tryz.func99 (by kernel_rfl)
def b5f:Row I:=⟨98,[.d (.dat 109)],[.k (.d (.bool))],a32⟩
theorem a9c:RK (b5f) :=
 okR [eR a64] 16 Z8 [.tmp 2] Go.Proofs.Tryz.func98 (by kernel_rfl)
def b68:Hints I:=mkH [] [] [] [] [(58,⟨534773780,[],[],[(21,.k (.d (.int .i64)))],[((.exit 0),[]),(.ret,[(2,.k (.d (.bool)))])],bnd tb (.slot 20) 1⟩)] [] [] []
def b4P:Row I:=⟨135,[.d (.dat 33)],[.k (.d (.bool))],b2G⟩
theorem b6u:RK (b4P) :=
 okR [eR a8U,eR a4x,eR a9c] 29 b68 [.tmp 2] Go.Proofs.Tryz.func135 (by kernel_rfl)
def a8m:Hints I:=mkH [(4,[[],[],[],[2],[1,2,3],[1,2,3,4],[],[],[6,7],[6,7,8],[0,1,2,3,4,5,6,7,8,9],[0,1,2,3,4,5,6,7,8,9,10]])] [] [] [] [(26,⟨16777200,[],[],[(5,.k (.d (.int .i64)))],[((.exit 0),[]),(.ret,[(4,.k (.d (.bool)))])],bnd tb (.len (.slot 0)) 1⟩)] [] [] []
def a7x:Row I:=⟨149,[.d (.sl 88),.fn [.dat 88,.dat 88] [.k (.d (.int .i64))]],[.k (.d (.bool))],a4V⟩
theorem a7R:RK (a7x) :=
 okR [] 24 a8m [.tmp 4] Go.Proofs.Tryz.func149 (by kernel_rfl)
def a61:Hints I:=mkH [(7,[[],[],[],[1,2],[1,2,3],[],[],[5,6],[5,6,7],[0,1,2,3,4,5,6,7,8],[0,1,2,3,4,5,6,7,8,9]])] [] [] [] [(58,⟨137437905728,[],[],[(20,.k (.d (.int .i64)))],[((.exit 0),[]),(.ret,[(6,.k (.d (.int .i64)))])],bnd tb (.slot 19) 1⟩)] [] [] []
def a6g:Row I:=⟨173,[.d (.sl 33),.d (.sl 33),.fn [.dat 33,.dat 33] [.k (.d (.int .i64))]],[.k (.d (.int .i64))],a31⟩
theorem a6z:RK (a6g) :=
 okR [eR a1u] 37 a61 [.tmp 6] Go.Proofs.Tryz.func173 (by kernel_rfl)
def b4u:Row I:=⟨180,[.d (.int .i64)],[.k (.d (.bool))],a6R⟩
theorem b5K:RK (b4u) :=
 okR [] 6 Z8 [.tmp 2] Go.Proofs.Tryz.func180 (by kernel_rfl)
def b1Y:Row I:=⟨174,[.d (.int .i64),.d (.int .i64)],[.k (.d (.int .i64))],a9g⟩
theorem b2Z:RK (b1Y) :=
 okR [eR b5K] 20 Z8 [.tmp 4] Go.Proofs.Tryz.func174 (by kernel_rfl)
def a72:Hints I:=mkH [(7,[[],[],[],[1,2],[1,2,3],[],[],[5,6],[5,6,7],[0,1,2,3,4,5,6,7,8],[0,1,2,3,4,5,6,7,8,9]])] [] [] [] [(58,⟨137437905728,[],[],[(20,.k (.d (.int .i64)))],[((.exit 0),[]),(.ret,[(6,.k (.d (.int .i64)))])],bnd tb (.slot 19) 1⟩)] [] [] []
def a7i:Row I:=⟨175,[.d (.sl 109),.d (.sl 109),.fn [.dat 109,.dat 109] [.k (.d (.int .i64))]],[.k (.d (.int .i64))],a4I⟩
theorem a7n:RK (a7i) :=
 okR [eR a1u] 37 a72 [.tmp 6] Go.Proofs.Tryz.func175 (by kernel_rfl)
def a6W:Hints I:=mkH [(7,[[],[],[],[1,2],[1,2,3],[],[],[5,6],[5,6,7],[0,1,2,3,4,5,6,7,8],[0,1,2,3,4,5,6,7,8,9]])] [] [] [] [(58,⟨137437905728,[],[],[(20,.k (.d (.int .i64)))],[((.exit 0),[]),(.ret,[(6,.k (.d (.int .i64)))])],bnd tb (.slot 19) 1⟩)] [] [] []
def a6m:Row I:=⟨176,[.d (.sl 88),.d (.sl 88),.fn [.dat 88,.dat 88] [.k (.d (.int .i64))]],[.k (.d (.int .i64))],a33⟩
theorem a6D:RK (a6m) :=
 okR [eR a1u] 37 a6W [.tmp 6] Go.Proofs.Tryz.func176 (by kernel_rfl)
def a8B:Hints I:=mkH [(7,[[],[],[],[1,2],[1,2,3],[],[],[5,6],[5,6,7],[0,1,2,3,4,5,6,7,8],[0,1,2,3,4,5,6,7,8,9]])] [] [] [] [(58,⟨137437905728,[],[],[(20,.k (.d (.int .i64)))],[((.exit 0),[]),(.ret,[(6,.k (.d (.int .i64)))])],bnd tb (.slot 19) 1⟩)] [] [] []
def a7o:Row I:=⟨177,[.d (.sl 9),.d (.sl 9),.fn [.str,.str] [.k (.d (.int .i64))]],[.k (.d (.int .i64))],a42⟩
theorem a7K:RK (a7o) :=
 okR [eR a1u] 37 a8B [.tmp 6] Go.Proofs.Tryz.func177 (by kernel_rfl)
def a1U (n:Nat):Row I:=⟨166,[.d (.dat 33),.d (.dat 33)],[.k (.d (.int .i64))],b4b n⟩
def a0j (n:Nat):Row I:=⟨150,[.d (.dat 88),.d (.dat 88)],[.k (.d (.int .i64))],a7e n⟩
def a07 (n:Nat):Row I:=⟨165,[.d (.sl 33),.d (.sl 33)],[.k (.d (.int .i64))],b4v n⟩
theorem b6o (n:Nat)(_:j6 Go.Proofs.Tryz.prog (a1U n))(h_value_compareEntries:j6 Go.Proofs.Tryz.prog (a0j n))(h_value_compareValues:j6 Go.Proofs.Tryz.prog (a07 n)):RK (a1U (n+1)) :=
 okR [eR a1u,eR b2Z,eR a48,eR a7n,eR a4x,eR h_value_compareValues,eR a6D,eR h_value_compareEntries,eR a7K] 64 Z8 [.tmp 4] Go.Proofs.Tryz.func166 (by kernel_rfl)
theorem a9N (n:Nat)(h_value_Compare:j6 Go.Proofs.Tryz.prog (a1U n))(_:j6 Go.Proofs.Tryz.prog (a0j n))(h_value_compareValues:j6 Go.Proofs.Tryz.prog (a07 n)):RK (a0j (n+1)) :=
 okR [eR h_value_compareValues,eR h_value_Compare] 26 Z8 [.tmp 4] Go.Proofs.Tryz.func150 (by kernel_rfl)
theorem b0y (n:Nat)(h_value_Compare:j6 Go.Proofs.Tryz.prog (a1U n))(_:j6 Go.Proofs.Tryz.prog (a0j n))(_:j6 Go.Proofs.Tryz.prog (a07 n)):RK (a07 (n+1)) :=
 okR [eR a6z,eR h_value_Compare] 8 Z8 [.tmp 4] Go.Proofs.Tryz.func165 (by kernel_rfl)
theorem a4z:∀ n:Nat,j6 Go.Proofs.Tryz.prog (a1U n)/\j6 Go.Proofs.Tryz.prog (a0j n)/\j6 Go.Proofs.Tryz.prog (a07 n)
 | 0=>⟨J1 (by kernel_rfl),J1 (by kernel_rfl),J1 (by kernel_rfl)⟩
 | n+1=>by
   obtain ⟨h0,h1,h2⟩:=a4z n
   exact ⟨b6o n h0 h1 h2,a9N n h0 h1 h2,b0y n h0 h1 h2⟩
theorem b7E (n:Nat):j6 Go.Proofs.Tryz.prog (a1U n):=(a4z n).1
theorem b0F (n:Nat):j6 Go.Proofs.Tryz.prog (a0j n):=(a4z n).2.1
def b7Q (n:Nat):Row I:=⟨178,[.d (.dat 33),.d (.dat 33)],[.k (.d (.bool))],b6C n⟩
theorem b9c (n:Nat):RK (b7Q n) :=
 okR [eR (b7E n)] 9 Z8 [.tmp 4] Go.Proofs.Tryz.func178 (by kernel_rfl)
def b7c (n:Nat):Row I:=⟨167,[.d (.dat 33)],[.k (.d (.bool))],b5d n⟩
theorem b79 (n:Nat):RK (b7c n) :=
 okR [eR (b9c n)] 6 Z8 [.tmp 2] Go.Proofs.Tryz.func167 (by kernel_rfl)
def b3z (n:Nat):Row I:=⟨151,[.d (.dat 88),.d (.int .i64)],[.k (.d (.bool))],b0c n⟩
theorem b4o (n:Nat):RK (b3z n) :=
 okR [eR (b79 n)] 20 Z8 [.tmp 4] Go.Proofs.Tryz.func151 (by kernel_rfl)
def b2W (_:Nat):Hints I:=mkH [] [] [] [] [(58,⟨4290773012,[],[],[(22,.k (.d (.int .i64)))],[((.exit 0),[]),(.ret,[(2,.k (.d (.bool)))])],bnd tb (.slot 21) 1⟩)] [] [] []
def b0G (n:Nat):Row I:=⟨136,[.d (.dat 33)],[.k (.d (.bool))],a7z n⟩
theorem b1F (n:Nat):RK (b0G n) :=
 okR [eR a7R,eR (b0F n),eR (b4o n)] 32 (b2W n) [.tmp 2] Go.Proofs.Tryz.func136 (by kernel_rfl)
def b4l (n:Nat):Row I:=⟨104,[.d (.dat 33)],[.k (.d (.bool))],b06 n⟩
theorem b5t (n:Nat):RK (b4l n) :=
 okR [eR b94,eR b3Z,eR a64,eR b6u,eR (b1F n)] 124 Z8 [.tmp 2] Go.Proofs.Tryz.func104 (by kernel_rfl)
def b9X:Hints I:=mkH [] [] [] [] [(58,⟨536866856,[],[],[(3,.k (.row 33 false)),(12,.k (.d (.int .i64)))],[((.exit 0),[(3,.k (.row 33 false))])],bnd tb (.slot 11) 1⟩)] [] [] []
def b7Z:Row I:=⟨105,[.d (.dat 33)],[.k (.row 33 false)],b6M⟩
theorem b82:RK (b7Z) :=
 okR [eR c80] 30 b9X [.tmp 2] Go.Proofs.Tryz.func105 (by kernel_rfl)
def b6x (_:Nat):Hints I:=mkH [] [] [] [] [(58,⟨522260,[9],[],[(11,.k (.d (.int .i64)))],[((.exit 0),[]),(.ret,[(2,.k (.d (.bool)))])],bnd tb (.slot 10) 1⟩)] [] [] []
def a4T (n:Nat):Row I:=⟨73,[.d (.dat 33)],[.k (.d (.bool))],a6U n⟩
theorem b4j (n:Nat)(h_value_validTree:j6 Go.Proofs.Tryz.prog (a4T n)):RK (a4T (n+1)) :=
 okR [eR (b5t n),eR b82,eR h_value_validTree] 19 (b6x n) [.tmp 2] Go.Proofs.Tryz.func73 (by kernel_rfl)
theorem a8s:∀ n:Nat,j6 Go.Proofs.Tryz.prog (a4T n)
 | 0=>J1 (by kernel_rfl)
 | n+1=>b4j n (a8s n)
def b4F (n:Nat):Row I:=⟨39,[.d (.dat 33)],[.k (.d (.int .i64))],b2l n⟩
theorem b6t (n:Nat):RK (b4F n) :=
 okR [eR (a8s n)] 6 Z8 [.tmp 2] Go.Proofs.Tryz.func39 (by kernel_rfl)
def b3F:Hints I:=mkH [] [] [] [(29,⟨16776824,[],[],[(.normal,[(3,.k (.d (.bool))),(4,.k (.d (.bool))),(5,.k (.d (.bool))),(6,.k (.d (.bool)))])]⟩),
 (941,⟨26624,[],[],[(.normal,[(11,.k (.d (.bool)))])]⟩),
 (3773,⟨4096000,[],[],[(.normal,[(15,.k (.d (.bool)))])]⟩)] [] [] [] []
def b1x:Row I:=⟨32,[.d (.dat 65)],[.k (.d (.bool))],a3P⟩
theorem b2X:RK (b1x) :=
 okR [] 67 b3F [.tmp 2] Go.Proofs.Tryz.func32 (by kernel_rfl)
def b1C:Hints I:=mkH [(4,[[],[0],[0,1],[0,1,2],[0,1,2,3],[0,1,2,3,4],[0,1,2,3,4,5],[0,1,2,3,4,5,6],[0,1,2,3,4,5,6,7],[0,1,2,3,4,5,6,7],[0,1,2,3,4,5,6,7,9],[0,1,2,3,4,5,6,7,8,9,10],[0,1,2,3,4,5,6,7,8,9,10,11],[0,1,2,3,4,5,6,7,8,9,10,11,12],[0,1,2,3,4,5,6,7],[0,1,2,3,4,5,6,7,14],[0,1,2,3,4,5,6,7,8,9,10,11,12,13,14,15],[0,1,2,3,4,5,6,7,8,9,10,11,12,13,14,15,16],[0,1,2,3,4,5,6,7,8,9,10,11,12,13,14,15,16,17],[0,1,2,3,4,5,6,7,8,9,10,11,12,13,14,15,16,17,18]])] [] [] [] [(26,⟨8589934492,[],[],[(7,.k (.d (.int .i64)))],[((.exit 0),[]),(.ret,[(2,.k (.d (.bool)))])],bnd tb (.slot 6) 1⟩)] [] [] []
def b0v:Row I:=⟨65,[.d (.sl 111)],[.k (.d (.bool))],a2P⟩
theorem b0I:RK (b0v) :=
 okR [eR a9c,eR a4x] 33 b1C [.tmp 2] Go.Proofs.Tryz.func65 (by kernel_rfl)
def b3Q:Hints I:=mkH [] [] [] [(105,⟨16288,[],[],[(.normal,[(5,.k (.d (.bool)))])]⟩),
 (28311549,⟨368934881474191032320,[],[],[(.normal,[(66,.k (.d (.bool)))])]⟩)] [] [] [] []
def b1N:Row I:=⟨33,[.d (.dat 65)],[.k (.d (.bool))],a3M⟩
theorem b2h:RK (b1N) :=
 okR [eR a64,eR a7B,eR b0I] 79 b3Q [.tmp 2] Go.Proofs.Tryz.func33 (by kernel_rfl)
def b7n:Hints I:=mkH [] [] [] [] [(58,⟨4190248,[],[],[(3,.k (.row 3 false)),(12,.k (.d (.int .i64)))],[((.exit 0),[(3,.k (.row 3 false))])],bnd tb (.slot 11) 1⟩)] [] [] []
def b5c:Row I:=⟨34,[.d (.dat 65)],[.k (.row 3 false)],a5A⟩
theorem b6g:RK (b5c) :=
 okR [eR c2Z] 35 b7n [.tmp 2] Go.Proofs.Tryz.func34 (by kernel_rfl)
def b1K:Row I:=⟨68,[.d (.int .i64)],[.k (.d (.bool))],a3Q⟩
theorem b2v:RK (b1K) :=
 okR [] 13 Z8 [.tmp 2] Go.Proofs.Tryz.func68 (by kernel_rfl)
def b0n (_:Nat):Hints I:=mkH [] [] [] [] [(122,⟨140462610448544,[],[(1,.k (.row 3 false))],[(38,.k (.d (.int .i64)))],[((.exit 0),[]),(.ret,[(5,.k (.d (.bool)))])],bnd tb (.slot 37) 1⟩)] [] [] []
def a2B (n:Nat):Row I:=⟨67,[.d (.int .i64),.var 22 (.k (.row 3 false)) true,.var 27 (.k (.d (.dat 27))) false,.var 74 (.k (.d .any)) false],[.k (.d (.bool))],Y7 n⟩
theorem a8R (n:Nat)(h_typeexpr_contractive_1:a3N Go.Proofs.Tryz.prog (a2B n) (b53 74 67 3 [1,2,3])):a3N Go.Proofs.Tryz.prog (a2B (n+1)) (b53 74 67 3 [1,2,3]) :=
 c2E b1c (a7V (b8l [eR b2v,eS 74 67 3 [1,2,3] h_typeexpr_contractive_1]) 3) mixed 50 (s0:=fun a=>c6Y 74 67 3 3 [1,2,3] (a5j tb 50 [.d (.int .i64),.var 22 (.k (.row 3 false)) true,.var 27 (.k (.d (.dat 27))) false,.var 74 (.k (.d .any)) false] a)) (fn:=Go.Proofs.Tryz.f67) (cd:=b3L Go.Proofs.Tryz.f67) (H:=(b0n n)) (rl:=[.tmp 5]) (fun X c σ a vs F h hv _ hC=>c59 rfl rfl rfl h hv hC) Go.Proofs.Tryz.func67 (by kernel_rfl) (by kernel_rfl) (by kernel_rfl) (by kernel_rfl) (by kernel_rfl) (by kernel_rfl) (by kernel_rfl)
theorem a40:∀ n:Nat,a3N Go.Proofs.Tryz.prog (a2B n) (b53 74 67 3 [1,2,3])
 | 0=>c4S (J1 (by kernel_rfl))
 | n+1=>a8R n (a40 n)
def b1s (_:Nat):Hints I:=mkH [] [] [] [] [(250,⟨4177956,[],[(3,.k (.row 3 false))],[(14,.k (.d (.int .i64)))],[((.exit 0),[]),(.ret,[(2,.k (.d (.bool)))])],bnd tb (.slot 13) 1⟩)] [] [] []
def b0s (n:Nat):Row I:=⟨35,[.d (.dat 27)],[.k (.d (.bool))],a2J n⟩
theorem b0E (n:Nat):RK (b0s n) :=
 okR [eS 74 67 3 [1,2,3] (a40 n)] 22 (b1s n) [.tmp 2] Go.Proofs.Tryz.func35 (by kernel_rfl)
def b2J (_:Nat):Hints I:=mkH [] [] [] [] [(58,⟨2251799811588180,[],[],[(21,.k (.d (.int .i64)))],[((.exit 0),[]),(.ret,[(2,.k (.d (.int .i64)))])],bnd tb (.slot 20) 1⟩),
 (29902,⟨1125831187365956,[34],[],[(36,.k (.d (.int .i64)))],[((.exit 2),[]),(.ret,[(2,.k (.d (.int .i64)))])],bnd tb (.slot 35) 1⟩)] [] [] []
def b0K (n:Nat):Row I:=⟨19,[.d (.dat 27)],[.k (.d (.int .i64))],a0E n⟩
theorem a54 (n:Nat):RK (b0K n) :=
 okR [eR b2X,eR b2h,eR b6g,eR (b0E n)] 54 (b2J n) [.tmp 2] Go.Proofs.Tryz.func19 (by kernel_rfl)
def b96:Hints I:=mkH [(1,[[],[0],[0,1],[],[3],[0,1,2,3,4],[0,1,2,3,4,5],[]])] [] [] [] [(26,⟨268419152,[12],[],[(14,.k (.d (.int .i64)))],[((.exit 0),[]),(.ret,[(4,.k (.d (.bool)))])],bnd tb (.slot 13) 1⟩)] [] [] []
def b8a:Row I:=⟨40,[.d (.dat 27),.d (.dat 56)],[.k (.d (.bool))],b6H⟩
theorem b9o:RK (b8a) :=
 okR [eR c2Z] 28 b96 [.tmp 4] Go.Proofs.Tryz.func40 (by kernel_rfl)
def b8x:Row I:=⟨107,[.d (.int .i64)],[.k (.d (.int .i64))],b6F⟩
theorem b89:RK (b8x) :=
 okR [] 14 Z8 [.tmp 2] Go.Proofs.Tryz.func107 (by kernel_rfl)
def a6V:Hints I:=mkH [(4,[[],[],[],[1,2],[1,2,3],[0,1,2,3,4]])] [] [] [] [(26,⟨524080,[],[],[(8,.k (.d (.int .i64)))],[((.exit 0),[]),(.ret,[(4,.k (.d (.int .i64)))])],bnd tb (.slot 7) 1⟩)] [] [] []
def a6o:Row I:=⟨152,[.d (.sl 109),.d (.dat 109)],[.k (.d (.int .i64))],a4b⟩
theorem a6A:RK (a6o) :=
 okR [] 19 a6V [.tmp 4] Go.Proofs.Tryz.func152 (by kernel_rfl)
def a5B:Row I:=⟨138,[.d (.sl 109),.d (.dat 109)],[.k (.d (.bool))],a3v⟩
theorem a5L:RK (a5B) :=
 okR [eR a6A] 9 Z8 [.tmp 4] Go.Proofs.Tryz.func138 (by kernel_rfl)
def c4s:Hints I:=mkH [] [] [] [] [(26,⟨2096208,[],[],[(10,.k (.d (.int .i64)))],[((.exit 0),[]),(.ret,[(4,.k (.d (.int .i64)))])],bnd tb (.slot 9) 1⟩)] [] [] []
def c2n:Row I:=⟨139,[.d (.dat 65),.d (.dat 109)],[.k (.d (.int .i64))],c2q⟩
theorem c4b:RK (c2n) :=
 okR [] 26 c4s [.tmp 4] Go.Proofs.Tryz.func139 (by kernel_rfl)
def a8d:Hints I:=mkH [] [] [] [] [(26,⟨524080,[],[],[(8,.k (.d (.int .i64)))],[((.exit 0),[]),(.ret,[(4,.k (.d (.int .i64)))])],bnd tb (.slot 7) 1⟩)] [] [] []
def a6X:Row I:=⟨141,[.d (.sl 9),.d (.str)],[.k (.d (.int .i64))],a4L⟩
theorem a7u:RK (a6X) :=
 okR [] 19 a8d [.tmp 4] Go.Proofs.Tryz.func141 (by kernel_rfl)
def a5Q:Row I:=⟨113,[.d (.sl 9),.d (.str)],[.k (.d (.bool))],a3X⟩
theorem a6j:RK (a5Q) :=
 okR [eR a7u] 9 Z8 [.tmp 4] Go.Proofs.Tryz.func113 (by kernel_rfl)
def c30 (_:Nat):Hints I:=mkH [(6,[[],[],[],[],[2,3],[2,3,4],[0,1,2,3,4,5],[0,1,2,3,4,5,6]])] [] [] [] [(58,⟨1073676736,[],[],[(16,.k (.d (.int .i64)))],[((.exit 0),[]),(.ret,[(6,.k (.d (.bool)))])],bnd tb (.slot 15) 1⟩)] [] [] []
def a1R (n:Nat):Row I:=⟨108,[.d (.sl 33),.d (.dat 27),.d (.sl 3)],[.k (.d (.bool))],c6I n⟩
def b4s (_:Nat):Hints I:=mkH [(2,[[],[0],[],[],[3],[],[3,4,5],[0,1,2,3,4,5,6],[0,1,2,3,4,5,6,7],[0,1,2,3,4,5,6,7,8],[0,1,2,3,4,5,6,7,8,9],[0,1,2,3,4,5,6,7,8,9,10],[0,1,2,3,4,5,6,7,8,9,10,11],[0,1,2,3,4,5,6,7,8,9,10,11,12],[0,1,2,3,4,5,6,7,8,9,10,11,12,13],[0,1,2,3,4,5,6,7,8,9,10,11,12,13,14],[0,1,2,3,4,5,6,7,8,9,10,11,12,13],[0,1,2,3,4,5,6,7,8,9,10,11,12,13],[0,1,2,3,4,5,6,7,8,9,10,11,12,13,17],[0,1,2,3,4,5,6,7,8,9,10,11,12,13],[0,1,2,3,4,5,6,7,8,9,10,11,12,13,17,18,19],[0,1,2,3,4,5,6,7,8,9,10,11,12,13,17,18,19,20],[0,1,2,3,4,5,6,7,8,9,10,11,12,13,14,15,16,17,18,19,20,21],[0,1,2,3,4,5,6,7,8,9,10,11,12,13,14,15,16,17,18,19,20,21,22],[0,1,2,3,4,5,6,7,8,9,10,11,12,13,14,15,16,17,18,19,20,21,22,23],[0,1,2,3,4,5,6,7,8,9,10,11,12,13,14,15,16,17,18,19,20,21,22,23,24]])] [] [] [] [] [] [] []
def V0 (n:Nat):Row I:=⟨140,[.d (.dat 88),.d (.dat 27),.d (.dat 65)],[.k (.d (.bool))],b6h n⟩
def b5s (_:Nat):Hints I:=mkH [] [] [] [] [(58,⟨536346944,[],[],[(19,.k (.d (.int .i64)))],[((.exit 0),[]),(.ret,[(6,.k (.d (.bool)))])],bnd tb (.slot 18) 1⟩)] [] [] []
def W0 (n:Nat):Row I:=⟨110,[.d (.dat 33),.d (.dat 27),.d (.dat 65)],[.k (.d (.bool))],b6Z n⟩
def c3k (_:Nat):Hints I:=mkH [(17,[[],[0],[],[2],[2,3],[0,1,2,3,4],[0,1,2,3,4,5]]),(31,[[],[],[],[2],[2,3],[2,3,4],[0,1,2,3,4,5],[0,1,2,3,4,5,6],[0,1,2,3,4,5,6,7]])] [] [] [(60413,⟨144115188075855872000,[],[],[(.normal,[(60,.k (.d (.bool)))])]⟩)] [] [] [] []
def a1h (n:Nat):Row I:=⟨76,[.d (.dat 33),.d (.dat 27),.d (.int .i64)],[.k (.d (.bool))],b7q n⟩
def a01 (n:Nat):Row I:=⟨111,[.d (.int .i64),.var 33 (.k (.d (.dat 33))) false,.var 27 (.k (.d (.dat 27))) false],[.k (.d (.bool))],c3x n⟩
def a02 (n:Nat):Row I:=⟨112,[.d (.int .i64),.var 33 (.k (.d (.dat 33))) false,.var 27 (.k (.d (.dat 27))) false],[.k (.d (.bool))],c3C n⟩
def b97 (_:Nat):Hints I:=mkH [(10,[[],[0],[],[0,1,2],[0,1,2,3],[],[],[],[6,7],[0,1,2,3,4,5,6,7,8],[0,1,2,3,4,5,6,7,8,9]])] [] [] [] [(26,⟨1073725760,[],[],[(14,.k (.d (.int .i64)))],[((.exit 0),[]),(.ret,[(6,.k (.d (.bool)))])],bnd tb (.slot 13) 1⟩),
 (58,⟨1125891316909632,[],[],[(33,.k (.d (.int .i64)))],[((.exit 2),[]),(.ret,[(6,.k (.d (.bool)))])],bnd tb (.slot 32) 1⟩)] [] [] []
def a0H (n:Nat):Row I:=⟨109,[.d (.dat 33),.d (.dat 27),.d (.dat 65)],[.k (.d (.bool))],c2i n⟩
theorem c1G (n:Nat)(_:j6 Go.Proofs.Tryz.prog (a1R n))(_:j6 Go.Proofs.Tryz.prog (V0 n))(_:j6 Go.Proofs.Tryz.prog (W0 n))(h_core_Has:j6 Go.Proofs.Tryz.prog (a1h n))(_:j6 Go.Proofs.Tryz.prog (a01 n))(_:j6 Go.Proofs.Tryz.prog (a02 n))(_:j6 Go.Proofs.Tryz.prog (a0H n)):RK (a1R (n+1)) :=
 okR [eR h_core_Has] 30 (c30 n) [.tmp 6] Go.Proofs.Tryz.func108 (by kernel_rfl)
theorem b2r (n:Nat)(h_core_all:j6 Go.Proofs.Tryz.prog (a1R n))(_:j6 Go.Proofs.Tryz.prog (V0 n))(_:j6 Go.Proofs.Tryz.prog (W0 n))(h_core_Has:j6 Go.Proofs.Tryz.prog (a1h n))(_:j6 Go.Proofs.Tryz.prog (a01 n))(_:j6 Go.Proofs.Tryz.prog (a02 n))(_:j6 Go.Proofs.Tryz.prog (a0H n)):RK (V0 (n+1)) :=
 okR [eR h_core_all,eR h_core_Has] 37 (b4s n) [.tmp 6] Go.Proofs.Tryz.func140 (by kernel_rfl)
theorem b3e (n:Nat)(_:j6 Go.Proofs.Tryz.prog (a1R n))(h_core_EntryAllowed:j6 Go.Proofs.Tryz.prog (V0 n))(_:j6 Go.Proofs.Tryz.prog (W0 n))(_:j6 Go.Proofs.Tryz.prog (a1h n))(_:j6 Go.Proofs.Tryz.prog (a01 n))(_:j6 Go.Proofs.Tryz.prog (a02 n))(_:j6 Go.Proofs.Tryz.prog (a0H n)):RK (W0 (n+1)) :=
 okR [eR h_core_EntryAllowed] 29 (b5s n) [.tmp 6] Go.Proofs.Tryz.func110 (by kernel_rfl)
theorem c0Y (n:Nat)(h_core_all:j6 Go.Proofs.Tryz.prog (a1R n))(_:j6 Go.Proofs.Tryz.prog (V0 n))(h_core_functionHas:j6 Go.Proofs.Tryz.prog (W0 n))(h_core_Has:j6 Go.Proofs.Tryz.prog (a1h n))(h_core_Has_1:j6 Go.Proofs.Tryz.prog (a01 n))(h_core_Has_2:j6 Go.Proofs.Tryz.prog (a02 n))(h_core_mapHas:j6 Go.Proofs.Tryz.prog (a0H n)):RK (a1h (n+1)) :=
 okR [eR b89,eR h_core_all,eR h_core_mapHas,eR h_core_functionHas,eR a1N,eR h_core_Has_1,eR h_core_Has_2,eR h_core_Has,eR a6j] 151 (c3k n) [.tmp 6] Go.Proofs.Tryz.func76 (by kernel_rfl)
theorem b9r (n:Nat)(_:j6 Go.Proofs.Tryz.prog (a1R n))(_:j6 Go.Proofs.Tryz.prog (V0 n))(_:j6 Go.Proofs.Tryz.prog (W0 n))(h_core_Has:j6 Go.Proofs.Tryz.prog (a1h n))(_:j6 Go.Proofs.Tryz.prog (a01 n))(_:j6 Go.Proofs.Tryz.prog (a02 n))(_:j6 Go.Proofs.Tryz.prog (a0H n)):RK (a01 (n+1)) :=
 okR [eR h_core_Has] 9 Z8 [.tmp 4] Go.Proofs.Tryz.func111 (by kernel_rfl)
theorem b8W (n:Nat)(_:j6 Go.Proofs.Tryz.prog (a1R n))(_:j6 Go.Proofs.Tryz.prog (V0 n))(_:j6 Go.Proofs.Tryz.prog (W0 n))(h_core_Has:j6 Go.Proofs.Tryz.prog (a1h n))(_:j6 Go.Proofs.Tryz.prog (a01 n))(_:j6 Go.Proofs.Tryz.prog (a02 n))(_:j6 Go.Proofs.Tryz.prog (a0H n)):RK (a02 (n+1)) :=
 okR [eR h_core_Has] 10 Z8 [.tmp 4] Go.Proofs.Tryz.func112 (by kernel_rfl)
theorem b8j (n:Nat)(_:j6 Go.Proofs.Tryz.prog (a1R n))(_:j6 Go.Proofs.Tryz.prog (V0 n))(_:j6 Go.Proofs.Tryz.prog (W0 n))(h_core_Has:j6 Go.Proofs.Tryz.prog (a1h n))(_:j6 Go.Proofs.Tryz.prog (a01 n))(_:j6 Go.Proofs.Tryz.prog (a02 n))(_:j6 Go.Proofs.Tryz.prog (a0H n)):RK (a0H (n+1)) :=
 okR [eR a5L,eR c4b,eR h_core_Has] 50 (b97 n) [.tmp 6] Go.Proofs.Tryz.func109 (by kernel_rfl)
theorem b1d:∀ n:Nat,j6 Go.Proofs.Tryz.prog (a1R n)/\j6 Go.Proofs.Tryz.prog (V0 n)/\j6 Go.Proofs.Tryz.prog (W0 n)/\j6 Go.Proofs.Tryz.prog (a1h n)/\j6 Go.Proofs.Tryz.prog (a01 n)/\j6 Go.Proofs.Tryz.prog (a02 n)/\j6 Go.Proofs.Tryz.prog (a0H n)
 | 0=>⟨J1 (by kernel_rfl),J1 (by kernel_rfl),J1 (by kernel_rfl),J1 (by kernel_rfl),J1 (by kernel_rfl),J1 (by kernel_rfl),J1 (by kernel_rfl)⟩
 | n+1=>by
   obtain ⟨h0,h1,h2,h3,h4,h5,h6⟩:=b1d n
   exact ⟨c1G n h0 h1 h2 h3 h4 h5 h6,b2r n h0 h1 h2 h3 h4 h5 h6,b3e n h0 h1 h2 h3 h4 h5 h6,c0Y n h0 h1 h2 h3 h4 h5 h6,b9r n h0 h1 h2 h3 h4 h5 h6,b8W n h0 h1 h2 h3 h4 h5 h6,b8j n h0 h1 h2 h3 h4 h5 h6⟩
theorem b6I (n:Nat):j6 Go.Proofs.Tryz.prog (a1h n):=(b1d n).2.2.2.1
def b6m (n:Nat):Row I:=⟨75,[.d (.int .i64),.var 33 (.k (.d (.dat 33))) false,.var 27 (.k (.d (.dat 27))) false],[.k (.d (.bool))],b4d n⟩
theorem b7g (n:Nat):RK (b6m n) :=
 okR [eR (b6I n)] 10 Z8 [.tmp 4] Go.Proofs.Tryz.func75 (by kernel_rfl)
def b6n (n:Nat):Row I:=⟨77,[.d (.int .i64),.var 33 (.k (.d (.dat 33))) false,.var 27 (.k (.d (.dat 27))) false],[.k (.d (.bool))],b38 n⟩
theorem b7h (n:Nat):RK (b6n n) :=
 okR [eR (b6I n)] 9 Z8 [.tmp 4] Go.Proofs.Tryz.func77 (by kernel_rfl)
def b8w (n:Nat):Row I:=⟨41,[.d (.dat 33),.d (.dat 27),.d (.sl 3),.d (.sl 3)],[.k (.d (.bool))],b6J n⟩
theorem b8P (n:Nat):RK (b8w n) :=
 okR [eR a1N,eR (b7g n),eR (b7h n)] 19 Z8 [.tmp 8] Go.Proofs.Tryz.func41 (by kernel_rfl)
def b7B (n:Nat):Row I:=⟨23,[.d (.dat 33),.d (.dat 27),.d (.dat 56)],[.k (.d (.bool))],b5B n⟩
theorem b75 (n:Nat):RK (b7B n) :=
 okR [eR (b6t n),eR (a54 n),eR b9o,eR (b8P n)] 40 Z8 [.tmp 6] Go.Proofs.Tryz.func23 (by kernel_rfl)
def b8E (_:Nat):Hints I:=mkH [(6,[[],[],[0,1],[0,1,2],[],[],[5],[],[5,6,7],[5,6,7,8],[0,1,2,3,4,5,6,7,8,9],[0,1,2,3,4,5,6,7,8,9,10]])] [] [] [] [(58,⟨4294901952,[],[],[(16,.k (.d (.int .i64)))],[((.exit 0),[]),(.ret,[(6,.k (.d (.bool)))])],bnd tb (.slot 15) 1⟩)] [] [] []
def b6k (n:Nat):Row I:=⟨11,[.d (.sl 33),.d (.dat 27),.d (.dat 52)],[.k (.d (.bool))],b4a n⟩
theorem b7f (n:Nat):RK (b6k n) :=
 okR [eR (b75 n)] 32 (b8E n) [.tmp 6] Go.Proofs.Tryz.func11 (by kernel_rfl)
def b3c (_:Nat):Hints I:=mkH [(3,[[],[0],[0,1],[0,1,2],[0,1,2,3],[0,1,2,3,4],[0,1,2,3,4,5],[0,1,2,3,4,5,6],[0,1,2,3,4,5,6,7],[0,1,2,3,4,5,6,7,8],[0,1,2,3,4,5,6,7,8,9],[0,1,2,3,4,5,6,7,8,9,10],[0,1,2,3,4,5,6,7,8,9,10,11],[0,1,2,3,4,5,6,7,8,9,10,11,12],[0,1,2,3,4,5,6,7,8,9,10,11],[0,1,2,3,4,5,6,7,8,9,10,11],[0,1,2,3,4,5,6,7,8,9,10,11,15],[0,1,2,3,4,5,6,7,8,9,10,11,15,16],[0,1,2,3,4,5,6,7,8,9,10,11,15,16,17],[0,1,2,3,4,5,6,7,8,9,10,11,12,13,14,15,16,17,18],[0,1,2,3,4,5,6,7,8,9,10,11,12,13,14,15,16,17,18,19],[0,1,2,3,4,5,6,7,8,9,10,11,12,13,14,15,16,17,18,19,20]])] [(3,[22])] [] [] [] [] [] []
def b1z (n:Nat):Row I:=⟨6,[],[.k (.d (.bool))],a2q n⟩
theorem b2A (n:Nat):RK (b1z n) :=
 okR [eR (b6O n),eR a1v,eR (b7f n)] 32 (b3c n) [.tmp 0] Go.Proofs.Tryz.func6 (by kernel_rfl)
def a9w:Hints I:=mkH [(1,[[],[0],[0,1],[0,1,2],[0,1,2,3],[0,1,2,3,4],[0,1,2,3,4,5],[0,1,2],[0,1,2,7],[0,1,2,7,8],[0,1,2,7,8,9],[0,1,2,7,8,9,10],[0,1,2,3,4,5,6,7,8,9,10,11],[0,1,2,3,4,5,6,7,8,9,10,11,12]]),(3,[[],[0],[0,1],[0,1,2],[],[4],[4,5],[4,5,6],[0,1,2,3,4,5,6,7],[0,1,2,3,4,5,6,7,8],[],[0,1,2,3,4,5,6,7,8,9,10],[0,1,2,3,4,5,6,7,8,9,10,11]])] [] [] [] [] [] [] []
def a8A:Row I:=⟨17,[.var 44 (.k (.d (.dat 44))) true,.d (.int .i64)],[.k (.d (.int .i64))],y2⟩
theorem w5:RK (a8A) :=
 okR [] 46 a9w [.tmp 4] Go.Proofs.Tryz.func17 (by kernel_rfl)
def a6C:Row I:=⟨47,[.var 44 (.k (.d (.dat 44))) true],[.k (.d (.str))],K4⟩
theorem a0L:RK (a6C) :=
 okR [eR w5] 8 Z8 [.tmp 2] Go.Proofs.Tryz.func47 (by kernel_rfl)
def a8w:Row I:=⟨48,[.var 44 (.k (.d (.dat 44))) true],[.k (.d (.str))],W8⟩
theorem a1n:RK (a8w) :=
 okR [eR w5] 8 Z8 [.tmp 2] Go.Proofs.Tryz.func48 (by kernel_rfl)
def a8b:Row I:=⟨49,[.var 44 (.k (.d (.dat 44))) true],[.k (.d (.str))],a0n⟩
theorem a4p:RK (a8b) :=
 okR [eR w5] 8 Z8 [.tmp 2] Go.Proofs.Tryz.func49 (by kernel_rfl)
def a7L:Hints I:=mkH [] [] [] [] [(28,⟨16776706,[],[(0,.k (.d (.dat 44)))],[(1,.k (.d (.int .i64))),(9,.k (.row 3 false))],[((.exit 0),[(9,.k (.row 3 false))])],bnd tb (.slot 1) 2⟩)] [] [] []
def a6Q:Row I:=⟨50,[.var 44 (.k (.d (.dat 44))) true,.d (.int .i64),.d (.int .i64),.d (.int .i64)],[.k (.row 3 false)],j9⟩
theorem a7r:RK (a6Q) :=
 okR [eR w5] 25 a7L [.tmp 8] Go.Proofs.Tryz.func50 (by kernel_rfl)
def a7N:Hints I:=mkH [(7,[[],[0],[],[],[2,3],[2,3,4],[],[],[6,7],[],[6,7,8,9],[6,7,8,9,10],[2,3,4,5,6,7,8,9,10,11],[2,3,4,5,6,7,8,9,10,11,12],[0,1,2,3,4,5,6,7,8,9,10,11,12,13],[0,1,2,3,4,5,6,7,8,9,10,11,12,13,14],[0,1,2,3,4,5,6,7,8,9,10,11,12,13,14,15]])] [] [] [(978,⟨8796076244992,[],[(0,.k (.d (.dat 44))),(5,.lvs [.d (.int .i64),.d (.int .i64),.d (.int .i64),.d (.str),.row 3 false,.row 111 false,.d (.int .i64),.d (.int .i64)])],[(.normal,[])]⟩)] [(122,⟨8796091973760,[6],[(0,.k (.d (.dat 44))),(5,.lvs [.d (.int .i64),.d (.int .i64),.d (.int .i64),.d (.str),.row 3 false,.row 111 false,.d (.int .i64),.d (.int .i64)])],[(7,.k (.d (.int .i64)))],[((.exit 0),[])],bnd tb (.cst 3) 1⟩)] [] [] []
def a69:Row I:=⟨51,[.var 44 (.k (.d (.dat 44))) true,.d (.int .i64)],[.k (.d (.dat 65))],a1q⟩
theorem a7p:RK (a69) :=
 okR [eR w5] 44 a7N [.cell 4 65] Go.Proofs.Tryz.func51 (by kernel_rfl)
def a9v:Hints I:=mkH [(8,[[],[],[0,1],[0,1,2],[],[],[],[],[7],[6,7,8],[5,6,7,8,9],[4,5,6,7,8,9,10],[4,5,6,7,8,9,10,11],[0,1,2,3,4,5,6,7,8,9,10,11,12],[0,1,2,3,4,5,6,7,8,9,10,11,12,13]])] [] [] [(29,⟨128,[],[],[(.normal,[(7,.k (.d (.int .i64)))])]⟩),
 (32243709,⟨47223664828696452136960,[],[],[(.normal,[(73,.k (.d (.bool)))])]⟩),
 (2063597565,⟨49517601571415210995964968960,[],[],[(.normal,[(93,.k (.d (.bool)))])]⟩)] [] [] [] []
def a8z:Row I:=⟨29,[.var 44 (.k (.d (.dat 44))) true,.d (.int .i64),.d (.int .i64)],[.k (.d (.dat 65))],a18⟩
theorem a83:RK (a8z) :=
 okR [eR w5,eR a0L,eR a1n,eR a4p,eR a7r,eR a7p] 128 a9v [.cell 6 65] Go.Proofs.Tryz.func29 (by kernel_rfl)
def a9o:Hints I:=mkH [(6,[[],[0],[],[],[],[2,3,4],[2,3,4,5],[0,1,2,3,4,5,6],[0,1,2,3,4,5,6,7],[0,1,2,3,4,5,6,7,8]])] [] [] [] [(122,⟨16776256,[],[(0,.k (.d (.dat 44))),(5,.lvs [.row 65 false,.d (.int .i64)])],[(6,.k (.d (.int .i64)))],[((.exit 0),[])],bnd tb (.slot 1) 1⟩)] [] [] []
def a8E:Row I:=⟨16,[.var 44 (.k (.d (.dat 44))) true,.d (.int .i64)],[.k (.d (.dat 27))],a06⟩
theorem a89:RK (a8E) :=
 okR [eR a83] 25 a9o [.cell 4 27] Go.Proofs.Tryz.func16 (by kernel_rfl)
def a7q:Row I:=⟨61,[.var 44 (.k (.d (.dat 44))) true],[.k (.d (.int .i64))],a1D⟩
theorem a8a:RK (a7q) :=
 okR [eR w5] 8 Z8 [.tmp 2] Go.Proofs.Tryz.func61 (by kernel_rfl)
def b4q:Row I:=⟨52,[.d (.int .i64)],[.k (.d (.dat 33))],a7l⟩
theorem a8q:RK (b4q) :=
 okR [] 5 Z8 [.cell 2 33] Go.Proofs.Tryz.func52 (by kernel_rfl)
def b3H:Row I:=⟨54,[.d (.str)],[.k (.d (.dat 33))],a4q⟩
theorem a7y:RK (b3H) :=
 okR [] 5 Z8 [.cell 2 33] Go.Proofs.Tryz.func54 (by kernel_rfl)
def b1p:Row I:=⟨53,[.d (.str)],[.k (.d (.dat 33))],a3I⟩
theorem a6t:RK (b1p) :=
 okR [] 5 Z8 [.cell 2 33] Go.Proofs.Tryz.func53 (by kernel_rfl)
def b4n:Row I:=⟨55,[.d (.int .i64)],[.k (.d (.dat 33))],a7a⟩
theorem a8I:RK (b4n) :=
 okR [] 5 Z8 [.cell 2 33] Go.Proofs.Tryz.func55 (by kernel_rfl)
def b1i:Row I:=⟨91,[.d (.sl 33)],[.k (.row 33 false)],a0S⟩
theorem a6s:RK (b1i) :=
 okR [] 5 Z8 [.tmp 2] Go.Proofs.Tryz.func91 (by kernel_rfl)
def b2D:Row I:=⟨62,[.d (.sl 33)],[.k (.d (.dat 33))],a2I⟩
theorem a6Y:RK (b2D) :=
 okR [eR a6s] 6 Z8 [.cell 2 33] Go.Proofs.Tryz.func62 (by kernel_rfl)
def a8C:Row I:=⟨31,[.var 44 (.k (.d (.dat 44))) true],[.k (.d (.dat 33))],J7⟩
theorem a2D:RK (a8C) :=
 okR [eR w5,eR a8a,eR a8q,eR a0L,eR a7y,eR a1n,eR a6t,eR a8I,eR a1v,eR a6Y] 29 Z8 [.cell 2 33] Go.Proofs.Tryz.func31 (by kernel_rfl)
def b2q:Row I:=⟨115,[.d (.int .u8)],[.k (.d (.bool))],a1V⟩
theorem a62:RK (b2q) :=
 okR [] 9 Z8 [.tmp 2] Go.Proofs.Tryz.func115 (by kernel_rfl)
def b2S:Row I:=⟨116,[.d (.int .u8)],[.k (.d (.bool))],a2H⟩
theorem a7k:RK (b2S) :=
 okR [] 9 Z8 [.tmp 2] Go.Proofs.Tryz.func116 (by kernel_rfl)
def b3h:Hints I:=mkH [] [] [] [] [(58,⟨4398046248972,[],[],[(3,.k (.d (.int .i64)))],[((.exit 0),[]),(.ret,[(2,.k (.d (.bool)))])],bnd tb (.len (.slot 0)) 1⟩)] [] [] []
def b1B:Row I:=⟨79,[.d (.str)],[.k (.d (.bool))],a1x⟩
theorem a4c:RK (b1B) :=
 okR [eR a62,eR a7k] 42 b3h [.tmp 2] Go.Proofs.Tryz.func79 (by kernel_rfl)
def a94:Row I:=⟨80,[.d (.dat 109)],[.k (.d (.bool))],a05⟩
theorem a3x:RK (a94) :=
 okR [eR a4c] 22 Z8 [.tmp 2] Go.Proofs.Tryz.func80 (by kernel_rfl)
def b2E:Row I:=⟨117,[.d (.int .i64),.d (.int .i64)],[.k (.d (.int .i64))],a1W⟩
theorem a4B:RK (b2E) :=
 okR [] 11 Z8 [.tmp 4] Go.Proofs.Tryz.func117 (by kernel_rfl)
def b3w:Row I:=⟨118,[.d (.str),.d (.str)],[.k (.d (.int .i64))],a0R⟩
theorem a7A:RK (b3w) :=
 okR [] 11 Z8 [.tmp 4] Go.Proofs.Tryz.func118 (by kernel_rfl)
def a8G:Row I:=⟨81,[.d (.dat 109),.d (.dat 109)],[.k (.d (.int .i64))],V3⟩
theorem a1m:RK (a8G) :=
 okR [eR a4B,eR a7A] 20 Z8 [.tmp 4] Go.Proofs.Tryz.func81 (by kernel_rfl)
def b6s:Hints I:=mkH [(13,[[],[],[1],[1,2],[0,1,2,3],[0,1,2,3,4],[0,1,2,3,4,5],[0,1,2,3,4,5,6],[0,1,2,3,4,5],[0,1,2,3,4,5,6,7,8],[0,1,2,3,4,5,6,7,8,9],[0,1,2,3,4,5],[0,1,2,3,4,5],[0,1,2,3,4,5,11,12],[0,1,2,3,4,5,11,12,13],[0,1,2,3,4,5,6,7,8,9,10,11,12,13,14],[0,1,2,3,4,5,6,7,8,9,10,11,12,13,14,15],[0,1,2,3,4,5,6,7,8,9,10,11,12,13,14,15,16]]),(15,[[],[],[1],[1,2],[0,1,2,3],[0,1,2,3,4],[0,1,2,3,4,5],[0,1,2,3,4,5,6],[0,1,2,3,4,5],[0,1,2,3,4,5,6,7,8],[0,1,2,3,4,5,6,7,8,9],[0,1,2,3,4,5],[0,1,2,3,4,5],[0,1,2,3,4,5,11,12],[0,1,2,3,4,5,11,12,13],[0,1,2,3,4,5,6,7,8,9,10,11,12,13,14],[0,1,2,3,4,5,6,7,8,9,10,11,12,13,14,15]]),(17,[[],[0],[],[0,1,2],[0,1,2,3],[],[5],[],[5,6,7],[0,1,2,3,4,5,6,7,8],[0,1,2,3,4,5,6,7,8,9],[0,1,2,3,4,5,6,7,8,9,10]]),(18,[[],[],[],[1,2],[1,2,3],[1,2,3,4],[0,1,2,3,4,5],[],[7],[],[7,8,9],[0,1,2,3,4,5,6,7,8,9,10],[0,1,2,3,4,5,6,7,8,9,10,11],[0,1,2,3,4,5,6,7,8,9,10,11,12]]),(19,[[],[],[],[1,2],[1,2,3],[1,2,3,4],[0,1,2,3,4,5],[],[7],[],[7,8,9],[0,1,2,3,4,5,6,7,8,9,10],[0,1,2,3,4,5,6,7,8,9,10,11],[0,1,2,3,4,5,6,7,8,9,10,11,12]])] [] [] [] [(58,⟨2147221600,[],[(4,.lvs [.d (.int .i64),.d (.int .i64),.d (.str),.row 33 false,.row 109 false,.row 88 false,.row 9 false])],[(6,.k (.d (.int .i64)))],[((.exit 0),[]),(.ret,[(5,.k (.d (.int .i64)))])],bnd tb (.len (.slot 0)) 1⟩),
 (250,⟨5192296858534827628530492034256672,[7],[(4,.lvs [.d (.int .i64),.d (.int .i64),.d (.str),.row 33 false,.row 109 false,.row 88 false,.row 9 false]),(7,.lvs [.d (.int .i64),.d (.int .i64),.d (.str),.d (.sl 33),.d (.sl 109),.row 88 true,.row 9 true])],[(8,.k (.d (.int .i64)))],[((.exit 2),[]),(.ret,[(5,.k (.d (.int .i64)))])],bnd tb (.len (.slot 0)) 1⟩),
 (32036,⟨288230101273805312,[7],[],[(9,.k (.d (.int .i64)))],[((.exit 4),[(9,.k (.d (.int .i64)))])],bnd tb (.len (.ld 29 (.fld 33 4 (.slot 7)))) 1⟩)] [] [] []
def b4x:Row I:=⟨87,[.d (.sl 109),.d (.sl 33)],[.k (.d (.dat 33)),.k (.d (.int .i64))],a1I⟩
theorem a8H:RK (b4x) :=
 okR [eR a3x,eR a1m,eR a6s] 113 b6s [.cell 4 33,.tmp 5] Go.Proofs.Tryz.func87 (by kernel_rfl)
def b2L:Row I:=⟨142,[.d (.int .i64),.d (.int .i64)],[.k (.d (.int .i64))],a0e⟩
theorem a6J:RK (b2L) :=
 okR [eR a4B] 8 Z8 [.tmp 4] Go.Proofs.Tryz.func142 (by kernel_rfl)
def b2I (_:Nat):Hints I:=mkH [(12,[[],[0],[],[0,1,2],[0,1,2,3],[],[5],[],[5,6,7],[5,6,7,8],[0,1,2,3,4,5,6,7,8,9],[0,1,2,3,4,5,6,7,8,9,10]]),(23,[[],[0],[],[0,1,2],[0,1,2,3],[],[5],[],[5,6,7],[5,6,7,8],[0,1,2,3,4,5,6,7,8,9],[0,1,2,3,4,5,6,7,8,9,10]]),(31,[[],[0],[],[0,1,2],[0,1,2,3],[],[5],[],[5,6,7],[5,6,7,8],[0,1,2,3,4,5,6,7,8,9],[0,1,2,3,4,5,6,7,8,9,10]])] [] [] [] [(506,⟨151115655394234608910448,[],[],[(5,.k (.d (.int .i64)))],[((.exit 0),[]),(.ret,[(4,.k (.d (.int .i64)))])],bnd tb (.len (.ld 29 (.fld 33 4 (.slot 2)))) 1⟩),
 (8186,⟨1329227361959615758789106311928742672,[],[],[(8,.k (.d (.int .i64)))],[((.exit 2),[]),(.ret,[(4,.k (.d (.int .i64)))])],bnd tb (.len (.ld 30 (.fld 33 5 (.slot 2)))) 1⟩),
 (32762,⟨45671904388519233253803489366408968731082361872,[],[],[(10,.k (.d (.int .i64)))],[((.exit 4),[]),(.ret,[(4,.k (.d (.int .i64)))])],bnd tb (.len (.ld 31 (.fld 33 6 (.slot 2)))) 1⟩)] [] [] []
def a0s (n:Nat):Row I:=⟨119,[.d (.dat 33),.d (.dat 33)],[.k (.d (.int .i64))],a0d n⟩
def b3l (_:Nat):Hints I:=mkH [(6,[[],[],[0,1],[0,1,2],[],[],[4,5],[4,5,6],[0,1,2,3,4,5,6,7],[0,1,2,3,4,5,6,7,8]])] [] [] [] [(58,⟨34359607408,[],[],[(5,.k (.d (.int .i64)))],[((.exit 0),[]),(.ret,[(4,.k (.d (.int .i64)))])],bnd tb (.len (.slot 0)) 1⟩)] [] [] []
def a1j (n:Nat):Row I:=⟨120,[.d (.sl 33),.d (.sl 33)],[.k (.d (.int .i64))],a2s n⟩
def K7 (n:Nat):Row I:=⟨83,[.d (.dat 88),.d (.dat 88)],[.k (.d (.int .i64))],Z3 n⟩
theorem b0A (n:Nat)(_:j6 Go.Proofs.Tryz.prog (a0s n))(h_semtyperef1_values:j6 Go.Proofs.Tryz.prog (a1j n))(h_semtyperef1_CompareEntries:j6 Go.Proofs.Tryz.prog (K7 n)):RK (a0s (n+1)) :=
 okR [eR a6J,eR a4B,eR a7A,eR a1m,eR h_semtyperef1_values,eR h_semtyperef1_CompareEntries] 155 (b2I n) [.tmp 4] Go.Proofs.Tryz.func119 (by kernel_rfl)
theorem b1o (n:Nat)(h_semtyperef1_Compare:j6 Go.Proofs.Tryz.prog (a0s n))(_:j6 Go.Proofs.Tryz.prog (a1j n))(_:j6 Go.Proofs.Tryz.prog (K7 n)):RK (a1j (n+1)) :=
 okR [eR a6J,eR h_semtyperef1_Compare] 35 (b3l n) [.tmp 4] Go.Proofs.Tryz.func120 (by kernel_rfl)
theorem a67 (n:Nat)(h_semtyperef1_Compare:j6 Go.Proofs.Tryz.prog (a0s n))(h_semtyperef1_values:j6 Go.Proofs.Tryz.prog (a1j n))(_:j6 Go.Proofs.Tryz.prog (K7 n)):RK (K7 (n+1)) :=
 okR [eR h_semtyperef1_values,eR h_semtyperef1_Compare] 26 Z8 [.tmp 4] Go.Proofs.Tryz.func83 (by kernel_rfl)
theorem a2z:∀ n:Nat,j6 Go.Proofs.Tryz.prog (a0s n)/\j6 Go.Proofs.Tryz.prog (a1j n)/\j6 Go.Proofs.Tryz.prog (K7 n)
 | 0=>⟨J1 (by kernel_rfl),J1 (by kernel_rfl),J1 (by kernel_rfl)⟩
 | n+1=>by
   obtain ⟨h0,h1,h2⟩:=a2z n
   exact ⟨b0A n h0 h1 h2,b1o n h0 h1 h2,a67 n h0 h1 h2⟩
theorem b1M (n:Nat):j6 Go.Proofs.Tryz.prog (a0s n):=(a2z n).1
theorem a3Y (n:Nat):j6 Go.Proofs.Tryz.prog (K7 n):=(a2z n).2.2
def b2K (n:Nat):Row I:=⟨82,[.d (.dat 33),.d (.dat 33)],[.k (.d (.bool))],a2G n⟩
theorem a7j (n:Nat):RK (b2K n) :=
 okR [eR (b1M n)] 9 Z8 [.tmp 4] Go.Proofs.Tryz.func82 (by kernel_rfl)
def b2t (_:Nat):Hints I:=mkH [(6,[[],[],[1],[0,1,2],[0,1,2,3],[0,1,2,3,4],[0,1,2,3,4],[0,1,2,3,4,5,6],[0,1,2,3,4,5,6,7],[0,1,2,3,4],[0,1,2,3,4],[0,1,2,3,4,9,10],[0,1,2,3,4,9,10,11],[0,1,2,3,4,5,6,7,8,9,10,11,12],[0,1,2,3,4,5,6,7,8,9,10,11,12,13],[0,1,2,3,4,5,6,7,8,9,10,11,12,13,14]]),(8,[[],[],[1],[0,1,2],[0,1,2,3],[0,1,2,3,4],[0,1,2,3,4],[0,1,2,3,4,5,6],[0,1,2,3,4,5,6,7],[0,1,2,3,4],[0,1,2,3,4],[0,1,2,3,4,9,10],[0,1,2,3,4,9,10,11],[0,1,2,3,4,5,6,7,8,9,10,11,12],[0,1,2,3,4,5,6,7,8,9,10,11,12,13],[0,1,2,3,4,5,6,7,8,9,10,11,12,13,14]]),(10,[[],[],[],[1,2],[1,2,3],[1,2,3,4],[0,1,2,3,4,5],[],[],[7,8],[0,1,2,3,4,5,6,7,8,9],[0,1,2,3,4,5,6,7,8,9,10]])] [] [] [(466,⟨4611686018427379816,[],[],[(.normal,[(3,.k (.d (.sl 88)))])]⟩)] [(58,⟨4611686018427387896,[],[],[(3,.k (.d (.sl 88))),(4,.k (.d (.int .i64)))],[((.exit 0),[(3,.k (.d (.sl 88)))])],bnd tb (.len (.slot 0)) 1⟩),
 (7460,⟨2147475488,[3],[],[(5,.k (.d (.int .i64)))],[((.exit 2),[(5,.k (.d (.int .i64)))])],bnd tb (.len (.slot 3)) 1⟩)] [] [] []
def b0D (n:Nat):Row I:=⟨123,[.bor 88],[.k (.d (.sl 88))],a3m n⟩
theorem b1r (n:Nat):RK (b0D n) :=
 okR [eR (a3Y n)] 63 (b2t n) [.tmp 2] Go.Proofs.Tryz.func123 (by kernel_rfl)
def b1I (_:Nat):Hints I:=mkH [] [] [] [] [(58,⟨70368744161376,[],[(4,.lvs [.d (.int .i64),.d (.int .i64),.d (.str),.row 33 false,.row 109 false,.row 88 false,.row 9 false])],[(6,.k (.d (.int .i64)))],[((.exit 0),[]),(.ret,[(5,.k (.d (.int .i64)))])],bnd tb (.len (.slot 1)) 1⟩)] [] [] []
def b0p (n:Nat):Row I:=⟨88,[.d (.int .i64),.bor 88],[.k (.d (.dat 33)),.k (.d (.int .i64))],a1O n⟩
theorem a5I (n:Nat):RK (b0p n) :=
 okR [eR (a7j n),eR (b1r n)] 50 (b1I n) [.cell 4 33,.tmp 5] Go.Proofs.Tryz.func88 (by kernel_rfl)
def b3d:Hints I:=mkH [(6,[[],[],[1],[0,1,2],[0,1,2,3],[0,1,2,3,4],[0,1,2,3,4],[0,1,2,3,4,5,6],[0,1,2,3,4,5,6,7],[0,1,2,3,4],[0,1,2,3,4],[0,1,2,3,4,9,10],[0,1,2,3,4,9,10,11],[0,1,2,3,4,5,6,7,8,9,10,11,12],[0,1,2,3,4,5,6,7,8,9,10,11,12,13]]),(8,[[],[],[1],[0,1,2],[0,1,2,3],[0,1,2,3,4],[0,1,2,3,4],[0,1,2,3,4,5,6],[0,1,2,3,4,5,6,7],[0,1,2,3,4],[0,1,2,3,4],[0,1,2,3,4,9,10],[0,1,2,3,4,9,10,11],[0,1,2,3,4,5,6,7,8,9,10,11,12],[0,1,2,3,4,5,6,7,8,9,10,11,12,13]]),(10,[[],[],[],[1,2],[1,2,3],[1,2,3,4],[0,1,2,3,4,5],[],[],[7,8],[0,1,2,3,4,5,6,7,8,9],[0,1,2,3,4,5,6,7,8,9,10]])] [] [] [(466,⟨1152921504606838888,[],[],[(.normal,[(3,.k (.d (.sl 9)))])]⟩)] [(58,⟨1152921504606846968,[],[],[(3,.k (.d (.sl 9))),(4,.k (.d (.int .i64)))],[((.exit 0),[(3,.k (.d (.sl 9)))])],bnd tb (.len (.slot 0)) 1⟩),
 (7460,⟨1073733664,[3],[],[(5,.k (.d (.int .i64)))],[((.exit 2),[(5,.k (.d (.int .i64)))])],bnd tb (.len (.slot 3)) 1⟩)] [] [] []
def b1e:Row I:=⟨58,[.d (.sl 9)],[.k (.d (.sl 9))],X2⟩
theorem a4f:RK (b1e) :=
 okR [] 61 b3d [.tmp 2] Go.Proofs.Tryz.func58 (by kernel_rfl)
def a8X:Row I:=⟨59,[.d (.dat 33),.d (.sl 9)],[.k (.d (.dat 33))],a3T⟩
theorem a9n:RK (a8X) :=
 okR [eR a4f] 9 Z8 [.cell 4 33] Go.Proofs.Tryz.func59 (by kernel_rfl)
def b3P:Row I:=⟨124,[.d (.dat 33),.d (.dat 33)],[.k (.d (.dat 33))],a4s⟩
theorem b4h:RK (b3P) :=
 okR [] 9 Z8 [.cell 4 33] Go.Proofs.Tryz.func124 (by kernel_rfl)
def a8n:Hints I:=mkH [] [] [] [(29,⟨1048456,[],[(0,.k (.d (.dat 44)))],[(.normal,[(3,.k (.row 9 false))])]⟩)] [] [] [] []
def a7t:Row I:=⟨90,[.var 44 (.k (.d (.dat 44))) true],[.k (.d (.sl 9))],a0G⟩
theorem a4a:RK (a7t) :=
 okR [eR w5,eR a4p,eR a4f] 22 a8n [.tmp 2] Go.Proofs.Tryz.func90 (by kernel_rfl)
def a88:Row I:=⟨125,[.var 44 (.k (.d (.dat 44))) true],[.k (.d (.dat 109))],a2g⟩
theorem a9C:RK (a88) :=
 okR [eR w5,eR a0L,eR a1n] 12 Z8 [.cell 2 109] Go.Proofs.Tryz.func125 (by kernel_rfl)
def W2 (n:Nat):Row I:=⟨60,[.var 44 (.k (.d (.dat 44))) true,.d (.int .i64)],[.k (.d (.dat 33))],a1K n⟩
def a8W (_:Nat):Hints I:=mkH [(16,[[],[],[1],[0,1,2],[],[0,1,2,3,4],[0,1,2,3,4,5]])] [(13,[46])] [] [(29,⟨5316911983139663491615228241104863200,[],[(0,.k (.d (.dat 44))),(4,.lvs [.d (.int .i64),.d (.int .i64),.d (.str),.d (.sl 33),.d (.sl 109),.d (.sl 88),.d (.sl 9)])],[(.normal,[]),(.ret,[])]⟩),
 (7540,⟨2234207627640832,[],[(0,.k (.d (.dat 44)))],[(.normal,[(50,.k (.d (.bool)))])]⟩),
 (7541,⟨141863388262170624,[],[(0,.k (.d (.dat 44))),(7,.k (.d (.dat 33)))],[(.normal,[])]⟩)] [(3754,⟨549487378528,[],[(0,.k (.d (.dat 44)))],[(5,.k (.row 33 false)),(6,.k (.d (.int .i64)))],[((.exit 1),[(5,.k (.row 33 false))])],bnd tb (.slot 6) 2⟩),
 (120794,⟨77370071863715549769893632,[],[(0,.k (.d (.dat 44)))],[(8,.k (.row 109 false)),(9,.k (.row 33 false)),(10,.k (.d (.int .i64)))],[((.exit 3),[(8,.k (.row 109 false)),(9,.k (.row 33 false))])],bnd tb (.slot 10) 2⟩),
 (483290,⟨10382058415869198798257999252078592,[],[(0,.k (.d (.dat 44)))],[(14,.k (.row 88 false)),(15,.k (.d (.int .i64)))],[((.exit 5),[(14,.k (.row 88 false))])],bnd tb (.slot 15) 2⟩)] [] [] []
def a0l (n:Nat):Row I:=⟨89,[.var 44 (.k (.d (.dat 44))) true,.d (.int .i64)],[.k (.d (.dat 33))],a9U n⟩
def a80 (_:Nat):Hints I:=mkH [(4,[[],[0],[],[],[2,3],[2,3,4],[0,1,2,3,4,5],[0,1,2,3,4,5,6],[0,1,2,3,4,5,6,7]])] [] [] [] [(28,⟨1048322,[],[(0,.k (.d (.dat 44))),(7,.lvs [.row 33 false,.d (.bool),.d (.int .i64),.d (.int .i64),.d (.str),.row 33 false,.row 109 false,.row 88 false,.row 9 false])],[(1,.k (.d (.int .i64)))],[((.exit 0),[])],bnd tb (.slot 1) 2⟩)] [] [] []
def a0i (n:Nat):Row I:=⟨126,[.var 44 (.k (.d (.dat 44))) true,.d (.int .i64),.d (.int .i64)],[.k (.d (.dat 88))],b0t n⟩
theorem a76 (n:Nat)(_:j6 Go.Proofs.Tryz.prog (W2 n))(h_semtypebase_Source_value:j6 Go.Proofs.Tryz.prog (a0l n))(_:j6 Go.Proofs.Tryz.prog (a0i n)):RK (W2 (n+1)) :=
 okR [eR h_semtypebase_Source_value,eR a4a] 13 Z8 [.cell 4 33] Go.Proofs.Tryz.func60 (by kernel_rfl)
theorem a7U (n:Nat)(h_semtypebase_Source_Value:j6 Go.Proofs.Tryz.prog (W2 n))(_:j6 Go.Proofs.Tryz.prog (a0l n))(h_semtypebase_Source_entry:j6 Go.Proofs.Tryz.prog (a0i n)):RK (a0l (n+1)) :=
 okR [eR a2D,eR w5,eR h_semtypebase_Source_Value,eR a6Y,eR a1v,eR b4h,eR a4a,eR a9C,eR a8H,eR h_semtypebase_Source_entry,eR (a5I n)] 124 (a8W n) [.cell 4 33] Go.Proofs.Tryz.func89 (by kernel_rfl)
theorem a7W (n:Nat)(h_semtypebase_Source_Value:j6 Go.Proofs.Tryz.prog (W2 n))(_:j6 Go.Proofs.Tryz.prog (a0l n))(_:j6 Go.Proofs.Tryz.prog (a0i n)):RK (a0i (n+1)) :=
 okR [eR h_semtypebase_Source_Value,eR w5] 30 (a80 n) [.cell 6 88] Go.Proofs.Tryz.func126 (by kernel_rfl)
theorem a3u:∀ n:Nat,j6 Go.Proofs.Tryz.prog (W2 n)/\j6 Go.Proofs.Tryz.prog (a0l n)/\j6 Go.Proofs.Tryz.prog (a0i n)
 | 0=>⟨J1 (by kernel_rfl),J1 (by kernel_rfl),J1 (by kernel_rfl)⟩
 | n+1=>by
   obtain ⟨h0,h1,h2⟩:=a3u n
   exact ⟨a76 n h0 h1 h2,a7U n h0 h1 h2,a7W n h0 h1 h2⟩
theorem a8v (n:Nat):j6 Go.Proofs.Tryz.prog (W2 n):=(a3u n).1
def b2H:Row I:=⟨114,[.d (.int .u8)],[.k (.d (.bool))],a2E⟩
theorem b3V:RK (b2H) :=
 okR [] 9 Z8 [.tmp 2] Go.Proofs.Tryz.func114 (by kernel_rfl)
def a9Q:Hints I:=mkH [] [] [] [] [(58,⟨562949953159180,[],[],[(3,.k (.d (.int .i64)))],[((.exit 0),[]),(.ret,[(2,.k (.d (.bool)))])],bnd tb (.len (.slot 0)) 1⟩)] [] [] []
def a8V:Row I:=⟨78,[.d (.str)],[.k (.d (.bool))],a1k⟩
theorem a41:RK (a8V) :=
 okR [eR b3V,eR a62,eR a7k] 49 a9Q [.tmp 2] Go.Proofs.Tryz.func78 (by kernel_rfl)
def b5a (_:Nat):Hints I:=mkH [(4,[[],[0],[],[0,1,2],[0,1,2,3],[0,1,2,3,4],[0,1,2,3,4,5],[0,1,2,3,4,5,6],[0,1,2,3,4,5,6,7],[0,1,2,3,4,5,6,7,8],[0,1,2,3,4,5,6,7,8,9],[0,1,2,3,4,5,6,7,8,9,10],[0,1,2,3,4,5,6,7,8,9,10,11],[0,1,2,3,4,5,6,7,8,9,10],[0,1,2,3,4,5,6,7,8,9,10,13],[0,1,2,3,4,5,6,7,8,9,10,11,12,13,14],[0,1,2,3,4,5,6,7,8,9,10,11,12,13,14,15],[0,1,2,3,4,5,6,7,8,9,10],[0,1,2,3,4,5,6,7,8,9,10,17],[0,1,2,3,4,5,6,7,8,9,10],[0,1,2,3,4,5,6,7,8,9,10,17,18,19],[0,1,2,3,4,5,6,7,8,9,10,17,18,19,20],[0,1,2,3,4,5,6,7,8,9,10,11,12,13,14,15,16,17,18,19,20,21],[0,1,2,3,4,5,6,7,8,9,10,11,12,13,14,15,16,17,18,19,20,21,22],[0,1,2,3,4,5,6,7,8,9,10,11,12,13,14,15,16,17,18,19,20,21,22,23]]),(29,[[],[0],[],[0,1,2],[0,1,2,3],[0,1,2,3,4],[0,1,2,3,4,5],[0,1,2,3,4,5,6],[0,1,2,3,4,5,6,7],[0,1,2,3,4,5,6,7,8],[0,1,2,3,4,5,6,7,8,9],[0,1,2,3,4,5,6,7,8,9,10],[0,1,2,3,4,5,6,7,8,9,10,11],[0,1,2,3,4,5,6,7,8,9,10],[0,1,2,3,4,5,6,7,8,9,10,13],[0,1,2,3,4,5,6,7,8,9,10,11,12,13,14],[0,1,2,3,4,5,6,7,8,9,10,11,12,13,14,15],[0,1,2,3,4,5,6,7,8,9,10],[0,1,2,3,4,5,6,7,8,9,10,17],[0,1,2,3,4,5,6,7,8,9,10],[0,1,2,3,4,5,6,7,8,9,10,17,18,19],[0,1,2,3,4,5,6,7,8,9,10,17,18,19,20],[0,1,2,3,4,5,6,7,8,9,10,11,12,13,14,15,16,17,18,19,20,21],[0,1,2,3,4,5,6,7,8,9,10,11,12,13,14,15,16,17,18,19,20,21,22],[0,1,2,3,4,5,6,7,8,9,10,11,12,13,14,15,16,17,18,19,20,21,22,23],[0,1,2,3,4,5,6,7,8,9,10,11,12,13,14,15,16,17,18,19,20,21,22,23,24]]),(39,[[],[0],[0,1],[],[3],[0,1,2,3,4],[0,1,2,3,4,5],[0,1,2,3,4,5,6],[0,1,2,3,4,5,6,7],[0,1,2,3,4,5,6,7,8],[0,1,2,3,4,5,6,7,8,9],[0,1,2,3,4,5,6,7,8,9,10],[0,1,2,3,4,5,6,7,8,9],[0,1,2,3,4,5,6,7,8,9,10,11,12],[0,1,2,3,4,5,6,7,8,9,10,11,12,13],[0,1,2,3,4,5,6,7,8,9,10,11,12,13,14],[0,1,2,3,4,5,6,7,8,9,10,11,12,13,14,15],[0,1,2,3,4,5,6,7,8,9,10,11,12,13,14,15,16],[0,1,2,3,4,5,6,7,8,9,10,11,12,13,14,15,16,17],[0,1,2,3,4,5,6,7,8,9,10,11,12,13,14,15,16,17,18],[0,1,2,3,4,5,6,7,8,9,10,11,12,13,14,15,16,17,18,19],[0,1,2,3,4,5,6,7,8,9,10,11,12,13,14,15,16,17,18,19,20],[0,1,2,3,4,5,6,7,8,9,10,11,12,13,14,15,16,17,18,19,20,21],[0,1,2,3,4,5,6,7,8,9,10,11,12,13,14,15,16,17,18,19,20],[0,1,2,3,4,5,6,7,8,9,10,11,12,13,14,15,16,17,18,19,20,23],[0,1,2,3,4,5,6,7,8,9,10,11,12,13,14,15,16,17,18,19,20,21,22,23,24],[0,1,2,3,4,5,6,7,8,9,10,11,12,13,14,15,16,17,18,19,20,21,22,23,24,25],[0,1,2,3,4,5,6,7,8,9,10,11,12,13,14,15,16,17,18,19,20],[0,1,2,3,4,5,6,7,8,9,10,11,12,13,14,15,16,17,18,19,20,21,22,23,24,25,26,27],[0,1,2,3,4,5,6,7,8,9,10,11,12,13,14,15,16,17,18,19,20,21,22,23,24,25,26,27,28],[0,1,2,3,4,5,6,7,8,9,10,11,12,13,14,15,16,17,18,19,20,21,22,23,24,25,26,27,28,29],[0,1,2,3,4,5,6,7,8,9,10,11,12,13,14,15,16,17,18,19,20,21,22,23,24,25,26,27,28,29,30]])] [] [] [(4073,⟨425352958651173079329218259289710264320,[],[],[(.normal,[(126,.k (.d (.bool)))])]⟩)] [(26,⟨4398046510092,[],[],[(3,.k (.d (.int .i64)))],[((.exit 0),[]),(.ret,[(2,.k (.d (.bool)))])],bnd tb (.len (.ld 31 (.fld 33 6 (.slot 1)))) 1⟩),
 (133562354,⟨411376139282411024886683268815639281647236804420309368268914820,[],[],[(7,.k (.d (.int .i64)))],[((.exit 3),[]),(.ret,[(2,.k (.d (.bool)))])],bnd tb (.len (.ld 29 (.fld 33 4 (.slot 1)))) 1⟩),
 (1068498922,⟨948568795032040353016559207911582007103813675119580226322391447047862150789858052,[],[],[(8,.k (.d (.int .i64)))],[((.exit 5),[]),(.ret,[(2,.k (.d (.bool)))])],bnd tb (.len (.ld 30 (.fld 33 5 (.slot 1)))) 1⟩)] [] [] []
def b3j (n:Nat):Row I:=⟨42,[.d (.dat 33)],[.k (.d (.bool))],a4y n⟩
theorem b4D (n:Nat):RK (b3j n) :=
 okR [eR a41,eR a4c,eR a3x,eR a1m,eR (a7j n),eR (a3Y n)] 269 (b5a n) [.tmp 2] Go.Proofs.Tryz.func42 (by kernel_rfl)
def b4A (_:Nat):Hints I:=mkH [] [] [] [] [(58,⟨16776204,[],[],[(3,.k (.d (.int .i64)))],[((.exit 0),[]),(.ret,[(2,.k (.d (.bool)))])],bnd tb (.len (.ld 28 (.fld 33 3 (.slot 1)))) 1⟩),
 (122,⟨576460752286646388,[],[],[(4,.k (.d (.int .i64)))],[((.exit 2),[]),(.ret,[(2,.k (.d (.bool)))])],bnd tb (.len (.ld 30 (.fld 33 5 (.slot 1)))) 1⟩),
 (31306,⟨1125831187365956,[],[],[(6,.k (.d (.int .i64)))],[((.exit 4),[]),(.ret,[(2,.k (.d (.bool)))])],bnd tb (.len (.ld 28 (.fld 88 0 (.slot 5)))) 1⟩)] [] [] []
def a4g (n:Nat):Row I:=⟨24,[.d (.dat 33)],[.k (.d (.bool))],a0g n⟩
theorem b2T (n:Nat)(h_semtyperef1_Valid:j6 Go.Proofs.Tryz.prog (a4g n)):RK (a4g (n+1)) :=
 okR [eR (b4D n),eR h_semtyperef1_Valid] 59 (b4A n) [.tmp 2] Go.Proofs.Tryz.func24 (by kernel_rfl)
theorem a6G:∀ n:Nat,j6 Go.Proofs.Tryz.prog (a4g n)
 | 0=>J1 (by kernel_rfl)
 | n+1=>b2T n (a6G n)
def K3 (n:Nat):Row I:=⟨18,[.var 44 (.k (.d (.dat 44))) true,.d (.dat 27),.d (.int .i64),.d (.int .i64)],[.k (.d (.dat 33))],a2a n⟩
def a9B (_:Nat):Hints I:=mkH [(7,[[],[0],[],[2],[],[4],[],[6],[6,7],[],[9],[9,10],[6,7,8,9,10,11],[4,5,6,7,8,9,10,11,12],[0,1,2,3,4,5,6,7,8,9,10,11,12,13],[],[15],[0,1,2,3,4,5,6,7,8,9,10,11,12,13,14,15,16],[0,1,2,3,4,5,6,7,8,9,10,11,12,13,14,15,16,17],[0,1,2,3,4,5,6,7,8,9,10,11,12,13,14,15,16,17,18],[0,1,2,3,4,5,6,7,8,9,10,11,12,13,14,15,16,17,18,19]]),(25,[[],[0],[],[],[],[4],[],[4,5,6],[4,5,6,7],[],[9],[2,3,4,5,6,7,8,9,10],[2,3,4,5,6,7,8,9,10,11],[0,1,2,3,4,5,6,7,8,9,10,11,12],[0,1,2,3,4,5,6,7,8,9,10,11,12,13],[0,1,2,3,4,5,6,7,8,9,10,11,12,13,14]]),(30,[[],[0],[],[0,1,2],[0,1,2,3]]),(37,[[],[],[],[2],[],[],[5],[5,6],[4,5,6,7],[2,3,4,5,6,7,8],[2,3,4,5,6,7,8,9],[],[0,1,2,3,4,5,6,7,8,9,10,11],[0,1,2,3,4,5,6,7,8,9,10,11,12]]),(39,[[],[],[],[2],[],[],[5],[5,6],[4,5,6,7],[2,3,4,5,6,7,8],[2,3,4,5,6,7,8,9],[],[0,1,2,3,4,5,6,7,8,9,10,11],[0,1,2,3,4,5,6,7,8,9,10,11,12]]),(43,[[],[0],[],[2],[],[2,3,4],[2,3,4,5],[0,1,2,3,4,5,6],[0,1,2,3,4,5,6,7],[0,1,2,3,4,5,6,7,8],[0,1,2,3,4,5,6,7,8,9]]),(44,[[],[0],[0,1],[],[3],[],[5],[],[5,6,7],[5,6,7,8],[3,4,5,6,7,8,9],[3,4,5,6,7,8,9,10],[3,4,5,6,7,8,9,10,11],[3,4,5,6,7,8,9,10,11,12],[0,1,2,3,4,5,6,7,8,9,10,11,12,13],[0,1,2,3,4,5,6,7,8,9,10,11,12,13,14],[0,1,2,3,4,5,6,7,8,9,10,11,12,13,14,15],[0,1,2,3,4,5,6,7,8,9,10,11,12,13,14,15,16]]),(47,[[],[0],[],[2],[2,3],[0,1,2,3,4],[0,1,2,3,4,5]])] [] [] [(16449533,⟨386856262276681335905976320,[],[],[(.normal,[(86,.k (.d (.bool)))])]⟩),
 (263192557,⟨85029053355366337244815407887308292096,[],[(10,.lvs [.d (.int .i64),.d (.int .i64),.d (.str),.row 33 false,.row 109 false,.row 88 false,.row 9 false])],[(.normal,[])]⟩),
 (539018395474,⟨102844034449451492418213359320247649773843695697413960913387520,[],[(10,.k (.d (.dat 33)))],[(.normal,[])]⟩)] [(131596274,⟨2596147810297394171575110715049984,[],[(0,.k (.d (.dat 44))),(10,.lvs [.d (.int .i64),.d (.int .i64),.d (.str),.row 33 false,.row 109 false,.row 88 false,.row 9 false])],[(11,.k (.d (.int .i64)))],[((.exit 1),[])],bnd tb (.len (.ld 22 (.fld 65 4 (.slot 9)))) 1⟩),
 (67377299434,⟨102844034829582222281431884733353260024018043977843391611277312,[],[(10,.k (.d (.dat 33)))],[(12,.k (.d (.int .i64)))],[((.exit 3),[])],bnd tb (.len (.ld 22 (.fld 65 4 (.slot 9)))) 1⟩)] [] [] []
def W5 (n:Nat):Row I:=⟨30,[.var 44 (.k (.d (.dat 44))) true,.d (.dat 27),.d (.int .i64),.d (.int .i64)],[.k (.d (.dat 33))],b0L n⟩
def a55 (_:Nat):Hints I:=mkH [(10,[[],[0],[],[],[],[4],[],[4,5,6],[4,5,6,7],[],[9],[2,3,4,5,6,7,8,9,10],[2,3,4,5,6,7,8,9,10,11],[0,1,2,3,4,5,6,7,8,9,10,11,12],[0,1,2,3,4,5,6,7,8,9,10,11,12,13],[0,1,2,3,4,5,6,7,8,9,10,11,12,13,14]]),(13,[[],[],[],[2],[],[2,3,4],[2,3,4,5],[],[7],[0,1,2,3,4,5,6,7,8],[0,1,2,3,4,5,6,7,8,9],[0,1,2,3,4,5,6,7,8,9,10]])] [] [] [(31309,⟨2305280059260272640,[],[(0,.k (.d (.dat 44))),(12,.lvs [.row 33 false,.d (.bool),.d (.int .i64),.d (.int .i64),.d (.str),.d (.sl 33),.d (.sl 109),.d (.sl 88),.d (.sl 9)])],[(.normal,[])]⟩)] [(122,⟨36893488147414923776,[],[(0,.k (.d (.dat 44)))],[(9,.k (.row 88 false)),(11,.k (.d (.int .i64)))],[((.exit 0),[(9,.k (.row 88 false))])],bnd tb (.slot 11) 2⟩),
 (31306,⟨70368677076992,[],[(0,.k (.d (.dat 44))),(12,.lvs [.row 33 false,.d (.bool),.d (.int .i64),.d (.int .i64),.d (.str),.row 33 false,.row 109 false,.row 88 false,.row 9 false])],[(13,.k (.d (.int .i64)))],[((.exit 2),[])],bnd tb (.slot 10) 1⟩)] [] [] []
def Q7 (n:Nat):Row I:=⟨57,[.var 44 (.k (.d (.dat 44))) true,.d (.dat 27),.d (.dat 65),.d (.int .i64)],[.k (.d (.dat 33))],a6w n⟩
def a7F (_:Nat):Hints I:=mkH [(8,[[],[],[],[],[3],[],[3,4,5],[3,4,5,6],[3,4,5,6,7],[],[9],[1,2,3,4,5,6,7,8,9,10],[1,2,3,4,5,6,7,8,9,10,11],[0,1,2,3,4,5,6,7,8,9,10,11,12],[0,1,2,3,4,5,6,7,8,9,10,11,12,13]]),(12,[[],[],[],[],[3],[],[3,4,5],[3,4,5,6],[],[8],[1,2,3,4,5,6,7,8,9],[1,2,3,4,5,6,7,8,9,10],[0,1,2,3,4,5,6,7,8,9,10,11],[0,1,2,3,4,5,6,7,8,9,10,11,12]])] [(6,[28])] [] [(125,⟨604462333346562283935232,[],[(0,.k (.d (.dat 44)))],[(.normal,[(9,.k (.row 109 false)),(10,.k (.row 33 false))])]⟩),
 (978,⟨72057594033735168,[],[(0,.k (.d (.dat 44)))],[(.normal,[(9,.k (.row 109 false)),(10,.k (.row 33 false))])]⟩),
 (7824,⟨8585740288,[],[(0,.k (.d (.dat 44)))],[(.normal,[(32,.k (.d (.bool)))])]⟩)] [(122,⟨72057594037898752,[],[(0,.k (.d (.dat 44)))],[(9,.k (.row 109 false)),(10,.k (.row 33 false)),(11,.k (.d (.int .i64)))],[((.exit 0),[(9,.k (.row 109 false)),(10,.k (.row 33 false))])],bnd tb (.len (.ld 62 (.fld 65 5 (.slot 6)))) 1⟩)] [] [] []
def K9 (n:Nat):Row I:=⟨56,[.var 44 (.k (.d (.dat 44))) true,.d (.dat 27),.d (.dat 65),.d (.int .i64)],[.k (.d (.dat 33))],a81 n⟩
theorem a8F (n:Nat)(_:j6 Go.Proofs.Tryz.prog (K3 n))(h_semtypebase_Source_near:j6 Go.Proofs.Tryz.prog (W5 n))(_:j6 Go.Proofs.Tryz.prog (Q7 n))(_:j6 Go.Proofs.Tryz.prog (K9 n)):RK (K3 (n+1)) :=
 okR [eR h_semtypebase_Source_near,eR (a6G n),eR a2D] 21 Z8 [.cell 8 33] Go.Proofs.Tryz.func18 (by kernel_rfl)
theorem a8p (n:Nat)(h_semtypebase_Source_Near:j6 Go.Proofs.Tryz.prog (K3 n))(h_semtypebase_Source_near:j6 Go.Proofs.Tryz.prog (W5 n))(h_semtypebase_Source_nearFunction:j6 Go.Proofs.Tryz.prog (Q7 n))(h_semtypebase_Source_nearMap:j6 Go.Proofs.Tryz.prog (K9 n)):RK (W5 (n+1)) :=
 okR [eR a2D,eR w5,eR a8q,eR a6t,eR a1n,eR a7y,eR a0L,eR a8I,eR a1v,eR h_semtypebase_Source_Near,eR h_semtypebase_Source_nearMap,eR h_semtypebase_Source_nearFunction,eR h_semtypebase_Source_near,eR a4f,eR a9n,eR (a8v n)] 217 (a9B n) [.cell 8 33] Go.Proofs.Tryz.func30 (by kernel_rfl)
theorem a5t (n:Nat)(h_semtypebase_Source_Near:j6 Go.Proofs.Tryz.prog (K3 n))(_:j6 Go.Proofs.Tryz.prog (W5 n))(_:j6 Go.Proofs.Tryz.prog (Q7 n))(_:j6 Go.Proofs.Tryz.prog (K9 n)):RK (Q7 (n+1)) :=
 okR [eR w5,eR h_semtypebase_Source_Near,eR (a5I n),eR a1v] 75 (a55 n) [.cell 8 33] Go.Proofs.Tryz.func57 (by kernel_rfl)
theorem a66 (n:Nat)(h_semtypebase_Source_Near:j6 Go.Proofs.Tryz.prog (K3 n))(_:j6 Go.Proofs.Tryz.prog (W5 n))(_:j6 Go.Proofs.Tryz.prog (Q7 n))(_:j6 Go.Proofs.Tryz.prog (K9 n)):RK (K9 (n+1)) :=
 okR [eR w5,eR h_semtypebase_Source_Near,eR a8H,eR a1v] 89 (a7F n) [.cell 8 33] Go.Proofs.Tryz.func56 (by kernel_rfl)
theorem a3K:∀ n:Nat,j6 Go.Proofs.Tryz.prog (K3 n)/\j6 Go.Proofs.Tryz.prog (W5 n)/\j6 Go.Proofs.Tryz.prog (Q7 n)/\j6 Go.Proofs.Tryz.prog (K9 n)
 | 0=>⟨J1 (by kernel_rfl),J1 (by kernel_rfl),J1 (by kernel_rfl),J1 (by kernel_rfl)⟩
 | n+1=>by
   obtain ⟨h0,h1,h2,h3⟩:=a3K n
   exact ⟨a8F n h0 h1 h2 h3,a8p n h0 h1 h2 h3,a5t n h0 h1 h2 h3,a66 n h0 h1 h2 h3⟩
theorem a8S (n:Nat):j6 Go.Proofs.Tryz.prog (K3 n):=(a3K n).1
def b3R (_:Nat):Hints I:=mkH [(5,[[],[],[],[],[1,2,3],[0,1,2,3,4],[0,1,2,3,4,5]])] [] [] [] [] [] [] []
def b1U (n:Nat):Row I:=⟨7,[.d (.sl 3),.d (.sl 3)],[.k (.d (.dat 27)),.k (.d (.dat 33))],a3J n⟩
theorem b2b (n:Nat):RK (b1U n) :=
 okR [eR w5,eR a89,eR (a8S n)] 31 (b3R n) [.cell 4 27,.cell 5 33] Go.Proofs.Tryz.func7 (by kernel_rfl)
def b9b:Hints I:=mkH [] [] [] [] [(58,⟨576460752303396608,[],[],[(10,.k (.row 22 false)),(15,.k (.d (.int .i64)))],[((.exit 0),[(10,.k (.row 22 false))]),(.ret,[(8,.k (.row 22 false)),(9,.k (.d (.bool)))])],bnd tb (.slot 14) 1⟩)] [] [] []
def b7k:Row I:=⟨20,[.d (.dat 27),.d (.sl 3),.d (.int .i64),.d (.int .i64)],[.k (.row 22 false),.k (.d (.bool))],a2r⟩
theorem b7V:RK (b7k) :=
 okR [] 60 b9b [.tmp 8,.tmp 9] Go.Proofs.Tryz.func20 (by kernel_rfl)
def a9W:Row I:=⟨22,[.d (.int .i64),.var 27 (.k (.d (.dat 27))) false],[.k (.d (.bool))],a0u⟩
theorem b0J:RK (a9W) :=
 okR [] 11 Z8 [.tmp 3] Go.Proofs.Tryz.func22 (by kernel_rfl)
def a5k (B:Nat)(n:Nat):Row (J B):=⟨19,[.d (.dat 27)],[.k (.d (.int .i64))],a0E n⟩
theorem b0M (B:Nat)(n:Nat):j6 Go.Proofs.Tryz.prog (a5k B n):=fun σ a vs pls res hA hd hr =>
 a1M.mono (a54 n σ a vs pls res hA hd hr) rfl fun _ τ hE ⟨ws,us,pls',hp⟩=>⟨τ,rfl,hE,ws,us,pls',⟨hp.ret,hp.len,hp.tt,hp.out,hp.nodup,hp.own⟩⟩
def a9f (B:Nat):Row (J B):=⟨20,[.d (.dat 27),.d (.sl 3),.d (.int .i64),.d (.int .i64)],[.k (.row 22 false),.k (.d (.bool))],a2r⟩
theorem b69 (B:Nat):j6 Go.Proofs.Tryz.prog (a9f B):=fun σ a vs pls res hA hd hr =>
 a1M.mono (b7V σ a vs pls res hA hd hr) rfl fun _ τ hE ⟨ws,us,pls',hp⟩=>⟨τ,rfl,hE,ws,us,pls',⟨hp.ret,hp.len,hp.tt,hp.out,hp.nodup,hp.own⟩⟩
def a4X (B:Nat):Row (J B):=⟨22,[.d (.int .i64),.var 27 (.k (.d (.dat 27))) false],[.k (.d (.bool))],a0u⟩
theorem b0a (B:Nat):j6 Go.Proofs.Tryz.prog (a4X B):=fun σ a vs pls res hA hd hr =>
 a1M.mono (b0J σ a vs pls res hA hd hr) rfl fun _ τ hE ⟨ws,us,pls',hp⟩=>⟨τ,rfl,hE,ws,us,pls',⟨hp.ret,hp.len,hp.tt,hp.out,hp.nodup,hp.own⟩⟩
def esC (B n:Nat):List (Ans (J B)):=[b8I (tbJ B) (a5k B n),b8I (tbJ B) (a9f B),b7W (tbJ B) (a8t B n) (fun _ _=>true),b8I (tbJ B) (a4X B)]
theorem c88 (B n:Nat):b8S Go.Proofs.Tryz.prog (esC B n):=⟨b2a (b0R B) (b0M B n),b2a (b0R B) (b69 B),c84 B (a9h B n),b2a (b0R B) (b0a B),trivial⟩
def b2m (B:Nat)(_:Nat):Hints (J B):=c9l B [(1,[[],[0],[],[0,1,2]])] [] [] [(29,⟨3932400,[],[],[(.normal,[(6,.k (.d (.int .i64))),(7,.k (.d (.int .i64)))]),(.ret,[(4,.k (.row 52 false)),(5,.k (.d (.int .i64)))])]⟩)] [] [] [] []
def b0C (B n:Nat):Row (J B):=⟨9,[.d (.dat 27),.d (.dat 40)],[.k (.d (.sl 52)),.k (.d (.int .i64))],a0Q n⟩
theorem d0m (B:Nat):FlipTy (γ:=J B 52) (δ:=J B 56) B a2h (fun g:Api_Goal=>g.Pos) (fun g:Api_Goal=>g.Neg) (fun g:Api_Goal=>g.Lists):=⟨rfl,rfl,Iff.rfl,by
 intro σ d cs
 constructor
 ·rintro ⟨_,_,rfl,⟨A1,c1,rfl,h1⟩,_,_,rfl,⟨A2,c2,rfl,h2⟩,rfl⟩
  exact ⟨A1,c1,A2,c2,rfl,h1,h2⟩
 ·rintro ⟨A1,c1,A2,c2,rfl,h1,h2⟩
  exact ⟨_,_,rfl,⟨A1,c1,rfl,h1⟩,_,_,rfl,⟨A2,c2,rfl,h2⟩,rfl⟩⟩
theorem c7k (x:Api_Box)(d0 d1:Api_Goal)(r:List Api_Goal)(h:x.Parts=d0::d1::r):(a3h x).Parts=d0::b0r d1::r:=by
 unfold a3h
 rw [h]
theorem b1X (B n:Nat):a3N Go.Proofs.Tryz.prog (b0C B n) (fun w _=>w.heap.size=B) :=
 c7F (I:=J B) (B:=B) (E:=52) (G:=56) (H:=b2m B n) (b0R B) (a7V (c88 B n) 3) mixed (d0m B) (setL:=b0r) (setB:=a3h) c7k (fun _=>⟨rfl,rfl,rfl⟩) (ok:=a4P) (fun x h=>Nat.le_of_ble_eq_true h) (cd:=b3L Go.Proofs.Tryz.f9) (rl:=[.tmp 4,.tmp 5]) Go.Proofs.Tryz.func9 (by kernel_rfl) (by kernel_rfl) (by kernel_rfl) (by kernel_rfl) rfl Go.Proofs.Tryz.underlying45 (by kernel_rfl) ⟨_,_,Go.Proofs.Tryz.underlying52,rfl,rfl,by kernel_rfl⟩ c56 Go.Proofs.Tryz.underlying50 (by kernel_rfl) ⟨_,_,Go.Proofs.Tryz.underlying56,rfl,rfl,by kernel_rfl⟩ (by kernel_rfl) Go.Proofs.Tryz.underlying45 (by kernel_rfl) (by kernel_rfl) (by kernel_rfl) rfl (by kernel_rfl)
def b1f (n:Nat):Row I:=⟨9,[.d (.dat 27),.d (.dat 40)],[.k (.d (.sl 52)),.k (.d (.int .i64))],a0Q n⟩
theorem b2n (n:Nat):RK (b1f n):=fun σ a vs pls res hA hd hr =>
 a1M.mono (b1X σ.w.heap.size n σ a vs pls res hA rfl hd hr) rfl fun v τ hE ⟨ws,us,pls',hp⟩=>by
  obtain ⟨v1,r,p1,p2,e1,e2,⟨⟨A,c,e3,hs⟩,e4⟩,h2⟩:=hp.tt
  exact ⟨τ,rfl,hE,ws,us,pls',hp.ret,hp.len,⟨v1,r,p1,p2,e1,e2,⟨⟨A,c,e3,c4h (a:=X8) (to:=a2h) hs⟩,e4⟩,h2⟩,hp.out,hp.nodup,hp.own⟩
def b2U:Row I:=⟨43,[.d (.dat 27),.d (.int .i64)],[.k (.d (.bool))],a0h⟩
theorem a4v:RK (b2U) :=
 okR [] 14 Z8 [.tmp 4] Go.Proofs.Tryz.func43 (by kernel_rfl)
def b4Y:Hints I:=mkH [(4,[[],[],[1],[],[1,2,3],[1,2,3,4],[0,1,2,3,4,5],[0,1,2,3,4,5,6]]),(47,[[],[],[1],[0,1,2],[0,1,2,3],[0,1,2,3,4],[0,1,2,3,4,5],[0,1,2,3,4,5,6],[0,1,2,3,4,5,6,7],[0,1,2,3,4,5,6,7,8],[0,1,2,3,4,5,6,7,8,9],[0,1,2,3,4,5,6,7,8,9,10],[0,1,2,3,4,5,6,7,8,9,10,11],[0,1,2,3,4,5,6,7,8,9,10,11,12],[0,1,2,3,4,5,6,7,8,9,10,11,12,13],[0,1,2,3,4,5,6,7,8,9,10,11,12,13,14],[0,1,2,3,4,5,6,7,8,9,10,11,12,13,14,15],[0,1,2,3,4,5,6,7,8,9,10,11,12,13,14],[0,1,2,3,4,5,6,7,8,9,10,11,12,13,14,17],[0,1,2,3,4,5,6,7,8,9,10,11,12,13,14,15,16,17,18],[0,1,2,3,4,5,6,7,8,9,10,11,12,13,14,15,16,17,18,19],[0,1,2,3,4,5,6,7,8,9,10,11,12,13,14,15,16,17,18,19,20],[0,1,2,3,4,5,6,7,8,9,10,11,12,13,14],[0,1,2,3,4,5,6,7,8,9,10,11,12,13,14,22],[0,1,2,3,4,5,6,7,8,9,10,11,12,13,14,15,16,17,18,19,20,21,22,23],[0,1,2,3,4,5,6,7,8,9,10,11,12,13,14,15,16,17,18,19,20,21,22,23,24],[0,1,2,3,4,5,6,7,8,9,10,11,12,13,14,15,16,17,18,19,20,21,22,23,24,25],[0,1,2,3,4,5,6,7,8,9,10,11,12,13,14,15,16,17,18,19,20,21,22,23,24,25,26]])] [] [] [(2092029,⟨2706308199418088717232151174730781556736,[],[],[(.normal,[(122,.k (.d (.bool)))])]⟩),
 (535560189,⟨3568119231764899702645714923623737840956866560,[],[],[(.normal,[(149,.k (.d (.bool)))])]⟩)] [(26,⟨67106864,[],[],[(5,.k (.d (.int .i64)))],[((.exit 0),[]),(.ret,[(4,.k (.d (.bool)))])],bnd tb (.len (.ld 22 (.fld 65 4 (.slot 3)))) 1⟩),
 (68551704562,⟨1606938044257528773904631189422958917689486710763136902759952,[],[],[(9,.k (.d (.int .i64)))],[((.exit 3),[]),(.ret,[(4,.k (.d (.bool)))])],bnd tb (.len (.ld 62 (.fld 65 5 (.slot 3)))) 1⟩)] [] [] []
def b3M:Row I:=⟨44,[.d (.dat 27),.d (.dat 65)],[.k (.d (.bool))],a4r⟩
theorem b4y:RK (b3M) :=
 okR [eR a4v,eR a4c,eR a41,eR a3x,eR a1m] 216 b4Y [.tmp 4] Go.Proofs.Tryz.func44 (by kernel_rfl)
def b0x:Row I:=⟨45,[.d (.dat 65)],[.k (.d (.bool))],a3k⟩
theorem b1E:RK (b0x) :=
 okR [] 16 Z8 [.tmp 2] Go.Proofs.Tryz.func45 (by kernel_rfl)
def a9M (n:Nat):Hints I:=mkH [(6,[[],[],[1],[],[1,2,3],[1,2,3,4],[0,1,2,3,4,5],[0,1,2,3,4,5,6]])] [] [] [] [(58,⟨1073709068,[],[],[(3,.k (.d (.int .i64)))],[((.exit 0),[]),(.ret,[(2,.k (.d (.int .i64)))])],bnd tb (.len (.ld 25 (.fld 27 0 (.slot 1)))) 1⟩),
 (250,⟨4951760157141521082416628192,[],[],[(4,.k (.row 4 false)),(5,.k (.d (.int .i64)))],[((.exit 2),[(4,.k (.row 4 false))])],bnd tb (.len (.ld 25 (.fld 27 0 (.slot 1)))) 1⟩),
 (506,⟨10136253041668693690874029146628,[],[],[(4,.k (.row 4 false)),(9,.k (.d (.int .i64)))],[((.exit 8),[(4,.k (.row 4 false))]),(.ret,[(2,.k (.d (.int .i64))),(4,.k (.row 4 false))])],bnd tb (.len (.slot 4)) 1⟩),
 (16018,⟨4951760157141518900573241792,[],[],[(4,.k (.row 4 false)),(6,.k (.d (.int .i64)))],[((.exit 4),[(4,.k (.row 4 false))])],bnd tb (.len (.ld 25 (.fld 27 0 (.slot 1)))) 1⟩),
 (4100682,⟨4835703278177041722114432,[],[],[(4,.k (.row 4 false)),(7,.k (.d (.bool))),(8,.k (.d (.int .i64)))],[((.exit 6),[(4,.k (.row 4 false)),(7,.k (.d (.bool)))])],fun _=>some n⟩)] [] [] []
def a84 (n:Nat):Row I:=⟨25,[.d (.dat 27)],[.k (.d (.int .i64))],a2p n⟩
theorem a9m (n:Nat):RK (a84 n) :=
 okR [eR a4v,eR b4y,eR b1E] 103 (a9M n) [.tmp 2] Go.Proofs.Tryz.func25 (by kernel_rfl)
def b2d:Hints I:=mkH [(1,[[],[0],[0,1],[],[3],[0,1,2,3,4],[0,1,2,3,4,5]]),(5,[[],[],[],[1,2],[1,2,3],[0,1,2,3,4],[0,1,2,3,4,5]])] [] [] [] [(58,⟨67100752,[5],[],[(6,.k (.d (.int .i64)))],[((.exit 0),[]),(.ret,[(4,.k (.d (.bool)))])],bnd tb (.len (.slot 5)) 1⟩)] [] [] []
def b0N:Row I:=⟨26,[.d (.dat 27),.d (.dat 56)],[.k (.d (.bool))],a3t⟩
theorem b1t:RK (b0N) :=
 okR [eR a4v] 26 b2d [.tmp 4] Go.Proofs.Tryz.func26 (by kernel_rfl)
def b2P (_:Nat):Hints I:=mkH [(4,[[],[0],[0,1],[],[3],[0,1,2,3,4],[0,1,2,3,4,5]]),(9,[[],[0],[],[],[2,3],[2,3,4],[0,1,2,3,4,5],[0,1,2,3,4,5,6],[],[0,1,2,3,4,5,6,7,8]])] [(5,[36])] [] [(62,⟨4389456576768,[7],[],[(.normal,[(8,.k (.d (.bool)))])]⟩)] [(506,⟨38685626227663735544088320,[],[],[(8,.k (.d (.bool))),(9,.k (.d (.int .i64)))],[((.exit 0),[(8,.k (.d (.bool)))])],bnd tb (.len (.slot 7)) 1⟩)] [] [] []
def b0z (n:Nat):Row I:=⟨13,[.d (.dat 27),.d (.dat 40)],[.k (.d (.bool))],a2b n⟩
theorem b1q (n:Nat):RK (b0z n) :=
 okR [eR (b2n n),eR (a9m n),eR b1t] 91 (b2P n) [.tmp 4] Go.Proofs.Tryz.func13 (by kernel_rfl)
def a63 (n:Nat):Row I:=⟨4,[.d (.sl 3),.d (.dat 40),.d (.dat 27)],[.k (.d (.bool))],a1o n⟩
theorem a7m (n:Nat):RK (a63 n) :=
 okR [eR b2Y,eR (b2A n),eR (b2b n),eR (b1q n)] 48 Z8 [.tmp 6] Go.Proofs.Tryz.func4 (by kernel_rfl)
end Go.Qx
end
section
namespace Go.Qx
open Go Go.RowKit Go.Sx
set_option maxHeartbeats 1600000
set_option maxRecDepth 100000
end Go.Qx
end
section
namespace Go.Pl
open Go Go.RowKit Go.Sx Go.Qx Go.Proofs.YtlapkakgkamkoaaGreat
def a1t (w:World):S:=⟨w,fun b=>match w.heap[b]? with | some (.cells c _ _)=>(c.size,0) | _=>(0,0)⟩
theorem c3E {w:World}{b o:Nat}{cs:List Value}(hn:cs≠[])(h:w.rangeAt b o cs)(hf:∀ j,j<cs.length->w.frozen? ⟨b,o+j,none⟩=false):a2F (a1t w) b o cs:=by
 refine ⟨⟨?_,hf⟩,h⟩
 have hl:0<cs.length:=List.length_pos_iff.2 hn
 have hj:=h (cs.length-1) _ (List.getElem?_eq_getElem (by omega))
 unfold World.cell? at hj
 simp only at hj
 split at hj
 ·rename_i c e f hb
  have h2:o+(cs.length-1)<c.size:=by
   simp only [Option.isSome_none,Bool.false_eq_true,if_false] at hj
   exact (Array.getElem?_eq_some_iff.1 hj).1
  show o+cs.length<=(match w.heap[b]? with | some (.cells c _ _)=>(c.size,0) | _=>(0,0)).1
  rw [hb]
  show o+cs.length<=c.size
  omega
 ·cases hj
theorem c3s {w:World}{base:Nat}{a:Addr}{n:Nat}{cs:List Value}(h:w.cells? base a n=some cs) :
 cs.length=n/\∀ (i:Nat) (v:Value),cs[i]?=some v->w.cell? (a.add i)=some v:=by
 unfold World.cells? at h
 split at h
 ·have hl:cs.length=n:=by simpa using mapM_some_length h
  refine ⟨hl,fun i v hv=>?_⟩
  have hi:i<n:=by have:=(List.getElem?_eq_some_iff.1 hv).1; omega
  have:=mapM_some_get h i i (by simp [hi])
  rw [this,hv]
 ·cases h
theorem c7x (a:Addr)(x j:Nat):(a.add x).add j=a.add (x+j):=by
 unfold Addr.add
 by_cases hx:x=0
 ·subst hx; simp
 ·by_cases hj:j=0
  ·subst hj; simp [hx]
  ·rw [if_neg hj,if_neg hx,if_neg (by omega),Nat.add_assoc]
theorem c4j {w:World}{a:Addr}{v:Value}(h:w.cell? a=some v):a.spot=none:=by
 unfold World.cell? at h
 split at h
 ·split at h
  ·cases h
  ·rename_i hs; simpa using hs
 ·cases h
section
variable {H:Type}{enc:TypeId×Value->H}{P:Program}{w:World}{base:Nat}{spare:Nat->Bool}{held:Bool}
theorem a5x {α:Type} [Rp α] {fuel:Nat}{t e:TypeId}{cs:List Value}{x:DataW H×List MemPlace}(ht:P.underlying t=some (.slice e))(hc:P.cellsOf e=Rp.sz α)(bk:α->Nat)
 (hrd:∀ (n:Nat) (cs:List Value) (x:DataW H×List MemPlace),n<fuel->w.noneFrozen x.2->DataW.trod enc P w base spare held n e cs=some x->∃ d:α,Rp.cells (a1t w) d cs/\bk d<=Rows.uptoBulk x.1) (hz:w.noneFrozen x.2)
 (h:DataW.trod enc P w base spare held fuel t cs=some x) :
 ∃ (ds:List α) (A:Option Addr) (c:Nat),cs=[.slice A ds.length c]/\Sl (a1t w) ds A c/\(ds.map bk).sum+1<=Rows.uptoBulk x.1:=by
 rcases DataW.trod_slice ht h with ⟨rfl,rfl⟩ | ⟨a,len,cap,elems,rest,n,rfl,rfl,rfl,hb,hl,hm,hle,hget,-,-⟩
 ·exact ⟨[],none,0,rfl,Sl.nil_ _ _ _ (Nat.zero_le _),by simp [Rows.uptoBulk]⟩
 have hze:∀ y∈elems,w.noneFrozen y.2:=fun y hy b off hm'=>hz b off (List.mem_append_right _ (List.mem_flatMap.2 ⟨y,List.mem_append_left _ hy,hm'⟩))
 have hzr:∀ i,i<(elems.length+rest.length)*P.cellsOf e->w.frozen? ⟨a.block,a.off+i,none⟩=false:=fun i hi=>hz _ _ (List.mem_append_left _ (List.mem_map.2 ⟨i,List.mem_range.2 hi,rfl⟩))
 have key:∀ (m i:Nat),i+m=len->∃ (ds:List α) (cs:List Value),ds.length=m/\Q3 (a1t w) ds cs /\
  (∀ (j:Nat) (v:Value),cs[j]?=some v->w.cell? (a.add (i*Rp.sz α+j))=some v)/\(ds.map bk).sum<=Rows.uptoBulkAll ((elems.drop i).map (·.1)):=by
  intro m
  induction m with
  | zero=>intro i _; exact ⟨[],[],rfl,rfl,fun j v hv=>by simp at hv,by simp⟩
  | succ m ih =>
    intro i hi
    obtain ⟨ds,cs,h1,h2,h3,h4⟩:=ih (i+1) (by omega)
    have hlt:i<elems.length:=by omega
    have hg:=hget i (by omega)
    rw [List.getElem?_eq_getElem hlt,Option.bind_eq_some_iff] at hg
    obtain ⟨cs0,hcs,htr⟩:=hg
    obtain ⟨d,hd,hbk⟩:=hrd n cs0 _ (by omega) (hze _ (List.getElem_mem hlt)) htr
    obtain ⟨hcl,hci⟩:=c3s hcs
    rw [hc] at hcl hci
    refine ⟨d::ds,cs0++cs,by simp [h1],⟨cs0,cs,rfl,hd,h2⟩,?_,?_⟩
    ·intro j v hv
     by_cases hj:j<Rp.sz α
     ·rw [List.getElem?_append_left (by omega)] at hv
      rw [<- c7x]
      exact hci j v hv
     ·rw [List.getElem?_append_right (by omega)] at hv
      have:=h3 _ v hv
      rw [hcl,Nat.add_mul,Nat.one_mul] at this
      have e:i*Rp.sz α+Rp.sz α+(j-Rp.sz α)=i*Rp.sz α+j:=by omega
      rw [e] at this
      exact this
    ·rw [List.drop_eq_getElem_cons hlt]
     simp only [List.map_cons,List.sum_cons,Rows.uptoBulkAll]
     omega
 obtain ⟨ds,cs,h1,h2,h3,h4⟩:=key len 0 (by omega)
 simp only [Nat.zero_mul,Nat.zero_add,List.drop_zero] at h3 h4
 refine ⟨ds,some a,cap,by rw [h1],⟨by omega,hm,cs,h2,fun hn=>?_⟩,by simp only [Rows.uptoBulk]; omega⟩
 have hne:=h2.ne_nil hn
 cases cs with
 | nil=>exact absurd rfl hne
 | cons v0 r =>
   have h0:=h3 0 v0 rfl
   have hs:a.spot=none:=c4j (by simpa [Addr.add] using h0)
   obtain ⟨b,o,sp⟩:=a
   simp only at hs
   subst hs
   refine ⟨b,o,rfl,c3E (by simp) ?_ (fun j hj=>hzr j (by
    have h5:=h2.len
    rw [h5,h1] at hj
    rw [hc,hle]
    exact Nat.lt_of_lt_of_le hj (Nat.mul_le_mul_right _ (Nat.le_add_right _ _))))⟩
   intro j v hv
   have:=h3 j v hv
   unfold Addr.add at this
   by_cases hj:j=0
   ·subst hj; simpa using this
   ·rw [if_neg hj] at this
    exact this
end
theorem c8O {α:Type}{l:List α}(h:l.length=2):∃ a b,l=[a,b]:=by
 match l,h with
 | [a,b],_=>exact ⟨a,b,rfl⟩
theorem c2K (s:ByteArray):s.data.toList.length=s.size:=Array.length_toList
end Go.Pl
end
section
namespace Go.Pl
open Go Go.RowKit Go.Sx Go.Qx Go.Proofs.YtlapkakgkamkoaaGreat
theorem c8s:Go.Proofs.Tryz.prog.cellsOf 109=2:=by kernel_rfl
theorem c9:Go.Proofs.Tryz.prog.cellsOf 9=1:=by kernel_rfl
theorem c2:Go.Proofs.Tryz.prog.cellsOf 2=1:=by kernel_rfl
theorem c4:Go.Proofs.Tryz.prog.cellsOf 4=1:=by kernel_rfl
theorem c31:Go.Proofs.Tryz.prog.cellsOf 31=1:=by kernel_rfl
theorem c3:Go.Proofs.Tryz.prog.cellsOf 3=1:=by kernel_rfl
theorem c22:Go.Proofs.Tryz.prog.cellsOf 22=1:=by kernel_rfl
section
variable {H:Type}{enc:TypeId×Value->H}{w:World}{base:Nat}{spare:Nat->Bool}{held:Bool}
theorem c6s {n:Nat}{cs:List Value}{x:DataW H×List MemPlace}(h:DataW.trod enc Go.Proofs.Tryz.prog w base spare held n 9 cs=some x) :
 ∃ d:ByteArray,Rp.cells (a1t w) d cs/\a0A d<=Rows.uptoBulk x.1:=by
 obtain ⟨s,rfl,rfl,_⟩:=DataW.trod_string Go.Proofs.Tryz.underlying9 h
 refine ⟨s,rfl,?_⟩
 simp only [Rows.uptoBulk,a0A]
 have:s.data.toList.length=s.size:=c2K s
 omega
theorem c5F {n:Nat}{cs:List Value}{x:DataW H×List MemPlace}(_:w.noneFrozen x.2)(h:DataW.trod enc Go.Proofs.Tryz.prog w base spare held n 109 cs=some x) :
 ∃ d:Key,Rp.cells (a1t w) d cs/\a2y d<=Rows.uptoBulk x.1:=by
 obtain ⟨xs,n,rfl,rfl,hl,hx,hf⟩:=DataW.trod_struct Go.Proofs.Tryz.underlying109 h
 rw [c8s] at hl
 have hx:xs.length=2:=hx
 obtain ⟨v0,v1,rfl⟩:=c8O hl
 obtain ⟨x0,x1,rfl⟩:=c8O hx
 have f0:DataW.trod enc Go.Proofs.Tryz.prog w base spare held n 3 (([v0,v1].drop 0).take (Go.Proofs.Tryz.prog.cellsOf 3))=[x0,x1][0]?:=hf 0 _ rfl
 have f1:DataW.trod enc Go.Proofs.Tryz.prog w base spare held n 9 (([v0,v1].drop 1).take (Go.Proofs.Tryz.prog.cellsOf 9))=[x0,x1][1]?:=hf 1 _ rfl
 rw [c3] at f0
 rw [c9] at f1
 obtain ⟨k,e0,rfl,_⟩:=DataW.trod_int Go.Proofs.Tryz.underlying3 (x:=x0) f0
 obtain ⟨s,e1,hb⟩:=c6s (x:=x1) f1
 obtain rfl:v0=.int .i64 k:=by simpa using e0
 have e1':[v1]=[Value.string s]:=e1
 obtain rfl:v1=.string s:=by simpa using e1'
 refine ⟨⟨k,s⟩,rfl,?_⟩
 simp only [a2y,Rows.uptoBulk,Rows.uptoBulkAll,List.map_cons,List.map_nil]
 omega
end
end Go.Pl
namespace Go.Pl
open Go Go.RowKit Go.Sx Go.Qx Go.Proofs.YtlapkakgkamkoaaGreat
theorem c9E:Go.Proofs.Tryz.prog.cellsOf 206=2:=by kernel_rfl
theorem c36:Go.Proofs.Tryz.prog.cellsOf 36=1:=by kernel_rfl
theorem c38:Go.Proofs.Tryz.prog.cellsOf 38=2:=by kernel_rfl
theorem c40:Go.Proofs.Tryz.prog.cellsOf 40=9:=by kernel_rfl
theorem c9j:Go.Proofs.Tryz.prog.cellsOf 111=4:=by kernel_rfl
theorem c62:Go.Proofs.Tryz.prog.cellsOf 62=1:=by kernel_rfl
theorem c63:Go.Proofs.Tryz.prog.cellsOf 63=2:=by kernel_rfl
theorem c65:Go.Proofs.Tryz.prog.cellsOf 65=8:=by kernel_rfl
theorem c25:Go.Proofs.Tryz.prog.cellsOf 25=1:=by kernel_rfl
theorem c27:Go.Proofs.Tryz.prog.cellsOf 27=2:=by kernel_rfl
theorem rdP {α β:Type}(ra:Rp α)(rb:Rp β){σ:S}{cs:List Value}{a:α}{b:β}(o s:Nat)(h1:ra.cells σ a ((cs.drop o).take s))(h2:rb.cells σ b (cs.drop (o+s))):(j8 ra rb).cells σ (a,b) (cs.drop o) :=
 ⟨_,_,by rw [<- List.drop_drop]; exact (List.take_append_drop s (cs.drop o)).symm,h1,h2⟩
theorem rdE {α:Type}(ra:Rp α){σ:S}{cs:List Value}{a:α}(o s:Nat)(hl:cs.length=o+s)(h1:ra.cells σ a ((cs.drop o).take s)):ra.cells σ a (cs.drop o):=by
 rwa [List.take_of_length_le (by rw [List.length_drop]; omega)] at h1
theorem ln2 {α:Type}{l:List α}(h:l.length=2):∃ a0 a1,l=[a0,a1]:=by
 match l,h with
 | [a0,a1],_=>exact ⟨a0,a1,rfl⟩
theorem ln3 {α:Type}{l:List α}(h:l.length=3):∃ a0 a1 a2,l=[a0,a1,a2]:=by
 match l,h with
 | [a0,a1,a2],_=>exact ⟨a0,a1,a2,rfl⟩
theorem ln7 {α:Type}{l:List α}(h:l.length=7):∃ a0 a1 a2 a3 a4 a5 a6,l=[a0,a1,a2,a3,a4,a5,a6]:=by
 match l,h with
 | [a0,a1,a2,a3,a4,a5,a6],_=>exact ⟨a0,a1,a2,a3,a4,a5,a6,rfl⟩
theorem ln8 {α:Type}{l:List α}(h:l.length=8):∃ a0 a1 a2 a3 a4 a5 a6 a7,l=[a0,a1,a2,a3,a4,a5,a6,a7]:=by
 match l,h with
 | [a0,a1,a2,a3,a4,a5,a6,a7],_=>exact ⟨a0,a1,a2,a3,a4,a5,a6,a7,rfl⟩
section
variable {H:Type}{enc:TypeId×Value->H}{w:World}{base:Nat}{spare:Nat->Bool}{held:Bool}
theorem b3s {n:Nat}{cs:List Value}{x:DataW H×List MemPlace}(hz:w.noneFrozen x.2)(h:DataW.trod enc Go.Proofs.Tryz.prog w base spare held n 3 cs=some x):∃ d:Int,(rpK .i64).cells (a1t w) d cs/\a1S d<=Rows.uptoBulk x.1:=by
 obtain ⟨k,e0,rfl,_⟩:=DataW.trod_int Go.Proofs.Tryz.underlying3 h
 exact ⟨k,e0,by simp [a1S,Rows.uptoBulk]⟩
theorem c35 {n:Nat}{cs:List Value}{x:DataW H×List MemPlace}(hz:w.noneFrozen x.2)(h:DataW.trod enc Go.Proofs.Tryz.prog w base spare held n 22 cs=some x):∃ d:List Int,(@rpList _ (rpK .i64)).cells (a1t w) d cs/\a7H d<=Rows.uptoBulk x.1:=by
 obtain ⟨ds,A,c,e,hs,hb⟩:=@a5x _ _ _ _ _ _ _ Int (rpK .i64) _ _ _ _ _ Go.Proofs.Tryz.underlying22 c3 a1S (fun n cs x _ hz h=>b3s hz h) hz h
 exact ⟨ds,⟨A,c,e,hs⟩,hb⟩
theorem c3B {n:Nat}{cs:List Value}{x:DataW H×List MemPlace}(hz:w.noneFrozen x.2)(h:DataW.trod enc Go.Proofs.Tryz.prog w base spare held n 2 cs=some x):∃ d:Int,(rpK .i64).cells (a1t w) d cs/\a1S d<=Rows.uptoBulk x.1:=by
 obtain ⟨k,e0,rfl,_⟩:=DataW.trod_int Go.Proofs.Tryz.underlying2 h
 exact ⟨k,e0,by simp [a1S,Rows.uptoBulk]⟩
theorem c8w {n:Nat}{cs:List Value}{x:DataW H×List MemPlace}(hz:w.noneFrozen x.2)(h:DataW.trod enc Go.Proofs.Tryz.prog w base spare held n 206 cs=some x):∃ d:Api_Range,(K5).cells (a1t w) d cs/\a6P d<=Rows.uptoBulk x.1:=by
 obtain ⟨xs,m,rfl,rfl,hl,hx,hf⟩:=DataW.trod_struct Go.Proofs.Tryz.underlying206 h
 rw [c9E] at hl
 have hx:xs.length=2:=hx
 obtain ⟨x0,x1,rfl⟩:=ln2 hx
 have f0:DataW.trod enc Go.Proofs.Tryz.prog w base spare held m 2 ((cs.drop 0).take (Go.Proofs.Tryz.prog.cellsOf 2))=[x0,x1][0]?:=hf 0 _ rfl
 rw [c2] at f0
 obtain ⟨d0,e0,b0⟩:=c3B (x:=x0) (fun b off hm=>hz b off (List.mem_flatMap.2 ⟨x0,by simp,hm⟩)) f0
 have f1:DataW.trod enc Go.Proofs.Tryz.prog w base spare held m 2 ((cs.drop 1).take (Go.Proofs.Tryz.prog.cellsOf 2))=[x0,x1][1]?:=hf 1 _ rfl
 rw [c2] at f1
 obtain ⟨d1,e1,b1⟩:=c3B (x:=x1) (fun b off hm=>hz b off (List.mem_flatMap.2 ⟨x1,by simp,hm⟩)) f1
 refine ⟨⟨d0,d1⟩,rdP (rpK .i64) (rpK .i64) 0 1 e0 (rdE (rpK .i64) 1 1 hl e1),?_⟩
 simp only [a6P,Rows.uptoBulk,Rows.uptoBulkAll,List.map_cons,List.map_nil]
 omega
theorem c9T {n:Nat}{cs:List Value}{x:DataW H×List MemPlace}(hz:w.noneFrozen x.2)(h:DataW.trod enc Go.Proofs.Tryz.prog w base spare held n 36 cs=some x):∃ d:List Api_Range,(@rpList _ (K5)).cells (a1t w) d cs/\b2R d<=Rows.uptoBulk x.1:=by
 obtain ⟨ds,A,c,e,hs,hb⟩:=@a5x _ _ _ _ _ _ _ Api_Range (K5) _ _ _ _ _ Go.Proofs.Tryz.underlying36 c9E a6P (fun n cs x _ hz h=>c8w hz h) hz h
 exact ⟨ds,⟨A,c,e,hs⟩,hb⟩
theorem c8A {n:Nat}{cs:List Value}{x:DataW H×List MemPlace}(hz:w.noneFrozen x.2)(h:DataW.trod enc Go.Proofs.Tryz.prog w base spare held n 4 cs=some x):∃ d:Bool,(rpBool).cells (a1t w) d cs/\b5M d<=Rows.uptoBulk x.1:=by
 obtain ⟨k,e0,rfl⟩:=DataW.trod_bool Go.Proofs.Tryz.underlying4 h
 exact ⟨k,e0,by simp [b5M,Rows.uptoBulk]⟩
theorem c8F {n:Nat}{cs:List Value}{x:DataW H×List MemPlace}(hz:w.noneFrozen x.2)(h:DataW.trod enc Go.Proofs.Tryz.prog w base spare held n 9 cs=some x):∃ d:ByteArray,(rpStr).cells (a1t w) d cs/\a0A d<=Rows.uptoBulk x.1:=by
 obtain ⟨s,rfl,rfl,_⟩:=DataW.trod_string Go.Proofs.Tryz.underlying9 h
 refine ⟨s,rfl,?_⟩
 simp only [Rows.uptoBulk,a0A]
 have:s.data.toList.length=s.size:=c2K s
 omega
theorem c3O {n:Nat}{cs:List Value}{x:DataW H×List MemPlace}(hz:w.noneFrozen x.2)(h:DataW.trod enc Go.Proofs.Tryz.prog w base spare held n 31 cs=some x):∃ d:List ByteArray,(@rpList _ (rpStr)).cells (a1t w) d cs/\b24 d<=Rows.uptoBulk x.1:=by
 obtain ⟨ds,A,c,e,hs,hb⟩:=@a5x _ _ _ _ _ _ _ ByteArray (rpStr) _ _ _ _ _ Go.Proofs.Tryz.underlying31 c9 a0A (fun n cs x _ hz h=>c8F hz h) hz h
 exact ⟨ds,⟨A,c,e,hs⟩,hb⟩
theorem c9V {n:Nat}{cs:List Value}{x:DataW H×List MemPlace}(hz:w.noneFrozen x.2)(h:DataW.trod enc Go.Proofs.Tryz.prog w base spare held n 38 cs=some x):∃ d:Api_Names,(X4).cells (a1t w) d cs/\a98 d<=Rows.uptoBulk x.1:=by
 obtain ⟨xs,m,rfl,rfl,hl,hx,hf⟩:=DataW.trod_struct Go.Proofs.Tryz.underlying38 h
 rw [c38] at hl
 have hx:xs.length=2:=hx
 obtain ⟨x0,x1,rfl⟩:=ln2 hx
 have f0:DataW.trod enc Go.Proofs.Tryz.prog w base spare held m 4 ((cs.drop 0).take (Go.Proofs.Tryz.prog.cellsOf 4))=[x0,x1][0]?:=hf 0 _ rfl
 rw [c4] at f0
 obtain ⟨d0,e0,b0⟩:=c8A (x:=x0) (fun b off hm=>hz b off (List.mem_flatMap.2 ⟨x0,by simp,hm⟩)) f0
 have f1:DataW.trod enc Go.Proofs.Tryz.prog w base spare held m 31 ((cs.drop 1).take (Go.Proofs.Tryz.prog.cellsOf 31))=[x0,x1][1]?:=hf 1 _ rfl
 rw [c31] at f1
 obtain ⟨d1,e1,b1⟩:=c3O (x:=x1) (fun b off hm=>hz b off (List.mem_flatMap.2 ⟨x1,by simp,hm⟩)) f1
 refine ⟨⟨d0,d1⟩,rdP (rpBool) (@rpList _ (rpStr)) 0 1 e0 (rdE (@rpList _ (rpStr)) 1 1 hl e1),?_⟩
 simp only [a98,Rows.uptoBulk,Rows.uptoBulkAll,List.map_cons,List.map_nil]
 omega
theorem d0t {n:Nat}{cs:List Value}{x:DataW H×List MemPlace}(hz:w.noneFrozen x.2)(h:DataW.trod enc Go.Proofs.Tryz.prog w base spare held n 40 cs=some x):∃ d:Api_Line,(a20).cells (a1t w) d cs/\b1G d<=Rows.uptoBulk x.1:=by
 obtain ⟨xs,m,rfl,rfl,hl,hx,hf⟩:=DataW.trod_struct Go.Proofs.Tryz.underlying40 h
 rw [c40] at hl
 have hx:xs.length=8:=hx
 obtain ⟨x0,x1,x2,x3,x4,x5,x6,x7,rfl⟩:=ln8 hx
 have f0:DataW.trod enc Go.Proofs.Tryz.prog w base spare held m 3 ((cs.drop 0).take (Go.Proofs.Tryz.prog.cellsOf 3))=[x0,x1,x2,x3,x4,x5,x6,x7][0]?:=hf 0 _ rfl
 rw [c3] at f0
 obtain ⟨d0,e0,b0⟩:=b3s (x:=x0) (fun b off hm=>hz b off (List.mem_flatMap.2 ⟨x0,by simp,hm⟩)) f0
 have f1:DataW.trod enc Go.Proofs.Tryz.prog w base spare held m 3 ((cs.drop 1).take (Go.Proofs.Tryz.prog.cellsOf 3))=[x0,x1,x2,x3,x4,x5,x6,x7][1]?:=hf 1 _ rfl
 rw [c3] at f1
 obtain ⟨d1,e1,b1⟩:=b3s (x:=x1) (fun b off hm=>hz b off (List.mem_flatMap.2 ⟨x1,by simp,hm⟩)) f1
 have f2:DataW.trod enc Go.Proofs.Tryz.prog w base spare held m 36 ((cs.drop 2).take (Go.Proofs.Tryz.prog.cellsOf 36))=[x0,x1,x2,x3,x4,x5,x6,x7][2]?:=hf 2 _ rfl
 rw [c36] at f2
 obtain ⟨d2,e2,b2⟩:=c9T (x:=x2) (fun b off hm=>hz b off (List.mem_flatMap.2 ⟨x2,by simp,hm⟩)) f2
 have f3:DataW.trod enc Go.Proofs.Tryz.prog w base spare held m 38 ((cs.drop 3).take (Go.Proofs.Tryz.prog.cellsOf 38))=[x0,x1,x2,x3,x4,x5,x6,x7][3]?:=hf 3 _ rfl
 rw [c38] at f3
 obtain ⟨d3,e3,b3⟩:=c9V (x:=x3) (fun b off hm=>hz b off (List.mem_flatMap.2 ⟨x3,by simp,hm⟩)) f3
 have f4:DataW.trod enc Go.Proofs.Tryz.prog w base spare held m 22 ((cs.drop 5).take (Go.Proofs.Tryz.prog.cellsOf 22))=[x0,x1,x2,x3,x4,x5,x6,x7][4]?:=hf 4 _ rfl
 rw [c22] at f4
 obtain ⟨d4,e4,b4⟩:=c35 (x:=x4) (fun b off hm=>hz b off (List.mem_flatMap.2 ⟨x4,by simp,hm⟩)) f4
 have f5:DataW.trod enc Go.Proofs.Tryz.prog w base spare held m 22 ((cs.drop 6).take (Go.Proofs.Tryz.prog.cellsOf 22))=[x0,x1,x2,x3,x4,x5,x6,x7][5]?:=hf 5 _ rfl
 rw [c22] at f5
 obtain ⟨d5,e5,b5⟩:=c35 (x:=x5) (fun b off hm=>hz b off (List.mem_flatMap.2 ⟨x5,by simp,hm⟩)) f5
 have f6:DataW.trod enc Go.Proofs.Tryz.prog w base spare held m 31 ((cs.drop 7).take (Go.Proofs.Tryz.prog.cellsOf 31))=[x0,x1,x2,x3,x4,x5,x6,x7][6]?:=hf 6 _ rfl
 rw [c31] at f6
 obtain ⟨d6,e6,b6⟩:=c3O (x:=x6) (fun b off hm=>hz b off (List.mem_flatMap.2 ⟨x6,by simp,hm⟩)) f6
 have f7:DataW.trod enc Go.Proofs.Tryz.prog w base spare held m 31 ((cs.drop 8).take (Go.Proofs.Tryz.prog.cellsOf 31))=[x0,x1,x2,x3,x4,x5,x6,x7][7]?:=hf 7 _ rfl
 rw [c31] at f7
 obtain ⟨d7,e7,b7⟩:=c3O (x:=x7) (fun b off hm=>hz b off (List.mem_flatMap.2 ⟨x7,by simp,hm⟩)) f7
 refine ⟨⟨d0,d1,d2,d3,d4,d5,d6,d7⟩,rdP (rpK .i64) (j8 (rpK .i64) (j8 (@rpList _ (K5)) (j8 (X4) (j8 (@rpList _ (rpK .i64)) (j8 (@rpList _ (rpK .i64)) (j8 (@rpList _ (rpStr)) (@rpList _ (rpStr)))))))) 0 1 e0 (rdP (rpK .i64) (j8 (@rpList _ (K5)) (j8 (X4) (j8 (@rpList _ (rpK .i64)) (j8 (@rpList _ (rpK .i64)) (j8 (@rpList _ (rpStr)) (@rpList _ (rpStr))))))) 1 1 e1 (rdP (@rpList _ (K5)) (j8 (X4) (j8 (@rpList _ (rpK .i64)) (j8 (@rpList _ (rpK .i64)) (j8 (@rpList _ (rpStr)) (@rpList _ (rpStr)))))) 2 1 e2 (rdP (X4) (j8 (@rpList _ (rpK .i64)) (j8 (@rpList _ (rpK .i64)) (j8 (@rpList _ (rpStr)) (@rpList _ (rpStr))))) 3 2 e3 (rdP (@rpList _ (rpK .i64)) (j8 (@rpList _ (rpK .i64)) (j8 (@rpList _ (rpStr)) (@rpList _ (rpStr)))) 5 1 e4 (rdP (@rpList _ (rpK .i64)) (j8 (@rpList _ (rpStr)) (@rpList _ (rpStr))) 6 1 e5 (rdP (@rpList _ (rpStr)) (@rpList _ (rpStr)) 7 1 e6 (rdE (@rpList _ (rpStr)) 8 1 hl e7))))))),?_⟩
 simp only [b1G,Rows.uptoBulk,Rows.uptoBulkAll,List.map_cons,List.map_nil]
 omega
theorem c9u {n:Nat}{cs:List Value}{x:DataW H×List MemPlace}(hz:w.noneFrozen x.2)(h:DataW.trod enc Go.Proofs.Tryz.prog w base spare held n 109 cs=some x):∃ d:Key,(rpKey).cells (a1t w) d cs/\a2y d<=Rows.uptoBulk x.1:=by
 exact c5F hz h
theorem c8i {n:Nat}{cs:List Value}{x:DataW H×List MemPlace}(hz:w.noneFrozen x.2)(h:DataW.trod enc Go.Proofs.Tryz.prog w base spare held n 111 cs=some x):∃ d:Api_Field,(Q2).cells (a1t w) d cs/\a34 d<=Rows.uptoBulk x.1:=by
 obtain ⟨xs,m,rfl,rfl,hl,hx,hf⟩:=DataW.trod_struct Go.Proofs.Tryz.underlying111 h
 rw [c9j] at hl
 have hx:xs.length=3:=hx
 obtain ⟨x0,x1,x2,rfl⟩:=ln3 hx
 have f0:DataW.trod enc Go.Proofs.Tryz.prog w base spare held m 109 ((cs.drop 0).take (Go.Proofs.Tryz.prog.cellsOf 109))=[x0,x1,x2][0]?:=hf 0 _ rfl
 rw [c8s] at f0
 obtain ⟨d0,e0,b0⟩:=c9u (x:=x0) (fun b off hm=>hz b off (List.mem_flatMap.2 ⟨x0,by simp,hm⟩)) f0
 have f1:DataW.trod enc Go.Proofs.Tryz.prog w base spare held m 3 ((cs.drop 2).take (Go.Proofs.Tryz.prog.cellsOf 3))=[x0,x1,x2][1]?:=hf 1 _ rfl
 rw [c3] at f1
 obtain ⟨d1,e1,b1⟩:=b3s (x:=x1) (fun b off hm=>hz b off (List.mem_flatMap.2 ⟨x1,by simp,hm⟩)) f1
 have f2:DataW.trod enc Go.Proofs.Tryz.prog w base spare held m 4 ((cs.drop 3).take (Go.Proofs.Tryz.prog.cellsOf 4))=[x0,x1,x2][2]?:=hf 2 _ rfl
 rw [c4] at f2
 obtain ⟨d2,e2,b2⟩:=c8A (x:=x2) (fun b off hm=>hz b off (List.mem_flatMap.2 ⟨x2,by simp,hm⟩)) f2
 refine ⟨⟨d0,d1,d2⟩,rdP (rpKey) (j8 (rpK .i64) (rpBool)) 0 2 e0 (rdP (rpK .i64) (rpBool) 2 1 e1 (rdE (rpBool) 3 1 hl e2)),?_⟩
 simp only [a34,Rows.uptoBulk,Rows.uptoBulkAll,List.map_cons,List.map_nil]
 omega
theorem c9S {n:Nat}{cs:List Value}{x:DataW H×List MemPlace}(hz:w.noneFrozen x.2)(h:DataW.trod enc Go.Proofs.Tryz.prog w base spare held n 62 cs=some x):∃ d:List Api_Field,(@rpList _ (Q2)).cells (a1t w) d cs/\a7O d<=Rows.uptoBulk x.1:=by
 obtain ⟨ds,A,c,e,hs,hb⟩:=@a5x _ _ _ _ _ _ _ Api_Field (Q2) _ _ _ _ _ Go.Proofs.Tryz.underlying62 c9j a34 (fun n cs x _ hz h=>c8i hz h) hz h
 exact ⟨ds,⟨A,c,e,hs⟩,hb⟩
theorem c9O {n:Nat}{cs:List Value}{x:DataW H×List MemPlace}(hz:w.noneFrozen x.2)(h:DataW.trod enc Go.Proofs.Tryz.prog w base spare held n 63 cs=some x):∃ d:Int×Int,(j8 (rpK .i64) (rpK .i64)).cells (a1t w) d cs/\b4W d<=Rows.uptoBulk x.1:=by
 obtain ⟨xs,m,rfl,rfl,hl,hx,hf⟩:=DataW.trod_array Go.Proofs.Tryz.underlying63 h
 rw [c63] at hl
 have hx:xs.length=2:=hx
 obtain ⟨x0,x1,rfl⟩:=ln2 hx
 rw [c3] at hf
 have f0:DataW.trod enc Go.Proofs.Tryz.prog w base spare held m 3 ((cs.drop 0).take 1)=[x0,x1][0]?:=hf 0 (by decide)
 obtain ⟨d0,e0,b0⟩:=b3s (x:=x0) (fun b off hm=>hz b off (List.mem_flatMap.2 ⟨x0,by simp,hm⟩)) f0
 have f1:DataW.trod enc Go.Proofs.Tryz.prog w base spare held m 3 ((cs.drop 1).take 1)=[x0,x1][1]?:=hf 1 (by decide)
 obtain ⟨d1,e1,b1⟩:=b3s (x:=x1) (fun b off hm=>hz b off (List.mem_flatMap.2 ⟨x1,by simp,hm⟩)) f1
 refine ⟨(d0,d1),rdP (rpK .i64) (rpK .i64) 0 1 e0 (rdE (rpK .i64) 1 1 hl e1),?_⟩
 simp only [b4W,Rows.uptoBulk,Rows.uptoBulkAll,List.map_cons,List.map_nil]
 omega
theorem d0q {n:Nat}{cs:List Value}{x:DataW H×List MemPlace}(hz:w.noneFrozen x.2)(h:DataW.trod enc Go.Proofs.Tryz.prog w base spare held n 65 cs=some x):∃ d:Api_TypeNode,(J2).cells (a1t w) d cs/\a0q d<=Rows.uptoBulk x.1:=by
 obtain ⟨xs,m,rfl,rfl,hl,hx,hf⟩:=DataW.trod_struct Go.Proofs.Tryz.underlying65 h
 rw [c65] at hl
 have hx:xs.length=7:=hx
 obtain ⟨x0,x1,x2,x3,x4,x5,x6,rfl⟩:=ln7 hx
 have f0:DataW.trod enc Go.Proofs.Tryz.prog w base spare held m 3 ((cs.drop 0).take (Go.Proofs.Tryz.prog.cellsOf 3))=[x0,x1,x2,x3,x4,x5,x6][0]?:=hf 0 _ rfl
 rw [c3] at f0
 obtain ⟨d0,e0,b0⟩:=b3s (x:=x0) (fun b off hm=>hz b off (List.mem_flatMap.2 ⟨x0,by simp,hm⟩)) f0
 have f1:DataW.trod enc Go.Proofs.Tryz.prog w base spare held m 2 ((cs.drop 1).take (Go.Proofs.Tryz.prog.cellsOf 2))=[x0,x1,x2,x3,x4,x5,x6][1]?:=hf 1 _ rfl
 rw [c2] at f1
 obtain ⟨d1,e1,b1⟩:=c3B (x:=x1) (fun b off hm=>hz b off (List.mem_flatMap.2 ⟨x1,by simp,hm⟩)) f1
 have f2:DataW.trod enc Go.Proofs.Tryz.prog w base spare held m 2 ((cs.drop 2).take (Go.Proofs.Tryz.prog.cellsOf 2))=[x0,x1,x2,x3,x4,x5,x6][2]?:=hf 2 _ rfl
 rw [c2] at f2
 obtain ⟨d2,e2,b2⟩:=c3B (x:=x2) (fun b off hm=>hz b off (List.mem_flatMap.2 ⟨x2,by simp,hm⟩)) f2
 have f3:DataW.trod enc Go.Proofs.Tryz.prog w base spare held m 9 ((cs.drop 3).take (Go.Proofs.Tryz.prog.cellsOf 9))=[x0,x1,x2,x3,x4,x5,x6][3]?:=hf 3 _ rfl
 rw [c9] at f3
 obtain ⟨d3,e3,b3⟩:=c8F (x:=x3) (fun b off hm=>hz b off (List.mem_flatMap.2 ⟨x3,by simp,hm⟩)) f3
 have f4:DataW.trod enc Go.Proofs.Tryz.prog w base spare held m 22 ((cs.drop 4).take (Go.Proofs.Tryz.prog.cellsOf 22))=[x0,x1,x2,x3,x4,x5,x6][4]?:=hf 4 _ rfl
 rw [c22] at f4
 obtain ⟨d4,e4,b4⟩:=c35 (x:=x4) (fun b off hm=>hz b off (List.mem_flatMap.2 ⟨x4,by simp,hm⟩)) f4
 have f5:DataW.trod enc Go.Proofs.Tryz.prog w base spare held m 62 ((cs.drop 5).take (Go.Proofs.Tryz.prog.cellsOf 62))=[x0,x1,x2,x3,x4,x5,x6][5]?:=hf 5 _ rfl
 rw [c62] at f5
 obtain ⟨d5,e5,b5⟩:=c9S (x:=x5) (fun b off hm=>hz b off (List.mem_flatMap.2 ⟨x5,by simp,hm⟩)) f5
 have f6:DataW.trod enc Go.Proofs.Tryz.prog w base spare held m 63 ((cs.drop 6).take (Go.Proofs.Tryz.prog.cellsOf 63))=[x0,x1,x2,x3,x4,x5,x6][6]?:=hf 6 _ rfl
 rw [c63] at f6
 obtain ⟨d6,e6,b6⟩:=c9O (x:=x6) (fun b off hm=>hz b off (List.mem_flatMap.2 ⟨x6,by simp,hm⟩)) f6
 refine ⟨⟨d0,d1,d2,d3,d4,d5,d6⟩,rdP (rpK .i64) (j8 (rpK .i64) (j8 (rpK .i64) (j8 (rpStr) (j8 (@rpList _ (rpK .i64)) (j8 (@rpList _ (Q2)) (j8 (rpK .i64) (rpK .i64))))))) 0 1 e0 (rdP (rpK .i64) (j8 (rpK .i64) (j8 (rpStr) (j8 (@rpList _ (rpK .i64)) (j8 (@rpList _ (Q2)) (j8 (rpK .i64) (rpK .i64)))))) 1 1 e1 (rdP (rpK .i64) (j8 (rpStr) (j8 (@rpList _ (rpK .i64)) (j8 (@rpList _ (Q2)) (j8 (rpK .i64) (rpK .i64))))) 2 1 e2 (rdP (rpStr) (j8 (@rpList _ (rpK .i64)) (j8 (@rpList _ (Q2)) (j8 (rpK .i64) (rpK .i64)))) 3 1 e3 (rdP (@rpList _ (rpK .i64)) (j8 (@rpList _ (Q2)) (j8 (rpK .i64) (rpK .i64))) 4 1 e4 (rdP (@rpList _ (Q2)) (j8 (rpK .i64) (rpK .i64)) 5 1 e5 (rdE (j8 (rpK .i64) (rpK .i64)) 6 2 hl e6)))))),?_⟩
 simp only [a0q,Rows.uptoBulk,Rows.uptoBulkAll,List.map_cons,List.map_nil]
 omega
theorem c92 {n:Nat}{cs:List Value}{x:DataW H×List MemPlace}(hz:w.noneFrozen x.2)(h:DataW.trod enc Go.Proofs.Tryz.prog w base spare held n 25 cs=some x):∃ d:List Api_TypeNode,(@rpList _ (J2)).cells (a1t w) d cs/\a9d d<=Rows.uptoBulk x.1:=by
 obtain ⟨ds,A,c,e,hs,hb⟩:=@a5x _ _ _ _ _ _ _ Api_TypeNode (J2) _ _ _ _ _ Go.Proofs.Tryz.underlying25 c65 a0q (fun n cs x _ hz h=>d0q hz h) hz h
 exact ⟨ds,⟨A,c,e,hs⟩,hb⟩
theorem d0o {n:Nat}{cs:List Value}{x:DataW H×List MemPlace}(hz:w.noneFrozen x.2)(h:DataW.trod enc Go.Proofs.Tryz.prog w base spare held n 27 cs=some x):∃ d:Api_Type,(a2Z).cells (a1t w) d cs/\a3U d<=Rows.uptoBulk x.1:=by
 obtain ⟨xs,m,rfl,rfl,hl,hx,hf⟩:=DataW.trod_struct Go.Proofs.Tryz.underlying27 h
 rw [c27] at hl
 have hx:xs.length=2:=hx
 obtain ⟨x0,x1,rfl⟩:=ln2 hx
 have f0:DataW.trod enc Go.Proofs.Tryz.prog w base spare held m 25 ((cs.drop 0).take (Go.Proofs.Tryz.prog.cellsOf 25))=[x0,x1][0]?:=hf 0 _ rfl
 rw [c25] at f0
 obtain ⟨d0,e0,b0⟩:=c92 (x:=x0) (fun b off hm=>hz b off (List.mem_flatMap.2 ⟨x0,by simp,hm⟩)) f0
 have f1:DataW.trod enc Go.Proofs.Tryz.prog w base spare held m 3 ((cs.drop 1).take (Go.Proofs.Tryz.prog.cellsOf 3))=[x0,x1][1]?:=hf 1 _ rfl
 rw [c3] at f1
 obtain ⟨d1,e1,b1⟩:=b3s (x:=x1) (fun b off hm=>hz b off (List.mem_flatMap.2 ⟨x1,by simp,hm⟩)) f1
 refine ⟨⟨d0,d1⟩,rdP (@rpList _ (J2)) (rpK .i64) 0 1 e0 (rdE (rpK .i64) 1 1 hl e1),?_⟩
 simp only [a3U,Rows.uptoBulk,Rows.uptoBulkAll,List.map_cons,List.map_nil]
 omega
end
end Go.Pl
end

/- Part 4. -/
import Derived.Test.YtbbgmfkdindhpaaGreatDoorK3
import Derived.ChangeArms
import Derived.KernelRfl
import Derived.OpenShut
import Derived.Test.YtbbgmfkdindhpaaGreatDoorRows
section
namespace Go.Qx
open Go Go.RowKit Go.Sx
set_option maxHeartbeats 1600000
set_option maxRecDepth 100000
abbrev RK (r:Row I):Prop:=j6 Go.Proofs.Tryz.prog r
abbrev RO (r:Rio I):Prop:=a5h Go.Proofs.Tryz.prog r
def mkH (a:List (Nat×List (List Nat)))(b c:List (Nat×List Nat))(j:List (Nat×JH))(l:List (Nat×LH I))(k:List (Nat×KH I))(ns:List (Nat×NH I))(u:List (Nat×Nat)):Hints I :=
 ⟨fun i=>(asc a i).getD [],fun i=>(asc b i).getD [],fun i=>(asc c i).getD [],asc j,asc l,asc k,asc ns,fun i=>(asc u i).getD 0⟩
def Z5:Hints I:=mkH [] [] [] [] [] [] [] []
structure En where
 ans:Ans I
 ok:EntOk Go.Proofs.Tryz.prog ans
def enL:List En->List (Ans I)
 | []=>[]
 | e::r=>e.ans::enL r
theorem a96:∀ l:List En,c1b Go.Proofs.Tryz.prog (enL l)
 | []=>trivial
 | e::r=>⟨e.ok,a96 r⟩
def eR {r:Row I}(h:RK r):En:=⟨c4q tb r,c3H a2e h⟩
def eO {r:Rio I}(h:RO r):En:=⟨c4p tb r,c3R a2e h⟩
def eS {r:Row I}(T f j:Nat)(is:List Nat)(h:a5K Go.Proofs.Tryz.prog r (b4b T f j is)):En:=⟨c26 tb r (b7t T f j is),b9f a2e h (fun _ _ _ _ _ _ _ _ _ hO h hc hv=>c1p hO h hc hv)⟩
theorem okR {r:Row I}(l:List En){fn:Func}(nt:Nat)(H:Hints I)(rl:List ResultVar)(hf:(Go.Proofs.Tryz.prog).funcs[r.f]?=some fn)
 (h : (fn.body, fn.name == "runtime.NumGoroutine", fn.ntmps, fn.results.toList, Nat.ble r.ps.length nt, X2 H (b1u fn) 1, r.run) = (some (b1u fn), false, nt, rl, true, true, b1w r.ps (c3k tb (b4i (enL l) 3) H (b1u fn) nt r.ps r.rs rl))) : RK r := by
 simp only [Prod.mk.injEq] at h
 obtain ⟨h1,h2,h3,h4,h5,h6,h7⟩:=h
 exact c4k a2e (a5c (a96 l) 3) mixed nt hf h1 h2 h3 h4 h5 h6 h7
theorem okO {r:Rio I}(l:List En){fn:Func}(nt:Nat)(H:Hints I)(rl:List ResultVar)(hf:(Go.Proofs.Tryz.prog).funcs[r.f]?=some fn)
 (h : (fn.body, fn.name == "runtime.NumGoroutine", fn.ntmps, fn.results.toList, Nat.ble (r.ps.length + 1) nt, X2 H (b1u fn) 1, r.run) = (some (b1u fn), false, nt, rl, true, true, fun xs => b1w r.ps (c3h tb (b4i (enL l) 3) H (b1u fn) nt r.E r.ps r.rs rl xs))) : RO r := by
 simp only [Prod.mk.injEq] at h
 obtain ⟨h1,h2,h3,h4,h5,h6,h7⟩:=h
 exact c4O a2e (a5c (a96 l) 3) mixed nt hf h1 h2 h3 h4 h5 h6 h7
def c3E:Row I:=⟨222,[.d (.str),.d (.str)],[.k (.d (.int .i64))],c07⟩
theorem c4b:j6 Go.Proofs.Tryz.prog c3E:=c4h Go.Proofs.Tryz.func222 (by kernel_rfl) rfl (by kernel_rfl) (by kernel_rfl)
def c4P:Row I:=⟨24,[.d (.sl 3)],[.k (.row 3 false)],Q5 8⟩
theorem b8N:j6 Go.Proofs.Tryz.prog c4P:=a7s a2e mixed Go.Proofs.Tryz.func24 (by kernel_rfl) (by kernel_rfl) (by kernel_rfl) Go.Proofs.Tryz.underlying40 rfl (by kernel_rfl) (fun _=>by kernel_rfl)
def c4C:Rio I:=⟨94,3,[],[],c0y⟩
theorem c5u:a5h Go.Proofs.Tryz.prog c4C:=c1B (I:=I) (E:=3) Go.Proofs.Tryz.lay94 94 (by kernel_rfl) (fun x=>x) Iff.rfl ⟨_,_,Go.Proofs.Tryz.func94,rfl,by kernel_rfl⟩
def c3P:Rio I:=⟨106,9,[],[],b4k⟩
theorem b9p:a5h Go.Proofs.Tryz.prog c3P:=c1J (I:=I) (E:=9) Go.Proofs.Tryz.lay106 106 (by kernel_rfl) (fun x=>x) Iff.rfl ⟨_,_,Go.Proofs.Tryz.func106,rfl,by kernel_rfl⟩
noncomputable def c3W:Rio I:=⟨268,221,[.fn [.dat 221,.dat 221] [.k (.d (.int .i64))]],[],b58⟩
theorem c4n:a5h Go.Proofs.Tryz.prog c3W:=c1K Go.Proofs.Tryz.lay268 268 (by kernel_rfl) (by kernel_rfl) Go.Proofs.Tryz.underlying221 (by kernel_rfl)
def c4z:Row I:=⟨50,[.d (.sl 9)],[.k (.row 9 false)],Q5 16⟩
theorem a8j:j6 Go.Proofs.Tryz.prog c4z:=a7s a2e mixed Go.Proofs.Tryz.func50 (by kernel_rfl) (by kernel_rfl) (by kernel_rfl) Go.Proofs.Tryz.underlying25 rfl (by kernel_rfl) (fun _=>by kernel_rfl)
def c4D:Row I:=⟨52,[.d (.sl 42)],[.k (.row 42 false)],Q5 56⟩
theorem c22:j6 Go.Proofs.Tryz.prog c4D:=a7s a2e mixed Go.Proofs.Tryz.func52 (by kernel_rfl) (by kernel_rfl) (by kernel_rfl) Go.Proofs.Tryz.underlying65 rfl (by kernel_rfl) (fun _=>by kernel_rfl)
def c3A:Row I:=⟨152,[.d (.sl 100)],[.k (.row 100 false)],Q5 24⟩
theorem c37:j6 Go.Proofs.Tryz.prog c3A:=a7s a2e mixed Go.Proofs.Tryz.func152 (by kernel_rfl) (by kernel_rfl) (by kernel_rfl) Go.Proofs.Tryz.underlying23 rfl (by kernel_rfl) (fun _=>by kernel_rfl)
def c3C:Row I:=⟨221,[.d (.sl 27)],[.k (.row 27 false)],Q5 128⟩
theorem c4X:j6 Go.Proofs.Tryz.prog c3C:=a7s a2e mixed Go.Proofs.Tryz.func221 (by kernel_rfl) (by kernel_rfl) (by kernel_rfl) Go.Proofs.Tryz.underlying22 rfl (by kernel_rfl) (fun _=>by kernel_rfl)
def b1a:Hints I:=mkH [] [] [] [] [(58,⟨1048528,[],[(3,.lvs [.row 46 false,.d (.int .i64)])],[(4,.k (.d (.int .i64)))],[((.exit 0),[])],bnd tb (.slot 0) 1⟩)] [] [] []
def a9k:Row I:=⟨5,[.d (.int .i64)],[.k (.d (.dat 33))],a2q⟩
theorem b0I:RK (a9k) :=
 okR [] 27 b1a [.cell 2 33] Go.Proofs.Tryz.func5 (by kernel_rfl)
def b0U:Hints I:=mkH [] [] [] [(29,⟨16776824,[],[],[(.normal,[(3,.k (.d (.bool))),(4,.k (.d (.bool))),(5,.k (.d (.bool))),(6,.k (.d (.bool)))])]⟩),
 (941,⟨26624,[],[],[(.normal,[(11,.k (.d (.bool)))])]⟩),
 (3773,⟨4096000,[],[],[(.normal,[(15,.k (.d (.bool)))])]⟩)] [] [] [] []
def a8R:Row I:=⟨20,[.d (.dat 46)],[.k (.d (.bool))],a5D⟩
theorem b0m:RK (a8R) :=
 okR [] 67 b0U [.tmp 2] Go.Proofs.Tryz.func20 (by kernel_rfl)
def b7w:Hints I:=mkH [] [] [] [] [(58,⟨34351349952,[],[],[(7,.k (.d (.int .i64)))],[((.exit 0),[]),(.ret,[(6,.k (.d (.bool)))])],bnd tb (.len (.slot 0)) 1⟩)] [] [] []
def b5I:Row I:=⟨75,[.d (.str),.fn [.int .u8] [.k (.d (.bool))],.fn [.int .u8] [.k (.d (.bool))]],[.k (.d (.bool))],a7h⟩
theorem a8o:RK (b5I) :=
 okR [] 35 b7w [.tmp 6] Go.Proofs.Tryz.func75 (by kernel_rfl)
def b4L:Row I:=⟨76,[.d (.int .u8)],[.k (.d (.bool))],a3n⟩
theorem a3w:RK (b4L) :=
 okR [] 9 Z5 [.tmp 2] Go.Proofs.Tryz.func76 (by kernel_rfl)
def b4I:Row I:=⟨78,[.d (.int .u8)],[.k (.d (.bool))],a5R⟩
theorem a7x:RK (b4I) :=
 okR [] 9 Z5 [.tmp 2] Go.Proofs.Tryz.func78 (by kernel_rfl)
def b24:Row I:=⟨77,[.d (.int .u8)],[.k (.d (.bool))],a95⟩
theorem b4z:RK (b24) :=
 okR [eR a3w,eR a7x] 13 Z5 [.tmp 2] Go.Proofs.Tryz.func77 (by kernel_rfl)
def b5w:Row I:=⟨43,[.d (.str)],[.k (.d (.bool))],a4u⟩
theorem a4s:RK (b5w) :=
 okR [eR a8o,eR a3w,eR b4z] 5 Z5 [.tmp 2] Go.Proofs.Tryz.func43 (by kernel_rfl)
def b4J:Row I:=⟨79,[.d (.int .u8)],[.k (.d (.bool))],a54⟩
theorem a7H:RK (b4J) :=
 okR [] 9 Z5 [.tmp 2] Go.Proofs.Tryz.func79 (by kernel_rfl)
def a8t:Row I:=⟨80,[.d (.int .u8)],[.k (.d (.bool))],a5v⟩
theorem a9T:RK (a8t) :=
 okR [eR a3w,eR a7H,eR a7x] 17 Z5 [.tmp 2] Go.Proofs.Tryz.func80 (by kernel_rfl)
def b1L:Row I:=⟨44,[.d (.str)],[.k (.d (.bool))],a3x⟩
theorem a4O:RK (b1L) :=
 okR [eR a8o,eR a7H,eR a9T] 5 Z5 [.tmp 2] Go.Proofs.Tryz.func44 (by kernel_rfl)
def b3o:Row I:=⟨81,[.d (.dat 100)],[.k (.d (.bool))],a43⟩
theorem a6e:RK (b3o) :=
 okR [eR a4s] 16 Z5 [.tmp 2] Go.Proofs.Tryz.func81 (by kernel_rfl)
def b4v:Row I:=⟨157,[.d (.int .i64)],[.k (.d (.bool))],a5O⟩
theorem b5D:RK (b4v) :=
 okR [] 6 Z5 [.tmp 2] Go.Proofs.Tryz.func157 (by kernel_rfl)
def b2a:Row I:=⟨117,[.d (.int .i64),.d (.int .i64)],[.k (.d (.int .i64))],X8⟩
theorem X3:RK (b2a) :=
 okR [eR b5D] 20 Z5 [.tmp 4] Go.Proofs.Tryz.func117 (by kernel_rfl)
def a2Z:Row I:=⟨158,[.d (.str),.d (.str)],[.k (.d (.int .i64))],a1d⟩
theorem a3h:RK (a2Z) :=
 okR [eR c4b] 8 Z5 [.tmp 4] Go.Proofs.Tryz.func158 (by kernel_rfl)
def b1Z:Row I:=⟨118,[.d (.str),.d (.str)],[.k (.d (.int .i64))],a1a⟩
theorem a2B:RK (b1Z) :=
 okR [eR a3h] 8 Z5 [.tmp 4] Go.Proofs.Tryz.func118 (by kernel_rfl)
def a9X:Row I:=⟨82,[.d (.dat 100),.d (.dat 100)],[.k (.d (.int .i64))],a1u⟩
theorem a1T:RK (a9X) :=
 okR [eR X3,eR a2B] 19 Z5 [.tmp 4] Go.Proofs.Tryz.func82 (by kernel_rfl)
def a9d:Hints I:=mkH [(4,[[],[0],[0,1],[0,1,2],[0,1,2,3],[0,1,2,3,4],[0,1,2,3,4,5],[0,1,2,3,4,5,6],[0,1,2,3,4,5,6,7],[0,1,2,3,4,5,6,7],[0,1,2,3,4,5,6,7,9],[0,1,2,3,4,5,6,7,8,9,10],[0,1,2,3,4,5,6,7,8,9,10,11],[0,1,2,3,4,5,6,7,8,9,10,11,12],[0,1,2,3,4,5,6,7],[0,1,2,3,4,5,6,7,14],[0,1,2,3,4,5,6,7,8,9,10,11,12,13,14,15],[0,1,2,3,4,5,6,7,8,9,10,11,12,13,14,15,16],[0,1,2,3,4,5,6,7,8,9,10,11,12,13,14,15,16,17],[0,1,2,3,4,5,6,7,8,9,10,11,12,13,14,15,16,17,18]])] [] [] [] [(26,⟨8589934492,[],[],[(7,.k (.d (.int .i64)))],[((.exit 0),[]),(.ret,[(2,.k (.d (.bool)))])],bnd tb (.slot 6) 1⟩)] [] [] []
def a67:Row I:=⟨45,[.d (.sl 102)],[.k (.d (.bool))],a30⟩
theorem a7P:RK (a67) :=
 okR [eR a6e,eR a1T] 33 a9d [.tmp 2] Go.Proofs.Tryz.func45 (by kernel_rfl)
def b09:Hints I:=mkH [] [] [] [(105,⟨16288,[],[],[(.normal,[(5,.k (.d (.bool)))])]⟩),
 (28311549,⟨368934881474191032320,[],[],[(.normal,[(66,.k (.d (.bool)))])]⟩)] [] [] [] []
def a9f:Row I:=⟨21,[.d (.dat 46)],[.k (.d (.bool))],a5u⟩
theorem b0c:RK (a9f) :=
 okR [eR a4s,eR a4O,eR a7P] 79 b09 [.tmp 2] Go.Proofs.Tryz.func21 (by kernel_rfl)
def b5n:Hints I:=mkH [] [] [] [] [(58,⟨4190248,[],[],[(3,.k (.row 3 false)),(12,.k (.d (.int .i64)))],[((.exit 0),[(3,.k (.row 3 false))])],bnd tb (.slot 11) 1⟩)] [] [] []
def b3Y:Row I:=⟨22,[.d (.dat 46)],[.k (.row 3 false)],b0D⟩
theorem b4A:RK (b3Y) :=
 okR [eR b8N] 35 b5n [.tmp 2] Go.Proofs.Tryz.func22 (by kernel_rfl)
def a8D:Row I:=⟨47,[.d (.int .i64)],[.k (.d (.bool))],a5M⟩
theorem b0e:RK (a8D) :=
 okR [] 13 Z5 [.tmp 2] Go.Proofs.Tryz.func47 (by kernel_rfl)
def a6Y (_:Nat):Hints I:=mkH [] [] [] [] [(122,⟨140462610448544,[],[(1,.k (.row 3 false))],[(38,.k (.d (.int .i64)))],[((.exit 0),[]),(.ret,[(5,.k (.d (.bool)))])],bnd tb (.slot 37) 1⟩)] [] [] []
def a0D (n:Nat):Row I:=⟨46,[.d (.int .i64),.var 40 (.k (.row 3 false)) true,.var 33 (.k (.d (.dat 33))) false,.var 103 (.k (.d .any)) false],[.k (.d (.bool))],a1i n⟩
theorem a5Y (n:Nat)(h_typeexpr_contractive_1:a5K Go.Proofs.Tryz.prog (a0D n) (b4b 103 46 3 [1,2,3])):a5K Go.Proofs.Tryz.prog (a0D (n+1)) (b4b 103 46 3 [1,2,3]) :=
 c3G a2e (a5c (a96 [eR b0e,eS 103 46 3 [1,2,3] h_typeexpr_contractive_1]) 3) mixed 50 (s0:=fun a=>c3n 103 46 3 3 [1,2,3] (a4R tb 50 [.d (.int .i64),.var 40 (.k (.row 3 false)) true,.var 33 (.k (.d (.dat 33))) false,.var 103 (.k (.d .any)) false] a)) (fn:=Go.Proofs.Tryz.f46) (cd:=b1u Go.Proofs.Tryz.f46) (H:=(a6Y n)) (rl:=[.tmp 5]) (fun X c σ a vs F h hv _ hC=>c18 rfl rfl rfl h hv hC) Go.Proofs.Tryz.func46 (by kernel_rfl) (by kernel_rfl) (by kernel_rfl) (by kernel_rfl) (by kernel_rfl) (by kernel_rfl) (by kernel_rfl)
theorem a2l:∀ n:Nat,a5K Go.Proofs.Tryz.prog (a0D n) (b4b 103 46 3 [1,2,3])
 | 0=>c1D (Q1 (by kernel_rfl))
 | n+1=>a5Y n (a2l n)
def a9e (_:Nat):Hints I:=mkH [] [] [] [] [(250,⟨4177956,[],[(3,.k (.row 3 false))],[(14,.k (.d (.int .i64)))],[((.exit 0),[]),(.ret,[(2,.k (.d (.bool)))])],bnd tb (.slot 13) 1⟩)] [] [] []
def a7f (n:Nat):Row I:=⟨23,[.d (.dat 33)],[.k (.d (.bool))],a3X n⟩
theorem a7W (n:Nat):RK (a7f n) :=
 okR [eS 103 46 3 [1,2,3] (a2l n)] 22 (a9e n) [.tmp 2] Go.Proofs.Tryz.func23 (by kernel_rfl)
def b0w (_:Nat):Hints I:=mkH [] [] [] [] [(58,⟨2251799811588180,[],[],[(21,.k (.d (.int .i64)))],[((.exit 0),[]),(.ret,[(2,.k (.d (.int .i64)))])],bnd tb (.slot 20) 1⟩),
 (29902,⟨1125831187365956,[34],[],[(36,.k (.d (.int .i64)))],[((.exit 2),[]),(.ret,[(2,.k (.d (.int .i64)))])],bnd tb (.slot 35) 1⟩)] [] [] []
def a7X (n:Nat):Row I:=⟨11,[.d (.dat 33)],[.k (.d (.int .i64))],a04 n⟩
theorem a1h (n:Nat):RK (a7X n) :=
 okR [eR b0m,eR b0c,eR b4A,eR (a7W n)] 54 (b0w n) [.tmp 2] Go.Proofs.Tryz.func11 (by kernel_rfl)
def b8L:Hints I:=mkH [(1,[[],[0],[0,1],[],[3],[0,1,2,3,4],[0,1,2,3,4,5],[]])] [] [] [] [(26,⟨268419152,[12],[],[(14,.k (.d (.int .i64)))],[((.exit 0),[]),(.ret,[(4,.k (.d (.bool)))])],bnd tb (.slot 13) 1⟩)] [] [] []
def b6C:Row I:=⟨12,[.d (.dat 33),.d (.dat 42)],[.k (.d (.bool))],a80⟩
theorem b0b:RK (b6C) :=
 okR [eR b8N] 28 b8L [.tmp 4] Go.Proofs.Tryz.func12 (by kernel_rfl)
def a65:Hints I:=mkH [(6,[[],[],[0,1],[0,1,2],[],[],[5],[4,5,6],[4,5,6,7],[0,1,2,3,4,5,6,7,8]]),(11,[[],[],[0,1],[0,1,2],[],[],[5],[4,5,6],[4,5,6,7],[0,1,2,3,4,5,6,7,8]])] [] [] [] [(58,⟨1152921504606846012,[],[],[(0,.k (.row 3 false)),(3,.k (.d (.int .i64)))],[((.exit 0),[(0,.k (.row 3 false))]),(.ret,[(2,.k (.row 3 false))])],bnd tb (.len (.slot 0)) 1⟩)] [(59690,⟨18014397972611112,0,.row 3,[(3,.k (.d (.int .i64))),(5,.k (.d (.int .i64)))],[((.exit 2),[(3,.k (.d (.int .i64)))])],bnd tb (.len (.slot 4)) 1,0⟩)] [] []
def a5Q:Row I:=⟨96,[.row 3 false],[.k (.row 3 false)],a3e⟩
theorem a6z:RK (a5Q) :=
 okR [] 61 a65 [.tmp 2] Go.Proofs.Tryz.func96 (by kernel_rfl)
def a7O:Row I:=⟨95,[.d (.sl 3)],[.k (.row 3 true)],a4J⟩
theorem a8W:RK (a7O) :=
 okR [] 9 Z5 [.tmp 2] Go.Proofs.Tryz.func95 (by kernel_rfl)
def b51:Row I:=⟨56,[.d (.sl 3)],[.k (.row 3 true)],a3k⟩
theorem b0E:RK (b51) :=
 okR [eR b8N,eO c5u,eR a6z,eR a8W] 11 Z5 [.tmp 2] Go.Proofs.Tryz.func56 (by kernel_rfl)
def b8o:Hints I:=mkH [(1,[[],[0],[0,1],[],[3],[0,1,2,3,4],[],[6],[0,1,2,3,4,5,6,7],[0,1,2,3,4,5,6,7,8]])] [] [] [] [] [] [] []
def b6q:Row I:=⟨28,[.d (.dat 42)],[.k (.d (.dat 42))],a5i⟩
theorem a49:RK (b6q) :=
 okR [eR b0E] 12 b8o [.cell 2 42] Go.Proofs.Tryz.func28 (by kernel_rfl)
def c1t:Row I:=⟨14,[.d (.dat 42)],[.k (.d (.str))],a3E⟩
def a6w (c:UInt8)(xs:List Int)(q:Nat×List UInt8):Option (Fl (Nat×List UInt8) (List UInt8)):=match xs[q.1]? with
 | some n=>(a6D c q.2 n).map fun b=>.next (q.1+1,b)
 | none=>some (.done q.2)
theorem b1p {c:UInt8}{xs:List Int}:∀ (m i:Nat) {b r:List UInt8},xs.length-i=m->i<=xs.length->a6W c (xs.drop i) b=some r->y2 (a6w c xs) (m+1) (i,b)=some r
 | 0,i,b,r,hm,hi,h=>by
   have e:i=xs.length:=by omega
   subst e
   rw [List.drop_length] at h
   cases h
   simp [y2,a6w]
 | m+1,i,b,r,hm,hi,h=>by
   have hlt:i<xs.length:=by omega
   rw [List.drop_eq_getElem_cons hlt] at h
   obtain ⟨b',h1,h2⟩:=bind_some h
   have:=b1p m (i+1) (by omega) (by omega) h2
   simp only [y2,a6w,List.getElem?_eq_getElem hlt,h1,Option.map_some]
   exact this
theorem c3y {P:Program}{w:World}{T:TypeId}{x y:Operand}{s t:ByteArray}(h:s.size+t.size<=1000000) :
 j7 P w (do eqGuard .add T x y (.string s) (.string t); binOp .add T (.string s) (.string t)) (.string (s++t)):=by
 simp [j7,eqGuard_at_string,binOp,Op.stringOp]
 omega
theorem c55:W6 Go.Proofs.Tryz.prog 29:=⟨_,_,Go.Proofs.Tryz.func29,rfl,by kernel_rfl⟩
theorem c4J:W6 Go.Proofs.Tryz.prog 30:=⟨_,_,Go.Proofs.Tryz.func30,rfl,by kernel_rfl⟩
theorem c43:W6 Go.Proofs.Tryz.prog 31:=⟨_,_,Go.Proofs.Tryz.func31,rfl,by kernel_rfl⟩
theorem c50:W6 Go.Proofs.Tryz.prog 32:=⟨_,_,Go.Proofs.Tryz.func32,rfl,by kernel_rfl⟩
theorem c0u {n:Nat}(h:n<100)(w:World):Calls Go.Proofs.Tryz.prog 31 [Value.int .i64 (n:Int)].toArray w fun e w'=>e=.returned (.string ⟨(a0G n).toArray⟩)/\w'=w:=by
 have:=Go.Proofs.Any.strconv_Itoa_small Go.Proofs.Tryz.lay31 n h w
 rw [<- c1R h] at this
 exact this
def b4g (σ:S):Nat->Nat×Nat:=fun b=>if b<σ.N then σ.L b else (0,0)
theorem b3I {σ:S}{w:World}(h:Bw σ.N σ.w w):Wext σ ⟨w,b4g σ⟩ :=
 ⟨h.below.size,fun b hb=>by simp [b4g,hb],fun b o v ho hc=>(V3 (h.below.block b (a07 hc)) o).trans hc,h.drawn,fun b o hb hf=>(a0a (h.below.block b hb) o).trans hf⟩
theorem b78 (l m:List UInt8):Lib.byteCells (l++m)=Lib.byteCells l++Lib.byteCells m:=by simp [Lib.byteCells]
theorem b40 (l:List UInt8):Lib.strCells ⟨l.toArray⟩=Lib.byteCells l:=by simp [Lib.strCells,Lib.byteCells]
theorem b1x (n:Nat):(a0G n).length<=2:=by
 unfold a0G
 cases Nat.blt n 10<;>simp
theorem c29 {P:Program}{w:World}{T:TypeId}{x y:Operand}{c:UInt8}{l:List UInt8}(h:l.length<=2) :
 j7 P w (do eqGuard .add T x y (.string ⟨#[c]⟩) (.string ⟨l.toArray⟩); binOp .add T (.string ⟨#[c]⟩) (.string ⟨l.toArray⟩)) (.string ⟨(c::l).toArray⟩):=by
 have:=c3y (P:=P) (w:=w) (T:=T) (x:=x) (y:=y) (s:=⟨#[c]⟩) (t:=⟨l.toArray⟩) (by simp [ByteArray.size]; omega)
 have e:(⟨#[c]⟩++⟨l.toArray⟩:ByteArray)=⟨(c::l).toArray⟩:=by
  apply ByteArray.ext
  simp
 rw [e] at this
 exact this
theorem c0f {c:UInt8}{b r:List UInt8}{n:Int}(h:a6D c b n=some r):r.length<=1000003/\b.length<=r.length:=by
 unfold a6D at h
 obtain ⟨hc,h⟩:=z7 h
 cases h
 simp only [Bool.and_eq_true] at hc
 have:=Nat.le_of_ble_eq_true hc.2
 have:=b1x n.toNat
 simp
 omega
theorem a7d {c:UInt8}:∀ {xs:List Int} {b r:List UInt8},a6W c xs b=some r->b.length<=1000003->r.length<=1000003
 | [],b,r,h,hb=>by cases h; exact hb
 | n::xs,b,r,h,hb=>by
   obtain ⟨b',h1,h2⟩:=bind_some h
   exact a7d h2 (c0f h1).1
theorem b95 (w:World)(a:Addr)(n:Nat):(w.freeze a n).drawn=w.drawn:=by unfold World.freeze; split<;>rfl
theorem c5Z {b B:Nat}{l:List UInt8}{w:World}(h:Lib.IsBuilder 81 5 B b (Lib.byteCells l) w)(hn:l=[]->w.heap[b]?=some (.cells #[.pointer none,.slice none 0 0] 81 (0,0)))(hl:l.length<=1000003) :
 Calls Go.Proofs.Tryz.prog 32 [Y0 b].toArray w fun e w'=>e=.returned (.string ⟨l.toArray⟩)/\Bw B w w':=by
 have hdrew:Bw B w w.drew:=⟨(Below.refl B w).drew,Nat.le_succ _⟩
 by_cases h0:l=[]
 ·subst h0
  exact (Go.Proofs.Tryz.bstr0 (hn rfl)).mono fun e w' ⟨h1,h2⟩=>⟨h1,by subst h2; exact hdrew⟩
 ·obtain ⟨p,_,hB,v,hb,hown,hne⟩:=c08 h
  rw [Lib.byteCells_length] at hown
  rcases hown.2 with ⟨_,hz⟩ | ⟨g,cap,cur,rfl,hbg,hg,hnc,hcm,hcs,htake⟩
  ·exact absurd (List.length_eq_zero_iff.1 hz) h0
  ·refine (Go.Proofs.Tryz.bstr1 (l:=l) hb hg h0 hnc (by simpa using hcs) (by omega) fun j x hx=>?_).mono fun e w' ⟨h1,h2⟩=>⟨h1,?_⟩
   ·have h3:(Lib.byteCells l)[j]?=some (.int .u8 x.toNat):=by simp [Lib.byteCells,hx]
    rw [<- htake,List.getElem?_take] at h3
    split at h3
    ·rw [<- Array.getElem?_toList]; exact h3
    ·cases h3
   ·subst h2
    exact hdrew.trans ⟨Lib.below_freeze (Below.refl B w.drew) (p:=⟨g,0,none⟩) hbg _,Nat.le_of_eq (b95 _ _ _).symm⟩
theorem b9C {i:Nat}(h:i<9223372036854775807):wr .i64 ((i:Int)+1)=((i+1:Nat):Int):=by
 show IntKind.i64.wrap ((i:Int)+1)=_
 rw [IntKind.wrap_i64]
 omega
theorem c4d:j6 Go.Proofs.Tryz.prog c1t:=by
 refine b82 a2e 38 Go.Proofs.Tryz.func14 rfl (by kernel_rfl) rfl rfl rfl fun X c σ F Q a res hX hrel happ hk=>?_
 have happ:a3E a.1=some res:=happ
 obtain ⟨g,hg,happ⟩:=bind_some happ
 obtain ⟨b1,hb1,happ⟩:=bind_some happ
 obtain ⟨b2,hb2,happ⟩:=bind_some happ
 have h0:=hrel.frame 0 (.dat 42 a.1) rfl
 simp only [RV] at h0
 obtain ⟨cs,hF0,hcs⟩:=h0
 refine wp_seq (wp_region_lit ?_)
 refine c3g (B:=σ.N) 0 (Nat.le_refl _) (.agg cs.toArray) cs hF0 rfl rfl fun τ1 bx hx1 hblk=>?_
 refine a0n (.string ⟨#[]⟩) rfl rfl ?_
 refine wpList_nil (Q3 (wp_seq (wp_region_lit ?_)))
 have hcs1:Rp.cells τ1 a.1 cs:=Rp.mono hx1.wext hcs
 have hl3:cs.length=3:=Rp.len (self:=rI 42) hcs
 have t42:b34 Go.Proofs.Tryz.prog 42 3:=⟨_,Go.Proofs.Tryz.underlying42,rfl,by kernel_rfl⟩
 refine a0H bx 0 (.agg cs.toArray) rfl rfl (b7W (hl3▸t42) (fun j v hv=>by rw [Nat.zero_add,hblk.cell]; exact hv)) ?_
 have hcall:=a49 τ1 (a.1,()) [.agg cs.toArray] [] g ⟨_,_,[],[],rfl,rfl,⟨⟨cs,rfl,hcs1⟩,rfl⟩,rfl,rfl⟩ List.nodup_nil hg
 refine a3D (o := ⟨some 9, .call ⟨.value (.func 28), #[.tmp 8], #[42]⟩, 42, "core.go:142", #[⟨0, .data⟩], none⟩) rfl hcall (b48 (xs := [.tmp 8]) rfl τ1.w) fun v9 τ2 st2 hpost => ?_
 obtain ⟨ws,us,pls',hpost⟩:=hpost
 obtain ⟨v,hws,⟨cs',hv,hcs2⟩,-⟩:=hpost.tt
 have hlen:=hpost.len
 have hret:=hpost.ret
 obtain ⟨rfl,rfl⟩:ws=[v]/\us=[]:=by
  rcases ws with _ | ⟨u,ws⟩
  ·cases hlen
  ·rcases ws with _ | ⟨u',ws⟩
   ·simp at hws; exact ⟨by rw [hws.1],hws.2⟩
   ·cases hlen
 have hret:v9=v:=hret
 subst hret
 subst hv
 have hl3':cs'.length=3:=Rp.len (self:=rI 42) hcs2
 have hne1:¬ bx∈ows ([]:List Pl):=fun h=>by cases h
 obtain ⟨k1,k2⟩:=st2.block bx hblk.lt hne1
 have hbl:(τ1.L bx)=(0,0):=hblk.2.2
 have hblk2:Blk σ.N 0 ⟨τ2.w,fun k=>if k=bx then (0,0) else τ2.L k⟩ bx 42 cs:=⟨hblk.1,k1.trans hblk.2.1,by simp⟩
 have hw2:Wext τ2 ⟨τ2.w,fun k=>if k=bx then (0,0) else τ2.L k⟩:=⟨Nat.le_refl _,fun k _=>by
  by_cases e:k=bx
  ·subst e; rw [k2,hbl]; exact Nat.zero_le _
  ·simp [e],fun _ _ _ _ h=>h,Nat.le_refl _,fun _ _ _ h=>h⟩
 have hall:cs'.all (·.oneCell')=true:=List.all_eq_true.2 fun u hu=>Rp.one (self:=rI 42) hcs2 u hu
 refine b37 (σ:=⟨τ2.w,fun k=>if k=bx then (0,0) else τ2.L k⟩) hblk2 0 (.agg cs'.toArray) cs' cs' rfl rfl rfl rfl rfl (by rw [hl3']; kernel_rfl) hall (by rw [hl3',hl3]; rfl) (by rw [List.take_zero,Nat.zero_add,hl3',<- hl3,List.drop_length]; simp) fun τ3 hm3 hblk3=>?_
 have hcs3:=Rp.mono (self:=rI 42) (hw2.trans hm3.wext) hcs2
 refine wpList_nil (Q3 (wp_seq (wp_region_lit ?_)))
 refine c0J (B:=τ3.N) 0 (Nat.le_refl _) (.agg #[.pointer none,.slice none 0 0]) [.pointer none,.slice none 0 0] (v7 (T:=81) (size:=2) (bytes:=32) (by kernel_rfl)) rfl fun τ4 b hx4 hb4=>?_
 have h4:Bw τ3.N τ3.w τ4.w:=⟨hx4.below,hx4.drawn⟩
 have hbuild:Lib.IsBuilder 81 5 τ3.N b [] τ4.w:=.inl ⟨hb4.1,.slice none 0 0,hb4.2.1,World.ownsRow_nil _ _ _ _,by simp [Value.ownBlock]⟩
 obtain ⟨cc1,cr1,e1,⟨A1,k1c,ec1,hs1⟩,cc2,cr2,e2,⟨A2,k2c,ec2,hs2⟩,hc3⟩:=hcs3
 have hcs':cs'=[.slice A1 g.Pos.length k1c,.slice A2 g.Neg.length k2c,.bool g.Lists]:=by
  have hc3:cr2=[.bool g.Lists]:=hc3
  rw [e1,e2,ec1,ec2,hc3]; rfl
 have hbxw:∀ w,Bw τ3.N τ3.w w->∀ i,w.cell? ⟨bx,i,none⟩=cs'[i]?:=fun w h i=>by rw [V3 (h.below.block bx hblk3.lt)]; exact hblk3.cell i
 have t22:V1 Go.Proofs.Tryz.prog 40:=⟨_,Go.Proofs.Tryz.underlying40,rfl,by kernel_rfl⟩
 have t3:V1 Go.Proofs.Tryz.prog 3:=⟨_,Go.Proofs.Tryz.underlying3,rfl,by kernel_rfl⟩
 have t4:V1 Go.Proofs.Tryz.prog 4:=⟨_,Go.Proofs.Tryz.underlying4,rfl,by kernel_rfl⟩
 refine wpList_nil (Q3 (b5K (fun a w=>∃ F',a=fr 38 F'/\F' 1=.pointer (some ⟨bx,0,none⟩)/\F' 3=Y0 b/\Bw τ3.N τ3.w w/\Lib.IsBuilder 81 5 τ3.N b (Lib.byteCells (bif g.Lists then [108] else []:List UInt8)) w/\((bif g.Lists then [108] else []:List UInt8)=[]->w.heap[b]?=some (.cells #[.pointer none,.slice none 0 0] 81 (0,0)))) ?_ ?_))
 ·refine wp_seq (wp_region_lit ?_)
  refine K4 bx 0 2 2 rfl rfl (⟨_,_,Go.Proofs.Tryz.underlying42,rfl,rfl,by kernel_rfl⟩) rfl ?_
  refine a0H bx 2 (.bool g.Lists) rfl rfl (a0v t4 ((hbxw τ4.w h4 2).trans (by rw [hcs']; rfl))) ?_
  refine wpList_nil (Q3 ?_)
  rcases hL:g.Lists with _ | _
  ·refine a6J (c:=false) (by rw [<- hL]; rfl) rfl rfl (wp_skip ?_)
   exact ⟨rfl,_,rfl,rfl,rfl,h4,hbuild,fun _=>hb4.2.1⟩
  ·refine b2V (c:=true) (by rw [<- hL]; rfl) rfl rfl (wp_region_lit ?_)
   refine a3G [Y0 b,.int .u8 108] rfl rfl c55 (bwb hbuild (by decide) h4.below.size) ?_
   rintro e w5 ⟨⟨v,rfl⟩,hat,hbw5⟩
   exact ⟨_,rfl,wpList_nil ⟨rfl,_,rfl,rfl,rfl,h4.trans hbw5,.inr hat,fun h=>by simp at h⟩⟩
 rintro a0 w0 h0
 refine b5K (fun a w=>∃ F',a=fr 38 F'/\F' 1=.pointer (some ⟨bx,0,none⟩)/\F' 3=Y0 b/\Bw τ3.N τ3.w w/\Lib.IsBuilder 81 5 τ3.N b (Lib.byteCells b1) w/\(b1=[]->w.heap[b]?=some (.cells #[.pointer none,.slice none 0 0] 81 (0,0)))) ?_ ?_
 ·revert a0 w0 h0
  rintro a1 w1 ⟨F1,rfl,f1,f3,hbw1,hbd1,hn1⟩
  refine wp_seq (wp_region_lit ?_)
  refine K4 bx 0 0 0 f1 rfl (⟨_,_,Go.Proofs.Tryz.underlying42,rfl,rfl,by kernel_rfl⟩) rfl ?_
  refine a0H bx 0 (.slice A1 g.Pos.length k1c) rfl rfl (a0v t22 ((hbxw w1 hbw1 0).trans (by rw [hcs']; rfl))) ?_
  refine a6o A1 g.Pos.length k1c rfl rfl Go.Proofs.Tryz.underlying40 ?_
  refine W2 (.int .i64 0) rfl rfl ?_
  refine wpList_nil (Q3 (wp_block ?_))
  refine wp_mono (a9N (step:=a6w 43 g.Pos) (fun q a w=>∃ F',a=fr 38 F'/\F' 1=.pointer (some ⟨bx,0,none⟩)/\F' 3=Y0 b/\F' 14=.slice A1 g.Pos.length k1c/\F' 15=.int .i64 (g.Pos.length:Int)/\F' 16=.int .i64 (q.1:Int)/\Bw τ3.N τ3.w w/\Lib.IsBuilder 81 5 τ3.N b (Lib.byteCells q.2) w/\(q.2=[]->w.heap[b]?=some (.cells #[.pointer none,.slice none 0 0] 81 (0,0)))/\q.1<=g.Pos.length) (fun r e a w=>e=.exit 0/\∃ F',a=fr 38 F'/\F' 1=.pointer (some ⟨bx,0,none⟩)/\F' 3=Y0 b/\Bw τ3.N τ3.w w/\Lib.IsBuilder 81 5 τ3.N b (Lib.byteCells r) w/\(r=[]->w.heap[b]?=some (.cells #[.pointer none,.slice none 0 0] 81 (0,0)))) (by rintro _ _ _ ⟨h,_⟩; cases h) ?_ _ (0,(bif g.Lists then [108] else [])) b1 _ _ (b1p (g.Pos.length-0) 0 rfl (Nat.zero_le _) hb1) ⟨_,rfl,f1,f3,rfl,rfl,rfl,hbw1,hbd1,fun h=>hn1 h,Nat.zero_le _⟩) ?_
  ·rintro ⟨i,bs⟩ fl a2 w2 hst ⟨F2,rfl,g1,g3,g14,g15,g16,hbw2,hbd2,hn2,hi⟩
   refine wp_seq (wp_region_lit ?_)
   refine a4f (.int .i64 (i:Int)) (.int .i64 (g.Pos.length:Int)) (.bool (decide ((i:Int)<(g.Pos.length:Int)))) g16 g15 rfl rfl c1n ?_
   refine wpList_nil (Q3 (wp_seq ?_))
   rcases hx:(g.Pos)[i]? with _ | n
   ·simp only [a6w,hx] at hst
    cases hst
    have hge:(g.Pos).length<=i:=List.getElem?_eq_none_iff.1 hx
    refine a6J rfl (decide_eq_false (by omega)) rfl (wp_exit ?_)
    exact c0v ⟨rfl,_,rfl,g1,g3,hbw2,hbd2,hn2⟩
   ·simp only [a6w,hx,Option.map_eq_some_iff] at hst
    obtain ⟨bs',hit,rfl⟩:=hst
    have hlt:i<(g.Pos).length:=(List.getElem?_eq_some_iff.1 hx).1
    unfold a6D at hit
    obtain ⟨hcond,hit⟩:=z7 hit
    cases hit
    simp only [Bool.and_eq_true,decide_eq_true_eq] at hcond
    obtain ⟨⟨n0,n1⟩,nl⟩:=hcond
    have nl:bs.length<=1000000:=Nat.le_of_ble_eq_true nl
    refine b2V rfl (decide_eq_true (by omega)) rfl (wp_skip (Q3 (wp_seq (wp_block (wp_seq (wp_region_lit ?_))))))
    refine a8Q (σ:=⟨w2,b4g τ3⟩) (hs1.mono (b3I hbw2)) (show idx g.Pos (i:Int)=some n by simp [idx,hx]) g14 g16 rfl rfl Go.Proofs.Tryz.underlying40 (by kernel_rfl) fun bb o ccs hc hse=>?_
    have hc:ccs=[.int .i64 n]:=hc
    subst hc
    refine a0H bb o (.int .i64 n) rfl rfl (a0v t3 (hse.2 0 _ rfl)) ?_
    refine a0n (.int .i64 n) rfl rfl ?_
    refine wpList_nil (Q3 (wp_region_lit ?_))
    refine W2 (.int .i64 n) rfl rfl ?_
    have hn:((n.toNat:Nat):Int)=n:=by omega
    refine a3G [.int .i64 n] rfl rfl c43 (by have:=c0u (n:=n.toNat) (by omega) w2; rw [hn] at this; exact this) ?_
    rintro e w3 ⟨rfl,rfl⟩
    refine ⟨_,rfl,?_⟩
    have hdl:(a0G n.toNat).length<=2:=b1x _
    refine a4f (.string ⟨#[43]⟩) (.string ⟨(a0G n.toNat).toArray⟩) (.string ⟨(43::a0G n.toNat).toArray⟩) rfl rfl rfl rfl (c29 hdl) ?_
    have hsz:(⟨(43::a0G n.toNat).toArray⟩:ByteArray).size<=3:=by simp [ByteArray.size]; omega
    refine a3G [Y0 b,.string ⟨(43::a0G n.toNat).toArray⟩] (by rw [List.map_cons,List.map_cons,List.map_nil]; exact congrArg (·::_) g3) rfl c4J (bws hbd2 (by show (Lib.byteCells bs).length+_<=_; rw [Lib.byteCells_length]; omega) hbw2.below.size) ?_
    rintro e w4 ⟨⟨v,rfl⟩,hat,hbw4⟩
    refine ⟨_,rfl,?_⟩
    refine wpList_nil (c4L (Q3 (wp_region_lit ?_)))
    refine a4f (.int .i64 (i:Int)) (.int .i64 1) (.int .i64 (wr .i64 ((i:Int)+1))) g16 rfl rfl rfl c0T ?_
    refine W2 (.int .i64 (wr .i64 ((i:Int)+1))) rfl rfl ?_
    have hwr:wr .i64 ((i:Int)+1)=((i+1:Nat):Int):=b9C (by have l1:(g.Pos).length<=k1c:=hs1.1; have l2:k1c<=maxLen:=hs1.2.1; unfold maxLen at l2; omega)
    refine wpList_nil ⟨rfl,_,rfl,g1,g3,g14,g15,congrArg _ hwr,hbw2.trans hbw4,.inr ?_,fun h=>by simp at h,hlt⟩
    rw [b40,<- b78] at hat
    exact hat
  ·rintro r e a2 ⟨rfl,F2,rfl,g1,g3,hbw2,hbd2,hn2⟩
   exact c4a ⟨rfl,F2,rfl,g1,g3,hbw2,hbd2,hn2⟩
 rintro a5 w5 h5
 refine b5K (fun a w=>∃ F',a=fr 38 F'/\F' 1=.pointer (some ⟨bx,0,none⟩)/\F' 3=Y0 b/\Bw τ3.N τ3.w w/\Lib.IsBuilder 81 5 τ3.N b (Lib.byteCells b2) w/\(b2=[]->w.heap[b]?=some (.cells #[.pointer none,.slice none 0 0] 81 (0,0)))) ?_ ?_
 ·revert a5 w5 h5
  rintro a1 w1 ⟨F1,rfl,f1,f3,hbw1,hbd1,hn1⟩
  refine wp_seq (wp_region_lit ?_)
  refine K4 bx 0 1 1 f1 rfl (⟨_,_,Go.Proofs.Tryz.underlying42,rfl,rfl,by kernel_rfl⟩) rfl ?_
  refine a0H bx 1 (.slice A2 g.Neg.length k2c) rfl rfl (a0v t22 ((hbxw w1 hbw1 1).trans (by rw [hcs']; rfl))) ?_
  refine a6o A2 g.Neg.length k2c rfl rfl Go.Proofs.Tryz.underlying40 ?_
  refine W2 (.int .i64 0) rfl rfl ?_
  refine wpList_nil (Q3 (wp_block ?_))
  refine wp_mono (a9N (step:=a6w 45 g.Neg) (fun q a w=>∃ F',a=fr 38 F'/\F' 1=.pointer (some ⟨bx,0,none⟩)/\F' 3=Y0 b/\F' 26=.slice A2 g.Neg.length k2c/\F' 27=.int .i64 (g.Neg.length:Int)/\F' 28=.int .i64 (q.1:Int)/\Bw τ3.N τ3.w w/\Lib.IsBuilder 81 5 τ3.N b (Lib.byteCells q.2) w/\(q.2=[]->w.heap[b]?=some (.cells #[.pointer none,.slice none 0 0] 81 (0,0)))/\q.1<=g.Neg.length) (fun r e a w=>e=.exit 2/\∃ F',a=fr 38 F'/\F' 1=.pointer (some ⟨bx,0,none⟩)/\F' 3=Y0 b/\Bw τ3.N τ3.w w/\Lib.IsBuilder 81 5 τ3.N b (Lib.byteCells r) w/\(r=[]->w.heap[b]?=some (.cells #[.pointer none,.slice none 0 0] 81 (0,0)))) (by rintro _ _ _ ⟨h,_⟩; cases h) ?_ _ (0,b1) b2 _ _ (b1p (g.Neg.length-0) 0 rfl (Nat.zero_le _) hb2) ⟨_,rfl,f1,f3,rfl,rfl,rfl,hbw1,hbd1,fun h=>hn1 h,Nat.zero_le _⟩) ?_
  ·rintro ⟨i,bs⟩ fl a2 w2 hst ⟨F2,rfl,g1,g3,g14,g15,g16,hbw2,hbd2,hn2,hi⟩
   refine wp_seq (wp_region_lit ?_)
   refine a4f (.int .i64 (i:Int)) (.int .i64 (g.Neg.length:Int)) (.bool (decide ((i:Int)<(g.Neg.length:Int)))) g16 g15 rfl rfl c1n ?_
   refine wpList_nil (Q3 (wp_seq ?_))
   rcases hx:(g.Neg)[i]? with _ | n
   ·simp only [a6w,hx] at hst
    cases hst
    have hge:(g.Neg).length<=i:=List.getElem?_eq_none_iff.1 hx
    refine a6J rfl (decide_eq_false (by omega)) rfl (wp_exit ?_)
    exact c0v ⟨rfl,_,rfl,g1,g3,hbw2,hbd2,hn2⟩
   ·simp only [a6w,hx,Option.map_eq_some_iff] at hst
    obtain ⟨bs',hit,rfl⟩:=hst
    have hlt:i<(g.Neg).length:=(List.getElem?_eq_some_iff.1 hx).1
    unfold a6D at hit
    obtain ⟨hcond,hit⟩:=z7 hit
    cases hit
    simp only [Bool.and_eq_true,decide_eq_true_eq] at hcond
    obtain ⟨⟨n0,n1⟩,nl⟩:=hcond
    have nl:bs.length<=1000000:=Nat.le_of_ble_eq_true nl
    refine b2V rfl (decide_eq_true (by omega)) rfl (wp_skip (Q3 (wp_seq (wp_block (wp_seq (wp_region_lit ?_))))))
    refine a8Q (σ:=⟨w2,b4g τ3⟩) (hs2.mono (b3I hbw2)) (show idx g.Neg (i:Int)=some n by simp [idx,hx]) g14 g16 rfl rfl Go.Proofs.Tryz.underlying40 (by kernel_rfl) fun bb o ccs hc hse=>?_
    have hc:ccs=[.int .i64 n]:=hc
    subst hc
    refine a0H bb o (.int .i64 n) rfl rfl (a0v t3 (hse.2 0 _ rfl)) ?_
    refine a0n (.int .i64 n) rfl rfl ?_
    refine wpList_nil (Q3 (wp_region_lit ?_))
    refine W2 (.int .i64 n) rfl rfl ?_
    have hn:((n.toNat:Nat):Int)=n:=by omega
    refine a3G [.int .i64 n] rfl rfl c43 (by have:=c0u (n:=n.toNat) (by omega) w2; rw [hn] at this; exact this) ?_
    rintro e w3 ⟨rfl,rfl⟩
    refine ⟨_,rfl,?_⟩
    have hdl:(a0G n.toNat).length<=2:=b1x _
    refine a4f (.string ⟨#[45]⟩) (.string ⟨(a0G n.toNat).toArray⟩) (.string ⟨(45::a0G n.toNat).toArray⟩) rfl rfl rfl rfl (c29 hdl) ?_
    have hsz:(⟨(45::a0G n.toNat).toArray⟩:ByteArray).size<=3:=by simp [ByteArray.size]; omega
    refine a3G [Y0 b,.string ⟨(45::a0G n.toNat).toArray⟩] (by rw [List.map_cons,List.map_cons,List.map_nil]; exact congrArg (·::_) g3) rfl c4J (bws hbd2 (by show (Lib.byteCells bs).length+_<=_; rw [Lib.byteCells_length]; omega) hbw2.below.size) ?_
    rintro e w4 ⟨⟨v,rfl⟩,hat,hbw4⟩
    refine ⟨_,rfl,?_⟩
    refine wpList_nil (c4L (Q3 (wp_region_lit ?_)))
    refine a4f (.int .i64 (i:Int)) (.int .i64 1) (.int .i64 (wr .i64 ((i:Int)+1))) g16 rfl rfl rfl c0T ?_
    refine W2 (.int .i64 (wr .i64 ((i:Int)+1))) rfl rfl ?_
    have hwr:wr .i64 ((i:Int)+1)=((i+1:Nat):Int):=b9C (by have l1:(g.Neg).length<=k2c:=hs2.1; have l2:k2c<=maxLen:=hs2.2.1; unfold maxLen at l2; omega)
    refine wpList_nil ⟨rfl,_,rfl,g1,g3,g14,g15,congrArg _ hwr,hbw2.trans hbw4,.inr ?_,fun h=>by simp at h,hlt⟩
    rw [b40,<- b78] at hat
    exact hat
  ·rintro r e a2 ⟨rfl,F2,rfl,g1,g3,hbw2,hbd2,hn2⟩
   exact c4a ⟨rfl,F2,rfl,g1,g3,hbw2,hbd2,hn2⟩
 rintro a6 w6 ⟨F6,rfl,f1,f3,hbw6,hbd6,hn6⟩
 refine wp_seq (wp_region_lit ?_)
 refine a3G [Y0 b] (congrArg (·::_) f3) rfl c50 (c5Z hbd6 hn6 (a7d hb2 (a7d hb1 (by cases g.Lists<;>decide)))) ?_
 rintro e w7 ⟨rfl,hbw7⟩
 refine ⟨_,rfl,?_⟩
 refine a0n (.string ⟨b2.toArray⟩) rfl rfl ?_
 refine wpList_nil (Q3 (wp_ret ?_))
 have hb7:Bw τ3.N τ3.w w7:=hbw6.trans hbw7
 have hr:(⟨b2.toArray⟩:ByteArray)=res:=Option.some.inj happ
 have hA:Bw σ.N σ.w τ1.w:=⟨hx1.below,hx1.drawn⟩
 have hB:Bw σ.N τ1.w τ2.w:=⟨⟨st2.os,st2.tape,st2.output,st2.wext.size,fun k hk=>(st2.block k (Nat.lt_of_lt_of_le hk hx1.below.size) (fun h=>by cases h)).1⟩,st2.wext.drawn⟩
 have hC:Bw σ.N τ2.w τ3.w:=⟨⟨hm3.os,hm3.tape,hm3.output,hm3.wext.size,fun k hk=>(hm3.block k (Nat.lt_of_lt_of_le hk (hA.trans hB).below.size) (.inl hk)).1⟩,hm3.wext.drawn⟩
 have hD:Bw σ.N τ3.w w7:=⟨hb7.below.mono ((hA.trans hB).trans hC).below.size,hb7.drawn⟩
 have hE:=((hA.trans hB).trans hC).trans hD
 subst hr
 refine hk .ret ⟨38,fun i=>bif Nat.beq i 2 then some (.str ⟨b2.toArray⟩) else none,fun _=>none,0⟩ c ⟨w7,b4g σ⟩ _ ?_ (Cx.le_refl c) ⟨rfl,(fun i p hp=>?_),(fun l o ho=>by cases ho),(fun _ _ _ _ _ ⟨_,h⟩=>by cases h),(fun _ _ _ ⟨_,h⟩=>by cases h),(fun l _=>hrel.nom l rfl),⟨Nat.le_trans hrel.base.1 hE.below.size,hrel.base.2⟩,noN.nests fun _ _ _ _ _ _ h=>by cases h⟩
  ⟨b3I hE,hE.below.os,hE.below.tape,hE.below.output,fun k hk _=>⟨hE.below.block k hk,by simp [b4g,hk]⟩⟩
 ·rfl
 ·have hp:(bif Nat.beq i 2 then some (PV.str ⟨b2.toArray⟩) else none)=some p:=hp
  obtain ⟨hi,hp⟩:=z7 hp
  cases hp
  have:=Nat.eq_of_beq_eq_true hi
  subst this
  simp only [RV]
  rfl
theorem b57:j6 Go.Proofs.Tryz.prog c1t:=c4d
def b4o:Hints I:=mkH [(1,[[],[0],[0,1],[],[3],[0,1,2,3,4],[],[6],[0,1,2,3,4,5,6,7],[],[9],[0,1,2,3,4,5,6,7,8,9,10],[0,1,2,3,4,5,6,7,8,9,10,11],[0,1,2,3,4,5,6,7,8,9,10,11,12]])] [] [] [] [] [] [] []
def b2c:Row I:=⟨119,[.d (.dat 175)],[.lvs [.row 3 false,.row 3 false,.row 3 false,.row 3 false]],a3V⟩
theorem a5r:RK (b2c) :=
 okR [eR b8N] 16 b4o [.cell 2 175] Go.Proofs.Tryz.func119 (by kernel_rfl)
def b2E:Hints I:=mkH [] [] [] [(29901,⟨4293918720,[],[(10,.lvs [.row 3 false,.row 3 false,.row 3 false,.row 3 false])],[(.normal,[])]⟩)] [(58,⟨137438946944,[],[],[(7,.k (.row 175 false)),(13,.k (.d (.int .i64)))],[((.exit 0),[(7,.k (.row 175 false))])],bnd tb (.slot 12) 1⟩)] [] [] []
def b0B:Row I:=⟨159,[.d (.dat 175),.d (.sl 3),.d (.bool)],[.k (.row 175 false)],a24⟩
theorem b1s:RK (b0B) :=
 okR [eR a5r] 38 b2E [.tmp 6] Go.Proofs.Tryz.func159 (by kernel_rfl)
def b2k:Hints I:=mkH [(14,[[],[0],[],[2],[2,3],[2,3,4],[2,3,4,5],[0,1,2,3,4,5,6],[0,1,2,3,4,5,6,7],[0,1,2,3,4,5,6,7,8]]),(30,[[],[0],[],[2],[2,3],[2,3,4],[2,3,4,5],[0,1,2,3,4,5,6],[0,1,2,3,4,5,6,7],[0,1,2,3,4,5,6,7,8]])] [] [] [(509,⟨170141183455517471574545782616287608848,[],[(2,.lvs [.d (.sl 3),.d (.sl 3),.d (.sl 3),.d (.sl 3)])],[(.normal,[]),(.ret,[(4,.k (.row 175 false))])]⟩),
 (1757,⟨590295810341525782544,[],[(2,.lvs [.d (.sl 3),.d (.sl 3),.d (.sl 3),.d (.sl 3)])],[(.normal,[]),(.ret,[(4,.k (.row 175 false))])]⟩)] [] [] [] []
def b0o:Row I:=⟨120,[.val (.lvs [.row 3 false,.row 3 false,.row 3 false,.row 3 false]),.d (.dat 33)],[.k (.row 175 false)],a6f⟩
theorem b1c:RK (b0o) :=
 okR [eR b1s] 129 b2k [.tmp 4] Go.Proofs.Tryz.func120 (by kernel_rfl)
def b4O (n:Nat):Hints I:=mkH [(1,[[],[0],[0,1],[],[3],[0,1,2,3,4],[0,1,2,3,4,5],[0,1,2,3,4,5,6],[0,1,2,3,4,5,6,7]])] [] [] [] [(124,⟨295147905179351779232,[],[],[(5,.k (.row 175 false)),(6,.k (.map 177 (.bool))),(7,.k (.row 42 false))],[((.exit 0),[(6,.k (.map 177 (.bool))),(7,.k (.row 42 false))])],fun _=>some n⟩)] [] [] []
def b2l (n:Nat):Row I:=⟨83,[.d (.dat 33),.d (.dat 42)],[.k (.row 42 false)],a8a n⟩
theorem b3S (n:Nat):RK (b2l n) :=
 okR [eR b0E,eR a5r,eR b1c,eR a49,eR b57] 69 (b4O n) [.tmp 4] Go.Proofs.Tryz.func83 (by kernel_rfl)
def a4k:Hints I:=mkH [(6,[[],[],[0,1],[0,1,2],[],[],[5],[4,5,6],[4,5,6,7],[0,1,2,3,4,5,6,7,8]]),(11,[[],[],[0,1],[0,1,2],[],[],[5],[4,5,6],[4,5,6,7],[0,1,2,3,4,5,6,7,8]])] [] [] [] [(58,⟨1152921504606846012,[],[],[(0,.k (.row 9 false)),(3,.k (.d (.int .i64)))],[((.exit 0),[(0,.k (.row 9 false))]),(.ret,[(2,.k (.row 9 false))])],bnd tb (.len (.slot 0)) 1⟩)] [(59690,⟨18014397972611112,0,.row 9,[(3,.k (.d (.int .i64))),(5,.k (.d (.int .i64)))],[((.exit 2),[(3,.k (.d (.int .i64)))])],bnd tb (.len (.slot 4)) 1,0⟩)] [] []
def a3t:Row I:=⟨108,[.row 9 false],[.k (.row 9 false)],V9⟩
theorem X7:RK (a3t) :=
 okR [] 61 a4k [.tmp 2] Go.Proofs.Tryz.func108 (by kernel_rfl)
def a4x:Row I:=⟨107,[.d (.sl 9)],[.k (.row 9 true)],X5⟩
theorem a0l:RK (a4x) :=
 okR [] 9 Z5 [.tmp 2] Go.Proofs.Tryz.func107 (by kernel_rfl)
def b9H:Hints I:=mkH [] [] [] [] [(58,⟨2147482784,[],[],[(5,.k (.row 9 false)),(10,.k (.d (.int .i64)))],[((.exit 0),[(5,.k (.row 9 false))])],bnd tb (.slot 9) 1⟩)] [] [] []
def b7L:Row I:=⟨84,[.d (.dat 33),.d (.sl 3)],[.k (.row 9 true)],b1E⟩
theorem b8G:RK (b7L) :=
 okR [eO b9p,eR X7,eR a0l] 36 b9H [.tmp 4] Go.Proofs.Tryz.func84 (by kernel_rfl)
def a57:Hints I:=mkH [] [] [] [] [(26,⟨524080,[],[],[(8,.k (.d (.int .i64)))],[((.exit 0),[]),(.ret,[(4,.k (.d (.int .i64)))])],bnd tb (.slot 7) 1⟩)] [] [] []
def a4W:Row I:=⟨160,[.d (.sl 3),.fn [.int .i64] [.k (.d (.bool))]],[.k (.d (.int .i64))],a2E⟩
theorem a5o:RK (a4W) :=
 okR [] 19 a57 [.tmp 4] Go.Proofs.Tryz.func160 (by kernel_rfl)
def a3M:Row I:=⟨121,[.d (.sl 3),.fn [.int .i64] [.k (.d (.bool))]],[.k (.d (.bool))],W4⟩
theorem X9:RK (a3M) :=
 okR [eR a5o] 9 Z5 [.tmp 4] Go.Proofs.Tryz.func121 (by kernel_rfl)
def a8P:Hints I:=mkH [] [] [] [] [(26,⟨524080,[],[],[(8,.k (.d (.int .i64)))],[((.exit 0),[]),(.ret,[(4,.k (.d (.int .i64)))])],bnd tb (.slot 7) 1⟩)] [] [] []
def a7l:Row I:=⟨161,[.d (.sl 3),.d (.int .i64)],[.k (.d (.int .i64))],a4j⟩
theorem a7T:RK (a7l) :=
 okR [] 19 a8P [.tmp 4] Go.Proofs.Tryz.func161 (by kernel_rfl)
def a5n:Row I:=⟨123,[.d (.sl 3),.d (.int .i64)],[.k (.d (.bool))],a2V⟩
theorem a5T:RK (a5n) :=
 okR [eR a7T] 9 Z5 [.tmp 4] Go.Proofs.Tryz.func123 (by kernel_rfl)
def b2F:Row I:=⟨122,[.d (.int .i64),.var 40 (.k (.d (.sl 3))) false],[.k (.d (.bool))],a8l⟩
theorem b2R:RK (b2F) :=
 okR [eR a5T] 7 Z5 [.tmp 3] Go.Proofs.Tryz.func122 (by kernel_rfl)
def b4F:Row I:=⟨85,[.d (.sl 3),.d (.sl 3)],[.k (.d (.bool))],a5Z⟩
theorem a7v:RK (b4F) :=
 okR [eR X9,eR b2R] 8 Z5 [.tmp 4] Go.Proofs.Tryz.func85 (by kernel_rfl)
def a3o:Hints I:=mkH [] [] [] [] [(26,⟨524080,[],[],[(8,.k (.d (.int .i64)))],[((.exit 0),[]),(.ret,[(4,.k (.d (.int .i64)))])],bnd tb (.slot 7) 1⟩)] [] [] []
def a23:Row I:=⟨162,[.d (.sl 9),.fn [.str] [.k (.d (.bool))]],[.k (.d (.int .i64))],a1e⟩
theorem a3j:RK (a23) :=
 okR [] 19 a3o [.tmp 4] Go.Proofs.Tryz.func162 (by kernel_rfl)
def a2n:Row I:=⟨124,[.d (.sl 9),.fn [.str] [.k (.d (.bool))]],[.k (.d (.bool))],a0P⟩
theorem a2F:RK (a2n) :=
 okR [eR a3j] 9 Z5 [.tmp 4] Go.Proofs.Tryz.func124 (by kernel_rfl)
def a41:Hints I:=mkH [] [] [] [] [(26,⟨524080,[],[],[(8,.k (.d (.int .i64)))],[((.exit 0),[]),(.ret,[(4,.k (.d (.int .i64)))])],bnd tb (.slot 7) 1⟩)] [] [] []
def a4e:Row I:=⟨163,[.d (.sl 9),.d (.str)],[.k (.d (.int .i64))],a10⟩
theorem a4y:RK (a4e) :=
 okR [] 19 a41 [.tmp 4] Go.Proofs.Tryz.func163 (by kernel_rfl)
def a3a:Row I:=⟨126,[.d (.sl 9),.d (.str)],[.k (.d (.bool))],a1o⟩
theorem a3p:RK (a3a) :=
 okR [eR a4y] 9 Z5 [.tmp 4] Go.Proofs.Tryz.func126 (by kernel_rfl)
def a9n:Row I:=⟨125,[.d (.str),.var 25 (.k (.d (.sl 9))) false],[.k (.d (.bool))],a5z⟩
theorem b0g:RK (a9n) :=
 okR [eR a3p] 7 Z5 [.tmp 3] Go.Proofs.Tryz.func125 (by kernel_rfl)
def b1O:Row I:=⟨86,[.d (.sl 9),.d (.sl 9)],[.k (.d (.bool))],a7j⟩
theorem b2G:RK (b1O) :=
 okR [eR a2F,eR b0g] 8 Z5 [.tmp 4] Go.Proofs.Tryz.func86 (by kernel_rfl)
def b9B:Hints I:=mkH [] [] [] [] [(58,⟨4192262,[],[],[(1,.k (.row 149 false)),(2,.k (.d (.int .i64)))],[((.exit 0),[(1,.k (.row 149 false))])],bnd tb (.cst 4) 2⟩)] [] [] []
def b7I:Row I:=⟨87,[],[.k (.row 149 false)],b6A⟩
theorem b8A:RK (b7I) :=
 okR [] 23 b9B [.tmp 0] Go.Proofs.Tryz.func87 (by kernel_rfl)
def b5B:Hints I:=mkH [] [] [] [(429,⟨20480,[],[],[(.normal,[(12,.k (.d (.bool)))])]⟩),
 (1725,⟨1310720,[],[],[(.normal,[(18,.k (.d (.bool)))])]⟩)] [] [] [] []
def b3t:Row I:=⟨165,[.d (.dat 149),.d (.dat 46)],[.k (.d (.bool))],a42⟩
theorem a6g:RK (b3t) :=
 okR [] 81 b5B [.tmp 4] Go.Proofs.Tryz.func165 (by kernel_rfl)
def b2O:Hints I:=mkH [(1,[[],[0],[],[0,1,2],[0,1,2,3],[0,1,2,3,4],[0,1,2,3,4,5],[0,1,2,3,4,5,6],[0,1,2,3,4,5,6,7],[0,1,2,3,4,5,6,7],[0,1,2,3,4,5,6,7,9],[0,1,2,3,4,5,6,7],[0,1,2,3,4,5,6,7,9,10,11],[0,1,2,3,4,5,6,7,9,10,11,12],[0,1,2,3,4,5,6,7,8,9,10,11,12,13],[0,1,2,3,4,5,6,7,8,9,10,11,12,13,14],[0,1,2,3,4,5,6,7,8,9,10,11,12,13,14,15],[0,1,2,3,4,5,6,7,8,9,10,11,12,13,14,15,16]])] [] [] [] [] [] [] []
def b1M:Row I:=⟨164,[.d (.int .i64),.var 33 (.k (.d (.dat 33))) false,.var 149 (.k (.d (.dat 149))) false],[.k (.d (.bool))],a7o⟩
theorem b2C:RK (b1M) :=
 okR [eR a6g] 22 b2O [.tmp 4] Go.Proofs.Tryz.func164 (by kernel_rfl)
def b3G:Row I:=⟨127,[.d (.dat 149),.d (.dat 33),.d (.dat 42)],[.k (.d (.bool))],a9r⟩
theorem b4K:RK (b3G) :=
 okR [eR X9,eR b2C] 24 Z5 [.tmp 6] Go.Proofs.Tryz.func127 (by kernel_rfl)
def b4N:Row I:=⟨166,[],[.k (.row 221 false)],b1S⟩
theorem b5H:RK (b4N) :=
 okR [] 3 Z5 [.tmp 0] Go.Proofs.Tryz.func166 (by kernel_rfl)
def b2q:Row I:=⟨286,[.d (.int .i64)],[.k (.d (.bool))],a4m⟩
theorem b2P:RK (b2q) :=
 okR [] 6 Z5 [.tmp 2] Go.Proofs.Tryz.func286 (by kernel_rfl)
def a9z:Row I:=⟨254,[.d (.int .i64),.d (.int .i64)],[.k (.d (.int .i64))],a29⟩
theorem a4p:RK (a9z) :=
 okR [eR b2P] 20 Z5 [.tmp 4] Go.Proofs.Tryz.func254 (by kernel_rfl)
def a7c:Row I:=⟨269,[.d (.dat 221),.d (.dat 221)],[.k (.d (.int .i64))],a4q⟩
theorem a7V:RK (a7c) :=
 okR [eR a4p] 10 Z5 [.tmp 4] Go.Proofs.Tryz.func269 (by kernel_rfl)
def b0N:Hints I:=mkH [(14,[[],[0],[0,1],[0,1,2],[0,1,2],[0,1,2,3,4],[0,1,2,3,4,5],[0,1,2,3,4,5,6],[0,1,2,3,4,5,6,7],[0,1,2,3,4,5,6,7,8],[0,1,2,3,4,5,6,7,8,9],[0,1,2,3,4,5,6,7,8,9,10],[0,1,2,3,4,5,6,7,8,9],[0,1,2,3,4,5,6,7,8,9],[0,1,2,3,4,5,6,7,8,9,12,13],[0,1,2,3,4,5,6,7,8,9,12,13,14],[0,1,2,3,4,5,6,7,8,9,12,13,14,15],[0,1,2,3,4,5,6,7,8,9,12,13,14,15,16],[0,1,2,3,4,5,6,7,8,9,10,11,12,13,14,15,16,17],[0,1,2,3,4,5,6,7,8,9,10,11,12,13,14,15,16,17,18],[0,1,2,3,4,5,6,7,8,9,10,11,12,13,14,15,16,17,18,19]]),(15,[[],[],[],[],[2,3],[2,3,4],[2,3,4,5],[],[7],[2,3,4,5,6,7,8],[0,1,2,3,4,5,6,7,8,9],[0,1,2,3,4,5,6,7,8,9,10],[0,1,2,3,4,5,6,7,8,9,10,11]])] [] [] [] [(58,⟨67104808,[],[],[(3,.k (.row 221 false)),(12,.k (.d (.int .i64)))],[((.exit 0),[(3,.k (.row 221 false))])],bnd tb (.slot 11) 1⟩),
 (506,⟨37778931862956087968576,[],[],[(6,.k (.row 221 false)),(28,.k (.row 221 false)),(30,.k (.d (.int .i64)))],[((.exit 2),[(6,.k (.row 221 false)),(28,.k (.row 221 false))])],bnd tb (.slot 29) 1⟩)] [] [] []
noncomputable def a8J:Row I:=⟨223,[.d (.sl 221)],[.k (.row 221 false)],a0u⟩
theorem a3J:RK (a8J) :=
 okR [eO c4n,eR a7V] 76 b0N [.tmp 2] Go.Proofs.Tryz.func223 (by kernel_rfl)
def b0M:Hints I:=mkH [] [] [] [] [(58,⟨1099511620256,[11],[],[(5,.k (.row 221 false)),(13,.k (.d (.int .i64)))],[((.exit 0),[(5,.k (.row 221 false))])],bnd tb (.slot 12) 1⟩),
 (14950,⟨549754765856,[18],[],[(5,.k (.row 221 false)),(20,.k (.d (.int .i64)))],[((.exit 2),[(5,.k (.row 221 false))])],bnd tb (.slot 19) 1⟩)] [] [] []
noncomputable def a83:Row I:=⟨167,[.d (.sl 221),.d (.sl 221)],[.k (.row 221 false)],a2v⟩
theorem a9C:RK (a83) :=
 okR [eR a3J] 42 b0M [.tmp 4] Go.Proofs.Tryz.func167 (by kernel_rfl)
def b0i:Hints I:=mkH [] [] [] [(31333,⟨66846728,[],[],[(.normal,[(3,.k (.row 221 false))])]⟩)] [(122,⟨17179868252,[8],[],[(3,.k (.row 221 false)),(4,.k (.d (.int .i64))),(10,.k (.d (.int .i64)))],[((.exit 0),[(3,.k (.row 221 false)),(4,.k (.d (.int .i64)))]),(.ret,[(2,.k (.row 221 false))])],bnd tb (.slot 9) 1⟩)] [] [] []
noncomputable def a7Q:Row I:=⟨168,[.d (.sl 221)],[.k (.row 221 false)],a4L⟩
theorem a9m:RK (a7Q) :=
 okR [eR a3J] 39 b0i [.tmp 2] Go.Proofs.Tryz.func168 (by kernel_rfl)
def b9S:Hints I:=mkH [] [] [] [] [(58,⟨137438888352,[],[],[(5,.k (.row 221 false)),(16,.k (.d (.int .i64)))],[((.exit 0),[(5,.k (.row 221 false))])],bnd tb (.slot 15) 1⟩),
 (122,⟨4611684918915763232,[],[],[(5,.k (.row 221 false)),(40,.k (.d (.int .i64)))],[((.exit 2),[(5,.k (.row 221 false))])],bnd tb (.slot 39) 1⟩)] [] [] []
noncomputable def b7e:Row I:=⟨128,[.d (.dat 33),.d (.dat 42)],[.k (.row 221 false)],b6k⟩
theorem b8z:RK (b7e) :=
 okR [eR b5H,eR a9C,eR a9m] 63 b9S [.tmp 4] Go.Proofs.Tryz.func128 (by kernel_rfl)
def b03:Hints I:=mkH [(3,[[],[0],[],[2],[2,3],[0,1,2,3,4],[0,1,2,3,4,5],[0,1,2,3,4,5,6]])] [] [] [] [] [] [] []
def a8T:Row I:=⟨224,[.d (.dat 108)],[.k (.d (.dat 272))],a0s⟩
theorem a1z:RK (a8T) :=
 okR [eR a8j,eO b9p,eR X7,eR a0l] 16 b03 [.cell 2 272] Go.Proofs.Tryz.func224 (by kernel_rfl)
def b0j:Row I:=⟨169,[.d (.sl 9)],[.k (.d (.dat 108))],a1t⟩
theorem a35:RK (b0j) :=
 okR [eR a1z] 7 Z5 [.cell 2 108] Go.Proofs.Tryz.func169 (by kernel_rfl)
def b2p:Row I:=⟨171,[.d (.sl 9)],[.k (.d (.dat 108))],a1c⟩
theorem a5w:RK (b2p) :=
 okR [eR a1z] 7 Z5 [.cell 2 108] Go.Proofs.Tryz.func171 (by kernel_rfl)
def a8F:Hints I:=mkH [(1,[[],[0],[0,1],[0,1,2],[],[4],[4,5],[0,1,2,3,4,5,6],[0,1,2,3,4,5,6,7]])] [] [] [] [] [] [] []
def a7C:Row I:=⟨225,[.d (.dat 272),.d (.dat 272)],[.k (.row 9 false)],a3U⟩
theorem a7R:RK (a7C) :=
 okR [eR a8j] 13 a8F [.tmp 4] Go.Proofs.Tryz.func225 (by kernel_rfl)
def b0O:Row I:=⟨264,[.d (.str)],[.k (.d (.bool))],a3v⟩
theorem b2e:RK (b0O) :=
 okR [] 6 Z5 [.tmp 2] Go.Proofs.Tryz.func264 (by kernel_rfl)
def b2D:Row I:=⟨214,[.d (.str),.d (.str)],[.k (.d (.bool))],a8s⟩
theorem b3D:RK (b2D) :=
 okR [eR b2e] 17 Z5 [.tmp 4] Go.Proofs.Tryz.func214 (by kernel_rfl)
def a7S:Row I:=⟨290,[.d (.str)],[.k (.d (.bool))],a2d⟩
theorem a8v:RK (a7S) :=
 okR [] 6 Z5 [.tmp 2] Go.Proofs.Tryz.func290 (by kernel_rfl)
def a2Q (n:Nat):Hints I:=mkH [] [] [] [] [(60,⟨2147476352,[],[],[(7,.k (.d (.int .i64))),(8,.k (.d (.int .i64)))],[((.exit 0),[(7,.k (.d (.int .i64)))])],fun _=>some n⟩)] [] [] []
def a2o (n:Nat):Row I:=⟨270,[.d (.sl 9),.d (.str)],[.k (.d (.int .i64)),.k (.d (.bool))],a0N n⟩
theorem a2D (n:Nat):RK (a2o n) :=
 okR [eR b3D,eR a8v] 54 (a2Q n) [.tmp 4,.tmp 5] Go.Proofs.Tryz.func270 (by kernel_rfl)
def a74 (n:Nat):Row I:=⟨227,[.d (.dat 272),.d (.str)],[.k (.d (.bool))],a2b n⟩
theorem a3l (n:Nat):RK (a74 n) :=
 okR [eR (a2D n)] 16 Z5 [.tmp 4] Go.Proofs.Tryz.func227 (by kernel_rfl)
def a7U (_:Nat):Hints I:=mkH [] [] [] [] [(58,⟨33550496,[],[],[(5,.k (.row 9 false)),(12,.k (.d (.int .i64)))],[((.exit 0),[(5,.k (.row 9 false))])],bnd tb (.slot 11) 1⟩)] [] [] []
def a6h (n:Nat):Row I:=⟨226,[.d (.dat 272),.d (.dat 272)],[.k (.row 9 false)],a1G n⟩
theorem a61 (n:Nat):RK (a6h n) :=
 okR [eR (a3l n)] 26 (a7U n) [.tmp 4] Go.Proofs.Tryz.func226 (by kernel_rfl)
def b1e (_:Nat):Hints I:=mkH [(1,[[],[0],[],[0,1,2],[],[],[0,1,2,3,4,5],[0,1,2,3,4,5,6]])] [] [] [] [(250,⟨576320014815068800,[],[],[(7,.k (.row 9 false)),(47,.k (.d (.int .i64)))],[((.exit 1),[(7,.k (.row 9 false))])],bnd tb (.slot 46) 1⟩)] [] [] []
def a8x (n:Nat):Row I:=⟨170,[.d (.dat 108),.d (.dat 108)],[.k (.d (.dat 108))],a2y n⟩
theorem a94 (n:Nat):RK (a8x n) :=
 okR [eR a1z,eR a7R,eR a35,eR (a61 n),eR a5w,eR (a3l n)] 61 (b1e n) [.cell 4 108] Go.Proofs.Tryz.func170 (by kernel_rfl)
def b8m (_:Nat):Hints I:=mkH [(7,[[],[],[1],[1,2],[1,2,3],[0,1,2,3,4],[0,1,2,3,4,5]]),(14,[[],[],[1],[1,2],[1,2,3],[0,1,2,3,4],[0,1,2,3,4,5]])] [] [] [] [(58,⟨274877646336,[],[(7,.k (.d (.dat 108)))],[(18,.k (.d (.int .i64)))],[((.exit 0),[])],bnd tb (.slot 17) 1⟩),
 (122,⟨2305840810190450688,[],[(7,.k (.d (.dat 108)))],[(41,.k (.d (.int .i64)))],[((.exit 2),[])],bnd tb (.slot 40) 1⟩)] [] [] []
def b6X (n:Nat):Row I:=⟨129,[.d (.dat 33),.d (.dat 42),.d (.int .i64)],[.k (.d (.dat 108))],a8U n⟩
theorem b7j (n:Nat):RK (b6X n) :=
 okR [eR a35,eR a5w,eR (a94 n)] 62 (b8m n) [.cell 6 108] Go.Proofs.Tryz.func129 (by kernel_rfl)
def b8B:Hints I:=mkH [(1,[[],[0],[],[0,1,2],[0,1,2,3],[0,1,2,3,4],[],[0,1,2,3,4,5,6],[0,1,2,3,4,5,6,7]])] [] [] [] [] [] [] []
def b6u:Row I:=⟨172,[.d (.int .i64),.var 33 (.k (.d (.dat 33))) false,.var 3 (.k (.d (.int .i64))) false],[.k (.d (.bool))],b42⟩
theorem b7z:RK (b6u) :=
 okR [] 13 b8B [.tmp 4] Go.Proofs.Tryz.func172 (by kernel_rfl)
def b8i:Row I:=⟨130,[.d (.dat 33),.d (.sl 3),.d (.int .i64)],[.k (.d (.bool))],a3I⟩
theorem b9R:RK (b8i) :=
 okR [eR X9,eR b7z] 10 Z5 [.tmp 6] Go.Proofs.Tryz.func130 (by kernel_rfl)
def b7S:Hints I:=mkH [(5,[[],[0],[],[0,1,2],[0,1,2,3],[0,1,2,3,4],[],[0,1,2,3,4,5,6],[0,1,2,3,4,5,6,7],[0,1,2,3,4,5,6,7,8],[0,1,2,3,4,5,6,7,8],[0,1,2,3,4,5,6,7,8,10],[0,1,2,3,4,5,6,7,8],[0,1,2,3,4,5,6,7,8,10,11,12],[0,1,2,3,4,5,6,7,8,10,11,12,13],[0,1,2,3,4,5,6,7,8,9,10,11,12,13,14],[0,1,2,3,4,5,6,7,8,9,10,11,12,13,14,15]])] [] [] [] [(58,⟨1099511613952,[],[],[(9,.k (.row 3 false)),(14,.k (.d (.int .i64)))],[((.exit 0),[(9,.k (.row 3 false))])],bnd tb (.slot 13) 1⟩)] [] [] []
def b5L:Row I:=⟨131,[.d (.dat 149),.d (.dat 33),.d (.sl 3),.d (.int .i64)],[.k (.row 3 false)],a6R⟩
theorem b6o:RK (b5L) :=
 okR [eR a6g] 41 b7S [.tmp 8] Go.Proofs.Tryz.func131 (by kernel_rfl)
def b99 (_:Nat):Hints I:=mkH [(8,[[],[],[1],[1,2],[1,2,3],[0],[0,1,2,3,4,5]]),(11,[[],[],[],[2],[1,2,3],[1,2,3,4],[1,2,3,4,5],[1,2,3,4,5,6],[1,2,3,4,5,6,7],[1,2,3,4,5,6,7,8],[1,2,3,4,5,6,7,8,9],[1,2,3,4,5,6,7,8,9,10],[1,2,3,4,5,6,7,8,9,10,11],[1,2,3,4,5,6,7,8,9,10,11,12],[1,2,3,4,5,6,7,8,9,10,11,12,13],[1,2,3,4,5,6,7,8,9,10,11,12,13,14],[1,2,3,4,5,6,7,8,9,10,11,12,13,14,15],[1,2,3,4,5,6,7,8,9,10,11,12,13,14,15,16],[0,1,2,3,4,5,6,7,8,9,10],[0,1,2,3,4,5,6,7,8,9,10,11,12,13,14,15,16,17,18]]),(14,[[],[],[],[2],[1,2,3],[1,2,3,4],[1,2,3,4,5],[1,2,3,4,5,6],[1,2,3,4,5,6,7],[1,2,3,4,5,6,7,8],[1,2,3,4,5,6,7,8,9],[1,2,3,4,5,6,7,8,9,10],[1,2,3,4,5,6,7,8,9,10,11],[1,2,3,4,5,6,7,8,9,10,11,12],[1,2,3,4,5,6,7,8,9,10,11,12,13],[1,2,3,4,5,6,7,8,9,10,11,12,13,14],[1,2,3,4,5,6,7,8,9,10,11,12,13,14,15],[1,2,3,4,5,6,7,8,9,10,11,12,13,14,15,16],[0,1,2,3,4,5,6,7,8,9,10],[0,1,2,3,4,5,6,7,8,9,10,11,12,13,14,15,16,17,18]]),(16,[[],[],[],[2],[1,2,3],[1,2,3,4],[0,1,2,3,4],[0,1,2,3,4,5,6]]),(18,[[],[],[],[2],[1,2,3],[1,2,3,4],[0,1,2,3,4],[0,1,2,3,4,5,6]]),(27,[[],[],[],[2],[],[0,1,2,3,4],[],[],[],[8],[],[0,1,2,3,4,5,6,7,8,9,10],[0,1,2,3,4,5],[0,1,2,3,4,5,6,7,8,9,10,11,12],[0,1,2,3,4,5,6,7,8,9,10,11,12,13],[0,1,2,3,4,5,6,7,8,9,10,11,12,13,14]]),(28,[[],[],[1],[1,2],[1,2,3],[1,2,3],[1,2,3,5],[1,2,3],[1,2,3,4,5,6,7],[1,2,3,4,5,6,7,8],[1,2,3,4,5,6,7,8,9],[0,1,2,3,4,5,6,7,8],[0,1,2,3,4,5,6,7,8,9,10,11]])] [(11,[47,51]),(14,[71,75]),(28,[124])] [] [(125,⟨162259276829213363391577993512576,[],[(6,.lvs [.d (.int .i64),.d (.int .i64),.d (.sl 221),.d (.bool),.d (.sl 9),.d (.sl 3),.d (.sl 3),.d (.sl 9),.d (.sl 9)]),(8,.lvs [.d (.int .i64),.d (.int .i64),.d (.sl 221),.d (.bool),.d (.sl 9),.d (.sl 3),.d (.sl 3),.d (.sl 9),.d (.sl 9)])],[(.normal,[(9,.k (.d (.int .i64))),(10,.k (.d (.int .i64)))]),(.ret,[(7,.k (.d (.bool)))])]⟩)] [] [] [] []
noncomputable def b7G (n:Nat):Row I:=⟨88,[.d (.dat 33),.d (.dat 42),.d (.dat 149)],[.k (.d (.dat 110)),.k (.d (.bool))],b6d n⟩
theorem b8I (n:Nat):RK (b7G n) :=
 okR [eR b4K,eR b8z,eR (b7j n),eR b9R,eR b6o] 132 (b99 n) [.cell 6 110,.tmp 7] Go.Proofs.Tryz.func88 (by kernel_rfl)
def b8u (_:Nat):Hints I:=mkH [(7,[[],[],[1],[0,1,2],[],[],[5],[0,1,2,3,4,5,6],[0,1,2,3,4,5,6,7],[0,1,2,3,4,5,6,7,8]])] [] [] [] [(122,⟨37778931862957027507104,[25],[],[(5,.k (.row 110 false)),(27,.k (.d (.int .i64)))],[((.exit 0),[(5,.k (.row 110 false))])],bnd tb (.slot 26) 1⟩),
 (125342,⟨18889463679678767183904,[49],[],[(5,.k (.row 110 false)),(51,.k (.d (.int .i64)))],[((.exit 2),[(5,.k (.row 110 false))])],bnd tb (.slot 50) 1⟩)] [] [] []
noncomputable def b6V (n:Nat):Row I:=⟨48,[.d (.dat 33),.d (.dat 42)],[.k (.row 110 false)],b4X n⟩
theorem b7y (n:Nat):RK (b6V n) :=
 okR [eR (a1h n),eR b0b,eR (b3S n),eR b8G,eR a7v,eR b2G,eR b8A,eR (b8I n),eR a8j] 76 (b8u n) [.tmp 4] Go.Proofs.Tryz.func48 (by kernel_rfl)
def b7C:Hints I:=mkH [] [] [] [] [(58,⟨576460752303396608,[],[],[(10,.k (.row 40 false)),(15,.k (.d (.int .i64)))],[((.exit 0),[(10,.k (.row 40 false))]),(.ret,[(8,.k (.row 40 false)),(9,.k (.d (.bool)))])],bnd tb (.slot 14) 1⟩)] [] [] []
def b5M:Row I:=⟨176,[.d (.dat 33),.d (.sl 3),.d (.int .i64),.d (.int .i64)],[.k (.row 40 false),.k (.d (.bool))],a7p⟩
theorem b63:RK (b5M) :=
 okR [] 60 b7C [.tmp 8,.tmp 9] Go.Proofs.Tryz.func176 (by kernel_rfl)
def a5H:Hints I:=mkH [] [] [] [] [(26,⟨524080,[],[],[(8,.k (.d (.int .i64)))],[((.exit 0),[]),(.ret,[(4,.k (.d (.int .i64)))])],bnd tb (.slot 7) 1⟩)] [] [] []
def a4E:Row I:=⟨291,[.d (.sl 40),.fn [.sl 3] [.k (.d (.bool))]],[.k (.d (.int .i64))],a2f⟩
theorem a5a:RK (a4E) :=
 okR [] 19 a5H [.tmp 4] Go.Proofs.Tryz.func291 (by kernel_rfl)
def a3B:Row I:=⟨272,[.d (.sl 40),.fn [.sl 3] [.k (.d (.bool))]],[.k (.d (.bool))],a1E⟩
theorem a3P:RK (a3B) :=
 okR [eR a5a] 9 Z5 [.tmp 4] Go.Proofs.Tryz.func272 (by kernel_rfl)
def b3j:Row I:=⟨273,[.d (.sl 3),.var 3 (.k (.d (.int .i64))) false],[.k (.d (.bool))],a9L⟩
theorem b4x:RK (b3j) :=
 okR [] 8 Z5 [.tmp 3] Go.Proofs.Tryz.func273 (by kernel_rfl)
def b5N:Row I:=⟨230,[.d (.int .i64),.d (.sl 40)],[.k (.d (.bool))],a7B⟩
theorem b6Z:RK (b5N) :=
 okR [eR a3P,eR b4x] 9 Z5 [.tmp 4] Go.Proofs.Tryz.func230 (by kernel_rfl)
def b8h:Hints I:=mkH [(9,[[],[0],[],[],[2,3],[2,3,4],[2,3,4,5],[0,1,2,3,4,5,6],[0,1,2,3,4,5,6,7],[0,1,2,3,4,5,6,7,8]]),(14,[[],[],[0,1],[0,1,2],[],[],[4,5],[4,5,6],[0,1,2,3,4,5,6,7],[0,1,2,3,4,5,6,7,8],[],[0,1,2,3,4,5,6,7,8,9,10]]),(15,[[],[0],[],[],[2,3],[2,3,4],[2,3,4,5],[0,1,2,3,4,5,6],[0,1,2,3,4,5,6,7],[0,1,2,3,4,5,6,7,8]]),(19,[[],[0],[],[2],[2,3],[0,1,2,3,4],[0,1,2,3,4,5],[0,1,2,3,4,5,6]])] [] [(18,[10,12]),(19,[12]),(20,[10,12])] [] [(58,⟨4835703278458516698261504,[],[(10,.lvs [.d (.sl 42)]),(12,.lvs [.row 42 true])],[(20,.k (.d (.int .i64)))],[((.exit 0),[]),(.ret,[(11,.k (.d (.bool)))])],bnd tb (.slot 19) 1⟩),
 (59802,⟨549722324992,[],[(14,.lvs [.row 3 false,.row 3 false,.d (.bool)])],[(25,.k (.d (.int .i64)))],[((.exit 2),[])],bnd tb (.slot 24) 1⟩),
 (119610,⟨295147902980329963520,[],[(14,.lvs [.row 3 false,.row 3 false,.d (.bool)])],[(41,.k (.d (.int .i64)))],[((.exit 4),[])],bnd tb (.slot 40) 1⟩)] [] [] []
def b6v:Row I:=⟨231,[.d (.int .i64),.d (.sl 40),.d (.sl 40),.d (.sl 40),.bor 3],[.k (.d (.dat 196)),.k (.d (.bool))],b46⟩
theorem b7i:RK (b6v) :=
 okR [eR a7v,eR a49] 83 b8h [.cell 10 196,.tmp 11] Go.Proofs.Tryz.func231 (by kernel_rfl)
def b4P:Hints I:=mkH [(5,[[],[],[0,1],[0,1,2],[],[],[4,5],[4,5,6],[4,5,6,7],[0,1,2,3,4,5,6,7,8]])] [] [] [] [] [(26,⟨2147483440,0,.row 3,[(8,.k (.d (.int .i64)))],[((.exit 0),[]),(.ret,[(4,.k (.d (.bool)))])],bnd tb (.slot 7) 1,0⟩)] [] []
def b2B:Rio I:=⟨232,3,[.d (.sl 40)],[.k (.d (.bool))],a8c⟩
theorem b3L:RO (b2B) :=
 okO [] 31 b4P [.tmp 4] Go.Proofs.Tryz.func232 (by kernel_rfl)
def b56 (n:Nat):Hints I:=mkH [] [] [(11,[1000009]),(17,[9])] [(8131,⟨2321137573660088015435890688,[],[],[(.normal,[(15,.k (.row 196 false))])]⟩)] [(254,⟨79228011398536885764897341696,[],[],[(14,.k (.row 3 false)),(15,.k (.row 196 false))],[(.ret,[(8,.k (.row 196 false)),(14,.k (.row 3 false))])],fun _=>some n⟩)] [] [(122,⟨⟨18889465929279557614848,[],[],[(41,.k (.d (.int .i64)))],[((.exit 0),[]),(.ret,[(8,.k (.row 196 false))])],bnd tb (.slot 40) 1⟩,9,40⟩),
 (62666,⟨⟨147573671114699714560,[],[],[(48,.k (.d (.int .i64)))],[((.exit 2),[])],bnd tb (.slot 47) 1⟩,9,40⟩)] []
def b4C (n:Nat):Row I:=⟨177,[.d (.int .i64),.d (.sl 40),.d (.sl 40),.fn [.int .i64] [.k (.d (.bool))]],[.k (.row 196 false)],b1X n⟩
theorem b5U (n:Nat):RK (b4C n) :=
 okR [eR b6Z,eR b7i,eO b3L] 96 (b56 n) [.tmp 8] Go.Proofs.Tryz.func177 (by kernel_rfl)
def a6N:Row I:=⟨178,[.d (.int .i64),.var 33 (.k (.d (.dat 33))) false],[.k (.d (.bool))],a3Y⟩
theorem a73:RK (a6N) :=
 okR [] 11 Z5 [.tmp 3] Go.Proofs.Tryz.func178 (by kernel_rfl)
def b02 (_:Nat):Hints I:=mkH [(1,[[],[0],[],[0,1,2]])] [] [] [(29,⟨3932400,[],[],[(.normal,[(6,.k (.d (.int .i64))),(7,.k (.d (.int .i64)))]),(.ret,[(4,.k (.row 196 false)),(5,.k (.d (.int .i64)))])]⟩),
 (2045,⟨1180447505529335455744,[12],[],[(.normal,[])]⟩)] [(16362,⟨1180015159965107888128,[],[],[(59,.k (.d (.int .i64)))],[((.exit 1),[])],bnd tb (.slot 58) 1⟩)] [] [] []
def a9p (n:Nat):Row I:=⟨134,[.d (.dat 33),.d (.dat 110)],[.k (.d (.sl 196)),.k (.d (.int .i64))],a5y n⟩
theorem a9E (n:Nat):RK (a9p n) :=
 okR [eR (a1h n),eR b63,eR (b5U n),eR a73] 71 (b02 n) [.tmp 4,.tmp 5] Go.Proofs.Tryz.func134 (by kernel_rfl)
def b8k (_:Nat):Hints I:=mkH [] [] [] [(429,⟨2684354560,[],[],[(.normal,[(29,.k (.d (.bool)))])]⟩),
 (1725,⟨1407374883553280,[],[],[(.normal,[(48,.k (.d (.bool)))])]⟩),
 (3445,⟨128,[],[],[(.normal,[(7,.k (.d (.int .i64)))])]⟩)] [(55258,⟨1180015159965107900416,[],[],[(12,.k (.row 71 false)),(59,.k (.d (.int .i64)))],[((.exit 1),[(12,.k (.row 71 false))])],bnd tb (.slot 58) 1⟩)] [] [] []
def b6a (n:Nat):Row I:=⟨89,[.d (.dat 33),.d (.dat 110)],[.k (.row 71 false)],b45 n⟩
theorem b7g (n:Nat):RK (b6a n) :=
 okR [eR (a9E n)] 83 (b8k n) [.tmp 4] Go.Proofs.Tryz.func89 (by kernel_rfl)
def b8r (_:Nat):Hints I:=mkH [] [] [] [] [(58,⟨1073737888,[10],[],[(5,.k (.row 71 false)),(12,.k (.d (.int .i64)))],[((.exit 0),[(5,.k (.row 71 false))])],bnd tb (.slot 11) 1⟩)] [] [] []
def b6s (n:Nat):Row I:=⟨49,[.d (.dat 33),.d (.dat 110)],[.k (.row 71 false)],b43 n⟩
theorem b7J (n:Nat):RK (b6s n) :=
 okR [eR (b7g n),eR a8j] 31 (b8r n) [.tmp 4] Go.Proofs.Tryz.func49 (by kernel_rfl)
def b90 (_:Nat):Hints I:=mkH [(11,[[],[0],[],[2],[2,3],[0,1,2,3,4],[0,1,2,3,4,5],[0,1,2,3,4,5,6],[],[0,1,2,3,4,5,6,7,8]])] [] [] [] [(58,⟨37778931862957161215648,[17],[],[(5,.k (.row 74 false)),(19,.k (.d (.int .i64)))],[((.exit 0),[(5,.k (.row 74 false))])],bnd tb (.slot 18) 1⟩),
 (119610,⟨1180589368917597646848,[],[],[(51,.k (.d (.int .i64)))],[((.exit 4),[])],bnd tb (.slot 50) 1⟩),
 (239186,⟨1098437886496,[28],[],[(5,.k (.row 74 false)),(30,.k (.d (.int .i64)))],[((.exit 2),[(5,.k (.row 74 false))])],bnd tb (.slot 29) 1⟩)] [] [] []
noncomputable def b7D (n:Nat):Row I:=⟨25,[.d (.dat 33),.d (.dat 42)],[.k (.row 74 false)],b6c n⟩
theorem b8q (n:Nat):RK (b7D n) :=
 okR [eR (b7y n),eR (b7J n),eR a8j] 76 (b90 n) [.tmp 4] Go.Proofs.Tryz.func25 (by kernel_rfl)
def b8v:Hints I:=mkH [(3,[[],[0],[0,1],[],[3],[3,4],[0,1,2,3,4,5],[0,1,2,3,4,5,6]])] [] [] [] [] [] [] []
def b6f:Row I:=⟨53,[.d (.dat 119)],[.k (.d (.sl 42))],a8A⟩
theorem b0x:RK (b6f) :=
 okR [eR c22] 14 b8v [.tmp 2] Go.Proofs.Tryz.func53 (by kernel_rfl)
def b5e:Hints I:=mkH [] [] [] [] [(58,⟨2147451048,[],[],[(3,.k (.row 42 false)),(15,.k (.d (.int .i64)))],[((.exit 0),[(3,.k (.row 42 false))])],bnd tb (.slot 14) 1⟩),
 (14950,⟨1071644808,[],[],[(3,.k (.row 42 false)),(21,.k (.d (.int .i64)))],[((.exit 2),[(3,.k (.row 42 false))])],bnd tb (.slot 20) 1⟩)] [] [] []
def b2K:Row I:=⟨26,[.d (.dat 74)],[.k (.row 42 false)],b0u⟩
theorem b4q:RK (b2K) :=
 okR [eR c22,eR b0x] 32 b5e [.tmp 2] Go.Proofs.Tryz.func26 (by kernel_rfl)
def a2c:Hints I:=mkH [] [] [] [] [(26,⟨524080,[],[],[(8,.k (.d (.int .i64)))],[((.exit 0),[]),(.ret,[(4,.k (.d (.int .i64)))])],bnd tb (.slot 7) 1⟩)] [] [] []
def a1O:Row I:=⟨93,[.d (.sl 74),.fn [.dat 74] [.k (.d (.bool))]],[.k (.d (.int .i64))],a0t⟩
theorem a11:RK (a1O) :=
 okR [] 19 a2c [.tmp 4] Go.Proofs.Tryz.func93 (by kernel_rfl)
def a1p:Row I:=⟨54,[.d (.sl 74),.fn [.dat 74] [.k (.d (.bool))]],[.k (.d (.bool))],a0f⟩
theorem a1w:RK (a1p) :=
 okR [eR a11] 9 Z5 [.tmp 4] Go.Proofs.Tryz.func54 (by kernel_rfl)
def a8u:Hints I:=mkH [(5,[[],[0],[],[2],[0,1,2,3],[0,1,2,3,4]])] [] [] [] [(58,⟨134214512,[],[],[(6,.k (.d (.int .i64))),(12,.k (.d (.int .i64)))],[((.exit 0),[(6,.k (.d (.int .i64)))]),(.ret,[(4,.k (.d (.int .i64))),(5,.k (.d (.bool)))])],bnd tb (.slot 11) 1⟩)] [] [] []
def a6M:Row I:=⟨59,[.lnt [.map 52 (.sl 74),.map 53 (.int .i64)],.d (.sl 42)],[.k (.d (.int .i64)),.k (.d (.bool))],a1R⟩
theorem a2U:RK (a6M) :=
 okR [eR b57] 28 a8u [.tmp 4,.tmp 5] Go.Proofs.Tryz.func59 (by kernel_rfl)
def b3a:Hints I:=mkH [(4,[[],[],[1],[0,1,2],[0,1,2,3],[0,1,2,3,4],[0,1,2,3,4],[0,1,2,3,4,5],[0,1,2,3,4,5,6,7]])] [] [] [] [(26,⟨137438947168,[],[(4,.lvs [.d (.sl 42),.d (.bool),.d (.sl 3),.d (.sl 3),.d (.bool)])],[(5,.k (.d (.int .i64))),(6,.k (.d (.bool))),(13,.k (.d (.int .i64)))],[((.exit 0),[(5,.k (.d (.int .i64))),(6,.k (.d (.bool)))])],bnd tb (.slot 12) 1⟩)] [] [] []
def b1H:Row I:=⟨60,[.lnt [.map 52 (.sl 74),.map 53 (.int .i64)],.d (.sl 119)],[.k (.d (.dat 119)),.k (.d (.int .i64)),.k (.d (.bool))],a7r⟩
theorem b2n:RK (b1H) :=
 okR [eR b0x,eR a2U] 40 b3a [.cell 4 119,.tmp 5,.tmp 6] Go.Proofs.Tryz.func60 (by kernel_rfl)
def b1r:Hints I:=mkH [] [] [] [] [(122,⟨4398012960560,[],[],[(5,.k (.d (.int .i64))),(25,.k (.d (.int .i64)))],[((.exit 0),[(5,.k (.d (.int .i64)))]),(.ret,[(4,.k (.d (.int .i64)))])],bnd tb (.slot 24) 1⟩)] [] [] []
def a9g:Row I:=⟨33,[.lnt [.map 52 (.sl 74),.map 53 (.int .i64)],.d (.dat 74)],[.k (.d (.int .i64))],a2u⟩
theorem a3H:RK (a9g) :=
 okR [eR a2U,eR b2n] 44 b1r [.tmp 4] Go.Proofs.Tryz.func33 (by kernel_rfl)
def a8w:En:=⟨⟨55,b1Q tb 55 52 53 (.sl 74) (.int .i64) (.dat 74) [.bool] (fun ma mb q=>a4M q (ma,mb))⟩,c3V (nt:=8) (cd:=b1u Go.Proofs.Tryz.f55) (rl:=[.tmp 3]) (H:=Z5) a2e (a5c (a96 [eR a3H]) 3) mixed Go.Proofs.Tryz.func55 (by kernel_rfl) (by kernel_rfl) (by kernel_rfl) (by kernel_rfl) (by kernel_rfl) (by kernel_rfl) (by kernel_rfl)⟩
def b2z:Hints I:=mkH [] [] [(9,[7])] [] [(58,⟨17179853440,[],[],[(7,.k (.row 9 false)),(14,.k (.d (.int .i64)))],[((.exit 0),[(7,.k (.row 9 false))])],bnd tb (.slot 13) 1⟩)] [(122,⟨35115652614144,0,.map 53 (.int .i64),[(36,.k (.d (.int .i64)))],[((.exit 2),[])],bnd tb (.slot 35) 1,1⟩)] [] []
def b1d:En:=⟨⟨27,b06 tb 52 53 (.sl 74) (.int .i64) [.sl 9,.int .i64] [.bool] (fun ma mb q=>a59 (ma,mb) q.1 q.2.1)⟩,c3w (nt:=48) (cd:=b1u Go.Proofs.Tryz.f27) (rl:=[.tmp 6]) (H:=b2z) a2e (a5c (a96 [eR a1w,a8w]) 3) mixed Go.Proofs.Tryz.func27 (by kernel_rfl) (by kernel_rfl) (by kernel_rfl) (by kernel_rfl) (by kernel_rfl) (by kernel_rfl) (by kernel_rfl)⟩
def b6H (n:Nat):Hints I:=mkH [] [] [] [] [(124,⟨147573952589674340288,[],[(5,.lvs [.map 52 (.sl 74),.map 53 (.int .i64)])],[(6,.k (.row 42 false)),(7,.k (.row 9 false))],[((.exit 0),[(7,.k (.row 9 false))])],fun _=>some n⟩),
 (506,⟨9297159013149614047232,[7],[(5,.lvs [.map 52 (.sl 74),.map 53 (.int .i64)])],[(15,.k (.d (.int .i64)))],[((.exit 4),[])],fun _=>some n⟩),
 (509438,⟨147285722213524717632,[],[],[(6,.k (.row 42 false)),(58,.k (.d (.int .i64)))],[((.exit 2),[(6,.k (.row 42 false))])],bnd tb (.slot 57) 1⟩)] [] [] []
noncomputable def b4t (n:Nat):Row I:=⟨13,[.d (.dat 33),.d (.dat 42)],[.lvs [.map 52 (.sl 74),.map 53 (.int .i64)]],b1T n⟩
theorem b5x (n:Nat):RK (b4t n) :=
 okR [eR b57,eR (b8q n),eR b4q,b1d] 74 (b6H n) [.cell 4 55] Go.Proofs.Tryz.func13 (by kernel_rfl)
def a0z (n:Nat):Row I:=⟨104,[.d (.dat 27)],[.k (.d (.dat 27))],b4W n⟩
def b5W (_:Nat):Hints I:=mkH [] [] [] [] [(58,⟨261928,[],[],[(3,.k (.row 27 false)),(8,.k (.d (.int .i64)))],[((.exit 0),[(3,.k (.row 27 false))])],bnd tb (.slot 7) 1⟩)] [] [] []
def X4 (n:Nat):Row I:=⟨101,[.d (.sl 27)],[.k (.row 27 false)],a9s n⟩
def b1A (_:Nat):Hints I:=mkH [(5,[[],[],[1],[1,2],[],[4],[],[6],[1,2,3,6,7],[1,2,3,4,5,6,7,8],[1,2,3,4,5,6,7,8,9],[0,1,2,3,4,5,6,7,8,9,10],[0,1,2,3,4,5,6,7,8,9,10,11]])] [] [] [] [(58,⟨33554216,[],[],[(3,.k (.row 48 false)),(8,.k (.d (.int .i64)))],[((.exit 0),[(3,.k (.row 48 false))])],bnd tb (.slot 7) 1⟩)] [] [] []
def W8 (n:Nat):Row I:=⟨145,[.bor 48],[.k (.row 48 false)],b3w n⟩
theorem b6N (n:Nat)(_:j6 Go.Proofs.Tryz.prog (a0z n))(h_value_cloneAll:j6 Go.Proofs.Tryz.prog (X4 n))(h_value_cloneEntries:j6 Go.Proofs.Tryz.prog (W8 n)):RK (a0z (n+1)) :=
 okR [eR h_value_cloneAll,eR c37,eR a8j,eR h_value_cloneEntries] 20 Z5 [.cell 2 27] Go.Proofs.Tryz.func104 (by kernel_rfl)
theorem b3l (n:Nat)(h_value_clone:j6 Go.Proofs.Tryz.prog (a0z n))(_:j6 Go.Proofs.Tryz.prog (X4 n))(_:j6 Go.Proofs.Tryz.prog (W8 n)):RK (X4 (n+1)) :=
 okR [eR h_value_clone] 19 (b5W n) [.tmp 2] Go.Proofs.Tryz.func101 (by kernel_rfl)
theorem a8Y (n:Nat)(h_value_clone:j6 Go.Proofs.Tryz.prog (a0z n))(h_value_cloneAll:j6 Go.Proofs.Tryz.prog (X4 n))(_:j6 Go.Proofs.Tryz.prog (W8 n)):RK (W8 (n+1)) :=
 okR [eR h_value_cloneAll,eR h_value_clone] 26 (b1A n) [.tmp 2] Go.Proofs.Tryz.func145 (by kernel_rfl)
theorem a2z:∀ n:Nat,j6 Go.Proofs.Tryz.prog (a0z n)/\j6 Go.Proofs.Tryz.prog (X4 n)/\j6 Go.Proofs.Tryz.prog (W8 n)
 | 0=>⟨Q1 (by kernel_rfl),Q1 (by kernel_rfl),Q1 (by kernel_rfl)⟩
 | n+1=>by
   obtain ⟨h0,h1,h2⟩:=a2z n
   exact ⟨b6N n h0 h1 h2,b3l n h0 h1 h2,a8Y n h0 h1 h2⟩
theorem b7f (n:Nat):j6 Go.Proofs.Tryz.prog (a0z n):=(a2z n).1
theorem b4u (n:Nat):j6 Go.Proofs.Tryz.prog (X4 n):=(a2z n).2.1
def b6E (n:Nat):Row I:=⟨62,[.d (.sl 27)],[.k (.d (.dat 27))],a87 n⟩
theorem b7a (n:Nat):RK (b6E n) :=
 okR [eR (b4u n)] 6 Z5 [.cell 2 27] Go.Proofs.Tryz.func62 (by kernel_rfl)
def b04 (n:Nat):Row I:=⟨65,[.d (.dat 27),.d (.sl 9)],[.k (.d (.dat 27))],a7n n⟩
theorem b2s (n:Nat):RK (b04 n) :=
 okR [eR (b7f n),eR a8j,eO b9p,eR X7,eR a0l] 20 Z5 [.cell 4 27] Go.Proofs.Tryz.func65 (by kernel_rfl)
def b9k:Hints I:=mkH [] [] [] [(105,⟨160,[],[],[(.normal,[(5,.k (.d (.bool)))])]⟩),
 (429,⟨2560,[],[],[(.normal,[(9,.k (.d (.bool)))])]⟩),
 (6909,⟨327680,[],[],[(.normal,[(16,.k (.d (.bool)))])]⟩)] [] [] [] []
def b7N:Row I:=⟨217,[.d (.int .i64)],[.k (.d (.dat 267)),.k (.d (.bool))],b6F⟩
theorem b8y:RK (b7N) :=
 okR [] 27 b9k [.cell 2 267,.tmp 3] Go.Proofs.Tryz.func217 (by kernel_rfl)
def a7e:Hints I:=mkH [(4,[[],[],[],[2],[1,2,3],[1,2,3,4],[],[],[6,7],[6,7,8],[0,1,2,3,4,5,6,7,8,9],[0,1,2,3,4,5,6,7,8,9,10]])] [] [] [] [(26,⟨16777200,[],[],[(5,.k (.d (.int .i64)))],[((.exit 0),[]),(.ret,[(4,.k (.d (.bool)))])],bnd tb (.len (.slot 0)) 1⟩)] [] [] []
def a56:Row I:=⟨265,[.d (.sl 9),.fn [.str,.str] [.k (.d (.int .i64))]],[.k (.d (.bool))],a3g⟩
theorem a6u:RK (a56) :=
 okR [] 24 a7e [.tmp 4] Go.Proofs.Tryz.func265 (by kernel_rfl)
def b2o:Hints I:=mkH [] [] [] [] [(58,⟨261140,[],[],[(10,.k (.d (.int .i64)))],[((.exit 0),[]),(.ret,[(2,.k (.d (.bool)))])],bnd tb (.slot 9) 1⟩)] [] [] []
def b0n:Row I:=⟨218,[.d (.sl 9)],[.k (.d (.bool))],a6c⟩
theorem b0V:RK (b0n) :=
 okR [eR a6u,eR a2B,eR a4O] 18 b2o [.tmp 2] Go.Proofs.Tryz.func218 (by kernel_rfl)
def a6p:Hints I:=mkH [(4,[[],[],[],[2],[1,2,3],[1,2,3,4],[],[],[6,7],[6,7,8],[0,1,2,3,4,5,6,7,8,9],[0,1,2,3,4,5,6,7,8,9,10]])] [] [] [] [(26,⟨16777200,[],[],[(5,.k (.d (.int .i64)))],[((.exit 0),[]),(.ret,[(4,.k (.d (.bool)))])],bnd tb (.len (.slot 0)) 1⟩)] [] [] []
def a5G:Row I:=⟨266,[.d (.sl 100),.fn [.dat 100,.dat 100] [.k (.d (.int .i64))]],[.k (.d (.bool))],a2S⟩
theorem a5V:RK (a5G) :=
 okR [] 24 a6p [.tmp 4] Go.Proofs.Tryz.func266 (by kernel_rfl)
def b5T:Hints I:=mkH [] [] [] [] [(58,⟨534773780,[],[],[(21,.k (.d (.int .i64)))],[((.exit 0),[]),(.ret,[(2,.k (.d (.bool)))])],bnd tb (.slot 20) 1⟩)] [] [] []
def b3g:Row I:=⟨219,[.d (.dat 27)],[.k (.d (.bool))],a9M⟩
theorem b4p:RK (b3g) :=
 okR [eR a5V,eR a1T,eR a6e] 29 b5T [.tmp 2] Go.Proofs.Tryz.func219 (by kernel_rfl)
def a5t:Hints I:=mkH [(4,[[],[],[],[2],[1,2,3],[1,2,3,4],[],[],[6,7],[6,7,8],[0,1,2,3,4,5,6,7,8,9],[0,1,2,3,4,5,6,7,8,9,10]])] [] [] [] [(26,⟨16777200,[],[],[(5,.k (.d (.int .i64)))],[((.exit 0),[]),(.ret,[(4,.k (.d (.bool)))])],bnd tb (.len (.slot 0)) 1⟩)] [] [] []
def a4z:Row I:=⟨267,[.d (.sl 48),.fn [.dat 48,.dat 48] [.k (.d (.int .i64))]],[.k (.d (.bool))],a2i⟩
theorem a4V:RK (a4z) :=
 okR [] 24 a5t [.tmp 4] Go.Proofs.Tryz.func267 (by kernel_rfl)
def a4n:Hints I:=mkH [(7,[[],[],[],[1,2],[1,2,3],[],[],[5,6],[5,6,7],[0,1,2,3,4,5,6,7,8],[0,1,2,3,4,5,6,7,8,9]])] [] [] [] [(58,⟨137437905728,[],[],[(20,.k (.d (.int .i64)))],[((.exit 0),[]),(.ret,[(6,.k (.d (.int .i64)))])],bnd tb (.slot 19) 1⟩)] [] [] []
def a3q:Row I:=⟨253,[.d (.sl 27),.d (.sl 27),.fn [.dat 27,.dat 27] [.k (.d (.int .i64))]],[.k (.d (.int .i64))],a1A⟩
theorem a3R:RK (a3q) :=
 okR [eR X3] 37 a4n [.tmp 6] Go.Proofs.Tryz.func253 (by kernel_rfl)
def a5b:Hints I:=mkH [(7,[[],[],[],[1,2],[1,2,3],[],[],[5,6],[5,6,7],[0,1,2,3,4,5,6,7,8],[0,1,2,3,4,5,6,7,8,9]])] [] [] [] [(58,⟨137437905728,[],[],[(20,.k (.d (.int .i64)))],[((.exit 0),[]),(.ret,[(6,.k (.d (.int .i64)))])],bnd tb (.slot 19) 1⟩)] [] [] []
def a4o:Row I:=⟨255,[.d (.sl 100),.d (.sl 100),.fn [.dat 100,.dat 100] [.k (.d (.int .i64))]],[.k (.d (.int .i64))],a14⟩
theorem a4C:RK (a4o) :=
 okR [eR X3] 37 a5b [.tmp 6] Go.Proofs.Tryz.func255 (by kernel_rfl)
def a4v:Hints I:=mkH [(7,[[],[],[],[1,2],[1,2,3],[],[],[5,6],[5,6,7],[0,1,2,3,4,5,6,7,8],[0,1,2,3,4,5,6,7,8,9]])] [] [] [] [(58,⟨137437905728,[],[],[(20,.k (.d (.int .i64)))],[((.exit 0),[]),(.ret,[(6,.k (.d (.int .i64)))])],bnd tb (.slot 19) 1⟩)] [] [] []
def a3z:Row I:=⟨256,[.d (.sl 48),.d (.sl 48),.fn [.dat 48,.dat 48] [.k (.d (.int .i64))]],[.k (.d (.int .i64))],a1D⟩
theorem a3S:RK (a3z) :=
 okR [eR X3] 37 a4v [.tmp 6] Go.Proofs.Tryz.func256 (by kernel_rfl)
def a5p:Hints I:=mkH [(7,[[],[],[],[1,2],[1,2,3],[],[],[5,6],[5,6,7],[0,1,2,3,4,5,6,7,8],[0,1,2,3,4,5,6,7,8,9]])] [] [] [] [(58,⟨137437905728,[],[],[(20,.k (.d (.int .i64)))],[((.exit 0),[]),(.ret,[(6,.k (.d (.int .i64)))])],bnd tb (.slot 19) 1⟩)] [] [] []
def a4B:Row I:=⟨257,[.d (.sl 9),.d (.sl 9),.fn [.str,.str] [.k (.d (.int .i64))]],[.k (.d (.int .i64))],a2j⟩
theorem a5g:RK (a4B) :=
 okR [eR X3] 37 a5p [.tmp 6] Go.Proofs.Tryz.func257 (by kernel_rfl)
def a0d (n:Nat):Row I:=⟨199,[.d (.dat 27),.d (.dat 27)],[.k (.d (.int .i64))],b1W n⟩
def J3 (n:Nat):Row I:=⟨147,[.d (.dat 48),.d (.dat 48)],[.k (.d (.int .i64))],a3T n⟩
def W1 (n:Nat):Row I:=⟨198,[.d (.sl 27),.d (.sl 27)],[.k (.d (.int .i64))],b2u n⟩
theorem b4B (n:Nat)(_:j6 Go.Proofs.Tryz.prog (a0d n))(h_value_compareEntries:j6 Go.Proofs.Tryz.prog (J3 n))(h_value_compareValues:j6 Go.Proofs.Tryz.prog (W1 n)):RK (a0d (n+1)) :=
 okR [eR X3,eR a4p,eR a2B,eR a4C,eR a1T,eR h_value_compareValues,eR a3S,eR h_value_compareEntries,eR a5g] 64 Z5 [.tmp 4] Go.Proofs.Tryz.func199 (by kernel_rfl)
theorem a60 (n:Nat)(h_value_Compare:j6 Go.Proofs.Tryz.prog (a0d n))(_:j6 Go.Proofs.Tryz.prog (J3 n))(h_value_compareValues:j6 Go.Proofs.Tryz.prog (W1 n)):RK (J3 (n+1)) :=
 okR [eR h_value_compareValues,eR h_value_Compare] 26 Z5 [.tmp 4] Go.Proofs.Tryz.func147 (by kernel_rfl)
theorem a7K (n:Nat)(h_value_Compare:j6 Go.Proofs.Tryz.prog (a0d n))(_:j6 Go.Proofs.Tryz.prog (J3 n))(_:j6 Go.Proofs.Tryz.prog (W1 n)):RK (W1 (n+1)) :=
 okR [eR a3R,eR h_value_Compare] 8 Z5 [.tmp 4] Go.Proofs.Tryz.func198 (by kernel_rfl)
theorem a1M:∀ n:Nat,j6 Go.Proofs.Tryz.prog (a0d n)/\j6 Go.Proofs.Tryz.prog (J3 n)/\j6 Go.Proofs.Tryz.prog (W1 n)
 | 0=>⟨Q1 (by kernel_rfl),Q1 (by kernel_rfl),Q1 (by kernel_rfl)⟩
 | n+1=>by
   obtain ⟨h0,h1,h2⟩:=a1M n
   exact ⟨b4B n h0 h1 h2,a60 n h0 h1 h2,a7K n h0 h1 h2⟩
theorem b5b (n:Nat):j6 Go.Proofs.Tryz.prog (a0d n):=(a1M n).1
theorem a7Z (n:Nat):j6 Go.Proofs.Tryz.prog (J3 n):=(a1M n).2.1
def b64 (n:Nat):Row I:=⟨196,[.d (.dat 27),.d (.dat 27)],[.k (.d (.bool))],b4U n⟩
theorem b7P (n:Nat):RK (b64 n) :=
 okR [eR (b5b n)] 9 Z5 [.tmp 4] Go.Proofs.Tryz.func196 (by kernel_rfl)
def b5A (n:Nat):Row I:=⟨144,[.d (.dat 27)],[.k (.d (.bool))],b2M n⟩
theorem b6W (n:Nat):RK (b5A n) :=
 okR [eR (b7P n)] 6 Z5 [.tmp 2] Go.Proofs.Tryz.func144 (by kernel_rfl)
def b07 (n:Nat):Row I:=⟨99,[.d (.dat 48),.d (.int .i64)],[.k (.d (.bool))],a7a n⟩
theorem b2H (n:Nat):RK (b07 n) :=
 okR [eR (b6W n)] 20 Z5 [.tmp 4] Go.Proofs.Tryz.func99 (by kernel_rfl)
def b0v (_:Nat):Hints I:=mkH [] [] [] [] [(58,⟨4290773012,[],[],[(22,.k (.d (.int .i64)))],[((.exit 0),[]),(.ret,[(2,.k (.d (.bool)))])],bnd tb (.slot 21) 1⟩)] [] [] []
def a78 (n:Nat):Row I:=⟨220,[.d (.dat 27)],[.k (.d (.bool))],a4K n⟩
theorem a9j (n:Nat):RK (a78 n) :=
 okR [eR a4V,eR (a7Z n),eR (b2H n)] 32 (b0v n) [.tmp 2] Go.Proofs.Tryz.func220 (by kernel_rfl)
def b2t (n:Nat):Row I:=⟨154,[.d (.dat 27)],[.k (.d (.bool))],a8f n⟩
theorem b3z (n:Nat):RK (b2t n) :=
 okR [eR b8y,eR b0V,eR a4s,eR b4p,eR (a9j n)] 124 Z5 [.tmp 2] Go.Proofs.Tryz.func154 (by kernel_rfl)
def b8F:Hints I:=mkH [] [] [] [] [(58,⟨536866856,[],[],[(3,.k (.row 27 false)),(12,.k (.d (.int .i64)))],[((.exit 0),[(3,.k (.row 27 false))])],bnd tb (.slot 11) 1⟩)] [] [] []
def b6Q:Row I:=⟨155,[.d (.dat 27)],[.k (.row 27 false)],b4Y⟩
theorem b7H:RK (b6Q) :=
 okR [eR c4X] 30 b8F [.tmp 2] Go.Proofs.Tryz.func155 (by kernel_rfl)
def b4s (_:Nat):Hints I:=mkH [] [] [] [] [(58,⟨522260,[9],[],[(11,.k (.d (.int .i64)))],[((.exit 0),[]),(.ret,[(2,.k (.d (.bool)))])],bnd tb (.slot 10) 1⟩)] [] [] []
def a2a (n:Nat):Row I:=⟨109,[.d (.dat 27)],[.k (.d (.bool))],a3Z n⟩
theorem b2A (n:Nat)(h_value_validTree:j6 Go.Proofs.Tryz.prog (a2a n)):RK (a2a (n+1)) :=
 okR [eR (b3z n),eR b7H,eR h_value_validTree] 19 (b4s n) [.tmp 2] Go.Proofs.Tryz.func109 (by kernel_rfl)
theorem a5A:∀ n:Nat,j6 Go.Proofs.Tryz.prog (a2a n)
 | 0=>Q1 (by kernel_rfl)
 | n+1=>b2A n (a5A n)
def b2J (n:Nat):Row I:=⟨66,[.d (.dat 27)],[.k (.d (.int .i64))],a9U n⟩
theorem b4H (n:Nat):RK (b2J n) :=
 okR [eR (a5A n)] 6 Z5 [.tmp 2] Go.Proofs.Tryz.func66 (by kernel_rfl)
def c0q (_:Nat):Hints I:=mkH [] [] [] [(61,⟨36893488147417008032,[],[(4,.lvs [.d (.int .i64),.d (.int .i64),.d (.str),.row 27 false,.row 100 false,.row 48 false,.row 9 false]),(6,.lvs [.d (.int .i64),.d (.int .i64),.d (.str),.d (.sl 27),.d (.sl 100),.d (.sl 48),.d (.sl 9)])],[(.normal,[]),(.ret,[(5,.k (.d (.int .i64)))])]⟩)] [] [] [] []
def b8x (n:Nat):Row I:=⟨35,[.d (.dat 71),.d (.sl 27)],[.k (.d (.dat 27)),.k (.d (.int .i64))],b76 n⟩
theorem b9u (n:Nat):RK (b8x n) :=
 okR [eR (b7a n),eR (b2s n),eR a8j,eR (b4H n)] 75 (c0q n) [.cell 4 27,.tmp 5] Go.Proofs.Tryz.func35 (by kernel_rfl)
def b8H (_:Nat):Hints I:=mkH [(5,[[],[],[],[2],[1,2,3],[1,2,3,4],[0,1,2,3,4,5],[0,1,2,3,4,5,6]])] [] [] [] [(58,⟨4193440,[],[],[(5,.k (.row 27 false)),(10,.k (.d (.int .i64)))],[((.exit 0),[(5,.k (.row 27 false))])],bnd tb (.slot 9) 1⟩)] [] [] []
def a2m (n:Nat):Row I:=⟨36,[.lnt [.map 52 (.sl 74),.map 53 (.int .i64)],.d (.sl 42)],[.k (.row 27 false)],c0m n⟩
def b6M (_:Nat):Hints I:=mkH [(4,[[],[],[0,1],[],[3],[],[3,4,5],[0,1,2,3,4,5,6]]),(7,[[],[0],[],[],[3],[3,4],[2,3,4,5],[0,1,2,3,4,5,6],[0,1,2,3,4,5,6,7],[0,1,2,3,4,5,6,7,8],[0,1,2,3,4,5,6,7,8],[],[0,1,2,3,4,5,6,7,8,9,11],[0,1,2,3,4,5,6,7,8,9,10,11,12]])] [] [] [] [(26,⟨140737488339392,[],[(4,.lvs [.d (.int .i64),.d (.int .i64),.d (.str),.d (.sl 27),.d (.sl 100),.d (.sl 48),.d (.sl 9)])],[(14,.k (.d (.int .i64)))],[((.exit 0),[]),(.ret,[])],bnd tb (.slot 13) 1⟩)] [] [] []
def a0F (n:Nat):Row I:=⟨15,[.lnt [.map 52 (.sl 74),.map 53 (.int .i64)],.d (.str)],[.k (.d (.dat 27))],b1Y n⟩
theorem b6K (n:Nat)(_:j6 Go.Proofs.Tryz.prog (a2m n))(h_witness_build:j6 Go.Proofs.Tryz.prog (a0F n)):RK (a2m (n+1)) :=
 okR [eR b57,eR h_witness_build] 23 (b8H n) [.tmp 4] Go.Proofs.Tryz.func36 (by kernel_rfl)
theorem b4D (n:Nat)(h_witness_all:j6 Go.Proofs.Tryz.prog (a2m n))(_:j6 Go.Proofs.Tryz.prog (a0F n)):RK (a0F (n+1)) :=
 okR [eR a3H,eR h_witness_all,eR (b9u n)] 48 (b6M n) [.cell 4 27] Go.Proofs.Tryz.func15 (by kernel_rfl)
theorem a5L:∀ n:Nat,j6 Go.Proofs.Tryz.prog (a2m n)/\j6 Go.Proofs.Tryz.prog (a0F n)
 | 0=>⟨Q1 (by kernel_rfl),Q1 (by kernel_rfl)⟩
 | n+1=>by
   obtain ⟨h0,h1⟩:=a5L n
   exact ⟨b6K n h0 h1,b4D n h0 h1⟩
theorem b47 (n:Nat):j6 Go.Proofs.Tryz.prog (a0F n):=(a5L n).2
def b6U (_:Nat):Hints I:=mkH [(4,[[],[0],[],[2],[0,1,2,3],[0,1,2,3,4]]),(9,[[],[],[1],[0,1,2],[0,1,2,3],[0,1,2,3,4]])] [] [] [] [] [] [] []
noncomputable def b4r (n:Nat):Row I:=⟨9,[.d (.dat 33),.d (.dat 42)],[.k (.d (.dat 27)),.k (.d (.int .i64))],b1U n⟩
theorem b5Y (n:Nat):RK (b4r n) :=
 okR [eR (a1h n),eR b0b,eR (b5x n),eR b57,eR (b47 n)] 36 (b6U n) [.cell 4 27,.tmp 5] Go.Proofs.Tryz.func9 (by kernel_rfl)
noncomputable def b3J (n:Nat):Row I:=⟨4,[.d (.dat 33)],[.k (.d (.dat 27)),.k (.d (.int .i64))],a2R n⟩
theorem a6b (n:Nat):RK (b3J n) :=
 okR [eR (b5Y n)] 12 Z5 [.cell 2 27,.tmp 3] Go.Proofs.Tryz.func4 (by kernel_rfl)
noncomputable def a8M (n:Nat):Row I:=⟨6,[],[.k (.d (.bool))],a2r n⟩
theorem a9x (n:Nat):RK (a8M n) :=
 okR [eR (a6b n)] 46 Z5 [.tmp 0] Go.Proofs.Tryz.func6 (by kernel_rfl)
def b0L (_:Nat):Hints I:=mkH [] [] [] [(978,⟨288230375077970120,[],[],[(.normal,[(3,.k (.d (.int .i64)))])]⟩)] [(58,⟨8388376,[],[],[(3,.k (.d (.int .i64))),(4,.k (.d (.int .i64)))],[((.exit 0),[(3,.k (.d (.int .i64)))])],bnd tb (.len (.ld 22 (.fld 27 3 (.slot 1)))) 1⟩),
 (122,⟨288230376143323368,[],[],[(3,.k (.d (.int .i64))),(5,.k (.d (.int .i64)))],[((.exit 2),[(3,.k (.d (.int .i64)))])],bnd tb (.len (.ld 24 (.fld 27 5 (.slot 1)))) 1⟩),
 (31306,⟨1125865547104392,[],[],[(3,.k (.d (.int .i64))),(7,.k (.d (.int .i64)))],[((.exit 4),[(3,.k (.d (.int .i64)))])],bnd tb (.len (.ld 22 (.fld 48 0 (.slot 6)))) 1⟩)] [] [] []
def a1j (n:Nat):Row I:=⟨7,[.d (.dat 27)],[.k (.d (.int .i64))],a2A n⟩
theorem a8N (n:Nat)(h_semtyperef1_Height:j6 Go.Proofs.Tryz.prog (a1j n)):RK (a1j (n+1)) :=
 okR [eR h_semtyperef1_Height] 60 (b0L n) [.tmp 2] Go.Proofs.Tryz.func7 (by kernel_rfl)
theorem a3F:∀ n:Nat,j6 Go.Proofs.Tryz.prog (a1j n)
 | 0=>Q1 (by kernel_rfl)
 | n+1=>a8N n (a3F n)
def a9Y:Row I:=⟨110,[.d (.int .u8)],[.k (.d (.bool))],a2W⟩
theorem b0S:RK (a9Y) :=
 okR [] 9 Z5 [.tmp 2] Go.Proofs.Tryz.func110 (by kernel_rfl)
def a97:Row I:=⟨111,[.d (.int .u8)],[.k (.d (.bool))],a1v⟩
theorem a4a:RK (a97) :=
 okR [] 9 Z5 [.tmp 2] Go.Proofs.Tryz.func111 (by kernel_rfl)
def a9P:Row I:=⟨112,[.d (.int .u8)],[.k (.d (.bool))],a27⟩
theorem a4h:RK (a9P) :=
 okR [] 9 Z5 [.tmp 2] Go.Proofs.Tryz.func112 (by kernel_rfl)
def a68:Hints I:=mkH [] [] [] [] [(58,⟨562949953159180,[],[],[(3,.k (.d (.int .i64)))],[((.exit 0),[]),(.ret,[(2,.k (.d (.bool)))])],bnd tb (.len (.slot 0)) 1⟩)] [] [] []
def a5W:Row I:=⟨67,[.d (.str)],[.k (.d (.bool))],a1m⟩
theorem a2g:RK (a5W) :=
 okR [eR b0S,eR a4a,eR a4h] 49 a68 [.tmp 2] Go.Proofs.Tryz.func67 (by kernel_rfl)
def b0T:Hints I:=mkH [] [] [] [] [(58,⟨4398046248972,[],[],[(3,.k (.d (.int .i64)))],[((.exit 0),[]),(.ret,[(2,.k (.d (.bool)))])],bnd tb (.len (.slot 0)) 1⟩)] [] [] []
def a8C:Row I:=⟨68,[.d (.str)],[.k (.d (.bool))],a08⟩
theorem a1B:RK (a8C) :=
 okR [eR a4a,eR a4h] 42 b0T [.tmp 2] Go.Proofs.Tryz.func68 (by kernel_rfl)
def a7b:Row I:=⟨69,[.d (.dat 100)],[.k (.d (.bool))],a1W⟩
theorem a2T:RK (a7b) :=
 okR [eR a1B] 22 Z5 [.tmp 2] Go.Proofs.Tryz.func69 (by kernel_rfl)
def b0z:Row I:=⟨113,[.d (.int .i64),.d (.int .i64)],[.k (.d (.int .i64))],a1s⟩
theorem a1U:RK (b0z) :=
 okR [] 11 Z5 [.tmp 4] Go.Proofs.Tryz.func113 (by kernel_rfl)
def b00:Row I:=⟨114,[.d (.str),.d (.str)],[.k (.d (.int .i64))],a1V⟩
theorem a4H:RK (b00) :=
 okR [] 11 Z5 [.tmp 4] Go.Proofs.Tryz.func114 (by kernel_rfl)
def a5B:Row I:=⟨70,[.d (.dat 100),.d (.dat 100)],[.k (.d (.int .i64))],a0j⟩
theorem a0E:RK (a5B) :=
 okR [eR a1U,eR a4H] 20 Z5 [.tmp 4] Go.Proofs.Tryz.func70 (by kernel_rfl)
def a9S:Row I:=⟨156,[.d (.int .i64),.d (.int .i64)],[.k (.d (.int .i64))],a0e⟩
theorem a4l:RK (a9S) :=
 okR [eR a1U] 8 Z5 [.tmp 4] Go.Proofs.Tryz.func156 (by kernel_rfl)
def b0H (_:Nat):Hints I:=mkH [(12,[[],[0],[],[0,1,2],[0,1,2,3],[],[5],[],[5,6,7],[5,6,7,8],[0,1,2,3,4,5,6,7,8,9],[0,1,2,3,4,5,6,7,8,9,10]]),(23,[[],[0],[],[0,1,2],[0,1,2,3],[],[5],[],[5,6,7],[5,6,7,8],[0,1,2,3,4,5,6,7,8,9],[0,1,2,3,4,5,6,7,8,9,10]]),(31,[[],[0],[],[0,1,2],[0,1,2,3],[],[5],[],[5,6,7],[5,6,7,8],[0,1,2,3,4,5,6,7,8,9],[0,1,2,3,4,5,6,7,8,9,10]])] [] [] [] [(506,⟨151115655394234608910448,[],[],[(5,.k (.d (.int .i64)))],[((.exit 0),[]),(.ret,[(4,.k (.d (.int .i64)))])],bnd tb (.len (.ld 23 (.fld 27 4 (.slot 2)))) 1⟩),
 (8186,⟨1329227361959615758789106311928742672,[],[],[(8,.k (.d (.int .i64)))],[((.exit 2),[]),(.ret,[(4,.k (.d (.int .i64)))])],bnd tb (.len (.ld 24 (.fld 27 5 (.slot 2)))) 1⟩),
 (32762,⟨45671904388519233253803489366408968731082361872,[],[],[(10,.k (.d (.int .i64)))],[((.exit 4),[]),(.ret,[(4,.k (.d (.int .i64)))])],bnd tb (.len (.ld 25 (.fld 27 6 (.slot 2)))) 1⟩)] [] [] []
def J8 (n:Nat):Row I:=⟨115,[.d (.dat 27),.d (.dat 27)],[.k (.d (.int .i64))],a4N n⟩
def b1v (_:Nat):Hints I:=mkH [(6,[[],[],[0,1],[0,1,2],[],[],[4,5],[4,5,6],[0,1,2,3,4,5,6,7],[0,1,2,3,4,5,6,7,8]])] [] [] [] [(58,⟨34359607408,[],[],[(5,.k (.d (.int .i64)))],[((.exit 0),[]),(.ret,[(4,.k (.d (.int .i64)))])],bnd tb (.len (.slot 0)) 1⟩)] [] [] []
def W9 (n:Nat):Row I:=⟨116,[.d (.sl 27),.d (.sl 27)],[.k (.d (.int .i64))],b3B n⟩
def Y9 (n:Nat):Row I:=⟨72,[.d (.dat 48),.d (.dat 48)],[.k (.d (.int .i64))],a12 n⟩
theorem a7I (n:Nat)(_:j6 Go.Proofs.Tryz.prog (J8 n))(h_semtyperef1_values:j6 Go.Proofs.Tryz.prog (W9 n))(h_semtyperef1_CompareEntries:j6 Go.Proofs.Tryz.prog (Y9 n)):RK (J8 (n+1)) :=
 okR [eR a4l,eR a1U,eR a4H,eR a0E,eR h_semtyperef1_values,eR h_semtyperef1_CompareEntries] 155 (b0H n) [.tmp 4] Go.Proofs.Tryz.func115 (by kernel_rfl)
theorem a8B (n:Nat)(h_semtyperef1_Compare:j6 Go.Proofs.Tryz.prog (J8 n))(_:j6 Go.Proofs.Tryz.prog (W9 n))(_:j6 Go.Proofs.Tryz.prog (Y9 n)):RK (W9 (n+1)) :=
 okR [eR a4l,eR h_semtyperef1_Compare] 35 (b1v n) [.tmp 4] Go.Proofs.Tryz.func116 (by kernel_rfl)
theorem a33 (n:Nat)(h_semtyperef1_Compare:j6 Go.Proofs.Tryz.prog (J8 n))(h_semtyperef1_values:j6 Go.Proofs.Tryz.prog (W9 n))(_:j6 Go.Proofs.Tryz.prog (Y9 n)):RK (Y9 (n+1)) :=
 okR [eR h_semtyperef1_values,eR h_semtyperef1_Compare] 26 Z5 [.tmp 4] Go.Proofs.Tryz.func72 (by kernel_rfl)
theorem a0C:∀ n:Nat,j6 Go.Proofs.Tryz.prog (J8 n)/\j6 Go.Proofs.Tryz.prog (W9 n)/\j6 Go.Proofs.Tryz.prog (Y9 n)
 | 0=>⟨Q1 (by kernel_rfl),Q1 (by kernel_rfl),Q1 (by kernel_rfl)⟩
 | n+1=>by
   obtain ⟨h0,h1,h2⟩:=a0C n
   exact ⟨a7I n h0 h1 h2,a8B n h0 h1 h2,a33 n h0 h1 h2⟩
theorem a8K (n:Nat):j6 Go.Proofs.Tryz.prog (J8 n):=(a0C n).1
theorem a4G (n:Nat):j6 Go.Proofs.Tryz.prog (Y9 n):=(a0C n).2.2
def a9V (n:Nat):Row I:=⟨71,[.d (.dat 27),.d (.dat 27)],[.k (.d (.bool))],a6d n⟩
theorem b1f (n:Nat):RK (a9V n) :=
 okR [eR (a8K n)] 9 Z5 [.tmp 4] Go.Proofs.Tryz.func71 (by kernel_rfl)
def b3T (_:Nat):Hints I:=mkH [(4,[[],[0],[],[0,1,2],[0,1,2,3],[0,1,2,3,4],[0,1,2,3,4,5],[0,1,2,3,4,5,6],[0,1,2,3,4,5,6,7],[0,1,2,3,4,5,6,7,8],[0,1,2,3,4,5,6,7,8,9],[0,1,2,3,4,5,6,7,8,9,10],[0,1,2,3,4,5,6,7,8,9,10,11],[0,1,2,3,4,5,6,7,8,9,10],[0,1,2,3,4,5,6,7,8,9,10,13],[0,1,2,3,4,5,6,7,8,9,10,11,12,13,14],[0,1,2,3,4,5,6,7,8,9,10,11,12,13,14,15],[0,1,2,3,4,5,6,7,8,9,10],[0,1,2,3,4,5,6,7,8,9,10,17],[0,1,2,3,4,5,6,7,8,9,10],[0,1,2,3,4,5,6,7,8,9,10,17,18,19],[0,1,2,3,4,5,6,7,8,9,10,17,18,19,20],[0,1,2,3,4,5,6,7,8,9,10,11,12,13,14,15,16,17,18,19,20,21],[0,1,2,3,4,5,6,7,8,9,10,11,12,13,14,15,16,17,18,19,20,21,22],[0,1,2,3,4,5,6,7,8,9,10,11,12,13,14,15,16,17,18,19,20,21,22,23]]),(29,[[],[0],[],[0,1,2],[0,1,2,3],[0,1,2,3,4],[0,1,2,3,4,5],[0,1,2,3,4,5,6],[0,1,2,3,4,5,6,7],[0,1,2,3,4,5,6,7,8],[0,1,2,3,4,5,6,7,8,9],[0,1,2,3,4,5,6,7,8,9,10],[0,1,2,3,4,5,6,7,8,9,10,11],[0,1,2,3,4,5,6,7,8,9,10],[0,1,2,3,4,5,6,7,8,9,10,13],[0,1,2,3,4,5,6,7,8,9,10,11,12,13,14],[0,1,2,3,4,5,6,7,8,9,10,11,12,13,14,15],[0,1,2,3,4,5,6,7,8,9,10],[0,1,2,3,4,5,6,7,8,9,10,17],[0,1,2,3,4,5,6,7,8,9,10],[0,1,2,3,4,5,6,7,8,9,10,17,18,19],[0,1,2,3,4,5,6,7,8,9,10,17,18,19,20],[0,1,2,3,4,5,6,7,8,9,10,11,12,13,14,15,16,17,18,19,20,21],[0,1,2,3,4,5,6,7,8,9,10,11,12,13,14,15,16,17,18,19,20,21,22],[0,1,2,3,4,5,6,7,8,9,10,11,12,13,14,15,16,17,18,19,20,21,22,23],[0,1,2,3,4,5,6,7,8,9,10,11,12,13,14,15,16,17,18,19,20,21,22,23,24]]),(39,[[],[0],[0,1],[],[3],[0,1,2,3,4],[0,1,2,3,4,5],[0,1,2,3,4,5,6],[0,1,2,3,4,5,6,7],[0,1,2,3,4,5,6,7,8],[0,1,2,3,4,5,6,7,8,9],[0,1,2,3,4,5,6,7,8,9,10],[0,1,2,3,4,5,6,7,8,9],[0,1,2,3,4,5,6,7,8,9,10,11,12],[0,1,2,3,4,5,6,7,8,9,10,11,12,13],[0,1,2,3,4,5,6,7,8,9,10,11,12,13,14],[0,1,2,3,4,5,6,7,8,9,10,11,12,13,14,15],[0,1,2,3,4,5,6,7,8,9,10,11,12,13,14,15,16],[0,1,2,3,4,5,6,7,8,9,10,11,12,13,14,15,16,17],[0,1,2,3,4,5,6,7,8,9,10,11,12,13,14,15,16,17,18],[0,1,2,3,4,5,6,7,8,9,10,11,12,13,14,15,16,17,18,19],[0,1,2,3,4,5,6,7,8,9,10,11,12,13,14,15,16,17,18,19,20],[0,1,2,3,4,5,6,7,8,9,10,11,12,13,14,15,16,17,18,19,20,21],[0,1,2,3,4,5,6,7,8,9,10,11,12,13,14,15,16,17,18,19,20],[0,1,2,3,4,5,6,7,8,9,10,11,12,13,14,15,16,17,18,19,20,23],[0,1,2,3,4,5,6,7,8,9,10,11,12,13,14,15,16,17,18,19,20,21,22,23,24],[0,1,2,3,4,5,6,7,8,9,10,11,12,13,14,15,16,17,18,19,20,21,22,23,24,25],[0,1,2,3,4,5,6,7,8,9,10,11,12,13,14,15,16,17,18,19,20],[0,1,2,3,4,5,6,7,8,9,10,11,12,13,14,15,16,17,18,19,20,21,22,23,24,25,26,27],[0,1,2,3,4,5,6,7,8,9,10,11,12,13,14,15,16,17,18,19,20,21,22,23,24,25,26,27,28],[0,1,2,3,4,5,6,7,8,9,10,11,12,13,14,15,16,17,18,19,20,21,22,23,24,25,26,27,28,29],[0,1,2,3,4,5,6,7,8,9,10,11,12,13,14,15,16,17,18,19,20,21,22,23,24,25,26,27,28,29,30]])] [] [] [(4073,⟨425352958651173079329218259289710264320,[],[],[(.normal,[(126,.k (.d (.bool)))])]⟩)] [(26,⟨4398046510092,[],[],[(3,.k (.d (.int .i64)))],[((.exit 0),[]),(.ret,[(2,.k (.d (.bool)))])],bnd tb (.len (.ld 25 (.fld 27 6 (.slot 1)))) 1⟩),
 (133562354,⟨411376139282411024886683268815639281647236804420309368268914820,[],[],[(7,.k (.d (.int .i64)))],[((.exit 3),[]),(.ret,[(2,.k (.d (.bool)))])],bnd tb (.len (.ld 23 (.fld 27 4 (.slot 1)))) 1⟩),
 (1068498922,⟨948568795032040353016559207911582007103813675119580226322391447047862150789858052,[],[],[(8,.k (.d (.int .i64)))],[((.exit 5),[]),(.ret,[(2,.k (.d (.bool)))])],bnd tb (.len (.ld 24 (.fld 27 5 (.slot 1)))) 1⟩)] [] [] []
def b0R (n:Nat):Row I:=⟨37,[.d (.dat 27)],[.k (.d (.bool))],a7G n⟩
theorem b2x (n:Nat):RK (b0R n) :=
 okR [eR a2g,eR a1B,eR a2T,eR a0E,eR (b1f n),eR (a4G n)] 269 (b3T n) [.tmp 2] Go.Proofs.Tryz.func37 (by kernel_rfl)
def b2r (_:Nat):Hints I:=mkH [] [] [] [] [(58,⟨16776204,[],[],[(3,.k (.d (.int .i64)))],[((.exit 0),[]),(.ret,[(2,.k (.d (.bool)))])],bnd tb (.len (.ld 22 (.fld 27 3 (.slot 1)))) 1⟩),
 (122,⟨576460752286646388,[],[],[(4,.k (.d (.int .i64)))],[((.exit 2),[]),(.ret,[(2,.k (.d (.bool)))])],bnd tb (.len (.ld 24 (.fld 27 5 (.slot 1)))) 1⟩),
 (31306,⟨1125831187365956,[],[],[(6,.k (.d (.int .i64)))],[((.exit 4),[]),(.ret,[(2,.k (.d (.bool)))])],bnd tb (.len (.ld 22 (.fld 48 0 (.slot 5)))) 1⟩)] [] [] []
def a1y (n:Nat):Row I:=⟨16,[.d (.dat 27)],[.k (.d (.bool))],a2Y n⟩
theorem a93 (n:Nat)(h_semtyperef1_Valid:j6 Go.Proofs.Tryz.prog (a1y n)):RK (a1y (n+1)) :=
 okR [eR (b2x n),eR h_semtyperef1_Valid] 59 (b2r n) [.tmp 2] Go.Proofs.Tryz.func16 (by kernel_rfl)
theorem a3W:∀ n:Nat,j6 Go.Proofs.Tryz.prog (a1y n)
 | 0=>Q1 (by kernel_rfl)
 | n+1=>a93 n (a3W n)
def a9J:Row I:=⟨18,[.d (.dat 33),.d (.int .i64)],[.k (.d (.bool))],W3⟩
theorem a1X:RK (a9J) :=
 okR [] 14 Z5 [.tmp 4] Go.Proofs.Tryz.func18 (by kernel_rfl)
def b3n:Hints I:=mkH [(4,[[],[],[1],[],[1,2,3],[1,2,3,4],[0,1,2,3,4,5],[0,1,2,3,4,5,6]]),(47,[[],[],[1],[0,1,2],[0,1,2,3],[0,1,2,3,4],[0,1,2,3,4,5],[0,1,2,3,4,5,6],[0,1,2,3,4,5,6,7],[0,1,2,3,4,5,6,7,8],[0,1,2,3,4,5,6,7,8,9],[0,1,2,3,4,5,6,7,8,9,10],[0,1,2,3,4,5,6,7,8,9,10,11],[0,1,2,3,4,5,6,7,8,9,10,11,12],[0,1,2,3,4,5,6,7,8,9,10,11,12,13],[0,1,2,3,4,5,6,7,8,9,10,11,12,13,14],[0,1,2,3,4,5,6,7,8,9,10,11,12,13,14,15],[0,1,2,3,4,5,6,7,8,9,10,11,12,13,14],[0,1,2,3,4,5,6,7,8,9,10,11,12,13,14,17],[0,1,2,3,4,5,6,7,8,9,10,11,12,13,14,15,16,17,18],[0,1,2,3,4,5,6,7,8,9,10,11,12,13,14,15,16,17,18,19],[0,1,2,3,4,5,6,7,8,9,10,11,12,13,14,15,16,17,18,19,20],[0,1,2,3,4,5,6,7,8,9,10,11,12,13,14],[0,1,2,3,4,5,6,7,8,9,10,11,12,13,14,22],[0,1,2,3,4,5,6,7,8,9,10,11,12,13,14,15,16,17,18,19,20,21,22,23],[0,1,2,3,4,5,6,7,8,9,10,11,12,13,14,15,16,17,18,19,20,21,22,23,24],[0,1,2,3,4,5,6,7,8,9,10,11,12,13,14,15,16,17,18,19,20,21,22,23,24,25],[0,1,2,3,4,5,6,7,8,9,10,11,12,13,14,15,16,17,18,19,20,21,22,23,24,25,26]])] [] [] [(2092029,⟨2706308199418088717232151174730781556736,[],[],[(.normal,[(122,.k (.d (.bool)))])]⟩),
 (535560189,⟨3568119231764899702645714923623737840956866560,[],[],[(.normal,[(149,.k (.d (.bool)))])]⟩)] [(26,⟨67106864,[],[],[(5,.k (.d (.int .i64)))],[((.exit 0),[]),(.ret,[(4,.k (.d (.bool)))])],bnd tb (.len (.ld 40 (.fld 46 4 (.slot 3)))) 1⟩),
 (68551704562,⟨1606938044257528773904631189422958917689486710763136902759952,[],[],[(9,.k (.d (.int .i64)))],[((.exit 3),[]),(.ret,[(4,.k (.d (.bool)))])],bnd tb (.len (.ld 43 (.fld 46 5 (.slot 3)))) 1⟩)] [] [] []
def b1y:Row I:=⟨38,[.d (.dat 33),.d (.dat 46)],[.k (.d (.bool))],a7w⟩
theorem b2f:RK (b1y) :=
 okR [eR a1X,eR a1B,eR a2g,eR a2T,eR a0E] 216 b3n [.tmp 4] Go.Proofs.Tryz.func38 (by kernel_rfl)
def a7N:Row I:=⟨39,[.d (.dat 46)],[.k (.d (.bool))],a4I⟩
theorem a9c:RK (a7N) :=
 okR [] 16 Z5 [.tmp 2] Go.Proofs.Tryz.func39 (by kernel_rfl)
def a6V (n:Nat):Hints I:=mkH [(6,[[],[],[1],[],[1,2,3],[1,2,3,4],[0,1,2,3,4,5],[0,1,2,3,4,5,6]])] [] [] [] [(58,⟨1073709068,[],[],[(3,.k (.d (.int .i64)))],[((.exit 0),[]),(.ret,[(2,.k (.d (.int .i64)))])],bnd tb (.len (.ld 31 (.fld 33 0 (.slot 1)))) 1⟩),
 (250,⟨4951760157141521082416628192,[],[],[(4,.k (.row 4 false)),(5,.k (.d (.int .i64)))],[((.exit 2),[(4,.k (.row 4 false))])],bnd tb (.len (.ld 31 (.fld 33 0 (.slot 1)))) 1⟩),
 (506,⟨10136253041668693690874029146628,[],[],[(4,.k (.row 4 false)),(9,.k (.d (.int .i64)))],[((.exit 8),[(4,.k (.row 4 false))]),(.ret,[(2,.k (.d (.int .i64))),(4,.k (.row 4 false))])],bnd tb (.len (.slot 4)) 1⟩),
 (16018,⟨4951760157141518900573241792,[],[],[(4,.k (.row 4 false)),(6,.k (.d (.int .i64)))],[((.exit 4),[(4,.k (.row 4 false))])],bnd tb (.len (.ld 31 (.fld 33 0 (.slot 1)))) 1⟩),
 (4100682,⟨4835703278177041722114432,[],[],[(4,.k (.row 4 false)),(7,.k (.d (.bool))),(8,.k (.d (.int .i64)))],[((.exit 6),[(4,.k (.row 4 false)),(7,.k (.d (.bool)))])],fun _=>some n⟩)] [] [] []
def a58 (n:Nat):Row I:=⟨17,[.d (.dat 33)],[.k (.d (.int .i64))],a3d n⟩
theorem a6t (n:Nat):RK (a58 n) :=
 okR [eR a1X,eR b2f,eR a9c] 103 (a6V n) [.tmp 2] Go.Proofs.Tryz.func17 (by kernel_rfl)
def b4R:Hints I:=mkH [(4,[[],[0],[],[0,1,2],[0,1,2,3],[],[0,1,2,3,4,5]])] [] [] [] [(26,⟨2097136,[],[],[(5,.k (.d (.int .i64)))],[((.exit 0),[]),(.ret,[(4,.k (.d (.int .i64)))])],bnd tb (.len (.ld 23 (.fld 27 4 (.slot 2)))) 1⟩)] [] [] []
def b2m:Row I:=⟨73,[.d (.dat 27),.d (.dat 100)],[.k (.d (.int .i64))],a8q⟩
theorem b3X:RK (b2m) :=
 okR [] 21 b4R [.tmp 4] Go.Proofs.Tryz.func73 (by kernel_rfl)
def b2w:Hints I:=mkH [(4,[[],[0],[],[0,1,2],[0,1,2,3],[0,1,2,3,4],[],[0,1,2,3,4,5,6]])] [] [] [] [(26,⟨4194288,[],[],[(5,.k (.d (.int .i64)))],[((.exit 0),[]),(.ret,[(4,.k (.d (.int .i64)))])],bnd tb (.len (.ld 43 (.fld 46 5 (.slot 2)))) 1⟩)] [] [] []
def b0G:Row I:=⟨74,[.d (.dat 46),.d (.dat 100)],[.k (.d (.int .i64))],a6a⟩
theorem b01:RK (b0G) :=
 okR [] 22 b2w [.tmp 4] Go.Proofs.Tryz.func74 (by kernel_rfl)
def a8E (_:Nat):Hints I:=mkH [(8,[[],[0],[],[],[3],[],[3,4,5],[0,1,2,3,4,5,6],[0,1,2,3,4,5,6,7],[0,1,2,3,4,5,6,7,8],[0,1,2,3,4,5,6,7,8,9],[0,1,2,3,4,5,6,7,8,9,10],[0,1,2,3,4,5,6,7,8,9,10,11],[0,1,2,3,4,5,6,7,8,9,10,11,12],[0,1,2,3,4,5,6,7,8,9,10,11],[0,1,2,3,4,5,6,7,8,9,10,11],[0,1,2,3,4,5,6,7,8,9,10,11,15],[0,1,2,3,4,5,6,7,8,9,10,11],[0,1,2,3,4,5,6,7,8,9,10,11,15,16,17],[0,1,2,3,4,5,6,7,8,9,10,11,15,16,17,18],[0,1,2,3,4,5,6,7,8,9,10,11,12,13,14,15,16,17,18,19],[0,1,2,3,4,5,6,7,8,9,10,11,12,13,14,15,16,17,18,19,20],[0,1,2,3,4,5,6,7,8,9,10,11,12,13,14,15,16,17,18,19,20,21],[0,1,2,3,4,5,6,7,8,9,10,11,12,13,14,15,16,17,18,19,20,21,22]])] [] [] [] [(122,⟨18014398509220672,[],[],[(8,.k (.d (.int .i64)))],[((.exit 0),[]),(.ret,[(6,.k (.d (.bool)))])],bnd tb (.len (.ld 24 (.fld 27 5 (.slot 3)))) 1⟩)] [] [] []
def J1 (n:Nat):Row I:=⟨42,[.d (.dat 27),.d (.dat 33),.d (.dat 46)],[.k (.d (.bool))],b1C n⟩
def a9F (_:Nat):Hints I:=mkH [(4,[[],[0],[],[0,1,2],[0,1,2,3],[0,1,2,3,4],[0,1,2,3,4,5],[0,1,2,3,4,5,6],[0,1,2,3,4,5,6,7],[0,1,2,3,4,5,6,7],[0,1,2,3,4,5,6,7,9],[0,1,2,3,4,5,6,7],[0,1,2,3,4,5,6,7,9,10,11],[0,1,2,3,4,5,6,7,9,10,11,12],[0,1,2,3,4,5,6,7,9,10,11,12,13],[0,1,2,3,4,5,6,7,8,9,10,11,12,13,14],[0,1,2,3,4,5,6,7,8,9,10,11,12,13,14,15],[0,1,2,3,4,5,6,7,8,9,10,11,12,13,14,15,16]]),(9,[[],[],[1],[],[1,2,3],[1,2,3,4],[0,1,2,3,4,5],[0,1,2,3,4,5,6]]),(13,[[],[0],[],[0,1,2],[0,1,2,3],[],[],[0,1,2,3,4,5,6],[0,1,2,3,4,5,6,7]])] [] [] [(3730,⟨575334852396581888,[],[],[(.normal,[(10,.k (.d (.int .i64)))])]⟩),
 (14925,⟨145268109580462720000,[],[],[(.normal,[(10,.k (.d (.int .i64)))])]⟩)] [(26,⟨68719474880,[],[],[(7,.k (.d (.int .i64)))],[((.exit 0),[]),(.ret,[(6,.k (.d (.bool)))])],bnd tb (.len (.ld 43 (.fld 46 5 (.slot 5)))) 1⟩),
 (58,⟨75557863725845603944256,[],[],[(8,.k (.d (.int .i64)))],[((.exit 2),[]),(.ret,[(6,.k (.d (.bool)))])],bnd tb (.len (.ld 23 (.fld 27 4 (.slot 3)))) 1⟩)] [] [] []
def K0 (n:Nat):Row I:=⟨41,[.d (.dat 27),.d (.dat 33),.d (.dat 46)],[.k (.d (.bool))],b2h n⟩
def b1q (_:Nat):Hints I:=mkH [(35,[[],[],[],[2],[],[2,3,4],[2,3,4,5],[0,1,2,3,4,5,6]]),(42,[[],[],[],[2],[],[2,3,4],[2,3,4,5],[0,1,2,3,4,5,6],[0,1,2,3,4,5,6,7]]),(46,[[],[],[],[2],[2,3],[2,3,4],[0,1,2,3,4,5],[0,1,2,3,4,5,6],[0,1,2,3,4,5,6,7]]),(51,[[],[0],[],[0,1,2],[0,1,2,3],[],[5],[0,1,2,3,4,5,6]])] [] [] [] [(506806140914,⟨365364258960126464239350440319934430733230145856,[],[],[(8,.k (.d (.int .i64)))],[((.exit 1),[]),(.ret,[(6,.k (.d (.bool)))])],bnd tb (.len (.ld 40 (.fld 46 4 (.slot 7)))) 1⟩),
 (2027224563698,⟨95779509802480722744478485512061607693151539203932736,[],[],[(9,.k (.d (.int .i64)))],[((.exit 3),[]),(.ret,[(6,.k (.d (.bool)))])],bnd tb (.len (.ld 40 (.fld 46 4 (.slot 7)))) 1⟩),
 (16217796509690,⟨12855112035213460536787957001890350341026617553047063680255040,[],[],[(10,.k (.d (.int .i64)))],[((.exit 5),[]),(.ret,[(6,.k (.d (.bool)))])],bnd tb (.len (.ld 25 (.fld 27 6 (.slot 3)))) 1⟩)] [] [] []
def Q8 (n:Nat):Row I:=⟨19,[.d (.dat 27),.d (.dat 33),.d (.int .i64)],[.k (.d (.bool))],a5x n⟩
def b0k (_:Nat):Hints I:=mkH [(6,[[],[],[0,1],[0,1,2],[],[],[],[5,6],[5,6,7],[0,1,2,3,4,5,6,7,8],[0,1,2,3,4,5,6,7,8,9]])] [] [] [] [(58,⟨1073733824,[],[],[(7,.k (.d (.int .i64)))],[((.exit 0),[]),(.ret,[(6,.k (.d (.bool)))])],bnd tb (.len (.slot 0)) 1⟩)] [] [] []
def J9 (n:Nat):Row I:=⟨40,[.d (.sl 27),.d (.dat 33),.d (.sl 3)],[.k (.d (.bool))],b2g n⟩
theorem a6S (n:Nat)(_:j6 Go.Proofs.Tryz.prog (J1 n))(_:j6 Go.Proofs.Tryz.prog (K0 n))(h_semtyperef7_member:j6 Go.Proofs.Tryz.prog (Q8 n))(h_semtyperef7_members:j6 Go.Proofs.Tryz.prog (J9 n)):RK (J1 (n+1)) :=
 okR [eR h_semtyperef7_members,eR h_semtyperef7_member] 54 (a8E n) [.tmp 6] Go.Proofs.Tryz.func42 (by kernel_rfl)
theorem a7L (n:Nat)(_:j6 Go.Proofs.Tryz.prog (J1 n))(_:j6 Go.Proofs.Tryz.prog (K0 n))(h_semtyperef7_member:j6 Go.Proofs.Tryz.prog (Q8 n))(_:j6 Go.Proofs.Tryz.prog (J9 n)):RK (K0 (n+1)) :=
 okR [eR b3X,eR b01,eR h_semtyperef7_member] 76 (a9F n) [.tmp 6] Go.Proofs.Tryz.func41 (by kernel_rfl)
theorem a81 (n:Nat)(h_semtyperef7_function:j6 Go.Proofs.Tryz.prog (J1 n))(h_semtyperef7_mapping:j6 Go.Proofs.Tryz.prog (K0 n))(h_semtyperef7_member:j6 Go.Proofs.Tryz.prog (Q8 n))(h_semtyperef7_members:j6 Go.Proofs.Tryz.prog (J9 n)):RK (Q8 (n+1)) :=
 okR [eR h_semtyperef7_members,eR h_semtyperef7_mapping,eR h_semtyperef7_function,eR h_semtyperef7_member] 203 (b1q n) [.tmp 6] Go.Proofs.Tryz.func19 (by kernel_rfl)
theorem a7Y (n:Nat)(_:j6 Go.Proofs.Tryz.prog (J1 n))(_:j6 Go.Proofs.Tryz.prog (K0 n))(h_semtyperef7_member:j6 Go.Proofs.Tryz.prog (Q8 n))(_:j6 Go.Proofs.Tryz.prog (J9 n)):RK (J9 (n+1)) :=
 okR [eR h_semtyperef7_member] 30 (b0k n) [.tmp 6] Go.Proofs.Tryz.func40 (by kernel_rfl)
theorem a1J:∀ n:Nat,j6 Go.Proofs.Tryz.prog (J1 n)/\j6 Go.Proofs.Tryz.prog (K0 n)/\j6 Go.Proofs.Tryz.prog (Q8 n)/\j6 Go.Proofs.Tryz.prog (J9 n)
 | 0=>⟨Q1 (by kernel_rfl),Q1 (by kernel_rfl),Q1 (by kernel_rfl),Q1 (by kernel_rfl)⟩
 | n+1=>by
   obtain ⟨h0,h1,h2,h3⟩:=a1J n
   exact ⟨a6S n h0 h1 h2 h3,a7L n h0 h1 h2 h3,a81 n h0 h1 h2 h3,a7Y n h0 h1 h2 h3⟩
theorem b0A (n:Nat):j6 Go.Proofs.Tryz.prog (Q8 n):=(a1J n).2.2.1
def a7E (n:Nat):Row I:=⟨10,[.d (.dat 27),.d (.dat 33),.d (.int .i64)],[.k (.d (.bool))],a38 n⟩
theorem a7M (n:Nat):RK (a7E n) :=
 okR [eR (a3W n),eR (a6t n),eR a1X,eR (b0A n)] 25 Z5 [.tmp 6] Go.Proofs.Tryz.func10 (by kernel_rfl)
def a8I (n:Nat):Row I:=⟨8,[.d (.dat 27),.d (.dat 33)],[.k (.d (.bool))],a5C n⟩
theorem b0r (n:Nat):RK (a8I n) :=
 okR [eR (a7M n)] 10 Z5 [.tmp 4] Go.Proofs.Tryz.func8 (by kernel_rfl)
def a4A (_:Nat):Hints I:=mkH [(5,[[],[0],[0,1],[0,1,2],[0,1,2,3],[0,1,2],[0,1,2,5],[0,1,2,3,4,5,6],[0,1,2,3,4,5,6,7],[0,1,2,3,4,5,6,7,8],[0,1,2,3,4,5,6,7,8,9],[0,1,2,3,4,5,6,7,8,9],[0,1,2,3,4,5,6,7,8,9,11],[0,1,2,3,4,5,6,7,8,9,10,11,12],[0,1,2,3,4,5,6,7,8,9,10,11,12,13],[0,1,2,3,4,5,6,7,8,9,10,11,12,13,14],[0,1,2,3,4,5,6,7,8,9,10,11,12,13,14,15],[0,1,2,3,4,5,6,7,8,9,10,11,12,13,14,15,16],[0,1,2,3,4,5,6,7,8,9,10,11,12,13,14,15,16,17]])] [] [] [] [] [] [] []
noncomputable def a3N (n:Nat):Row I:=⟨3,[.d (.int .u8)],[.k (.d (.bool))],Y8 n⟩
theorem a4c (n:Nat):RK (a3N n) :=
 okR [eR b0I,eR (a6b n),eR (a9x n),eR (a3F n),eR (b0r n)] 41 (a4A n) [.tmp 2] Go.Proofs.Tryz.func3 (by kernel_rfl)
end Go.Qx
end
section
namespace Go.Pl
open Go Go.RowKit Go.Sx Go.Qx
end Go.Pl
namespace Go.Pl
open Go Go.RowKit Go.Sx Go.Qx
end Go.Pl
end
section
namespace Go.Pl
open Go Go.RowKit Go.Sx Go.Qx Go.Proofs.YtbbgmfkdindhpaaGreatDoor
def b2L (w:World):S:=⟨w,fun b=>match w.heap[b]? with | some (.cells c _ _)=>(c.size,0) | _=>(0,0)⟩
section
variable {H:Type}{enc:TypeId×Value->H}{P:Program}{w:World}{base:Nat}{spare:Nat->Bool}{held:Bool}
end
end Go.Pl
end
section
namespace Go.Pl
open Go Go.RowKit Go.Sx Go.Qx
end Go.Pl
end
section
namespace Go.Pl
open Go Go.RowKit Go.Sx Go.Qx Go.Proofs.YtbbgmfkdindhpaaGreatDoor
theorem c5:Go.Proofs.Tryz.prog.cellsOf 5=1:=by kernel_rfl
section
variable {H:Type}{enc:TypeId×Value->H}{w:World}{base:Nat}{spare:Nat->Bool}{held:Bool}
end
end Go.Pl
end

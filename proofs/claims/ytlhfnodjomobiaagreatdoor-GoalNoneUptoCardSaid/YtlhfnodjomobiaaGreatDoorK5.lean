/- Part 5. -/
import Derived.Test.YtlhfnodjomobiaaGreatDoorK3
import Derived.Test.YtlhfnodjomobiaaGreatDoorK4
import Derived.ChangeArms
import Derived.KernelRfl
import Derived.OpenShut
import Derived.Test.YtlhfnodjomobiaaGreatDoorRows
section
namespace Go.Qx
open Go Go.RowKit Go.Sx
set_option maxHeartbeats 1600000
set_option maxRecDepth 100000
abbrev RK (r:Row I):Prop:=j5 Go.Proofs.Tryz.prog r
abbrev RO (r:Rio I):Prop:=a8N Go.Proofs.Tryz.prog r
def mkH (a:List (Nat×List (List Nat)))(b c:List (Nat×List Nat))(j:List (Nat×JH))(l:List (Nat×LH I))(k:List (Nat×KH I))(ns:List (Nat×NH I))(u:List (Nat×Nat)):Hints I :=
 ⟨fun i=>(asc a i).getD [],fun i=>(asc b i).getD [],fun i=>(asc c i).getD [],asc j,asc l,asc k,asc ns,fun i=>(asc u i).getD 0⟩
def Z5:Hints I:=mkH [] [] [] [] [] [] [] []
structure En where
 ans:Ans I
 ok:EntOk Go.Proofs.Tryz.prog ans
def enL:List En->List (Ans I)
 | []=>[]
 | e::r=>e.ans::enL r
theorem c07:∀ l:List En,c6H Go.Proofs.Tryz.prog (enL l)
 | []=>trivial
 | e::r=>⟨e.ok,c07 r⟩
def eR {r:Row I}(h:RK r):En:=⟨d1P tb r,d0k a7B h⟩
def eO {r:Rio I}(h:RO r):En:=⟨d1n tb r,d0F a7B h⟩
def eS {r:Row I}(T f j:Nat)(is:List Nat)(h:a9c Go.Proofs.Tryz.prog r (b8u T f j is)):En:=⟨c9A tb r (c1z T f j is),c4L a7B h (fun _ _ _ _ _ _ _ _ _ hO h hc hv=>c6N hO h hc hv)⟩
theorem okR {r:Row I}(l:List En){fn:Func}(nt:Nat)(H:Hints I)(rl:List ResultVar)(hf:(Go.Proofs.Tryz.prog).funcs[r.f]?=some fn)
 (h : (fn.body, fn.name == "runtime.NumGoroutine", fn.ntmps, fn.results.toList, Nat.ble r.ps.length nt, a17 H (c0c fn) 1, r.run) = (some (c0c fn), false, nt, rl, true, true, b5j r.ps (c9x tb (b8s (enL l) 3) H (c0c fn) nt r.ps r.rs rl))) : RK r := by
 simp only [Prod.mk.injEq] at h
 obtain ⟨h1,h2,h3,h4,h5,h6,h7⟩:=h
 exact d1T a7B (b5Q (c07 l) 3) mixed nt hf h1 h2 h3 h4 h5 h6 h7
theorem okO {r:Rio I}(l:List En){fn:Func}(nt:Nat)(H:Hints I)(rl:List ResultVar)(hf:(Go.Proofs.Tryz.prog).funcs[r.f]?=some fn)
 (h : (fn.body, fn.name == "runtime.NumGoroutine", fn.ntmps, fn.results.toList, Nat.ble (r.ps.length + 1) nt, a17 H (c0c fn) 1, r.run) = (some (c0c fn), false, nt, rl, true, true, fun xs => b5j r.ps (c9U tb (b8s (enL l) 3) H (c0c fn) nt r.E r.ps r.rs rl xs))) : RO r := by
 simp only [Prod.mk.injEq] at h
 obtain ⟨h1,h2,h3,h4,h5,h6,h7⟩:=h
 exact d03 a7B (b5Q (c07 l) 3) mixed nt hf h1 h2 h3 h4 h5 h6 h7
def d0G:Row I:=⟨263,[.d (.str),.d (.str)],[.k (.d (.int .i64))],c4I⟩
theorem d1a:j5 Go.Proofs.Tryz.prog d0G:=d1t Go.Proofs.Tryz.func263 (by kernel_rfl) rfl (by kernel_rfl) (by kernel_rfl)
def d06:Row I:=⟨42,[.d (.sl 3)],[.k (.row 3 false)],a0l 8⟩
theorem c3A:j5 Go.Proofs.Tryz.prog d06:=b57 a7B mixed Go.Proofs.Tryz.func42 (by kernel_rfl) (by kernel_rfl) (by kernel_rfl) Go.Proofs.Tryz.underlying22 rfl (by kernel_rfl) (fun _=>by kernel_rfl)
def d0g:Rio I:=⟨150,3,[],[],c6e⟩
theorem d1C:a8N Go.Proofs.Tryz.prog d0g:=c7S (I:=I) (E:=3) Go.Proofs.Tryz.lay150 150 (by kernel_rfl) (fun x=>x) Iff.rfl ⟨_,_,Go.Proofs.Tryz.func150,rfl,by kernel_rfl⟩
def d1c:Rio I:=⟨61,9,[],[],b8K⟩
theorem c6m:a8N Go.Proofs.Tryz.prog d1c:=c7u (I:=I) (E:=9) Go.Proofs.Tryz.lay61 61 (by kernel_rfl) (fun x=>x) Iff.rfl ⟨_,_,Go.Proofs.Tryz.func61,rfl,by kernel_rfl⟩
noncomputable def d0h:Rio I:=⟨280,205,[.fn [.dat 205,.dat 205] [.k (.d (.int .i64))]],[],c0P⟩
theorem d1R:a8N Go.Proofs.Tryz.prog d0h:=c73 Go.Proofs.Tryz.lay280 280 (by kernel_rfl) (by kernel_rfl) Go.Proofs.Tryz.underlying205 (by kernel_rfl)
def d1W:Row I:=⟨32,[.d (.sl 9)],[.k (.row 9 false)],a0l 16⟩
theorem b5z:j5 Go.Proofs.Tryz.prog d1W:=b57 a7B mixed Go.Proofs.Tryz.func32 (by kernel_rfl) (by kernel_rfl) (by kernel_rfl) Go.Proofs.Tryz.underlying33 rfl (by kernel_rfl) (fun _=>by kernel_rfl)
def d0b:Row I:=⟨184,[.d (.sl 35)],[.k (.row 35 false)],a0l 128⟩
theorem d08:j5 Go.Proofs.Tryz.prog d0b:=b57 a7B mixed Go.Proofs.Tryz.func184 (by kernel_rfl) (by kernel_rfl) (by kernel_rfl) Go.Proofs.Tryz.underlying30 rfl (by kernel_rfl) (fun _=>by kernel_rfl)
def d0x:Row I:=⟨126,[.d (.sl 106)],[.k (.row 106 false)],a0l 24⟩
theorem d1E:j5 Go.Proofs.Tryz.prog d0x:=b57 a7B mixed Go.Proofs.Tryz.func126 (by kernel_rfl) (by kernel_rfl) (by kernel_rfl) Go.Proofs.Tryz.underlying31 rfl (by kernel_rfl) (fun _=>by kernel_rfl)
def b5X:Hints I:=mkH [] [] [] [] [(26,⟨65532,[],[],[(3,.k (.d (.int .i64)))],[((.exit 0),[]),(.ret,[(2,.k (.d (.bool)))])],bnd tb (.len (.slot 0)) 1⟩)] [] [] []
def b3r:Row I:=⟨4,[.d (.sl 22)],[.k (.d (.bool))],a3N⟩
theorem b38:RK (b3r) :=
 okR [] 16 b5X [.tmp 2] Go.Proofs.Tryz.func4 (by kernel_rfl)
def b5E:Hints I:=mkH [] [] [] [(29,⟨16776824,[],[],[(.normal,[(3,.k (.d (.bool))),(4,.k (.d (.bool))),(5,.k (.d (.bool))),(6,.k (.d (.bool)))])]⟩),
 (941,⟨26624,[],[],[(.normal,[(11,.k (.d (.bool)))])]⟩),
 (3773,⟨4096000,[],[],[(.normal,[(15,.k (.d (.bool)))])]⟩)] [] [] [] []
def b3x:Row I:=⟨38,[.d (.dat 48)],[.k (.d (.bool))],a3F⟩
theorem b4I:RK (b3x) :=
 okR [] 67 b5E [.tmp 2] Go.Proofs.Tryz.func38 (by kernel_rfl)
def c2r:Hints I:=mkH [] [] [] [] [(58,⟨34351349952,[],[],[(7,.k (.d (.int .i64)))],[((.exit 0),[]),(.ret,[(6,.k (.d (.bool)))])],bnd tb (.len (.slot 0)) 1⟩)] [] [] []
def b9S:Row I:=⟨144,[.d (.str),.fn [.int .u8] [.k (.d (.bool))],.fn [.int .u8] [.k (.d (.bool))]],[.k (.d (.bool))],a5z⟩
theorem b2j:RK (b9S) :=
 okR [] 35 c2r [.tmp 6] Go.Proofs.Tryz.func144 (by kernel_rfl)
def b88:Row I:=⟨145,[.d (.int .u8)],[.k (.d (.bool))],a3z⟩
theorem a6z:RK (b88) :=
 okR [] 9 Z5 [.tmp 2] Go.Proofs.Tryz.func145 (by kernel_rfl)
def b85:Row I:=⟨147,[.d (.int .u8)],[.k (.d (.bool))],a4M⟩
theorem b0P:RK (b85) :=
 okR [] 9 Z5 [.tmp 2] Go.Proofs.Tryz.func147 (by kernel_rfl)
def b65:Row I:=⟨146,[.d (.int .u8)],[.k (.d (.bool))],a8F⟩
theorem b8X:RK (b65) :=
 okR [eR a6z,eR b0P] 13 Z5 [.tmp 2] Go.Proofs.Tryz.func146 (by kernel_rfl)
def c0f:Row I:=⟨88,[.d (.str)],[.k (.d (.bool))],a4j⟩
theorem a7o:RK (c0f) :=
 okR [eR b2j,eR a6z,eR b8X] 5 Z5 [.tmp 2] Go.Proofs.Tryz.func88 (by kernel_rfl)
def b86:Row I:=⟨148,[.d (.int .u8)],[.k (.d (.bool))],a4L⟩
theorem b0T:RK (b86) :=
 okR [] 9 Z5 [.tmp 2] Go.Proofs.Tryz.func148 (by kernel_rfl)
def b2N:Row I:=⟨149,[.d (.int .u8)],[.k (.d (.bool))],a5v⟩
theorem b4p:RK (b2N) :=
 okR [eR a6z,eR b0T,eR b0P] 17 Z5 [.tmp 2] Go.Proofs.Tryz.func149 (by kernel_rfl)
def b58:Row I:=⟨89,[.d (.str)],[.k (.d (.bool))],a27⟩
theorem a75:RK (b58) :=
 okR [eR b2j,eR b0T,eR b4p] 5 Z5 [.tmp 2] Go.Proofs.Tryz.func89 (by kernel_rfl)
def b8a:Row I:=⟨65,[.d (.dat 106)],[.k (.d (.bool))],a36⟩
theorem a9W:RK (b8a) :=
 okR [eR a7o] 16 Z5 [.tmp 2] Go.Proofs.Tryz.func65 (by kernel_rfl)
def b9a:Row I:=⟨208,[.d (.int .i64)],[.k (.d (.bool))],a6w⟩
theorem b9V:RK (b9a) :=
 okR [] 6 Z5 [.tmp 2] Go.Proofs.Tryz.func208 (by kernel_rfl)
def b6E:Row I:=⟨131,[.d (.int .i64),.d (.int .i64)],[.k (.d (.int .i64))],a0E⟩
theorem a1A:RK (b6E) :=
 okR [eR b9V] 20 Z5 [.tmp 4] Go.Proofs.Tryz.func131 (by kernel_rfl)
def a6a:Row I:=⟨209,[.d (.str),.d (.str)],[.k (.d (.int .i64))],a1L⟩
theorem a6q:RK (a6a) :=
 okR [eR d1a] 8 Z5 [.tmp 4] Go.Proofs.Tryz.func209 (by kernel_rfl)
def b6k:Row I:=⟨132,[.d (.str),.d (.str)],[.k (.d (.int .i64))],a1Q⟩
theorem a5t:RK (b6k) :=
 okR [eR a6q] 8 Z5 [.tmp 4] Go.Proofs.Tryz.func132 (by kernel_rfl)
def b4t:Row I:=⟨68,[.d (.dat 106),.d (.dat 106)],[.k (.d (.int .i64))],a11⟩
theorem a4z:RK (b4t) :=
 okR [eR a1A,eR a5t] 19 Z5 [.tmp 4] Go.Proofs.Tryz.func68 (by kernel_rfl)
def b3u:Hints I:=mkH [(4,[[],[0],[0,1],[0,1,2],[0,1,2,3],[0,1,2,3,4],[0,1,2,3,4,5],[0,1,2,3,4,5,6],[0,1,2,3,4,5,6,7],[0,1,2,3,4,5,6,7],[0,1,2,3,4,5,6,7,9],[0,1,2,3,4,5,6,7,8,9,10],[0,1,2,3,4,5,6,7,8,9,10,11],[0,1,2,3,4,5,6,7,8,9,10,11,12],[0,1,2,3,4,5,6,7],[0,1,2,3,4,5,6,7,14],[0,1,2,3,4,5,6,7,8,9,10,11,12,13,14,15],[0,1,2,3,4,5,6,7,8,9,10,11,12,13,14,15,16],[0,1,2,3,4,5,6,7,8,9,10,11,12,13,14,15,16,17],[0,1,2,3,4,5,6,7,8,9,10,11,12,13,14,15,16,17,18]])] [] [] [] [(26,⟨8589934492,[],[],[(7,.k (.d (.int .i64)))],[((.exit 0),[]),(.ret,[(2,.k (.d (.bool)))])],bnd tb (.slot 6) 1⟩)] [] [] []
def b1s:Row I:=⟨90,[.d (.sl 108)],[.k (.d (.bool))],a2Q⟩
theorem b1C:RK (b1s) :=
 okR [eR a9W,eR a4z] 33 b3u [.tmp 2] Go.Proofs.Tryz.func90 (by kernel_rfl)
def b5b:Hints I:=mkH [] [] [] [(105,⟨16288,[],[],[(.normal,[(5,.k (.d (.bool)))])]⟩),
 (28311549,⟨368934881474191032320,[],[],[(.normal,[(66,.k (.d (.bool)))])]⟩)] [] [] [] []
def b2t:Row I:=⟨39,[.d (.dat 48)],[.k (.d (.bool))],a3C⟩
theorem b3C:RK (b2t) :=
 okR [eR a7o,eR a75,eR b1C] 79 b5b [.tmp 2] Go.Proofs.Tryz.func39 (by kernel_rfl)
def b9K:Hints I:=mkH [] [] [] [] [(58,⟨4190248,[],[],[(3,.k (.row 3 false)),(12,.k (.d (.int .i64)))],[((.exit 0),[(3,.k (.row 3 false))])],bnd tb (.slot 11) 1⟩)] [] [] []
def b62:Row I:=⟨40,[.d (.dat 48)],[.k (.row 3 false)],a5L⟩
theorem b8U:RK (b62) :=
 okR [eR c3A] 35 b9K [.tmp 2] Go.Proofs.Tryz.func40 (by kernel_rfl)
def b2Q:Row I:=⟨92,[.d (.int .i64)],[.k (.d (.bool))],a3G⟩
theorem b3F:RK (b2Q) :=
 okR [] 13 Z5 [.tmp 2] Go.Proofs.Tryz.func92 (by kernel_rfl)
def b01 (_:Nat):Hints I:=mkH [] [] [] [] [(122,⟨140462610448544,[],[(1,.k (.row 3 false))],[(38,.k (.d (.int .i64)))],[((.exit 0),[]),(.ret,[(5,.k (.d (.bool)))])],bnd tb (.slot 37) 1⟩)] [] [] []
def a2w (n:Nat):Row I:=⟨91,[.d (.int .i64),.var 22 (.k (.row 3 false)) true,.var 27 (.k (.d (.dat 27))) false,.var 120 (.k (.d .any)) false],[.k (.d (.bool))],Q2 n⟩
theorem a9R (n:Nat)(h_typeexpr_contractive_1:a9c Go.Proofs.Tryz.prog (a2w n) (b8u 120 91 3 [1,2,3])):a9c Go.Proofs.Tryz.prog (a2w (n+1)) (b8u 120 91 3 [1,2,3]) :=
 d0i a7B (b5Q (c07 [eR b3F,eS 120 91 3 [1,2,3] h_typeexpr_contractive_1]) 3) mixed 50 (s0:=fun a=>c9I 120 91 3 3 [1,2,3] (a8C tb 50 [.d (.int .i64),.var 22 (.k (.row 3 false)) true,.var 27 (.k (.d (.dat 27))) false,.var 120 (.k (.d .any)) false] a)) (fn:=Go.Proofs.Tryz.f91) (cd:=c0c Go.Proofs.Tryz.f91) (H:=(b01 n)) (rl:=[.tmp 5]) (fun X c σ a vs F h hv hC=>c8A rfl rfl rfl h hv hC) Go.Proofs.Tryz.func91 (by kernel_rfl) (by kernel_rfl) (by kernel_rfl) (by kernel_rfl) (by kernel_rfl) (by kernel_rfl) (by kernel_rfl)
theorem a47:∀ n:Nat,a9c Go.Proofs.Tryz.prog (a2w n) (b8u 120 91 3 [1,2,3])
 | 0=>c7O (Y0 (by kernel_rfl))
 | n+1=>a9R n (a47 n)
def b2C (_:Nat):Hints I:=mkH [] [] [] [] [(250,⟨4177956,[],[(3,.k (.row 3 false))],[(14,.k (.d (.int .i64)))],[((.exit 0),[]),(.ret,[(2,.k (.d (.bool)))])],bnd tb (.slot 13) 1⟩)] [] [] []
def b1b (n:Nat):Row I:=⟨41,[.d (.dat 27)],[.k (.d (.bool))],a2N n⟩
theorem b1P (n:Nat):RK (b1b n) :=
 okR [eS 120 91 3 [1,2,3] (a47 n)] 22 (b2C n) [.tmp 2] Go.Proofs.Tryz.func41 (by kernel_rfl)
def b3P (_:Nat):Hints I:=mkH [] [] [] [] [(58,⟨2251799811588180,[],[],[(21,.k (.d (.int .i64)))],[((.exit 0),[]),(.ret,[(2,.k (.d (.int .i64)))])],bnd tb (.slot 20) 1⟩),
 (29902,⟨1125831187365956,[34],[],[(36,.k (.d (.int .i64)))],[((.exit 2),[]),(.ret,[(2,.k (.d (.int .i64)))])],bnd tb (.slot 35) 1⟩)] [] [] []
def b1M (n:Nat):Row I:=⟨19,[.d (.dat 27)],[.k (.d (.int .i64))],W2 n⟩
theorem a1g (n:Nat):RK (b1M n) :=
 okR [eR b4I,eR b3C,eR b8U,eR (b1P n)] 54 (b3P n) [.tmp 2] Go.Proofs.Tryz.func19 (by kernel_rfl)
def c23:Hints I:=mkH [(1,[[],[0],[0,1],[],[3],[0,1,2,3,4],[0,1,2,3,4,5],[]])] [] [] [] [(26,⟨268419152,[12],[],[(14,.k (.d (.int .i64)))],[((.exit 0),[]),(.ret,[(4,.k (.d (.bool)))])],bnd tb (.slot 13) 1⟩)] [] [] []
def c0U:Row I:=⟨20,[.d (.dat 27),.d (.dat 24)],[.k (.d (.bool))],a4U⟩
theorem a8x:RK (c0U) :=
 okR [eR c3A] 28 c23 [.tmp 4] Go.Proofs.Tryz.func20 (by kernel_rfl)
def b1u:Hints I:=mkH [(6,[[],[],[0,1],[0,1,2],[],[],[5],[4,5,6],[4,5,6,7],[0,1,2,3,4,5,6,7,8]]),(11,[[],[],[0,1],[0,1,2],[],[],[5],[4,5,6],[4,5,6,7],[0,1,2,3,4,5,6,7,8]])] [] [] [] [(58,⟨1152921504606846012,[],[],[(0,.k (.row 3 false)),(3,.k (.d (.int .i64)))],[((.exit 0),[(0,.k (.row 3 false))]),(.ret,[(2,.k (.row 3 false))])],bnd tb (.len (.slot 0)) 1⟩)] [(59690,⟨18014397972611112,0,3,[(3,.k (.d (.int .i64))),(5,.k (.d (.int .i64)))],[((.exit 2),[(3,.k (.d (.int .i64)))])],bnd tb (.len (.slot 4)) 1⟩)] [] []
def a9O:Row I:=⟨152,[.row 3 false],[.k (.row 3 false)],a6i⟩
theorem a97:RK (a9O) :=
 okR [] 61 b1u [.tmp 2] Go.Proofs.Tryz.func152 (by kernel_rfl)
def b1T:Row I:=⟨151,[.d (.sl 3)],[.k (.row 3 true)],a71⟩
theorem b2y:RK (b1T) :=
 okR [] 9 Z5 [.tmp 2] Go.Proofs.Tryz.func151 (by kernel_rfl)
def c0t:Row I:=⟨93,[.d (.sl 3)],[.k (.row 3 true)],a6r⟩
theorem b3V:RK (c0t) :=
 okR [eR c3A,eO d1C,eR a97,eR b2y] 11 Z5 [.tmp 2] Go.Proofs.Tryz.func93 (by kernel_rfl)
def b8Z:Hints I:=mkH [(1,[[],[0],[0,1],[],[3],[0,1,2,3,4],[],[6],[0,1,2,3,4,5,6,7],[],[9],[0,1,2,3,4,5,6,7,8,9,10],[0,1,2,3,4,5,6,7,8,9,10,11],[0,1,2,3,4,5,6,7,8,9,10,11,12]])] [] [] [] [] [] [] []
def b6t:Row I:=⟨94,[.d (.dat 138)],[.lvs [.row 3 false,.row 3 false,.row 3 false,.row 3 false]],a7D⟩
theorem a8T:RK (b6t) :=
 okR [eR c3A] 16 b8Z [.cell 2 138] Go.Proofs.Tryz.func94 (by kernel_rfl)
def b6L:Hints I:=mkH [] [] [] [(29901,⟨4293918720,[],[(10,.lvs [.row 3 false,.row 3 false,.row 3 false,.row 3 false])],[(.normal,[])]⟩)] [(58,⟨137438946944,[],[],[(7,.k (.row 138 false)),(13,.k (.d (.int .i64)))],[((.exit 0),[(7,.k (.row 138 false))])],bnd tb (.slot 12) 1⟩)] [] [] []
def b4f:Row I:=⟨153,[.d (.dat 138),.d (.sl 3),.d (.bool)],[.k (.row 138 false)],a58⟩
theorem b5J:RK (b4f) :=
 okR [eR a8T] 38 b6L [.tmp 6] Go.Proofs.Tryz.func153 (by kernel_rfl)
def b6r:Hints I:=mkH [(14,[[],[0],[],[2],[2,3],[2,3,4],[2,3,4,5],[0,1,2,3,4,5,6],[0,1,2,3,4,5,6,7],[0,1,2,3,4,5,6,7,8]]),(30,[[],[0],[],[2],[2,3],[2,3,4],[2,3,4,5],[0,1,2,3,4,5,6],[0,1,2,3,4,5,6,7],[0,1,2,3,4,5,6,7,8]])] [] [] [(509,⟨170141183455517471574545782616287608848,[],[(2,.lvs [.d (.sl 3),.d (.sl 3),.d (.sl 3),.d (.sl 3)])],[(.normal,[]),(.ret,[(4,.k (.row 138 false))])]⟩),
 (1757,⟨590295810341525782544,[],[(2,.lvs [.d (.sl 3),.d (.sl 3),.d (.sl 3),.d (.sl 3)])],[(.normal,[]),(.ret,[(4,.k (.row 138 false))])]⟩)] [] [] [] []
def b4B:Row I:=⟨95,[.val (.lvs [.row 3 false,.row 3 false,.row 3 false,.row 3 false]),.d (.dat 27)],[.k (.row 138 false)],a9V⟩
theorem b5c:RK (b4B) :=
 okR [eR b5J] 129 b6r [.tmp 4] Go.Proofs.Tryz.func95 (by kernel_rfl)
def c3a:Hints I:=mkH [(1,[[],[0],[0,1],[],[3],[0,1,2,3,4],[],[6],[0,1,2,3,4,5,6,7],[0,1,2,3,4,5,6,7,8]])] [] [] [] [] [] [] []
def c0D:Row I:=⟨96,[.d (.dat 24)],[.k (.d (.dat 24))],a8O⟩
theorem a8K:RK (c0D) :=
 okR [eR b3V] 12 c3a [.cell 2 24] Go.Proofs.Tryz.func96 (by kernel_rfl)
def c8g:Row I:=⟨97,[.d (.dat 24)],[.k (.d (.str))],c2t⟩
def b0c (c:UInt8)(xs:List Int)(q:Nat×List UInt8):Option (Fl (Nat×List UInt8) (List UInt8)):=match xs[q.1]? with
 | some n=>(b0t c q.2 n).map fun b=>.next (q.1+1,b)
 | none=>some (.done q.2)
theorem b5i {c:UInt8}{xs:List Int}:∀ (m i:Nat) {b r:List UInt8},xs.length-i=m->i<=xs.length->b1j c (xs.drop i) b=some r->y9 (b0c c xs) (m+1) (i,b)=some r
 | 0,i,b,r,hm,hi,h=>by
   have e:i=xs.length:=by omega
   subst e
   rw [List.drop_length] at h
   cases h
   simp [y9,b0c]
 | m+1,i,b,r,hm,hi,h=>by
   have hlt:i<xs.length:=by omega
   rw [List.drop_eq_getElem_cons hlt] at h
   obtain ⟨b',h1,h2⟩:=bind_some h
   have:=b5i m (i+1) (by omega) (by omega) h2
   simp only [y9,b0c,List.getElem?_eq_getElem hlt,h1,Option.map_some]
   exact this
theorem d1p {P:Program}{w:World}{T:TypeId}{x y:Operand}{s t:ByteArray}(h:s.size+t.size<=1000000) :
 Z2 P w (do eqGuard .add T x y (.string s) (.string t); binOp .add T (.string s) (.string t)) (.string (s++t)):=by
 simp [Z2,eqGuard_at_string,binOp,Op.stringOp]
 omega
theorem d2t:a1d Go.Proofs.Tryz.prog 154:=⟨_,_,Go.Proofs.Tryz.func154,rfl,by kernel_rfl⟩
theorem c9w:a1d Go.Proofs.Tryz.prog 155:=⟨_,_,Go.Proofs.Tryz.func155,rfl,by kernel_rfl⟩
theorem c9C:a1d Go.Proofs.Tryz.prog 156:=⟨_,_,Go.Proofs.Tryz.func156,rfl,by kernel_rfl⟩
theorem d2n:a1d Go.Proofs.Tryz.prog 157:=⟨_,_,Go.Proofs.Tryz.func157,rfl,by kernel_rfl⟩
theorem c50 {n:Nat}(h:n<100)(w:World):Calls Go.Proofs.Tryz.prog 156 [Value.int .i64 (n:Int)].toArray w fun e w'=>e=.returned (.string ⟨(a2F n).toArray⟩)/\w'=w:=by
 have:=Go.Proofs.Any.strconv_Itoa_small Go.Proofs.Tryz.lay156 n h w
 rw [<- c7V h] at this
 exact this
def b8y (σ:S):Nat->Nat×Nat:=fun b=>if b<σ.N then σ.L b else (0,0)
theorem b7q {σ:S}{w:World}(h:Bw σ.N σ.w w):Wext σ ⟨w,b8y σ⟩ :=
 ⟨h.below.size,fun b hb=>by simp [b8y,hb],fun b o v ho hc=>(a1o (h.below.block b (a3A hc)) o).trans hc,h.drawn⟩
theorem c2U (l m:List UInt8):Lib.byteCells (l++m)=Lib.byteCells l++Lib.byteCells m:=by simp [Lib.byteCells]
theorem b9h (l:List UInt8):Lib.strCells ⟨l.toArray⟩=Lib.byteCells l:=by simp [Lib.strCells,Lib.byteCells]
theorem b4Y (n:Nat):(a2F n).length<=2:=by
 unfold a2F
 cases Nat.blt n 10<;>simp
theorem c9B {P:Program}{w:World}{T:TypeId}{x y:Operand}{c:UInt8}{l:List UInt8}(h:l.length<=2) :
 Z2 P w (do eqGuard .add T x y (.string ⟨#[c]⟩) (.string ⟨l.toArray⟩); binOp .add T (.string ⟨#[c]⟩) (.string ⟨l.toArray⟩)) (.string ⟨(c::l).toArray⟩):=by
 have:=d1p (P:=P) (w:=w) (T:=T) (x:=x) (y:=y) (s:=⟨#[c]⟩) (t:=⟨l.toArray⟩) (by simp [ByteArray.size]; omega)
 have e:(⟨#[c]⟩++⟨l.toArray⟩:ByteArray)=⟨(c::l).toArray⟩:=by
  apply ByteArray.ext
  simp
 rw [e] at this
 exact this
theorem c5Q {c:UInt8}{b r:List UInt8}{n:Int}(h:b0t c b n=some r):r.length<=1000003/\b.length<=r.length:=by
 unfold b0t at h
 obtain ⟨hc,h⟩:=j8 h
 cases h
 simp only [Bool.and_eq_true] at hc
 have:=Nat.le_of_ble_eq_true hc.2
 have:=b4Y n.toNat
 simp
 omega
theorem b1d {c:UInt8}:∀ {xs:List Int} {b r:List UInt8},b1j c xs b=some r->b.length<=1000003->r.length<=1000003
 | [],b,r,h,hb=>by cases h; exact hb
 | n::xs,b,r,h,hb=>by
   obtain ⟨b',h1,h2⟩:=bind_some h
   exact b1d h2 (c5Q h1).1
theorem c4o (w:World)(a:Addr)(n:Nat):(w.freeze a n).drawn=w.drawn:=by unfold World.freeze; split<;>rfl
theorem d2W {b B:Nat}{l:List UInt8}{w:World}(h:Lib.IsBuilder 191 5 B b (Lib.byteCells l) w)(hn:l=[]->w.heap[b]?=some (.cells #[.pointer none,.slice none 0 0] 191 (0,0)))(hl:l.length<=1000003) :
 Calls Go.Proofs.Tryz.prog 157 [J0 b].toArray w fun e w'=>e=.returned (.string ⟨l.toArray⟩)/\Bw B w w':=by
 have hdrew:Bw B w w.drew:=⟨(Below.refl B w).drew,Nat.le_succ _⟩
 by_cases h0:l=[]
 ·subst h0
  exact (Go.Proofs.Tryz.bstr0 (hn rfl)).mono fun e w' ⟨h1,h2⟩=>⟨h1,by subst h2; exact hdrew⟩
 ·obtain ⟨p,_,hB,v,hb,hown,hne⟩:=c6n h
  rw [Lib.byteCells_length] at hown
  rcases hown.2 with ⟨_,hz⟩ | ⟨g,cap,cur,rfl,hbg,hg,hnc,hcm,hcs,htake⟩
  ·exact absurd (List.length_eq_zero_iff.1 hz) h0
  ·refine (Go.Proofs.Tryz.bstr1 (l:=l) hb hg h0 hnc (by simpa using hcs) (by omega) fun j x hx=>?_).mono fun e w' ⟨h1,h2⟩=>⟨h1,?_⟩
   ·have h3:(Lib.byteCells l)[j]?=some (.int .u8 x.toNat):=by simp [Lib.byteCells,hx]
    rw [<- htake,List.getElem?_take] at h3
    split at h3
    ·rw [<- Array.getElem?_toList]; exact h3
    ·cases h3
   ·subst h2
    exact hdrew.trans ⟨Lib.below_freeze (Below.refl B w.drew) (p:=⟨g,0,none⟩) hbg _,Nat.le_of_eq (c4o _ _ _).symm⟩
theorem c4R {i:Nat}(h:i<9223372036854775807):wr .i64 ((i:Int)+1)=((i+1:Nat):Int):=by
 show IntKind.i64.wrap ((i:Int)+1)=_
 rw [IntKind.wrap_i64]
 omega
theorem c5f:j5 Go.Proofs.Tryz.prog c8g:=by
 refine c5d a7B 38 Go.Proofs.Tryz.func97 rfl (by kernel_rfl) rfl rfl rfl fun X c σ F Q a res hX hrel happ hk=>?_
 have happ:c2t a.1=some res:=happ
 obtain ⟨g,hg,happ⟩:=bind_some happ
 obtain ⟨b1,hb1,happ⟩:=bind_some happ
 obtain ⟨b2,hb2,happ⟩:=bind_some happ
 have h0:=hrel.frame 0 (.dat 24 a.1) rfl
 simp only [RV] at h0
 obtain ⟨cs,hF0,hcs⟩:=h0
 refine wp_seq (wp_region_lit ?_)
 refine c9J (B:=σ.N) 0 (Nat.le_refl _) (.agg cs.toArray) cs hF0 rfl rfl fun τ1 bx hx1 hblk=>?_
 refine a2b (.string ⟨#[]⟩) rfl rfl ?_
 refine wpList_nil (W7 (wp_seq (wp_region_lit ?_)))
 have hcs1:Rp.cells τ1 a.1 cs:=Rp.mono hx1.wext hcs
 have hl3:cs.length=3:=Rp.len (self:=rI 24) hcs
 have t24:b8e Go.Proofs.Tryz.prog 24 3:=⟨_,Go.Proofs.Tryz.underlying24,rfl,by kernel_rfl⟩
 refine a2D bx 0 (.agg cs.toArray) rfl rfl (c2A (hl3▸t24) (fun j v hv=>by rw [Nat.zero_add,hblk.cell]; exact hv)) ?_
 have hcall:=a8K τ1 (a.1,()) [.agg cs.toArray] [] g ⟨_,_,[],[],rfl,rfl,⟨⟨cs,rfl,hcs1⟩,rfl⟩,rfl,rfl⟩ List.nodup_nil hg
 refine a83 (o := ⟨some 9, .call ⟨.value (.func 96), #[.tmp 8], #[24]⟩, 24, "core.go:142", #[⟨0, .data⟩], none⟩) rfl hcall (b94 (xs := [.tmp 8]) rfl τ1.w) fun v9 τ2 st2 hpost => ?_
 obtain ⟨ws,us,pls',hpost⟩:=hpost
 obtain ⟨v,hws,⟨cs',hv,hcs2⟩,-⟩:=hpost.tt
 have hlen:=hpost.len
 have hret:=hpost.ret
 obtain ⟨rfl,rfl⟩:ws=[v]/\us=[]:=by
  rcases ws with _ | ⟨u,ws⟩
  ·cases hlen
  ·rcases ws with _ | ⟨u',ws⟩
   ·simp at hws; exact ⟨by rw [hws.1],hws.2⟩
   ·cases hlen
 have hret:v9=v:=hret
 subst hret
 subst hv
 have hl3':cs'.length=3:=Rp.len (self:=rI 24) hcs2
 have hne1:¬ bx∈ows ([]:List Pl):=fun h=>by cases h
 obtain ⟨k1,k2⟩:=st2.block bx hblk.lt hne1
 have hbl:(τ1.L bx)=(0,0):=hblk.2.2
 have hblk2:Blk σ.N 0 ⟨τ2.w,fun k=>if k=bx then (0,0) else τ2.L k⟩ bx 24 cs:=⟨hblk.1,k1.trans hblk.2.1,by simp⟩
 have hw2:Wext τ2 ⟨τ2.w,fun k=>if k=bx then (0,0) else τ2.L k⟩:=⟨Nat.le_refl _,fun k _=>by
  by_cases e:k=bx
  ·subst e; rw [k2,hbl]; exact Nat.zero_le _
  ·simp [e],fun _ _ _ _ h=>h,Nat.le_refl _⟩
 have hall:cs'.all (·.oneCell')=true:=List.all_eq_true.2 fun u hu=>Rp.one (self:=rI 24) hcs2 u hu
 refine b8F (σ:=⟨τ2.w,fun k=>if k=bx then (0,0) else τ2.L k⟩) hblk2 0 (.agg cs'.toArray) cs' cs' rfl rfl rfl rfl rfl (by rw [hl3']; kernel_rfl) hall (by rw [hl3',hl3]; rfl) (by rw [List.take_zero,Nat.zero_add,hl3',<- hl3,List.drop_length]; simp) fun τ3 hm3 hblk3=>?_
 have hcs3:=Rp.mono (self:=rI 24) (hw2.trans hm3.wext) hcs2
 refine wpList_nil (W7 (wp_seq (wp_region_lit ?_)))
 refine c53 (B:=τ3.N) 0 (Nat.le_refl _) (.agg #[.pointer none,.slice none 0 0]) [.pointer none,.slice none 0 0] (Y1 (T:=191) (size:=2) (bytes:=32) (by kernel_rfl)) rfl fun τ4 b hx4 hb4=>?_
 have h4:Bw τ3.N τ3.w τ4.w:=⟨hx4.below,hx4.drawn⟩
 have hbuild:Lib.IsBuilder 191 5 τ3.N b [] τ4.w:=.inl ⟨hb4.1,.slice none 0 0,hb4.2.1,World.ownsRow_nil _ _ _ _,by simp [Value.ownBlock]⟩
 obtain ⟨cc1,cr1,e1,⟨A1,k1c,ec1,hs1⟩,cc2,cr2,e2,⟨A2,k2c,ec2,hs2⟩,hc3⟩:=hcs3
 have hcs':cs'=[.slice A1 g.Pos.length k1c,.slice A2 g.Neg.length k2c,.bool g.Lists]:=by
  have hc3:cr2=[.bool g.Lists]:=hc3
  rw [e1,e2,ec1,ec2,hc3]; rfl
 have hbxw:∀ w,Bw τ3.N τ3.w w->∀ i,w.cell? ⟨bx,i,none⟩=cs'[i]?:=fun w h i=>by rw [a1o (h.below.block bx hblk3.lt)]; exact hblk3.cell i
 have t22:a1C Go.Proofs.Tryz.prog 22:=⟨_,Go.Proofs.Tryz.underlying22,rfl,by kernel_rfl⟩
 have t3:a1C Go.Proofs.Tryz.prog 3:=⟨_,Go.Proofs.Tryz.underlying3,rfl,by kernel_rfl⟩
 have t4:a1C Go.Proofs.Tryz.prog 4:=⟨_,Go.Proofs.Tryz.underlying4,rfl,by kernel_rfl⟩
 refine wpList_nil (W7 (b9z (fun a w=>∃ F',a=fr 38 F'/\F' 1=.pointer (some ⟨bx,0,none⟩)/\F' 3=J0 b/\Bw τ3.N τ3.w w/\Lib.IsBuilder 191 5 τ3.N b (Lib.byteCells (bif g.Lists then [108] else []:List UInt8)) w/\((bif g.Lists then [108] else []:List UInt8)=[]->w.heap[b]?=some (.cells #[.pointer none,.slice none 0 0] 191 (0,0)))) ?_ ?_))
 ·refine wp_seq (wp_region_lit ?_)
  refine a0A bx 0 2 2 rfl rfl (⟨_,_,Go.Proofs.Tryz.underlying24,rfl,rfl,by kernel_rfl⟩) rfl ?_
  refine a2D bx 2 (.bool g.Lists) rfl rfl (a2o t4 ((hbxw τ4.w h4 2).trans (by rw [hcs']; rfl))) ?_
  refine wpList_nil (W7 ?_)
  rcases hL:g.Lists with _ | _
  ·refine b0A (c:=false) (by rw [<- hL]; rfl) rfl rfl (wp_skip ?_)
   exact ⟨rfl,_,rfl,rfl,rfl,h4,hbuild,fun _=>hb4.2.1⟩
  ·refine b6V (c:=true) (by rw [<- hL]; rfl) rfl rfl (wp_region_lit ?_)
   refine a6U [J0 b,.int .u8 108] rfl rfl d2t (bwb hbuild (by decide) h4.below.size) ?_
   rintro e w5 ⟨⟨v,rfl⟩,hat,hbw5⟩
   exact ⟨_,rfl,wpList_nil ⟨rfl,_,rfl,rfl,rfl,h4.trans hbw5,.inr hat,fun h=>by simp at h⟩⟩
 rintro a0 w0 h0
 refine b9z (fun a w=>∃ F',a=fr 38 F'/\F' 1=.pointer (some ⟨bx,0,none⟩)/\F' 3=J0 b/\Bw τ3.N τ3.w w/\Lib.IsBuilder 191 5 τ3.N b (Lib.byteCells b1) w/\(b1=[]->w.heap[b]?=some (.cells #[.pointer none,.slice none 0 0] 191 (0,0)))) ?_ ?_
 ·revert a0 w0 h0
  rintro a1 w1 ⟨F1,rfl,f1,f3,hbw1,hbd1,hn1⟩
  refine wp_seq (wp_region_lit ?_)
  refine a0A bx 0 0 0 f1 rfl (⟨_,_,Go.Proofs.Tryz.underlying24,rfl,rfl,by kernel_rfl⟩) rfl ?_
  refine a2D bx 0 (.slice A1 g.Pos.length k1c) rfl rfl (a2o t22 ((hbxw w1 hbw1 0).trans (by rw [hcs']; rfl))) ?_
  refine b0r A1 g.Pos.length k1c rfl rfl Go.Proofs.Tryz.underlying22 ?_
  refine a03 (.int .i64 0) rfl rfl ?_
  refine wpList_nil (W7 (wp_block ?_))
  refine wp_mono (b3I (step:=b0c 43 g.Pos) (fun q a w=>∃ F',a=fr 38 F'/\F' 1=.pointer (some ⟨bx,0,none⟩)/\F' 3=J0 b/\F' 14=.slice A1 g.Pos.length k1c/\F' 15=.int .i64 (g.Pos.length:Int)/\F' 16=.int .i64 (q.1:Int)/\Bw τ3.N τ3.w w/\Lib.IsBuilder 191 5 τ3.N b (Lib.byteCells q.2) w/\(q.2=[]->w.heap[b]?=some (.cells #[.pointer none,.slice none 0 0] 191 (0,0)))/\q.1<=g.Pos.length) (fun r e a w=>e=.exit 0/\∃ F',a=fr 38 F'/\F' 1=.pointer (some ⟨bx,0,none⟩)/\F' 3=J0 b/\Bw τ3.N τ3.w w/\Lib.IsBuilder 191 5 τ3.N b (Lib.byteCells r) w/\(r=[]->w.heap[b]?=some (.cells #[.pointer none,.slice none 0 0] 191 (0,0)))) (by rintro _ _ _ ⟨h,_⟩; cases h) ?_ _ (0,(bif g.Lists then [108] else [])) b1 _ _ (b5i (g.Pos.length-0) 0 rfl (Nat.zero_le _) hb1) ⟨_,rfl,f1,f3,rfl,rfl,rfl,hbw1,hbd1,fun h=>hn1 h,Nat.zero_le _⟩) ?_
  ·rintro ⟨i,bs⟩ fl a2 w2 hst ⟨F2,rfl,g1,g3,g14,g15,g16,hbw2,hbd2,hn2,hi⟩
   refine wp_seq (wp_region_lit ?_)
   refine a7H (.int .i64 (i:Int)) (.int .i64 (g.Pos.length:Int)) (.bool (decide ((i:Int)<(g.Pos.length:Int)))) g16 g15 rfl rfl c6o ?_
   refine wpList_nil (W7 (wp_seq ?_))
   rcases hx:(g.Pos)[i]? with _ | n
   ·simp only [b0c,hx] at hst
    cases hst
    have hge:(g.Pos).length<=i:=List.getElem?_eq_none_iff.1 hx
    refine b0A rfl (decide_eq_false (by omega)) rfl (wp_exit ?_)
    exact c6f ⟨rfl,_,rfl,g1,g3,hbw2,hbd2,hn2⟩
   ·simp only [b0c,hx,Option.map_eq_some_iff] at hst
    obtain ⟨bs',hit,rfl⟩:=hst
    have hlt:i<(g.Pos).length:=(List.getElem?_eq_some_iff.1 hx).1
    unfold b0t at hit
    obtain ⟨hcond,hit⟩:=j8 hit
    cases hit
    simp only [Bool.and_eq_true,decide_eq_true_eq] at hcond
    obtain ⟨⟨n0,n1⟩,nl⟩:=hcond
    have nl:bs.length<=1000000:=Nat.le_of_ble_eq_true nl
    refine b6V rfl (decide_eq_true (by omega)) rfl (wp_skip (W7 (wp_seq (wp_block (wp_seq (wp_region_lit ?_))))))
    refine b2z (σ:=⟨w2,b8y τ3⟩) (hs1.mono (b7q hbw2)) (show idx g.Pos (i:Int)=some n by simp [idx,hx]) g14 g16 rfl rfl Go.Proofs.Tryz.underlying22 (by kernel_rfl) fun bb o ccs hc hse=>?_
    have hc:ccs=[.int .i64 n]:=hc
    subst hc
    refine a2D bb o (.int .i64 n) rfl rfl (a2o t3 (hse.2 0 _ rfl)) ?_
    refine a2b (.int .i64 n) rfl rfl ?_
    refine wpList_nil (W7 (wp_region_lit ?_))
    refine a03 (.int .i64 n) rfl rfl ?_
    have hn:((n.toNat:Nat):Int)=n:=by omega
    refine a6U [.int .i64 n] rfl rfl c9C (by have:=c50 (n:=n.toNat) (by omega) w2; rw [hn] at this; exact this) ?_
    rintro e w3 ⟨rfl,rfl⟩
    refine ⟨_,rfl,?_⟩
    have hdl:(a2F n.toNat).length<=2:=b4Y _
    refine a7H (.string ⟨#[43]⟩) (.string ⟨(a2F n.toNat).toArray⟩) (.string ⟨(43::a2F n.toNat).toArray⟩) rfl rfl rfl rfl (c9B hdl) ?_
    have hsz:(⟨(43::a2F n.toNat).toArray⟩:ByteArray).size<=3:=by simp [ByteArray.size]; omega
    refine a6U [J0 b,.string ⟨(43::a2F n.toNat).toArray⟩] (by rw [List.map_cons,List.map_cons,List.map_nil]; exact congrArg (·::_) g3) rfl c9w (bws hbd2 (by show (Lib.byteCells bs).length+_<=_; rw [Lib.byteCells_length]; omega) hbw2.below.size) ?_
    rintro e w4 ⟨⟨v,rfl⟩,hat,hbw4⟩
    refine ⟨_,rfl,?_⟩
    refine wpList_nil (d1z (W7 (wp_region_lit ?_)))
    refine a7H (.int .i64 (i:Int)) (.int .i64 1) (.int .i64 (wr .i64 ((i:Int)+1))) g16 rfl rfl rfl c6l ?_
    refine a03 (.int .i64 (wr .i64 ((i:Int)+1))) rfl rfl ?_
    have hwr:wr .i64 ((i:Int)+1)=((i+1:Nat):Int):=c4R (by have l1:(g.Pos).length<=k1c:=hs1.1; have l2:k1c<=maxLen:=hs1.2.1; unfold maxLen at l2; omega)
    refine wpList_nil ⟨rfl,_,rfl,g1,g3,g14,g15,congrArg _ hwr,hbw2.trans hbw4,.inr ?_,fun h=>by simp at h,hlt⟩
    rw [b9h,<- c2U] at hat
    exact hat
  ·rintro r e a2 ⟨rfl,F2,rfl,g1,g3,hbw2,hbd2,hn2⟩
   exact d07 ⟨rfl,F2,rfl,g1,g3,hbw2,hbd2,hn2⟩
 rintro a5 w5 h5
 refine b9z (fun a w=>∃ F',a=fr 38 F'/\F' 1=.pointer (some ⟨bx,0,none⟩)/\F' 3=J0 b/\Bw τ3.N τ3.w w/\Lib.IsBuilder 191 5 τ3.N b (Lib.byteCells b2) w/\(b2=[]->w.heap[b]?=some (.cells #[.pointer none,.slice none 0 0] 191 (0,0)))) ?_ ?_
 ·revert a5 w5 h5
  rintro a1 w1 ⟨F1,rfl,f1,f3,hbw1,hbd1,hn1⟩
  refine wp_seq (wp_region_lit ?_)
  refine a0A bx 0 1 1 f1 rfl (⟨_,_,Go.Proofs.Tryz.underlying24,rfl,rfl,by kernel_rfl⟩) rfl ?_
  refine a2D bx 1 (.slice A2 g.Neg.length k2c) rfl rfl (a2o t22 ((hbxw w1 hbw1 1).trans (by rw [hcs']; rfl))) ?_
  refine b0r A2 g.Neg.length k2c rfl rfl Go.Proofs.Tryz.underlying22 ?_
  refine a03 (.int .i64 0) rfl rfl ?_
  refine wpList_nil (W7 (wp_block ?_))
  refine wp_mono (b3I (step:=b0c 45 g.Neg) (fun q a w=>∃ F',a=fr 38 F'/\F' 1=.pointer (some ⟨bx,0,none⟩)/\F' 3=J0 b/\F' 26=.slice A2 g.Neg.length k2c/\F' 27=.int .i64 (g.Neg.length:Int)/\F' 28=.int .i64 (q.1:Int)/\Bw τ3.N τ3.w w/\Lib.IsBuilder 191 5 τ3.N b (Lib.byteCells q.2) w/\(q.2=[]->w.heap[b]?=some (.cells #[.pointer none,.slice none 0 0] 191 (0,0)))/\q.1<=g.Neg.length) (fun r e a w=>e=.exit 2/\∃ F',a=fr 38 F'/\F' 1=.pointer (some ⟨bx,0,none⟩)/\F' 3=J0 b/\Bw τ3.N τ3.w w/\Lib.IsBuilder 191 5 τ3.N b (Lib.byteCells r) w/\(r=[]->w.heap[b]?=some (.cells #[.pointer none,.slice none 0 0] 191 (0,0)))) (by rintro _ _ _ ⟨h,_⟩; cases h) ?_ _ (0,b1) b2 _ _ (b5i (g.Neg.length-0) 0 rfl (Nat.zero_le _) hb2) ⟨_,rfl,f1,f3,rfl,rfl,rfl,hbw1,hbd1,fun h=>hn1 h,Nat.zero_le _⟩) ?_
  ·rintro ⟨i,bs⟩ fl a2 w2 hst ⟨F2,rfl,g1,g3,g14,g15,g16,hbw2,hbd2,hn2,hi⟩
   refine wp_seq (wp_region_lit ?_)
   refine a7H (.int .i64 (i:Int)) (.int .i64 (g.Neg.length:Int)) (.bool (decide ((i:Int)<(g.Neg.length:Int)))) g16 g15 rfl rfl c6o ?_
   refine wpList_nil (W7 (wp_seq ?_))
   rcases hx:(g.Neg)[i]? with _ | n
   ·simp only [b0c,hx] at hst
    cases hst
    have hge:(g.Neg).length<=i:=List.getElem?_eq_none_iff.1 hx
    refine b0A rfl (decide_eq_false (by omega)) rfl (wp_exit ?_)
    exact c6f ⟨rfl,_,rfl,g1,g3,hbw2,hbd2,hn2⟩
   ·simp only [b0c,hx,Option.map_eq_some_iff] at hst
    obtain ⟨bs',hit,rfl⟩:=hst
    have hlt:i<(g.Neg).length:=(List.getElem?_eq_some_iff.1 hx).1
    unfold b0t at hit
    obtain ⟨hcond,hit⟩:=j8 hit
    cases hit
    simp only [Bool.and_eq_true,decide_eq_true_eq] at hcond
    obtain ⟨⟨n0,n1⟩,nl⟩:=hcond
    have nl:bs.length<=1000000:=Nat.le_of_ble_eq_true nl
    refine b6V rfl (decide_eq_true (by omega)) rfl (wp_skip (W7 (wp_seq (wp_block (wp_seq (wp_region_lit ?_))))))
    refine b2z (σ:=⟨w2,b8y τ3⟩) (hs2.mono (b7q hbw2)) (show idx g.Neg (i:Int)=some n by simp [idx,hx]) g14 g16 rfl rfl Go.Proofs.Tryz.underlying22 (by kernel_rfl) fun bb o ccs hc hse=>?_
    have hc:ccs=[.int .i64 n]:=hc
    subst hc
    refine a2D bb o (.int .i64 n) rfl rfl (a2o t3 (hse.2 0 _ rfl)) ?_
    refine a2b (.int .i64 n) rfl rfl ?_
    refine wpList_nil (W7 (wp_region_lit ?_))
    refine a03 (.int .i64 n) rfl rfl ?_
    have hn:((n.toNat:Nat):Int)=n:=by omega
    refine a6U [.int .i64 n] rfl rfl c9C (by have:=c50 (n:=n.toNat) (by omega) w2; rw [hn] at this; exact this) ?_
    rintro e w3 ⟨rfl,rfl⟩
    refine ⟨_,rfl,?_⟩
    have hdl:(a2F n.toNat).length<=2:=b4Y _
    refine a7H (.string ⟨#[45]⟩) (.string ⟨(a2F n.toNat).toArray⟩) (.string ⟨(45::a2F n.toNat).toArray⟩) rfl rfl rfl rfl (c9B hdl) ?_
    have hsz:(⟨(45::a2F n.toNat).toArray⟩:ByteArray).size<=3:=by simp [ByteArray.size]; omega
    refine a6U [J0 b,.string ⟨(45::a2F n.toNat).toArray⟩] (by rw [List.map_cons,List.map_cons,List.map_nil]; exact congrArg (·::_) g3) rfl c9w (bws hbd2 (by show (Lib.byteCells bs).length+_<=_; rw [Lib.byteCells_length]; omega) hbw2.below.size) ?_
    rintro e w4 ⟨⟨v,rfl⟩,hat,hbw4⟩
    refine ⟨_,rfl,?_⟩
    refine wpList_nil (d1z (W7 (wp_region_lit ?_)))
    refine a7H (.int .i64 (i:Int)) (.int .i64 1) (.int .i64 (wr .i64 ((i:Int)+1))) g16 rfl rfl rfl c6l ?_
    refine a03 (.int .i64 (wr .i64 ((i:Int)+1))) rfl rfl ?_
    have hwr:wr .i64 ((i:Int)+1)=((i+1:Nat):Int):=c4R (by have l1:(g.Neg).length<=k2c:=hs2.1; have l2:k2c<=maxLen:=hs2.2.1; unfold maxLen at l2; omega)
    refine wpList_nil ⟨rfl,_,rfl,g1,g3,g14,g15,congrArg _ hwr,hbw2.trans hbw4,.inr ?_,fun h=>by simp at h,hlt⟩
    rw [b9h,<- c2U] at hat
    exact hat
  ·rintro r e a2 ⟨rfl,F2,rfl,g1,g3,hbw2,hbd2,hn2⟩
   exact d07 ⟨rfl,F2,rfl,g1,g3,hbw2,hbd2,hn2⟩
 rintro a6 w6 ⟨F6,rfl,f1,f3,hbw6,hbd6,hn6⟩
 refine wp_seq (wp_region_lit ?_)
 refine a6U [J0 b] (congrArg (·::_) f3) rfl d2n (d2W hbd6 hn6 (b1d hb2 (b1d hb1 (by cases g.Lists<;>decide)))) ?_
 rintro e w7 ⟨rfl,hbw7⟩
 refine ⟨_,rfl,?_⟩
 refine a2b (.string ⟨b2.toArray⟩) rfl rfl ?_
 refine wpList_nil (W7 (wp_ret ?_))
 have hb7:Bw τ3.N τ3.w w7:=hbw6.trans hbw7
 have hr:(⟨b2.toArray⟩:ByteArray)=res:=Option.some.inj happ
 have hA:Bw σ.N σ.w τ1.w:=⟨hx1.below,hx1.drawn⟩
 have hB:Bw σ.N τ1.w τ2.w:=⟨⟨st2.os,st2.tape,st2.output,st2.wext.size,fun k hk=>(st2.block k (Nat.lt_of_lt_of_le hk hx1.below.size) (fun h=>by cases h)).1⟩,st2.wext.drawn⟩
 have hC:Bw σ.N τ2.w τ3.w:=⟨⟨hm3.os,hm3.tape,hm3.output,hm3.wext.size,fun k hk=>(hm3.block k (Nat.lt_of_lt_of_le hk (hA.trans hB).below.size) (.inl hk)).1⟩,hm3.wext.drawn⟩
 have hD:Bw σ.N τ3.w w7:=⟨hb7.below.mono ((hA.trans hB).trans hC).below.size,hb7.drawn⟩
 have hE:=((hA.trans hB).trans hC).trans hD
 subst hr
 refine hk .ret ⟨38,fun i=>bif Nat.beq i 2 then some (.str ⟨b2.toArray⟩) else none,fun _=>none,0⟩ c ⟨w7,b8y σ⟩ _ ?_ (Cx.le_refl c) ⟨rfl,(fun i p hp=>?_),(fun l o ho=>by cases ho),(fun _ _ _ _ _ ⟨_,h⟩=>by cases h),(fun _ _ _ ⟨_,h⟩=>by cases h),(fun l _=>hrel.nom l rfl),Nat.le_trans hrel.base hE.below.size,noN.nests fun _ _ _ _ _ _ h=>by cases h⟩
  ⟨b7q hE,hE.below.os,hE.below.tape,hE.below.output,fun k hk _=>⟨hE.below.block k hk,by simp [b8y,hk]⟩⟩
 ·rfl
 ·have hp:(bif Nat.beq i 2 then some (PV.str ⟨b2.toArray⟩) else none)=some p:=hp
  obtain ⟨hi,hp⟩:=j8 hp
  cases hp
  have:=Nat.eq_of_beq_eq_true hi
  subst this
  simp only [RV]
  rfl
theorem d2G:j5 Go.Proofs.Tryz.prog c8g:=c5f
def b8R (n:Nat):Hints I:=mkH [(1,[[],[0],[0,1],[],[3],[0,1,2,3,4],[0,1,2,3,4,5],[0,1,2,3,4,5,6],[0,1,2,3,4,5,6,7]])] [] [] [] [(124,⟨295147905179351779232,[],[],[(5,.k (.row 138 false)),(6,.k (.map 140 (.bool))),(7,.k (.row 24 false))],[((.exit 0),[(6,.k (.map 140 (.bool))),(7,.k (.row 24 false))])],fun _=>some n⟩)] [] [] []
def b6w (n:Nat):Row I:=⟨43,[.d (.dat 27),.d (.dat 24)],[.k (.row 24 false)],b2a n⟩
theorem b66 (n:Nat):RK (b6w n) :=
 okR [eR b3V,eR a8T,eR b5c,eR a8K,eR d2G] 69 (b8R n) [.tmp 4] Go.Proofs.Tryz.func43 (by kernel_rfl)
def a7g:Hints I:=mkH [(6,[[],[],[0,1],[0,1,2],[],[],[5],[4,5,6],[4,5,6,7],[0,1,2,3,4,5,6,7,8]]),(11,[[],[],[0,1],[0,1,2],[],[],[5],[4,5,6],[4,5,6,7],[0,1,2,3,4,5,6,7,8]])] [] [] [] [(58,⟨1152921504606846012,[],[],[(0,.k (.row 9 false)),(3,.k (.d (.int .i64)))],[((.exit 0),[(0,.k (.row 9 false))]),(.ret,[(2,.k (.row 9 false))])],bnd tb (.len (.slot 0)) 1⟩)] [(59690,⟨18014397972611112,0,9,[(3,.k (.d (.int .i64))),(5,.k (.d (.int .i64)))],[((.exit 2),[(3,.k (.d (.int .i64)))])],bnd tb (.len (.slot 4)) 1⟩)] [] []
def a6A:Row I:=⟨63,[.row 9 false],[.k (.row 9 false)],a0V⟩
theorem a1H:RK (a6A) :=
 okR [] 61 a7g [.tmp 2] Go.Proofs.Tryz.func63 (by kernel_rfl)
def a7N:Row I:=⟨62,[.d (.sl 9)],[.k (.row 9 true)],a1D⟩
theorem a2a:RK (a7N) :=
 okR [] 9 Z5 [.tmp 2] Go.Proofs.Tryz.func62 (by kernel_rfl)
def c3T:Hints I:=mkH [] [] [] [] [(58,⟨2147482784,[],[],[(5,.k (.row 9 false)),(10,.k (.d (.int .i64)))],[((.exit 0),[(5,.k (.row 9 false))])],bnd tb (.slot 9) 1⟩)] [] [] []
def c1W:Row I:=⟨44,[.d (.dat 27),.d (.sl 3)],[.k (.row 9 true)],b5q⟩
theorem c26:RK (c1W) :=
 okR [eO c6m,eR a1H,eR a2a] 36 c3T [.tmp 4] Go.Proofs.Tryz.func44 (by kernel_rfl)
def a9v:Hints I:=mkH [] [] [] [] [(26,⟨524080,[],[],[(8,.k (.d (.int .i64)))],[((.exit 0),[]),(.ret,[(4,.k (.d (.int .i64)))])],bnd tb (.slot 7) 1⟩)] [] [] []
def a79:Row I:=⟨158,[.d (.sl 3),.fn [.int .i64] [.k (.d (.bool))]],[.k (.d (.int .i64))],a5D⟩
theorem a9j:RK (a79) :=
 okR [] 19 a9v [.tmp 4] Go.Proofs.Tryz.func158 (by kernel_rfl)
def a6Z:Row I:=⟨98,[.d (.sl 3),.fn [.int .i64] [.k (.d (.bool))]],[.k (.d (.bool))],J7⟩
theorem X0:RK (a6Z) :=
 okR [eR a9j] 9 Z5 [.tmp 4] Go.Proofs.Tryz.func98 (by kernel_rfl)
def b2r:Hints I:=mkH [] [] [] [] [(26,⟨524080,[],[],[(8,.k (.d (.int .i64)))],[((.exit 0),[]),(.ret,[(4,.k (.d (.int .i64)))])],bnd tb (.slot 7) 1⟩)] [] [] []
def b0N:Row I:=⟨159,[.d (.sl 3),.d (.int .i64)],[.k (.d (.int .i64))],a7u⟩
theorem b1V:RK (b0N) :=
 okR [] 19 b2r [.tmp 4] Go.Proofs.Tryz.func159 (by kernel_rfl)
def a9h:Row I:=⟨100,[.d (.sl 3),.d (.int .i64)],[.k (.d (.bool))],a56⟩
theorem a9y:RK (a9h) :=
 okR [eR b1V] 9 Z5 [.tmp 4] Go.Proofs.Tryz.func100 (by kernel_rfl)
def b6z:Row I:=⟨99,[.d (.int .i64),.var 22 (.k (.d (.sl 3))) false],[.k (.d (.bool))],b2c⟩
theorem b7w:RK (b6z) :=
 okR [eR a9y] 7 Z5 [.tmp 3] Go.Proofs.Tryz.func99 (by kernel_rfl)
def b8O:Row I:=⟨45,[.d (.sl 3),.d (.sl 3)],[.k (.d (.bool))],a9G⟩
theorem b0B:RK (b8O) :=
 okR [eR X0,eR b7w] 8 Z5 [.tmp 4] Go.Proofs.Tryz.func45 (by kernel_rfl)
def a6D:Hints I:=mkH [] [] [] [] [(26,⟨524080,[],[],[(8,.k (.d (.int .i64)))],[((.exit 0),[]),(.ret,[(4,.k (.d (.int .i64)))])],bnd tb (.slot 7) 1⟩)] [] [] []
def a6f:Row I:=⟨160,[.d (.sl 9),.fn [.str] [.k (.d (.bool))]],[.k (.d (.int .i64))],a3O⟩
theorem a6u:RK (a6f) :=
 okR [] 19 a6D [.tmp 4] Go.Proofs.Tryz.func160 (by kernel_rfl)
def a5f:Row I:=⟨101,[.d (.sl 9),.fn [.str] [.k (.d (.bool))]],[.k (.d (.bool))],a2X⟩
theorem a5x:RK (a5f) :=
 okR [eR a6u] 9 Z5 [.tmp 4] Go.Proofs.Tryz.func101 (by kernel_rfl)
def a8v:Hints I:=mkH [] [] [] [] [(26,⟨524080,[],[],[(8,.k (.d (.int .i64)))],[((.exit 0),[]),(.ret,[(4,.k (.d (.int .i64)))])],bnd tb (.slot 7) 1⟩)] [] [] []
def a7r:Row I:=⟨161,[.d (.sl 9),.d (.str)],[.k (.d (.int .i64))],a4Q⟩
theorem a7Y:RK (a7r) :=
 okR [] 19 a8v [.tmp 4] Go.Proofs.Tryz.func161 (by kernel_rfl)
def a6g:Row I:=⟨103,[.d (.sl 9),.d (.str)],[.k (.d (.bool))],a13⟩
theorem a29:RK (a6g) :=
 okR [eR a7Y] 9 Z5 [.tmp 4] Go.Proofs.Tryz.func103 (by kernel_rfl)
def b2F:Row I:=⟨102,[.d (.str),.var 33 (.k (.d (.sl 9))) false],[.k (.d (.bool))],a86⟩
theorem b4e:RK (b2F) :=
 okR [eR a29] 7 Z5 [.tmp 3] Go.Proofs.Tryz.func102 (by kernel_rfl)
def b5F:Row I:=⟨46,[.d (.sl 9),.d (.sl 9)],[.k (.d (.bool))],b0I⟩
theorem b6j:RK (b5F) :=
 okR [eR a5x,eR b4e] 8 Z5 [.tmp 4] Go.Proofs.Tryz.func46 (by kernel_rfl)
def c3W:Hints I:=mkH [] [] [] [] [(58,⟨4192262,[],[],[(1,.k (.row 101 false)),(2,.k (.d (.int .i64)))],[((.exit 0),[(1,.k (.row 101 false))])],bnd tb (.cst 4) 2⟩)] [] [] []
def c2l:Row I:=⟨47,[],[.k (.row 101 false)],c1p⟩
theorem c28:RK (c2l) :=
 okR [] 23 c3W [.tmp 0] Go.Proofs.Tryz.func47 (by kernel_rfl)
def b9Z:Hints I:=mkH [] [] [] [(429,⟨20480,[],[],[(.normal,[(12,.k (.d (.bool)))])]⟩),
 (1725,⟨1310720,[],[],[(.normal,[(18,.k (.d (.bool)))])]⟩)] [] [] [] []
def b7F:Row I:=⟨163,[.d (.dat 101),.d (.dat 48)],[.k (.d (.bool))],a8c⟩
theorem a9S:RK (b7F) :=
 okR [] 81 b9Z [.tmp 4] Go.Proofs.Tryz.func163 (by kernel_rfl)
def b7V:Hints I:=mkH [(1,[[],[0],[],[0,1,2],[0,1,2,3],[0,1,2,3,4],[0,1,2,3,4,5],[0,1,2,3,4,5,6],[0,1,2,3,4,5,6,7],[0,1,2,3,4,5,6,7],[0,1,2,3,4,5,6,7,9],[0,1,2,3,4,5,6,7],[0,1,2,3,4,5,6,7,9,10,11],[0,1,2,3,4,5,6,7,9,10,11,12],[0,1,2,3,4,5,6,7,8,9,10,11,12,13],[0,1,2,3,4,5,6,7,8,9,10,11,12,13,14],[0,1,2,3,4,5,6,7,8,9,10,11,12,13,14,15],[0,1,2,3,4,5,6,7,8,9,10,11,12,13,14,15,16]])] [] [] [] [] [] [] []
def b5P:Row I:=⟨162,[.d (.int .i64),.var 27 (.k (.d (.dat 27))) false,.var 101 (.k (.d (.dat 101))) false],[.k (.d (.bool))],b0W⟩
theorem b6u:RK (b5P) :=
 okR [eR a9S] 22 b7V [.tmp 4] Go.Proofs.Tryz.func162 (by kernel_rfl)
def b7j:Row I:=⟨104,[.d (.dat 101),.d (.dat 27),.d (.dat 24)],[.k (.d (.bool))],b4r⟩
theorem b8L:RK (b7j) :=
 okR [eR X0,eR b6u] 24 Z5 [.tmp 6] Go.Proofs.Tryz.func104 (by kernel_rfl)
def b8W:Row I:=⟨164,[],[.k (.row 205 false)],b6g⟩
theorem c0e:RK (b8W) :=
 okR [] 3 Z5 [.tmp 0] Go.Proofs.Tryz.func164 (by kernel_rfl)
def b6H:Row I:=⟨320,[.d (.int .i64)],[.k (.d (.bool))],a7E⟩
theorem b7E:RK (b6H) :=
 okR [] 6 Z5 [.tmp 2] Go.Proofs.Tryz.func320 (by kernel_rfl)
def b4G:Row I:=⟨282,[.d (.int .i64),.d (.int .i64)],[.k (.d (.int .i64))],a6e⟩
theorem a7v:RK (b4G) :=
 okR [eR b7E] 20 Z5 [.tmp 4] Go.Proofs.Tryz.func282 (by kernel_rfl)
def b1i:Row I:=⟨281,[.d (.dat 205),.d (.dat 205)],[.k (.d (.int .i64))],a7d⟩
theorem b1K:RK (b1i) :=
 okR [eR a7v] 10 Z5 [.tmp 4] Go.Proofs.Tryz.func281 (by kernel_rfl)
def b5e:Hints I:=mkH [(14,[[],[0],[0,1],[0,1,2],[0,1,2],[0,1,2,3,4],[0,1,2,3,4,5],[0,1,2,3,4,5,6],[0,1,2,3,4,5,6,7],[0,1,2,3,4,5,6,7,8],[0,1,2,3,4,5,6,7,8,9],[0,1,2,3,4,5,6,7,8,9,10],[0,1,2,3,4,5,6,7,8,9],[0,1,2,3,4,5,6,7,8,9],[0,1,2,3,4,5,6,7,8,9,12,13],[0,1,2,3,4,5,6,7,8,9,12,13,14],[0,1,2,3,4,5,6,7,8,9,12,13,14,15],[0,1,2,3,4,5,6,7,8,9,12,13,14,15,16],[0,1,2,3,4,5,6,7,8,9,10,11,12,13,14,15,16,17],[0,1,2,3,4,5,6,7,8,9,10,11,12,13,14,15,16,17,18],[0,1,2,3,4,5,6,7,8,9,10,11,12,13,14,15,16,17,18,19]]),(15,[[],[],[],[],[2,3],[2,3,4],[2,3,4,5],[],[7],[2,3,4,5,6,7,8],[0,1,2,3,4,5,6,7,8,9],[0,1,2,3,4,5,6,7,8,9,10],[0,1,2,3,4,5,6,7,8,9,10,11]])] [] [] [] [(58,⟨67104808,[],[],[(3,.k (.row 205 false)),(12,.k (.d (.int .i64)))],[((.exit 0),[(3,.k (.row 205 false))])],bnd tb (.slot 11) 1⟩),
 (506,⟨37778931862956087968576,[],[],[(6,.k (.row 205 false)),(28,.k (.row 205 false)),(30,.k (.d (.int .i64)))],[((.exit 2),[(6,.k (.row 205 false)),(28,.k (.row 205 false))])],bnd tb (.slot 29) 1⟩)] [] [] []
noncomputable def b2G:Row I:=⟨227,[.d (.sl 205)],[.k (.row 205 false)],a2n⟩
theorem a6O:RK (b2G) :=
 okR [eO d1R,eR b1K] 76 b5e [.tmp 2] Go.Proofs.Tryz.func227 (by kernel_rfl)
def b5g:Hints I:=mkH [] [] [] [] [(58,⟨1099511620256,[11],[],[(5,.k (.row 205 false)),(13,.k (.d (.int .i64)))],[((.exit 0),[(5,.k (.row 205 false))])],bnd tb (.slot 12) 1⟩),
 (14950,⟨549754765856,[18],[],[(5,.k (.row 205 false)),(20,.k (.d (.int .i64)))],[((.exit 2),[(5,.k (.row 205 false))])],bnd tb (.slot 19) 1⟩)] [] [] []
noncomputable def b2U:Row I:=⟨165,[.d (.sl 205),.d (.sl 205)],[.k (.row 205 false)],a5B⟩
theorem b36:RK (b2U) :=
 okR [eR a6O] 42 b5g [.tmp 4] Go.Proofs.Tryz.func165 (by kernel_rfl)
def b4g:Hints I:=mkH [] [] [] [(31333,⟨66846728,[],[],[(.normal,[(3,.k (.row 205 false))])]⟩)] [(122,⟨17179868252,[8],[],[(3,.k (.row 205 false)),(4,.k (.d (.int .i64))),(10,.k (.d (.int .i64)))],[((.exit 0),[(3,.k (.row 205 false)),(4,.k (.d (.int .i64)))]),(.ret,[(2,.k (.row 205 false))])],bnd tb (.slot 9) 1⟩)] [] [] []
noncomputable def b1W:Row I:=⟨166,[.d (.sl 205)],[.k (.row 205 false)],a73⟩
theorem b3d:RK (b1W) :=
 okR [eR a6O] 39 b4g [.tmp 2] Go.Proofs.Tryz.func166 (by kernel_rfl)
def c3Z:Hints I:=mkH [] [] [] [] [(58,⟨137438888352,[],[],[(5,.k (.row 205 false)),(16,.k (.d (.int .i64)))],[((.exit 0),[(5,.k (.row 205 false))])],bnd tb (.slot 15) 1⟩),
 (122,⟨4611684918915763232,[],[],[(5,.k (.row 205 false)),(40,.k (.d (.int .i64)))],[((.exit 2),[(5,.k (.row 205 false))])],bnd tb (.slot 39) 1⟩)] [] [] []
noncomputable def c1U:Row I:=⟨105,[.d (.dat 27),.d (.dat 24)],[.k (.row 205 false)],c0W⟩
theorem c2V:RK (c1U) :=
 okR [eR c0e,eR b36,eR b3d] 63 c3Z [.tmp 4] Go.Proofs.Tryz.func105 (by kernel_rfl)
def b53:Hints I:=mkH [(3,[[],[0],[],[2],[2,3],[0,1,2,3,4],[0,1,2,3,4,5],[0,1,2,3,4,5,6]])] [] [] [] [] [] [] []
def b2w:Row I:=⟨228,[.d (.dat 71)],[.k (.d (.dat 263))],a2p⟩
theorem a35:RK (b2w) :=
 okR [eR b5z,eO c6m,eR a1H,eR a2a] 16 b53 [.cell 2 263] Go.Proofs.Tryz.func228 (by kernel_rfl)
def b3E:Row I:=⟨167,[.d (.sl 9)],[.k (.d (.dat 71))],a3V⟩
theorem a7t:RK (b3E) :=
 okR [eR a35] 7 Z5 [.cell 2 71] Go.Proofs.Tryz.func167 (by kernel_rfl)
def b6N:Row I:=⟨169,[.d (.sl 9)],[.k (.d (.dat 71))],a3D⟩
theorem a8W:RK (b6N) :=
 okR [eR a35] 7 Z5 [.cell 2 71] Go.Proofs.Tryz.func169 (by kernel_rfl)
def b2O:Hints I:=mkH [(1,[[],[0],[0,1],[0,1,2],[],[4],[4,5],[0,1,2,3,4,5,6],[0,1,2,3,4,5,6,7]])] [] [] [] [] [] [] []
def b1m:Row I:=⟨229,[.d (.dat 263),.d (.dat 263)],[.k (.row 9 false)],a7F⟩
theorem b1L:RK (b1m) :=
 okR [eR b5z] 13 b2O [.tmp 4] Go.Proofs.Tryz.func229 (by kernel_rfl)
def b5Z:Row I:=⟨259,[.d (.str)],[.k (.d (.bool))],a6B⟩
theorem b6J:RK (b5Z) :=
 okR [] 6 Z5 [.tmp 2] Go.Proofs.Tryz.func259 (by kernel_rfl)
def b6O:Row I:=⟨195,[.d (.str),.d (.str)],[.k (.d (.bool))],b2l⟩
theorem b7u:RK (b6O) :=
 okR [eR b6J] 17 Z5 [.tmp 4] Go.Proofs.Tryz.func195 (by kernel_rfl)
def b1J:Row I:=⟨321,[.d (.str)],[.k (.d (.bool))],a4X⟩
theorem b2S:RK (b1J) :=
 okR [] 6 Z5 [.tmp 2] Go.Proofs.Tryz.func321 (by kernel_rfl)
def a5X (n:Nat):Hints I:=mkH [] [] [] [] [(60,⟨2147476352,[],[],[(7,.k (.d (.int .i64))),(8,.k (.d (.int .i64)))],[((.exit 0),[(7,.k (.d (.int .i64)))])],fun _=>some n⟩)] [] [] []
def a5g (n:Nat):Row I:=⟨283,[.d (.sl 9),.d (.str)],[.k (.d (.int .i64)),.k (.d (.bool))],a2W n⟩
theorem a5o (n:Nat):RK (a5g n) :=
 okR [eR b7u,eR b2S] 54 (a5X n) [.tmp 4,.tmp 5] Go.Proofs.Tryz.func283 (by kernel_rfl)
def b1z (n:Nat):Row I:=⟨231,[.d (.dat 263),.d (.str)],[.k (.d (.bool))],a40 n⟩
theorem a6o (n:Nat):RK (b1z n) :=
 okR [eR (a5o n)] 16 Z5 [.tmp 4] Go.Proofs.Tryz.func231 (by kernel_rfl)
def b1E (_:Nat):Hints I:=mkH [] [] [] [] [(58,⟨33550496,[],[],[(5,.k (.row 9 false)),(12,.k (.d (.int .i64)))],[((.exit 0),[(5,.k (.row 9 false))])],bnd tb (.slot 11) 1⟩)] [] [] []
def b0e (n:Nat):Row I:=⟨230,[.d (.dat 263),.d (.dat 263)],[.k (.row 9 false)],a30 n⟩
theorem b0J (n:Nat):RK (b0e n) :=
 okR [eR (a6o n)] 26 (b1E n) [.tmp 4] Go.Proofs.Tryz.func230 (by kernel_rfl)
def b5U (_:Nat):Hints I:=mkH [(1,[[],[0],[],[0,1,2],[],[],[0,1,2,3,4,5],[0,1,2,3,4,5,6]])] [] [] [] [(250,⟨576320014815068800,[],[],[(7,.k (.row 9 false)),(47,.k (.d (.int .i64)))],[((.exit 1),[(7,.k (.row 9 false))])],bnd tb (.slot 46) 1⟩)] [] [] []
def b3b (n:Nat):Row I:=⟨168,[.d (.dat 71),.d (.dat 71)],[.k (.d (.dat 71))],a5i n⟩
theorem b4u (n:Nat):RK (b3b n) :=
 okR [eR a35,eR b1L,eR a7t,eR (b0J n),eR a8W,eR (a6o n)] 61 (b5U n) [.cell 4 71] Go.Proofs.Tryz.func168 (by kernel_rfl)
def c3q (_:Nat):Hints I:=mkH [(7,[[],[],[1],[1,2],[1,2,3],[0,1,2,3,4],[0,1,2,3,4,5]]),(14,[[],[],[1],[1,2],[1,2,3],[0,1,2,3,4],[0,1,2,3,4,5]])] [] [] [] [(58,⟨274877646336,[],[(7,.k (.d (.dat 71)))],[(18,.k (.d (.int .i64)))],[((.exit 0),[])],bnd tb (.slot 17) 1⟩),
 (122,⟨2305840810190450688,[],[(7,.k (.d (.dat 71)))],[(41,.k (.d (.int .i64)))],[((.exit 2),[])],bnd tb (.slot 40) 1⟩)] [] [] []
def c1r (n:Nat):Row I:=⟨106,[.d (.dat 27),.d (.dat 24),.d (.int .i64)],[.k (.d (.dat 71))],b2V n⟩
theorem c16 (n:Nat):RK (c1r n) :=
 okR [eR a7t,eR a8W,eR (b4u n)] 62 (c3q n) [.cell 6 71] Go.Proofs.Tryz.func106 (by kernel_rfl)
def c3d:Hints I:=mkH [(1,[[],[0],[],[0,1,2],[0,1,2,3],[0,1,2,3,4],[],[0,1,2,3,4,5,6],[0,1,2,3,4,5,6,7]])] [] [] [] [] [] [] []
def c0r:Row I:=⟨170,[.d (.int .i64),.var 27 (.k (.d (.dat 27))) false,.var 3 (.k (.d (.int .i64))) false],[.k (.d (.bool))],b9e⟩
theorem c2i:RK (c0r) :=
 okR [] 13 c3d [.tmp 4] Go.Proofs.Tryz.func170 (by kernel_rfl)
def c3j:Row I:=⟨107,[.d (.dat 27),.d (.sl 3),.d (.int .i64)],[.k (.d (.bool))],a6M⟩
theorem c3M:RK (c3j) :=
 okR [eR X0,eR c2i] 10 Z5 [.tmp 6] Go.Proofs.Tryz.func107 (by kernel_rfl)
def c1J:Hints I:=mkH [(5,[[],[0],[],[0,1,2],[0,1,2,3],[0,1,2,3,4],[],[0,1,2,3,4,5,6],[0,1,2,3,4,5,6,7],[0,1,2,3,4,5,6,7,8],[0,1,2,3,4,5,6,7,8],[0,1,2,3,4,5,6,7,8,10],[0,1,2,3,4,5,6,7,8],[0,1,2,3,4,5,6,7,8,10,11,12],[0,1,2,3,4,5,6,7,8,10,11,12,13],[0,1,2,3,4,5,6,7,8,9,10,11,12,13,14],[0,1,2,3,4,5,6,7,8,9,10,11,12,13,14,15]])] [] [] [] [(58,⟨1099511613952,[],[],[(9,.k (.row 3 false)),(14,.k (.d (.int .i64)))],[((.exit 0),[(9,.k (.row 3 false))])],bnd tb (.slot 13) 1⟩)] [] [] []
def b9y:Row I:=⟨108,[.d (.dat 101),.d (.dat 27),.d (.sl 3),.d (.int .i64)],[.k (.row 3 false)],b0Q⟩
theorem c0T:RK (b9y) :=
 okR [eR a9S] 41 c1J [.tmp 8] Go.Proofs.Tryz.func108 (by kernel_rfl)
def c4B (_:Nat):Hints I:=mkH [(8,[[],[],[1],[1,2],[1,2,3],[0],[0,1,2,3,4,5]]),(11,[[],[],[],[2],[1,2,3],[1,2,3,4],[1,2,3,4,5],[1,2,3,4,5,6],[1,2,3,4,5,6,7],[1,2,3,4,5,6,7,8],[1,2,3,4,5,6,7,8,9],[1,2,3,4,5,6,7,8,9,10],[1,2,3,4,5,6,7,8,9,10,11],[1,2,3,4,5,6,7,8,9,10,11,12],[1,2,3,4,5,6,7,8,9,10,11,12,13],[1,2,3,4,5,6,7,8,9,10,11,12,13,14],[1,2,3,4,5,6,7,8,9,10,11,12,13,14,15],[1,2,3,4,5,6,7,8,9,10,11,12,13,14,15,16],[0,1,2,3,4,5,6,7,8,9,10],[0,1,2,3,4,5,6,7,8,9,10,11,12,13,14,15,16,17,18]]),(14,[[],[],[],[2],[1,2,3],[1,2,3,4],[1,2,3,4,5],[1,2,3,4,5,6],[1,2,3,4,5,6,7],[1,2,3,4,5,6,7,8],[1,2,3,4,5,6,7,8,9],[1,2,3,4,5,6,7,8,9,10],[1,2,3,4,5,6,7,8,9,10,11],[1,2,3,4,5,6,7,8,9,10,11,12],[1,2,3,4,5,6,7,8,9,10,11,12,13],[1,2,3,4,5,6,7,8,9,10,11,12,13,14],[1,2,3,4,5,6,7,8,9,10,11,12,13,14,15],[1,2,3,4,5,6,7,8,9,10,11,12,13,14,15,16],[0,1,2,3,4,5,6,7,8,9,10],[0,1,2,3,4,5,6,7,8,9,10,11,12,13,14,15,16,17,18]]),(16,[[],[],[],[2],[1,2,3],[1,2,3,4],[0,1,2,3,4],[0,1,2,3,4,5,6]]),(18,[[],[],[],[2],[1,2,3],[1,2,3,4],[0,1,2,3,4],[0,1,2,3,4,5,6]]),(27,[[],[],[],[2],[],[0,1,2,3,4],[],[],[],[8],[],[0,1,2,3,4,5,6,7,8,9,10],[0,1,2,3,4,5],[0,1,2,3,4,5,6,7,8,9,10,11,12],[0,1,2,3,4,5,6,7,8,9,10,11,12,13],[0,1,2,3,4,5,6,7,8,9,10,11,12,13,14]]),(28,[[],[],[1],[1,2],[1,2,3],[1,2,3],[1,2,3,5],[1,2,3],[1,2,3,4,5,6,7],[1,2,3,4,5,6,7,8],[1,2,3,4,5,6,7,8,9],[0,1,2,3,4,5,6,7,8],[0,1,2,3,4,5,6,7,8,9,10,11]])] [(11,[47,51]),(14,[71,75]),(28,[124])] [] [(125,⟨162259276829213363391577993512576,[],[(6,.lvs [.d (.int .i64),.d (.int .i64),.d (.sl 205),.d (.bool),.d (.sl 9),.d (.sl 3),.d (.sl 3),.d (.sl 9),.d (.sl 9)]),(8,.lvs [.d (.int .i64),.d (.int .i64),.d (.sl 205),.d (.bool),.d (.sl 9),.d (.sl 3),.d (.sl 3),.d (.sl 9),.d (.sl 9)])],[(.normal,[(9,.k (.d (.int .i64))),(10,.k (.d (.int .i64)))]),(.ret,[(7,.k (.d (.bool)))])]⟩)] [] [] [] []
noncomputable def c1M (n:Nat):Row I:=⟨48,[.d (.dat 27),.d (.dat 24),.d (.dat 101)],[.k (.d (.dat 73)),.k (.d (.bool))],c0J n⟩
theorem c2Y (n:Nat):RK (c1M n) :=
 okR [eR b8L,eR c2V,eR (c16 n),eR c3M,eR c0T] 132 (c4B n) [.cell 6 73,.tmp 7] Go.Proofs.Tryz.func48 (by kernel_rfl)
def c2W (_:Nat):Hints I:=mkH [(7,[[],[],[1],[0,1,2],[],[],[5],[0,1,2,3,4,5,6],[0,1,2,3,4,5,6,7],[0,1,2,3,4,5,6,7,8]])] [] [] [] [(122,⟨37778931862957027507104,[25],[],[(5,.k (.row 73 false)),(27,.k (.d (.int .i64)))],[((.exit 0),[(5,.k (.row 73 false))])],bnd tb (.slot 26) 1⟩),
 (125342,⟨18889463679678767183904,[49],[],[(5,.k (.row 73 false)),(51,.k (.d (.int .i64)))],[((.exit 2),[(5,.k (.row 73 false))])],bnd tb (.slot 50) 1⟩)] [] [] []
noncomputable def c1o (n:Nat):Row I:=⟨21,[.d (.dat 27),.d (.dat 24)],[.k (.row 73 false)],b9j n⟩
theorem c17 (n:Nat):RK (c1o n) :=
 okR [eR (a1g n),eR a8x,eR (b66 n),eR c26,eR b0B,eR b6j,eR c28,eR (c2Y n),eR b5z] 76 (c2W n) [.tmp 4] Go.Proofs.Tryz.func21 (by kernel_rfl)
def c19:Hints I:=mkH [] [] [] [] [(58,⟨576460752303396608,[],[],[(10,.k (.row 22 false)),(15,.k (.d (.int .i64)))],[((.exit 0),[(10,.k (.row 22 false))]),(.ret,[(8,.k (.row 22 false)),(9,.k (.d (.bool)))])],bnd tb (.slot 14) 1⟩)] [] [] []
def b9H:Row I:=⟨174,[.d (.dat 27),.d (.sl 3),.d (.int .i64),.d (.int .i64)],[.k (.row 22 false),.k (.d (.bool))],b0Z⟩
theorem c0G:RK (b9H) :=
 okR [] 60 c19 [.tmp 8,.tmp 9] Go.Proofs.Tryz.func174 (by kernel_rfl)
def a8V:Hints I:=mkH [] [] [] [] [(26,⟨524080,[],[],[(8,.k (.d (.int .i64)))],[((.exit 0),[]),(.ret,[(4,.k (.d (.int .i64)))])],bnd tb (.slot 7) 1⟩)] [] [] []
def a7R:Row I:=⟨322,[.d (.sl 22),.fn [.sl 3] [.k (.d (.bool))]],[.k (.d (.int .i64))],a5d⟩
theorem a8m:RK (a7R) :=
 okR [] 19 a8V [.tmp 4] Go.Proofs.Tryz.func322 (by kernel_rfl)
def a6H:Row I:=⟨285,[.d (.sl 22),.fn [.sl 3] [.k (.d (.bool))]],[.k (.d (.bool))],a4c⟩
theorem a64:RK (a6H) :=
 okR [eR a8m] 9 Z5 [.tmp 4] Go.Proofs.Tryz.func285 (by kernel_rfl)
def b7W:Row I:=⟨286,[.d (.sl 3),.var 3 (.k (.d (.int .i64))) false],[.k (.d (.bool))],b4y⟩
theorem b81:RK (b7W) :=
 okR [] 8 Z5 [.tmp 3] Go.Proofs.Tryz.func286 (by kernel_rfl)
def c0d:Row I:=⟨234,[.d (.int .i64),.d (.sl 22)],[.k (.d (.bool))],b1c⟩
theorem c0E:RK (c0d) :=
 okR [eR a64,eR b81] 9 Z5 [.tmp 4] Go.Proofs.Tryz.func234 (by kernel_rfl)
def c20:Hints I:=mkH [(9,[[],[0],[],[],[2,3],[2,3,4],[2,3,4,5],[0,1,2,3,4,5,6],[0,1,2,3,4,5,6,7],[0,1,2,3,4,5,6,7,8]]),(14,[[],[],[0,1],[0,1,2],[],[],[4,5],[4,5,6],[0,1,2,3,4,5,6,7],[0,1,2,3,4,5,6,7,8],[],[0,1,2,3,4,5,6,7,8,9,10]]),(15,[[],[0],[],[],[2,3],[2,3,4],[2,3,4,5],[0,1,2,3,4,5,6],[0,1,2,3,4,5,6,7],[0,1,2,3,4,5,6,7,8]]),(19,[[],[0],[],[2],[2,3],[0,1,2,3,4],[0,1,2,3,4,5],[0,1,2,3,4,5,6]])] [] [(18,[10,12]),(19,[12]),(20,[10,12])] [] [(58,⟨4835703278458516698261504,[],[(10,.lvs [.d (.sl 24)]),(12,.lvs [.row 24 true])],[(20,.k (.d (.int .i64)))],[((.exit 0),[]),(.ret,[(11,.k (.d (.bool)))])],bnd tb (.slot 19) 1⟩),
 (59802,⟨549722324992,[],[(14,.lvs [.row 3 false,.row 3 false,.d (.bool)])],[(25,.k (.d (.int .i64)))],[((.exit 2),[])],bnd tb (.slot 24) 1⟩),
 (119610,⟨295147902980329963520,[],[(14,.lvs [.row 3 false,.row 3 false,.d (.bool)])],[(41,.k (.d (.int .i64)))],[((.exit 4),[])],bnd tb (.slot 40) 1⟩)] [] [] []
def c1f:Row I:=⟨235,[.d (.int .i64),.d (.sl 22),.d (.sl 22),.d (.sl 22),.bor 3],[.k (.d (.dat 113)),.k (.d (.bool))],b9n⟩
theorem c11:RK (c1f) :=
 okR [eR b0B,eR a8K] 83 c20 [.cell 10 113,.tmp 11] Go.Proofs.Tryz.func235 (by kernel_rfl)
def b8T:Hints I:=mkH [(5,[[],[],[0,1],[0,1,2],[],[],[4,5],[4,5,6],[4,5,6,7],[0,1,2,3,4,5,6,7,8]])] [] [] [] [] [(26,⟨2147483440,0,3,[(8,.k (.d (.int .i64)))],[((.exit 0),[]),(.ret,[(4,.k (.d (.bool)))])],bnd tb (.slot 7) 1⟩)] [] []
def b6x:Rio I:=⟨236,3,[.d (.sl 22)],[.k (.d (.bool))],b2p⟩
theorem b7L:RO (b6x) :=
 okO [] 31 b8T [.tmp 4] Go.Proofs.Tryz.func236 (by kernel_rfl)
def c1u (n:Nat):Hints I:=mkH [] [] [(11,[1000009]),(17,[9])] [(8131,⟨2321137573660088015435890688,[],[],[(.normal,[(15,.k (.row 113 false))])]⟩)] [(254,⟨79228011398536885764897341696,[],[],[(14,.k (.row 3 false)),(15,.k (.row 113 false))],[(.ret,[(8,.k (.row 113 false)),(14,.k (.row 3 false))])],fun _=>some n⟩)] [] [(122,⟨⟨18889465929279557614848,[],[],[(41,.k (.d (.int .i64)))],[((.exit 0),[]),(.ret,[(8,.k (.row 113 false))])],bnd tb (.slot 40) 1⟩,9,22⟩),
 (62666,⟨⟨147573671114699714560,[],[],[(48,.k (.d (.int .i64)))],[((.exit 2),[])],bnd tb (.slot 47) 1⟩,9,22⟩)] []
def b8N (n:Nat):Row I:=⟨175,[.d (.int .i64),.d (.sl 22),.d (.sl 22),.fn [.int .i64] [.k (.d (.bool))]],[.k (.row 113 false)],b6i n⟩
theorem b9L (n:Nat):RK (b8N n) :=
 okR [eR c0E,eR c11,eO b7L] 96 (c1u n) [.tmp 8] Go.Proofs.Tryz.func175 (by kernel_rfl)
def b00:Row I:=⟨176,[.d (.int .i64),.var 27 (.k (.d (.dat 27))) false],[.k (.d (.bool))],a7b⟩
theorem b1F:RK (b00) :=
 okR [] 11 Z5 [.tmp 3] Go.Proofs.Tryz.func176 (by kernel_rfl)
def b44 (_:Nat):Hints I:=mkH [(1,[[],[0],[],[0,1,2]])] [] [] [(29,⟨3932400,[],[],[(.normal,[(6,.k (.d (.int .i64))),(7,.k (.d (.int .i64)))]),(.ret,[(4,.k (.row 113 false)),(5,.k (.d (.int .i64)))])]⟩),
 (2045,⟨1180447505529335455744,[12],[],[(.normal,[])]⟩)] [(16362,⟨1180015159965107888128,[],[],[(59,.k (.d (.int .i64)))],[((.exit 1),[])],bnd tb (.slot 58) 1⟩)] [] [] []
def b3k (n:Nat):Row I:=⟨111,[.d (.dat 27),.d (.dat 73)],[.k (.d (.sl 113)),.k (.d (.int .i64))],a87 n⟩
theorem b4i (n:Nat):RK (b3k n) :=
 okR [eR (a1g n),eR c0G,eR (b9L n),eR b1F] 71 (b44 n) [.tmp 4,.tmp 5] Go.Proofs.Tryz.func111 (by kernel_rfl)
def c3s (_:Nat):Hints I:=mkH [] [] [] [(429,⟨2684354560,[],[],[(.normal,[(29,.k (.d (.bool)))])]⟩),
 (1725,⟨1407374883553280,[],[],[(.normal,[(48,.k (.d (.bool)))])]⟩),
 (3445,⟨128,[],[],[(.normal,[(7,.k (.d (.int .i64)))])]⟩)] [(55258,⟨1180015159965107900416,[],[],[(12,.k (.row 58 false)),(59,.k (.d (.int .i64)))],[((.exit 1),[(12,.k (.row 58 false))])],bnd tb (.slot 58) 1⟩)] [] [] []
def c0O (n:Nat):Row I:=⟨49,[.d (.dat 27),.d (.dat 73)],[.k (.row 58 false)],b9f n⟩
theorem c18 (n:Nat):RK (c0O n) :=
 okR [eR (b4i n)] 83 (c3s n) [.tmp 4] Go.Proofs.Tryz.func49 (by kernel_rfl)
def c3n (_:Nat):Hints I:=mkH [] [] [] [] [(58,⟨1073737888,[10],[],[(5,.k (.row 58 false)),(12,.k (.d (.int .i64)))],[((.exit 0),[(5,.k (.row 58 false))])],bnd tb (.slot 11) 1⟩)] [] [] []
def c0s (n:Nat):Row I:=⟨22,[.d (.dat 27),.d (.dat 73)],[.k (.row 58 false)],b9d n⟩
theorem c2n (n:Nat):RK (c0s n) :=
 okR [eR (c18 n),eR b5z] 31 (c3n n) [.tmp 4] Go.Proofs.Tryz.func22 (by kernel_rfl)
def b6m (_:Nat):Hints I:=mkH [] [] [] [] [(122,⟨2145386656,[19],[],[(5,.k (.row 58 false)),(21,.k (.d (.int .i64)))],[((.exit 0),[(5,.k (.row 58 false))])],bnd tb (.slot 20) 1⟩)] [] [] []
noncomputable def b3J (n:Nat):Row I:=⟨8,[.d (.dat 27),.d (.dat 24)],[.k (.row 58 false)],a06 n⟩
theorem a69 (n:Nat):RK (b3J n) :=
 okR [eR (a1g n),eR a8x,eR (c17 n),eR (c2n n)] 32 (b6m n) [.tmp 4] Go.Proofs.Tryz.func8 (by kernel_rfl)
def b6B:Row I:=⟨12,[],[.k (.d (.dat 35))],K6⟩
theorem a1w:RK (b6B) :=
 okR [] 2 Z5 [.cell 0 35] Go.Proofs.Tryz.func12 (by kernel_rfl)
def b2T:Row I:=⟨28,[.d (.sl 35)],[.k (.row 35 false)],a0M⟩
theorem a6R:RK (b2T) :=
 okR [] 5 Z5 [.tmp 2] Go.Proofs.Tryz.func28 (by kernel_rfl)
def b3H:Row I:=⟨11,[.d (.sl 35)],[.k (.d (.dat 35))],a1X⟩
theorem a4u:RK (b3H) :=
 okR [eR a6R] 6 Z5 [.cell 2 35] Go.Proofs.Tryz.func11 (by kernel_rfl)
def c4s:Hints I:=mkH [] [] [] [(105,⟨160,[],[],[(.normal,[(5,.k (.d (.bool)))])]⟩),
 (429,⟨2560,[],[],[(.normal,[(9,.k (.d (.bool)))])]⟩),
 (6909,⟨327680,[],[],[(.normal,[(16,.k (.d (.bool)))])]⟩)] [] [] [] []
def c2h:Row I:=⟨180,[.d (.int .i64)],[.k (.d (.dat 229)),.k (.d (.bool))],c0w⟩
theorem c3t:RK (c2h) :=
 okR [] 27 c4s [.cell 2 229,.tmp 3] Go.Proofs.Tryz.func180 (by kernel_rfl)
def b1r:Hints I:=mkH [(4,[[],[],[],[2],[1,2,3],[1,2,3,4],[],[],[6,7],[6,7,8],[0,1,2,3,4,5,6,7,8,9],[0,1,2,3,4,5,6,7,8,9,10]])] [] [] [] [(26,⟨16777200,[],[],[(5,.k (.d (.int .i64)))],[((.exit 0),[]),(.ret,[(4,.k (.d (.bool)))])],bnd tb (.len (.slot 0)) 1⟩)] [] [] []
def a9z:Row I:=⟨245,[.d (.sl 9),.fn [.str,.str] [.k (.d (.int .i64))]],[.k (.d (.bool))],a6t⟩
theorem a9Y:RK (a9z) :=
 okR [] 24 b1r [.tmp 4] Go.Proofs.Tryz.func245 (by kernel_rfl)
def b6y:Hints I:=mkH [] [] [] [] [(58,⟨261140,[],[],[(10,.k (.d (.int .i64)))],[((.exit 0),[]),(.ret,[(2,.k (.d (.bool)))])],bnd tb (.slot 9) 1⟩)] [] [] []
def b4j:Row I:=⟨181,[.d (.sl 9)],[.k (.d (.bool))],a9T⟩
theorem b5M:RK (b4j) :=
 okR [eR a9Y,eR a5t,eR a75] 18 b6y [.tmp 2] Go.Proofs.Tryz.func181 (by kernel_rfl)
def b0a:Hints I:=mkH [(4,[[],[],[],[2],[1,2,3],[1,2,3,4],[],[],[6,7],[6,7,8],[0,1,2,3,4,5,6,7,8,9],[0,1,2,3,4,5,6,7,8,9,10]])] [] [] [] [(26,⟨16777200,[],[],[(5,.k (.d (.int .i64)))],[((.exit 0),[]),(.ret,[(4,.k (.d (.bool)))])],bnd tb (.len (.slot 0)) 1⟩)] [] [] []
def a9i:Row I:=⟨246,[.d (.sl 106),.fn [.dat 106,.dat 106] [.k (.d (.int .i64))]],[.k (.d (.bool))],a57⟩
theorem a9N:RK (a9i) :=
 okR [] 24 b0a [.tmp 4] Go.Proofs.Tryz.func246 (by kernel_rfl)
def b99:Hints I:=mkH [] [] [] [] [(58,⟨534773780,[],[],[(21,.k (.d (.int .i64)))],[((.exit 0),[]),(.ret,[(2,.k (.d (.bool)))])],bnd tb (.slot 20) 1⟩)] [] [] []
def b7Z:Row I:=⟨182,[.d (.dat 35)],[.k (.d (.bool))],b3R⟩
theorem b8M:RK (b7Z) :=
 okR [eR a9N,eR a4z,eR a9W] 29 b99 [.tmp 2] Go.Proofs.Tryz.func182 (by kernel_rfl)
def a9e:Hints I:=mkH [(4,[[],[],[],[2],[1,2,3],[1,2,3,4],[],[],[6,7],[6,7,8],[0,1,2,3,4,5,6,7,8,9],[0,1,2,3,4,5,6,7,8,9,10]])] [] [] [] [(26,⟨16777200,[],[],[(5,.k (.d (.int .i64)))],[((.exit 0),[]),(.ret,[(4,.k (.d (.bool)))])],bnd tb (.len (.slot 0)) 1⟩)] [] [] []
def a7W:Row I:=⟨247,[.d (.sl 124),.fn [.dat 124,.dat 124] [.k (.d (.int .i64))]],[.k (.d (.bool))],a42⟩
theorem a8k:RK (a7W) :=
 okR [] 24 a9e [.tmp 4] Go.Proofs.Tryz.func247 (by kernel_rfl)
def a7a:Hints I:=mkH [(7,[[],[],[],[1,2],[1,2,3],[],[],[5,6],[5,6,7],[0,1,2,3,4,5,6,7,8],[0,1,2,3,4,5,6,7,8,9]])] [] [] [] [(58,⟨137437905728,[],[],[(20,.k (.d (.int .i64)))],[((.exit 0),[]),(.ret,[(6,.k (.d (.int .i64)))])],bnd tb (.slot 19) 1⟩)] [] [] []
def a6E:Row I:=⟨308,[.d (.sl 35),.d (.sl 35),.fn [.dat 35,.dat 35] [.k (.d (.int .i64))]],[.k (.d (.int .i64))],a4g⟩
theorem a6W:RK (a6E) :=
 okR [eR a1A] 37 a7a [.tmp 6] Go.Proofs.Tryz.func308 (by kernel_rfl)
def a8t:Hints I:=mkH [(7,[[],[],[],[1,2],[1,2,3],[],[],[5,6],[5,6,7],[0,1,2,3,4,5,6,7,8],[0,1,2,3,4,5,6,7,8,9]])] [] [] [] [(58,⟨137437905728,[],[],[(20,.k (.d (.int .i64)))],[((.exit 0),[]),(.ret,[(6,.k (.d (.int .i64)))])],bnd tb (.slot 19) 1⟩)] [] [] []
def a7q:Row I:=⟨309,[.d (.sl 106),.d (.sl 106),.fn [.dat 106,.dat 106] [.k (.d (.int .i64))]],[.k (.d (.int .i64))],a4I⟩
theorem a7S:RK (a7q) :=
 okR [eR a1A] 37 a8t [.tmp 6] Go.Proofs.Tryz.func309 (by kernel_rfl)
def a7G:Hints I:=mkH [(7,[[],[],[],[1,2],[1,2,3],[],[],[5,6],[5,6,7],[0,1,2,3,4,5,6,7,8],[0,1,2,3,4,5,6,7,8,9]])] [] [] [] [(58,⟨137437905728,[],[],[(20,.k (.d (.int .i64)))],[((.exit 0),[]),(.ret,[(6,.k (.d (.int .i64)))])],bnd tb (.slot 19) 1⟩)] [] [] []
def a6J:Row I:=⟨310,[.d (.sl 124),.d (.sl 124),.fn [.dat 124,.dat 124] [.k (.d (.int .i64))]],[.k (.d (.int .i64))],a3W⟩
theorem a6Y:RK (a6J) :=
 okR [eR a1A] 37 a7G [.tmp 6] Go.Proofs.Tryz.func310 (by kernel_rfl)
def a9k:Hints I:=mkH [(7,[[],[],[],[1,2],[1,2,3],[],[],[5,6],[5,6,7],[0,1,2,3,4,5,6,7,8],[0,1,2,3,4,5,6,7,8,9]])] [] [] [] [(58,⟨137437905728,[],[],[(20,.k (.d (.int .i64)))],[((.exit 0),[]),(.ret,[(6,.k (.d (.int .i64)))])],bnd tb (.slot 19) 1⟩)] [] [] []
def a7X:Row I:=⟨311,[.d (.sl 9),.d (.sl 9),.fn [.str,.str] [.k (.d (.int .i64))]],[.k (.d (.int .i64))],a48⟩
theorem a8I:RK (a7X) :=
 okR [eR a1A] 37 a9k [.tmp 6] Go.Proofs.Tryz.func311 (by kernel_rfl)
def a1W (n:Nat):Row I:=⟨267,[.d (.dat 35),.d (.dat 35)],[.k (.d (.int .i64))],b6c n⟩
def a0e (n:Nat):Row I:=⟨212,[.d (.dat 124),.d (.dat 124)],[.k (.d (.int .i64))],a7p n⟩
def a02 (n:Nat):Row I:=⟨266,[.d (.sl 35),.d (.sl 35)],[.k (.d (.int .i64))],b6F n⟩
theorem b83 (n:Nat)(_:j5 Go.Proofs.Tryz.prog (a1W n))(h_value_compareEntries:j5 Go.Proofs.Tryz.prog (a0e n))(h_value_compareValues:j5 Go.Proofs.Tryz.prog (a02 n)):RK (a1W (n+1)) :=
 okR [eR a1A,eR a7v,eR a5t,eR a7S,eR a4z,eR h_value_compareValues,eR a6Y,eR h_value_compareEntries,eR a8I] 64 Z5 [.tmp 4] Go.Proofs.Tryz.func267 (by kernel_rfl)
theorem b0U (n:Nat)(h_value_Compare:j5 Go.Proofs.Tryz.prog (a1W n))(_:j5 Go.Proofs.Tryz.prog (a0e n))(h_value_compareValues:j5 Go.Proofs.Tryz.prog (a02 n)):RK (a0e (n+1)) :=
 okR [eR h_value_compareValues,eR h_value_Compare] 26 Z5 [.tmp 4] Go.Proofs.Tryz.func212 (by kernel_rfl)
theorem b1Q (n:Nat)(h_value_Compare:j5 Go.Proofs.Tryz.prog (a1W n))(_:j5 Go.Proofs.Tryz.prog (a0e n))(_:j5 Go.Proofs.Tryz.prog (a02 n)):RK (a02 (n+1)) :=
 okR [eR a6W,eR h_value_Compare] 8 Z5 [.tmp 4] Go.Proofs.Tryz.func266 (by kernel_rfl)
theorem a4q:∀ n:Nat,j5 Go.Proofs.Tryz.prog (a1W n)/\j5 Go.Proofs.Tryz.prog (a0e n)/\j5 Go.Proofs.Tryz.prog (a02 n)
 | 0=>⟨Y0 (by kernel_rfl),Y0 (by kernel_rfl),Y0 (by kernel_rfl)⟩
 | n+1=>by
   obtain ⟨h0,h1,h2⟩:=a4q n
   exact ⟨b83 n h0 h1 h2,b0U n h0 h1 h2,b1Q n h0 h1 h2⟩
theorem b9X (n:Nat):j5 Go.Proofs.Tryz.prog (a1W n):=(a4q n).1
theorem b1H (n:Nat):j5 Go.Proofs.Tryz.prog (a0e n):=(a4q n).2.1
def c0M (n:Nat):Row I:=⟨264,[.d (.dat 35),.d (.dat 35)],[.k (.d (.bool))],b9q n⟩
theorem c2q (n:Nat):RK (c0M n) :=
 okR [eR (b9X n)] 9 Z5 [.tmp 4] Go.Proofs.Tryz.func264 (by kernel_rfl)
def b9v (n:Nat):Row I:=⟨210,[.d (.dat 35)],[.k (.d (.bool))],b79 n⟩
theorem c0n (n:Nat):RK (b9v n) :=
 okR [eR (c2q n)] 6 Z5 [.tmp 2] Go.Proofs.Tryz.func210 (by kernel_rfl)
def b43 (n:Nat):Row I:=⟨133,[.d (.dat 124),.d (.int .i64)],[.k (.d (.bool))],b1t n⟩
theorem b6Q (n:Nat):RK (b43 n) :=
 okR [eR (c0n n)] 20 Z5 [.tmp 4] Go.Proofs.Tryz.func133 (by kernel_rfl)
def b4b (_:Nat):Hints I:=mkH [] [] [] [] [(58,⟨4290773012,[],[],[(22,.k (.d (.int .i64)))],[((.exit 0),[]),(.ret,[(2,.k (.d (.bool)))])],bnd tb (.slot 21) 1⟩)] [] [] []
def b1y (n:Nat):Row I:=⟨183,[.d (.dat 35)],[.k (.d (.bool))],a74 n⟩
theorem b2R (n:Nat):RK (b1y n) :=
 okR [eR a8k,eR (b1H n),eR (b6Q n)] 32 (b4b n) [.tmp 2] Go.Proofs.Tryz.func183 (by kernel_rfl)
def b6P (n:Nat):Row I:=⟨119,[.d (.dat 35)],[.k (.d (.bool))],b2i n⟩
theorem b68 (n:Nat):RK (b6P n) :=
 okR [eR c3t,eR b5M,eR a7o,eR b8M,eR (b2R n)] 124 Z5 [.tmp 2] Go.Proofs.Tryz.func119 (by kernel_rfl)
def c3o:Hints I:=mkH [] [] [] [] [(58,⟨536866856,[],[],[(3,.k (.row 35 false)),(12,.k (.d (.int .i64)))],[((.exit 0),[(3,.k (.row 35 false))])],bnd tb (.slot 11) 1⟩)] [] [] []
def c09:Row I:=⟨120,[.d (.dat 35)],[.k (.row 35 false)],b9c⟩
theorem c2o:RK (c09) :=
 okR [eR d08] 30 c3o [.tmp 2] Go.Proofs.Tryz.func120 (by kernel_rfl)
def b8P (_:Nat):Hints I:=mkH [] [] [] [] [(58,⟨522260,[9],[],[(11,.k (.d (.int .i64)))],[((.exit 0),[]),(.ret,[(2,.k (.d (.bool)))])],bnd tb (.slot 10) 1⟩)] [] [] []
def a4W (n:Nat):Row I:=⟨54,[.d (.dat 35)],[.k (.d (.bool))],a7A n⟩
theorem b6q (n:Nat)(h_value_validTree:j5 Go.Proofs.Tryz.prog (a4W n)):RK (a4W (n+1)) :=
 okR [eR (b68 n),eR c2o,eR h_value_validTree] 19 (b8P n) [.tmp 2] Go.Proofs.Tryz.func54 (by kernel_rfl)
theorem a9d:∀ n:Nat,j5 Go.Proofs.Tryz.prog (a4W n)
 | 0=>Y0 (by kernel_rfl)
 | n+1=>b6q n (a9d n)
def b78 (n:Nat):Row I:=⟨25,[.d (.dat 35)],[.k (.d (.int .i64))],a5P n⟩
theorem a6b (n:Nat):RK (b78 n) :=
 okR [eR (a9d n)] 6 Z5 [.tmp 2] Go.Proofs.Tryz.func25 (by kernel_rfl)
def c0o:Row I:=⟨248,[.d (.int .i64)],[.k (.d (.int .i64))],b9o⟩
theorem c1D:RK (c0o) :=
 okR [] 14 Z5 [.tmp 2] Go.Proofs.Tryz.func248 (by kernel_rfl)
def a7x:Hints I:=mkH [(4,[[],[],[],[1,2],[1,2,3],[0,1,2,3,4]])] [] [] [] [(26,⟨524080,[],[],[(8,.k (.d (.int .i64)))],[((.exit 0),[]),(.ret,[(4,.k (.d (.int .i64)))])],bnd tb (.slot 7) 1⟩)] [] [] []
def a6C:Row I:=⟨324,[.d (.sl 106),.d (.dat 106)],[.k (.d (.int .i64))],a3Z⟩
theorem a60:RK (a6C) :=
 okR [] 19 a7x [.tmp 4] Go.Proofs.Tryz.func324 (by kernel_rfl)
def a5J:Row I:=⟨296,[.d (.sl 106),.d (.dat 106)],[.k (.d (.bool))],a3v⟩
theorem a6c:RK (a5J) :=
 okR [eR a60] 9 Z5 [.tmp 4] Go.Proofs.Tryz.func296 (by kernel_rfl)
def c8j:Hints I:=mkH [] [] [] [] [(26,⟨2096208,[],[],[(10,.k (.d (.int .i64)))],[((.exit 0),[]),(.ret,[(4,.k (.d (.int .i64)))])],bnd tb (.slot 9) 1⟩)] [] [] []
def c5u:Row I:=⟨293,[.d (.dat 48),.d (.dat 106)],[.k (.d (.int .i64))],c57⟩
theorem c6p:RK (c5u) :=
 okR [] 26 c8j [.tmp 4] Go.Proofs.Tryz.func293 (by kernel_rfl)
def c6V (_:Nat):Hints I:=mkH [(6,[[],[],[],[],[2,3],[2,3,4],[0,1,2,3,4,5],[0,1,2,3,4,5,6]])] [] [] [] [(58,⟨1073676736,[],[],[(16,.k (.d (.int .i64)))],[((.exit 0),[]),(.ret,[(6,.k (.d (.bool)))])],bnd tb (.slot 15) 1⟩)] [] [] []
def a1K (n:Nat):Row I:=⟨249,[.d (.sl 35),.d (.dat 27),.d (.sl 3)],[.k (.d (.bool))],c9q n⟩
def b6v (_:Nat):Hints I:=mkH [(2,[[],[0],[],[],[3],[],[3,4,5],[0,1,2,3,4,5,6],[0,1,2,3,4,5,6,7],[0,1,2,3,4,5,6,7,8],[0,1,2,3,4,5,6,7,8,9],[0,1,2,3,4,5,6,7,8,9,10],[0,1,2,3,4,5,6,7,8,9,10,11],[0,1,2,3,4,5,6,7,8,9,10,11,12],[0,1,2,3,4,5,6,7,8,9,10,11,12,13],[0,1,2,3,4,5,6,7,8,9,10,11,12,13,14],[0,1,2,3,4,5,6,7,8,9,10,11,12,13],[0,1,2,3,4,5,6,7,8,9,10,11,12,13],[0,1,2,3,4,5,6,7,8,9,10,11,12,13,17],[0,1,2,3,4,5,6,7,8,9,10,11,12,13],[0,1,2,3,4,5,6,7,8,9,10,11,12,13,17,18,19],[0,1,2,3,4,5,6,7,8,9,10,11,12,13,17,18,19,20],[0,1,2,3,4,5,6,7,8,9,10,11,12,13,14,15,16,17,18,19,20,21],[0,1,2,3,4,5,6,7,8,9,10,11,12,13,14,15,16,17,18,19,20,21,22],[0,1,2,3,4,5,6,7,8,9,10,11,12,13,14,15,16,17,18,19,20,21,22,23],[0,1,2,3,4,5,6,7,8,9,10,11,12,13,14,15,16,17,18,19,20,21,22,23,24]])] [] [] [] [] [] [] []
def K5 (n:Nat):Row I:=⟨297,[.d (.dat 124),.d (.dat 27),.d (.dat 48)],[.k (.d (.bool))],b8V n⟩
def b7G (_:Nat):Hints I:=mkH [] [] [] [] [(58,⟨536346944,[],[],[(19,.k (.d (.int .i64)))],[((.exit 0),[]),(.ret,[(6,.k (.d (.bool)))])],bnd tb (.slot 18) 1⟩)] [] [] []
def V5 (n:Nat):Row I:=⟨251,[.d (.dat 35),.d (.dat 27),.d (.dat 48)],[.k (.d (.bool))],b9E n⟩
def c6D (_:Nat):Hints I:=mkH [(17,[[],[0],[],[2],[2,3],[0,1,2,3,4],[0,1,2,3,4,5]]),(31,[[],[],[],[2],[2,3],[2,3,4],[0,1,2,3,4,5],[0,1,2,3,4,5,6],[0,1,2,3,4,5,6,7]])] [] [] [(60413,⟨144115188075855872000,[],[],[(.normal,[(60,.k (.d (.bool)))])]⟩)] [] [] [] []
def a1l (n:Nat):Row I:=⟨186,[.d (.dat 35),.d (.dat 27),.d (.int .i64)],[.k (.d (.bool))],b9R n⟩
def a0U (n:Nat):Row I:=⟨252,[.d (.int .i64),.var 35 (.k (.d (.dat 35))) false,.var 27 (.k (.d (.dat 27))) false],[.k (.d (.bool))],c67 n⟩
def a0S (n:Nat):Row I:=⟨253,[.d (.int .i64),.var 35 (.k (.d (.dat 35))) false,.var 27 (.k (.d (.dat 27))) false],[.k (.d (.bool))],c6t n⟩
def c3h (_:Nat):Hints I:=mkH [(10,[[],[0],[],[0,1,2],[0,1,2,3],[],[],[],[6,7],[0,1,2,3,4,5,6,7,8],[0,1,2,3,4,5,6,7,8,9]])] [] [] [] [(26,⟨1073725760,[],[],[(14,.k (.d (.int .i64)))],[((.exit 0),[]),(.ret,[(6,.k (.d (.bool)))])],bnd tb (.slot 13) 1⟩),
 (58,⟨1125891316909632,[],[],[(33,.k (.d (.int .i64)))],[((.exit 2),[]),(.ret,[(6,.k (.d (.bool)))])],bnd tb (.slot 32) 1⟩)] [] [] []
def a0I (n:Nat):Row I:=⟨250,[.d (.dat 35),.d (.dat 27),.d (.dat 48)],[.k (.d (.bool))],c5J n⟩
theorem c5m (n:Nat)(_:j5 Go.Proofs.Tryz.prog (a1K n))(_:j5 Go.Proofs.Tryz.prog (K5 n))(_:j5 Go.Proofs.Tryz.prog (V5 n))(h_core_Has:j5 Go.Proofs.Tryz.prog (a1l n))(_:j5 Go.Proofs.Tryz.prog (a0U n))(_:j5 Go.Proofs.Tryz.prog (a0S n))(_:j5 Go.Proofs.Tryz.prog (a0I n)):RK (a1K (n+1)) :=
 okR [eR h_core_Has] 30 (c6V n) [.tmp 6] Go.Proofs.Tryz.func249 (by kernel_rfl)
theorem b3O (n:Nat)(h_core_all:j5 Go.Proofs.Tryz.prog (a1K n))(_:j5 Go.Proofs.Tryz.prog (K5 n))(_:j5 Go.Proofs.Tryz.prog (V5 n))(h_core_Has:j5 Go.Proofs.Tryz.prog (a1l n))(_:j5 Go.Proofs.Tryz.prog (a0U n))(_:j5 Go.Proofs.Tryz.prog (a0S n))(_:j5 Go.Proofs.Tryz.prog (a0I n)):RK (K5 (n+1)) :=
 okR [eR h_core_all,eR h_core_Has] 37 (b6v n) [.tmp 6] Go.Proofs.Tryz.func297 (by kernel_rfl)
theorem b5n (n:Nat)(_:j5 Go.Proofs.Tryz.prog (a1K n))(h_core_EntryAllowed:j5 Go.Proofs.Tryz.prog (K5 n))(_:j5 Go.Proofs.Tryz.prog (V5 n))(_:j5 Go.Proofs.Tryz.prog (a1l n))(_:j5 Go.Proofs.Tryz.prog (a0U n))(_:j5 Go.Proofs.Tryz.prog (a0S n))(_:j5 Go.Proofs.Tryz.prog (a0I n)):RK (V5 (n+1)) :=
 okR [eR h_core_EntryAllowed] 29 (b7G n) [.tmp 6] Go.Proofs.Tryz.func251 (by kernel_rfl)
theorem c4j (n:Nat)(h_core_all:j5 Go.Proofs.Tryz.prog (a1K n))(_:j5 Go.Proofs.Tryz.prog (K5 n))(h_core_functionHas:j5 Go.Proofs.Tryz.prog (V5 n))(h_core_Has:j5 Go.Proofs.Tryz.prog (a1l n))(h_core_Has_1:j5 Go.Proofs.Tryz.prog (a0U n))(h_core_Has_2:j5 Go.Proofs.Tryz.prog (a0S n))(h_core_mapHas:j5 Go.Proofs.Tryz.prog (a0I n)):RK (a1l (n+1)) :=
 okR [eR c1D,eR h_core_all,eR h_core_mapHas,eR h_core_functionHas,eR X0,eR h_core_Has_1,eR h_core_Has_2,eR h_core_Has,eR a29] 151 (c6D n) [.tmp 6] Go.Proofs.Tryz.func186 (by kernel_rfl)
theorem c1L (n:Nat)(_:j5 Go.Proofs.Tryz.prog (a1K n))(_:j5 Go.Proofs.Tryz.prog (K5 n))(_:j5 Go.Proofs.Tryz.prog (V5 n))(h_core_Has:j5 Go.Proofs.Tryz.prog (a1l n))(_:j5 Go.Proofs.Tryz.prog (a0U n))(_:j5 Go.Proofs.Tryz.prog (a0S n))(_:j5 Go.Proofs.Tryz.prog (a0I n)):RK (a0U (n+1)) :=
 okR [eR h_core_Has] 9 Z5 [.tmp 4] Go.Proofs.Tryz.func252 (by kernel_rfl)
theorem c2g (n:Nat)(_:j5 Go.Proofs.Tryz.prog (a1K n))(_:j5 Go.Proofs.Tryz.prog (K5 n))(_:j5 Go.Proofs.Tryz.prog (V5 n))(h_core_Has:j5 Go.Proofs.Tryz.prog (a1l n))(_:j5 Go.Proofs.Tryz.prog (a0U n))(_:j5 Go.Proofs.Tryz.prog (a0S n))(_:j5 Go.Proofs.Tryz.prog (a0I n)):RK (a0S (n+1)) :=
 okR [eR h_core_Has] 10 Z5 [.tmp 4] Go.Proofs.Tryz.func253 (by kernel_rfl)
theorem c0S (n:Nat)(_:j5 Go.Proofs.Tryz.prog (a1K n))(_:j5 Go.Proofs.Tryz.prog (K5 n))(_:j5 Go.Proofs.Tryz.prog (V5 n))(h_core_Has:j5 Go.Proofs.Tryz.prog (a1l n))(_:j5 Go.Proofs.Tryz.prog (a0U n))(_:j5 Go.Proofs.Tryz.prog (a0S n))(_:j5 Go.Proofs.Tryz.prog (a0I n)):RK (a0I (n+1)) :=
 okR [eR a6c,eR c6p,eR h_core_Has] 50 (c3h n) [.tmp 6] Go.Proofs.Tryz.func250 (by kernel_rfl)
theorem b2b:∀ n:Nat,j5 Go.Proofs.Tryz.prog (a1K n)/\j5 Go.Proofs.Tryz.prog (K5 n)/\j5 Go.Proofs.Tryz.prog (V5 n)/\j5 Go.Proofs.Tryz.prog (a1l n)/\j5 Go.Proofs.Tryz.prog (a0U n)/\j5 Go.Proofs.Tryz.prog (a0S n)/\j5 Go.Proofs.Tryz.prog (a0I n)
 | 0=>⟨Y0 (by kernel_rfl),Y0 (by kernel_rfl),Y0 (by kernel_rfl),Y0 (by kernel_rfl),Y0 (by kernel_rfl),Y0 (by kernel_rfl),Y0 (by kernel_rfl)⟩
 | n+1=>by
   obtain ⟨h0,h1,h2,h3,h4,h5,h6⟩:=b2b n
   exact ⟨c5m n h0 h1 h2 h3 h4 h5 h6,b3O n h0 h1 h2 h3 h4 h5 h6,b5n n h0 h1 h2 h3 h4 h5 h6,c4j n h0 h1 h2 h3 h4 h5 h6,c1L n h0 h1 h2 h3 h4 h5 h6,c2g n h0 h1 h2 h3 h4 h5 h6,c0S n h0 h1 h2 h3 h4 h5 h6⟩
theorem b9r (n:Nat):j5 Go.Proofs.Tryz.prog (a1l n):=(b2b n).2.2.2.1
def b80 (n:Nat):Row I:=⟨185,[.d (.int .i64),.var 35 (.k (.d (.dat 35))) false,.var 27 (.k (.d (.dat 27))) false],[.k (.d (.bool))],b6d n⟩
theorem b9M (n:Nat):RK (b80 n) :=
 okR [eR (b9r n)] 10 Z5 [.tmp 4] Go.Proofs.Tryz.func185 (by kernel_rfl)
def b82 (n:Nat):Row I:=⟨187,[.d (.int .i64),.var 35 (.k (.d (.dat 35))) false,.var 27 (.k (.d (.dat 27))) false],[.k (.d (.bool))],b6f n⟩
theorem c0k (n:Nat):RK (b82 n) :=
 okR [eR (b9r n)] 9 Z5 [.tmp 4] Go.Proofs.Tryz.func187 (by kernel_rfl)
def c03 (n:Nat):Row I:=⟨121,[.d (.dat 35),.d (.dat 27),.d (.sl 3),.d (.sl 3)],[.k (.d (.bool))],b9i n⟩
theorem c2e (n:Nat):RK (c03 n) :=
 okR [eR X0,eR (b9M n),eR (c0k n)] 19 Z5 [.tmp 8] Go.Proofs.Tryz.func121 (by kernel_rfl)
def b9W (n:Nat):Row I:=⟨58,[.d (.dat 35),.d (.dat 27),.d (.dat 24)],[.k (.d (.bool))],b0E n⟩
theorem b2m (n:Nat):RK (b9W n) :=
 okR [eR (a6b n),eR (a1g n),eR a8x,eR (c2e n)] 40 Z5 [.tmp 6] Go.Proofs.Tryz.func58 (by kernel_rfl)
def c0F (_:Nat):Hints I:=mkH [(6,[[],[],[0,1],[0,1,2],[],[],[5],[],[5,6,7],[5,6,7,8],[0,1,2,3,4,5,6,7,8,9],[0,1,2,3,4,5,6,7,8,9,10]])] [] [] [] [(58,⟨4294901952,[],[],[(16,.k (.d (.int .i64)))],[((.exit 0),[]),(.ret,[(6,.k (.d (.bool)))])],bnd tb (.slot 15) 1⟩)] [] [] []
def b8Q (n:Nat):Row I:=⟨55,[.d (.sl 35),.d (.dat 27),.d (.dat 113)],[.k (.d (.bool))],b6h n⟩
theorem b97 (n:Nat):RK (b8Q n) :=
 okR [eR (b2m n)] 32 (c0F n) [.tmp 6] Go.Proofs.Tryz.func55 (by kernel_rfl)
def a41:Hints I:=mkH [] [] [] [] [(26,⟨524080,[],[],[(8,.k (.d (.int .i64)))],[((.exit 0),[]),(.ret,[(4,.k (.d (.int .i64)))])],bnd tb (.slot 7) 1⟩)] [] [] []
def a4A:Row I:=⟨56,[.d (.sl 35),.fn [.dat 35] [.k (.d (.bool))]],[.k (.d (.int .i64))],a2m⟩
theorem a4J:RK (a4A) :=
 okR [] 19 a41 [.tmp 4] Go.Proofs.Tryz.func56 (by kernel_rfl)
def b9A (n:Nat):Row I:=⟨57,[.d (.dat 35),.var 27 (.k (.d (.dat 27))) false,.var 24 (.k (.d (.dat 24))) false],[.k (.d (.bool))],b7U n⟩
theorem c02 (n:Nat):RK (b9A n) :=
 okR [eR (b2m n)] 9 Z5 [.tmp 4] Go.Proofs.Tryz.func57 (by kernel_rfl)
def c3J (_:Nat):Hints I:=mkH [(20,[[],[0],[0,1],[0,1,2],[],[0,1,2,3,4]])] [] [] [(105,⟨81920,[],[],[(.normal,[(14,.k (.d (.bool)))])]⟩)] [(6890,⟨2251795518721472,[],[],[(8,.k (.row 35 false)),(32,.k (.d (.int .i64)))],[((.exit 1),[(8,.k (.row 35 false))]),(.ret,[(6,.k (.row 35 false)),(7,.k (.d (.bool)))])],bnd tb (.slot 31) 1⟩)] [] [] []
def c2k (n:Nat):Row I:=⟨26,[.d (.dat 27),.d (.dat 58),.d (.dat 35)],[.k (.d (.sl 35)),.k (.d (.bool))],c0Y n⟩
theorem c3b (n:Nat):RK (c2k n) :=
 okR [eR (b97 n),eR a4J,eR (c02 n)] 64 (c3J n) [.tmp 6,.tmp 7] Go.Proofs.Tryz.func26 (by kernel_rfl)
def a2t (n:Nat):Row I:=⟨60,[.d (.dat 35)],[.k (.d (.dat 35))],b9t n⟩
def b98 (_:Nat):Hints I:=mkH [] [] [] [] [(58,⟨261928,[],[],[(3,.k (.row 35 false)),(8,.k (.d (.int .i64)))],[((.exit 0),[(3,.k (.row 35 false))])],bnd tb (.slot 7) 1⟩)] [] [] []
def a1v (n:Nat):Row I:=⟨64,[.d (.sl 35)],[.k (.row 35 false)],b4F n⟩
def b42 (_:Nat):Hints I:=mkH [(5,[[],[],[1],[1,2],[],[4],[],[6],[1,2,3,6,7],[1,2,3,4,5,6,7,8],[1,2,3,4,5,6,7,8,9],[0,1,2,3,4,5,6,7,8,9,10],[0,1,2,3,4,5,6,7,8,9,10,11]])] [] [] [] [(58,⟨33554216,[],[],[(3,.k (.row 124 false)),(8,.k (.d (.int .i64)))],[((.exit 0),[(3,.k (.row 124 false))])],bnd tb (.slot 7) 1⟩)] [] [] []
def a1h (n:Nat):Row I:=⟨127,[.bor 124],[.k (.row 124 false)],b7D n⟩
theorem c1g (n:Nat)(_:j5 Go.Proofs.Tryz.prog (a2t n))(h_value_cloneAll:j5 Go.Proofs.Tryz.prog (a1v n))(h_value_cloneEntries:j5 Go.Proofs.Tryz.prog (a1h n)):RK (a2t (n+1)) :=
 okR [eR h_value_cloneAll,eR d1E,eR b5z,eR h_value_cloneEntries] 20 Z5 [.cell 2 35] Go.Proofs.Tryz.func60 (by kernel_rfl)
theorem b6Y (n:Nat)(h_value_clone:j5 Go.Proofs.Tryz.prog (a2t n))(_:j5 Go.Proofs.Tryz.prog (a1v n))(_:j5 Go.Proofs.Tryz.prog (a1h n)):RK (a1v (n+1)) :=
 okR [eR h_value_clone] 19 (b98 n) [.tmp 2] Go.Proofs.Tryz.func64 (by kernel_rfl)
theorem b3e (n:Nat)(h_value_clone:j5 Go.Proofs.Tryz.prog (a2t n))(h_value_cloneAll:j5 Go.Proofs.Tryz.prog (a1v n))(_:j5 Go.Proofs.Tryz.prog (a1h n)):RK (a1h (n+1)) :=
 okR [eR h_value_cloneAll,eR h_value_clone] 26 (b42 n) [.tmp 2] Go.Proofs.Tryz.func127 (by kernel_rfl)
theorem a5u:∀ n:Nat,j5 Go.Proofs.Tryz.prog (a2t n)/\j5 Go.Proofs.Tryz.prog (a1v n)/\j5 Go.Proofs.Tryz.prog (a1h n)
 | 0=>⟨Y0 (by kernel_rfl),Y0 (by kernel_rfl),Y0 (by kernel_rfl)⟩
 | n+1=>by
   obtain ⟨h0,h1,h2⟩:=a5u n
   exact ⟨c1g n h0 h1 h2,b6Y n h0 h1 h2,b3e n h0 h1 h2⟩
theorem c2u (n:Nat):j5 Go.Proofs.Tryz.prog (a2t n):=(a5u n).1
theorem b84 (n:Nat):j5 Go.Proofs.Tryz.prog (a1v n):=(a5u n).2.1
def b5I (n:Nat):Row I:=⟨27,[.d (.dat 35),.d (.sl 9)],[.k (.d (.dat 35))],a6G n⟩
theorem a78 (n:Nat):RK (b5I n) :=
 okR [eR (c2u n),eR b5z,eO c6m,eR a1H,eR a2a] 20 Z5 [.cell 4 35] Go.Proofs.Tryz.func27 (by kernel_rfl)
def c4H (_:Nat):Hints I:=mkH [] [] [] [] [(58,⟨4611686018360328128,[],[],[(26,.k (.d (.int .i64)))],[((.exit 0),[]),(.ret,[(6,.k (.d (.int .i64))),(7,.k (.row 35 false)),(8,.k (.d (.bool)))])],bnd tb (.slot 25) 1⟩),
 (956906,⟨576320014815109120,[],[],[(13,.k (.row 35 false)),(47,.k (.d (.int .i64)))],[((.exit 2),[(13,.k (.row 35 false))])],bnd tb (.slot 46) 1⟩)] [] [] []
def c10 (n:Nat):Row I:=⟨10,[.d (.dat 27),.d (.sl 58),.d (.dat 35)],[.k (.d (.int .i64)),.k (.row 35 false),.k (.d (.bool))],c0I n⟩
theorem c3l (n:Nat):RK (c10 n) :=
 okR [eR (a6b n),eR (a1g n),eR (c3b n),eR (a78 n)] 62 (c4H n) [.tmp 6,.tmp 7,.tmp 8] Go.Proofs.Tryz.func10 (by kernel_rfl)
def c04 (n:Nat):Row I:=⟨29,[.d (.sl 35)],[.k (.d (.dat 35))],b2K n⟩
theorem c1A (n:Nat):RK (c04 n) :=
 okR [eR (b84 n)] 6 Z5 [.cell 2 35] Go.Proofs.Tryz.func29 (by kernel_rfl)
def c5G (_:Nat):Hints I:=mkH [] [] [] [(61,⟨36893488147417008032,[],[(4,.lvs [.d (.int .i64),.d (.int .i64),.d (.str),.row 35 false,.row 106 false,.row 124 false,.row 9 false]),(6,.lvs [.d (.int .i64),.d (.int .i64),.d (.str),.d (.sl 35),.d (.sl 106),.d (.sl 124),.d (.sl 9)])],[(.normal,[]),(.ret,[(5,.k (.d (.int .i64)))])]⟩)] [] [] [] []
def c3i (n:Nat):Row I:=⟨13,[.d (.dat 58),.d (.sl 35)],[.k (.d (.dat 35)),.k (.d (.int .i64))],c2H n⟩
theorem c34 (n:Nat):RK (c3i n) :=
 okR [eR (c1A n),eR (a78 n),eR b5z,eR (a6b n)] 75 (c5G n) [.cell 4 35,.tmp 5] Go.Proofs.Tryz.func13 (by kernel_rfl)
def b4L:Row I:=⟨116,[.d (.int .u8)],[.k (.d (.bool))],a2B⟩
theorem b46:RK (b4L) :=
 okR [] 9 Z5 [.tmp 2] Go.Proofs.Tryz.func116 (by kernel_rfl)
def b37:Row I:=⟨114,[.d (.int .u8)],[.k (.d (.bool))],a1Y⟩
theorem a7k:RK (b37) :=
 okR [] 9 Z5 [.tmp 2] Go.Proofs.Tryz.func114 (by kernel_rfl)
def b4C:Row I:=⟨115,[.d (.int .u8)],[.k (.d (.bool))],a2G⟩
theorem a7j:RK (b4C) :=
 okR [] 9 Z5 [.tmp 2] Go.Proofs.Tryz.func115 (by kernel_rfl)
def b1l:Hints I:=mkH [] [] [] [] [(58,⟨562949953159180,[],[],[(3,.k (.d (.int .i64)))],[((.exit 0),[]),(.ret,[(2,.k (.d (.bool)))])],bnd tb (.len (.slot 0)) 1⟩)] [] [] []
def a9E:Row I:=⟨51,[.d (.str)],[.k (.d (.bool))],a1m⟩
theorem a5a:RK (a9E) :=
 okR [eR b46,eR a7k,eR a7j] 49 b1l [.tmp 2] Go.Proofs.Tryz.func51 (by kernel_rfl)
def b5S:Hints I:=mkH [] [] [] [] [(58,⟨4398046248972,[],[],[(3,.k (.d (.int .i64)))],[((.exit 0),[]),(.ret,[(2,.k (.d (.bool)))])],bnd tb (.len (.slot 0)) 1⟩)] [] [] []
def b3g:Row I:=⟨50,[.d (.str)],[.k (.d (.bool))],a1u⟩
theorem a4d:RK (b3g) :=
 okR [eR a7k,eR a7j] 42 b5S [.tmp 2] Go.Proofs.Tryz.func50 (by kernel_rfl)
def b0R:Row I:=⟨52,[.d (.dat 106)],[.k (.d (.bool))],a0X⟩
theorem a3y:RK (b0R) :=
 okR [eR a4d] 22 Z5 [.tmp 2] Go.Proofs.Tryz.func52 (by kernel_rfl)
def b4K:Row I:=⟨117,[.d (.int .i64),.d (.int .i64)],[.k (.d (.int .i64))],a1Z⟩
theorem a4v:RK (b4K) :=
 okR [] 11 Z5 [.tmp 4] Go.Proofs.Tryz.func117 (by kernel_rfl)
def b40:Row I:=⟨118,[.d (.str),.d (.str)],[.k (.d (.int .i64))],a0P⟩
theorem a72:RK (b40) :=
 okR [] 11 Z5 [.tmp 4] Go.Proofs.Tryz.func118 (by kernel_rfl)
def a8U:Row I:=⟨53,[.d (.dat 106),.d (.dat 106)],[.k (.d (.int .i64))],V2⟩
theorem a1p:RK (a8U) :=
 okR [eR a4v,eR a72] 20 Z5 [.tmp 4] Go.Proofs.Tryz.func53 (by kernel_rfl)
def b3S:Row I:=⟨268,[.d (.int .i64),.d (.int .i64)],[.k (.d (.int .i64))],a0c⟩
theorem a7c:RK (b3S) :=
 okR [eR a4v] 8 Z5 [.tmp 4] Go.Proofs.Tryz.func268 (by kernel_rfl)
def b3K (_:Nat):Hints I:=mkH [(12,[[],[0],[],[0,1,2],[0,1,2,3],[],[5],[],[5,6,7],[5,6,7,8],[0,1,2,3,4,5,6,7,8,9],[0,1,2,3,4,5,6,7,8,9,10]]),(23,[[],[0],[],[0,1,2],[0,1,2,3],[],[5],[],[5,6,7],[5,6,7,8],[0,1,2,3,4,5,6,7,8,9],[0,1,2,3,4,5,6,7,8,9,10]]),(31,[[],[0],[],[0,1,2],[0,1,2,3],[],[5],[],[5,6,7],[5,6,7,8],[0,1,2,3,4,5,6,7,8,9],[0,1,2,3,4,5,6,7,8,9,10]])] [] [] [] [(506,⟨151115655394234608910448,[],[],[(5,.k (.d (.int .i64)))],[((.exit 0),[]),(.ret,[(4,.k (.d (.int .i64)))])],bnd tb (.len (.ld 31 (.fld 35 4 (.slot 2)))) 1⟩),
 (8186,⟨1329227361959615758789106311928742672,[],[],[(8,.k (.d (.int .i64)))],[((.exit 2),[]),(.ret,[(4,.k (.d (.int .i64)))])],bnd tb (.len (.ld 32 (.fld 35 5 (.slot 2)))) 1⟩),
 (32762,⟨45671904388519233253803489366408968731082361872,[],[],[(10,.k (.d (.int .i64)))],[((.exit 4),[]),(.ret,[(4,.k (.d (.int .i64)))])],bnd tb (.len (.ld 33 (.fld 35 6 (.slot 2)))) 1⟩)] [] [] []
def a0r (n:Nat):Row I:=⟨222,[.d (.dat 35),.d (.dat 35)],[.k (.d (.int .i64))],X9 n⟩
def b5O (_:Nat):Hints I:=mkH [(6,[[],[],[0,1],[0,1,2],[],[],[4,5],[4,5,6],[0,1,2,3,4,5,6,7],[0,1,2,3,4,5,6,7,8]])] [] [] [] [(58,⟨34359607408,[],[],[(5,.k (.d (.int .i64)))],[((.exit 0),[]),(.ret,[(4,.k (.d (.int .i64)))])],bnd tb (.len (.slot 0)) 1⟩)] [] [] []
def a1j (n:Nat):Row I:=⟨223,[.d (.sl 35),.d (.sl 35)],[.k (.d (.int .i64))],a2q n⟩
def K7 (n:Nat):Row I:=⟨143,[.d (.dat 124),.d (.dat 124)],[.k (.d (.int .i64))],Z7 n⟩
theorem b1N (n:Nat)(_:j5 Go.Proofs.Tryz.prog (a0r n))(h_semtyperef1_values:j5 Go.Proofs.Tryz.prog (a1j n))(h_semtyperef1_CompareEntries:j5 Go.Proofs.Tryz.prog (K7 n)):RK (a0r (n+1)) :=
 okR [eR a7c,eR a4v,eR a72,eR a1p,eR h_semtyperef1_values,eR h_semtyperef1_CompareEntries] 155 (b3K n) [.tmp 4] Go.Proofs.Tryz.func222 (by kernel_rfl)
theorem b3a (n:Nat)(h_semtyperef1_Compare:j5 Go.Proofs.Tryz.prog (a0r n))(_:j5 Go.Proofs.Tryz.prog (a1j n))(_:j5 Go.Proofs.Tryz.prog (K7 n)):RK (a1j (n+1)) :=
 okR [eR a7c,eR h_semtyperef1_Compare] 35 (b5O n) [.tmp 4] Go.Proofs.Tryz.func223 (by kernel_rfl)
theorem a7i (n:Nat)(h_semtyperef1_Compare:j5 Go.Proofs.Tryz.prog (a0r n))(h_semtyperef1_values:j5 Go.Proofs.Tryz.prog (a1j n))(_:j5 Go.Proofs.Tryz.prog (K7 n)):RK (K7 (n+1)) :=
 okR [eR h_semtyperef1_values,eR h_semtyperef1_Compare] 26 Z5 [.tmp 4] Go.Proofs.Tryz.func143 (by kernel_rfl)
theorem a2A:∀ n:Nat,j5 Go.Proofs.Tryz.prog (a0r n)/\j5 Go.Proofs.Tryz.prog (a1j n)/\j5 Go.Proofs.Tryz.prog (K7 n)
 | 0=>⟨Y0 (by kernel_rfl),Y0 (by kernel_rfl),Y0 (by kernel_rfl)⟩
 | n+1=>by
   obtain ⟨h0,h1,h2⟩:=a2A n
   exact ⟨b1N n h0 h1 h2,b3a n h0 h1 h2,a7i n h0 h1 h2⟩
theorem b3h (n:Nat):j5 Go.Proofs.Tryz.prog (a0r n):=(a2A n).1
theorem a3T (n:Nat):j5 Go.Proofs.Tryz.prog (K7 n):=(a2A n).2.2
def b4H (n:Nat):Row I:=⟨142,[.d (.dat 35),.d (.dat 35)],[.k (.d (.bool))],a2C n⟩
theorem a7m (n:Nat):RK (b4H n) :=
 okR [eR (b3h n)] 9 Z5 [.tmp 4] Go.Proofs.Tryz.func142 (by kernel_rfl)
def b7x (_:Nat):Hints I:=mkH [(4,[[],[0],[],[0,1,2],[0,1,2,3],[0,1,2,3,4],[0,1,2,3,4,5],[0,1,2,3,4,5,6],[0,1,2,3,4,5,6,7],[0,1,2,3,4,5,6,7,8],[0,1,2,3,4,5,6,7,8,9],[0,1,2,3,4,5,6,7,8,9,10],[0,1,2,3,4,5,6,7,8,9,10,11],[0,1,2,3,4,5,6,7,8,9,10],[0,1,2,3,4,5,6,7,8,9,10,13],[0,1,2,3,4,5,6,7,8,9,10,11,12,13,14],[0,1,2,3,4,5,6,7,8,9,10,11,12,13,14,15],[0,1,2,3,4,5,6,7,8,9,10],[0,1,2,3,4,5,6,7,8,9,10,17],[0,1,2,3,4,5,6,7,8,9,10],[0,1,2,3,4,5,6,7,8,9,10,17,18,19],[0,1,2,3,4,5,6,7,8,9,10,17,18,19,20],[0,1,2,3,4,5,6,7,8,9,10,11,12,13,14,15,16,17,18,19,20,21],[0,1,2,3,4,5,6,7,8,9,10,11,12,13,14,15,16,17,18,19,20,21,22],[0,1,2,3,4,5,6,7,8,9,10,11,12,13,14,15,16,17,18,19,20,21,22,23]]),(29,[[],[0],[],[0,1,2],[0,1,2,3],[0,1,2,3,4],[0,1,2,3,4,5],[0,1,2,3,4,5,6],[0,1,2,3,4,5,6,7],[0,1,2,3,4,5,6,7,8],[0,1,2,3,4,5,6,7,8,9],[0,1,2,3,4,5,6,7,8,9,10],[0,1,2,3,4,5,6,7,8,9,10,11],[0,1,2,3,4,5,6,7,8,9,10],[0,1,2,3,4,5,6,7,8,9,10,13],[0,1,2,3,4,5,6,7,8,9,10,11,12,13,14],[0,1,2,3,4,5,6,7,8,9,10,11,12,13,14,15],[0,1,2,3,4,5,6,7,8,9,10],[0,1,2,3,4,5,6,7,8,9,10,17],[0,1,2,3,4,5,6,7,8,9,10],[0,1,2,3,4,5,6,7,8,9,10,17,18,19],[0,1,2,3,4,5,6,7,8,9,10,17,18,19,20],[0,1,2,3,4,5,6,7,8,9,10,11,12,13,14,15,16,17,18,19,20,21],[0,1,2,3,4,5,6,7,8,9,10,11,12,13,14,15,16,17,18,19,20,21,22],[0,1,2,3,4,5,6,7,8,9,10,11,12,13,14,15,16,17,18,19,20,21,22,23],[0,1,2,3,4,5,6,7,8,9,10,11,12,13,14,15,16,17,18,19,20,21,22,23,24]]),(39,[[],[0],[0,1],[],[3],[0,1,2,3,4],[0,1,2,3,4,5],[0,1,2,3,4,5,6],[0,1,2,3,4,5,6,7],[0,1,2,3,4,5,6,7,8],[0,1,2,3,4,5,6,7,8,9],[0,1,2,3,4,5,6,7,8,9,10],[0,1,2,3,4,5,6,7,8,9],[0,1,2,3,4,5,6,7,8,9,10,11,12],[0,1,2,3,4,5,6,7,8,9,10,11,12,13],[0,1,2,3,4,5,6,7,8,9,10,11,12,13,14],[0,1,2,3,4,5,6,7,8,9,10,11,12,13,14,15],[0,1,2,3,4,5,6,7,8,9,10,11,12,13,14,15,16],[0,1,2,3,4,5,6,7,8,9,10,11,12,13,14,15,16,17],[0,1,2,3,4,5,6,7,8,9,10,11,12,13,14,15,16,17,18],[0,1,2,3,4,5,6,7,8,9,10,11,12,13,14,15,16,17,18,19],[0,1,2,3,4,5,6,7,8,9,10,11,12,13,14,15,16,17,18,19,20],[0,1,2,3,4,5,6,7,8,9,10,11,12,13,14,15,16,17,18,19,20,21],[0,1,2,3,4,5,6,7,8,9,10,11,12,13,14,15,16,17,18,19,20],[0,1,2,3,4,5,6,7,8,9,10,11,12,13,14,15,16,17,18,19,20,23],[0,1,2,3,4,5,6,7,8,9,10,11,12,13,14,15,16,17,18,19,20,21,22,23,24],[0,1,2,3,4,5,6,7,8,9,10,11,12,13,14,15,16,17,18,19,20,21,22,23,24,25],[0,1,2,3,4,5,6,7,8,9,10,11,12,13,14,15,16,17,18,19,20],[0,1,2,3,4,5,6,7,8,9,10,11,12,13,14,15,16,17,18,19,20,21,22,23,24,25,26,27],[0,1,2,3,4,5,6,7,8,9,10,11,12,13,14,15,16,17,18,19,20,21,22,23,24,25,26,27,28],[0,1,2,3,4,5,6,7,8,9,10,11,12,13,14,15,16,17,18,19,20,21,22,23,24,25,26,27,28,29],[0,1,2,3,4,5,6,7,8,9,10,11,12,13,14,15,16,17,18,19,20,21,22,23,24,25,26,27,28,29,30]])] [] [] [(4073,⟨425352958651173079329218259289710264320,[],[],[(.normal,[(126,.k (.d (.bool)))])]⟩)] [(26,⟨4398046510092,[],[],[(3,.k (.d (.int .i64)))],[((.exit 0),[]),(.ret,[(2,.k (.d (.bool)))])],bnd tb (.len (.ld 33 (.fld 35 6 (.slot 1)))) 1⟩),
 (133562354,⟨411376139282411024886683268815639281647236804420309368268914820,[],[],[(7,.k (.d (.int .i64)))],[((.exit 3),[]),(.ret,[(2,.k (.d (.bool)))])],bnd tb (.len (.ld 31 (.fld 35 4 (.slot 1)))) 1⟩),
 (1068498922,⟨948568795032040353016559207911582007103813675119580226322391447047862150789858052,[],[],[(8,.k (.d (.int .i64)))],[((.exit 5),[]),(.ret,[(2,.k (.d (.bool)))])],bnd tb (.len (.ld 32 (.fld 35 5 (.slot 1)))) 1⟩)] [] [] []
def b5A (n:Nat):Row I:=⟨86,[.d (.dat 35)],[.k (.d (.bool))],a4x n⟩
theorem b6D (n:Nat):RK (b5A n) :=
 okR [eR a5a,eR a4d,eR a3y,eR a1p,eR (a7m n),eR (a3T n)] 269 (b7x n) [.tmp 2] Go.Proofs.Tryz.func86 (by kernel_rfl)
def b6l (_:Nat):Hints I:=mkH [] [] [] [] [(58,⟨16776204,[],[],[(3,.k (.d (.int .i64)))],[((.exit 0),[]),(.ret,[(2,.k (.d (.bool)))])],bnd tb (.len (.ld 30 (.fld 35 3 (.slot 1)))) 1⟩),
 (122,⟨576460752286646388,[],[],[(4,.k (.d (.int .i64)))],[((.exit 2),[]),(.ret,[(2,.k (.d (.bool)))])],bnd tb (.len (.ld 32 (.fld 35 5 (.slot 1)))) 1⟩),
 (31306,⟨1125831187365956,[],[],[(6,.k (.d (.int .i64)))],[((.exit 4),[]),(.ret,[(2,.k (.d (.bool)))])],bnd tb (.len (.ld 30 (.fld 124 0 (.slot 5)))) 1⟩)] [] [] []
def a4i (n:Nat):Row I:=⟨36,[.d (.dat 35)],[.k (.d (.bool))],W5 n⟩
theorem b4x (n:Nat)(h_semtyperef1_Valid:j5 Go.Proofs.Tryz.prog (a4i n)):RK (a4i (n+1)) :=
 okR [eR (b6D n),eR h_semtyperef1_Valid] 59 (b6l n) [.tmp 2] Go.Proofs.Tryz.func36 (by kernel_rfl)
theorem a4F:∀ n:Nat,j5 Go.Proofs.Tryz.prog (a4i n)
 | 0=>Y0 (by kernel_rfl)
 | n+1=>b4x n (a4F n)
def b4h:Row I:=⟨18,[.d (.dat 27),.d (.int .i64)],[.k (.d (.bool))],W6⟩
theorem a2V:RK (b4h) :=
 okR [] 14 Z5 [.tmp 4] Go.Proofs.Tryz.func18 (by kernel_rfl)
def b7h:Hints I:=mkH [(4,[[],[],[1],[],[1,2,3],[1,2,3,4],[0,1,2,3,4,5],[0,1,2,3,4,5,6]]),(47,[[],[],[1],[0,1,2],[0,1,2,3],[0,1,2,3,4],[0,1,2,3,4,5],[0,1,2,3,4,5,6],[0,1,2,3,4,5,6,7],[0,1,2,3,4,5,6,7,8],[0,1,2,3,4,5,6,7,8,9],[0,1,2,3,4,5,6,7,8,9,10],[0,1,2,3,4,5,6,7,8,9,10,11],[0,1,2,3,4,5,6,7,8,9,10,11,12],[0,1,2,3,4,5,6,7,8,9,10,11,12,13],[0,1,2,3,4,5,6,7,8,9,10,11,12,13,14],[0,1,2,3,4,5,6,7,8,9,10,11,12,13,14,15],[0,1,2,3,4,5,6,7,8,9,10,11,12,13,14],[0,1,2,3,4,5,6,7,8,9,10,11,12,13,14,17],[0,1,2,3,4,5,6,7,8,9,10,11,12,13,14,15,16,17,18],[0,1,2,3,4,5,6,7,8,9,10,11,12,13,14,15,16,17,18,19],[0,1,2,3,4,5,6,7,8,9,10,11,12,13,14,15,16,17,18,19,20],[0,1,2,3,4,5,6,7,8,9,10,11,12,13,14],[0,1,2,3,4,5,6,7,8,9,10,11,12,13,14,22],[0,1,2,3,4,5,6,7,8,9,10,11,12,13,14,15,16,17,18,19,20,21,22,23],[0,1,2,3,4,5,6,7,8,9,10,11,12,13,14,15,16,17,18,19,20,21,22,23,24],[0,1,2,3,4,5,6,7,8,9,10,11,12,13,14,15,16,17,18,19,20,21,22,23,24,25],[0,1,2,3,4,5,6,7,8,9,10,11,12,13,14,15,16,17,18,19,20,21,22,23,24,25,26]])] [] [] [(2092029,⟨2706308199418088717232151174730781556736,[],[],[(.normal,[(122,.k (.d (.bool)))])]⟩),
 (535560189,⟨3568119231764899702645714923623737840956866560,[],[],[(.normal,[(149,.k (.d (.bool)))])]⟩)] [(26,⟨67106864,[],[],[(5,.k (.d (.int .i64)))],[((.exit 0),[]),(.ret,[(4,.k (.d (.bool)))])],bnd tb (.len (.ld 22 (.fld 48 4 (.slot 3)))) 1⟩),
 (68551704562,⟨1606938044257528773904631189422958917689486710763136902759952,[],[],[(9,.k (.d (.int .i64)))],[((.exit 3),[]),(.ret,[(4,.k (.d (.bool)))])],bnd tb (.len (.ld 45 (.fld 48 5 (.slot 3)))) 1⟩)] [] [] []
def b5t:Row I:=⟨23,[.d (.dat 27),.d (.dat 48)],[.k (.d (.bool))],a4C⟩
theorem b6I:RK (b5t) :=
 okR [eR a2V,eR a4d,eR a5a,eR a3y,eR a1p] 216 b7h [.tmp 4] Go.Proofs.Tryz.func23 (by kernel_rfl)
def b1U:Row I:=⟨24,[.d (.dat 48)],[.k (.d (.bool))],a3r⟩
theorem b2Y:RK (b1U) :=
 okR [] 16 Z5 [.tmp 2] Go.Proofs.Tryz.func24 (by kernel_rfl)
def b03 (n:Nat):Hints I:=mkH [(6,[[],[],[1],[],[1,2,3],[1,2,3,4],[0,1,2,3,4,5],[0,1,2,3,4,5,6]])] [] [] [] [(58,⟨1073709068,[],[],[(3,.k (.d (.int .i64)))],[((.exit 0),[]),(.ret,[(2,.k (.d (.int .i64)))])],bnd tb (.len (.ld 25 (.fld 27 0 (.slot 1)))) 1⟩),
 (250,⟨4951760157141521082416628192,[],[],[(4,.k (.row 4 false)),(5,.k (.d (.int .i64)))],[((.exit 2),[(4,.k (.row 4 false))])],bnd tb (.len (.ld 25 (.fld 27 0 (.slot 1)))) 1⟩),
 (506,⟨10136253041668693690874029146628,[],[],[(4,.k (.row 4 false)),(9,.k (.d (.int .i64)))],[((.exit 8),[(4,.k (.row 4 false))]),(.ret,[(2,.k (.d (.int .i64))),(4,.k (.row 4 false))])],bnd tb (.len (.slot 4)) 1⟩),
 (16018,⟨4951760157141518900573241792,[],[],[(4,.k (.row 4 false)),(6,.k (.d (.int .i64)))],[((.exit 4),[(4,.k (.row 4 false))])],bnd tb (.len (.ld 25 (.fld 27 0 (.slot 1)))) 1⟩),
 (4100682,⟨4835703278177041722114432,[],[],[(4,.k (.row 4 false)),(7,.k (.d (.bool))),(8,.k (.d (.int .i64)))],[((.exit 6),[(4,.k (.row 4 false)),(7,.k (.d (.bool)))])],fun _=>some n⟩)] [] [] []
def a9Q (n:Nat):Row I:=⟨9,[.d (.dat 27)],[.k (.d (.int .i64))],a0B n⟩
theorem a5c (n:Nat):RK (a9Q n) :=
 okR [eR a2V,eR b6I,eR b2Y] 103 (b03 n) [.tmp 2] Go.Proofs.Tryz.func9 (by kernel_rfl)
def b8Y:Hints I:=mkH [(4,[[],[0],[],[0,1,2],[0,1,2,3],[],[0,1,2,3,4,5]])] [] [] [] [(26,⟨2097136,[],[],[(5,.k (.d (.int .i64)))],[((.exit 0),[]),(.ret,[(4,.k (.d (.int .i64)))])],bnd tb (.len (.ld 31 (.fld 35 4 (.slot 2)))) 1⟩)] [] [] []
def b6n:Row I:=⟨216,[.d (.dat 35),.d (.dat 106)],[.k (.d (.int .i64))],b2q⟩
theorem b6S:RK (b6n) :=
 okR [] 21 b8Y [.tmp 4] Go.Proofs.Tryz.func216 (by kernel_rfl)
def b6s:Hints I:=mkH [(4,[[],[0],[],[0,1,2],[0,1,2,3],[0,1,2,3,4],[],[0,1,2,3,4,5,6]])] [] [] [] [(26,⟨4194288,[],[],[(5,.k (.d (.int .i64)))],[((.exit 0),[]),(.ret,[(4,.k (.d (.int .i64)))])],bnd tb (.len (.ld 45 (.fld 48 5 (.slot 2)))) 1⟩)] [] [] []
def b4v:Row I:=⟨217,[.d (.dat 48),.d (.dat 106)],[.k (.d (.int .i64))],a9U⟩
theorem b5y:RK (b4v) :=
 okR [] 22 b6s [.tmp 4] Go.Proofs.Tryz.func217 (by kernel_rfl)
def b2u (_:Nat):Hints I:=mkH [(8,[[],[0],[],[],[3],[],[3,4,5],[0,1,2,3,4,5,6],[0,1,2,3,4,5,6,7],[0,1,2,3,4,5,6,7,8],[0,1,2,3,4,5,6,7,8,9],[0,1,2,3,4,5,6,7,8,9,10],[0,1,2,3,4,5,6,7,8,9,10,11],[0,1,2,3,4,5,6,7,8,9,10,11,12],[0,1,2,3,4,5,6,7,8,9,10,11],[0,1,2,3,4,5,6,7,8,9,10,11],[0,1,2,3,4,5,6,7,8,9,10,11,15],[0,1,2,3,4,5,6,7,8,9,10,11],[0,1,2,3,4,5,6,7,8,9,10,11,15,16,17],[0,1,2,3,4,5,6,7,8,9,10,11,15,16,17,18],[0,1,2,3,4,5,6,7,8,9,10,11,12,13,14,15,16,17,18,19],[0,1,2,3,4,5,6,7,8,9,10,11,12,13,14,15,16,17,18,19,20],[0,1,2,3,4,5,6,7,8,9,10,11,12,13,14,15,16,17,18,19,20,21],[0,1,2,3,4,5,6,7,8,9,10,11,12,13,14,15,16,17,18,19,20,21,22]])] [] [] [] [(122,⟨18014398509220672,[],[],[(8,.k (.d (.int .i64)))],[((.exit 0),[]),(.ret,[(6,.k (.d (.bool)))])],bnd tb (.len (.ld 32 (.fld 35 5 (.slot 3)))) 1⟩)] [] [] []
def a0m (n:Nat):Row I:=⟨137,[.d (.dat 35),.d (.dat 27),.d (.dat 48)],[.k (.d (.bool))],b5u n⟩
def b3Y (_:Nat):Hints I:=mkH [(4,[[],[0],[],[0,1,2],[0,1,2,3],[0,1,2,3,4],[0,1,2,3,4,5],[0,1,2,3,4,5,6],[0,1,2,3,4,5,6,7],[0,1,2,3,4,5,6,7],[0,1,2,3,4,5,6,7,9],[0,1,2,3,4,5,6,7],[0,1,2,3,4,5,6,7,9,10,11],[0,1,2,3,4,5,6,7,9,10,11,12],[0,1,2,3,4,5,6,7,9,10,11,12,13],[0,1,2,3,4,5,6,7,8,9,10,11,12,13,14],[0,1,2,3,4,5,6,7,8,9,10,11,12,13,14,15],[0,1,2,3,4,5,6,7,8,9,10,11,12,13,14,15,16]]),(9,[[],[],[1],[],[1,2,3],[1,2,3,4],[0,1,2,3,4,5],[0,1,2,3,4,5,6]]),(13,[[],[0],[],[0,1,2],[0,1,2,3],[],[],[0,1,2,3,4,5,6],[0,1,2,3,4,5,6,7]])] [] [] [(3730,⟨575334852396581888,[],[],[(.normal,[(10,.k (.d (.int .i64)))])]⟩),
 (14925,⟨145268109580462720000,[],[],[(.normal,[(10,.k (.d (.int .i64)))])]⟩)] [(26,⟨68719474880,[],[],[(7,.k (.d (.int .i64)))],[((.exit 0),[]),(.ret,[(6,.k (.d (.bool)))])],bnd tb (.len (.ld 45 (.fld 48 5 (.slot 5)))) 1⟩),
 (58,⟨75557863725845603944256,[],[],[(8,.k (.d (.int .i64)))],[((.exit 2),[]),(.ret,[(6,.k (.d (.bool)))])],bnd tb (.len (.ld 31 (.fld 35 4 (.slot 3)))) 1⟩)] [] [] []
def a0s (n:Nat):Row I:=⟨136,[.d (.dat 35),.d (.dat 27),.d (.dat 48)],[.k (.d (.bool))],b6R n⟩
def b5r (_:Nat):Hints I:=mkH [(35,[[],[],[],[2],[],[2,3,4],[2,3,4,5],[0,1,2,3,4,5,6]]),(42,[[],[],[],[2],[],[2,3,4],[2,3,4,5],[0,1,2,3,4,5,6],[0,1,2,3,4,5,6,7]]),(46,[[],[],[],[2],[2,3],[2,3,4],[0,1,2,3,4,5],[0,1,2,3,4,5,6],[0,1,2,3,4,5,6,7]]),(51,[[],[0],[],[0,1,2],[0,1,2,3],[],[5],[0,1,2,3,4,5,6]])] [] [] [] [(506806140914,⟨365364258960126464239350440319934430733230145856,[],[],[(8,.k (.d (.int .i64)))],[((.exit 1),[]),(.ret,[(6,.k (.d (.bool)))])],bnd tb (.len (.ld 22 (.fld 48 4 (.slot 7)))) 1⟩),
 (2027224563698,⟨95779509802480722744478485512061607693151539203932736,[],[],[(9,.k (.d (.int .i64)))],[((.exit 3),[]),(.ret,[(6,.k (.d (.bool)))])],bnd tb (.len (.ld 22 (.fld 48 4 (.slot 7)))) 1⟩),
 (16217796509690,⟨12855112035213460536787957001890350341026617553047063680255040,[],[],[(10,.k (.d (.int .i64)))],[((.exit 5),[]),(.ret,[(6,.k (.d (.bool)))])],bnd tb (.len (.ld 33 (.fld 35 6 (.slot 3)))) 1⟩)] [] [] []
def X5 (n:Nat):Row I:=⟨71,[.d (.dat 35),.d (.dat 27),.d (.int .i64)],[.k (.d (.bool))],a80 n⟩
def b4S (_:Nat):Hints I:=mkH [(6,[[],[],[0,1],[0,1,2],[],[],[],[5,6],[5,6,7],[0,1,2,3,4,5,6,7,8],[0,1,2,3,4,5,6,7,8,9]])] [] [] [] [(58,⟨1073733824,[],[],[(7,.k (.d (.int .i64)))],[((.exit 0),[]),(.ret,[(6,.k (.d (.bool)))])],bnd tb (.len (.slot 0)) 1⟩)] [] [] []
def a0t (n:Nat):Row I:=⟨135,[.d (.sl 35),.d (.dat 27),.d (.sl 3)],[.k (.d (.bool))],b6G n⟩
theorem b0L (n:Nat)(_:j5 Go.Proofs.Tryz.prog (a0m n))(_:j5 Go.Proofs.Tryz.prog (a0s n))(h_semtyperef7_member:j5 Go.Proofs.Tryz.prog (X5 n))(h_semtyperef7_members:j5 Go.Proofs.Tryz.prog (a0t n)):RK (a0m (n+1)) :=
 okR [eR h_semtyperef7_members,eR h_semtyperef7_member] 54 (b2u n) [.tmp 6] Go.Proofs.Tryz.func137 (by kernel_rfl)
theorem b1S (n:Nat)(_:j5 Go.Proofs.Tryz.prog (a0m n))(_:j5 Go.Proofs.Tryz.prog (a0s n))(h_semtyperef7_member:j5 Go.Proofs.Tryz.prog (X5 n))(_:j5 Go.Proofs.Tryz.prog (a0t n)):RK (a0s (n+1)) :=
 okR [eR b6S,eR b5y,eR h_semtyperef7_member] 76 (b3Y n) [.tmp 6] Go.Proofs.Tryz.func136 (by kernel_rfl)
theorem b3j (n:Nat)(h_semtyperef7_function:j5 Go.Proofs.Tryz.prog (a0m n))(h_semtyperef7_mapping:j5 Go.Proofs.Tryz.prog (a0s n))(h_semtyperef7_member:j5 Go.Proofs.Tryz.prog (X5 n))(h_semtyperef7_members:j5 Go.Proofs.Tryz.prog (a0t n)):RK (X5 (n+1)) :=
 okR [eR h_semtyperef7_members,eR h_semtyperef7_mapping,eR h_semtyperef7_function,eR h_semtyperef7_member] 203 (b5r n) [.tmp 6] Go.Proofs.Tryz.func71 (by kernel_rfl)
theorem b1G (n:Nat)(_:j5 Go.Proofs.Tryz.prog (a0m n))(_:j5 Go.Proofs.Tryz.prog (a0s n))(h_semtyperef7_member:j5 Go.Proofs.Tryz.prog (X5 n))(_:j5 Go.Proofs.Tryz.prog (a0t n)):RK (a0t (n+1)) :=
 okR [eR h_semtyperef7_member] 30 (b4S n) [.tmp 6] Go.Proofs.Tryz.func135 (by kernel_rfl)
theorem a4k:∀ n:Nat,j5 Go.Proofs.Tryz.prog (a0m n)/\j5 Go.Proofs.Tryz.prog (a0s n)/\j5 Go.Proofs.Tryz.prog (X5 n)/\j5 Go.Proofs.Tryz.prog (a0t n)
 | 0=>⟨Y0 (by kernel_rfl),Y0 (by kernel_rfl),Y0 (by kernel_rfl),Y0 (by kernel_rfl)⟩
 | n+1=>by
   obtain ⟨h0,h1,h2,h3⟩:=a4k n
   exact ⟨b0L n h0 h1 h2 h3,b1S n h0 h1 h2 h3,b3j n h0 h1 h2 h3,b1G n h0 h1 h2 h3⟩
theorem b3D (n:Nat):j5 Go.Proofs.Tryz.prog (X5 n):=(a4k n).2.2.1
def b1a (n:Nat):Row I:=⟨33,[.d (.dat 35),.d (.dat 27),.d (.int .i64)],[.k (.d (.bool))],a7z n⟩
theorem b1A (n:Nat):RK (b1a n) :=
 okR [eR (a4F n),eR (a5c n),eR a2V,eR (b3D n)] 25 Z5 [.tmp 6] Go.Proofs.Tryz.func33 (by kernel_rfl)
def b3y (n:Nat):Row I:=⟨14,[.d (.dat 35),.d (.dat 27)],[.k (.d (.bool))],a8Z n⟩
theorem b4s (n:Nat):RK (b3y n) :=
 okR [eR (b1A n)] 10 Z5 [.tmp 4] Go.Proofs.Tryz.func14 (by kernel_rfl)
def b5V (_:Nat):Hints I:=mkH [(3,[[],[],[],[2],[2,3],[2,3,4],[0,1,2,3,4,5],[0,1,2,3,4,5,6],[0,1,2,3,4,5,6,7],[0,1,2,3,4,5,6,7],[0,1,2,3,4,5,6,7],[0,1,2,3,4,5,6,7,8],[0,1,2,3,4,5,6,7,8,9,11],[0,1,2,3,4,5,6,7,8,9,10,11,12]])] [] [] [] [] [] [] []
noncomputable def b2Z (n:Nat):Row I:=⟨5,[],[.k (.d (.bool))],a1B n⟩
theorem b4U (n:Nat):RK (b2Z n) :=
 okR [eR (a69 n),eR a1w,eR a4u,eR (c3l n),eR (c34 n),eR (b4s n)] 56 (b5V n) [.tmp 0] Go.Proofs.Tryz.func5 (by kernel_rfl)
def a94:Hints I:=mkH [(1,[[],[0],[0,1],[0,1,2],[0,1,2,3],[0,1,2,3,4],[0,1,2,3,4,5],[0,1,2],[0,1,2,7],[0,1,2,7,8],[0,1,2,7,8,9],[0,1,2,7,8,9,10],[0,1,2,3,4,5,6,7,8,9,10,11],[0,1,2,3,4,5,6,7,8,9,10,11,12]]),(3,[[],[0],[0,1],[0,1,2],[],[4],[4,5],[4,5,6],[0,1,2,3,4,5,6,7],[0,1,2,3,4,5,6,7,8],[],[0,1,2,3,4,5,6,7,8,9,10],[0,1,2,3,4,5,6,7,8,9,10,11]])] [] [] [] [] [] [] []
def a9m:Row I:=⟨16,[.var 62 (.k (.d (.dat 62))) true,.d (.int .i64)],[.k (.d (.int .i64))],y2⟩
theorem w9:RK (a9m) :=
 okR [] 46 a94 [.tmp 4] Go.Proofs.Tryz.func16 (by kernel_rfl)
def a62:Row I:=⟨72,[.var 62 (.k (.d (.dat 62))) true],[.k (.d (.str))],K4⟩
theorem a0H:RK (a62) :=
 okR [eR w9] 8 Z5 [.tmp 2] Go.Proofs.Tryz.func72 (by kernel_rfl)
def a9n:Row I:=⟨73,[.var 62 (.k (.d (.dat 62))) true],[.k (.d (.str))],W9⟩
theorem a1q:RK (a9n) :=
 okR [eR w9] 8 Z5 [.tmp 2] Go.Proofs.Tryz.func73 (by kernel_rfl)
def a8A:Row I:=⟨74,[.var 62 (.k (.d (.dat 62))) true],[.k (.d (.str))],a0f⟩
theorem a4l:RK (a8A) :=
 okR [eR w9] 8 Z5 [.tmp 2] Go.Proofs.Tryz.func74 (by kernel_rfl)
def a8h:Hints I:=mkH [] [] [] [] [(28,⟨16776706,[],[(0,.k (.d (.dat 62)))],[(1,.k (.d (.int .i64))),(9,.k (.row 3 false))],[((.exit 0),[(9,.k (.row 3 false))])],bnd tb (.slot 1) 2⟩)] [] [] []
def a7h:Row I:=⟨75,[.var 62 (.k (.d (.dat 62))) true,.d (.int .i64),.d (.int .i64),.d (.int .i64)],[.k (.row 3 false)],k7⟩
theorem a7U:RK (a7h) :=
 okR [eR w9] 25 a8h [.tmp 8] Go.Proofs.Tryz.func75 (by kernel_rfl)
def a8s:Hints I:=mkH [(7,[[],[0],[],[],[2,3],[2,3,4],[],[],[6,7],[],[6,7,8,9],[6,7,8,9,10],[2,3,4,5,6,7,8,9,10,11],[2,3,4,5,6,7,8,9,10,11,12],[0,1,2,3,4,5,6,7,8,9,10,11,12,13],[0,1,2,3,4,5,6,7,8,9,10,11,12,13,14],[0,1,2,3,4,5,6,7,8,9,10,11,12,13,14,15]])] [] [] [(978,⟨8796076244992,[],[(0,.k (.d (.dat 62))),(5,.lvs [.d (.int .i64),.d (.int .i64),.d (.int .i64),.d (.str),.row 3 false,.row 108 false,.d (.int .i64),.d (.int .i64)])],[(.normal,[])]⟩)] [(122,⟨8796091973760,[6],[(0,.k (.d (.dat 62))),(5,.lvs [.d (.int .i64),.d (.int .i64),.d (.int .i64),.d (.str),.row 3 false,.row 108 false,.d (.int .i64),.d (.int .i64)])],[(7,.k (.d (.int .i64)))],[((.exit 0),[])],bnd tb (.cst 3) 1⟩)] [] [] []
def a7L:Row I:=⟨76,[.var 62 (.k (.d (.dat 62))) true,.d (.int .i64)],[.k (.d (.dat 48))],a1n⟩
theorem a7P:RK (a7L) :=
 okR [eR w9] 44 a8s [.cell 4 48] Go.Proofs.Tryz.func76 (by kernel_rfl)
def b0m:Hints I:=mkH [(8,[[],[],[0,1],[0,1,2],[],[],[],[],[7],[6,7,8],[5,6,7,8,9],[4,5,6,7,8,9,10],[4,5,6,7,8,9,10,11],[0,1,2,3,4,5,6,7,8,9,10,11,12],[0,1,2,3,4,5,6,7,8,9,10,11,12,13]])] [] [] [(29,⟨128,[],[],[(.normal,[(7,.k (.d (.int .i64)))])]⟩),
 (32243709,⟨47223664828696452136960,[],[],[(.normal,[(73,.k (.d (.bool)))])]⟩),
 (2063597565,⟨49517601571415210995964968960,[],[],[(.normal,[(93,.k (.d (.bool)))])]⟩)] [] [] [] []
def a9o:Row I:=⟨34,[.var 62 (.k (.d (.dat 62))) true,.d (.int .i64),.d (.int .i64)],[.k (.d (.dat 48))],a14⟩
theorem a9B:RK (a9o) :=
 okR [eR w9,eR a0H,eR a1q,eR a4l,eR a7U,eR a7P] 128 b0m [.cell 6 48] Go.Proofs.Tryz.func34 (by kernel_rfl)
def b0b:Hints I:=mkH [(6,[[],[0],[],[],[],[2,3,4],[2,3,4,5],[0,1,2,3,4,5,6],[0,1,2,3,4,5,6,7],[0,1,2,3,4,5,6,7,8]])] [] [] [] [(122,⟨16776256,[],[(0,.k (.d (.dat 62))),(5,.lvs [.row 48 false,.d (.int .i64)])],[(6,.k (.d (.int .i64)))],[((.exit 0),[])],bnd tb (.slot 1) 1⟩)] [] [] []
def a9p:Row I:=⟨15,[.var 62 (.k (.d (.dat 62))) true,.d (.int .i64)],[.k (.d (.dat 27))],a01⟩
theorem a9A:RK (a9p) :=
 okR [eR a9B] 25 b0b [.cell 4 27] Go.Proofs.Tryz.func15 (by kernel_rfl)
def a7T:Row I:=⟨87,[.var 62 (.k (.d (.dat 62))) true],[.k (.d (.int .i64))],a1E⟩
theorem a8o:RK (a7T) :=
 okR [eR w9] 8 Z5 [.tmp 2] Go.Proofs.Tryz.func87 (by kernel_rfl)
def b6M:Row I:=⟨77,[.d (.int .i64)],[.k (.d (.dat 35))],a7I⟩
theorem a8Y:RK (b6M) :=
 okR [] 5 Z5 [.cell 2 35] Go.Proofs.Tryz.func77 (by kernel_rfl)
def b4Z:Row I:=⟨79,[.d (.str)],[.k (.d (.dat 35))],a4m⟩
theorem a7Z:RK (b4Z) :=
 okR [] 5 Z5 [.cell 2 35] Go.Proofs.Tryz.func79 (by kernel_rfl)
def b3p:Row I:=⟨78,[.d (.str)],[.k (.d (.dat 35))],a3E⟩
theorem a6S:RK (b3p) :=
 okR [] 5 Z5 [.cell 2 35] Go.Proofs.Tryz.func78 (by kernel_rfl)
def b6A:Row I:=⟨80,[.d (.int .i64)],[.k (.d (.dat 35))],a7l⟩
theorem a85:RK (b6A) :=
 okR [] 5 Z5 [.cell 2 35] Go.Proofs.Tryz.func80 (by kernel_rfl)
def a8S:Row I:=⟨37,[.var 62 (.k (.d (.dat 62))) true],[.k (.d (.dat 35))],K0⟩
theorem a2y:RK (a8S) :=
 okR [eR w9,eR a8o,eR a8Y,eR a0H,eR a7Z,eR a1q,eR a6S,eR a85,eR a1w,eR a4u] 29 Z5 [.cell 2 35] Go.Proofs.Tryz.func37 (by kernel_rfl)
def b87:Hints I:=mkH [(13,[[],[],[1],[1,2],[0,1,2,3],[0,1,2,3,4],[0,1,2,3,4,5],[0,1,2,3,4,5,6],[0,1,2,3,4,5],[0,1,2,3,4,5,6,7,8],[0,1,2,3,4,5,6,7,8,9],[0,1,2,3,4,5],[0,1,2,3,4,5],[0,1,2,3,4,5,11,12],[0,1,2,3,4,5,11,12,13],[0,1,2,3,4,5,6,7,8,9,10,11,12,13,14],[0,1,2,3,4,5,6,7,8,9,10,11,12,13,14,15],[0,1,2,3,4,5,6,7,8,9,10,11,12,13,14,15,16]]),(15,[[],[],[1],[1,2],[0,1,2,3],[0,1,2,3,4],[0,1,2,3,4,5],[0,1,2,3,4,5,6],[0,1,2,3,4,5],[0,1,2,3,4,5,6,7,8],[0,1,2,3,4,5,6,7,8,9],[0,1,2,3,4,5],[0,1,2,3,4,5],[0,1,2,3,4,5,11,12],[0,1,2,3,4,5,11,12,13],[0,1,2,3,4,5,6,7,8,9,10,11,12,13,14],[0,1,2,3,4,5,6,7,8,9,10,11,12,13,14,15]]),(17,[[],[0],[],[0,1,2],[0,1,2,3],[],[5],[],[5,6,7],[0,1,2,3,4,5,6,7,8],[0,1,2,3,4,5,6,7,8,9],[0,1,2,3,4,5,6,7,8,9,10]]),(18,[[],[],[],[1,2],[1,2,3],[1,2,3,4],[0,1,2,3,4,5],[],[7],[],[7,8,9],[0,1,2,3,4,5,6,7,8,9,10],[0,1,2,3,4,5,6,7,8,9,10,11],[0,1,2,3,4,5,6,7,8,9,10,11,12]]),(19,[[],[],[],[1,2],[1,2,3],[1,2,3,4],[0,1,2,3,4,5],[],[7],[],[7,8,9],[0,1,2,3,4,5,6,7,8,9,10],[0,1,2,3,4,5,6,7,8,9,10,11],[0,1,2,3,4,5,6,7,8,9,10,11,12]])] [] [] [] [(58,⟨2147221600,[],[(4,.lvs [.d (.int .i64),.d (.int .i64),.d (.str),.row 35 false,.row 106 false,.row 124 false,.row 9 false])],[(6,.k (.d (.int .i64)))],[((.exit 0),[]),(.ret,[(5,.k (.d (.int .i64)))])],bnd tb (.len (.slot 0)) 1⟩),
 (250,⟨5192296858534827628530492034256672,[7],[(4,.lvs [.d (.int .i64),.d (.int .i64),.d (.str),.row 35 false,.row 106 false,.row 124 false,.row 9 false]),(7,.lvs [.d (.int .i64),.d (.int .i64),.d (.str),.d (.sl 35),.d (.sl 106),.row 124 true,.row 9 true])],[(8,.k (.d (.int .i64)))],[((.exit 2),[]),(.ret,[(5,.k (.d (.int .i64)))])],bnd tb (.len (.slot 0)) 1⟩),
 (32036,⟨288230101273805312,[7],[],[(9,.k (.d (.int .i64)))],[((.exit 4),[(9,.k (.d (.int .i64)))])],bnd tb (.len (.ld 31 (.fld 35 4 (.slot 7)))) 1⟩)] [] [] []
def b6C:Row I:=⟨138,[.d (.sl 106),.d (.sl 35)],[.k (.d (.dat 35)),.k (.d (.int .i64))],a1S⟩
theorem a81:RK (b6C) :=
 okR [eR a3y,eR a1p,eR a6R] 113 b87 [.cell 4 35,.tmp 5] Go.Proofs.Tryz.func138 (by kernel_rfl)
def b4n (_:Nat):Hints I:=mkH [(6,[[],[],[1],[0,1,2],[0,1,2,3],[0,1,2,3,4],[0,1,2,3,4],[0,1,2,3,4,5,6],[0,1,2,3,4,5,6,7],[0,1,2,3,4],[0,1,2,3,4],[0,1,2,3,4,9,10],[0,1,2,3,4,9,10,11],[0,1,2,3,4,5,6,7,8,9,10,11,12],[0,1,2,3,4,5,6,7,8,9,10,11,12,13],[0,1,2,3,4,5,6,7,8,9,10,11,12,13,14]]),(8,[[],[],[1],[0,1,2],[0,1,2,3],[0,1,2,3,4],[0,1,2,3,4],[0,1,2,3,4,5,6],[0,1,2,3,4,5,6,7],[0,1,2,3,4],[0,1,2,3,4],[0,1,2,3,4,9,10],[0,1,2,3,4,9,10,11],[0,1,2,3,4,5,6,7,8,9,10,11,12],[0,1,2,3,4,5,6,7,8,9,10,11,12,13],[0,1,2,3,4,5,6,7,8,9,10,11,12,13,14]]),(10,[[],[],[],[1,2],[1,2,3],[1,2,3,4],[0,1,2,3,4,5],[],[],[7,8],[0,1,2,3,4,5,6,7,8,9],[0,1,2,3,4,5,6,7,8,9,10]])] [] [] [(466,⟨4611686018427379816,[],[],[(.normal,[(3,.k (.d (.sl 124)))])]⟩)] [(58,⟨4611686018427387896,[],[],[(3,.k (.d (.sl 124))),(4,.k (.d (.int .i64)))],[((.exit 0),[(3,.k (.d (.sl 124)))])],bnd tb (.len (.slot 0)) 1⟩),
 (7460,⟨2147475488,[3],[],[(5,.k (.d (.int .i64)))],[((.exit 2),[(5,.k (.d (.int .i64)))])],bnd tb (.len (.slot 3)) 1⟩)] [] [] []
def b1D (n:Nat):Row I:=⟨218,[.bor 124],[.k (.d (.sl 124))],a3t n⟩
theorem b2L (n:Nat):RK (b1D n) :=
 okR [eR (a3T n)] 63 (b4n n) [.tmp 2] Go.Proofs.Tryz.func218 (by kernel_rfl)
def b2A (_:Nat):Hints I:=mkH [] [] [] [] [(58,⟨70368744161376,[],[(4,.lvs [.d (.int .i64),.d (.int .i64),.d (.str),.row 35 false,.row 106 false,.row 124 false,.row 9 false])],[(6,.k (.d (.int .i64)))],[((.exit 0),[]),(.ret,[(5,.k (.d (.int .i64)))])],bnd tb (.len (.slot 1)) 1⟩)] [] [] []
def b07 (n:Nat):Row I:=⟨139,[.d (.int .i64),.bor 124],[.k (.d (.dat 35)),.k (.d (.int .i64))],a1M n⟩
theorem a54 (n:Nat):RK (b07 n) :=
 okR [eR (a7m n),eR (b2L n)] 50 (b2A n) [.cell 4 35,.tmp 5] Go.Proofs.Tryz.func139 (by kernel_rfl)
def b5L:Hints I:=mkH [(6,[[],[],[1],[0,1,2],[0,1,2,3],[0,1,2,3,4],[0,1,2,3,4],[0,1,2,3,4,5,6],[0,1,2,3,4,5,6,7],[0,1,2,3,4],[0,1,2,3,4],[0,1,2,3,4,9,10],[0,1,2,3,4,9,10,11],[0,1,2,3,4,5,6,7,8,9,10,11,12],[0,1,2,3,4,5,6,7,8,9,10,11,12,13]]),(8,[[],[],[1],[0,1,2],[0,1,2,3],[0,1,2,3,4],[0,1,2,3,4],[0,1,2,3,4,5,6],[0,1,2,3,4,5,6,7],[0,1,2,3,4],[0,1,2,3,4],[0,1,2,3,4,9,10],[0,1,2,3,4,9,10,11],[0,1,2,3,4,5,6,7,8,9,10,11,12],[0,1,2,3,4,5,6,7,8,9,10,11,12,13]]),(10,[[],[],[],[1,2],[1,2,3],[1,2,3,4],[0,1,2,3,4,5],[],[],[7,8],[0,1,2,3,4,5,6,7,8,9],[0,1,2,3,4,5,6,7,8,9,10]])] [] [] [(466,⟨1152921504606838888,[],[],[(.normal,[(3,.k (.d (.sl 9)))])]⟩)] [(58,⟨1152921504606846968,[],[],[(3,.k (.d (.sl 9))),(4,.k (.d (.int .i64)))],[((.exit 0),[(3,.k (.d (.sl 9)))])],bnd tb (.len (.slot 0)) 1⟩),
 (7460,⟨1073733664,[3],[],[(5,.k (.d (.int .i64)))],[((.exit 2),[(5,.k (.d (.int .i64)))])],bnd tb (.len (.slot 3)) 1⟩)] [] [] []
def b3w:Row I:=⟨83,[.d (.sl 9)],[.k (.d (.sl 9))],X2⟩
theorem a4e:RK (b3w) :=
 okR [] 61 b5L [.tmp 2] Go.Proofs.Tryz.func83 (by kernel_rfl)
def a9w:Row I:=⟨84,[.d (.dat 35),.d (.sl 9)],[.k (.d (.dat 35))],a3R⟩
theorem a9Z:RK (a9w) :=
 okR [eR a4e] 9 Z5 [.cell 4 35] Go.Proofs.Tryz.func84 (by kernel_rfl)
end Go.Qx
end
section
namespace Go.Qx
open Go Go.RowKit Go.Sx
set_option maxHeartbeats 1600000
set_option maxRecDepth 100000
def b56:Row I:=⟨219,[.d (.dat 35),.d (.dat 35)],[.k (.d (.dat 35))],a4s⟩
theorem b6o:RK (b56) :=
 okR [] 9 Z5 [.cell 4 35] Go.Proofs.Tryz.func219 (by kernel_rfl)
def a88:Hints I:=mkH [] [] [] [(29,⟨1048456,[],[(0,.k (.d (.dat 62)))],[(.normal,[(3,.k (.row 9 false))])]⟩)] [] [] [] []
def a7Q:Row I:=⟨141,[.var 62 (.k (.d (.dat 62))) true],[.k (.d (.sl 9))],a0D⟩
theorem a32:RK (a7Q) :=
 okR [eR w9,eR a4l,eR a4e] 22 a88 [.tmp 2] Go.Proofs.Tryz.func141 (by kernel_rfl)
def a9K:Row I:=⟨220,[.var 62 (.k (.d (.dat 62))) true],[.k (.d (.dat 106))],a2k⟩
theorem a91:RK (a9K) :=
 okR [eR w9,eR a0H,eR a1q] 12 Z5 [.cell 2 106] Go.Proofs.Tryz.func220 (by kernel_rfl)
def V8 (n:Nat):Row I:=⟨85,[.var 62 (.k (.d (.dat 62))) true,.d (.int .i64)],[.k (.d (.dat 35))],a1T n⟩
def a9L (_:Nat):Hints I:=mkH [(16,[[],[],[1],[0,1,2],[],[0,1,2,3,4],[0,1,2,3,4,5]])] [(13,[46])] [] [(29,⟨5316911983139663491615228241104863200,[],[(0,.k (.d (.dat 62))),(4,.lvs [.d (.int .i64),.d (.int .i64),.d (.str),.d (.sl 35),.d (.sl 106),.d (.sl 124),.d (.sl 9)])],[(.normal,[]),(.ret,[])]⟩),
 (7540,⟨2234207627640832,[],[(0,.k (.d (.dat 62)))],[(.normal,[(50,.k (.d (.bool)))])]⟩),
 (7541,⟨141863388262170624,[],[(0,.k (.d (.dat 62))),(7,.k (.d (.dat 35)))],[(.normal,[])]⟩)] [(3754,⟨549487378528,[],[(0,.k (.d (.dat 62)))],[(5,.k (.row 35 false)),(6,.k (.d (.int .i64)))],[((.exit 1),[(5,.k (.row 35 false))])],bnd tb (.slot 6) 2⟩),
 (120794,⟨77370071863715549769893632,[],[(0,.k (.d (.dat 62)))],[(8,.k (.row 106 false)),(9,.k (.row 35 false)),(10,.k (.d (.int .i64)))],[((.exit 3),[(8,.k (.row 106 false)),(9,.k (.row 35 false))])],bnd tb (.slot 10) 2⟩),
 (483290,⟨10382058415869198798257999252078592,[],[(0,.k (.d (.dat 62)))],[(14,.k (.row 124 false)),(15,.k (.d (.int .i64)))],[((.exit 5),[(14,.k (.row 124 false))])],bnd tb (.slot 15) 2⟩)] [] [] []
def a0i (n:Nat):Row I:=⟨140,[.var 62 (.k (.d (.dat 62))) true,.d (.int .i64)],[.k (.d (.dat 35))],b1o n⟩
def a9I (_:Nat):Hints I:=mkH [(4,[[],[0],[],[],[2,3],[2,3,4],[0,1,2,3,4,5],[0,1,2,3,4,5,6],[0,1,2,3,4,5,6,7]])] [] [] [] [(28,⟨1048322,[],[(0,.k (.d (.dat 62))),(7,.lvs [.row 35 false,.d (.bool),.d (.int .i64),.d (.int .i64),.d (.str),.row 35 false,.row 106 false,.row 124 false,.row 9 false])],[(1,.k (.d (.int .i64)))],[((.exit 0),[])],bnd tb (.slot 1) 2⟩)] [] [] []
def a0j (n:Nat):Row I:=⟨221,[.var 62 (.k (.d (.dat 62))) true,.d (.int .i64),.d (.int .i64)],[.k (.d (.dat 124))],b09 n⟩
theorem a8a (n:Nat)(_:j5 Go.Proofs.Tryz.prog (V8 n))(h_semtypebase_Source_value:j5 Go.Proofs.Tryz.prog (a0i n))(_:j5 Go.Proofs.Tryz.prog (a0j n)):RK (V8 (n+1)) :=
 okR [eR h_semtypebase_Source_value,eR a32] 13 Z5 [.cell 4 35] Go.Proofs.Tryz.func85 (by kernel_rfl)
theorem a8B (n:Nat)(h_semtypebase_Source_Value:j5 Go.Proofs.Tryz.prog (V8 n))(_:j5 Go.Proofs.Tryz.prog (a0i n))(h_semtypebase_Source_entry:j5 Go.Proofs.Tryz.prog (a0j n)):RK (a0i (n+1)) :=
 okR [eR a2y,eR w9,eR h_semtypebase_Source_Value,eR a4u,eR a1w,eR b6o,eR a32,eR a91,eR a81,eR h_semtypebase_Source_entry,eR (a54 n)] 124 (a9L n) [.cell 4 35] Go.Proofs.Tryz.func140 (by kernel_rfl)
theorem a8p (n:Nat)(h_semtypebase_Source_Value:j5 Go.Proofs.Tryz.prog (V8 n))(_:j5 Go.Proofs.Tryz.prog (a0i n))(_:j5 Go.Proofs.Tryz.prog (a0j n)):RK (a0j (n+1)) :=
 okR [eR h_semtypebase_Source_Value,eR w9] 30 (a9I n) [.cell 6 124] Go.Proofs.Tryz.func221 (by kernel_rfl)
theorem a3u:∀ n:Nat,j5 Go.Proofs.Tryz.prog (V8 n)/\j5 Go.Proofs.Tryz.prog (a0i n)/\j5 Go.Proofs.Tryz.prog (a0j n)
 | 0=>⟨Y0 (by kernel_rfl),Y0 (by kernel_rfl),Y0 (by kernel_rfl)⟩
 | n+1=>by
   obtain ⟨h0,h1,h2⟩:=a3u n
   exact ⟨a8a n h0 h1 h2,a8B n h0 h1 h2,a8p n h0 h1 h2⟩
theorem a84 (n:Nat):j5 Go.Proofs.Tryz.prog (V8 n):=(a3u n).1
def K3 (n:Nat):Row I:=⟨17,[.var 62 (.k (.d (.dat 62))) true,.d (.dat 27),.d (.int .i64),.d (.int .i64)],[.k (.d (.dat 35))],a15 n⟩
def a92 (_:Nat):Hints I:=mkH [(7,[[],[0],[],[2],[],[4],[],[6],[6,7],[],[9],[9,10],[6,7,8,9,10,11],[4,5,6,7,8,9,10,11,12],[0,1,2,3,4,5,6,7,8,9,10,11,12,13],[],[15],[0,1,2,3,4,5,6,7,8,9,10,11,12,13,14,15,16],[0,1,2,3,4,5,6,7,8,9,10,11,12,13,14,15,16,17],[0,1,2,3,4,5,6,7,8,9,10,11,12,13,14,15,16,17,18],[0,1,2,3,4,5,6,7,8,9,10,11,12,13,14,15,16,17,18,19]]),(25,[[],[0],[],[],[],[4],[],[4,5,6],[4,5,6,7],[],[9],[2,3,4,5,6,7,8,9,10],[2,3,4,5,6,7,8,9,10,11],[0,1,2,3,4,5,6,7,8,9,10,11,12],[0,1,2,3,4,5,6,7,8,9,10,11,12,13],[0,1,2,3,4,5,6,7,8,9,10,11,12,13,14]]),(30,[[],[0],[],[0,1,2],[0,1,2,3]]),(37,[[],[],[],[2],[],[],[5],[5,6],[4,5,6,7],[2,3,4,5,6,7,8],[2,3,4,5,6,7,8,9],[],[0,1,2,3,4,5,6,7,8,9,10,11],[0,1,2,3,4,5,6,7,8,9,10,11,12]]),(39,[[],[],[],[2],[],[],[5],[5,6],[4,5,6,7],[2,3,4,5,6,7,8],[2,3,4,5,6,7,8,9],[],[0,1,2,3,4,5,6,7,8,9,10,11],[0,1,2,3,4,5,6,7,8,9,10,11,12]]),(43,[[],[0],[],[2],[],[2,3,4],[2,3,4,5],[0,1,2,3,4,5,6],[0,1,2,3,4,5,6,7],[0,1,2,3,4,5,6,7,8],[0,1,2,3,4,5,6,7,8,9]]),(44,[[],[0],[0,1],[],[3],[],[5],[],[5,6,7],[5,6,7,8],[3,4,5,6,7,8,9],[3,4,5,6,7,8,9,10],[3,4,5,6,7,8,9,10,11],[3,4,5,6,7,8,9,10,11,12],[0,1,2,3,4,5,6,7,8,9,10,11,12,13],[0,1,2,3,4,5,6,7,8,9,10,11,12,13,14],[0,1,2,3,4,5,6,7,8,9,10,11,12,13,14,15],[0,1,2,3,4,5,6,7,8,9,10,11,12,13,14,15,16]]),(47,[[],[0],[],[2],[2,3],[0,1,2,3,4],[0,1,2,3,4,5]])] [] [] [(16449533,⟨386856262276681335905976320,[],[],[(.normal,[(86,.k (.d (.bool)))])]⟩),
 (263192557,⟨85029053355366337244815407887308292096,[],[(10,.lvs [.d (.int .i64),.d (.int .i64),.d (.str),.row 35 false,.row 106 false,.row 124 false,.row 9 false])],[(.normal,[])]⟩),
 (539018395474,⟨102844034449451492418213359320247649773843695697413960913387520,[],[(10,.k (.d (.dat 35)))],[(.normal,[])]⟩)] [(131596274,⟨2596147810297394171575110715049984,[],[(0,.k (.d (.dat 62))),(10,.lvs [.d (.int .i64),.d (.int .i64),.d (.str),.row 35 false,.row 106 false,.row 124 false,.row 9 false])],[(11,.k (.d (.int .i64)))],[((.exit 1),[])],bnd tb (.len (.ld 22 (.fld 48 4 (.slot 9)))) 1⟩),
 (67377299434,⟨102844034829582222281431884733353260024018043977843391611277312,[],[(10,.k (.d (.dat 35)))],[(12,.k (.d (.int .i64)))],[((.exit 3),[])],bnd tb (.len (.ld 22 (.fld 48 4 (.slot 9)))) 1⟩)] [] [] []
def W3 (n:Nat):Row I:=⟨35,[.var 62 (.k (.d (.dat 62))) true,.d (.dat 27),.d (.int .i64),.d (.int .i64)],[.k (.d (.dat 35))],b1O n⟩
def a6v (_:Nat):Hints I:=mkH [(10,[[],[0],[],[],[],[4],[],[4,5,6],[4,5,6,7],[],[9],[2,3,4,5,6,7,8,9,10],[2,3,4,5,6,7,8,9,10,11],[0,1,2,3,4,5,6,7,8,9,10,11,12],[0,1,2,3,4,5,6,7,8,9,10,11,12,13],[0,1,2,3,4,5,6,7,8,9,10,11,12,13,14]]),(13,[[],[],[],[2],[],[2,3,4],[2,3,4,5],[],[7],[0,1,2,3,4,5,6,7,8],[0,1,2,3,4,5,6,7,8,9],[0,1,2,3,4,5,6,7,8,9,10]])] [] [] [(31309,⟨2305280059260272640,[],[(0,.k (.d (.dat 62))),(12,.lvs [.row 35 false,.d (.bool),.d (.int .i64),.d (.int .i64),.d (.str),.d (.sl 35),.d (.sl 106),.d (.sl 124),.d (.sl 9)])],[(.normal,[])]⟩)] [(122,⟨36893488147414923776,[],[(0,.k (.d (.dat 62)))],[(9,.k (.row 124 false)),(11,.k (.d (.int .i64)))],[((.exit 0),[(9,.k (.row 124 false))])],bnd tb (.slot 11) 2⟩),
 (31306,⟨70368677076992,[],[(0,.k (.d (.dat 62))),(12,.lvs [.row 35 false,.d (.bool),.d (.int .i64),.d (.int .i64),.d (.str),.row 35 false,.row 106 false,.row 124 false,.row 9 false])],[(13,.k (.d (.int .i64)))],[((.exit 2),[])],bnd tb (.slot 10) 1⟩)] [] [] []
def J4 (n:Nat):Row I:=⟨82,[.var 62 (.k (.d (.dat 62))) true,.d (.dat 27),.d (.dat 48),.d (.int .i64)],[.k (.d (.dat 35))],a63 n⟩
def a8L (_:Nat):Hints I:=mkH [(8,[[],[],[],[],[3],[],[3,4,5],[3,4,5,6],[3,4,5,6,7],[],[9],[1,2,3,4,5,6,7,8,9,10],[1,2,3,4,5,6,7,8,9,10,11],[0,1,2,3,4,5,6,7,8,9,10,11,12],[0,1,2,3,4,5,6,7,8,9,10,11,12,13]]),(12,[[],[],[],[],[3],[],[3,4,5],[3,4,5,6],[],[8],[1,2,3,4,5,6,7,8,9],[1,2,3,4,5,6,7,8,9,10],[0,1,2,3,4,5,6,7,8,9,10,11],[0,1,2,3,4,5,6,7,8,9,10,11,12]])] [(6,[28])] [] [(125,⟨604462333346562283935232,[],[(0,.k (.d (.dat 62)))],[(.normal,[(9,.k (.row 106 false)),(10,.k (.row 35 false))])]⟩),
 (978,⟨72057594033735168,[],[(0,.k (.d (.dat 62)))],[(.normal,[(9,.k (.row 106 false)),(10,.k (.row 35 false))])]⟩),
 (7824,⟨8585740288,[],[(0,.k (.d (.dat 62)))],[(.normal,[(32,.k (.d (.bool)))])]⟩)] [(122,⟨72057594037898752,[],[(0,.k (.d (.dat 62)))],[(9,.k (.row 106 false)),(10,.k (.row 35 false)),(11,.k (.d (.int .i64)))],[((.exit 0),[(9,.k (.row 106 false)),(10,.k (.row 35 false))])],bnd tb (.len (.ld 45 (.fld 48 5 (.slot 6)))) 1⟩)] [] [] []
def K9 (n:Nat):Row I:=⟨81,[.var 62 (.k (.d (.dat 62))) true,.d (.dat 27),.d (.dat 48),.d (.int .i64)],[.k (.d (.dat 35))],a9r n⟩
theorem a9g (n:Nat)(_:j5 Go.Proofs.Tryz.prog (K3 n))(h_semtypebase_Source_near:j5 Go.Proofs.Tryz.prog (W3 n))(_:j5 Go.Proofs.Tryz.prog (J4 n))(_:j5 Go.Proofs.Tryz.prog (K9 n)):RK (K3 (n+1)) :=
 okR [eR h_semtypebase_Source_near,eR (a4F n),eR a2y] 21 Z5 [.cell 8 35] Go.Proofs.Tryz.func17 (by kernel_rfl)
theorem a9b (n:Nat)(h_semtypebase_Source_Near:j5 Go.Proofs.Tryz.prog (K3 n))(h_semtypebase_Source_near:j5 Go.Proofs.Tryz.prog (W3 n))(h_semtypebase_Source_nearFunction:j5 Go.Proofs.Tryz.prog (J4 n))(h_semtypebase_Source_nearMap:j5 Go.Proofs.Tryz.prog (K9 n)):RK (W3 (n+1)) :=
 okR [eR a2y,eR w9,eR a8Y,eR a6S,eR a1q,eR a7Z,eR a0H,eR a85,eR a1w,eR h_semtypebase_Source_Near,eR h_semtypebase_Source_nearMap,eR h_semtypebase_Source_nearFunction,eR h_semtypebase_Source_near,eR a4e,eR a9Z,eR (a84 n)] 217 (a92 n) [.cell 8 35] Go.Proofs.Tryz.func35 (by kernel_rfl)
theorem a5Z (n:Nat)(h_semtypebase_Source_Near:j5 Go.Proofs.Tryz.prog (K3 n))(_:j5 Go.Proofs.Tryz.prog (W3 n))(_:j5 Go.Proofs.Tryz.prog (J4 n))(_:j5 Go.Proofs.Tryz.prog (K9 n)):RK (J4 (n+1)) :=
 okR [eR w9,eR h_semtypebase_Source_Near,eR (a54 n),eR a1w] 75 (a6v n) [.cell 8 35] Go.Proofs.Tryz.func82 (by kernel_rfl)
theorem a7e (n:Nat)(h_semtypebase_Source_Near:j5 Go.Proofs.Tryz.prog (K3 n))(_:j5 Go.Proofs.Tryz.prog (W3 n))(_:j5 Go.Proofs.Tryz.prog (J4 n))(_:j5 Go.Proofs.Tryz.prog (K9 n)):RK (K9 (n+1)) :=
 okR [eR w9,eR h_semtypebase_Source_Near,eR a81,eR a1w] 89 (a8L n) [.cell 8 35] Go.Proofs.Tryz.func81 (by kernel_rfl)
theorem a3H:∀ n:Nat,j5 Go.Proofs.Tryz.prog (K3 n)/\j5 Go.Proofs.Tryz.prog (W3 n)/\j5 Go.Proofs.Tryz.prog (J4 n)/\j5 Go.Proofs.Tryz.prog (K9 n)
 | 0=>⟨Y0 (by kernel_rfl),Y0 (by kernel_rfl),Y0 (by kernel_rfl),Y0 (by kernel_rfl)⟩
 | n+1=>by
   obtain ⟨h0,h1,h2,h3⟩:=a3H n
   exact ⟨a9g n h0 h1 h2 h3,a9b n h0 h1 h2 h3,a5Z n h0 h1 h2 h3,a7e n h0 h1 h2 h3⟩
theorem a9t (n:Nat):j5 Go.Proofs.Tryz.prog (K3 n):=(a3H n).1
def b51 (_:Nat):Hints I:=mkH [(5,[[],[],[],[],[1,2,3],[0,1,2,3,4],[0,1,2,3,4,5]])] [] [] [] [] [] [] []
def b2x (n:Nat):Row I:=⟨6,[.d (.sl 3),.d (.sl 3)],[.k (.d (.dat 27)),.k (.d (.dat 35))],a3K n⟩
theorem b3M (n:Nat):RK (b2x n) :=
 okR [eR w9,eR a9A,eR (a9t n)] 31 (b51 n) [.cell 4 27,.cell 5 35] Go.Proofs.Tryz.func6 (by kernel_rfl)
def b4R:Hints I:=mkH [(1,[[],[0],[0,1],[],[3],[0,1,2,3,4],[0,1,2,3,4,5]]),(5,[[],[],[],[1,2],[1,2,3],[0,1,2,3,4],[0,1,2,3,4,5]])] [] [] [] [(58,⟨67100752,[5],[],[(6,.k (.d (.int .i64)))],[((.exit 0),[]),(.ret,[(4,.k (.d (.bool)))])],bnd tb (.len (.slot 5)) 1⟩)] [] [] []
def b1x:Row I:=⟨7,[.d (.dat 27),.d (.dat 24)],[.k (.d (.bool))],a3p⟩
theorem b3c:RK (b1x) :=
 okR [eR a2V] 26 b4R [.tmp 4] Go.Proofs.Tryz.func7 (by kernel_rfl)
def b1B (_:Nat):Hints I:=mkH [] [(4,[41]),(6,[51])] [] [(60,⟨281337537757184,[],[],[(.normal,[(47,.k (.d (.bool)))])]⟩)] [] [] [] []
noncomputable def a90 (n:Nat):Row I:=⟨3,[.d (.sl 3),.d (.dat 24),.d (.dat 27)],[.k (.d (.bool))],a1x n⟩
theorem b0V (n:Nat):RK (a90 n) :=
 okR [eR b38,eR (b4U n),eR (b3M n),eR b3c,eR (a69 n),eR (a5c n)] 61 (b1B n) [.tmp 6] Go.Proofs.Tryz.func3 (by kernel_rfl)
end Go.Qx
end
section
namespace Go.Pl
open Go Go.RowKit Go.Sx Go.Qx Go.Proofs.YtlhfnodjomobiaaGreatDoor
def a18 (w:World):S:=⟨w,fun b=>match w.heap[b]? with | some (.cells c _ _)=>(c.size,0) | _=>(0,0)⟩
theorem c6E {w:World}{b o:Nat}{cs:List Value}(hn:cs≠[])(h:w.rangeAt b o cs):a2E (a18 w) b o cs:=by
 refine ⟨?_,h⟩
 have hl:0<cs.length:=List.length_pos_iff.2 hn
 have hj:=h (cs.length-1) _ (List.getElem?_eq_getElem (by omega))
 unfold World.cell? at hj
 simp only at hj
 split at hj
 ·rename_i c e f hb
  have h2:o+(cs.length-1)<c.size:=by
   simp only [Option.isSome_none,Bool.false_eq_true,if_false] at hj
   exact (Array.getElem?_eq_some_iff.1 hj).1
  show o+cs.length<=(match w.heap[b]? with | some (.cells c _ _)=>(c.size,0) | _=>(0,0)).1
  rw [hb]
  show o+cs.length<=c.size
  omega
 ·cases hj
theorem c6u {w:World}{base:Nat}{a:Addr}{n:Nat}{cs:List Value}(h:w.cells? base a n=some cs) :
 cs.length=n/\∀ (i:Nat) (v:Value),cs[i]?=some v->w.cell? (a.add i)=some v:=by
 unfold World.cells? at h
 split at h
 ·have hl:cs.length=n:=by simpa using mapM_some_length h
  refine ⟨hl,fun i v hv=>?_⟩
  have hi:i<n:=by have:=(List.getElem?_eq_some_iff.1 hv).1; omega
  have:=mapM_some_get h i i (by simp [hi])
  rw [this,hv]
 ·cases h
theorem c98 (a:Addr)(x j:Nat):(a.add x).add j=a.add (x+j):=by
 unfold Addr.add
 by_cases hx:x=0
 ·subst hx; simp
 ·by_cases hj:j=0
  ·subst hj; simp [hx]
  ·rw [if_neg hj,if_neg hx,if_neg (by omega),Nat.add_assoc]
theorem c8b {w:World}{a:Addr}{v:Value}(h:w.cell? a=some v):a.spot=none:=by
 unfold World.cell? at h
 split at h
 ·split at h
  ·cases h
  ·rename_i hs; simpa using hs
 ·cases h
section
variable {H:Type}{enc:TypeId×Value->H}{P:Program}{w:World}{base:Nat}{spare:Nat->Bool}{held:Bool}
theorem b0q {α:Type} [Rp α] {fuel:Nat}{t e:TypeId}{cs:List Value}{x:DataW H×List MemPlace}(ht:P.underlying t=some (.slice e))(hc:P.cellsOf e=Rp.sz α)(bk:α->Nat)
 (hrd:∀ (n:Nat) (cs:List Value) (x:DataW H×List MemPlace),n<fuel->DataW.trod enc P w base spare held n e cs=some x->∃ d:α,Rp.cells (a18 w) d cs/\bk d<=Rows.uptoBulk x.1)
 (h:DataW.trod enc P w base spare held fuel t cs=some x) :
 ∃ (ds:List α) (A:Option Addr) (c:Nat),cs=[.slice A ds.length c]/\Sl (a18 w) ds A c/\(ds.map bk).sum+1<=Rows.uptoBulk x.1:=by
 rcases DataW.trod_slice ht h with ⟨rfl,rfl⟩ | ⟨a,len,cap,elems,rest,n,rfl,rfl,rfl,hb,hl,hm,hle,hget,-,-⟩
 ·exact ⟨[],none,0,rfl,Sl.nil_ _ _ _ (Nat.zero_le _),by simp [Rows.uptoBulk]⟩
 have key:∀ (m i:Nat),i+m=len->∃ (ds:List α) (cs:List Value),ds.length=m/\K1 (a18 w) ds cs /\
  (∀ (j:Nat) (v:Value),cs[j]?=some v->w.cell? (a.add (i*Rp.sz α+j))=some v)/\(ds.map bk).sum<=Rows.uptoBulkAll ((elems.drop i).map (·.1)):=by
  intro m
  induction m with
  | zero=>intro i _; exact ⟨[],[],rfl,rfl,fun j v hv=>by simp at hv,by simp⟩
  | succ m ih =>
    intro i hi
    obtain ⟨ds,cs,h1,h2,h3,h4⟩:=ih (i+1) (by omega)
    have hlt:i<elems.length:=by omega
    have hg:=hget i (by omega)
    rw [List.getElem?_eq_getElem hlt,Option.bind_eq_some_iff] at hg
    obtain ⟨cs0,hcs,htr⟩:=hg
    obtain ⟨d,hd,hbk⟩:=hrd n cs0 _ (by omega) htr
    obtain ⟨hcl,hci⟩:=c6u hcs
    rw [hc] at hcl hci
    refine ⟨d::ds,cs0++cs,by simp [h1],⟨cs0,cs,rfl,hd,h2⟩,?_,?_⟩
    ·intro j v hv
     by_cases hj:j<Rp.sz α
     ·rw [List.getElem?_append_left (by omega)] at hv
      rw [<- c98]
      exact hci j v hv
     ·rw [List.getElem?_append_right (by omega)] at hv
      have:=h3 _ v hv
      rw [hcl,Nat.add_mul,Nat.one_mul] at this
      have e:i*Rp.sz α+Rp.sz α+(j-Rp.sz α)=i*Rp.sz α+j:=by omega
      rw [e] at this
      exact this
    ·rw [List.drop_eq_getElem_cons hlt]
     simp only [List.map_cons,List.sum_cons,Rows.uptoBulkAll]
     omega
 obtain ⟨ds,cs,h1,h2,h3,h4⟩:=key len 0 (by omega)
 simp only [Nat.zero_mul,Nat.zero_add,List.drop_zero] at h3 h4
 refine ⟨ds,some a,cap,by rw [h1],⟨by omega,hm,cs,h2,fun hn=>?_⟩,by simp only [Rows.uptoBulk]; omega⟩
 have hne:=h2.ne_nil hn
 cases cs with
 | nil=>exact absurd rfl hne
 | cons v0 r =>
   have h0:=h3 0 v0 rfl
   have hs:a.spot=none:=c8b (by simpa [Addr.add] using h0)
   obtain ⟨b,o,sp⟩:=a
   simp only at hs
   subst hs
   refine ⟨b,o,rfl,c6E (by simp) ?_⟩
   intro j v hv
   have:=h3 j v hv
   unfold Addr.add at this
   by_cases hj:j=0
   ·subst hj; simpa using this
   ·rw [if_neg hj] at this
    exact this
end
theorem d1V {α:Type}{l:List α}(h:l.length=2):∃ a b,l=[a,b]:=by
 match l,h with
 | [a,b],_=>exact ⟨a,b,rfl⟩
theorem c5W (s:ByteArray):s.data.toList.length=s.size:=Array.length_toList
end Go.Pl
end
section
namespace Go.Pl
open Go Go.RowKit Go.Sx Go.Qx Go.Proofs.YtlhfnodjomobiaaGreatDoor
theorem d1A:Go.Proofs.Tryz.prog.cellsOf 106=2:=by kernel_rfl
theorem c9:Go.Proofs.Tryz.prog.cellsOf 9=1:=by kernel_rfl
theorem c2:Go.Proofs.Tryz.prog.cellsOf 2=1:=by kernel_rfl
theorem c4:Go.Proofs.Tryz.prog.cellsOf 4=1:=by kernel_rfl
theorem c3:Go.Proofs.Tryz.prog.cellsOf 3=1:=by kernel_rfl
theorem c22:Go.Proofs.Tryz.prog.cellsOf 22=1:=by kernel_rfl
section
variable {H:Type}{enc:TypeId×Value->H}{w:World}{base:Nat}{spare:Nat->Bool}{held:Bool}
theorem c8B {n:Nat}{cs:List Value}{x:DataW H×List MemPlace}(h:DataW.trod enc Go.Proofs.Tryz.prog w base spare held n 9 cs=some x) :
 ∃ d:ByteArray,Rp.cells (a18 w) d cs/\a0Z d<=Rows.uptoBulk x.1:=by
 obtain ⟨s,rfl,rfl,_⟩:=DataW.trod_string Go.Proofs.Tryz.underlying9 h
 refine ⟨s,rfl,?_⟩
 simp only [Rows.uptoBulk,a0Z]
 have:s.data.toList.length=s.size:=c5W s
 omega
theorem c8x {n:Nat}{cs:List Value}{x:DataW H×List MemPlace}(h:DataW.trod enc Go.Proofs.Tryz.prog w base spare held n 106 cs=some x) :
 ∃ d:Key,Rp.cells (a18 w) d cs/\a2v d<=Rows.uptoBulk x.1:=by
 obtain ⟨xs,n,rfl,rfl,hl,hx,hf⟩:=DataW.trod_struct Go.Proofs.Tryz.underlying106 h
 rw [d1A] at hl
 have hx:xs.length=2:=hx
 obtain ⟨v0,v1,rfl⟩:=d1V hl
 obtain ⟨x0,x1,rfl⟩:=d1V hx
 have f0:DataW.trod enc Go.Proofs.Tryz.prog w base spare held n 3 (([v0,v1].drop 0).take (Go.Proofs.Tryz.prog.cellsOf 3))=[x0,x1][0]?:=hf 0 _ rfl
 have f1:DataW.trod enc Go.Proofs.Tryz.prog w base spare held n 9 (([v0,v1].drop 1).take (Go.Proofs.Tryz.prog.cellsOf 9))=[x0,x1][1]?:=hf 1 _ rfl
 rw [c3] at f0
 rw [c9] at f1
 obtain ⟨k,e0,rfl,_⟩:=DataW.trod_int Go.Proofs.Tryz.underlying3 (x:=x0) f0
 obtain ⟨s,e1,hb⟩:=c8B (x:=x1) f1
 obtain rfl:v0=.int .i64 k:=by simpa using e0
 have e1':[v1]=[Value.string s]:=e1
 obtain rfl:v1=.string s:=by simpa using e1'
 refine ⟨⟨k,s⟩,rfl,?_⟩
 simp only [a2v,Rows.uptoBulk,Rows.uptoBulkAll,List.map_cons,List.map_nil]
 omega
end
end Go.Pl
namespace Go.Pl
open Go Go.RowKit Go.Sx Go.Qx Go.Proofs.YtlhfnodjomobiaaGreatDoor
theorem c24:Go.Proofs.Tryz.prog.cellsOf 24=3:=by kernel_rfl
theorem d1B:Go.Proofs.Tryz.prog.cellsOf 108=4:=by kernel_rfl
theorem c45:Go.Proofs.Tryz.prog.cellsOf 45=1:=by kernel_rfl
theorem c46:Go.Proofs.Tryz.prog.cellsOf 46=2:=by kernel_rfl
theorem c48:Go.Proofs.Tryz.prog.cellsOf 48=8:=by kernel_rfl
theorem c25:Go.Proofs.Tryz.prog.cellsOf 25=1:=by kernel_rfl
theorem c27:Go.Proofs.Tryz.prog.cellsOf 27=2:=by kernel_rfl
theorem rdP {α β:Type}(ra:Rp α)(rb:Rp β){σ:S}{cs:List Value}{a:α}{b:β}(o s:Nat)(h1:ra.cells σ a ((cs.drop o).take s))(h2:rb.cells σ b (cs.drop (o+s))):(v8 ra rb).cells σ (a,b) (cs.drop o) :=
 ⟨_,_,by rw [<- List.drop_drop]; exact (List.take_append_drop s (cs.drop o)).symm,h1,h2⟩
theorem rdE {α:Type}(ra:Rp α){σ:S}{cs:List Value}{a:α}(o s:Nat)(hl:cs.length=o+s)(h1:ra.cells σ a ((cs.drop o).take s)):ra.cells σ a (cs.drop o):=by
 rwa [List.take_of_length_le (by rw [List.length_drop]; omega)] at h1
theorem ln2 {α:Type}{l:List α}(h:l.length=2):∃ a0 a1,l=[a0,a1]:=by
 match l,h with
 | [a0,a1],_=>exact ⟨a0,a1,rfl⟩
theorem ln3 {α:Type}{l:List α}(h:l.length=3):∃ a0 a1 a2,l=[a0,a1,a2]:=by
 match l,h with
 | [a0,a1,a2],_=>exact ⟨a0,a1,a2,rfl⟩
theorem ln7 {α:Type}{l:List α}(h:l.length=7):∃ a0 a1 a2 a3 a4 a5 a6,l=[a0,a1,a2,a3,a4,a5,a6]:=by
 match l,h with
 | [a0,a1,a2,a3,a4,a5,a6],_=>exact ⟨a0,a1,a2,a3,a4,a5,a6,rfl⟩
section
variable {H:Type}{enc:TypeId×Value->H}{w:World}{base:Nat}{spare:Nat->Bool}{held:Bool}
theorem b9C {n:Nat}{cs:List Value}{x:DataW H×List MemPlace}(h:DataW.trod enc Go.Proofs.Tryz.prog w base spare held n 3 cs=some x):∃ d:Int,(rpK .i64).cells (a18 w) d cs/\a26 d<=Rows.uptoBulk x.1:=by
 obtain ⟨k,e0,rfl,_⟩:=DataW.trod_int Go.Proofs.Tryz.underlying3 h
 exact ⟨k,e0,by simp [a26,Rows.uptoBulk]⟩
theorem c6W {n:Nat}{cs:List Value}{x:DataW H×List MemPlace}(h:DataW.trod enc Go.Proofs.Tryz.prog w base spare held n 22 cs=some x):∃ d:List Int,(@rpList _ (rpK .i64)).cells (a18 w) d cs/\a8D d<=Rows.uptoBulk x.1:=by
 obtain ⟨ds,A,c,e,hs,hb⟩:=@b0q _ _ _ _ _ _ _ Int (rpK .i64) _ _ _ _ _ Go.Proofs.Tryz.underlying22 c3 a26 (fun n cs x _ h=>b9C h) h
 exact ⟨ds,⟨A,c,e,hs⟩,hb⟩
theorem d00 {n:Nat}{cs:List Value}{x:DataW H×List MemPlace}(h:DataW.trod enc Go.Proofs.Tryz.prog w base spare held n 4 cs=some x):∃ d:Bool,(rpBool).cells (a18 w) d cs/\b8r d<=Rows.uptoBulk x.1:=by
 obtain ⟨k,e0,rfl⟩:=DataW.trod_bool Go.Proofs.Tryz.underlying4 h
 exact ⟨k,e0,by simp [b8r,Rows.uptoBulk]⟩
theorem d2F {n:Nat}{cs:List Value}{x:DataW H×List MemPlace}(h:DataW.trod enc Go.Proofs.Tryz.prog w base spare held n 24 cs=some x):∃ d:Api_Goal,(a1J).cells (a18 w) d cs/\b2W d<=Rows.uptoBulk x.1:=by
 obtain ⟨xs,m,rfl,rfl,hl,hx,hf⟩:=DataW.trod_struct Go.Proofs.Tryz.underlying24 h
 rw [c24] at hl
 have hx:xs.length=3:=hx
 obtain ⟨x0,x1,x2,rfl⟩:=ln3 hx
 have f0:DataW.trod enc Go.Proofs.Tryz.prog w base spare held m 22 ((cs.drop 0).take (Go.Proofs.Tryz.prog.cellsOf 22))=[x0,x1,x2][0]?:=hf 0 _ rfl
 rw [c22] at f0
 obtain ⟨d0,e0,b0⟩:=c6W (x:=x0) f0
 have f1:DataW.trod enc Go.Proofs.Tryz.prog w base spare held m 22 ((cs.drop 1).take (Go.Proofs.Tryz.prog.cellsOf 22))=[x0,x1,x2][1]?:=hf 1 _ rfl
 rw [c22] at f1
 obtain ⟨d1,e1,b1⟩:=c6W (x:=x1) f1
 have f2:DataW.trod enc Go.Proofs.Tryz.prog w base spare held m 4 ((cs.drop 2).take (Go.Proofs.Tryz.prog.cellsOf 4))=[x0,x1,x2][2]?:=hf 2 _ rfl
 rw [c4] at f2
 obtain ⟨d2,e2,b2⟩:=d00 (x:=x2) f2
 refine ⟨⟨d0,d1,d2⟩,rdP (@rpList _ (rpK .i64)) (v8 (@rpList _ (rpK .i64)) (rpBool)) 0 1 e0 (rdP (@rpList _ (rpK .i64)) (rpBool) 1 1 e1 (rdE (rpBool) 2 1 hl e2)),?_⟩
 simp only [b2W,Rows.uptoBulk,Rows.uptoBulkAll,List.map_cons,List.map_nil]
 omega
theorem d1d {n:Nat}{cs:List Value}{x:DataW H×List MemPlace}(h:DataW.trod enc Go.Proofs.Tryz.prog w base spare held n 2 cs=some x):∃ d:Int,(rpK .i64).cells (a18 w) d cs/\a26 d<=Rows.uptoBulk x.1:=by
 obtain ⟨k,e0,rfl,_⟩:=DataW.trod_int Go.Proofs.Tryz.underlying2 h
 exact ⟨k,e0,by simp [a26,Rows.uptoBulk]⟩
theorem d29 {n:Nat}{cs:List Value}{x:DataW H×List MemPlace}(h:DataW.trod enc Go.Proofs.Tryz.prog w base spare held n 9 cs=some x):∃ d:ByteArray,(rpStr).cells (a18 w) d cs/\a0Z d<=Rows.uptoBulk x.1:=by
 obtain ⟨s,rfl,rfl,_⟩:=DataW.trod_string Go.Proofs.Tryz.underlying9 h
 refine ⟨s,rfl,?_⟩
 simp only [Rows.uptoBulk,a0Z]
 have:s.data.toList.length=s.size:=c5W s
 omega
theorem d1i {n:Nat}{cs:List Value}{x:DataW H×List MemPlace}(h:DataW.trod enc Go.Proofs.Tryz.prog w base spare held n 106 cs=some x):∃ d:Key,(rpKey).cells (a18 w) d cs/\a2v d<=Rows.uptoBulk x.1:=by
 exact c8x h
theorem d1l {n:Nat}{cs:List Value}{x:DataW H×List MemPlace}(h:DataW.trod enc Go.Proofs.Tryz.prog w base spare held n 108 cs=some x):∃ d:Api_Field,(W1).cells (a18 w) d cs/\a4a d<=Rows.uptoBulk x.1:=by
 obtain ⟨xs,m,rfl,rfl,hl,hx,hf⟩:=DataW.trod_struct Go.Proofs.Tryz.underlying108 h
 rw [d1B] at hl
 have hx:xs.length=3:=hx
 obtain ⟨x0,x1,x2,rfl⟩:=ln3 hx
 have f0:DataW.trod enc Go.Proofs.Tryz.prog w base spare held m 106 ((cs.drop 0).take (Go.Proofs.Tryz.prog.cellsOf 106))=[x0,x1,x2][0]?:=hf 0 _ rfl
 rw [d1A] at f0
 obtain ⟨d0,e0,b0⟩:=d1i (x:=x0) f0
 have f1:DataW.trod enc Go.Proofs.Tryz.prog w base spare held m 3 ((cs.drop 2).take (Go.Proofs.Tryz.prog.cellsOf 3))=[x0,x1,x2][1]?:=hf 1 _ rfl
 rw [c3] at f1
 obtain ⟨d1,e1,b1⟩:=b9C (x:=x1) f1
 have f2:DataW.trod enc Go.Proofs.Tryz.prog w base spare held m 4 ((cs.drop 3).take (Go.Proofs.Tryz.prog.cellsOf 4))=[x0,x1,x2][2]?:=hf 2 _ rfl
 rw [c4] at f2
 obtain ⟨d2,e2,b2⟩:=d00 (x:=x2) f2
 refine ⟨⟨d0,d1,d2⟩,rdP (rpKey) (v8 (rpK .i64) (rpBool)) 0 2 e0 (rdP (rpK .i64) (rpBool) 2 1 e1 (rdE (rpBool) 3 1 hl e2)),?_⟩
 simp only [a4a,Rows.uptoBulk,Rows.uptoBulkAll,List.map_cons,List.map_nil]
 omega
theorem d18 {n:Nat}{cs:List Value}{x:DataW H×List MemPlace}(h:DataW.trod enc Go.Proofs.Tryz.prog w base spare held n 45 cs=some x):∃ d:List Api_Field,(@rpList _ (W1)).cells (a18 w) d cs/\a8n d<=Rows.uptoBulk x.1:=by
 obtain ⟨ds,A,c,e,hs,hb⟩:=@b0q _ _ _ _ _ _ _ Api_Field (W1) _ _ _ _ _ Go.Proofs.Tryz.underlying45 d1B a4a (fun n cs x _ h=>d1l h) h
 exact ⟨ds,⟨A,c,e,hs⟩,hb⟩
theorem d2J {n:Nat}{cs:List Value}{x:DataW H×List MemPlace}(h:DataW.trod enc Go.Proofs.Tryz.prog w base spare held n 46 cs=some x):∃ d:Int×Int,(v8 (rpK .i64) (rpK .i64)).cells (a18 w) d cs/\b7m d<=Rows.uptoBulk x.1:=by
 obtain ⟨xs,m,rfl,rfl,hl,hx,hf⟩:=DataW.trod_array Go.Proofs.Tryz.underlying46 h
 rw [c46] at hl
 have hx:xs.length=2:=hx
 obtain ⟨x0,x1,rfl⟩:=ln2 hx
 rw [c3] at hf
 have f0:DataW.trod enc Go.Proofs.Tryz.prog w base spare held m 3 ((cs.drop 0).take 1)=[x0,x1][0]?:=hf 0 (by decide)
 obtain ⟨d0,e0,b0⟩:=b9C (x:=x0) f0
 have f1:DataW.trod enc Go.Proofs.Tryz.prog w base spare held m 3 ((cs.drop 1).take 1)=[x0,x1][1]?:=hf 1 (by decide)
 obtain ⟨d1,e1,b1⟩:=b9C (x:=x1) f1
 refine ⟨(d0,d1),rdP (rpK .i64) (rpK .i64) 0 1 e0 (rdE (rpK .i64) 1 1 hl e1),?_⟩
 simp only [b7m,Rows.uptoBulk,Rows.uptoBulkAll,List.map_cons,List.map_nil]
 omega
theorem d2b {n:Nat}{cs:List Value}{x:DataW H×List MemPlace}(h:DataW.trod enc Go.Proofs.Tryz.prog w base spare held n 48 cs=some x):∃ d:Api_TypeNode,(a0o).cells (a18 w) d cs/\a0n d<=Rows.uptoBulk x.1:=by
 obtain ⟨xs,m,rfl,rfl,hl,hx,hf⟩:=DataW.trod_struct Go.Proofs.Tryz.underlying48 h
 rw [c48] at hl
 have hx:xs.length=7:=hx
 obtain ⟨x0,x1,x2,x3,x4,x5,x6,rfl⟩:=ln7 hx
 have f0:DataW.trod enc Go.Proofs.Tryz.prog w base spare held m 3 ((cs.drop 0).take (Go.Proofs.Tryz.prog.cellsOf 3))=[x0,x1,x2,x3,x4,x5,x6][0]?:=hf 0 _ rfl
 rw [c3] at f0
 obtain ⟨d0,e0,b0⟩:=b9C (x:=x0) f0
 have f1:DataW.trod enc Go.Proofs.Tryz.prog w base spare held m 2 ((cs.drop 1).take (Go.Proofs.Tryz.prog.cellsOf 2))=[x0,x1,x2,x3,x4,x5,x6][1]?:=hf 1 _ rfl
 rw [c2] at f1
 obtain ⟨d1,e1,b1⟩:=d1d (x:=x1) f1
 have f2:DataW.trod enc Go.Proofs.Tryz.prog w base spare held m 2 ((cs.drop 2).take (Go.Proofs.Tryz.prog.cellsOf 2))=[x0,x1,x2,x3,x4,x5,x6][2]?:=hf 2 _ rfl
 rw [c2] at f2
 obtain ⟨d2,e2,b2⟩:=d1d (x:=x2) f2
 have f3:DataW.trod enc Go.Proofs.Tryz.prog w base spare held m 9 ((cs.drop 3).take (Go.Proofs.Tryz.prog.cellsOf 9))=[x0,x1,x2,x3,x4,x5,x6][3]?:=hf 3 _ rfl
 rw [c9] at f3
 obtain ⟨d3,e3,b3⟩:=d29 (x:=x3) f3
 have f4:DataW.trod enc Go.Proofs.Tryz.prog w base spare held m 22 ((cs.drop 4).take (Go.Proofs.Tryz.prog.cellsOf 22))=[x0,x1,x2,x3,x4,x5,x6][4]?:=hf 4 _ rfl
 rw [c22] at f4
 obtain ⟨d4,e4,b4⟩:=c6W (x:=x4) f4
 have f5:DataW.trod enc Go.Proofs.Tryz.prog w base spare held m 45 ((cs.drop 5).take (Go.Proofs.Tryz.prog.cellsOf 45))=[x0,x1,x2,x3,x4,x5,x6][5]?:=hf 5 _ rfl
 rw [c45] at f5
 obtain ⟨d5,e5,b5⟩:=d18 (x:=x5) f5
 have f6:DataW.trod enc Go.Proofs.Tryz.prog w base spare held m 46 ((cs.drop 6).take (Go.Proofs.Tryz.prog.cellsOf 46))=[x0,x1,x2,x3,x4,x5,x6][6]?:=hf 6 _ rfl
 rw [c46] at f6
 obtain ⟨d6,e6,b6⟩:=d2J (x:=x6) f6
 refine ⟨⟨d0,d1,d2,d3,d4,d5,d6⟩,rdP (rpK .i64) (v8 (rpK .i64) (v8 (rpK .i64) (v8 (rpStr) (v8 (@rpList _ (rpK .i64)) (v8 (@rpList _ (W1)) (v8 (rpK .i64) (rpK .i64))))))) 0 1 e0 (rdP (rpK .i64) (v8 (rpK .i64) (v8 (rpStr) (v8 (@rpList _ (rpK .i64)) (v8 (@rpList _ (W1)) (v8 (rpK .i64) (rpK .i64)))))) 1 1 e1 (rdP (rpK .i64) (v8 (rpStr) (v8 (@rpList _ (rpK .i64)) (v8 (@rpList _ (W1)) (v8 (rpK .i64) (rpK .i64))))) 2 1 e2 (rdP (rpStr) (v8 (@rpList _ (rpK .i64)) (v8 (@rpList _ (W1)) (v8 (rpK .i64) (rpK .i64)))) 3 1 e3 (rdP (@rpList _ (rpK .i64)) (v8 (@rpList _ (W1)) (v8 (rpK .i64) (rpK .i64))) 4 1 e4 (rdP (@rpList _ (W1)) (v8 (rpK .i64) (rpK .i64)) 5 1 e5 (rdE (v8 (rpK .i64) (rpK .i64)) 6 2 hl e6)))))),?_⟩
 simp only [a0n,Rows.uptoBulk,Rows.uptoBulkAll,List.map_cons,List.map_nil]
 omega
theorem d2H {n:Nat}{cs:List Value}{x:DataW H×List MemPlace}(h:DataW.trod enc Go.Proofs.Tryz.prog w base spare held n 25 cs=some x):∃ d:List Api_TypeNode,(@rpList _ (a0o)).cells (a18 w) d cs/\a9X d<=Rows.uptoBulk x.1:=by
 obtain ⟨ds,A,c,e,hs,hb⟩:=@b0q _ _ _ _ _ _ _ Api_TypeNode (a0o) _ _ _ _ _ Go.Proofs.Tryz.underlying25 c48 a0n (fun n cs x _ h=>d2b h) h
 exact ⟨ds,⟨A,c,e,hs⟩,hb⟩
theorem d2D {n:Nat}{cs:List Value}{x:DataW H×List MemPlace}(h:DataW.trod enc Go.Proofs.Tryz.prog w base spare held n 27 cs=some x):∃ d:Api_Type,(a6p).cells (a18 w) d cs/\a3Q d<=Rows.uptoBulk x.1:=by
 obtain ⟨xs,m,rfl,rfl,hl,hx,hf⟩:=DataW.trod_struct Go.Proofs.Tryz.underlying27 h
 rw [c27] at hl
 have hx:xs.length=2:=hx
 obtain ⟨x0,x1,rfl⟩:=ln2 hx
 have f0:DataW.trod enc Go.Proofs.Tryz.prog w base spare held m 25 ((cs.drop 0).take (Go.Proofs.Tryz.prog.cellsOf 25))=[x0,x1][0]?:=hf 0 _ rfl
 rw [c25] at f0
 obtain ⟨d0,e0,b0⟩:=d2H (x:=x0) f0
 have f1:DataW.trod enc Go.Proofs.Tryz.prog w base spare held m 3 ((cs.drop 1).take (Go.Proofs.Tryz.prog.cellsOf 3))=[x0,x1][1]?:=hf 1 _ rfl
 rw [c3] at f1
 obtain ⟨d1,e1,b1⟩:=b9C (x:=x1) f1
 refine ⟨⟨d0,d1⟩,rdP (@rpList _ (a0o)) (rpK .i64) 0 1 e0 (rdE (rpK .i64) 1 1 hl e1),?_⟩
 simp only [a3Q,Rows.uptoBulk,Rows.uptoBulkAll,List.map_cons,List.map_nil]
 omega
end
end Go.Pl
end

/- Part 6. -/
import Derived.Test.YtjbmbpabpaeklaaGreatDoorK3
import Derived.Test.YtjbmbpabpaeklaaGreatDoorK5
import Derived.ChangeArms
import Derived.KernelRfl
import Derived.OpenShut
import Derived.Test.YtjbmbpabpaeklaaGreatDoorRows
noncomputable section
open Array renaming getElem?_eq_some_iff->MI',getElem?_toList->Lz'
open Bool renaming and_eq_true->Lc',false_eq_true->Mi'
open List renaming all_eq_true->Le',drop_eq_getElem_cons->LO',getElem?_append_left->LD',getElem?_append_right->Ls',getElem?_eq_getElem->Lb',getElem?_eq_none_iff->MS',getElem?_eq_some_iff->La',getElem_mem->Lu',length_pos_iff->NY',map_cons->LJ',mem_append_left->LN',mem_append_right->LT',mem_flatMap->Ng',mem_map->Lx'
open Nat renaming add_assoc->MC',add_mul->LP',beq->Lm',blt->LF',eq_of_beq_eq_true->Li',le_of_ble_eq_true->LG',le_refl->Lg',le_trans->Lr',lt_of_lt_of_le->MB',mul_le_mul_right->LA',one_mul->NF',zero_add->LM',zero_le->Mb'
open Option renaming map_eq_some_iff->Mx',map_some->Mv',some->LI'
section
open Go.Proofs.Tryz renaming prog->KZ'
open Go.Proofs.Tryz
namespace Go.Qx
open Go Go.RowKit Go.Sx
set_option maxHeartbeats 1600000
set_option maxRecDepth 100000
abbrev RK (r:Row I):Prop:=bJ KZ' r
abbrev RO (r:Rio I):Prop:=u6 KZ' r
def aG:Hints I:=aO []
structure En where
 ans:oN I
 ok:zf KZ' ans
def OA:List En->List (oN I)
 | []=>[]
 | e::r=>e.ans::OA r
theorem Er:∀ l:List En,PE KZ' (OA l)
 | []=>trivial
 | e::r=>⟨e.ok,Er r⟩
def eR {r:Row I}(h:RK r):En:=⟨iF' tb r,tI' dO h⟩
def eO {r:Rio I}(h:RO r):En:=⟨ai' tb r,Ba' dO h⟩
def eS {r:Row I}(T f j:Nat)(is:List Nat)(h:zY KZ' r (Ep T f j is)):En:=⟨jo' tb r (X7 T f j is),fY' dO h (λ_ _ _ _ _ _ _ _ _ hO h hc hv=>CZ' hO h hc hv)⟩
theorem aI {r:Row I}(l:List En)(H:Hints I){fn:Func}(hf:(KZ').funcs[r.f]?=some fn)
 (h : (fn.body, fn.name == "runtime.NumGoroutine", Nat.ble r.ps.length fn.ntmps, kJ H (dW fn) 1, r.run) = (some (dW fn), false, true, true, yT r.ps (bJ' tb (EZ (OA l) 25) H (dW fn) fn.ntmps r.ps r.rs fn.results.toList)) := by kernel_rfl) : RK r := by
 simp only [Prod.mk.injEq] at h;obtain ⟨h1,h2,h5,h6,h7⟩:=h;exact rD' dO (G9 (Er l) 25) mixed _ hf h1 h2 rfl rfl h5 h6 h7
theorem okO {r:Rio I}(l:List En)(H:Hints I){fn:Func}(hf:(KZ').funcs[r.f]?=some fn)
 (h : (fn.body, fn.name == "runtime.NumGoroutine", Nat.ble (r.ps.length + 1) fn.ntmps, kJ H (dW fn) 1, r.run) = (some (dW fn), false, true, true, λxs => yT r.ps (gx' tb (EZ (OA l) 25) H (dW fn) fn.ntmps r.E r.ps r.rs fn.results.toList xs)) := by kernel_rfl) : RO r := by
 simp only [Prod.mk.injEq] at h;obtain ⟨h1,h2,h5,h6,h7⟩:=h;exact Cv' dO (G9 (Er l) 25) mixed _ hf h1 h2 rfl rfl h5 h6 h7
def fH (l:List (Nat×IH I)):Nat->IH I:=λi=>(bC l i).getD ⟨[],aG⟩
def xQ':Row I:=⟨271,[pS,pS],[kI],Jo⟩
theorem zR':bJ KZ' xQ':=sc' func271 (by kernel_rfl) rfl (by kernel_rfl) (by kernel_rfl)
def Cf':Row I:=⟨52,[pL 3],[kR 3],iY 8⟩
theorem JO:bJ KZ' Cf':=yF dO mixed func52 (by kernel_rfl) (by kernel_rfl) (by kernel_rfl) underlying23 rfl (by kernel_rfl) (λ_=>by kernel_rfl)
def tO':Rio I:=⟨128,3,[],[],WT⟩
theorem BA':u6 KZ' tO':=oL' (I:=I) (E:=3) lay128 128 (by kernel_rfl) (λx=>x) Iff.rfl ⟨_,_,func128,rfl,by kernel_rfl⟩
def vv':Rio I:=⟨141,9,[],[],LQ⟩
theorem eR':u6 KZ' vv':=Cy' (I:=I) (E:=9) lay141 141 (by kernel_rfl) (λx=>x) Iff.rfl ⟨_,_,func141,rfl,by kernel_rfl⟩
def xy':Rio I:=⟨267,189,[.fn [.dat 189,.dat 189] [kI]],[],uX⟩
theorem uG':u6 KZ' xy':=aX' lay267 267 (by kernel_rfl) (by kernel_rfl) underlying189 (by kernel_rfl)
def vj':Row I:=⟨251,[pL 9],[kR 9],iY 16⟩
theorem Kq:bJ KZ' vj':=yF dO mixed func251 (by kernel_rfl) (by kernel_rfl) (by kernel_rfl) underlying35 rfl (by kernel_rfl) (λ_=>by kernel_rfl)
def AG':Row I:=⟨253,[pL 25],[kR 25],iY 56⟩
theorem ez':bJ KZ' AG':=yF dO mixed func253 (by kernel_rfl) (by kernel_rfl) (by kernel_rfl) underlying22 rfl (by kernel_rfl) (λ_=>by kernel_rfl)
def wR':Rio I:=⟨240,151,[.fn [.dat 151,.dat 151] [kI]],[],uX⟩
theorem za':u6 KZ' wR':=aX' lay240 240 (by kernel_rfl) (by kernel_rfl) underlying151 (by kernel_rfl)
def vz':Hints I:=aO [.l 26 ⟨65532,[],[],[(3,kI)],[((.exit 0),[]),(.ret,[(2,kB)])],aK tb (.len (.slot 0)) 1⟩]
theorem BW':RK ⟨9,[pL 23],[kB],Sr⟩ :=
 aI [] vz' func9
def oy':Hints I:=aO [.j 29 ⟨16776824,[],[],[(.normal,[(3,kB),(4,kB),(5,kB),(6,kB)])]⟩,.j 941 ⟨26624,[],[],[(.normal,[(11,kB)])]⟩,.j 3773 ⟨4096000,[],[],[(.normal,[(15,kB)])]⟩]
theorem oq':RK ⟨65,[pD 55],[kB],Sy⟩ :=
 aI [] oy' func65
def zn':Hints I:=aO [.l 58 ⟨34351349952,[],[],[(7,kI)],[((.exit 0),[]),(.ret,[(6,kB)])],aK tb (.len (.slot 0)) 1⟩]
theorem fx':RK ⟨170,[pS,.fn [.int .u8] [kB],.fn [.int .u8] [kB]],[kB],JQ⟩ :=
 aI [] zn' func170
theorem WL:RK ⟨171,[.d (.int .u8)],[kB],Ib⟩ :=
 aI [] aG func171
theorem gM':RK ⟨173,[.d (.int .u8)],[kB],LV⟩ :=
 aI [] aG func173
theorem CV':RK ⟨172,[.d (.int .u8)],[kB],Xe⟩ :=
 aI [eR WL,eR gM'] aG func172
theorem jD':RK ⟨118,[pS],[kB],KT⟩ :=
 aI [eR fx',eR WL,eR CV'] aG func118
theorem bC':RK ⟨174,[.d (.int .u8)],[kB],Jt⟩ :=
 aI [] aG func174
theorem BJ':RK ⟨175,[.d (.int .u8)],[kB],XW⟩ :=
 aI [eR WL,eR bC',eR gM'] aG func175
theorem yr':RK ⟨119,[pS],[kB],Rw⟩ :=
 aI [eR fx',eR bC',eR BJ'] aG func119
theorem yh':RK ⟨176,[pD 151],[kB],OC⟩ :=
 aI [eR jD'] aG func176
theorem yb':RK ⟨243,[pI],[kB],OL⟩ :=
 aI [] aG func243
theorem xq':RK ⟨212,[pI,pI],[kI],Ra⟩ :=
 aI [eR yb'] aG func212
theorem yv':RK ⟨244,[pS,pS],[kI],Wm⟩ :=
 aI [eR zR'] aG func244
theorem ou':RK ⟨213,[pS,pS],[kI],QH⟩ :=
 aI [eR yv'] aG func213
theorem ik':RK ⟨177,[pD 151,pD 151],[kI],Df⟩ :=
 aI [eR xq',eR ou'] aG func177
def sI':Hints I:=aO [.l 26 ⟨8589934492,[],[],[(7,kI)],[((.exit 0),[]),(.ret,[(2,kB)])],aK tb (.slot 6) 1⟩]
theorem rb':RK ⟨120,[pL 156],[kB],RP⟩ :=
 aI [eR yh',eR ik'] sI' func120
def xh':Hints I:=aO [.j 105 ⟨16288,[],[],[(.normal,[(5,kB)])]⟩,.j 28311549 ⟨368934881474191032320,[],[],[(.normal,[(66,kB)])]⟩]
theorem pA':RK ⟨66,[pD 55],[kB],Rq⟩ :=
 aI [eR jD',eR yr',eR rb'] xh' func66
def CE':Hints I:=aO [.l 58 ⟨4190248,[],[],[(3,kR 3),(12,kI)],[((.exit 0),[(3,kR 3)])],aK tb (.slot 11) 1⟩]
theorem wB':RK ⟨67,[pD 55],[kR 3],Sb⟩ :=
 aI [eR JO] CE' func67
theorem BN':RK ⟨122,[pI],[kB],PL⟩ :=
 aI [] aG func122
def qb' (_:Nat):Hints I:=aO [.l 122 ⟨140462610448544,[],[(1,kR 3)],[(38,kI)],[((.exit 0),[]),(.ret,[(5,kB)])],aK tb (.slot 37) 1⟩]
def Vl (n:Nat):Row I:=⟨121,[pI,.var 23 (kR 3) true,.var 31 (kD 31) false,.var 86 (.k (.d .any)) false],[kB],tL n⟩
theorem Eb' (n:Nat)(JX':zY KZ' (Vl n) (Ep 86 121 3 [1,2,3])):zY KZ' (Vl (n+1)) (Ep 86 121 3 [1,2,3]) :=
 Cr' dO (G9 (Er [eR BN',eS 86 121 3 [1,2,3] JX']) 3) mixed 50 (s0:=λa=>iz' 86 121 3 3 [1,2,3] (rz tb 50 [pI,.var 23 (kR 3) true,.var 31 (kD 31) false,.var 86 (.k (.d .any)) false] a)) (fn:=f121) (cd:=dW f121) (H:=(qb' n)) (rl:=[.tmp 5]) (λX c σ a vs F h hv _ hC=>oT' rfl rfl rfl h hv hC) func121 (by kernel_rfl) (by kernel_rfl) (by kernel_rfl) (by kernel_rfl) (by kernel_rfl) (by kernel_rfl) (by kernel_rfl)
theorem bv':∀ n:Nat,zY KZ' (Vl n) (Ep 86 121 3 [1,2,3])
 | 0=>qT' (oq (by kernel_rfl))
 | n+1=>Eb' n (bv' n)
def Av' (_:Nat):Hints I:=aO [.l 250 ⟨4177956,[],[(3,kR 3)],[(14,kI)],[((.exit 0),[]),(.ret,[(2,kB)])],aK tb (.slot 13) 1⟩]
theorem zS' (n:Nat):RK ⟨68,[pD 31],[kB],OM n⟩ :=
 aI [eS 86 121 3 [1,2,3] (bv' n)] (Av' n) func68
def CU' (_:Nat):Hints I:=aO [.l 58 ⟨2251799811588180,[],[],[(21,kI)],[((.exit 0),[]),(.ret,[(2,kI)])],aK tb (.slot 20) 1⟩,.l 29902 ⟨1125831187365956,[34],[],[(36,kI)],[((.exit 2),[]),(.ret,[(2,kI)])],aK tb (.slot 35) 1⟩]
theorem KU (n:Nat):RK ⟨39,[pD 31],[kI],wZ n⟩ :=
 aI [eR oq',eR pA',eR wB',eR (zS' n)] (CU' n) func39
def CG':Hints I:=aO [.l 26 ⟨268419152,[12],[],[(14,kI)],[((.exit 0),[]),(.ret,[(4,kB)])],aK tb (.slot 13) 1⟩]
theorem FT:RK ⟨28,[pD 31,pD 25],[kB],yM⟩ :=
 aI [eR JO] CG' func28
def xg':Hints I:=aO [.l 58 ⟨1152921504606846012,[],[],[(0,kR 3),(3,kI)],[((.exit 0),[(0,kR 3)]),(.ret,[(2,kR 3)])],aK tb (.len (.slot 0)) 1⟩,.k 59690 ⟨18014397972611112,0,.row 3,[(3,kI),(5,kI)],[((.exit 2),[(3,kI)])],aK tb (.len (.slot 4)) 1,0⟩]
theorem wq':RK ⟨130,[.row 3 false],[kR 3],R9⟩ :=
 aI [] xg' func130
theorem pR':RK ⟨129,[pL 3],[kT 3],XT⟩ :=
 aI [] aG func129
theorem ce':RK ⟨71,[pL 3],[kT 3],BN⟩ :=
 aI [eR JO,eO BA',eR wq',eR pR'] aG func71
theorem K7:RK ⟨41,[pD 25],[kD 25],jf⟩ :=
 aI [eR ce'] aG func41
def dP':Row I:=⟨69,[pD 25],[kS],wX⟩
def xZ (c:UInt8)(xs:List Int)(q:Nat×List UInt8):Option (Fl (Nat×List UInt8) (List UInt8)):=match xs[q.1]? with
 | some n=>(Aa c q.2 n).map λb=>.next (q.1+1,b)
 | none=>some (.done q.2)
theorem Wy {c:UInt8}{xs:List Int}:∀ (m i:Nat) {b r:List UInt8},xs.length-i=m->i<=xs.length->AO c (xs.drop i) b=some r->iter (xZ c xs) (m+1) (i,b)=some r
 | 0,i,b,r,hm,hi,h=>by
   have e:i=xs.length:=by omega
   subst e;rw [List.drop_length] at h;cases h;simp [iter,xZ]
 | m+1,i,b,r,hm,hi,h=>by
   have hlt:i<xs.length:=by omega
   rw [LO' hlt] at h;obtain ⟨b',h1,h2⟩:=bind_some h;have:=Wy m (i+1) (by omega) (by omega) h2
   simp only [iter,xZ,Lb' hlt,h1,Mv'];exact this
theorem Db' {P:Program}{w:World}{T:TypeId}{x y:Operand}{s t:ByteArray}(h:s.size+t.size<=1000000) :
 bg P w (do eqGuard .add T x y (.string s) (.string t); binOp .add T (.string s) (.string t)) (.string (s++t)):=by
 simp [bg,eqGuard_at_string,binOp,Op.stringOp];omega
theorem qA':mV KZ' 123:=⟨_,_,func123,rfl,by kernel_rfl⟩
theorem cE':mV KZ' 124:=⟨_,_,func124,rfl,by kernel_rfl⟩
theorem dT':mV KZ' 125:=⟨_,_,func125,rfl,by kernel_rfl⟩
theorem mR':mV KZ' 126:=⟨_,_,func126,rfl,by kernel_rfl⟩
theorem gV' {n:Nat}(h:n<100)(w:World):Calls KZ' 125 [Value.int .i64 (n:Int)].toArray w λe w'=>e=.returned (.string ⟨(nJ n).toArray⟩)/\w'=w:=by have:=Go.Proofs.Any.strconv_Itoa_small lay125 n h w;rw [<- xS' h] at this;exact this
def El (σ:S):Nat->Nat×Nat:=λb=>if b<σ.N then σ.L b else (0,0)
theorem X6 {σ:S}{w:World}(h:Bw σ.N σ.w w):gT σ ⟨w,El σ⟩ :=
 ⟨h.below.size,λb hb=>by simp [El,hb],λb o v ho hc=>(wJ (h.below.block b (um hc)) o).trans hc,h.drawn,λb o hb hf=>(Ck (h.below.block b hb) o).trans hf⟩
theorem jR' (l m:List UInt8):Lib.byteCells (l++m)=Lib.byteCells l++Lib.byteCells m:=by simp [Lib.byteCells]
theorem iD' (l:List UInt8):Lib.strCells ⟨l.toArray⟩=Lib.byteCells l:=by simp [Lib.strCells,Lib.byteCells]
theorem XZ (n:Nat):(nJ n).length<=2:=by unfold nJ;cases LF' n 10<;>simp
theorem fP' {P:Program}{w:World}{T:TypeId}{x y:Operand}{c:UInt8}{l:List UInt8}(h:l.length<=2) :
 bg P w (do eqGuard .add T x y (.string ⟨#[c]⟩) (.string ⟨l.toArray⟩); binOp .add T (.string ⟨#[c]⟩) (.string ⟨l.toArray⟩)) (.string ⟨(c::l).toArray⟩):=by
 have:=Db' (P:=P) (w:=w) (T:=T) (x:=x) (y:=y) (s:=⟨#[c]⟩) (t:=⟨l.toArray⟩) (by simp [ByteArray.size]; omega)
 have e:(⟨#[c]⟩++⟨l.toArray⟩:ByteArray)=⟨(c::l).toArray⟩:=by apply ByteArray.ext;simp
 rw [e] at this;exact this
theorem BT' {c:UInt8}{b r:List UInt8}{n:Int}(h:Aa c b n=some r):r.length<=1000003/\b.length<=r.length:=by unfold Aa at h;obtain ⟨hc,h⟩:=bA h;cases h;simp only [Lc'] at hc;have:=LG' hc.2;have:=XZ n.toNat;simp;omega
theorem Ul {c:UInt8}:∀ {xs:List Int} {b r:List UInt8},AO c xs b=some r->b.length<=1000003->r.length<=1000003
 | [],b,r,h,hb=>by cases h; exact hb
 | n::xs,b,r,h,hb=>by obtain ⟨b',h1,h2⟩:=bind_some h;exact Ul h2 (BT' h1).1
theorem yG' (w:World)(a:Addr)(n:Nat):(w.freeze a n).drawn=w.drawn:=by unfold World.freeze; split<;>rfl
theorem tA' {b B:Nat}{l:List UInt8}{w:World}(h:Lib.IsBuilder 163 5 B b (Lib.byteCells l) w)(hn:l=[]->w.heap[b]?=some (.cells #[.pointer none,.slice none 0 0] 163 (0,0)))(hl:l.length<=1000003) :
 Calls KZ' 126 [eB b].toArray w λe w'=>e=.returned (.string ⟨l.toArray⟩)/\Bw B w w':=by
 have Mv:Bw B w w.drew:=⟨(Below.refl B w).drew,Nat.le_succ _⟩;by_cases h0:l=[]
 ·subst h0;exact (Go.Proofs.Tryz.bstr0 (hn rfl)).mono λe w' ⟨h1,h2⟩=>⟨h1,by subst h2; exact Mv⟩
 ·obtain ⟨p,_,hB,v,hb,hown,hne⟩:=Yu h;rw [Lib.byteCells_length] at hown;rcases hown.2 with ⟨_,hz⟩ | ⟨g,cap,aM,rfl,hbg,hg,hnc,hcm,hcs,htake⟩
  ·exact absurd (List.length_eq_zero_iff.1 hz) h0
  ·refine (Go.Proofs.Tryz.bstr1 (l:=l) hb hg h0 hnc (by simpa using hcs) (by omega) λj x hx=>?_).mono λe w' ⟨h1,h2⟩=>⟨h1,?_⟩
   ·have h3:(Lib.byteCells l)[j]?=some (.int .u8 x.toNat):=by simp [Lib.byteCells,hx]
    rw [<- htake,List.getElem?_take] at h3;split at h3
    ·rw [<- Lz']; exact h3
    ·cases h3
   ·subst h2;exact Mv.trans ⟨Lib.below_freeze (Below.refl B w.drew) (p:=⟨g,0,none⟩) hbg _,Nat.le_of_eq (yG' _ _ _).symm⟩
theorem iJ' {i:Nat}(h:i<9223372036854775807):wr .i64 ((i:Int)+1)=((i+1:Nat):Int):=by show IntKind.i64.wrap ((i:Int)+1)=_;rw [IntKind.wrap_i64];omega
theorem XP:bJ KZ' dP':=by
 refine UZ dO 38 func69 rfl (by kernel_rfl) rfl rfl rfl λX c σ F Q a res hX hrel happ hk=>?_
 have happ:wX a.1=some res:=happ;obtain ⟨g,hg,happ⟩:=bind_some happ;obtain ⟨b1,hb1,happ⟩:=bind_some happ;obtain ⟨b2,hb2,happ⟩:=bind_some happ;have h0:=hrel.frame 0 (.dat 25 a.1) rfl;simp only [RV] at h0;obtain ⟨cs,hF0,hcs⟩:=h0;refine wp_seq (wp_region_lit ?_);refine gh' (B:=σ.N) 0 (Lg' _) (.agg cs.toArray) cs hF0 rfl rfl λτ1 bx hx1 hblk=>?_;refine sj (.string ⟨#[]⟩) rfl rfl ?_;refine wpList_nil (iM (wp_seq (wp_region_lit ?_)));have hcs1:Rp.cells τ1 a.1 cs:=Rp.mono hx1.eP hcs;have hl3:cs.length=3:=Rp.len (self:=rI 25) hcs;have t25:Ga KZ' 25 3:=⟨_,underlying25,rfl,by kernel_rfl⟩
 refine om bx 0 (.agg cs.toArray) rfl rfl (aY' (hl3▸t25) (λj v hv=>by rw [LM',hblk.cell]; exact hv)) ?_
 have hcall:=K7 τ1 (a.1,()) [.agg cs.toArray] [] g ⟨_,_,[],[],rfl,rfl,⟨⟨cs,rfl,hcs1⟩,rfl⟩,rfl,rfl⟩ List.nodup_nil hg;refine Gj (o := ⟨some 9, .call ⟨.value (.func 41), #[.tmp 8], #[25]⟩, 25, "core.go:142", #[⟨0, .data⟩], none⟩) rfl hcall (X8 (xs := [.tmp 8]) rfl τ1.w) λv9 τ2 st2 hpost => ?_;obtain ⟨ws,us,ic,hpost⟩:=hpost;obtain ⟨v,hws,⟨cs',hv,hcs2⟩,-⟩:=hpost.tt;have hlen:=hpost.len;have hret:=hpost.ret;obtain ⟨rfl,rfl⟩:ws=[v]/\us=[]:=by
  rcases ws with _ | ⟨u,ws⟩
  ·cases hlen
  ·rcases ws with _ | ⟨u',ws⟩
   ·simp at hws; exact ⟨by rw [hws.1],hws.2⟩
   ·cases hlen
 have hret:v9=v:=hret;subst hret;subst hv;have Z0:cs'.length=3:=Rp.len (self:=rI 25) hcs2;have hne1:¬ bx∈ows ([]:List Pl):=λh=>by cases h
 obtain ⟨k1,k2⟩:=st2.block bx hblk.lt hne1;have hbl:(τ1.L bx)=(0,0):=hblk.2.2;have hblk2:kW σ.N 0 ⟨τ2.w,λk=>if k=bx then (0,0) else τ2.L k⟩ bx 25 cs:=⟨hblk.1,k1.trans hblk.2.1,by simp⟩
 have hw2:gT τ2 ⟨τ2.w,λk=>if k=bx then (0,0) else τ2.L k⟩:=⟨Lg' _,λk _=>by
  by_cases e:k=bx
  ·subst e; rw [k2,hbl]; exact Mb' _
  ·simp [e],λ_ _ _ _ h=>h,Lg' _,λ_ _ _ h=>h⟩
 have hall:cs'.all (·.oneCell')=true:=Le'.2 λu hu=>Rp.one (self:=rI 25) hcs2 u hu
 refine Pf (σ:=⟨τ2.w,λk=>if k=bx then (0,0) else τ2.L k⟩) hblk2 0 (.agg cs'.toArray) cs' cs' rfl rfl rfl rfl rfl (by rw [Z0]; kernel_rfl) hall (by rw [Z0,hl3]; rfl) (by rw [List.take_zero,LM',Z0,<- hl3,List.drop_length]; simp) λτ3 Eh hblk3=>?_
 have JZ':=Rp.mono (self:=rI 25) (hw2.trans Eh.eP) hcs2;refine wpList_nil (iM (wp_seq (wp_region_lit ?_)));refine jX' (B:=τ3.N) 0 (Lg' _) (.agg #[.pointer none,.slice none 0 0]) [.pointer none,.slice none 0 0] (fV (T:=163) (size:=2) (bytes:=32) (by kernel_rfl)) rfl λτ4 b hx4 hb4=>?_
 have h4:Bw τ3.N τ3.w τ4.w:=⟨hx4.below,hx4.drawn⟩;have hbuild:Lib.IsBuilder 163 5 τ3.N b [] τ4.w:=.inl ⟨hb4.1,.slice none 0 0,hb4.2.1,World.ownsRow_nil _ _ _ _,by simp [Value.ownBlock]⟩
 obtain ⟨cc1,cr1,e1,⟨A1,IE,ec1,hs1⟩,cc2,cr2,e2,⟨A2,IG,ec2,hs2⟩,hc3⟩:=JZ';have hcs':cs'=[.slice A1 g.Pos.length IE,.slice A2 g.Neg.length IG,.bool g.eu]:=by have hc3:cr2=[.bool g.eu]:=hc3;rw [e1,e2,ec1,ec2,hc3]; rfl
 have Z4:∀ w,Bw τ3.N τ3.w w->∀ i,w.cell? ⟨bx,i,none⟩=cs'[i]?:=λw h i=>by rw [wJ (h.below.block bx hblk3.lt)]; exact hblk3.cell i
 have t22:iJ KZ' 23:=⟨_,underlying23,rfl,by kernel_rfl⟩
 have t3:iJ KZ' 3:=⟨_,underlying3,rfl,by kernel_rfl⟩
 have t4:iJ KZ' 4:=⟨_,underlying4,rfl,by kernel_rfl⟩
 refine wpList_nil (iM (XD (λa w=>∃ F',a=fr 38 F'/\F' 1=.pointer (some ⟨bx,0,none⟩)/\F' 3=eB b/\Bw τ3.N τ3.w w/\Lib.IsBuilder 163 5 τ3.N b (Lib.byteCells (bif g.eu then [108] else []:List UInt8)) w/\((bif g.eu then [108] else []:List UInt8)=[]->w.heap[b]?=some (.cells #[.pointer none,.slice none 0 0] 163 (0,0)))) ?_ ?_))
 ·refine wp_seq (wp_region_lit ?_);refine rW bx 0 2 2 rfl rfl (⟨_,_,underlying25,rfl,rfl,by kernel_rfl⟩) rfl ?_
  refine om bx 2 (.bool g.eu) rfl rfl (vo t4 ((Z4 τ4.w h4 2).trans (by rw [hcs']; rfl))) ?_
  refine wpList_nil (iM ?_);rcases hL:g.eu with _ | _
  ·refine GY (c:=false) (by rw [<- hL]; rfl) rfl rfl (wp_skip ?_)
   exact ⟨rfl,_,rfl,rfl,rfl,h4,hbuild,λ_=>hb4.2.1⟩
  ·refine Ki (c:=true) (by rw [<- hL]; rfl) rfl rfl (wp_region_lit ?_)
   refine AP [eB b,.int .u8 108] rfl rfl qA' (bwb hbuild (by decide) h4.below.size) ?_
   rintro e w5 ⟨⟨v,rfl⟩,hat,Kd'⟩;exact ⟨_,rfl,wpList_nil ⟨rfl,_,rfl,rfl,rfl,h4.trans Kd',.inr hat,λh=>by simp at h⟩⟩
 rintro a0 w0 h0;refine XD (λa w=>∃ F',a=fr 38 F'/\F' 1=.pointer (some ⟨bx,0,none⟩)/\F' 3=eB b/\Bw τ3.N τ3.w w/\Lib.IsBuilder 163 5 τ3.N b (Lib.byteCells b1) w/\(b1=[]->w.heap[b]?=some (.cells #[.pointer none,.slice none 0 0] 163 (0,0)))) ?_ ?_
 ·revert a0 w0 h0;rintro a1 w1 ⟨F1,rfl,f1,f3,Bp,Z5,hn1⟩;refine wp_seq (wp_region_lit ?_);refine rW bx 0 0 0 f1 rfl (⟨_,_,underlying25,rfl,rfl,by kernel_rfl⟩) rfl ?_
  refine om bx 0 (.slice A1 g.Pos.length IE) rfl rfl (vo t22 ((Z4 w1 Bp 0).trans (by rw [hcs']; rfl))) ?_
  refine yA A1 g.Pos.length IE rfl rfl underlying23 ?_;refine jZ (.int .i64 0) rfl rfl ?_;refine wpList_nil (iM (wp_block ?_));refine wp_mono (J4 (step:=xZ 43 g.Pos) (λq a w=>∃ F',a=fr 38 F'/\F' 1=.pointer (some ⟨bx,0,none⟩)/\F' 3=eB b/\F' 14=.slice A1 g.Pos.length IE/\F' 15=.int .i64 (g.Pos.length:Int)/\F' 16=.int .i64 (q.1:Int)/\Bw τ3.N τ3.w w/\Lib.IsBuilder 163 5 τ3.N b (Lib.byteCells q.2) w/\(q.2=[]->w.heap[b]?=some (.cells #[.pointer none,.slice none 0 0] 163 (0,0)))/\q.1<=g.Pos.length) (λr e a w=>e=.exit 0/\∃ F',a=fr 38 F'/\F' 1=.pointer (some ⟨bx,0,none⟩)/\F' 3=eB b/\Bw τ3.N τ3.w w/\Lib.IsBuilder 163 5 τ3.N b (Lib.byteCells r) w/\(r=[]->w.heap[b]?=some (.cells #[.pointer none,.slice none 0 0] 163 (0,0)))) (by rintro _ _ _ ⟨h,_⟩; cases h) ?_ _ (0,(bif g.eu then [108] else [])) b1 _ _ (Wy (g.Pos.length-0) 0 rfl (Mb' _) hb1) ⟨_,rfl,f1,f3,rfl,rfl,rfl,Bp,Z5,λh=>hn1 h,Mb' _⟩) ?_
  ·rintro ⟨i,bs⟩ fl a2 w2 hst ⟨F2,rfl,g1,g3,g14,g15,g16,hbw2,zF,hn2,hi⟩;refine wp_seq (wp_region_lit ?_);refine vv (.int .i64 (i:Int)) (.int .i64 (g.Pos.length:Int)) (.bool (decide ((i:Int)<(g.Pos.length:Int)))) g16 g15 rfl rfl WO ?_;refine wpList_nil (iM (wp_seq ?_));rcases hx:(g.Pos)[i]? with _ | n
   ·simp only [xZ,hx] at hst;cases hst;have hge:(g.Pos).length<=i:=MS'.1 hx;refine GY rfl (decide_eq_false (by omega)) rfl (wp_exit ?_)
    exact df' ⟨rfl,_,rfl,g1,g3,hbw2,zF,hn2⟩
   ·simp only [xZ,hx,Mx'] at hst;obtain ⟨bs',hit,rfl⟩:=hst;have hlt:i<(g.Pos).length:=(La'.1 hx).1;unfold Aa at hit;obtain ⟨hcond,hit⟩:=bA hit;cases hit;simp only [Lc',decide_eq_true_eq] at hcond;obtain ⟨⟨n0,n1⟩,nl⟩:=hcond;have nl:bs.length<=1000000:=LG' nl;refine Ki rfl (decide_eq_true (by omega)) rfl (wp_skip (iM (wp_seq (wp_block (wp_seq (wp_region_lit ?_))))))
    refine XV (σ:=⟨w2,El τ3⟩) (hs1.mono (X6 hbw2)) (show ak g.Pos (i:Int)=some n by simp [ak,hx]) g14 g16 rfl rfl underlying23 (by kernel_rfl) λbb o Z6 hc hse=>?_
    have hc:Z6=[.int .i64 n]:=hc;subst hc;refine om bb o (.int .i64 n) rfl rfl (vo t3 (hse.2 0 _ rfl)) ?_;refine sj (.int .i64 n) rfl rfl ?_;refine wpList_nil (iM (wp_region_lit ?_));refine jZ (.int .i64 n) rfl rfl ?_;have hn:((n.toNat:Nat):Int)=n:=by omega
    refine AP [.int .i64 n] rfl rfl dT' (by have:=gV' (n:=n.toNat) (by omega) w2; rw [hn] at this; exact this) ?_
    rintro e w3 ⟨rfl,rfl⟩;refine ⟨_,rfl,?_⟩;have hdl:(nJ n.toNat).length<=2:=XZ _;refine vv (.string ⟨#[43]⟩) (.string ⟨(nJ n.toNat).toArray⟩) (.string ⟨(43::nJ n.toNat).toArray⟩) rfl rfl rfl rfl (fP' hdl) ?_;have hsz:(⟨(43::nJ n.toNat).toArray⟩:ByteArray).size<=3:=by simp [ByteArray.size]; omega
    refine AP [eB b,.string ⟨(43::nJ n.toNat).toArray⟩] (by rw [LJ',LJ',List.map_nil]; exact congrArg (·::_) g3) rfl cE' (bws zF (by show (Lib.byteCells bs).length+_<=_; rw [Lib.byteCells_length]; omega) hbw2.below.size) ?_
    rintro e w4 ⟨⟨v,rfl⟩,hat,Z7⟩;refine ⟨_,rfl,?_⟩;refine wpList_nil (iZ' (iM (wp_region_lit ?_)));refine vv (.int .i64 (i:Int)) (.int .i64 1) (.int .i64 (wr .i64 ((i:Int)+1))) g16 rfl rfl rfl XJ ?_;refine jZ (.int .i64 (wr .i64 ((i:Int)+1))) rfl rfl ?_;have hwr:wr .i64 ((i:Int)+1)=((i+1:Nat):Int):=iJ' (by have l1:(g.Pos).length<=IE:=hs1.1; have l2:IE<=maxLen:=hs1.2.1; unfold maxLen at l2; omega)
    refine wpList_nil ⟨rfl,_,rfl,g1,g3,g14,g15,congrArg _ hwr,hbw2.trans Z7,.inr ?_,λh=>by simp at h,hlt⟩
    rw [iD',<- jR'] at hat;exact hat
  ·rintro r e a2 ⟨rfl,F2,rfl,g1,g3,hbw2,zF,hn2⟩;exact eC' ⟨rfl,F2,rfl,g1,g3,hbw2,zF,hn2⟩
 rintro a5 w5 h5;refine XD (λa w=>∃ F',a=fr 38 F'/\F' 1=.pointer (some ⟨bx,0,none⟩)/\F' 3=eB b/\Bw τ3.N τ3.w w/\Lib.IsBuilder 163 5 τ3.N b (Lib.byteCells b2) w/\(b2=[]->w.heap[b]?=some (.cells #[.pointer none,.slice none 0 0] 163 (0,0)))) ?_ ?_
 ·revert a5 w5 h5;rintro a1 w1 ⟨F1,rfl,f1,f3,Bp,Z5,hn1⟩;refine wp_seq (wp_region_lit ?_);refine rW bx 0 1 1 f1 rfl (⟨_,_,underlying25,rfl,rfl,by kernel_rfl⟩) rfl ?_
  refine om bx 1 (.slice A2 g.Neg.length IG) rfl rfl (vo t22 ((Z4 w1 Bp 1).trans (by rw [hcs']; rfl))) ?_
  refine yA A2 g.Neg.length IG rfl rfl underlying23 ?_;refine jZ (.int .i64 0) rfl rfl ?_;refine wpList_nil (iM (wp_block ?_));refine wp_mono (J4 (step:=xZ 45 g.Neg) (λq a w=>∃ F',a=fr 38 F'/\F' 1=.pointer (some ⟨bx,0,none⟩)/\F' 3=eB b/\F' 26=.slice A2 g.Neg.length IG/\F' 27=.int .i64 (g.Neg.length:Int)/\F' 28=.int .i64 (q.1:Int)/\Bw τ3.N τ3.w w/\Lib.IsBuilder 163 5 τ3.N b (Lib.byteCells q.2) w/\(q.2=[]->w.heap[b]?=some (.cells #[.pointer none,.slice none 0 0] 163 (0,0)))/\q.1<=g.Neg.length) (λr e a w=>e=.exit 2/\∃ F',a=fr 38 F'/\F' 1=.pointer (some ⟨bx,0,none⟩)/\F' 3=eB b/\Bw τ3.N τ3.w w/\Lib.IsBuilder 163 5 τ3.N b (Lib.byteCells r) w/\(r=[]->w.heap[b]?=some (.cells #[.pointer none,.slice none 0 0] 163 (0,0)))) (by rintro _ _ _ ⟨h,_⟩; cases h) ?_ _ (0,b1) b2 _ _ (Wy (g.Neg.length-0) 0 rfl (Mb' _) hb2) ⟨_,rfl,f1,f3,rfl,rfl,rfl,Bp,Z5,λh=>hn1 h,Mb' _⟩) ?_
  ·rintro ⟨i,bs⟩ fl a2 w2 hst ⟨F2,rfl,g1,g3,g14,g15,g16,hbw2,zF,hn2,hi⟩;refine wp_seq (wp_region_lit ?_);refine vv (.int .i64 (i:Int)) (.int .i64 (g.Neg.length:Int)) (.bool (decide ((i:Int)<(g.Neg.length:Int)))) g16 g15 rfl rfl WO ?_;refine wpList_nil (iM (wp_seq ?_));rcases hx:(g.Neg)[i]? with _ | n
   ·simp only [xZ,hx] at hst;cases hst;have hge:(g.Neg).length<=i:=MS'.1 hx;refine GY rfl (decide_eq_false (by omega)) rfl (wp_exit ?_)
    exact df' ⟨rfl,_,rfl,g1,g3,hbw2,zF,hn2⟩
   ·simp only [xZ,hx,Mx'] at hst;obtain ⟨bs',hit,rfl⟩:=hst;have hlt:i<(g.Neg).length:=(La'.1 hx).1;unfold Aa at hit;obtain ⟨hcond,hit⟩:=bA hit;cases hit;simp only [Lc',decide_eq_true_eq] at hcond;obtain ⟨⟨n0,n1⟩,nl⟩:=hcond;have nl:bs.length<=1000000:=LG' nl;refine Ki rfl (decide_eq_true (by omega)) rfl (wp_skip (iM (wp_seq (wp_block (wp_seq (wp_region_lit ?_))))))
    refine XV (σ:=⟨w2,El τ3⟩) (hs2.mono (X6 hbw2)) (show ak g.Neg (i:Int)=some n by simp [ak,hx]) g14 g16 rfl rfl underlying23 (by kernel_rfl) λbb o Z6 hc hse=>?_
    have hc:Z6=[.int .i64 n]:=hc;subst hc;refine om bb o (.int .i64 n) rfl rfl (vo t3 (hse.2 0 _ rfl)) ?_;refine sj (.int .i64 n) rfl rfl ?_;refine wpList_nil (iM (wp_region_lit ?_));refine jZ (.int .i64 n) rfl rfl ?_;have hn:((n.toNat:Nat):Int)=n:=by omega
    refine AP [.int .i64 n] rfl rfl dT' (by have:=gV' (n:=n.toNat) (by omega) w2; rw [hn] at this; exact this) ?_
    rintro e w3 ⟨rfl,rfl⟩;refine ⟨_,rfl,?_⟩;have hdl:(nJ n.toNat).length<=2:=XZ _;refine vv (.string ⟨#[45]⟩) (.string ⟨(nJ n.toNat).toArray⟩) (.string ⟨(45::nJ n.toNat).toArray⟩) rfl rfl rfl rfl (fP' hdl) ?_;have hsz:(⟨(45::nJ n.toNat).toArray⟩:ByteArray).size<=3:=by simp [ByteArray.size]; omega
    refine AP [eB b,.string ⟨(45::nJ n.toNat).toArray⟩] (by rw [LJ',LJ',List.map_nil]; exact congrArg (·::_) g3) rfl cE' (bws zF (by show (Lib.byteCells bs).length+_<=_; rw [Lib.byteCells_length]; omega) hbw2.below.size) ?_
    rintro e w4 ⟨⟨v,rfl⟩,hat,Z7⟩;refine ⟨_,rfl,?_⟩;refine wpList_nil (iZ' (iM (wp_region_lit ?_)));refine vv (.int .i64 (i:Int)) (.int .i64 1) (.int .i64 (wr .i64 ((i:Int)+1))) g16 rfl rfl rfl XJ ?_;refine jZ (.int .i64 (wr .i64 ((i:Int)+1))) rfl rfl ?_;have hwr:wr .i64 ((i:Int)+1)=((i+1:Nat):Int):=iJ' (by have l1:(g.Neg).length<=IG:=hs2.1; have l2:IG<=maxLen:=hs2.2.1; unfold maxLen at l2; omega)
    refine wpList_nil ⟨rfl,_,rfl,g1,g3,g14,g15,congrArg _ hwr,hbw2.trans Z7,.inr ?_,λh=>by simp at h,hlt⟩
    rw [iD',<- jR'] at hat;exact hat
  ·rintro r e a2 ⟨rfl,F2,rfl,g1,g3,hbw2,zF,hn2⟩;exact eC' ⟨rfl,F2,rfl,g1,g3,hbw2,zF,hn2⟩
 rintro a6 w6 ⟨F6,rfl,f1,f3,Ke',Kg',hn6⟩;refine wp_seq (wp_region_lit ?_);refine AP [eB b] (congrArg (·::_) f3) rfl mR' (tA' Kg' hn6 (Ul hb2 (Ul hb1 (by cases g.eu<;>decide)))) ?_
 rintro e w7 ⟨rfl,Ki'⟩;refine ⟨_,rfl,?_⟩;refine sj (.string ⟨b2.toArray⟩) rfl rfl ?_;refine wpList_nil (iM (wp_ret ?_));have hb7:Bw τ3.N τ3.w w7:=Ke'.trans Ki';have hr:(⟨b2.toArray⟩:ByteArray)=res:=LI'.inj happ;have hA:Bw σ.N σ.w τ1.w:=⟨hx1.below,hx1.drawn⟩;have hB:Bw σ.N τ1.w τ2.w:=⟨⟨st2.os,st2.tape,st2.output,st2.eP.size,λk hk=>(st2.block k (MB' hk hx1.below.size) (λh=>by cases h)).1⟩,st2.eP.drawn⟩
 have hC:Bw σ.N τ2.w τ3.w:=⟨⟨Eh.os,Eh.tape,Eh.output,Eh.eP.size,λk hk=>(Eh.block k (MB' hk (hA.trans hB).below.size) (.inl hk)).1⟩,Eh.eP.drawn⟩;have hD:Bw σ.N τ3.w w7:=⟨hb7.below.mono ((hA.trans hB).trans hC).below.size,hb7.drawn⟩;have hE:=((hA.trans hB).trans hC).trans hD;subst hr;refine hk .ret ⟨38,λi=>bif Lm' i 2 then some (.str ⟨b2.toArray⟩) else none,λ_=>none,0⟩ c ⟨w7,El σ⟩ _ ?_ (Cx.le_refl c) ⟨rfl,(λi p hp=>?_),(λl o ho=>by cases ho),(λ_ _ _ _ _ ⟨_,h⟩=>by cases h),(λ_ _ _ ⟨_,h⟩=>by cases h),(λl _=>hrel.jh l rfl),⟨Lr' hrel.base.1 hE.below.size,hrel.base.2⟩,mo.DR λ_ _ _ _ _ _ h=>by cases h⟩
  ⟨X6 hE,hE.below.os,hE.below.tape,hE.below.output,λk hk _=>⟨hE.below.block k hk,by simp [El,hk]⟩⟩
 ·rfl
 ·have hp:(bif Lm' i 2 then some (PV.str ⟨b2.toArray⟩) else none)=some p:=hp
  obtain ⟨hi,hp⟩:=bA hp;cases hp;have:=Li' hi;subst this;simp only [RV];rfl
theorem L8:bJ KZ' dP':=XP
def Al':Hints I:=aO [.l 26 ⟨524080,[],[],[(8,kI)],[((.exit 0),[]),(.ret,[(4,kI)])],aK tb (.slot 7) 1⟩]
theorem CO':RK ⟨42,[pL 25,.fn [.dat 25] [kB]],[kI],Yv⟩ :=
 aI [] Al' func42
theorem Vo:RK ⟨19,[pL 25,.fn [.dat 25] [kB]],[kB],EP⟩ :=
 aI [eR CO'] aG func19
def BB':Hints I:=aO [.l 26 ⟨524080,[],[],[(8,kI)],[((.exit 0),[]),(.ret,[(4,kI)])],aK tb (.slot 7) 1⟩]
theorem qz':RK ⟨72,[pL 3,.fn [.int .i64] [kB]],[kI],Xf⟩ :=
 aI [] BB' func72
theorem QW:RK ⟨43,[pL 3,.fn [.int .i64] [kB]],[kB],yU⟩ :=
 aI [eR qz'] aG func43
def Dg':Hints I:=aO [.l 26 ⟨524080,[],[],[(8,kI)],[((.exit 0),[]),(.ret,[(4,kI)])],aK tb (.slot 7) 1⟩]
theorem mZ':RK ⟨73,[pL 3,pI],[kI],Wi⟩ :=
 aI [] Dg' func73
theorem eJ':RK ⟨45,[pL 3,pI],[kB],IJ⟩ :=
 aI [eR mZ'] aG func45
theorem AB':RK ⟨44,[pI,.var 23 (kL 3) false],[kB],WM⟩ :=
 aI [eR eJ'] aG func44
theorem xz':RK ⟨21,[pL 3,pL 3],[kB],KM⟩ :=
 aI [eR QW,eR AB'] aG func21
theorem mM':RK ⟨20,[pD 25,.var 25 (kD 25) false],[kB],UY⟩ :=
 aI [eR xz'] aG func20
theorem UX:RK ⟨7,[pL 25,pD 25],[kB],FH⟩ :=
 aI [eR Vo,eR mM'] aG func7
theorem ca':RK ⟨92,[pD 128],[.bW [.row 3 false,.row 3 false,.row 3 false,.row 3 false]],LF⟩ :=
 aI [eR JO] aG func92
def vg':Hints I:=aO [.j 29901 ⟨4293918720,[],[(10,.bW [.row 3 false,.row 3 false,.row 3 false,.row 3 false])],[(.normal,[])]⟩,.l 58 ⟨137438946944,[],[],[(7,kR 128),(13,kI)],[((.exit 0),[(7,kR 128)])],aK tb (.slot 12) 1⟩]
theorem Da':RK ⟨136,[pD 128,pL 3,pB],[kR 128],BF⟩ :=
 aI [eR ca'] vg' func136
def DO':Hints I:=aO [.j 509 ⟨170141183455517471574545782616287608848,[],[(2,.bW [.d (.sl 3),.d (.sl 3),.d (.sl 3),.d (.sl 3)])],[(.normal,[]),(.ret,[(4,kR 128)])]⟩,.j 1757 ⟨590295810341525782544,[],[(2,.bW [.d (.sl 3),.d (.sl 3),.d (.sl 3),.d (.sl 3)])],[(.normal,[]),(.ret,[(4,kR 128)])]⟩]
theorem pu':RK ⟨93,[.val (.bW [.row 3 false,.row 3 false,.row 3 false,.row 3 false]),pD 31],[kR 128],JR⟩ :=
 aI [eR Da'] DO' func93
def pJ' (n:Nat):Hints I:=aO [.l 124 ⟨295147905179351779232,[],[],[(5,kR 128),(6,.k (.map 80 (.bool))),(7,kR 25)],[((.exit 0),[(6,.k (.map 80 (.bool))),(7,kR 25)])],λ_=>some n⟩]
theorem Vh (n:Nat):RK ⟨53,[pD 31,pD 25],[kR 25],Ht n⟩ :=
 aI [eR ce',eR ca',eR pu',eR K7,eR L8] (pJ' n) func53
def sE':Hints I:=aO [.l 58 ⟨1152921504606846012,[],[],[(0,kR 9),(3,kI)],[((.exit 0),[(0,kR 9)]),(.ret,[(2,kR 9)])],aK tb (.len (.slot 0)) 1⟩,.k 59690 ⟨18014397972611112,0,.row 9,[(3,kI),(5,kI)],[((.exit 2),[(3,kI)])],aK tb (.len (.slot 4)) 1,0⟩]
theorem bh':RK ⟨143,[.row 9 false],[kR 9],EG⟩ :=
 aI [] sE' func143
theorem eA':RK ⟨142,[pL 9],[kT 9],Jm⟩ :=
 aI [] aG func142
def xx':Hints I:=aO [.l 58 ⟨2147482784,[],[],[(5,kR 9),(10,kI)],[((.exit 0),[(5,kR 9)])],aK tb (.slot 9) 1⟩]
theorem UD:RK ⟨96,[pD 31,pL 3],[kT 9],yQ⟩ :=
 aI [eO eR',eR bh',eR eA'] xx' func96
theorem xl':RK ⟨137,[pI,.var 23 (kL 3) false],[kB],Wn⟩ :=
 aI [eR eJ'] aG func137
theorem O3:RK ⟨94,[pL 3,pL 3],[kB],Ce⟩ :=
 aI [eR QW,eR xl'] aG func94
def vE':Hints I:=aO [.l 26 ⟨524080,[],[],[(8,kI)],[((.exit 0),[]),(.ret,[(4,kI)])],aK tb (.slot 7) 1⟩]
theorem nh':RK ⟨187,[pL 9,.fn [.str] [kB]],[kI],WY⟩ :=
 aI [] vE' func187
theorem yI':RK ⟨138,[pL 9,.fn [.str] [kB]],[kB],Sw⟩ :=
 aI [eR nh'] aG func138
def vi':Hints I:=aO [.l 26 ⟨524080,[],[],[(8,kI)],[((.exit 0),[]),(.ret,[(4,kI)])],aK tb (.slot 7) 1⟩]
theorem vN':RK ⟨188,[pL 9,pS],[kI],Wq⟩ :=
 aI [] vi' func188
theorem vr':RK ⟨140,[pL 9,pS],[kB],Ow⟩ :=
 aI [eR vN'] aG func140
theorem qY':RK ⟨139,[pS,.var 35 (kL 9) false],[kB],XC⟩ :=
 aI [eR vr'] aG func139
theorem Xn:RK ⟨95,[pL 9,pL 9],[kB],Gl⟩ :=
 aI [eR yI',eR qY'] aG func95
def qG':Hints I:=aO [.l 58 ⟨4192262,[],[],[(1,kR 137),(2,kI)],[((.exit 0),[(1,kR 137)])],aK tb (.cst 4) 2⟩]
theorem UK:RK ⟨98,[],[kR 137],Ld⟩ :=
 aI [] qG' func98
def xj':Hints I:=aO [.j 429 ⟨20480,[],[],[(.normal,[(12,kB)])]⟩,.j 1725 ⟨1310720,[],[],[(.normal,[(18,kB)])]⟩]
theorem jL':RK ⟨146,[pD 137,pD 55],[kB],Kc⟩ :=
 aI [] xj' func146
theorem uN':RK ⟨145,[pI,.var 31 (kD 31) false,.var 137 (kD 137) false],[kB],Ju⟩ :=
 aI [eR jL'] aG func145
theorem Vu:RK ⟨100,[pD 137,pD 31,pD 25],[kB],GR⟩ :=
 aI [eR QW,eR uN'] aG func100
theorem cm':RK ⟨190,[],[kR 189],Rt⟩ :=
 aI [] aG func190
theorem Ee':RK ⟨287,[pI],[kB],R5⟩ :=
 aI [] aG func287
theorem xu':RK ⟨269,[pI,pI],[kI],OJ⟩ :=
 aI [eR Ee'] aG func269
theorem Cq':RK ⟨268,[pD 189,pD 189],[kI],J7⟩ :=
 aI [eR xu'] aG func268
def oN':Hints I:=aO [.l 58 ⟨67104808,[],[],[(3,kR 189),(12,kI)],[((.exit 0),[(3,kR 189)])],aK tb (.slot 11) 1⟩,.l 506 ⟨37778931862956087968576,[],[],[(6,kR 189),(28,kR 189),(30,kI)],[((.exit 2),[(6,kR 189),(28,kR 189)])],aK tb (.slot 29) 1⟩]
theorem ag':RK ⟨239,[pL 189],[kR 189],zX⟩ :=
 aI [eO uG',eR Cq'] oN' func239
def oD':Hints I:=aO [.l 58 ⟨1099511620256,[11],[],[(5,kR 189),(13,kI)],[((.exit 0),[(5,kR 189)])],aK tb (.slot 12) 1⟩,.l 14950 ⟨549754765856,[18],[],[(5,kR 189),(20,kI)],[((.exit 2),[(5,kR 189)])],aK tb (.slot 19) 1⟩]
theorem fU':RK ⟨191,[pL 189,pL 189],[kR 189],CV⟩ :=
 aI [eR ag'] oD' func191
def Dl':Hints I:=aO [.j 31333 ⟨66846728,[],[],[(.normal,[(3,kR 189)])]⟩,.l 122 ⟨17179868252,[8],[],[(3,kR 189),(4,kI),(10,kI)],[((.exit 0),[(3,kR 189),(4,kI)]),(.ret,[(2,kR 189)])],aK tb (.slot 9) 1⟩]
theorem bS':RK ⟨192,[pL 189],[kR 189],Ma⟩ :=
 aI [eR ag'] Dl' func192
def nY':Hints I:=aO [.l 58 ⟨137438888352,[],[],[(5,kR 189),(16,kI)],[((.exit 0),[(5,kR 189)])],aK tb (.slot 15) 1⟩,.l 122 ⟨4611684918915763232,[],[],[(5,kR 189),(40,kI)],[((.exit 2),[(5,kR 189)])],aK tb (.slot 39) 1⟩]
theorem BM':RK ⟨298,[pD 31,pD 25],[kR 189],FK⟩ :=
 aI [eR cm',eR fU',eR bS'] nY' func298
theorem Xm:RK ⟨335,[pD 269],[kD 360],Lm⟩ :=
 aI [eR Kq,eO eR',eR bh',eR eA'] aG func335
theorem bG':RK ⟨318,[pL 9],[kD 269],QK⟩ :=
 aI [eR Xm] aG func318
theorem fJ':RK ⟨320,[pL 9],[kD 269],Jr⟩ :=
 aI [eR Xm] aG func320
theorem tL':RK ⟨336,[pD 360,pD 360],[kR 9],dv'⟩ :=
 aI [eR Kq] aG func336
theorem to':RK ⟨266,[pS],[kB],VX⟩ :=
 aI [] aG func266
theorem pF':RK ⟨236,[pS,pS],[kB],kz'⟩ :=
 aI [eR to'] aG func236
theorem uV':RK ⟨358,[pS],[kB],Ui⟩ :=
 aI [] aG func358
def zP' (n:Nat):Hints I:=aO [.l 60 ⟨2147476352,[],[],[(7,kI),(8,kI)],[((.exit 0),[(7,kI)])],λ_=>some n⟩]
theorem rV' (n:Nat):RK ⟨350,[pL 9,pS],[kI,kB],eT' n⟩ :=
 aI [eR pF',eR uV'] (zP' n) func350
theorem kg' (n:Nat):RK ⟨338,[pD 360,pS],[kB],WZ n⟩ :=
 aI [eR (rV' n)] aG func338
def yB' (_:Nat):Hints I:=aO [.l 58 ⟨33550496,[],[],[(5,kR 9),(12,kI)],[((.exit 0),[(5,kR 9)])],aK tb (.slot 11) 1⟩]
theorem Ci' (n:Nat):RK ⟨337,[pD 360,pD 360],[kR 9],Yy n⟩ :=
 aI [eR (kg' n)] (yB' n) func337
def AJ' (_:Nat):Hints I:=aO [.l 250 ⟨576320014815068800,[],[],[(7,kR 9),(47,kI)],[((.exit 1),[(7,kR 9)])],aK tb (.slot 46) 1⟩]
theorem tQ' (n:Nat):RK ⟨319,[pD 269,pD 269],[kD 269],XF n⟩ :=
 aI [eR Xm,eR tL',eR bG',eR (Ci' n),eR fJ',eR (kg' n)] (AJ' n) func319
def vf' (_:Nat):Hints I:=aO [.l 58 ⟨274877646336,[],[(7,kD 269)],[(18,kI)],[((.exit 0),[])],aK tb (.slot 17) 1⟩,.l 122 ⟨2305840810190450688,[],[(7,kD 269)],[(41,kI)],[((.exit 2),[])],aK tb (.slot 40) 1⟩]
theorem rq' (n:Nat):RK ⟨299,[pD 31,pD 25,pI],[kD 269],YK n⟩ :=
 aI [eR bG',eR fJ',eR (tQ' n)] (vf' n) func299
theorem Aw':RK ⟨321,[pI,.var 31 (kD 31) false,.var 3 (kI) false],[kB],cV'⟩ :=
 aI [] aG func321
theorem AY':RK ⟨300,[pD 31,pL 3,pI],[kB],Fg⟩ :=
 aI [eR QW,eR Aw'] aG func300
def tK':Hints I:=aO [.l 58 ⟨1099511613952,[],[],[(9,kR 3),(14,kI)],[((.exit 0),[(9,kR 3)])],aK tb (.slot 13) 1⟩]
theorem Uu:RK ⟨151,[pD 137,pD 31,pL 3,pI],[kL 3],kH⟩ :=
 aI [eR jL'] tK' func151
def yw' (_:Nat):Hints I:=aO [.s 11 [47,51],.s 14 [71,75],.s 28 [124],.j 125 ⟨162259276829213363391577993512576,[],[(6,.bW [.d (.int .i64),.d (.int .i64),.d (.sl 189),.d (.bool),.d (.sl 9),.d (.sl 3),.d (.sl 3),.d (.sl 9),.d (.sl 9)]),(8,.bW [.d (.int .i64),.d (.int .i64),.d (.sl 189),.d (.bool),.d (.sl 9),.d (.sl 3),.d (.sl 3),.d (.sl 9),.d (.sl 9)])],[(.normal,[(9,kI),(10,kI)]),(.ret,[(7,kB)])]⟩]
theorem Ar' (n:Nat):RK ⟨276,[pD 31,pD 25,pD 137],[kD 271,kB],bt' n⟩ :=
 aI [eR Vu,eR BM',eR (rq' n),eR AY',eR Uu] (yw' n) func276
def Cc' (_:Nat):Hints I:=aO [.l 122 ⟨37778931862957027507104,[25],[],[(5,kR 271),(27,kI)],[((.exit 0),[(5,kR 271)])],aK tb (.slot 26) 1⟩,.l 125342 ⟨18889463679678767183904,[49],[],[(5,kR 271),(51,kI)],[((.exit 2),[(5,kR 271)])],aK tb (.slot 50) 1⟩]
theorem nL' (n:Nat):RK ⟨249,[pD 31,pD 25],[kR 271],ft' n⟩ :=
 aI [eR (KU n),eR FT,eR (Vh n),eR UD,eR O3,eR Xn,eR UK,eR (Ar' n),eR Kq] (Cc' n) func249
def DN':Hints I:=aO [.l 58 ⟨576460752303396608,[],[],[(10,kR 23),(15,kI)],[((.exit 0),[(10,kR 23)]),(.ret,[(8,kR 23),(9,kB)])],aK tb (.slot 14) 1⟩]
def wM':Row I:=⟨325,[pD 31,pL 3,pI,pI],[kR 23,kB],XR⟩
theorem vH':RK (wM') :=
 aI [] DN' func325
def wX':Hints I:=aO [.l 26 ⟨524080,[],[],[(8,kI)],[((.exit 0),[]),(.ret,[(4,kI)])],aK tb (.slot 7) 1⟩]
theorem xJ':RK ⟨359,[pL 23,.fn [.sl 3] [kB]],[kI],ey'⟩ :=
 aI [] wX' func359
theorem wi':RK ⟨352,[pL 23,.fn [.sl 3] [kB]],[kB],kw'⟩ :=
 aI [eR xJ'] aG func352
def BL':Row I:=⟨353,[pL 3,.var 3 (kI) false],[kB],fb'⟩
theorem qd':RK (BL') :=
 aI [] aG func353
def Bh':Row I:=⟨341,[pI,pL 23],[kB],U7⟩
theorem DD':RK (Bh') :=
 aI [eR wi',eR qd'] aG func341
def Dh':Hints I:=aO [.p 18 [10,12],.p 19 [12],.p 20 [10,12],.l 58 ⟨4835703278458516698261504,[],[(10,.bW [.d (.sl 25)]),(12,.bW [.row 25 true])],[(20,kI)],[((.exit 0),[]),(.ret,[(11,kB)])],aK tb (.slot 19) 1⟩,.l 59802 ⟨549722324992,[],[(14,.bW [.row 3 false,.row 3 false,.d (.bool)])],[(25,kI)],[((.exit 2),[])],aK tb (.slot 24) 1⟩,.l 119610 ⟨295147902980329963520,[],[(14,.bW [.row 3 false,.row 3 false,.d (.bool)])],[(41,kI)],[((.exit 4),[])],aK tb (.slot 40) 1⟩]
def rY':Row I:=⟨342,[pI,pL 23,pL 23,pL 23,.ji 3],[kD 329,kB],cx'⟩
theorem sn':RK (rY') :=
 aI [eR O3,eR K7] Dh' func342
def nt':Hints I:=aO [.k 26 ⟨2147483440,0,.row 3,[(8,kI)],[((.exit 0),[]),(.ret,[(4,kB)])],aK tb (.slot 7) 1,0⟩]
def yS':Rio I:=⟨343,3,[pL 23],[kB],bH'⟩
theorem tq':RO (yS') :=
 okO [] nt' func343
def xc' (n:Nat):Hints I:=aO [.p 11 [1000009],.p 17 [9],.j 8131 ⟨2321137573660088015435890688,[],[],[(.normal,[(15,kR 329)])]⟩,.l 254 ⟨79228011398536885764897341696,[],[],[(14,kR 3),(15,kR 329)],[(.ret,[(8,kR 329),(14,kR 3)])],λ_=>some n⟩,.n 122 ⟨⟨18889465929279557614848,[],[],[(41,kI)],[((.exit 0),[]),(.ret,[(8,kR 329)])],aK tb (.slot 40) 1⟩,9,23⟩,.n 62666 ⟨⟨147573671114699714560,[],[],[(48,kI)],[((.exit 2),[])],aK tb (.slot 47) 1⟩,9,23⟩]
def qw' (n:Nat):Row I:=⟨326,[pI,pL 23,pL 23,.fn [.int .i64] [kB]],[kR 329],iQ' n⟩
theorem Ah' (n:Nat):RK (qw' n) :=
 aI [eR DD',eR sn',eO tq'] (xc' n) func326
def yi':Row I:=⟨327,[pI,.var 31 (kD 31) false],[kB],gI'⟩
theorem yT':RK (yi') :=
 aI [] aG func327
def yz' (_:Nat):Hints I:=aO [.j 29 ⟨3932400,[],[],[(.normal,[(6,kI),(7,kI)]),(.ret,[(4,kR 329),(5,kI)])]⟩,.j 2045 ⟨1180447505529335455744,[12],[],[(.normal,[])]⟩,.l 16362 ⟨1180015159965107888128,[],[],[(59,kI)],[((.exit 1),[])],aK tb (.slot 58) 1⟩]
def wH' (n:Nat):Row I:=⟨303,[pD 31,pD 271],[kL 329,kI],dW' n⟩
theorem zu' (n:Nat):RK (wH' n) :=
 aI [eR (KU n),eR vH',eR (Ah' n),eR yT'] (yz' n) func303
def wy' (_:Nat):Hints I:=aO [.j 429 ⟨2684354560,[],[],[(.normal,[(29,kB)])]⟩,.j 1725 ⟨1407374883553280,[],[],[(.normal,[(48,kB)])]⟩,.j 3445 ⟨128,[],[],[(.normal,[(7,kI)])]⟩,.l 55258 ⟨1180015159965107900416,[],[],[(12,kR 236),(59,kI)],[((.exit 1),[(12,kR 236)])],aK tb (.slot 58) 1⟩]
theorem Ck' (n:Nat):RK ⟨277,[pD 31,pD 271],[kR 236],cg' n⟩ :=
 aI [eR (zu' n)] (wy' n) func277
def tS' (_:Nat):Hints I:=aO [.l 58 ⟨1073737888,[10],[],[(5,kR 236),(12,kI)],[((.exit 0),[(5,kR 236)])],aK tb (.slot 11) 1⟩]
theorem nm' (n:Nat):RK ⟨250,[pD 31,pD 271],[kR 236],gF' n⟩ :=
 aI [eR (Ck' n),eR Kq] (tS' n) func250
def sY' (_:Nat):Hints I:=aO [.l 58 ⟨37778931862957161215648,[17],[],[(5,kR 239),(19,kI)],[((.exit 0),[(5,kR 239)])],aK tb (.slot 18) 1⟩,.l 119610 ⟨1180589368917597646848,[],[],[(51,kI)],[((.exit 4),[])],aK tb (.slot 50) 1⟩,.l 239186 ⟨1098437886496,[28],[],[(5,kR 239),(30,kI)],[((.exit 2),[(5,kR 239)])],aK tb (.slot 29) 1⟩]
theorem AA' (n:Nat):RK ⟨216,[pD 31,pD 25],[kR 239],fO' n⟩ :=
 aI [eR (nL' n),eR (nm' n),eR Kq] (sY' n) func216
theorem bW':RK ⟨254,[pD 279],[kL 25],V3⟩ :=
 aI [eR ez'] aG func254
def pL':Hints I:=aO [.l 58 ⟨2147451048,[],[],[(3,kR 25),(15,kI)],[((.exit 0),[(3,kR 25)])],aK tb (.slot 14) 1⟩,.l 14950 ⟨1071644808,[],[],[(3,kR 25),(21,kI)],[((.exit 2),[(3,kR 25)])],aK tb (.slot 20) 1⟩]
theorem uc':RK ⟨217,[pD 239],[kR 25],ec'⟩ :=
 aI [eR ez',eR bW'] pL' func217
def pC':Hints I:=aO [.l 26 ⟨524080,[],[],[(8,kI)],[((.exit 0),[]),(.ret,[(4,kI)])],aK tb (.slot 7) 1⟩]
theorem BU':RK ⟨281,[pL 239,.fn [.dat 239] [kB]],[kI],eu'⟩ :=
 aI [] pC' func281
theorem qs':RK ⟨255,[pL 239,.fn [.dat 239] [kB]],[kB],co'⟩ :=
 aI [eR BU'] aG func255
def nc':Hints I:=aO [.l 58 ⟨134214512,[],[],[(6,kI),(12,kI)],[((.exit 0),[(6,kI)]),(.ret,[(4,kI),(5,kB)])],aK tb (.slot 11) 1⟩]
theorem fc':RK ⟨282,[.lq [.map 204 (.sl 239),.map 205 (.int .i64)],pL 25],[kI,kB],Xj⟩ :=
 aI [eR L8] nc' func282
def ra':Hints I:=aO [.l 26 ⟨137438947168,[],[(4,.bW [.d (.sl 25),.d (.bool),.d (.sl 3),.d (.sl 3),.d (.bool)])],[(5,kI),(6,kB),(13,kI)],[((.exit 0),[(5,kI),(6,kB)])],aK tb (.slot 12) 1⟩]
theorem mH':RK ⟨283,[.lq [.map 204 (.sl 239),.map 205 (.int .i64)],pL 279],[kD 279,kI,kB],dX'⟩ :=
 aI [eR bW',eR fc'] ra' func283
def Bb':Hints I:=aO [.l 122 ⟨4398012960560,[],[],[(5,kI),(25,kI)],[((.exit 0),[(5,kI)]),(.ret,[(4,kI)])],aK tb (.slot 24) 1⟩]
theorem xV':RK ⟨257,[.lq [.map 204 (.sl 239),.map 205 (.int .i64)],pD 239],[kI],fF'⟩ :=
 aI [eR fc',eR mH'] Bb' func257
def sW':En:=⟨⟨256,Cn tb 207 204 205 (.sl 239) (.int .i64) (.dat 239) [.bool] (λma mb q=>bd' q (ma,mb))⟩,rP' (nt:=8) (cd:=dW f256) (rl:=[.tmp 3]) (H:=aG) dO (G9 (Er [eR xV']) 3) mixed func256 (by kernel_rfl) (by kernel_rfl) (by kernel_rfl) (by kernel_rfl) (by kernel_rfl) (by kernel_rfl) (by kernel_rfl)⟩
def uP':Hints I:=aO [.p 9 [7],.l 58 ⟨17179853440,[],[],[(7,kR 9),(14,kI)],[((.exit 0),[(7,kR 9)])],aK tb (.slot 13) 1⟩,.k 122 ⟨35115652614144,0,.map 205 (.int .i64),[(36,kI)],[((.exit 2),[])],aK tb (.slot 35) 1,1⟩]
def DX':En:=⟨⟨218,BX tb 204 205 (.sl 239) (.int .i64) [.sl 9,.int .i64] [.bool] (λma mb q=>iO' (ma,mb) q.1 q.2.1)⟩,mA' (nt:=48) (cd:=dW f218) (rl:=[.tmp 6]) (H:=uP') dO (G9 (Er [eR qs',sW']) 3) mixed func218 (by kernel_rfl) (by kernel_rfl) (by kernel_rfl) (by kernel_rfl) (by kernel_rfl) (by kernel_rfl) (by kernel_rfl)⟩
def Ed' (n:Nat):Hints I:=aO [.l 124 ⟨147573952589674340288,[],[(5,.bW [.map 204 (.sl 239),.map 205 (.int .i64)])],[(6,kR 25),(7,kR 9)],[((.exit 0),[(7,kR 9)])],λ_=>some n⟩,.l 506 ⟨9297159013149614047232,[7],[(5,.bW [.map 204 (.sl 239),.map 205 (.int .i64)])],[(15,kI)],[((.exit 4),[])],λ_=>some n⟩,.l 509438 ⟨147285722213524717632,[],[],[(6,kR 25),(58,kI)],[((.exit 2),[(6,kR 25)])],aK tb (.slot 57) 1⟩]
theorem rx' (n:Nat):RK ⟨180,[pD 31,pD 25],[.bW [.map 204 (.sl 239),.map 205 (.int .i64)]],gy' n⟩ :=
 aI [eR L8,eR (AA' n),eR uc',DX'] (Ed' n) func180
theorem po' (n:Nat):RK ⟨127,[pD 31,pD 25],[kI],eW' n⟩ :=
 aI [eR (KU n),eR FT,eR (rx' n),eR L8] aG func127
theorem AW' (n:Nat):RK ⟨70,[pD 31,pD 25],[kB],dr' n⟩ :=
 aI [eR (po' n)] aG func70
def tw' (_:Nat):Hints I:=aO [.j 125 ⟨549621596224,[],[(0,.bW [.d (.sl 55),.d (.int .i64),.row 25 true,.map 80 (.bool)])],[(.normal,[(6,kB)])]⟩,.j 253 ⟨2249600790429696,[],[(0,.bW [.d (.sl 55),.d (.int .i64),.row 25 true,.map 80 (.bool)])],[(.normal,[])]⟩]
theorem my' (n:Nat):RK ⟨40,[.var 82 (.bW [.d (.sl 55),.d (.int .i64),.row 25 true,.map 80 (.bool)]) true,pD 25],[kB],Qq n⟩ :=
 aI [eR UX,eR L8,eR (AW' n)] (tw' n) func40
def qf':Hints I:=aO [.l 58 ⟨1073738368,[],[],[(7,kR 3),(12,kI)],[((.exit 0),[(7,kR 3)])],aK tb (.slot 11) 1⟩]
theorem aB':RK ⟨197,[.val (.bW [.d (.sl 55),.d (.int .i64),.d (.any)]),.ji 3,pI],[kR 3],kZ⟩ :=
 aI [] qf' func197
def vP':Hints I:=aO [.l 58 ⟨268432256,[],[],[(7,kR 3),(12,kI)],[((.exit 0),[(7,kR 3)])],aK tb (.slot 11) 1⟩]
theorem aR':RK ⟨198,[.ji 3,.ji 3,pI],[kR 3],ou⟩ :=
 aI [] vP' func198
def pO' (n:Nat):Hints I:=aO [.l 506 ⟨2251791223750912,[],[(6,.bW [.d (.sl 55),.d (.int .i64),.row 25 true,.map 80 (.bool)])],[(8,kI)],[((.exit 0),[])],λ_=>some n⟩]
def yK' (_:Nat):En:=⟨⟨19,eG tb (dW f19) 9 [.tmp 4] [.bool] (fH [(426,⟨[(128,.bW [.d (.sl 55),.d (.int .i64),.row 25 true,.map 80 (.bool)])],aG⟩)])⟩,fG dO mixed func19 (by kernel_rfl) (by kernel_rfl) (by kernel_rfl) (by kernel_rfl)⟩
def xX' (_:Nat):En:=⟨⟨30,eG tb (dW f30) 12 [.tmp 4] [.bool] (fH [(362,⟨[(128,.bW [.d (.sl 55),.d (.int .i64),.row 25 true,.map 80 (.bool)])],aG⟩)])⟩,fG dO mixed func30 (by kernel_rfl) (by kernel_rfl) (by kernel_rfl) (by kernel_rfl)⟩
def yY' (_:Nat):En:=⟨⟨42,eG tb (dW f42) 19 [.tmp 4] [.int .i64] (fH [(450,⟨[(128,.bW [.d (.sl 55),.d (.int .i64),.row 25 true,.map 80 (.bool)])],aO [.l 26 ⟨524080,[],[(2000128,.bW [.d (.sl 55),.d (.int .i64),.row 25 true,.map 80 (.bool)])],[(8,kI)],[((.exit 0),[]),(.ret,[(4,kI)])],aK tb (.slot 7) 1⟩]⟩)])⟩,fG dO mixed func42 (by kernel_rfl) (by kernel_rfl) (by kernel_rfl) (by kernel_rfl)⟩
def AF' (_:Nat):En:=⟨⟨43,eG tb (dW f43) 9 [.tmp 4] [.bool] (fH [(968,⟨[],aG⟩),
 (970,⟨[],aG⟩),
 (972,⟨[],aG⟩),
 (974,⟨[],aG⟩),
 (984,⟨[],aG⟩),
 (986,⟨[],aG⟩),
 (988,⟨[],aG⟩),
 (990,⟨[],aG⟩),
 (1000,⟨[],aG⟩),
 (1002,⟨[],aG⟩),
 (1004,⟨[],aG⟩),
 (1006,⟨[],aG⟩),
 (1016,⟨[],aG⟩),
 (1018,⟨[],aG⟩),
 (1020,⟨[],aG⟩),
 (1022,⟨[],aG⟩),
 (1032,⟨[],aG⟩),
 (1034,⟨[],aG⟩),
 (1036,⟨[],aG⟩),
 (1038,⟨[],aG⟩),
 (1070,⟨[],aG⟩)])⟩,fG dO mixed func43 (by kernel_rfl) (by kernel_rfl) (by kernel_rfl) (by kernel_rfl)⟩
def pi' (_:Nat):En:=⟨⟨54,eG tb (dW f54) 8 [.tmp 3] [.bool] (fH [(548,⟨[(128,.bW [.d (.sl 55),.d (.int .i64),.row 25 true,.map 80 (.bool)])],aG⟩)])⟩,fG dO mixed func54 (by kernel_rfl) (by kernel_rfl) (by kernel_rfl) (by kernel_rfl)⟩
def nZ' (_:Nat):En:=⟨⟨55,eG tb (dW f55) 27 [.tmp 4] [.bool] (fH [(580,⟨[(128,.bW [.d (.sl 55),.d (.int .i64),.row 25 true,.map 80 (.bool)])],aO [.s 1 [10],.j 12 ⟨8388576,[],[],[(.normal,[(22,kB)])]⟩]⟩)])⟩,fG dO mixed func55 (by kernel_rfl) (by kernel_rfl) (by kernel_rfl) (by kernel_rfl)⟩
def uB' (_:Nat):En:=⟨⟨72,eG tb (dW f72) 19 [.tmp 4] [.int .i64] (fH [(992,⟨[],aO [.l 26 ⟨524080,[],[],[(8,kI)],[((.exit 0),[]),(.ret,[(4,kI)])],aK tb (.slot 7) 1⟩]⟩),
 (994,⟨[],aO [.l 26 ⟨524080,[],[],[(8,kI)],[((.exit 0),[]),(.ret,[(4,kI)])],aK tb (.slot 7) 1⟩]⟩),
 (996,⟨[],aO [.l 26 ⟨524080,[],[],[(8,kI)],[((.exit 0),[]),(.ret,[(4,kI)])],aK tb (.slot 7) 1⟩]⟩),
 (998,⟨[],aO [.l 26 ⟨524080,[],[],[(8,kI)],[((.exit 0),[]),(.ret,[(4,kI)])],aK tb (.slot 7) 1⟩]⟩),
 (1008,⟨[],aO [.l 26 ⟨524080,[],[],[(8,kI)],[((.exit 0),[]),(.ret,[(4,kI)])],aK tb (.slot 7) 1⟩]⟩),
 (1010,⟨[],aO [.l 26 ⟨524080,[],[],[(8,kI)],[((.exit 0),[]),(.ret,[(4,kI)])],aK tb (.slot 7) 1⟩]⟩),
 (1012,⟨[],aO [.l 26 ⟨524080,[],[],[(8,kI)],[((.exit 0),[]),(.ret,[(4,kI)])],aK tb (.slot 7) 1⟩]⟩),
 (1014,⟨[],aO [.l 26 ⟨524080,[],[],[(8,kI)],[((.exit 0),[]),(.ret,[(4,kI)])],aK tb (.slot 7) 1⟩]⟩),
 (1024,⟨[],aO [.l 26 ⟨524080,[],[],[(8,kI)],[((.exit 0),[]),(.ret,[(4,kI)])],aK tb (.slot 7) 1⟩]⟩),
 (1026,⟨[],aO [.l 26 ⟨524080,[],[],[(8,kI)],[((.exit 0),[]),(.ret,[(4,kI)])],aK tb (.slot 7) 1⟩]⟩),
 (1028,⟨[],aO [.l 26 ⟨524080,[],[],[(8,kI)],[((.exit 0),[]),(.ret,[(4,kI)])],aK tb (.slot 7) 1⟩]⟩),
 (1030,⟨[],aO [.l 26 ⟨524080,[],[],[(8,kI)],[((.exit 0),[]),(.ret,[(4,kI)])],aK tb (.slot 7) 1⟩]⟩),
 (1040,⟨[],aO [.l 26 ⟨524080,[],[],[(8,kI)],[((.exit 0),[]),(.ret,[(4,kI)])],aK tb (.slot 7) 1⟩]⟩),
 (1042,⟨[],aO [.l 26 ⟨524080,[],[],[(8,kI)],[((.exit 0),[]),(.ret,[(4,kI)])],aK tb (.slot 7) 1⟩]⟩),
 (1044,⟨[],aO [.l 26 ⟨524080,[],[],[(8,kI)],[((.exit 0),[]),(.ret,[(4,kI)])],aK tb (.slot 7) 1⟩]⟩),
 (1046,⟨[],aO [.l 26 ⟨524080,[],[],[(8,kI)],[((.exit 0),[]),(.ret,[(4,kI)])],aK tb (.slot 7) 1⟩]⟩),
 (1056,⟨[],aO [.l 26 ⟨524080,[],[],[(8,kI)],[((.exit 0),[]),(.ret,[(4,kI)])],aK tb (.slot 7) 1⟩]⟩),
 (1058,⟨[],aO [.l 26 ⟨524080,[],[],[(8,kI)],[((.exit 0),[]),(.ret,[(4,kI)])],aK tb (.slot 7) 1⟩]⟩),
 (1060,⟨[],aO [.l 26 ⟨524080,[],[],[(8,kI)],[((.exit 0),[]),(.ret,[(4,kI)])],aK tb (.slot 7) 1⟩]⟩),
 (1062,⟨[],aO [.l 26 ⟨524080,[],[],[(8,kI)],[((.exit 0),[]),(.ret,[(4,kI)])],aK tb (.slot 7) 1⟩]⟩),
 (1094,⟨[],aO [.l 26 ⟨524080,[],[],[(8,kI)],[((.exit 0),[]),(.ret,[(4,kI)])],aK tb (.slot 7) 1⟩]⟩)])⟩,fG dO mixed func72 (by kernel_rfl) (by kernel_rfl) (by kernel_rfl) (by kernel_rfl)⟩
def sL' (_:Nat):En:=⟨⟨97,eG tb (dW f97) 9 [.tmp 4] [.bool] (fH [(620,⟨[(128,.bW [.d (.sl 55),.d (.int .i64),.row 25 true,.map 80 (.bool)])],aG⟩)])⟩,fG dO mixed func97 (by kernel_rfl) (by kernel_rfl) (by kernel_rfl) (by kernel_rfl)⟩
def ud' (_:Nat):En:=⟨⟨99,eG tb (dW f99) 17 [.tmp 4] [.bool] (fH [(742,⟨[(128,.bW [.d (.sl 55),.d (.int .i64),.row 25 true,.map 80 (.bool)])],aO [.s 1 [10]]⟩)])⟩,fG dO mixed func99 (by kernel_rfl) (by kernel_rfl) (by kernel_rfl) (by kernel_rfl)⟩
def oJ' (_:Nat):En:=⟨⟨101,eG tb (dW f101) 126 [.tmp 6] [.bool] (fH [(830,⟨[(128,.bW [.d (.sl 55),.d (.int .i64),.row 25 true,.map 80 (.bool)])],aO [.s 13 [54],.j 221180 ⟨4722365356969738371136,[],[(2000128,.bW [.d (.sl 55),.d (.int .i64),.row 25 true,.map 80 (.bool)])],[(.normal,[(6,kB)])]⟩]⟩)])⟩,fG dO mixed func101 (by kernel_rfl) (by kernel_rfl) (by kernel_rfl) (by kernel_rfl)⟩
def oH' (_:Nat):En:=⟨⟨144,eG tb (dW f144) 19 [.tmp 4] [.int .i64] (fH [(644,⟨[(128,.bW [.d (.sl 55),.d (.int .i64),.row 25 true,.map 80 (.bool)])],aO [.l 26 ⟨524080,[],[(2000128,.bW [.d (.sl 55),.d (.int .i64),.row 25 true,.map 80 (.bool)])],[(8,kI)],[((.exit 0),[]),(.ret,[(4,kI)])],aK tb (.slot 7) 1⟩]⟩)])⟩,fG dO mixed func144 (by kernel_rfl) (by kernel_rfl) (by kernel_rfl) (by kernel_rfl)⟩
def oW' (_:Nat):En:=⟨⟨148,eG tb (dW f148) 10 [.tmp 6] [.bool] (fH [(928,⟨[],aG⟩),
 (930,⟨[],aG⟩),
 (932,⟨[],aG⟩),
 (934,⟨[],aG⟩),
 (944,⟨[],aG⟩),
 (946,⟨[],aG⟩),
 (948,⟨[],aG⟩),
 (950,⟨[],aG⟩),
 (960,⟨[],aG⟩),
 (962,⟨[],aG⟩),
 (964,⟨[],aG⟩),
 (966,⟨[],aG⟩),
 (976,⟨[],aG⟩),
 (978,⟨[],aG⟩),
 (980,⟨[],aG⟩),
 (982,⟨[],aG⟩),
 (992,⟨[],aG⟩),
 (994,⟨[],aG⟩),
 (996,⟨[],aG⟩),
 (998,⟨[],aG⟩),
 (1030,⟨[],aG⟩)])⟩,fG dO mixed func148 (by kernel_rfl) (by kernel_rfl) (by kernel_rfl) (by kernel_rfl)⟩
def CJ' (_:Nat):En:=⟨⟨150,eG tb (dW f150) 16 [.tmp 10] [.bool] (fH [(1094,⟨[(128,.bW [.d (.sl 55),.d (.int .i64),.row 25 true,.map 80 (.bool)])],aG⟩),
 (1134,⟨[(128,.bW [.d (.sl 55),.d (.int .i64),.row 25 true,.map 80 (.bool)])],aG⟩)])⟩,fG dO mixed func150 (by kernel_rfl) (by kernel_rfl) (by kernel_rfl) (by kernel_rfl)⟩
def pS' (_:Nat):En:=⟨⟨193,eG tb (dW f193) 14 [.tmp 4] [.bool] (fH [(1088,⟨[],aG⟩),
 (1090,⟨[],aG⟩),
 (1092,⟨[],aG⟩),
 (1094,⟨[],aG⟩),
 (1104,⟨[],aG⟩),
 (1106,⟨[],aG⟩),
 (1108,⟨[],aG⟩),
 (1110,⟨[],aG⟩),
 (1120,⟨[],aG⟩),
 (1122,⟨[],aG⟩),
 (1124,⟨[],aG⟩),
 (1126,⟨[],aG⟩),
 (1136,⟨[],aG⟩),
 (1138,⟨[],aG⟩),
 (1140,⟨[],aG⟩),
 (1142,⟨[],aG⟩),
 (1152,⟨[],aG⟩),
 (1154,⟨[],aG⟩),
 (1156,⟨[],aG⟩),
 (1158,⟨[],aG⟩),
 (1190,⟨[],aG⟩)])⟩,fG dO mixed func193 (by kernel_rfl) (by kernel_rfl) (by kernel_rfl) (by kernel_rfl)⟩
def oK' (n:Nat):En:=⟨⟨195,eG tb (dW f195) 47 [.tmp 6] [.bool] (fH [(1174,⟨[(128,.bW [.d (.sl 55),.d (.int .i64),.row 25 true,.map 80 (.bool)])],aO [.l 30 ⟨140737488224576,[],[(2000128,.bW [.d (.sl 55),.d (.int .i64),.row 25 true,.map 80 (.bool)])],[(7,kR 3)],[(.ret,[(6,kB),(7,kR 3)])],λ_=>some n⟩,.l 1932 ⟨274875810048,[],[],[(7,kR 3),(8,kI)],[((.exit 2),[(7,kR 3),(8,kI)])],aK tb (.slot 0) 1⟩]⟩),
 (1214,⟨[(128,.bW [.d (.sl 55),.d (.int .i64),.row 25 true,.map 80 (.bool)])],aO [.l 30 ⟨140737488224576,[],[(2000128,.bW [.d (.sl 55),.d (.int .i64),.row 25 true,.map 80 (.bool)])],[(7,kR 3)],[(.ret,[(6,kB),(7,kR 3)])],λ_=>some n⟩,.l 1932 ⟨274875810048,[],[],[(7,kR 3),(8,kI)],[((.exit 2),[(7,kR 3),(8,kI)])],aK tb (.slot 0) 1⟩]⟩)])⟩,fG dO mixed func195 (by kernel_rfl) (by kernel_rfl) (by kernel_rfl) (by kernel_rfl)⟩
def Dn' (_:Nat):En:=⟨⟨196,eG tb (dW f196) 37 [.tmp 7] [.bool] (fH [(1273,⟨[(128,.bW [.d (.sl 55),.d (.int .i64),.row 25 true,.map 80 (.bool)])],aO [.s 4 [26],.l 26 ⟨137438952320,[],[(2000128,.bW [.d (.sl 55),.d (.int .i64),.row 25 true,.map 80 (.bool)])],[(11,kI)],[((.exit 0),[]),(.ret,[(7,kB)])],aK tb (.slot 10) 1⟩]⟩),
 (1313,⟨[(128,.bW [.d (.sl 55),.d (.int .i64),.row 25 true,.map 80 (.bool)])],aO [.s 4 [26],.l 26 ⟨137438952320,[],[(2000128,.bW [.d (.sl 55),.d (.int .i64),.row 25 true,.map 80 (.bool)])],[(11,kI)],[((.exit 0),[]),(.ret,[(7,kB)])],aK tb (.slot 10) 1⟩]⟩)])⟩,fG dO mixed func196 (by kernel_rfl) (by kernel_rfl) (by kernel_rfl) (by kernel_rfl)⟩
theorem ua' (n:Nat):RK ⟨18,[pD 31,pD 25],[kD 46,kI],U2 n⟩ :=
 aI [eR (KU n),eR FT,eR K7,eR (my' n),(xX' n),eR (Vh n),(yK' n),(yY' n),(pi' n),(nZ' n),eR O3,eR UD,eR Xn,eR UK,(sL' n),(oH' n),(ud' n),eR Vu,(oJ' n),(oW' n),(AF' n),(uB' n),(pS' n),eR Uu,(CJ' n),(oK' n),(Dn' n),eR aB',eR aR'] (pO' n) func18
theorem zI':RK ⟨51,[pD 25,.var 31 (kD 31) false],[kB],Xz⟩ :=
 aI [eR FT] aG func51
theorem cn' (n:Nat):RK ⟨27,[pD 31,pL 25],[kB],Lv n⟩ :=
 aI [eR (KU n),eR Vo,eR zI'] aG func27
def wh':Hints I:=aO [.l 58 ⟨274877841824,[],[],[(5,kR 189),(16,kI)],[((.exit 0),[(5,kR 189)])],aK tb (.slot 15) 1⟩,.l 122 ⟨18446741874686299168,[],[],[(5,kR 189),(41,kI)],[((.exit 2),[(5,kR 189)])],aK tb (.slot 40) 1⟩]
theorem AP':RK ⟨147,[.val (.bW [.d (.sl 55),.d (.int .i64),.d (.any)]),pD 25],[kB],Qs⟩ :=
 aI [eR cm',eR fU',eR bS'] wh' func147
theorem pf':RK ⟨29,[pD 25,.var 22 (kL 25) false],[kB],rE⟩ :=
 aI [eR UX] aG func29
def mN':Hints I:=aO [.l 58 ⟨1152921504606846012,[],[],[(0,kR 151),(3,kI)],[((.exit 0),[(0,kR 151)]),(.ret,[(2,kR 151)])],aK tb (.len (.slot 0)) 1⟩,.k 59690 ⟨18014397972611112,0,.row 151,[(3,kI),(5,kI)],[((.exit 2),[(3,kI)])],aK tb (.len (.slot 4)) 1,0⟩]
theorem oO':RK ⟨241,[.row 151 false],[kR 151],SL⟩ :=
 aI [] mN' func241
def nz':Hints I:=aO [.l 58 ⟨34359734944,[],[],[(5,kR 151),(12,kI)],[((.exit 0),[(5,kR 151)])],aK tb (.slot 11) 1⟩,.l 14950 ⟨17163092512,[],[],[(5,kR 151),(24,kI)],[((.exit 2),[(5,kR 151)])],aK tb (.slot 23) 1⟩]
theorem oR':RK ⟨199,[.val (.bW [.d (.sl 55),.d (.int .i64),.d (.any)]),.ji 3],[kR 151],Si⟩ :=
 aI [eO za',eR ik',eR oO'] nz' func199
def xf':Hints I:=aO [.l 26 ⟨4193360,[],[],[(10,kI)],[((.exit 0),[]),(.ret,[(4,kB)])],aK tb (.slot 9) 1⟩]
theorem Bu':RK ⟨201,[pD 55,pD 151],[kB],Kk⟩ :=
 aI [] xf' func201
def uH':Hints I:=aO [.l 26 ⟨2096208,[],[],[(10,kI)],[((.exit 0),[]),(.ret,[(4,kI)])],aK tb (.slot 9) 1⟩]
theorem yD':RK ⟨242,[pD 55,pD 151],[kI],Pb⟩ :=
 aI [] uH' func242
def CT':Hints I:=aO [.l 58 ⟨268432000,[],[],[(7,kR 3),(12,kI)],[((.exit 0),[(7,kR 3)])],aK tb (.slot 11) 1⟩]
theorem uJ':RK ⟨205,[.val (.bW [.d (.sl 55),.d (.int .i64),.d (.any)]),.ji 3,pD 151],[kR 3],JW⟩ :=
 aI [eR yD'] CT' func205
def xn':Hints I:=aO [.l 58 ⟨536867456,[],[],[(7,kR 3),(12,kI)],[((.exit 0),[(7,kR 3)])],aK tb (.slot 11) 1⟩]
theorem vA':RK ⟨206,[.val (.bW [.d (.sl 55),.d (.int .i64),.d (.any)]),.ji 3,pI],[kR 3],QD⟩ :=
 aI [] xn' func206
def ni' (_:Nat):En:=⟨⟨19,eG tb (dW f19) 9 [.tmp 4] [.bool] (fH [(232,⟨[],aG⟩)])⟩,fG dO mixed func19 (by kernel_rfl) (by kernel_rfl) (by kernel_rfl) (by kernel_rfl)⟩
def vU' (_:Nat):En:=⟨⟨30,eG tb (dW f30) 12 [.tmp 4] [.bool] (fH [(168,⟨[],aG⟩)])⟩,fG dO mixed func30 (by kernel_rfl) (by kernel_rfl) (by kernel_rfl) (by kernel_rfl)⟩
def qW' (_:Nat):En:=⟨⟨42,eG tb (dW f42) 19 [.tmp 4] [.int .i64] (fH [(256,⟨[],aO [.l 26 ⟨524080,[],[],[(8,kI)],[((.exit 0),[]),(.ret,[(4,kI)])],aK tb (.slot 7) 1⟩]⟩)])⟩,fG dO mixed func42 (by kernel_rfl) (by kernel_rfl) (by kernel_rfl) (by kernel_rfl)⟩
def zx' (_:Nat):En:=⟨⟨43,eG tb (dW f43) 9 [.tmp 4] [.bool] (fH [(776,⟨[],aG⟩),
 (792,⟨[],aG⟩),
 (808,⟨[],aG⟩),
 (824,⟨[],aG⟩),
 (840,⟨[],aG⟩),
 (872,⟨[],aG⟩),
 (896,⟨[],aG⟩),
 (912,⟨[],aG⟩),
 (1016,⟨[],aG⟩),
 (1321,⟨[],aG⟩),
 (1353,⟨[],aG⟩)])⟩,fG dO mixed func43 (by kernel_rfl) (by kernel_rfl) (by kernel_rfl) (by kernel_rfl)⟩
def tz' (_:Nat):En:=⟨⟨54,eG tb (dW f54) 8 [.tmp 3] [.bool] (fH [(352,⟨[],aG⟩)])⟩,fG dO mixed func54 (by kernel_rfl) (by kernel_rfl) (by kernel_rfl) (by kernel_rfl)⟩
def mW' (_:Nat):En:=⟨⟨55,eG tb (dW f55) 27 [.tmp 4] [.bool] (fH [(384,⟨[],aO [.s 1 [10],.j 12 ⟨8388576,[],[],[(.normal,[(22,kB)])]⟩]⟩)])⟩,fG dO mixed func55 (by kernel_rfl) (by kernel_rfl) (by kernel_rfl) (by kernel_rfl)⟩
def mV' (_:Nat):En:=⟨⟨72,eG tb (dW f72) 19 [.tmp 4] [.int .i64] (fH [(800,⟨[],aO [.l 26 ⟨524080,[],[],[(8,kI)],[((.exit 0),[]),(.ret,[(4,kI)])],aK tb (.slot 7) 1⟩]⟩),
 (816,⟨[],aO [.l 26 ⟨524080,[],[],[(8,kI)],[((.exit 0),[]),(.ret,[(4,kI)])],aK tb (.slot 7) 1⟩]⟩),
 (832,⟨[],aO [.l 26 ⟨524080,[],[],[(8,kI)],[((.exit 0),[]),(.ret,[(4,kI)])],aK tb (.slot 7) 1⟩]⟩),
 (848,⟨[],aO [.l 26 ⟨524080,[],[],[(8,kI)],[((.exit 0),[]),(.ret,[(4,kI)])],aK tb (.slot 7) 1⟩]⟩),
 (864,⟨[],aO [.l 26 ⟨524080,[],[],[(8,kI)],[((.exit 0),[]),(.ret,[(4,kI)])],aK tb (.slot 7) 1⟩]⟩),
 (896,⟨[],aO [.l 26 ⟨524080,[],[],[(8,kI)],[((.exit 0),[]),(.ret,[(4,kI)])],aK tb (.slot 7) 1⟩]⟩),
 (920,⟨[],aO [.l 26 ⟨524080,[],[],[(8,kI)],[((.exit 0),[]),(.ret,[(4,kI)])],aK tb (.slot 7) 1⟩]⟩),
 (936,⟨[],aO [.l 26 ⟨524080,[],[],[(8,kI)],[((.exit 0),[]),(.ret,[(4,kI)])],aK tb (.slot 7) 1⟩]⟩),
 (1040,⟨[],aO [.l 26 ⟨524080,[],[],[(8,kI)],[((.exit 0),[]),(.ret,[(4,kI)])],aK tb (.slot 7) 1⟩]⟩),
 (1345,⟨[],aO [.l 26 ⟨524080,[],[],[(8,kI)],[((.exit 0),[]),(.ret,[(4,kI)])],aK tb (.slot 7) 1⟩]⟩),
 (1377,⟨[],aO [.l 26 ⟨524080,[],[],[(8,kI)],[((.exit 0),[]),(.ret,[(4,kI)])],aK tb (.slot 7) 1⟩]⟩)])⟩,fG dO mixed func72 (by kernel_rfl) (by kernel_rfl) (by kernel_rfl) (by kernel_rfl)⟩
def mF' (_:Nat):En:=⟨⟨97,eG tb (dW f97) 9 [.tmp 4] [.bool] (fH [(424,⟨[],aG⟩)])⟩,fG dO mixed func97 (by kernel_rfl) (by kernel_rfl) (by kernel_rfl) (by kernel_rfl)⟩
def ri' (_:Nat):En:=⟨⟨99,eG tb (dW f99) 17 [.tmp 4] [.bool] (fH [(544,⟨[],aG⟩)])⟩,fG dO mixed func99 (by kernel_rfl) (by kernel_rfl) (by kernel_rfl) (by kernel_rfl)⟩
def BD' (_:Nat):En:=⟨⟨101,eG tb (dW f101) 126 [.tmp 6] [.bool] (fH [(632,⟨[],aG⟩)])⟩,fG dO mixed func101 (by kernel_rfl) (by kernel_rfl) (by kernel_rfl) (by kernel_rfl)⟩
def sZ' (_:Nat):En:=⟨⟨144,eG tb (dW f144) 19 [.tmp 4] [.int .i64] (fH [(448,⟨[],aO [.l 26 ⟨524080,[],[],[(8,kI)],[((.exit 0),[]),(.ret,[(4,kI)])],aK tb (.slot 7) 1⟩]⟩)])⟩,fG dO mixed func144 (by kernel_rfl) (by kernel_rfl) (by kernel_rfl) (by kernel_rfl)⟩
def uF' (_:Nat):En:=⟨⟨148,eG tb (dW f148) 10 [.tmp 6] [.bool] (fH [(736,⟨[],aG⟩),
 (752,⟨[],aG⟩),
 (768,⟨[],aG⟩),
 (784,⟨[],aG⟩),
 (800,⟨[],aG⟩),
 (832,⟨[],aG⟩)])⟩,fG dO mixed func148 (by kernel_rfl) (by kernel_rfl) (by kernel_rfl) (by kernel_rfl)⟩
def wV' (_:Nat):En:=⟨⟨149,eG tb (dW f149) 46 [.tmp 6] [.bool] (fH [(768,⟨[],aO [.l 58 ⟨549755784512,[],[(7,kS)],[(8,kB),(15,kI)],[((.exit 0),[(8,kB)]),(.ret,[(6,kB)])],aK tb (.slot 14) 1⟩]⟩),
 (784,⟨[],aO [.l 58 ⟨549755784512,[],[(7,kS)],[(8,kB),(15,kI)],[((.exit 0),[(8,kB)]),(.ret,[(6,kB)])],aK tb (.slot 14) 1⟩]⟩)])⟩,fG dO mixed func149 (by kernel_rfl) (by kernel_rfl) (by kernel_rfl) (by kernel_rfl)⟩
def Dq' (_:Nat):En:=⟨⟨150,eG tb (dW f150) 16 [.tmp 10] [.bool] (fH [(896,⟨[],aG⟩),
 (936,⟨[],aG⟩)])⟩,fG dO mixed func150 (by kernel_rfl) (by kernel_rfl) (by kernel_rfl) (by kernel_rfl)⟩
def sR' (_:Nat):En:=⟨⟨152,eG tb (dW f152) 23 [.tmp 6] [.bool] (fH [(912,⟨[],aG⟩)])⟩,fG dO mixed func152 (by kernel_rfl) (by kernel_rfl) (by kernel_rfl) (by kernel_rfl)⟩
def zH' (_:Nat):En:=⟨⟨153,eG tb (dW f153) 12 [.tmp 8] [.bool] (fH [(968,⟨[],aG⟩)])⟩,fG dO mixed func153 (by kernel_rfl) (by kernel_rfl) (by kernel_rfl) (by kernel_rfl)⟩
def qc' (_:Nat):En:=⟨⟨193,eG tb (dW f193) 14 [.tmp 4] [.bool] (fH [(896,⟨[],aG⟩),
 (912,⟨[],aG⟩),
 (928,⟨[],aG⟩),
 (944,⟨[],aG⟩),
 (960,⟨[],aG⟩),
 (992,⟨[],aG⟩)])⟩,fG dO mixed func193 (by kernel_rfl) (by kernel_rfl) (by kernel_rfl) (by kernel_rfl)⟩
def pM' (_:Nat):En:=⟨⟨194,eG tb (dW f194) 26 [.tmp 5] [.bool] (fH [(1016,⟨[],aG⟩),
 (1032,⟨[],aG⟩)])⟩,fG dO mixed func194 (by kernel_rfl) (by kernel_rfl) (by kernel_rfl) (by kernel_rfl)⟩
def rh' (n:Nat):En:=⟨⟨195,eG tb (dW f195) 47 [.tmp 6] [.bool] (fH [(976,⟨[],aO [.l 30 ⟨140737488224576,[],[],[(7,kR 3)],[(.ret,[(6,kB),(7,kR 3)])],λ_=>some n⟩,.l 1932 ⟨274875810048,[],[],[(7,kR 3),(8,kI)],[((.exit 2),[(7,kR 3),(8,kI)])],aK tb (.slot 0) 1⟩]⟩),
 (1016,⟨[],aO [.l 30 ⟨140737488224576,[],[],[(7,kR 3)],[(.ret,[(6,kB),(7,kR 3)])],λ_=>some n⟩,.l 1932 ⟨274875810048,[],[],[(7,kR 3),(8,kI)],[((.exit 2),[(7,kR 3),(8,kI)])],aK tb (.slot 0) 1⟩]⟩),
 (1080,⟨[],aO [.l 30 ⟨140737488224576,[],[],[(7,kR 3)],[(.ret,[(6,kB),(7,kR 3)])],λ_=>some n⟩,.l 1932 ⟨274875810048,[],[],[(7,kR 3),(8,kI)],[((.exit 2),[(7,kR 3),(8,kI)])],aK tb (.slot 0) 1⟩]⟩),
 (1192,⟨[],aO [.l 30 ⟨140737488224576,[],[],[(7,kR 3)],[(.ret,[(6,kB),(7,kR 3)])],λ_=>some n⟩,.l 1932 ⟨274875810048,[],[],[(7,kR 3),(8,kI)],[((.exit 2),[(7,kR 3),(8,kI)])],aK tb (.slot 0) 1⟩]⟩)])⟩,fG dO mixed func195 (by kernel_rfl) (by kernel_rfl) (by kernel_rfl) (by kernel_rfl)⟩
def yE' (_:Nat):En:=⟨⟨196,eG tb (dW f196) 37 [.tmp 7] [.bool] (fH [(1073,⟨[],aO [.s 4 [26],.l 26 ⟨137438952320,[],[],[(11,kI)],[((.exit 0),[]),(.ret,[(7,kB)])],aK tb (.slot 10) 1⟩]⟩),
 (1113,⟨[],aO [.s 4 [26],.l 26 ⟨137438952320,[],[],[(11,kI)],[((.exit 0),[]),(.ret,[(7,kB)])],aK tb (.slot 10) 1⟩]⟩)])⟩,fG dO mixed func196 (by kernel_rfl) (by kernel_rfl) (by kernel_rfl) (by kernel_rfl)⟩
def og' (_:Nat):En:=⟨⟨200,eG tb (dW f200) 14 [.tmp 5] [.bool] (fH [(1473,⟨[],aG⟩),
 (1505,⟨[],aG⟩)])⟩,fG dO mixed func200 (by kernel_rfl) (by kernel_rfl) (by kernel_rfl) (by kernel_rfl)⟩
def nr' (_:Nat):En:=⟨⟨202,eG tb (dW f202) 87 [.tmp 7] [.bool] (fH [(1177,⟨[],aO [.s 6 [35],.j 13518 ⟨1125882726973440,[10],[],[(.normal,[(49,kB)])]⟩,.j 1913650 ⟨38685552440691838752391168,[],[],[(.normal,[(84,kB)])]⟩,.l 26 ⟨2251799813558144,[],[],[(17,kI)],[((.exit 0),[]),(.ret,[(7,kB)])],aK tb (.slot 16) 1⟩,.l 58 ⟨154742504908420734548725888,[],[],[(51,kI)],[((.exit 2),[]),(.ret,[(7,kB)])],aK tb (.cst 2) 1⟩,.l 14950 ⟨77371247843650248753823872,[60],[],[(62,kI)],[((.exit 4),[]),(.ret,[(7,kB)])],aK tb (.slot 61) 1⟩]⟩)])⟩,fG dO mixed func202 (by kernel_rfl) (by kernel_rfl) (by kernel_rfl) (by kernel_rfl)⟩
def AL' (_:Nat):En:=⟨⟨203,eG tb (dW f203) 9 [.tmp 4] [.bool] (fH [(1441,⟨[],aG⟩)])⟩,fG dO mixed func203 (by kernel_rfl) (by kernel_rfl) (by kernel_rfl) (by kernel_rfl)⟩
def rW' (_:Nat):En:=⟨⟨204,eG tb (dW f204) 10 [.tmp 4] [.bool] (fH [(1473,⟨[],aG⟩)])⟩,fG dO mixed func204 (by kernel_rfl) (by kernel_rfl) (by kernel_rfl) (by kernel_rfl)⟩
def CX' (_:Nat):En:=⟨⟨207,eG tb (dW f207) 12 [.tmp 5] [.bool] (fH [(1136,⟨[],aG⟩)])⟩,fG dO mixed func207 (by kernel_rfl) (by kernel_rfl) (by kernel_rfl) (by kernel_rfl)⟩
def vx' (_:Nat):En:=⟨⟨208,eG tb (dW f208) 13 [.tmp 6] [.bool] (fH [(1289,⟨[],aG⟩)])⟩,fG dO mixed func208 (by kernel_rfl) (by kernel_rfl) (by kernel_rfl) (by kernel_rfl)⟩
def nj' (_:Nat):En:=⟨⟨209,eG tb (dW f209) 70 [.tmp 10] [.bool] (fH [(1337,⟨[],aO [.l 26 ⟨8796092996608,[],[],[(15,kI)],[((.exit 0),[]),(.ret,[(10,kB)])],aK tb (.slot 14) 1⟩]⟩)])⟩,fG dO mixed func209 (by kernel_rfl) (by kernel_rfl) (by kernel_rfl) (by kernel_rfl)⟩
theorem Bg' (n:Nat):RK ⟨13,[pD 31,pL 25,pD 25],[kB],Fa n⟩ :=
 aI [eR (cn' n),eR FT,(vU' n),eR (Vh n),(ni' n),(qW' n),(tz' n),(mW' n),eR O3,eR UD,eR Xn,eR UK,(mF' n),(sZ' n),(ri' n),eR Vu,(BD' n),eR AP',(uF' n),(zx' n),(mV' n),(qc' n),(wV' n),(pM' n),eR Uu,(Dq' n),(rh' n),(yE' n),eR aB',eR aR',eR K7,eR pf',(sR' n),eR JO,eR oR',(nr' n),(AL' n),(og' n),eR Bu',(rW' n),eR uJ',eR vA',(zH' n),(CX' n),(vx' n),(nj' n)] aG func13
theorem zT' (n:Nat):RK ⟨35,[pD 25,.var 31 (kD 31) false,.var 46 (kD 46) false],[kB],Uc n⟩ :=
 aI [eR (Bg' n)] aG func35
theorem cZ' (n:Nat):RK ⟨15,[pD 31,pD 25,pD 46],[kB],F7 n⟩ :=
 aI [eR (cn' n),eR FT,eR UX,eR Vo,eR (zT' n)] aG func15
theorem nf' (n:Nat):RK ⟨6,[],[kB],CP n⟩ :=
 aI [eR (ua' n),eR (cZ' n)] aG func6
theorem mI:RK ⟨24,[.var 42 (kD 42) true,pI],[kI],dQ⟩ :=
 aI [] aG func24
theorem O8:RK ⟨74,[.var 42 (kD 42) true],[kS],Du⟩ :=
 aI [eR mI] aG func74
theorem Qj:RK ⟨75,[.var 42 (kD 42) true],[kS],Dp⟩ :=
 aI [eR mI] aG func75
theorem cC':RK ⟨76,[.var 42 (kD 42) true],[kS],EO⟩ :=
 aI [eR mI] aG func76
def rE':Hints I:=aO [.l 28 ⟨16776706,[],[(0,kD 42)],[(1,kI),(9,kR 3)],[((.exit 0),[(9,kR 3)])],aK tb (.slot 1) 2⟩]
theorem vd':RK ⟨77,[.var 42 (kD 42) true,pI,pI,pI],[kR 3],mq⟩ :=
 aI [eR mI] rE' func77
def rA':Hints I:=aO [.j 978 ⟨8796076244992,[],[(0,kD 42),(5,.bW [.d (.int .i64),.d (.int .i64),.d (.int .i64),.d (.str),.row 3 false,.row 156 false,.d (.int .i64),.d (.int .i64)])],[(.normal,[])]⟩,.l 122 ⟨8796091973760,[6],[(0,kD 42),(5,.bW [.d (.int .i64),.d (.int .i64),.d (.int .i64),.d (.str),.row 3 false,.row 156 false,.d (.int .i64),.d (.int .i64)])],[(7,kI)],[((.exit 0),[])],aK tb (.cst 3) 1⟩]
theorem vS':RK ⟨78,[.var 42 (kD 42) true,pI],[kD 55],QY⟩ :=
 aI [eR mI] rA' func78
def Cn':Hints I:=aO [.j 29 ⟨128,[],[],[(.normal,[(7,kI)])]⟩,.j 32243709 ⟨47223664828696452136960,[],[],[(.normal,[(73,kB)])]⟩,.j 2063597565 ⟨49517601571415210995964968960,[],[],[(.normal,[(93,kB)])]⟩]
theorem DI':RK ⟨47,[.var 42 (kD 42) true,pI,pI],[kD 55],Oo⟩ :=
 aI [eR mI,eR O8,eR Qj,eR cC',eR vd',eR vS'] Cn' func47
def yH':Hints I:=aO [.l 122 ⟨16776256,[],[(0,kD 42),(5,.bW [.row 55 false,.d (.int .i64)])],[(6,kI)],[((.exit 0),[])],aK tb (.slot 1) 1⟩]
theorem DR':RK ⟨23,[.var 42 (kD 42) true,pI],[kD 31],Jw⟩ :=
 aI [eR DI'] yH' func23
theorem nw':RK ⟨89,[.var 42 (kD 42) true],[kI],Gt⟩ :=
 aI [eR mI] aG func89
theorem dg':RK ⟨79,[pI],[kD 37],KY⟩ :=
 aI [] aG func79
theorem do':RK ⟨81,[pS],[kD 37],CY⟩ :=
 aI [] aG func81
theorem fW':RK ⟨80,[pS],[kD 37],Bq⟩ :=
 aI [] aG func80
theorem el':RK ⟨82,[pI],[kD 37],EF⟩ :=
 aI [] aG func82
theorem Jc:RK ⟨83,[],[kD 37],qB⟩ :=
 aI [] aG func83
theorem fQ':RK ⟨135,[pL 37],[kR 37],Av⟩ :=
 aI [] aG func135
theorem bf':RK ⟨90,[pL 37],[kD 37],Aj⟩ :=
 aI [eR fQ'] aG func90
theorem YO:RK ⟨49,[.var 42 (kD 42) true],[kD 37],rO⟩ :=
 aI [eR mI,eR nw',eR dg',eR O8,eR do',eR Qj,eR fW',eR el',eR Jc,eR bf'] aG func49
theorem eO':RK ⟨162,[.d (.int .u8)],[kB],E9⟩ :=
 aI [] aG func162
theorem aU':RK ⟨163,[.d (.int .u8)],[kB],JU⟩ :=
 aI [] aG func163
def xU':Hints I:=aO [.l 58 ⟨4398046248972,[],[],[(3,kI)],[((.exit 0),[]),(.ret,[(2,kB)])],aK tb (.len (.slot 0)) 1⟩]
theorem U1:RK ⟨110,[pS],[kB],FP⟩ :=
 aI [eR eO',eR aU'] xU' func110
theorem W9:RK ⟨111,[pD 151],[kB],H8⟩ :=
 aI [eR U1] aG func111
theorem YI:RK ⟨164,[pI,pI],[kI],Fq⟩ :=
 aI [] aG func164
theorem iP':RK ⟨165,[pS,pS],[kI],Ab⟩ :=
 aI [] aG func165
theorem OQ:RK ⟨112,[pD 151,pD 151],[kI],zT⟩ :=
 aI [eR YI,eR iP'] aG func112
def oG':Hints I:=aO [.l 58 ⟨2147221600,[],[(4,.bW [.d (.int .i64),.d (.int .i64),.d (.str),.row 37 false,.row 151 false,.row 103 false,.row 9 false])],[(6,kI)],[((.exit 0),[]),(.ret,[(5,kI)])],aK tb (.len (.slot 0)) 1⟩,.l 250 ⟨5192296858534827628530492034256672,[7],[(4,.bW [.d (.int .i64),.d (.int .i64),.d (.str),.row 37 false,.row 151 false,.row 103 false,.row 9 false]),(7,.bW [.d (.int .i64),.d (.int .i64),.d (.str),.d (.sl 37),.d (.sl 151),.row 103 true,.row 9 true])],[(8,kI)],[((.exit 2),[]),(.ret,[(5,kI)])],aK tb (.len (.slot 0)) 1⟩,.l 32036 ⟨288230101273805312,[7],[],[(9,kI)],[((.exit 4),[(9,kI)])],aK tb (.len (.ld 33 (.gF 37 4 (.slot 7)))) 1⟩]
theorem dS':RK ⟨131,[pL 151,pL 37],[kD 37,kI],vJ⟩ :=
 aI [eR W9,eR OQ,eR fQ'] oG' func131
theorem bk':RK ⟨211,[pI,pI],[kI],yB⟩ :=
 aI [eR YI] aG func211
def su' (_:Nat):Hints I:=aO [.l 506 ⟨151115655394234608910448,[],[],[(5,kI)],[((.exit 0),[]),(.ret,[(4,kI)])],aK tb (.len (.ld 33 (.gF 37 4 (.slot 2)))) 1⟩,.l 8186 ⟨1329227361959615758789106311928742672,[],[],[(8,kI)],[((.exit 2),[]),(.ret,[(4,kI)])],aK tb (.len (.ld 34 (.gF 37 5 (.slot 2)))) 1⟩,.l 32762 ⟨45671904388519233253803489366408968731082361872,[],[],[(10,kI)],[((.exit 4),[]),(.ret,[(4,kI)])],aK tb (.len (.ld 35 (.gF 37 6 (.slot 2)))) 1⟩]
def FI (n:Nat):Row I:=⟨166,[pD 37,pD 37],[kI],zW n⟩
def pp' (_:Nat):Hints I:=aO [.l 58 ⟨34359607408,[],[],[(5,kI)],[((.exit 0),[]),(.ret,[(4,kI)])],aK tb (.len (.slot 0)) 1⟩]
def LX (n:Nat):Row I:=⟨167,[pL 37,pL 37],[kI],LZ n⟩
def Ia (n:Nat):Row I:=⟨114,[pD 103,pD 103],[kI],tC n⟩
theorem pG' (n:Nat)(_:bJ KZ' (FI n))(Z8:bJ KZ' (LX n))(Kj':bJ KZ' (Ia n)):RK (FI (n+1)) :=
 aI [eR bk',eR YI,eR iP',eR OQ,eR Z8,eR Kj'] (su' n) func166
theorem Di' (n:Nat)(Z9:bJ KZ' (FI n))(_:bJ KZ' (LX n))(_:bJ KZ' (Ia n)):RK (LX (n+1)) :=
 aI [eR bk',eR Z9] (pp' n) func167
theorem uR' (n:Nat)(Z9:bJ KZ' (FI n))(Z8:bJ KZ' (LX n))(_:bJ KZ' (Ia n)):RK (Ia (n+1)) :=
 aI [eR Z8,eR Z9] aG func114
theorem Uq:∀ n:Nat,bJ KZ' (FI n)/\bJ KZ' (LX n)/\bJ KZ' (Ia n)
 | 0=>⟨oq (by kernel_rfl),oq (by kernel_rfl),oq (by kernel_rfl)⟩
 | n+1=>by obtain ⟨h0,h1,h2⟩:=Uq n;exact ⟨pG' n h0 h1 h2,Di' n h0 h1 h2,uR' n h0 h1 h2⟩
theorem qu' (n:Nat):bJ KZ' (FI n):=(Uq n).1
theorem cM' (n:Nat):bJ KZ' (Ia n):=(Uq n).2.2
theorem iT' (n:Nat):RK ⟨113,[pD 37,pD 37],[kB],Kn n⟩ :=
 aI [eR (qu' n)] aG func113
def oE' (_:Nat):Hints I:=aO [.j 466 ⟨4611686018427379816,[],[],[(.normal,[(3,kL 103)])]⟩,.l 58 ⟨4611686018427387896,[],[],[(3,kL 103),(4,kI)],[((.exit 0),[(3,kL 103)])],aK tb (.len (.slot 0)) 1⟩,.l 7460 ⟨2147475488,[3],[],[(5,kI)],[((.exit 2),[(5,kI)])],aK tb (.len (.slot 3)) 1⟩]
theorem uX' (n:Nat):RK ⟨183,[.ji 103],[kL 103],HV n⟩ :=
 aI [eR (cM' n)] (oE' n) func183
def ry' (_:Nat):Hints I:=aO [.l 58 ⟨70368744161376,[],[(4,.bW [.d (.int .i64),.d (.int .i64),.d (.str),.row 37 false,.row 151 false,.row 103 false,.row 9 false])],[(6,kI)],[((.exit 0),[]),(.ret,[(5,kI)])],aK tb (.len (.slot 1)) 1⟩]
theorem be' (n:Nat):RK ⟨132,[pI,.ji 103],[kD 37,kI],yJ n⟩ :=
 aI [eR (iT' n),eR (uX' n)] (ry' n) func132
def xC':Hints I:=aO [.j 466 ⟨1152921504606838888,[],[],[(.normal,[(3,kL 9)])]⟩,.l 58 ⟨1152921504606846968,[],[],[(3,kL 9),(4,kI)],[((.exit 0),[(3,kL 9)])],aK tb (.len (.slot 0)) 1⟩,.l 7460 ⟨1073733664,[3],[],[(5,kI)],[((.exit 2),[(5,kI)])],aK tb (.len (.slot 3)) 1⟩]
theorem YF:RK ⟨86,[pL 9],[kL 9],yL⟩ :=
 aI [] xC' func86
theorem Aj':RK ⟨87,[pD 37,pL 9],[kD 37],Lr⟩ :=
 aI [eR YF] aG func87
theorem vX':RK ⟨184,[pD 37,pD 37],[kD 37],FN⟩ :=
 aI [] aG func184
def uE':Hints I:=aO [.j 29 ⟨1048456,[],[(0,kD 42)],[(.normal,[(3,kR 9)])]⟩]
theorem jy':RK ⟨134,[.var 42 (kD 42) true],[kL 9],IL⟩ :=
 aI [eR mI,eR cC',eR YF] uE' func134
theorem tt':RK ⟨185,[.var 42 (kD 42) true],[kD 151],O4⟩ :=
 aI [eR mI,eR O8,eR Qj] aG func185
def Gg (n:Nat):Row I:=⟨88,[.var 42 (kD 42) true,pI],[kD 37],I5 n⟩
def pe' (_:Nat):Hints I:=aO [.s 13 [46],.j 29 ⟨5316911983139663491615228241104863200,[],[(0,kD 42),(4,.bW [.d (.int .i64),.d (.int .i64),.d (.str),.d (.sl 37),.d (.sl 151),.d (.sl 103),.d (.sl 9)])],[(.normal,[]),(.ret,[])]⟩,.j 7540 ⟨2234207627640832,[],[(0,kD 42)],[(.normal,[(50,kB)])]⟩,.j 7541 ⟨141863388262170624,[],[(0,kD 42),(7,kD 37)],[(.normal,[])]⟩,.l 3754 ⟨549487378528,[],[(0,kD 42)],[(5,kR 37),(6,kI)],[((.exit 1),[(5,kR 37)])],aK tb (.slot 6) 2⟩,.l 120794 ⟨77370071863715549769893632,[],[(0,kD 42)],[(8,kR 151),(9,kR 37),(10,kI)],[((.exit 3),[(8,kR 151),(9,kR 37)])],aK tb (.slot 10) 2⟩,.l 483290 ⟨10382058415869198798257999252078592,[],[(0,kD 42)],[(14,kR 103),(15,kI)],[((.exit 5),[(14,kR 103)])],aK tb (.slot 15) 2⟩]
def JY (n:Nat):Row I:=⟨133,[.var 42 (kD 42) true,pI],[kD 37],mX' n⟩
def ny' (_:Nat):Hints I:=aO [.l 28 ⟨1048322,[],[(0,kD 42),(7,.bW [.row 37 false,.d (.bool),.d (.int .i64),.d (.int .i64),.d (.str),.row 37 false,.row 151 false,.row 103 false,.row 9 false])],[(1,kI)],[((.exit 0),[])],aK tb (.slot 1) 2⟩]
def JD (n:Nat):Row I:=⟨186,[.var 42 (kD 42) true,pI,pI],[kD 103],Bp' n⟩
theorem xM' (n:Nat)(_:bJ KZ' (Gg n))(Kk':bJ KZ' (JY n))(_:bJ KZ' (JD n)):RK (Gg (n+1)) :=
 aI [eR Kk',eR jy'] aG func88
theorem zj' (n:Nat)(aa':bJ KZ' (Gg n))(_:bJ KZ' (JY n))(Kl':bJ KZ' (JD n)):RK (JY (n+1)) :=
 aI [eR YO,eR mI,eR aa',eR bf',eR Jc,eR vX',eR jy',eR tt',eR dS',eR Kl',eR (be' n)] (pe' n) func133
theorem tn' (n:Nat)(aa':bJ KZ' (Gg n))(_:bJ KZ' (JY n))(_:bJ KZ' (JD n)):RK (JD (n+1)) :=
 aI [eR aa',eR mI] (ny' n) func186
theorem kF':∀ n:Nat,bJ KZ' (Gg n)/\bJ KZ' (JY n)/\bJ KZ' (JD n)
 | 0=>⟨oq (by kernel_rfl),oq (by kernel_rfl),oq (by kernel_rfl)⟩
 | n+1=>by obtain ⟨h0,h1,h2⟩:=kF' n;exact ⟨xM' n h0 h1 h2,zj' n h0 h1 h2,tn' n h0 h1 h2⟩
theorem AR' (n:Nat):bJ KZ' (Gg n):=(kF' n).1
theorem rU':RK ⟨161,[.d (.int .u8)],[kB],JM⟩ :=
 aI [] aG func161
def sF':Hints I:=aO [.l 58 ⟨562949953159180,[],[],[(3,kI)],[((.exit 0),[]),(.ret,[(2,kB)])],aK tb (.len (.slot 0)) 1⟩]
theorem bR':RK ⟨109,[pS],[kB],La⟩ :=
 aI [eR rU',eR eO',eR aU'] sF' func109
def Bo' (_:Nat):Hints I:=aO [.j 4073 ⟨425352958651173079329218259289710264320,[],[],[(.normal,[(126,kB)])]⟩,.l 26 ⟨4398046510092,[],[],[(3,kI)],[((.exit 0),[]),(.ret,[(2,kB)])],aK tb (.len (.ld 35 (.gF 37 6 (.slot 1)))) 1⟩,.l 133562354 ⟨411376139282411024886683268815639281647236804420309368268914820,[],[],[(7,kI)],[((.exit 3),[]),(.ret,[(2,kB)])],aK tb (.len (.ld 33 (.gF 37 4 (.slot 1)))) 1⟩,.l 1068498922 ⟨948568795032040353016559207911582007103813675119580226322391447047862150789858052,[],[],[(8,kI)],[((.exit 5),[]),(.ret,[(2,kB)])],aK tb (.len (.ld 34 (.gF 37 5 (.slot 1)))) 1⟩]
theorem tY' (n:Nat):RK ⟨61,[pD 37],[kB],PK n⟩ :=
 aI [eR bR',eR U1,eR W9,eR OQ,eR (iT' n),eR (cM' n)] (Bo' n) func61
def vL' (_:Nat):Hints I:=aO [.l 58 ⟨16776204,[],[],[(3,kI)],[((.exit 0),[]),(.ret,[(2,kB)])],aK tb (.len (.ld 32 (.gF 37 3 (.slot 1)))) 1⟩,.l 122 ⟨576460752286646388,[],[],[(4,kI)],[((.exit 2),[]),(.ret,[(2,kB)])],aK tb (.len (.ld 34 (.gF 37 5 (.slot 1)))) 1⟩,.l 31306 ⟨1125831187365956,[],[],[(6,kI)],[((.exit 4),[]),(.ret,[(2,kB)])],aK tb (.len (.ld 32 (.gF 103 0 (.slot 5)))) 1⟩]
def YH (n:Nat):Row I:=⟨36,[pD 37],[kB],wI n⟩
theorem CH' (n:Nat)(Km':bJ KZ' (YH n)):RK (YH (n+1)) :=
 aI [eR (tY' n),eR Km'] (vL' n) func36
theorem UH:∀ n:Nat,bJ KZ' (YH n)
 | 0=>oq (by kernel_rfl)
 | n+1=>CH' n (UH n)
def BJ (n:Nat):Row I:=⟨25,[.var 42 (kD 42) true,pD 31,pI,pI],[kD 37],Po n⟩
def va' (_:Nat):Hints I:=aO [.j 16449533 ⟨386856262276681335905976320,[],[],[(.normal,[(86,kB)])]⟩,.j 263192557 ⟨85029053355366337244815407887308292096,[],[(10,.bW [.d (.int .i64),.d (.int .i64),.d (.str),.row 37 false,.row 151 false,.row 103 false,.row 9 false])],[(.normal,[])]⟩,.j 539018395474 ⟨102844034449451492418213359320247649773843695697413960913387520,[],[(10,kD 37)],[(.normal,[])]⟩,.l 131596274 ⟨2596147810297394171575110715049984,[],[(0,kD 42),(10,.bW [.d (.int .i64),.d (.int .i64),.d (.str),.row 37 false,.row 151 false,.row 103 false,.row 9 false])],[(11,kI)],[((.exit 1),[])],aK tb (.len (.ld 23 (.gF 55 4 (.slot 9)))) 1⟩,.l 67377299434 ⟨102844034829582222281431884733353260024018043977843391611277312,[],[(10,kD 37)],[(12,kI)],[((.exit 3),[])],aK tb (.len (.ld 23 (.gF 55 4 (.slot 9)))) 1⟩]
def Gf (n:Nat):Row I:=⟨48,[.var 42 (kD 42) true,pD 31,pI,pI],[kD 37],qH' n⟩
def AC' (_:Nat):Hints I:=aO [.j 31309 ⟨2305280059260272640,[],[(0,kD 42),(12,.bW [.row 37 false,.d (.bool),.d (.int .i64),.d (.int .i64),.d (.str),.d (.sl 37),.d (.sl 151),.d (.sl 103),.d (.sl 9)])],[(.normal,[])]⟩,.l 122 ⟨36893488147414923776,[],[(0,kD 42)],[(9,kR 103),(11,kI)],[((.exit 0),[(9,kR 103)])],aK tb (.slot 11) 2⟩,.l 31306 ⟨70368677076992,[],[(0,kD 42),(12,.bW [.row 37 false,.d (.bool),.d (.int .i64),.d (.int .i64),.d (.str),.row 37 false,.row 151 false,.row 103 false,.row 9 false])],[(13,kI)],[((.exit 2),[])],aK tb (.slot 10) 1⟩]
def Ie (n:Nat):Row I:=⟨85,[.var 42 (kD 42) true,pD 31,pD 55,pI],[kD 37],zU' n⟩
def tZ' (_:Nat):Hints I:=aO [.s 6 [28],.j 125 ⟨604462333346562283935232,[],[(0,kD 42)],[(.normal,[(9,kR 151),(10,kR 37)])]⟩,.j 978 ⟨72057594033735168,[],[(0,kD 42)],[(.normal,[(9,kR 151),(10,kR 37)])]⟩,.j 7824 ⟨8585740288,[],[(0,kD 42)],[(.normal,[(32,kB)])]⟩,.l 122 ⟨72057594037898752,[],[(0,kD 42)],[(9,kR 151),(10,kR 37),(11,kI)],[((.exit 0),[(9,kR 151),(10,kR 37)])],aK tb (.len (.ld 52 (.gF 55 5 (.slot 6)))) 1⟩]
def Gq (n:Nat):Row I:=⟨84,[.var 42 (kD 42) true,pD 31,pD 55,pI],[kD 37],yO' n⟩
theorem yt' (n:Nat)(_:bJ KZ' (BJ n))(ab':bJ KZ' (Gf n))(_:bJ KZ' (Ie n))(_:bJ KZ' (Gq n)):RK (BJ (n+1)) :=
 aI [eR ab',eR (UH n),eR YO] aG func25
theorem Ad' (n:Nat)(N9:bJ KZ' (BJ n))(ab':bJ KZ' (Gf n))(Kn':bJ KZ' (Ie n))(Ko':bJ KZ' (Gq n)):RK (Gf (n+1)) :=
 aI [eR YO,eR mI,eR dg',eR fW',eR Qj,eR do',eR O8,eR el',eR Jc,eR N9,eR Ko',eR Kn',eR ab',eR YF,eR Aj',eR (AR' n)] (va' n) func48
theorem Bi' (n:Nat)(N9:bJ KZ' (BJ n))(_:bJ KZ' (Gf n))(_:bJ KZ' (Ie n))(_:bJ KZ' (Gq n)):RK (Ie (n+1)) :=
 aI [eR mI,eR N9,eR (be' n),eR Jc] (AC' n) func85
theorem pt' (n:Nat)(N9:bJ KZ' (BJ n))(_:bJ KZ' (Gf n))(_:bJ KZ' (Ie n))(_:bJ KZ' (Gq n)):RK (Gq (n+1)) :=
 aI [eR mI,eR N9,eR dS',eR Jc] (tZ' n) func84
theorem fd':∀ n:Nat,bJ KZ' (BJ n)/\bJ KZ' (Gf n)/\bJ KZ' (Ie n)/\bJ KZ' (Gq n)
 | 0=>⟨oq (by kernel_rfl),oq (by kernel_rfl),oq (by kernel_rfl),oq (by kernel_rfl)⟩
 | n+1=>by obtain ⟨h0,h1,h2,h3⟩:=fd' n;exact ⟨yt' n h0 h1 h2 h3,Ad' n h0 h1 h2 h3,Bi' n h0 h1 h2 h3,pt' n h0 h1 h2 h3⟩
theorem oC' (n:Nat):bJ KZ' (BJ n):=(fd' n).1
theorem Bd' (n:Nat):RK ⟨10,[pL 3,pL 3],[kD 31,kD 37],Eo n⟩ :=
 aI [eR mI,eR DR',eR (oC' n)] aG func10
def un':Hints I:=aO [.l 28 ⟨2097056,[],[],[(5,kI)],[((.exit 0),[(5,kI)])],aK tb (.len (.slot 0)) 1⟩]
theorem wO':RK ⟨91,[pL 3,pI],[kL 3],QM⟩ :=
 aI [] un' func91
def AE':Hints I:=aO [.l 58 ⟨131064,[],[],[(3,kL 3),(4,kI)],[((.exit 0),[(3,kL 3)])],aK tb (.len (.slot 0)) 1⟩]
theorem wb':RK ⟨50,[pL 3],[kL 3],Kb⟩ :=
 aI [eR wO'] AE' func50
theorem CK':RK ⟨26,[pD 25],[kD 25],Pt⟩ :=
 aI [eR wb'] aG func26
def Bl':Hints I:=aO [.l 58 ⟨67104832,[],[(0,kD 42),(5,.bW [.row 3 false,.row 3 false,.d (.bool)])],[(6,kI)],[((.exit 0),[])],aK tb (.slot 6) 2⟩,.l 122 ⟨4397778075776,[],[(0,kD 42),(5,.bW [.row 3 false,.row 3 false,.d (.bool)])],[(7,kI)],[((.exit 2),[])],aK tb (.slot 7) 2⟩]
theorem ku':RK ⟨11,[.var 42 (kD 42) true,pD 31],[kD 25],Ka⟩ :=
 aI [eR mI,eR CK'] Bl' func11
def Cb':Hints I:=aO [.l 122 ⟨8380608,[],[(5,kD 42)],[(6,kR 25),(7,kI)],[((.exit 0),[(6,kR 25)])],aK tb (.slot 7) 2⟩]
theorem Aq':RK ⟨12,[pD 31,pL 3],[kR 25],QO⟩ :=
 aI [eR mI,eR ku'] Cb' func12
theorem UU:RK ⟨56,[pD 31,pI],[kB],yN⟩ :=
 aI [] aG func56
def tW':Hints I:=aO [.j 2092029 ⟨2706308199418088717232151174730781556736,[],[],[(.normal,[(122,kB)])]⟩,.j 535560189 ⟨3568119231764899702645714923623737840956866560,[],[],[(.normal,[(149,kB)])]⟩,.l 26 ⟨67106864,[],[],[(5,kI)],[((.exit 0),[]),(.ret,[(4,kB)])],aK tb (.len (.ld 23 (.gF 55 4 (.slot 3)))) 1⟩,.l 68551704562 ⟨1606938044257528773904631189422958917689486710763136902759952,[],[],[(9,kI)],[((.exit 3),[]),(.ret,[(4,kB)])],aK tb (.len (.ld 52 (.gF 55 5 (.slot 3)))) 1⟩]
theorem Bj':RK ⟨62,[pD 31,pD 55],[kB],Oj⟩ :=
 aI [eR UU,eR U1,eR bR',eR W9,eR OQ] tW' func62
theorem xA':RK ⟨63,[pD 55],[kB],QC⟩ :=
 aI [] aG func63
def BH' (n:Nat):Hints I:=aO [.l 58 ⟨1073709068,[],[],[(3,kI)],[((.exit 0),[]),(.ret,[(2,kI)])],aK tb (.len (.ld 29 (.gF 31 0 (.slot 1)))) 1⟩,.l 250 ⟨4951760157141521082416628192,[],[],[(4,kR 4),(5,kI)],[((.exit 2),[(4,kR 4)])],aK tb (.len (.ld 29 (.gF 31 0 (.slot 1)))) 1⟩,.l 506 ⟨10136253041668693690874029146628,[],[],[(4,kR 4),(9,kI)],[((.exit 8),[(4,kR 4)]),(.ret,[(2,kI),(4,kR 4)])],aK tb (.len (.slot 4)) 1⟩,.l 16018 ⟨4951760157141518900573241792,[],[],[(4,kR 4),(6,kI)],[((.exit 4),[(4,kR 4)])],aK tb (.len (.ld 29 (.gF 31 0 (.slot 1)))) 1⟩,.l 4100682 ⟨4835703278177041722114432,[],[],[(4,kR 4),(7,kB),(8,kI)],[((.exit 6),[(4,kR 4),(7,kB)])],λ_=>some n⟩]
theorem xK' (n:Nat):RK ⟨37,[pD 31],[kI],EY n⟩ :=
 aI [eR UU,eR Bj',eR xA'] (BH' n) func37
def Bm':Hints I:=aO [.l 58 ⟨67100752,[5],[],[(6,kI)],[((.exit 0),[]),(.ret,[(4,kB)])],aK tb (.len (.slot 5)) 1⟩]
theorem AH':RK ⟨32,[pD 31,pD 25],[kB],QR⟩ :=
 aI [eR UU] Bm' func32
def so':Hints I:=aO [.l 26 ⟨2097136,[],[],[(5,kI)],[((.exit 0),[]),(.ret,[(4,kI)])],aK tb (.len (.ld 33 (.gF 37 4 (.slot 2)))) 1⟩]
theorem yN':RK ⟨168,[pD 37,pD 151],[kI],Qw⟩ :=
 aI [] so' func168
def yF':Hints I:=aO [.l 26 ⟨4194288,[],[],[(5,kI)],[((.exit 0),[]),(.ret,[(4,kI)])],aK tb (.len (.ld 52 (.gF 55 5 (.slot 2)))) 1⟩]
theorem oY':RK ⟨169,[pD 55,pD 151],[kI],Fe⟩ :=
 aI [] yF' func169
def py' (_:Nat):Hints I:=aO [.l 122 ⟨18014398509220672,[],[],[(8,kI)],[((.exit 0),[]),(.ret,[(6,kB)])],aK tb (.len (.ld 34 (.gF 37 5 (.slot 3)))) 1⟩]
def Hw (n:Nat):Row I:=⟨117,[pD 37,pD 31,pD 55],[kB],Bv n⟩
def vV' (_:Nat):Hints I:=aO [.j 3730 ⟨575334852396581888,[],[],[(.normal,[(10,kI)])]⟩,.j 14925 ⟨145268109580462720000,[],[],[(.normal,[(10,kI)])]⟩,.l 26 ⟨68719474880,[],[],[(7,kI)],[((.exit 0),[]),(.ret,[(6,kB)])],aK tb (.len (.ld 52 (.gF 55 5 (.slot 5)))) 1⟩,.l 58 ⟨75557863725845603944256,[],[],[(8,kI)],[((.exit 2),[]),(.ret,[(6,kB)])],aK tb (.len (.ld 33 (.gF 37 4 (.slot 3)))) 1⟩]
def Gy (n:Nat):Row I:=⟨116,[pD 37,pD 31,pD 55],[kB],Dx n⟩
def tE' (_:Nat):Hints I:=aO [.l 506806140914 ⟨365364258960126464239350440319934430733230145856,[],[],[(8,kI)],[((.exit 1),[]),(.ret,[(6,kB)])],aK tb (.len (.ld 23 (.gF 55 4 (.slot 7)))) 1⟩,.l 2027224563698 ⟨95779509802480722744478485512061607693151539203932736,[],[],[(9,kI)],[((.exit 3),[]),(.ret,[(6,kB)])],aK tb (.len (.ld 23 (.gF 55 4 (.slot 7)))) 1⟩,.l 16217796509690 ⟨12855112035213460536787957001890350341026617553047063680255040,[],[],[(10,kI)],[((.exit 5),[]),(.ret,[(6,kB)])],aK tb (.len (.ld 35 (.gF 37 6 (.slot 3)))) 1⟩]
def BB (n:Nat):Row I:=⟨64,[pD 37,pD 31,pI],[kB],jc n⟩
def tb' (_:Nat):Hints I:=aO [.l 58 ⟨1073733824,[],[],[(7,kI)],[((.exit 0),[]),(.ret,[(6,kB)])],aK tb (.len (.slot 0)) 1⟩]
def Eu (n:Nat):Row I:=⟨115,[pL 37,pD 31,pL 3],[kB],AJ n⟩
theorem xb' (n:Nat)(_:bJ KZ' (Hw n))(_:bJ KZ' (Gy n))(Ei:bJ KZ' (BB n))(ac':bJ KZ' (Eu n)):RK (Hw (n+1)) :=
 aI [eR ac',eR Ei] (py' n) func117
theorem Bv' (n:Nat)(_:bJ KZ' (Hw n))(_:bJ KZ' (Gy n))(Ei:bJ KZ' (BB n))(_:bJ KZ' (Eu n)):RK (Gy (n+1)) :=
 aI [eR yN',eR oY',eR Ei] (vV' n) func116
theorem sH' (n:Nat)(Kq':bJ KZ' (Hw n))(Kr':bJ KZ' (Gy n))(Ei:bJ KZ' (BB n))(ac':bJ KZ' (Eu n)):RK (BB (n+1)) :=
 aI [eR ac',eR Kr',eR Kq',eR Ei] (tE' n) func64
theorem pK' (n:Nat)(_:bJ KZ' (Hw n))(_:bJ KZ' (Gy n))(Ei:bJ KZ' (BB n))(_:bJ KZ' (Eu n)):RK (Eu (n+1)) :=
 aI [eR Ei] (tb' n) func115
theorem gO':∀ n:Nat,bJ KZ' (Hw n)/\bJ KZ' (Gy n)/\bJ KZ' (BB n)/\bJ KZ' (Eu n)
 | 0=>⟨oq (by kernel_rfl),oq (by kernel_rfl),oq (by kernel_rfl),oq (by kernel_rfl)⟩
 | n+1=>by obtain ⟨h0,h1,h2,h3⟩:=gO' n;exact ⟨xb' n h0 h1 h2 h3,Bv' n h0 h1 h2 h3,sH' n h0 h1 h2 h3,pK' n h0 h1 h2 h3⟩
theorem xH' (n:Nat):bJ KZ' (BB n):=(gO' n).2.2.1
def sd' (_:Nat):Hints I:=aO [.l 26 ⟨33554112,[],[],[(7,kI)],[((.exit 0),[]),(.ret,[(6,kB)])],aK tb (.len (.ld 23 (.gF 25 0 (.slot 5)))) 1⟩,.l 58 ⟨1099478073664,[],[],[(8,kI)],[((.exit 2),[]),(.ret,[(6,kB)])],aK tb (.len (.ld 23 (.gF 25 1 (.slot 5)))) 1⟩]
theorem yW' (n:Nat):RK ⟨38,[pD 37,pD 31,pD 25],[kB],Yz n⟩ :=
 aI [eR (xH' n)] (sd' n) func38
theorem zA' (n:Nat):RK ⟨17,[pD 37,pD 31,pD 25],[kB],Qv n⟩ :=
 aI [eR (UH n),eR (xK' n),eR AH',eR (yW' n)] aG func17
def Dz' (_:Nat):Hints I:=aO [.l 2042 ⟨2305561534236999936,[],[],[(14,kI)],[((.exit 0),[]),(.ret,[(8,kB)])],aK tb (.len (.slot 13)) 1⟩]
def Cj' (n:Nat):Row I:=⟨5,[pL 3,pL 3,pL 3,pL 3],[kB],Lj n⟩
theorem Dx' (n:Nat):RK (Cj' n) :=
 aI [eR BW',eR (nf' n),eR (Bd' n),eR ku',eR Aq',eR (cZ' n),eR (zA' n)] (Dz' n) func5
end Go.Qx
end
namespace Go.Pl
open Go Go.RowKit Go.Sx Go.Qx Go.Proofs.YtjbmbpabpaeklaaGreatDoor
def rR (w:World):S:=⟨w,λb=>match w.heap[b]? with | some (.cells c _ _)=>(c.size,0) | _=>(0,0)⟩
theorem wj' {w:World}{b o:Nat}{cs:List Value}(hn:cs≠[])(h:w.rangeAt b o cs)(hf:∀ j,j<cs.length->w.frozen? ⟨b,o+j,none⟩=false):oz (rR w) b o cs:=by
 refine ⟨⟨?_,hf⟩,h⟩;have hl:0<cs.length:=NY'.2 hn;have hj:=h (cs.length-1) _ (Lb' (by omega))
 unfold World.cell? at hj;simp only at hj;split at hj
 ·rename_i c e f hb;have h2:o+(cs.length-1)<c.size:=by simp only [Option.isSome_none,Mi',if_false] at hj;exact (MI'.1 hj).1
  show o+cs.length<=(match w.heap[b]? with | some (.cells c _ _)=>(c.size,0) | _=>(0,0)).1
  rw [hb];show o+cs.length<=c.size;omega
 ·cases hj
theorem qN' {w:World}{base:Nat}{a:Addr}{n:Nat}{cs:List Value}(h:w.cells? base a n=some cs) :
 cs.length=n/\∀ (i:Nat) (v:Value),cs[i]?=some v->w.cell? (a.add i)=some v:=by
 unfold World.cells? at h;split at h
 ·have hl:cs.length=n:=by simpa using mapM_some_length h
  refine ⟨hl,λi v hv=>?_⟩;have hi:i<n:=by have:=(La'.1 hv).1; omega
  have:=mapM_some_get h i i (by simp [hi])
  rw [this,hv]
 ·cases h
theorem sK' (a:Addr)(x j:Nat):(a.add x).add j=a.add (x+j):=by
 unfold Addr.add;by_cases hx:x=0
 ·subst hx; simp
 ·by_cases hj:j=0
  ·subst hj; simp [hx]
  ·rw [if_neg hj,if_neg hx,if_neg (by omega),MC']
theorem Cl' {w:World}{a:Addr}{v:Value}(h:w.cell? a=some v):a.spot=none:=by
 unfold World.cell? at h;split at h
 ·split at h
  ·cases h
  ·rename_i hs; simpa using hs
 ·cases h
section
variable {H:Type}{enc:TypeId×Value->H}{P:Program}{w:World}{base:Nat}{spare:Nat->Bool}{held:Bool}
theorem R4 {α:Type} [Rp α] {fuel:Nat}{t e:TypeId}{cs:List Value}{x:DataW H×List MemPlace}(ht:P.underlying t=some (.slice e))(hc:P.cellsOf e=Rp.sz α)(bk:α->Nat)
 (hrd:∀ (n:Nat) (cs:List Value) (x:DataW H×List MemPlace),n<fuel->w.noneFrozen x.2->DataW.trod enc P w base spare held n e cs=some x->∃ d:α,Rp.cells (rR w) d cs/\bk d<=Rows.uptoBulk x.1) (hz:w.noneFrozen x.2)
 (h:DataW.trod enc P w base spare held fuel t cs=some x) :
 ∃ (ds:List α) (A:Option Addr) (c:Nat),cs=[.slice A ds.length c]/\Sl (rR w) ds A c/\(ds.map bk).sum+1<=Rows.uptoBulk x.1:=by
 rcases DataW.trod_slice ht h with ⟨rfl,rfl⟩ | ⟨a,len,cap,elems,rest,n,rfl,rfl,rfl,hb,hl,hm,hle,hget,-,-⟩
 ·exact ⟨[],none,0,rfl,Sl.AV _ _ _ (Mb' _),by simp [Rows.uptoBulk]⟩
 have hze:∀ y∈elems,w.noneFrozen y.2:=λy hy b off hm'=>hz b off (LT' _ (Ng'.2 ⟨y,LN' _ hy,hm'⟩));have hzr:∀ i,i<(elems.length+rest.length)*P.cellsOf e->w.frozen? ⟨a.block,a.off+i,none⟩=false:=λi hi=>hz _ _ (LN' _ (Lx'.2 ⟨i,List.mem_range.2 hi,rfl⟩));have key:∀ (m i:Nat),i+m=len->∃ (ds:List α) (cs:List Value),ds.length=m/\dJ (rR w) ds cs /\
  (∀ (j:Nat) (v:Value),cs[j]?=some v->w.cell? (a.add (i*Rp.sz α+j))=some v)/\(ds.map bk).sum<=Rows.uptoBulkAll ((elems.drop i).map (·.1)):=by
  intro m
  induction m with
  | zero=>intro i _; exact ⟨[],[],rfl,rfl,λj v hv=>by simp at hv,by simp⟩
  | succ m ih =>
    intro i hi;obtain ⟨ds,cs,h1,h2,h3,h4⟩:=ih (i+1) (by omega)
    have hlt:i<elems.length:=by omega
    have hg:=hget i (by omega)
    rw [Lb' hlt,Option.bind_eq_some_iff] at hg;obtain ⟨cs0,hcs,htr⟩:=hg;obtain ⟨d,hd,hbk⟩:=hrd n cs0 _ (by omega) (hze _ (Lu' hlt)) htr
    obtain ⟨hcl,hci⟩:=qN' hcs;rw [hc] at hcl hci;refine ⟨d::ds,cs0++cs,by simp [h1],⟨cs0,cs,rfl,hd,h2⟩,?_,?_⟩
    ·intro j v hv;by_cases hj:j<Rp.sz α
     ·rw [LD' (by omega)] at hv
      rw [<- sK'];exact hci j v hv
     ·rw [Ls' (by omega)] at hv
      have:=h3 _ v hv;rw [hcl,LP',NF'] at this;have e:i*Rp.sz α+Rp.sz α+(j-Rp.sz α)=i*Rp.sz α+j:=by omega
      rw [e] at this;exact this
    ·rw [LO' hlt];simp only [LJ',List.sum_cons,Rows.uptoBulkAll];omega
 obtain ⟨ds,cs,h1,h2,h3,h4⟩:=key len 0 (by omega)
 simp only [Nat.zero_mul,LM',List.drop_zero] at h3 h4;refine ⟨ds,some a,cap,by rw [h1],⟨by omega,hm,cs,h2,λhn=>?_⟩,by simp only [Rows.uptoBulk]; omega⟩
 have hne:=h2.ne_nil hn;cases cs with
 | nil=>exact absurd rfl hne
 | cons v0 r =>
   have h0:=h3 0 v0 rfl;have hs:a.spot=none:=Cl' (by simpa [Addr.add] using h0)
   obtain ⟨b,o,sp⟩:=a;simp only at hs;subst hs;refine ⟨b,o,rfl,wj' (by simp) ?_ (λj hj=>hzr j (by have h5:=h2.len;rw [h5,h1] at hj;rw [hc,hle];exact MB' hj (LA' _ (Nat.le_add_right _ _))))⟩
   intro j v hv;have:=h3 j v hv;unfold Addr.add at this;by_cases hj:j=0
   ·subst hj; simpa using this
   ·rw [if_neg hj] at this;exact this
end
theorem Xo {α:Type}{l:List α}(h:l.length=2):∃ a b,l=[a,b]:=by
 match l,h with
 | [a,b],_=>exact ⟨a,b,rfl⟩
end Go.Pl
namespace Go.Pl
open Go Go.RowKit Go.Sx Go.Qx
def BH (_:Int):Nat:=1
def Ph (l:List Int):Nat:=(l.map BH).sum+1
end Go.Pl
section
open Go.Proofs.Tryz renaming prog->KZ'
open Go.Proofs.Tryz
namespace Go.Pl
open Go Go.RowKit Go.Sx Go.Qx Go.Proofs.YtjbmbpabpaeklaaGreatDoor
theorem c3:KZ'.cellsOf 3=1:=by kernel_rfl
section
variable {H:Type}{enc:TypeId×Value->H}{w:World}{base:Nat}{spare:Nat->Bool}{held:Bool}
theorem Qg {n:Nat}{cs:List Value}{x:DataW H×List MemPlace}(hz:w.noneFrozen x.2)(h:DataW.trod enc KZ' w base spare held n 3 cs=some x):∃ d:Int,(bS .i64).cells (rR w) d cs/\BH d<=Rows.uptoBulk x.1:=by obtain ⟨k,e0,rfl,_⟩:=DataW.trod_int underlying3 h;exact ⟨k,e0,by simp [BH,Rows.uptoBulk]⟩
end
end Go.Pl
end
end

/- Part 3. -/
import Derived.Test.YtjbmbpabpaeklaaGreatDoorK2
import Derived.BigCall
import Derived.ChangeArms
import Derived.KernelRfl
import Derived.OpenShut
import Derived.Shelf.Strings.Builder1
import Derived.Test.YtjbmbpabpaeklaaGreatDoorProg
import Derived.Test.YtjbmbpabpaeklaaGreatDoorRows
import Derived.WalkKit
section
open Go.Proofs.Tryz renaming prog->ig'
open Nat renaming ble->iX',zero_le->iP'
open Go.Proofs.Tryz
namespace Go.Qx
open Go Go.RowKit Go.Sx
set_option maxRecDepth 100000
abbrev Nz (v:ai):(List Int)×(List Int)×Bool:=(v.Pos,v.Neg,v.Lists)
abbrev cx' (x:(List Int)×(List Int)×Bool):ai:=⟨x.1,x.2.1,x.2.2⟩
@[reducible] def jl:Rp ai:=jM Nz (bT (@aW _ (bf .i64)) (bT (@aW _ (bf .i64)) (jv)))
abbrev MI (v:iD):Key×Int×Bool:=(v.uJ,v.Node,v.Optional)
abbrev QI (x:Key×Int×Bool):iD:=⟨x.1,x.2.1,x.2.2⟩
@[reducible] def vU:Rp iD:=jM MI (bT (ol) (bT (bf .i64) (jv)))
abbrev MJ (v:aS):Int×Int×Int×ByteArray×(List Int)×(List iD)×(Int×Int):=(v.Kind,v.Lo,v.Hi,v.Text,v.Kids,v.Fields,v.Rest)
abbrev Zl (x:Int×Int×Int×ByteArray×(List Int)×(List iD)×(Int×Int)):aS:=⟨x.1,x.2.1,x.2.2.1,x.2.2.2.1,x.2.2.2.2.1,x.2.2.2.2.2.1,x.2.2.2.2.2.2⟩
@[reducible] def uQ:Rp aS:=jM MJ (bT (bf .i64) (bT (bf .i64) (bT (bf .i64) (bT (jI) (bT (@aW _ (bf .i64)) (bT (@aW _ (vU)) (bT (bf .i64) (bf .i64))))))))
abbrev LA (v:aO):(List aS)×Int:=(v.Nodes,v.Root)
abbrev R4 (x:(List aS)×Int):aO:=⟨x.1,x.2⟩
@[reducible] def Hl:Rp aO:=jM LA (bT (@aW _ (uQ)) (bf .i64))
abbrev J4 (v:ni):(List ai):=v.zJ
abbrev UN (x:(List ai)):ni:=⟨x⟩
@[reducible] def GI:Rp ni:=jM J4 (@aW _ (jl))
abbrev MH (v:fu):(List Int)×(List Int)×(List Int)×(List Int):=(v.pos,v.neg,v.Qv,v.Qw)
abbrev YT (x:(List Int)×(List Int)×(List Int)×(List Int)):fu:=⟨x.1,x.2.1,x.2.2.1,x.2.2.2⟩
@[reducible] def Fb:Rp fu:=jM MH (bT (@aW _ (bf .i64)) (bT (@aW _ (bf .i64)) (bT (@aW _ (bf .i64)) (@aW _ (bf .i64)))))
abbrev J5 (v:dG):Int×Int:=(v.Kind,v.dm)
abbrev Si (x:Int×Int):dG:=⟨x.1,x.2⟩
@[reducible] def FN:Rp dG:=jM J5 (bT (bf .i64) (bf .i64))
abbrev NS (v:aH):Int×Int:=(v.Lo,v.Hi)
abbrev Ug (x:Int×Int):aH:=⟨x.1,x.2⟩
@[reducible] def vV:Rp aH:=jM NS (bT (bf .i64) (bf .i64))
abbrev Kg (v:kQ):(List Int)×Bool×Int:=(v.ng,v.Fails,v.Result)
abbrev SG (x:(List Int)×Bool×Int):kQ:=⟨x.1,x.2.1,x.2.2⟩
@[reducible] def wD:Rp kQ:=jM Kg (bT (@aW _ (bf .i64)) (bT (jv) (bf .i64)))
abbrev Mf (v:eG):Val×(List Key)×(List kQ)×(List ai):=(v.Leaf,v.Keys,v.Forms,v.zK)
abbrev Zc (x:Val×(List Key)×(List kQ)×(List ai)):eG:=⟨x.1,x.2.1,x.2.2.1,x.2.2.2⟩
@[reducible] def xR:Rp eG:=jM Mf (bT (l9) (bT (@aW _ (ol)) (bT (@aW _ (wD)) (@aW _ (jl)))))
abbrev Nk (v:iE):(List ai)×Bool×ai:=(v.ng,v.Fails,v.Result)
abbrev Tk (x:(List ai)×Bool×ai):iE:=⟨x.1,x.2.1,x.2.2⟩
@[reducible] def sV:Rp iE:=jM Nk (bT (@aW _ (jl)) (bT (jv) (jl)))
abbrev Og (v:bM):eG×(List (List iE)):=(v.Alternative,v.Entries)
abbrev cS' (x:eG×(List (List iE))):bM:=⟨x.1,x.2⟩
@[reducible] def E5:Rp bM:=jM Og (bT (xR) (@aW _ (@aW _ (sV))))
abbrev NV (v:dV):Bool×(List ByteArray):=(v.iV,v.fF)
abbrev Vv (x:Bool×(List ByteArray)):dV:=⟨x.1,x.2⟩
@[reducible] def tq:Rp dV:=jM NV (bT (jv) (@aW _ (jI)))
abbrev MO (v:fw):Int×Int×(List aH)×dV×(List Int)×(List Int)×(List ByteArray)×(List ByteArray):=(v.Kind,v.dm,v.Ints,v.Names,v.Pos,v.Neg,v.Vars,v.dZ')
abbrev Vs (x:Int×Int×(List aH)×dV×(List Int)×(List Int)×(List ByteArray)×(List ByteArray)):fw:=⟨x.1,x.2.1,x.2.2.1,x.2.2.2.1,x.2.2.2.2.1,x.2.2.2.2.2.1,x.2.2.2.2.2.2.1,x.2.2.2.2.2.2.2⟩
@[reducible] def Dt:Rp fw:=jM MO (bT (bf .i64) (bT (bf .i64) (bT (@aW _ (vV)) (bT (tq) (bT (@aW _ (bf .i64)) (bT (@aW _ (bf .i64)) (bT (@aW _ (jI)) (@aW _ (jI)))))))))
abbrev OP (v:iF):(List ai):=v.Parts
abbrev bA' (x:(List ai)):iF:=⟨x⟩
@[reducible] def Er:Rp iF:=jM OP (@aW _ (jl))
abbrev OB (v:j5):dV:=v.Names
abbrev Xz (x:dV):j5:=⟨x⟩
@[reducible] def Fs:Rp j5:=jM OB (tq)
def OA:List TE:=[⟨2,Int,bf .i64⟩,
 ⟨3,Int,bf .i64⟩,
 ⟨4,Bool,jv⟩,
 ⟨9,ByteArray,jI⟩,
 ⟨22,List ai,@aW _ (jl)⟩,
 ⟨23,List Int,@aW _ (bf .i64)⟩,
 ⟨25,ai,jl⟩,
 ⟨29,List aS,@aW _ (uQ)⟩,
 ⟨31,aO,Hl⟩,
 ⟨32,List Val,@aW _ (l9)⟩,
 ⟨33,List Key,@aW _ (ol)⟩,
 ⟨34,List dA,@aW _ (uH)⟩,
 ⟨35,List ByteArray,@aW _ (jI)⟩,
 ⟨37,Val,l9⟩,
 ⟨46,ni,GI⟩,
 ⟨52,List iD,@aW _ (vU)⟩,
 ⟨53,Int×Int,bT (bf .i64) (bf .i64)⟩,
 ⟨55,aS,uQ⟩,
 ⟨103,dA,uH⟩,
 ⟨128,fu,Fb⟩,
 ⟨137,dG,FN⟩,
 ⟨142,List aH,@aW _ (vV)⟩,
 ⟨151,Key,ol⟩,
 ⟨156,iD,vU⟩,
 ⟨189,aH,vV⟩,
 ⟨234,List kQ,@aW _ (wD)⟩,
 ⟨236,eG,xR⟩,
 ⟨237,List (List iE),@aW _ (@aW _ (sV))⟩,
 ⟨239,bM,E5⟩,
 ⟨269,dV,tq⟩,
 ⟨271,fw,Dt⟩,
 ⟨274,List iE,@aW _ (sV)⟩,
 ⟨279,iE,sV⟩,
 ⟨329,iF,Er⟩,
 ⟨360,j5,Fs⟩,
 ⟨377,kQ,wD⟩]
abbrev I (E:TypeId):Type:=(wP OA E).α
instance rI (E:TypeId):Rp (I E):=(wP OA E).rp
def LC:Fd I (I 25) inferInstance:=(iZ (rg:=jl) (dh (dB 3:Fd I (List Int) (@aW _ (bf .i64))) (dh (dB 3:Fd I (List Int) (@aW _ (bf .i64))) ((tJ:Fd I Bool (jv))))) Nz cx' (λ_=>rfl) (λ_ _ _=>Iff.rfl):Fd I ai jl)
def bS':Fd I (I 31) inferInstance:=(iZ (rg:=Hl) (dh (dB 55:Fd I (List aS) (@aW _ (uQ))) ((jd .i64:Fd I Int (bf .i64)))) LA R4 (λ_=>rfl) (λ_ _ _=>Iff.rfl):Fd I aO Hl)
def ET:Fd I (I 37) inferInstance:=(iZ (rg:=l9) (dh (jd .i64:Fd I Int (bf .i64)) (dh (jd .i64:Fd I Int (bf .i64)) (dh (Ci:Fd I ByteArray (jI)) (dh (dB 37:Fd I (List Val) (@aW _ (l9))) (dh (dB 151:Fd I (List Key) (@aW _ (ol))) (dh (dB 103:Fd I (List dA) (@aW _ (uH))) ((dB 9:Fd I (List ByteArray) (@aW _ (jI)))))))))) Val.to Val.of (λ_=>rfl) Val.zF:Fd I Val l9)
def aC':Fd I (I 46) inferInstance:=(iZ (rg:=GI) ((dB 25:Fd I (List ai) (@aW _ (jl)))) J4 UN (λ_=>rfl) (λ_ _ _=>Iff.rfl):Fd I ni GI)
def Le:Fd I (I 53) inferInstance:=(dh (jd .i64:Fd I Int (bf .i64)) ((jd .i64:Fd I Int (bf .i64))):Fd I (Int×Int) (bT (bf .i64) (bf .i64)))
def bn':Fd I (I 55) inferInstance:=(iZ (rg:=uQ) (dh (jd .i64:Fd I Int (bf .i64)) (dh (jd .i64:Fd I Int (bf .i64)) (dh (jd .i64:Fd I Int (bf .i64)) (dh (Ci:Fd I ByteArray (jI)) (dh (dB 3:Fd I (List Int) (@aW _ (bf .i64))) (dh (dB 156:Fd I (List iD) (@aW _ (vU))) ((rf 53 Le:Fd I (Int×Int) (bT (bf .i64) (bf .i64)))))))))) MJ Zl (λ_=>rfl) (λ_ _ _=>Iff.rfl):Fd I aS uQ)
def ZI:Fd I (I 103) inferInstance:=(iZ (rg:=uH) (dh (dB 37:Fd I (List Val) (@aW _ (l9))) (dh (tJ:Fd I Bool (jv)) ((rf 37 ET:Fd I Val (l9))))) dA.to dA.of (λ_=>rfl) dA.zF:Fd I dA uH)
def Rs:Fd I (I 128) inferInstance:=(iZ (rg:=Fb) (dh (dB 3:Fd I (List Int) (@aW _ (bf .i64))) (dh (dB 3:Fd I (List Int) (@aW _ (bf .i64))) (dh (dB 3:Fd I (List Int) (@aW _ (bf .i64))) ((dB 3:Fd I (List Int) (@aW _ (bf .i64))))))) MH YT (λ_=>rfl) (λ_ _ _=>Iff.rfl):Fd I fu Fb)
def Xc:Fd I (I 137) inferInstance:=(iZ (rg:=FN) (dh (jd .i64:Fd I Int (bf .i64)) ((jd .i64:Fd I Int (bf .i64)))) J5 Si (λ_=>rfl) (λ_ _ _=>Iff.rfl):Fd I dG FN)
def Np:Fd I (I 151) inferInstance:=(iZ (rg:=ol) (dh (jd .i64:Fd I Int (bf .i64)) ((Ci:Fd I ByteArray (jI)))) Key.to Key.of (λ_=>rfl) Key.zF:Fd I Key ol)
def cr':Fd I (I 156) inferInstance:=(iZ (rg:=vU) (dh (rf 151 Np:Fd I Key (ol)) (dh (jd .i64:Fd I Int (bf .i64)) ((tJ:Fd I Bool (jv))))) MI QI (λ_=>rfl) (λ_ _ _=>Iff.rfl):Fd I iD vU)
def bG':Fd I (I 189) inferInstance:=(iZ (rg:=vV) (dh (jd .i64:Fd I Int (bf .i64)) ((jd .i64:Fd I Int (bf .i64)))) NS Ug (λ_=>rfl) (λ_ _ _=>Iff.rfl):Fd I aH vV)
def LV:Fd I (I 236) inferInstance:=(iZ (rg:=xR) (dh (rf 37 ET:Fd I Val (l9)) (dh (dB 151:Fd I (List Key) (@aW _ (ol))) (dh (dB 377:Fd I (List kQ) (@aW _ (wD))) ((dB 25:Fd I (List ai) (@aW _ (jl))))))) Mf Zc (λ_=>rfl) (λ_ _ _=>Iff.rfl):Fd I eG xR)
def af':Fd I (I 239) inferInstance:=(iZ (rg:=E5) (dh (rf 236 LV:Fd I eG (xR)) ((dB 274:Fd I (List (List iE)) (@aW _ (@aW _ (sV)))))) Og cS' (λ_=>rfl) (λ_ _ _=>Iff.rfl):Fd I bM E5)
def Gm:Fd I (I 269) inferInstance:=(iZ (rg:=tq) (dh (tJ:Fd I Bool (jv)) ((dB 9:Fd I (List ByteArray) (@aW _ (jI))))) NV Vv (λ_=>rfl) (λ_ _ _=>Iff.rfl):Fd I dV tq)
def W9:Fd I (I 271) inferInstance:=(iZ (rg:=Dt) (dh (jd .i64:Fd I Int (bf .i64)) (dh (jd .i64:Fd I Int (bf .i64)) (dh (dB 189:Fd I (List aH) (@aW _ (vV))) (dh (rf 269 Gm:Fd I dV (tq)) (dh (dB 3:Fd I (List Int) (@aW _ (bf .i64))) (dh (dB 3:Fd I (List Int) (@aW _ (bf .i64))) (dh (dB 9:Fd I (List ByteArray) (@aW _ (jI))) ((dB 9:Fd I (List ByteArray) (@aW _ (jI))))))))))) MO Vs (λ_=>rfl) (λ_ _ _=>Iff.rfl):Fd I fw Dt)
def RX:Fd I (I 279) inferInstance:=(iZ (rg:=sV) (dh (dB 25:Fd I (List ai) (@aW _ (jl))) (dh (tJ:Fd I Bool (jv)) ((rf 25 LC:Fd I ai (jl))))) Nk Tk (λ_=>rfl) (λ_ _ _=>Iff.rfl):Fd I iE sV)
def VA:Fd I (I 329) inferInstance:=(iZ (rg:=Er) ((dB 25:Fd I (List ai) (@aW _ (jl)))) OP bA' (λ_=>rfl) (λ_ _ _=>Iff.rfl):Fd I iF Er)
def U6:Fd I (I 360) inferInstance:=(iZ (rg:=Fs) ((rf 269 Gm:Fd I dV (tq))) OB Xz (λ_=>rfl) (λ_ _ _=>Iff.rfl):Fd I j5 Fs)
def Wz:Fd I (I 377) inferInstance:=(iZ (rg:=wD) (dh (dB 3:Fd I (List Int) (@aW _ (bf .i64))) (dh (tJ:Fd I Bool (jv)) ((jd .i64:Fd I Int (bf .i64))))) Kg SG (λ_=>rfl) (λ_ _ _=>Iff.rfl):Fd I kQ wD)
def FH:List (FE I):=[⟨2,jd .i64⟩,
 ⟨3,jd .i64⟩,
 ⟨4,tJ⟩,
 ⟨9,Ci⟩,
 ⟨22,dB 25⟩,
 ⟨23,dB 3⟩,
 ⟨25,LC⟩,
 ⟨29,dB 55⟩,
 ⟨31,bS'⟩,
 ⟨32,dB 37⟩,
 ⟨33,dB 151⟩,
 ⟨34,dB 103⟩,
 ⟨35,dB 9⟩,
 ⟨37,ET⟩,
 ⟨46,aC'⟩,
 ⟨52,dB 156⟩,
 ⟨53,Le⟩,
 ⟨55,bn'⟩,
 ⟨103,ZI⟩,
 ⟨128,Rs⟩,
 ⟨137,Xc⟩,
 ⟨142,dB 189⟩,
 ⟨151,Np⟩,
 ⟨156,cr'⟩,
 ⟨189,bG'⟩,
 ⟨234,dB 377⟩,
 ⟨236,LV⟩,
 ⟨237,dB 274⟩,
 ⟨239,af'⟩,
 ⟨269,Gm⟩,
 ⟨271,W9⟩,
 ⟨274,dB 279⟩,
 ⟨279,RX⟩,
 ⟨329,VA⟩,
 ⟨360,U6⟩,
 ⟨377,Wz⟩]
def Po:CZ I where
 sz:=[(25,3),(31,2),(46,1),(53,2),(55,8),(70,3),(128,4),(137,2),(151,2),(156,4),(189,2),(207,2),(236,10),(239,11),(269,2),(271,9),(279,5),(329,1),(360,2)]
 one:=[(2,()),(3,()),(4,()),(9,()),(22,()),(23,()),(29,()),(35,()),(52,()),(61,()),(80,()),(86,()),(142,()),(204,()),(205,()),(237,()),(274,())]
 pK:=[(25,[(0,23),(1,23),(2,4)]),(31,[(0,29),(1,3)]),(37,[(0,3),(1,2),(2,9),(3,32),(4,33),(5,34),(6,35)]),(46,[(0,22)]),(55,[(0,3),(1,2),(2,2),(3,9),(4,23),(5,52),(6,53)]),(70,[(0,31),(2,61)]),(82,[(0,31),(2,22),(3,80)]),(128,[(0,23),(1,23),(2,23),(3,23)]),(137,[(0,3),(1,3)]),(151,[(0,3),(1,9)]),(156,[(0,151),(2,3),(3,4)]),(189,[(0,2),(1,2)]),(207,[(0,204),(1,205)]),(236,[(0,37),(7,33),(8,234),(9,22)]),(239,[(0,236),(10,237)]),(269,[(0,4),(1,35)]),(271,[(0,3),(1,3),(2,142),(3,269),(5,23),(6,23),(7,35),(8,35)]),(279,[(0,22),(1,4),(2,25)]),(329,[(0,22)]),(360,[(0,269)])]
 el:=[(22,25),(23,3),(29,55),(35,9),(52,156),(62,23),(129,128),(135,137),(142,189),(231,239),(237,274),(266,271),(272,236),(274,279),(325,329)]
 str:=[(9,())]
 bool:=[(4,())]
 ik:=[(3,.i64),(211,.u64)]
 fe:=FH
 inf:=[(2,1,8,[.int .i64 0]),(3,1,8,[.int .i64 0]),(4,1,1,[.bool false]),(9,1,16,[.str ⟨#[]⟩]),(22,1,24,[.nl 25]),(23,1,24,[.nl 3]),(25,3,56,[.nl 3,.nl 3,.bool false]),(31,2,32,[.nl 55,.int .i64 0]),(35,1,24,[.nl 9]),(37,7,128,[.int .i64 0,.int .i64 0,.str ⟨#[]⟩,.nl 37,.nl 151,.nl 103,.nl 9]),(46,1,24,[.nl 25]),(53,2,16,[.int .i64 0,.int .i64 0]),(55,8,104,[.int .i64 0,.int .i64 0,.int .i64 0,.str ⟨#[]⟩,.nl 3,.nl 156,.int .i64 0,.int .i64 0]),(70,3,40,[.nl 55,.int .i64 0,.any]),(82,4,64,[.nl 55,.int .i64 0,.nl 25,.any]),(86,1,8,[.any]),(128,4,96,[.nl 3,.nl 3,.nl 3,.nl 3]),(137,2,16,[.int .i64 0,.int .i64 0]),(142,1,24,[.nl 189]),(156,4,40,[.int .i64 0,.str ⟨#[]⟩,.int .i64 0,.bool false]),(189,2,16,[.int .i64 0,.int .i64 0]),(207,2,16,[.any,.any]),(231,1,24,[.nl 239]),(236,10,200,[.int .i64 0,.int .i64 0,.str ⟨#[]⟩,.nl 37,.nl 151,.nl 103,.nl 9,.nl 151,.nl 377,.nl 25]),(239,11,224,[.int .i64 0,.int .i64 0,.str ⟨#[]⟩,.nl 37,.nl 151,.nl 103,.nl 9,.nl 151,.nl 377,.nl 25,.nl 274]),(269,2,32,[.bool false,.nl 9]),(271,9,168,[.int .i64 0,.int .i64 0,.nl 189,.bool false,.nl 9,.nl 3,.nl 3,.nl 9,.nl 9]),(274,1,24,[.nl 279]),(279,5,88,[.nl 25,.bool false,.nl 3,.nl 3,.bool false]),(329,1,24,[.nl 25]),(360,2,32,[.bool false,.nl 9])]
 st:=[(25,[(0,1),(1,1),(2,1)]),(31,[(0,1),(1,1)]),(37,[(0,1),(1,1),(2,1),(3,1),(4,1),(5,1),(6,1)]),(46,[(0,1)]),(53,[(0,1),(1,1)]),(55,[(0,1),(1,1),(2,1),(3,1),(4,1),(5,1),(6,2)]),(70,[(0,2),(2,1)]),(82,[(0,2),(2,1),(3,1)]),(128,[(0,1),(1,1),(2,1),(3,1)]),(137,[(0,1),(1,1)]),(189,[(0,1),(1,1)]),(207,[(0,1),(1,1)]),(236,[(0,7),(7,1),(8,1),(9,1)]),(239,[(0,10),(10,1)]),(269,[(0,1),(1,1)]),(271,[(0,1),(1,1),(2,1),(3,2),(5,1),(6,1),(7,1),(8,1)]),(360,[(0,2)])]
 eq:=[(53,A9 FH 53 AJ)]
 nest:=[(23,3,0),(25,3,1)]
 arr:=[(53,3,2,1)]
 mp:=[(80,.bool),(204,.sl 239),(205,.int .i64)]
 fb:=[(20,()),(35,()),(44,()),(51,()),(137,()),(139,()),(145,()),(171,()),(172,()),(174,()),(175,()),(256,()),(268,()),(321,()),(327,()),(353,())]
abbrev tb:aD I:=Pt Po
theorem Y1:bZ ig' 2 (.int .i64 0) 1 8:=dY (by kernel_rfl)
theorem ze:bZ ig' 3 (.int .i64 0) 1 8:=dY (by kernel_rfl)
theorem MK:bZ ig' 4 (.bool false) 1 1:=dY (by kernel_rfl)
theorem MN:bZ ig' 9 (.string ⟨#[]⟩) 1 16:=dY (by kernel_rfl)
theorem Rv:bZ ig' 22 (.slice none 0 0) 1 24:=dY (by kernel_rfl)
theorem Kt:bZ ig' 23 (.slice none 0 0) 1 24:=dY (by kernel_rfl)
theorem K5:bZ ig' 25 (.agg #[.slice none 0 0,.slice none 0 0,.bool false]) 3 56:=dY (by kernel_rfl)
theorem Yt:bZ ig' 31 (.agg #[.slice none 0 0,.int .i64 0]) 2 32:=dY (by kernel_rfl)
theorem be':bZ ig' 35 (.slice none 0 0) 1 24:=dY (by kernel_rfl)
theorem Yv:bZ ig' 37 (.agg #[.int .i64 0,.int .i64 0,.string ⟨#[]⟩,.slice none 0 0,.slice none 0 0,.slice none 0 0,.slice none 0 0]) 7 128:=dY (by kernel_rfl)
theorem cV':bZ ig' 46 (.agg #[.slice none 0 0]) 1 24:=dY (by kernel_rfl)
theorem Xt:bZ ig' 53 (.agg #[.int .i64 0,.int .i64 0]) 2 16:=dY (by kernel_rfl)
theorem OT:bZ ig' 55 (.agg #[.int .i64 0,.int .i64 0,.int .i64 0,.string ⟨#[]⟩,.slice none 0 0,.slice none 0 0,.int .i64 0,.int .i64 0]) 8 104:=dY (by kernel_rfl)
theorem YO:bZ ig' 70 (.agg #[.slice none 0 0,.int .i64 0,.nilFunc]) 3 40:=dY (by kernel_rfl)
theorem ab':bZ ig' 82 (.agg #[.slice none 0 0,.int .i64 0,.slice none 0 0,.map none]) 4 64:=dY (by kernel_rfl)
theorem RD:bZ ig' 86 (.nilFunc) 1 8:=dY (by kernel_rfl)
theorem Lx:bZ ig' 128 (.agg #[.slice none 0 0,.slice none 0 0,.slice none 0 0,.slice none 0 0]) 4 96:=dY (by kernel_rfl)
theorem K3:bZ ig' 137 (.agg #[.int .i64 0,.int .i64 0]) 2 16:=dY (by kernel_rfl)
theorem Yb:bZ ig' 142 (.slice none 0 0) 1 24:=dY (by kernel_rfl)
theorem Pb:bZ ig' 156 (.agg #[.int .i64 0,.string ⟨#[]⟩,.int .i64 0,.bool false]) 4 40:=dY (by kernel_rfl)
theorem NZ:bZ ig' 189 (.agg #[.int .i64 0,.int .i64 0]) 2 16:=dY (by kernel_rfl)
theorem cn':bZ ig' 207 (.agg #[.map none,.map none]) 2 16:=dY (by kernel_rfl)
theorem KW:bZ ig' 231 (.slice none 0 0) 1 24:=dY (by kernel_rfl)
theorem OD:bZ ig' 236 (.agg #[.int .i64 0,.int .i64 0,.string ⟨#[]⟩,.slice none 0 0,.slice none 0 0,.slice none 0 0,.slice none 0 0,.slice none 0 0,.slice none 0 0,.slice none 0 0]) 10 200:=dY (by kernel_rfl)
theorem MU:bZ ig' 239 (.agg #[.int .i64 0,.int .i64 0,.string ⟨#[]⟩,.slice none 0 0,.slice none 0 0,.slice none 0 0,.slice none 0 0,.slice none 0 0,.slice none 0 0,.slice none 0 0,.slice none 0 0]) 11 224:=dY (by kernel_rfl)
theorem YE:bZ ig' 269 (.agg #[.bool false,.slice none 0 0]) 2 32:=dY (by kernel_rfl)
theorem NG:bZ ig' 271 (.agg #[.int .i64 0,.int .i64 0,.slice none 0 0,.bool false,.slice none 0 0,.slice none 0 0,.slice none 0 0,.slice none 0 0,.slice none 0 0]) 9 168:=dY (by kernel_rfl)
theorem Ke:bZ ig' 274 (.slice none 0 0) 1 24:=dY (by kernel_rfl)
theorem JU:bZ ig' 279 (.agg #[.slice none 0 0,.bool false,.slice none 0 0,.slice none 0 0,.bool false]) 5 88:=dY (by kernel_rfl)
theorem Nu:bZ ig' 329 (.agg #[.slice none 0 0]) 1 24:=dY (by kernel_rfl)
theorem bd':bZ ig' 360 (.agg #[.bool false,.slice none 0 0]) 2 32:=dY (by kernel_rfl)
theorem YK:fo ig' 2:=⟨_,underlying2,rfl,by kernel_rfl⟩
theorem xh:fo ig' 3:=⟨_,underlying3,rfl,by kernel_rfl⟩
theorem XJ:fo ig' 4:=⟨_,underlying4,rfl,by kernel_rfl⟩
theorem to9:fo ig' 9:=⟨_,underlying9,rfl,by kernel_rfl⟩
theorem Va:fo ig' 22:=⟨_,underlying22,rfl,by kernel_rfl⟩
theorem Uj:fo ig' 23:=⟨_,underlying23,rfl,by kernel_rfl⟩
theorem bQ':fo ig' 29:=⟨_,underlying29,rfl,by kernel_rfl⟩
theorem R7:fo ig' 35:=⟨_,underlying35,rfl,by kernel_rfl⟩
theorem Zp:fo ig' 52:=⟨_,underlying52,rfl,by kernel_rfl⟩
theorem aG':fo ig' 61:=⟨_,underlying61,rfl,by kernel_rfl⟩
theorem ZG:fo ig' 80:=⟨_,underlying80,rfl,by kernel_rfl⟩
theorem X3:fo ig' 86:=⟨_,underlying86,rfl,by kernel_rfl⟩
theorem cZ':fo ig' 142:=⟨_,underlying142,rfl,by kernel_rfl⟩
theorem WY:fo ig' 204:=⟨_,underlying204,rfl,by kernel_rfl⟩
theorem VY:fo ig' 205:=⟨_,underlying205,rfl,by kernel_rfl⟩
theorem WO:fo ig' 237:=⟨_,underlying237,rfl,by kernel_rfl⟩
theorem ZF:fo ig' 274:=⟨_,underlying274,rfl,by kernel_rfl⟩
theorem Ur {σ:S}{x y:Int×Int}{cs ds:List Value}(h:(rI 53).cells σ x cs)(k:(rI 53).cells σ y ds):Sx.EqAt ig' 2 53 (.agg cs.toArray) (.agg ds.toArray) (AJ x y):=by obtain ⟨_,_,rfl,rfl,rfl⟩:=h;obtain ⟨_,_,rfl,rfl,rfl⟩:=k;exact WG underlying53 ze (Lm (xI xh rfl) (xI xh rfl) (OW underlying3) (Lm (xI xh rfl) (xI xh rfl) (OW underlying3) WC))
theorem eqT (T:TypeId)(g:I T->I T->Bool){K:Nat}(h:∀ {σ:S} {x y:I T} {cs ds:List Value},Rp.cells σ x cs->Rp.cells σ y ds->Sx.EqAt ig' K T (.agg cs.toArray) (.agg ds.toArray) (g x y))(hg:ig'.eqGuardType (ig').depth T=false)(hK:iX' K 10000=true)
 {X:aY} {c:Cx} {σ:S} {ls ms:List (PV I)} {r:Bool} {cs ds:List Value} (h1:A9 FH T g ls ms=some r) (h2:RG X c σ ls cs) (h3:RG X c σ ms ds) :
 ig'.eqGuardType (ig').depth T=false/\∃ j,iX' j 10000=true/\Sx.EqAt ig' j T (.agg cs.toArray) (.agg ds.toArray) r:=by
 obtain ⟨x,y,k1,k2,rfl⟩:=WQ h1 h2 h3;exact ⟨hg,K,hK,h k1 k2⟩
theorem Sy:Qt ig' Po where
 sz:=⟨⟨_,underlying25,rfl,by kernel_rfl⟩,⟨⟨_,underlying31,rfl,by kernel_rfl⟩,⟨⟨_,underlying46,rfl,by kernel_rfl⟩,⟨⟨_,underlying53,rfl,by kernel_rfl⟩,⟨⟨_,underlying55,rfl,by kernel_rfl⟩,⟨⟨_,underlying70,rfl,by kernel_rfl⟩,⟨⟨_,underlying128,rfl,by kernel_rfl⟩,⟨⟨_,underlying137,rfl,by kernel_rfl⟩,⟨⟨_,underlying151,rfl,by kernel_rfl⟩,⟨⟨_,underlying156,rfl,by kernel_rfl⟩,⟨⟨_,underlying189,rfl,by kernel_rfl⟩,⟨⟨_,underlying207,rfl,by kernel_rfl⟩,⟨⟨_,underlying236,rfl,by kernel_rfl⟩,⟨⟨_,underlying239,rfl,by kernel_rfl⟩,⟨⟨_,underlying269,rfl,by kernel_rfl⟩,⟨⟨_,underlying271,rfl,by kernel_rfl⟩,⟨⟨_,underlying279,rfl,by kernel_rfl⟩,⟨⟨_,underlying329,rfl,by kernel_rfl⟩,⟨⟨_,underlying360,rfl,by kernel_rfl⟩,trivial⟩⟩⟩⟩⟩⟩⟩⟩⟩⟩⟩⟩⟩⟩⟩⟩⟩⟩⟩
 one:=⟨YK,⟨xh,⟨XJ,⟨to9,⟨Va,⟨Uj,⟨bQ',⟨R7,⟨Zp,⟨aG',⟨ZG,⟨X3,⟨cZ',⟨WY,⟨VY,⟨WO,⟨ZF,trivial⟩⟩⟩⟩⟩⟩⟩⟩⟩⟩⟩⟩⟩⟩⟩⟩⟩
 pK:=⟨⟨⟨_,_,underlying25,rfl,rfl,by kernel_rfl⟩,⟨⟨_,_,underlying25,rfl,rfl⟩,⟨⟨_,_,underlying25,rfl,rfl,by kernel_rfl⟩,⟨⟨_,_,underlying25,rfl,rfl⟩,⟨⟨_,_,underlying25,rfl,rfl,by kernel_rfl⟩,⟨⟨_,_,underlying25,rfl,rfl⟩,trivial⟩⟩⟩⟩⟩⟩,⟨⟨⟨_,_,underlying31,rfl,rfl,by kernel_rfl⟩,⟨⟨_,_,underlying31,rfl,rfl⟩,⟨⟨_,_,underlying31,rfl,rfl,by kernel_rfl⟩,⟨⟨_,_,underlying31,rfl,rfl⟩,trivial⟩⟩⟩⟩,⟨⟨⟨_,_,underlying37,rfl,rfl,by kernel_rfl⟩,⟨⟨_,_,underlying37,rfl,rfl⟩,⟨⟨_,_,underlying37,rfl,rfl,by kernel_rfl⟩,⟨⟨_,_,underlying37,rfl,rfl⟩,⟨⟨_,_,underlying37,rfl,rfl,by kernel_rfl⟩,⟨⟨_,_,underlying37,rfl,rfl⟩,⟨⟨_,_,underlying37,rfl,rfl,by kernel_rfl⟩,⟨⟨_,_,underlying37,rfl,rfl⟩,⟨⟨_,_,underlying37,rfl,rfl,by kernel_rfl⟩,⟨⟨_,_,underlying37,rfl,rfl⟩,⟨⟨_,_,underlying37,rfl,rfl,by kernel_rfl⟩,⟨⟨_,_,underlying37,rfl,rfl⟩,⟨⟨_,_,underlying37,rfl,rfl,by kernel_rfl⟩,⟨⟨_,_,underlying37,rfl,rfl⟩,trivial⟩⟩⟩⟩⟩⟩⟩⟩⟩⟩⟩⟩⟩⟩,⟨⟨⟨_,_,underlying46,rfl,rfl,by kernel_rfl⟩,⟨⟨_,_,underlying46,rfl,rfl⟩,trivial⟩⟩,⟨⟨⟨_,_,underlying55,rfl,rfl,by kernel_rfl⟩,⟨⟨_,_,underlying55,rfl,rfl⟩,⟨⟨_,_,underlying55,rfl,rfl,by kernel_rfl⟩,⟨⟨_,_,underlying55,rfl,rfl⟩,⟨⟨_,_,underlying55,rfl,rfl,by kernel_rfl⟩,⟨⟨_,_,underlying55,rfl,rfl⟩,⟨⟨_,_,underlying55,rfl,rfl,by kernel_rfl⟩,⟨⟨_,_,underlying55,rfl,rfl⟩,⟨⟨_,_,underlying55,rfl,rfl,by kernel_rfl⟩,⟨⟨_,_,underlying55,rfl,rfl⟩,⟨⟨_,_,underlying55,rfl,rfl,by kernel_rfl⟩,⟨⟨_,_,underlying55,rfl,rfl⟩,⟨⟨_,_,underlying55,rfl,rfl,by kernel_rfl⟩,⟨⟨_,_,underlying55,rfl,rfl⟩,trivial⟩⟩⟩⟩⟩⟩⟩⟩⟩⟩⟩⟩⟩⟩,⟨⟨⟨_,_,underlying70,rfl,rfl,by kernel_rfl⟩,⟨⟨_,_,underlying70,rfl,rfl⟩,⟨⟨_,_,underlying70,rfl,rfl,by kernel_rfl⟩,⟨⟨_,_,underlying70,rfl,rfl⟩,trivial⟩⟩⟩⟩,⟨⟨⟨_,_,underlying82,rfl,rfl,by kernel_rfl⟩,⟨⟨_,_,underlying82,rfl,rfl⟩,⟨⟨_,_,underlying82,rfl,rfl,by kernel_rfl⟩,⟨⟨_,_,underlying82,rfl,rfl⟩,⟨⟨_,_,underlying82,rfl,rfl,by kernel_rfl⟩,⟨⟨_,_,underlying82,rfl,rfl⟩,trivial⟩⟩⟩⟩⟩⟩,⟨⟨⟨_,_,underlying128,rfl,rfl,by kernel_rfl⟩,⟨⟨_,_,underlying128,rfl,rfl⟩,⟨⟨_,_,underlying128,rfl,rfl,by kernel_rfl⟩,⟨⟨_,_,underlying128,rfl,rfl⟩,⟨⟨_,_,underlying128,rfl,rfl,by kernel_rfl⟩,⟨⟨_,_,underlying128,rfl,rfl⟩,⟨⟨_,_,underlying128,rfl,rfl,by kernel_rfl⟩,⟨⟨_,_,underlying128,rfl,rfl⟩,trivial⟩⟩⟩⟩⟩⟩⟩⟩,⟨⟨⟨_,_,underlying137,rfl,rfl,by kernel_rfl⟩,⟨⟨_,_,underlying137,rfl,rfl⟩,⟨⟨_,_,underlying137,rfl,rfl,by kernel_rfl⟩,⟨⟨_,_,underlying137,rfl,rfl⟩,trivial⟩⟩⟩⟩,⟨⟨⟨_,_,underlying151,rfl,rfl,by kernel_rfl⟩,⟨⟨_,_,underlying151,rfl,rfl⟩,⟨⟨_,_,underlying151,rfl,rfl,by kernel_rfl⟩,⟨⟨_,_,underlying151,rfl,rfl⟩,trivial⟩⟩⟩⟩,⟨⟨⟨_,_,underlying156,rfl,rfl,by kernel_rfl⟩,⟨⟨_,_,underlying156,rfl,rfl⟩,⟨⟨_,_,underlying156,rfl,rfl,by kernel_rfl⟩,⟨⟨_,_,underlying156,rfl,rfl⟩,⟨⟨_,_,underlying156,rfl,rfl,by kernel_rfl⟩,⟨⟨_,_,underlying156,rfl,rfl⟩,trivial⟩⟩⟩⟩⟩⟩,⟨⟨⟨_,_,underlying189,rfl,rfl,by kernel_rfl⟩,⟨⟨_,_,underlying189,rfl,rfl⟩,⟨⟨_,_,underlying189,rfl,rfl,by kernel_rfl⟩,⟨⟨_,_,underlying189,rfl,rfl⟩,trivial⟩⟩⟩⟩,⟨⟨⟨_,_,underlying207,rfl,rfl,by kernel_rfl⟩,⟨⟨_,_,underlying207,rfl,rfl⟩,⟨⟨_,_,underlying207,rfl,rfl,by kernel_rfl⟩,⟨⟨_,_,underlying207,rfl,rfl⟩,trivial⟩⟩⟩⟩,⟨⟨⟨_,_,underlying236,rfl,rfl,by kernel_rfl⟩,⟨⟨_,_,underlying236,rfl,rfl⟩,⟨⟨_,_,underlying236,rfl,rfl,by kernel_rfl⟩,⟨⟨_,_,underlying236,rfl,rfl⟩,⟨⟨_,_,underlying236,rfl,rfl,by kernel_rfl⟩,⟨⟨_,_,underlying236,rfl,rfl⟩,⟨⟨_,_,underlying236,rfl,rfl,by kernel_rfl⟩,⟨⟨_,_,underlying236,rfl,rfl⟩,trivial⟩⟩⟩⟩⟩⟩⟩⟩,⟨⟨⟨_,_,underlying239,rfl,rfl,by kernel_rfl⟩,⟨⟨_,_,underlying239,rfl,rfl⟩,⟨⟨_,_,underlying239,rfl,rfl,by kernel_rfl⟩,⟨⟨_,_,underlying239,rfl,rfl⟩,trivial⟩⟩⟩⟩,⟨⟨⟨_,_,underlying269,rfl,rfl,by kernel_rfl⟩,⟨⟨_,_,underlying269,rfl,rfl⟩,⟨⟨_,_,underlying269,rfl,rfl,by kernel_rfl⟩,⟨⟨_,_,underlying269,rfl,rfl⟩,trivial⟩⟩⟩⟩,⟨⟨⟨_,_,underlying271,rfl,rfl,by kernel_rfl⟩,⟨⟨_,_,underlying271,rfl,rfl⟩,⟨⟨_,_,underlying271,rfl,rfl,by kernel_rfl⟩,⟨⟨_,_,underlying271,rfl,rfl⟩,⟨⟨_,_,underlying271,rfl,rfl,by kernel_rfl⟩,⟨⟨_,_,underlying271,rfl,rfl⟩,⟨⟨_,_,underlying271,rfl,rfl,by kernel_rfl⟩,⟨⟨_,_,underlying271,rfl,rfl⟩,⟨⟨_,_,underlying271,rfl,rfl,by kernel_rfl⟩,⟨⟨_,_,underlying271,rfl,rfl⟩,⟨⟨_,_,underlying271,rfl,rfl,by kernel_rfl⟩,⟨⟨_,_,underlying271,rfl,rfl⟩,⟨⟨_,_,underlying271,rfl,rfl,by kernel_rfl⟩,⟨⟨_,_,underlying271,rfl,rfl⟩,⟨⟨_,_,underlying271,rfl,rfl,by kernel_rfl⟩,⟨⟨_,_,underlying271,rfl,rfl⟩,trivial⟩⟩⟩⟩⟩⟩⟩⟩⟩⟩⟩⟩⟩⟩⟩⟩,⟨⟨⟨_,_,underlying279,rfl,rfl,by kernel_rfl⟩,⟨⟨_,_,underlying279,rfl,rfl⟩,⟨⟨_,_,underlying279,rfl,rfl,by kernel_rfl⟩,⟨⟨_,_,underlying279,rfl,rfl⟩,⟨⟨_,_,underlying279,rfl,rfl,by kernel_rfl⟩,⟨⟨_,_,underlying279,rfl,rfl⟩,trivial⟩⟩⟩⟩⟩⟩,⟨⟨⟨_,_,underlying329,rfl,rfl,by kernel_rfl⟩,⟨⟨_,_,underlying329,rfl,rfl⟩,trivial⟩⟩,⟨⟨⟨_,_,underlying360,rfl,rfl,by kernel_rfl⟩,⟨⟨_,_,underlying360,rfl,rfl⟩,trivial⟩⟩,trivial⟩⟩⟩⟩⟩⟩⟩⟩⟩⟩⟩⟩⟩⟩⟩⟩⟩⟩⟩⟩
 el:=⟨⟨underlying22,_,_,K5,rfl,by decide⟩,⟨⟨underlying23,_,_,ze,rfl,by decide⟩,⟨⟨underlying29,_,_,OT,rfl,by decide⟩,⟨⟨underlying35,_,_,MN,rfl,by decide⟩,⟨⟨underlying52,_,_,Pb,rfl,by decide⟩,⟨⟨underlying62,_,_,Kt,rfl,by decide⟩,⟨⟨underlying129,_,_,Lx,rfl,by decide⟩,⟨⟨underlying135,_,_,K3,rfl,by decide⟩,⟨⟨underlying142,_,_,NZ,rfl,by decide⟩,⟨⟨underlying231,_,_,MU,rfl,by decide⟩,⟨⟨underlying237,_,_,Ke,rfl,by decide⟩,⟨⟨underlying266,_,_,NG,rfl,by decide⟩,⟨⟨underlying272,_,_,OD,rfl,by decide⟩,⟨⟨underlying274,_,_,JU,rfl,by decide⟩,⟨⟨underlying325,_,_,Nu,rfl,by decide⟩,trivial⟩⟩⟩⟩⟩⟩⟩⟩⟩⟩⟩⟩⟩⟩⟩
 str:=⟨underlying9,trivial⟩
 bool:=⟨underlying4,trivial⟩
 ik:=⟨underlying3,⟨underlying211,trivial⟩⟩
 inf:=⟨⟨_,Y1,λX c σ=>RG.aM rfl fC (RG.nl)⟩,⟨⟨_,ze,λX c σ=>RG.aM rfl fC (RG.nl)⟩,⟨⟨_,MK,λX c σ=>RG.aM rfl rG (RG.nl)⟩,⟨⟨_,MN,λX c σ=>RG.aM rfl vv (RG.nl)⟩,⟨⟨_,Rv,λX c σ=>RG.aM rfl bP (RG.nl)⟩,⟨⟨_,Kt,λX c σ=>RG.aM rfl bP (RG.nl)⟩,⟨⟨_,K5,λX c σ=>RG.aM rfl bP (RG.aM rfl bP (RG.aM rfl rG (RG.nl)))⟩,⟨⟨_,Yt,λX c σ=>RG.aM rfl bP (RG.aM rfl fC (RG.nl))⟩,⟨⟨_,be',λX c σ=>RG.aM rfl bP (RG.nl)⟩,⟨⟨_,Yv,λX c σ=>RG.aM rfl fC (RG.aM rfl fC (RG.aM rfl vv (RG.aM rfl bP (RG.aM rfl bP (RG.aM rfl bP (RG.aM rfl bP (RG.nl)))))))⟩,⟨⟨_,cV',λX c σ=>RG.aM rfl bP (RG.nl)⟩,⟨⟨_,Xt,λX c σ=>RG.aM rfl fC (RG.aM rfl fC (RG.nl))⟩,⟨⟨_,OT,λX c σ=>RG.aM rfl fC (RG.aM rfl fC (RG.aM rfl fC (RG.aM rfl vv (RG.aM rfl bP (RG.aM rfl bP (RG.aM rfl fC (RG.aM rfl fC (RG.nl))))))))⟩,⟨⟨_,YO,λX c σ=>RG.aM rfl bP (RG.aM rfl fC (RG.aM rfl yQ (RG.nl)))⟩,⟨⟨_,ab',λX c σ=>RG.aM rfl bP (RG.aM rfl fC (RG.aM rfl bP (RG.aM rfl yQ (RG.nl))))⟩,⟨⟨_,RD,λX c σ=>RG.aM rfl yQ (RG.nl)⟩,⟨⟨_,Lx,λX c σ=>RG.aM rfl bP (RG.aM rfl bP (RG.aM rfl bP (RG.aM rfl bP (RG.nl))))⟩,⟨⟨_,K3,λX c σ=>RG.aM rfl fC (RG.aM rfl fC (RG.nl))⟩,⟨⟨_,Yb,λX c σ=>RG.aM rfl bP (RG.nl)⟩,⟨⟨_,Pb,λX c σ=>RG.aM rfl fC (RG.aM rfl vv (RG.aM rfl fC (RG.aM rfl rG (RG.nl))))⟩,⟨⟨_,NZ,λX c σ=>RG.aM rfl fC (RG.aM rfl fC (RG.nl))⟩,⟨⟨_,cn',λX c σ=>RG.aM rfl yQ (RG.aM rfl yQ (RG.nl))⟩,⟨⟨_,KW,λX c σ=>RG.aM rfl bP (RG.nl)⟩,⟨⟨_,OD,λX c σ=>RG.aM rfl fC (RG.aM rfl fC (RG.aM rfl vv (RG.aM rfl bP (RG.aM rfl bP (RG.aM rfl bP (RG.aM rfl bP (RG.aM rfl bP (RG.aM rfl bP (RG.aM rfl bP (RG.nl))))))))))⟩,⟨⟨_,MU,λX c σ=>RG.aM rfl fC (RG.aM rfl fC (RG.aM rfl vv (RG.aM rfl bP (RG.aM rfl bP (RG.aM rfl bP (RG.aM rfl bP (RG.aM rfl bP (RG.aM rfl bP (RG.aM rfl bP (RG.aM rfl bP (RG.nl)))))))))))⟩,⟨⟨_,YE,λX c σ=>RG.aM rfl rG (RG.aM rfl bP (RG.nl))⟩,⟨⟨_,NG,λX c σ=>RG.aM rfl fC (RG.aM rfl fC (RG.aM rfl bP (RG.aM rfl rG (RG.aM rfl bP (RG.aM rfl bP (RG.aM rfl bP (RG.aM rfl bP (RG.aM rfl bP (RG.nl)))))))))⟩,⟨⟨_,Ke,λX c σ=>RG.aM rfl bP (RG.nl)⟩,⟨⟨_,JU,λX c σ=>RG.aM rfl bP (RG.aM rfl rG (RG.aM rfl bP (RG.aM rfl bP (RG.aM rfl rG (RG.nl)))))⟩,⟨⟨_,Nu,λX c σ=>RG.aM rfl bP (RG.nl)⟩,⟨⟨_,bd',λX c σ=>RG.aM rfl rG (RG.aM rfl bP (RG.nl))⟩,trivial⟩⟩⟩⟩⟩⟩⟩⟩⟩⟩⟩⟩⟩⟩⟩⟩⟩⟩⟩⟩⟩⟩⟩⟩⟩⟩⟩⟩⟩⟩⟩
 st:=⟨.inl ⟨_,underlying25,by kernel_rfl⟩,⟨.inl ⟨_,underlying31,by kernel_rfl⟩,⟨.inl ⟨_,underlying37,by kernel_rfl⟩,⟨.inl ⟨_,underlying46,by kernel_rfl⟩,⟨.inr (Rl underlying53 ze rfl),⟨.inl ⟨_,underlying55,by kernel_rfl⟩,⟨.inl ⟨_,underlying70,by kernel_rfl⟩,⟨.inl ⟨_,underlying82,by kernel_rfl⟩,⟨.inl ⟨_,underlying128,by kernel_rfl⟩,⟨.inl ⟨_,underlying137,by kernel_rfl⟩,⟨.inl ⟨_,underlying189,by kernel_rfl⟩,⟨.inl ⟨_,underlying207,by kernel_rfl⟩,⟨.inl ⟨_,underlying236,by kernel_rfl⟩,⟨.inl ⟨_,underlying239,by kernel_rfl⟩,⟨.inl ⟨_,underlying269,by kernel_rfl⟩,⟨.inl ⟨_,underlying271,by kernel_rfl⟩,⟨.inl ⟨_,underlying360,by kernel_rfl⟩,trivial⟩⟩⟩⟩⟩⟩⟩⟩⟩⟩⟩⟩⟩⟩⟩⟩⟩
 eq:=⟨λX c σ ls ms r cs ds h1 h2 h3=>eqT 53 AJ (λh k=>Ur h k) (by kernel_rfl) (by decide) h1 h2 h3,trivial⟩
 arr:=⟨⟨underlying53,by kernel_rfl⟩,trivial⟩
 mp:=⟨⟨_,_,_,_,_,underlying80,underlying9,MK,λx h σ=>by cases h; exact rfl⟩,⟨⟨_,_,_,_,_,underlying204,underlying9,KW,λx h σ=>by cases h; exact ⟨none,0,rfl,Sl.rH _ _ _ (iP' _)⟩⟩,⟨⟨_,_,_,_,_,underlying205,underlying9,ze,λx h σ=>by cases h; exact rfl⟩,trivial⟩⟩⟩
 fb:=⟨⟨_,_,func20,rfl,by kernel_rfl⟩,⟨⟨_,_,func35,rfl,by kernel_rfl⟩,⟨⟨_,_,func44,rfl,by kernel_rfl⟩,⟨⟨_,_,func51,rfl,by kernel_rfl⟩,⟨⟨_,_,func137,rfl,by kernel_rfl⟩,⟨⟨_,_,func139,rfl,by kernel_rfl⟩,⟨⟨_,_,func145,rfl,by kernel_rfl⟩,⟨⟨_,_,func171,rfl,by kernel_rfl⟩,⟨⟨_,_,func172,rfl,by kernel_rfl⟩,⟨⟨_,_,func174,rfl,by kernel_rfl⟩,⟨⟨_,_,func175,rfl,by kernel_rfl⟩,⟨⟨_,_,func256,rfl,by kernel_rfl⟩,⟨⟨_,_,func268,rfl,by kernel_rfl⟩,⟨⟨_,_,func321,rfl,by kernel_rfl⟩,⟨⟨_,_,func327,rfl,by kernel_rfl⟩,⟨⟨_,_,func353,rfl,by kernel_rfl⟩,trivial⟩⟩⟩⟩⟩⟩⟩⟩⟩⟩⟩⟩⟩⟩⟩⟩
theorem cB:aV ig' tb:=QY Sy
theorem mixed:(ig').follows .mixedOrders=true:=by kernel_rfl
end Go.Qx
end
section
open Array renaming getElem_append->jG',getElem_ofFn->jq',length_toList->iM',replicate->jQ'
open List renaming getD->jk',getElem?_eq_getElem->in',getElem?_eq_none->iK',map_cons->iH',nil_append->jx'
open Nat renaming add_zero->jl',ble->iX',blt->iG',le_of_ble_eq_true->iE',le_refl->ip',le_trans->iz',one_mul->jW'
namespace Go.Qx
open Go Go.RowKit Go.Sx
structure Bw (B:Nat)(w w':World):Prop where
 below:Below B w w'
 drawn:w.drawn<=w'.drawn
theorem Bw.refl (B:Nat)(w:World):Bw B w w:=⟨Below.refl B w,ip' _⟩
theorem Bw.trans {B:Nat}{a b c:World}(h:Bw B a b)(k:Bw B b c):Bw B a c:=⟨h.below.trans k.below,iz' h.drawn k.drawn⟩
theorem Bw.setCells {B b:Nat}(hb:B<=b)(o:Nat)(vs:List Value)(w:World):Bw B w (w.setCells b o vs):=by obtain ⟨r1,r2,r3⟩:=E9 b vs o w;exact ⟨⟨r1,r2,r3,Nat.le_of_eq (GR b vs o w).symm,λk hk=>vR b vs o w k (by omega)⟩,Nat.le_of_eq (FD b vs o w).symm⟩
section
variable {P:Program}{ops:Array Oper}{Q:Exit->Act->World->Prop}{n:Nat}{F:Fr}{rest:List Oper}{d:Option Nat}{ty:TypeId}{pos:String}{aX:Array Edge}{w:World}
theorem Dz {T T':TypeId}{x y:Operand}{b:Nat}{cs:List Value}(hb:w.heap[b]?=some (.cells cs.toArray T' (0,0)))(o:Nat)(v:Value)(hx:ev F x=.pointer (some ⟨b,o,none⟩))(hy:ev F y=v)
 (hkx:aU n x=true) (hky:aU n y=true) (hv:v.cells.toList=[v]) (hT:(P.info? T).map (·.size)=some 1) (h1:v.oneCell'=true) (hl:o<cs.length)
 (h:wpList P ops Q rest (fr n (bD F d undef)) (w.setCells b o [v])) :
 wpList P ops Q (⟨d,.store T x y,ty,pos,aX,none⟩::rest) (fr n F) w:=by
 have hsz:v.cells.size=1:=by rw [<- iM',hv]; rfl
 refine yo rfl (w.setCells b o [v]) ?_ h;show Sem.run P (do Instr.storeAt T ((fr n F).eval x) ((fr n F).eval y); pure Next.skip) w=_
 rw [bq hkx,bq hky,hx,hy];have hst:=run_storeCells_cells (P:=P) b o [v] 0 w (λj hj=>by
  have hj0:j=0:=by simp at hj; omega
  subst hj0;simp only [World.cell?,hb,jl'];simp [in' hl]) (λj hj=>by simp [World.frozen?,hb]) (λu hu=>by simp at hu; subst hu; exact h1)
 simp only [jl'] at hst;simp only [Instr.storeAt,Instr.sureAddr,storeVar,Sem.run_bind,Sem.run_pure,Result.andThen_ok,Go.Sx.run_sizeOf hT,hsz,ne_eq,not_true_eq_false,if_false,hv,hst]
theorem Lh {x y:Operand}{t u:TypeId}{a b v:Value}{w':World}(hx:ev F x=a)(hy:ev F y=b)(hkx:aU n x=true)(hky:aU n y=true)(hr:(Builtin.append_ #[t,u] ty #[a,b]).run P w=.ok v w')
 (h:wpList P ops Q rest (fr n (bD F d v)) w'):wpList P ops Q (⟨d,.call ⟨.builtin .append,#[x,y],#[t,u]⟩,ty,pos,aX,none⟩::rest) (fr n F) w :=
 dH rfl v w' (by simp [execOp,resolve,invoke,builtin,bq hkx,bq hky,hx,hy,hr]) h
theorem KE {src dst:TypeId}{x:Operand}{a v:Value}(hx:ev F x=a)(hkx:aU n x=true)(hr:(convert src dst a).run P w=.ok v w)(h:wpList P ops Q rest (fr n (bD F d v)) w) :
 wpList P ops Q (⟨d,.convert src dst x,ty,pos,aX,none⟩::rest) (fr n F) w:=GY a v hx hkx hr h
theorem Fg {f:FuncId}{fn:Func}{c:Code}{vs:List Value}{R:Ending->World->Prop}(nt:Nat)(hf:P.funcs[f]?=some fn)(hb:fn.body=some c)(hn:fn.ntmps=nt)(hle:iX' vs.length nt=true)
 (h:c.wp P (bodyPost P fn R) (fr nt (dP vs)) w):Calls P f vs.toArray w R:=by
 refine calls_of_wp hf hb ?_;have hle':=iE' hle;have e:(⟨vs.toArray++jQ' (fn.ntmps-vs.toArray.size) undef,[]⟩:Act)=fr nt (dP vs):=by
  rw [hn];simp only [fr];congr 1;apply Array.ext
  ·simp; omega
  ·intro i h1 h2;simp only [jq',dP,jG'];split
   ·rename_i hi; simp at hi; simp [jk',in' hi]
   ·rename_i hi; simp at hi; simp [jk',iK' hi]
 rw [e];exact h
theorem Me {fn:Func}{R:Ending->World->Prop}(hr:fn.results=#[])(h:R (.returned (.tuple #[])) w):bodyPost P fn R .normal (fr n F) w :=
 ⟨rfl,.tuple #[],by rw [Bd,hr];simp only [List.mapM_toArray,List.mapM_nil,Sem.run_bind,Sem.run_map,Result.andThen_ok,Sem.run_pure];rfl,h⟩
theorem bX' {fn:Func}{R:Ending->World->Prop}{t:Nat}(v:Value)(hr:fn.results=#[.tmp t])(ht:iG' t n=true)(hv:F t=v)(h:R (.returned v) w):bodyPost P fn R .ret (fr n F) w :=
 ⟨rfl,v,by have e1:=xY (P:=P) (w:=w) (r:=.tmp t) (v:=v) ⟨ht,hv⟩;rw [Bd,hr];simp only [List.mapM_toArray,List.mapM_cons,List.mapM_nil,Sem.run_bind,Sem.run_map,e1,Result.andThen_ok,Sem.run_pure];rfl,h⟩
theorem Tv {fn:Func}{R:Ending->World->Prop}{t u:Nat}(v x:Value)(hr:fn.results=#[.tmp t,.tmp u])(ht:iG' t n=true)(hu:iG' u n=true)(hv:F t=v)(hx:F u=x)(h:R (.returned (.tuple #[v,x])) w):bodyPost P fn R .ret (fr n F) w :=
 ⟨rfl,.tuple #[v,x],by have e1:=xY (P:=P) (w:=w) (r:=.tmp t) (v:=v) ⟨ht,hv⟩;have e2:=xY (P:=P) (w:=w) (r:=.tmp u) (v:=x) ⟨hu,hx⟩;rw [Bd,hr];simp only [List.mapM_toArray,List.mapM_cons,List.mapM_nil,Sem.run_bind,Sem.run_map,e1,e2,Result.andThen_ok,Sem.run_pure];rfl,h⟩
theorem KS {T E:TypeId}{x y:Operand}{p:Option Addr}(hT:P.underlying T=some (.pointer E)) :
 aF P w (do eqGuard .eql T x y (.pointer p) (.pointer none); binOp .eql T (.pointer p) (.pointer none)) (.bool p.isNone):=by
 have h:∀ d:Nat,(Op.equalIn (d+1) T (.pointer p) (.pointer none)).run P w=.ok p.isNone w:=λd=>by cases p<;>simp [Op.equalIn,run_underlying hT]
 show Sem.run P (do eqGuard .eql T x y (.pointer p) (.pointer none); pure (Value.bool (<- Op.equalIn 10000 T (.pointer p) (.pointer none)))) w=_
 have hg:eqGuard .eql T x y (.pointer p) (.pointer none)=pure ():=rfl;rw [hg];simp only [Sem.run_bind,Sem.run_pure,Result.andThen_ok,h 9999]
theorem Rc {T E:TypeId}{x y:Operand}{a:Addr}{j:TypeInfo}(hT:P.underlying T=some (.pointer E))(hj:P.info? E=some j) :
 aF P w (do eqGuard .neq T x y (.pointer (some a)) (.pointer (some a)); binOp .neq T (.pointer (some a)) (.pointer (some a))) (.bool false):=by
 have hg:eqGuard .neq T x y (.pointer (some a)) (.pointer (some a))=pure ():=rfl;show Sem.run P (do eqGuard .neq T x y (.pointer (some a)) (.pointer (some a)); binOp .neq T (.pointer (some a)) (.pointer (some a))) w=_
 rw [hg];simp only [Sem.run_bind,Sem.run_pure,Result.andThen_ok];exact Lib.run_neq_ptr_same w a hT hj
theorem qV {f:FuncId}{xs:List Operand}{ats:Array TypeId}(vs:List Value){R:Ending->World->Prop}(hvs:xs.map (ev F)=vs)(hk:xs.all (aU n)=true)(hb:jq P f)(hc:Calls P f vs.toArray w R)
 (hR:∀ e w',R e w'->∃ v,e=.returned v/\wpList P ops Q rest (fr n (bD F d v)) w') :
 wpList P ops Q (⟨d,.call ⟨.value (.func f),xs.toArray,ats⟩,ty,pos,aX,none⟩::rest) (fr n F) w:=by
 subst hvs;refine vB (σ:=⟨w,λ_=>(0,0)⟩) (E:=λ_=>True) (R:=λv τ=>wpList P ops Q rest (fr n (bD F d v)) τ.w) rfl (.inl ⟨hb,hc.mono λe w' h=>?_⟩) (D8 hk w) (λv τ _ h=>h);obtain ⟨v,e1,h2⟩:=hR e w' h;exact ⟨v,⟨w',λ_=>(0,0)⟩,e1,rfl,trivial,h2⟩
theorem Bw.grown {B:Nat}{w w':World}{v:Value}(h:w.grownBy w' v.ownBlock)(hd:w.drawn<=w'.drawn)(hv:∀ g,v.ownBlock=some g->B<=g)(hB:B<=w.heap.size):Bw B w w' :=
 ⟨⟨h.os,h.tape,h.output,h.size,λk hk=>h.block k (by omega) (λe=>by have:=hv k e.symm; omega)⟩,hd⟩
theorem Jw {B:Nat}{T:TypeId}{s n:Nat}{v:Value}{xs:List Value}(h:w.ownsRow B T s v n xs):∀ g,v.ownBlock=some g->B<=g:=by
 intro g hg;rcases h.2 with ⟨rfl,_⟩ | ⟨g',cap,au,rfl,hb,_⟩
 ·cases hg
 ·cases hg; exact hb
theorem bZ' {T E:TypeId}{i:TypeInfo}{z v:Value}{x:Operand}(hu:P.underlying T=some (.slice E))(hi:P.info? E=some i)(hz:i.zero=some z)(hs:i.size=1)(_:z.cells.size=1)(hx:ev F x=v)(hk:aU n x=true)(hv:v.cells.toList=[v])(hv2:v.cells.size=1)
 (h:wpList P ops Q rest (fr n (bD F d (.slice (some ⟨w.heap.size,0,none⟩) 1 1))) (w.alloc (.cells #[v] E))) :
 wpList P ops Q (⟨d,.buildSlice T 1 #[(0,x)],ty,pos,aX,none⟩::rest) (fr n F) w:=by
 refine dH rfl (.slice (some ⟨w.heap.size,0,none⟩) 1 1) (w.alloc (.cells #[v] E)) ?_ h;have qp:=Dy 1 (Nat.zero_lt_one) [v] 0 (((Array.range 1).map (z.cells[·%z.cells.size]!)).toList) (by simp) (by simp [hv2])
 simp only [Nat.zero_mul,List.take_zero,jx',Array.toArray_toList] at qp;show Sem.run P (do pure (Next.value (<- Instr.buildSlice T 1 (#[(0,x)].map λ(i,x)=>(i,(fr n F).eval x))))) w=_
 have he:(#[((0:Nat),x)].map λ(i,x)=>(i,(fr n F).eval x))=#[(0,v)]:=by simp [bq hk,hx]
 rw [he];have hrun:(Instr.buildSlice T 1 #[(0,v)]).run P w=.ok (.slice (some ⟨w.heap.size,0,none⟩) 1 1) (w.alloc (.cells #[v] E)):=by
  unfold Instr.buildSlice;simp only [List.zipIdx_cons,List.zipIdx_nil,iH',List.map_nil] at qp;rw [<- hs] at qp;simp only [Sem.run_bind,run_underlying hu,Result.andThen_ok,sizeOf,typeInfo,run_program,hi,Sem.run_pure,hs,jW',if_neg (show ¬ (1:Nat)>2^24 by decide),if_neg (show ¬ (1:Nat)=0 by decide),zeroValue,hz,newRow]
  rw [hs] at qp;simp only [qp,Sem.run_pure,Result.andThen_ok,Sem.run_bind,run_newObj];simp [hv]
 rw [Sem.run_bind,hrun];rfl
end
end Go.Qx
end
section
open Array renaming getElem?_eq_some_iff->jg'
open Go.Proofs.Tryz renaming prog->ig'
open List renaming length_append->iq'
open Nat renaming le_refl->ip',le_trans->iz'
open Option renaming map_eq_some_iff->ja'
open Go.Proofs.Tryz
namespace Go.Qx
open Go Go.RowKit Go.Sx
set_option maxHeartbeats 1600000
set_option maxRecDepth 100000
abbrev bO (b:Nat):Value:=.pointer (some ⟨b,0,none⟩)
theorem Ey:u7 ig' 163 0 0:=⟨_,_,underlying163,rfl,rfl,by kernel_rfl⟩
theorem Cg:u7 ig' 163 1 1:=⟨_,_,underlying163,rfl,rfl,by kernel_rfl⟩
theorem Pn:fo ig' 160:=⟨_,underlying160,rfl,by kernel_rfl⟩
theorem NW:fo ig' 161:=⟨_,underlying161,rfl,by kernel_rfl⟩
theorem YI (x:Value)(w:World):(callFunc 214 [x].toArray).run ig' w=.ok (.value x) w:=by
 have hn:Extern.findNext f214=none:=by kernel_rfl
 have he:Extern.find f214=some Extern.AbiNoEscape.same:=by kernel_rfl
 rw [run_callFunc_extern func214 (by kernel_rfl) (by kernel_rfl) hn he]
 rfl
theorem Pv {b B:Nat}{bs:List Value}{p:Value}{w:World}(hp:p=.pointer none\/p=bO b)(h:Lib.BuilderAt 163 5 B b p bs w) :
 Calls ig' 178 [bO b].toArray w λe w'=>e=.returned (.tuple #[])/\Lib.BuilderAt 163 5 B b (bO b) bs w'/\Bw B w w':=by
 obtain ⟨j,hj,hjs⟩:∃ j,ig'.info? 163=some j/\j.size=2:=ja'.1 (by kernel_rfl)
 obtain ⟨hB,v,hb,hown,hne⟩:=h;have c0:w.cell? ⟨b,0,none⟩=some p:=by simp [World.cell?,hb]
 refine Fg 20 func178 rfl rfl rfl ?_;refine wp_seq (wp_region_lit ?_);refine gT (bO b) rfl rfl ?_;refine oG ⟨b,0,none⟩ rfl rfl ?_;refine l6 b 0 0 0 rfl rfl Ey rfl ?_;refine jU b 0 p rfl rfl (nR Pn c0) ?_;rcases hp with rfl | rfl
 ·refine nN (.pointer none) (.pointer none) (.bool true) rfl rfl rfl rfl (KS underlying160) ?_;refine wpList_nil (eH ?_);refine yI rfl rfl rfl (wp_region_lit ?_);refine gT (bO b) rfl rfl ?_;refine gT (bO b) rfl rfl ?_;have hsh:w.shape? b=some (163,2):=by simp [World.shape?,hb]
  refine KE rfl rfl (Lib.run_to_unsafe (e:=163) (cells:=2) w ⟨b,0,none⟩ underlying160 underlying228 hj (by rw [hjs]; decide) hsh (Nat.zero_lt_succ 1)) ?_
  refine UY [bO b] (bO b) rfl rfl (YI _ w) ?_;refine KE rfl rfl (Lib.run_from_unsafe (e:=163) (cells:=2) w ⟨b,0,none⟩ underlying228 underlying160 hj hsh (by kernel_rfl)) ?_
  refine oG ⟨b,0,none⟩ rfl rfl ?_;refine l6 b 0 0 0 rfl rfl Ey rfl ?_;refine Dz (cs:=[.pointer none,v]) hb 0 (bO b) rfl rfl rfl rfl rfl (by kernel_rfl) rfl (Nat.zero_lt_succ 1) ?_
  refine wpList_nil (Me rfl ⟨rfl,⟨hB,v,?_,?_,hne⟩,Bw.setCells hB 0 _ w⟩)
  ·have:=xG b 163 [bO b] 0 w [.pointer none,v] hb (Nat.le_succ 1);exact this
  ·obtain ⟨h1,h2⟩:=hown;refine ⟨h1,h2.imp id λ⟨g,cap,au,e,hg,hh,r⟩=>⟨g,cap,au,e,hg,?_,r⟩⟩;rw [vR b _ 0 w g (by rintro rfl; rw [e] at hne; exact hne rfl)]
   exact hh
 ·refine nN (bO b) (.pointer none) (.bool false) rfl rfl rfl rfl (KS underlying160) ?_;refine wpList_nil (eH ?_);refine uX rfl rfl rfl (wp_seq (wp_region_lit ?_));refine gT (bO b) rfl rfl ?_;refine oG ⟨b,0,none⟩ rfl rfl ?_;refine l6 b 0 0 0 rfl rfl Ey rfl ?_;refine jU b 0 (bO b) rfl rfl (nR Pn c0) ?_;refine gT (bO b) rfl rfl ?_;refine nN (bO b) (bO b) (.bool false) rfl rfl rfl rfl (Rc underlying160 hj) ?_;refine wpList_nil (eH ?_);refine uX rfl rfl rfl (wp_skip (Me rfl ⟨rfl,⟨hB,v,hb,hown,hne⟩,Bw.refl B w⟩))
theorem Ky:jq ig' 178:=⟨_,_,func178,rfl,by kernel_rfl⟩
theorem Dv {b B:Nat}{bs:List Value}{w:World}(h:Lib.IsBuilder 163 5 B b bs w):∃ p,(p=.pointer none\/p=bO b)/\Lib.BuilderAt 163 5 B b p bs w :=
 h.elim (λh=>⟨_,.inl rfl,h⟩) (λh=>⟨_,.inr rfl,h⟩)
theorem OV {b B:Nat}{cs:List Value}{w w':World}{v v':Value}(hB:B<=b)(hb:w.heap[b]?=some (.cells #[bO b,v] 163 (0,0)))(hne:v.ownBlock≠some b)(hg:w.grownBy w' v.ownBlock)(hown:w'.ownsRow B 5 1 v' cs.length cs)(hne':v'.ownBlock≠some b) :
 w'.heap[b]?=some (.cells #[bO b,v] 163 (0,0))/\Lib.BuilderAt 163 5 B b (bO b) cs (w'.setCells b 1 [v']):=by
 have hlt:b<w.heap.size:=(jg'.1 hb).1;have h1:w'.heap[b]?=some (.cells #[bO b,v] 163 (0,0)):=by rw [hg.block b hlt λe=>hne e.symm]; exact hb
 refine ⟨h1,hB,v',?_,?_,hne'⟩
 ·exact xG b 163 [v'] 1 w' [bO b,v] h1 (ip' 2)
 ·obtain ⟨a1,a2⟩:=hown;refine ⟨a1,a2.imp id λ⟨g,cap,au,e,hg,hh,r⟩=>⟨g,cap,au,e,hg,?_,r⟩⟩;rw [vR b _ 1 w' g (by rintro rfl; rw [e] at hne'; exact hne' rfl)]
  exact hh
theorem Mq {b B:Nat}{T:TypeId}{cs:List Value}{w w':World}{v v':Value}{n:Nat}(hlt:b<w.heap.size)(hb:w.heap[b]?=some (.cells #[bO b,v] 163 (0,0)))(hne:v.ownBlock≠some b)(hg:w.grownBy w' v.ownBlock)(hown:w'.ownsRow B 5 1 v' n cs):v'.ownBlock≠some b:=by
 intro e;rcases hown.2 with ⟨rfl,_⟩ | ⟨g,cap,au,rfl,_,hh,_⟩
 ·cases e
 ·cases e;rw [hg.block g hlt λe=>hne e.symm,hb] at hh;cases hh
theorem JX {b B:Nat}{bs:List Value}{s:ByteArray}{w:World}(h:Lib.IsBuilder 163 5 B b bs w)(hlen:bs.length+s.size<=1000000000)(hBw:B<=w.heap.size) :
 Calls ig' 124 [bO b,.string s].toArray w λe w'=>(∃ v,e=.returned v)/\Lib.BuilderAt 163 5 B b (bO b) (bs++Lib.strCells s) w'/\Bw B w w':=by
 obtain ⟨p,hp,h⟩:=Dv h;obtain ⟨i,hi,hz⟩:∃ i,ig'.info? 5=some i/\(i.zero,i.size,i.bytes)=(some (.int .u8 0),1,1):=ja'.1 (by kernel_rfl)
 simp only [Prod.mk.injEq] at hz;refine Fg 19 func124 rfl rfl rfl ?_;refine wp_seq (wp_region_lit ?_);refine l8 (.int .i64 0) rfl rfl ?_;refine l8 .nilIface rfl rfl ?_;refine wpList_nil (eH (wp_seq (wp_region_lit ?_)));refine gT (bO b) rfl rfl ?_;refine qV [bO b] rfl rfl Ky (Pv hp h) ?_;rintro e w1 ⟨rfl,hat,hbw⟩;refine ⟨_,rfl,?_⟩;refine wpList_nil (eH (wp_seq (wp_region_lit ?_)));obtain ⟨hB,v,hb,hown,hne⟩:=hat;have c1:w1.cell? ⟨b,1,none⟩=some v:=by simp [World.cell?,hb]
 have hlt:b<w1.heap.size:=(jg'.1 hb).1;refine gT (bO b) rfl rfl ?_;refine gT (bO b) rfl rfl ?_;refine oG ⟨b,0,none⟩ rfl rfl ?_;refine l6 b 0 1 1 rfl rfl Cg rfl ?_;refine jU b 1 v rfl rfl (nR NW c1) ?_;refine gT (.string s) rfl rfl ?_;obtain ⟨v',w2,hr,hown',hg,_⟩:=Lib.run_append_own_string (P:=ig') (w:=w1) B 161 9 161 5 i underlying161 underlying9 hi hz.1 hz.2.1 hz.2.2 v bs.length bs hown s (by unfold maxLen; omega) (by omega) (iz' hBw hbw.below.size)
 refine Lh rfl rfl rfl rfl hr ?_;have hd:=sW _ hr;have hl:bs.length+s.size=(bs++Lib.strCells s).length:=by rw [iq',Lib.strCells_length]
 rw [hl] at hown';have hne':=Mq (T:=5) hlt hb hne hg hown';obtain ⟨hb2,Jg⟩:=OV hB hb hne hg hown' hne';refine oG ⟨b,0,none⟩ rfl rfl ?_;refine l6 b 0 1 1 rfl rfl Cg rfl ?_;have hv1:v'.cells.toList=[v']/\v'.oneCell'=true:=by
  rcases hown'.2 with ⟨rfl,_⟩ | ⟨g,cap,au,rfl,_⟩
  ·exact ⟨rfl,rfl⟩
  ·exact ⟨rfl,rfl⟩
 refine Dz (cs:=[bO b,v]) hb2 1 v' rfl rfl rfl rfl hv1.1 (by kernel_rfl) hv1.2 (Nat.lt_succ_self 1) ?_
 refine wpList_nil (eH (wp_seq (wp_region_lit ?_)));refine gT (.string s) rfl rfl ?_;refine Jm s rfl rfl underlying9 ?_;refine l8 (.int .i64 (s.size:Int)) rfl rfl ?_;refine l8 .nilIface rfl rfl ?_;refine wpList_nil (eH (wp_ret (Tv (.int .i64 (s.size:Int)) .nilIface rfl rfl rfl rfl rfl ⟨⟨_,rfl⟩,Jg,?_⟩)));exact hbw.trans ((Bw.grown hg hd (Jw hown) (iz' hBw hbw.below.size)).trans (Bw.setCells hB 1 _ w2))
theorem UO {b B:Nat}{bs:List Value}{c:Int}{w:World}(h:Lib.IsBuilder 163 5 B b bs w)(hlen:bs.length+1<=1000000000)(hBw:B<=w.heap.size) :
 Calls ig' 123 [bO b,.int .u8 c].toArray w λe w'=>(∃ v,e=.returned v)/\Lib.BuilderAt 163 5 B b (bO b) (bs++[.int .u8 c]) w'/\Bw B w w':=by
 obtain ⟨p,hp,h⟩:=Dv h;obtain ⟨i,hi,hz⟩:∃ i,ig'.info? 5=some i/\(i.zero,i.size,i.bytes)=(some (.int .u8 0),1,1):=ja'.1 (by kernel_rfl)
 simp only [Prod.mk.injEq] at hz;refine Fg 17 func123 rfl rfl rfl ?_;refine wp_seq (wp_region_lit ?_);refine l8 .nilIface rfl rfl ?_;refine wpList_nil (eH (wp_seq (wp_region_lit ?_)));refine gT (bO b) rfl rfl ?_;refine qV [bO b] rfl rfl Ky (Pv hp h) ?_;rintro e w1 ⟨rfl,hat,hbw⟩;refine ⟨_,rfl,?_⟩;refine wpList_nil (eH (wp_seq (wp_region_lit ?_)));obtain ⟨hB,v,hb,hown,hne⟩:=hat;have c1:w1.cell? ⟨b,1,none⟩=some v:=by simp [World.cell?,hb]
 have hlt:b<w1.heap.size:=(jg'.1 hb).1;refine gT (bO b) rfl rfl ?_;refine gT (bO b) rfl rfl ?_;refine oG ⟨b,0,none⟩ rfl rfl ?_;refine l6 b 0 1 1 rfl rfl Cg rfl ?_;refine jU b 1 v rfl rfl (nR NW c1) ?_;refine gT (.int .u8 c) rfl rfl ?_;refine bZ' (v:=.int .u8 c) underlying161 hi hz.1 hz.2.1 rfl rfl rfl rfl rfl ?_;have rY:Bw B w1 (w1.alloc (.cells #[.int .u8 c] 5)):=⟨(Below.refl _ _).alloc (iz' hBw hbw.below.size) _,ip' _⟩;have hb1:(w1.alloc (.cells #[.int .u8 c] 5)).heap[b]?=some (.cells #[bO b,v] 163 (0,0)):=by rw [heap_alloc_old _ _ hlt]; exact hb
 have hown1:(w1.alloc (.cells #[.int .u8 c] 5)).ownsRow B 5 1 v bs.length bs:=by obtain ⟨a1,a2⟩:=hown;refine ⟨a1,a2.imp id λ⟨g,cap,au,e,hg,hh,r⟩=>⟨g,cap,au,e,hg,?_,r⟩⟩;rw [heap_alloc_old _ _ (jg'.1 hh).1];exact hh
 have hlt1:b<(w1.alloc (.cells #[.int .u8 c] 5)).heap.size:=(jg'.1 hb1).1;have hBw1:=iz' (iz' hBw hbw.below.size) rY.below.size;obtain ⟨v',w2,hr,hown',hg,_⟩:=run_append_own (P:=ig') (w:=w1.alloc (.cells #[.int .u8 c] 5)) B 161 161 5 i (.int .u8 0) 1 1 underlying161 hi hz.1 hz.2.1 hz.2.2 rfl Nat.zero_lt_one v bs.length bs hown1 ⟨w1.heap.size,0,none⟩ 1 1 [.int .u8 c] rfl (λj u hj=>by
  have hj0:j=0:=by
   rcases j with _ | j
   ·rfl
   ·simp at hj
  subst hj0;simp at hj;subst hj;rw [show (Addr.add ⟨w1.heap.size,0,none⟩ 0:Addr)=⟨w1.heap.size,0,none⟩ from rfl,World.cell?,heap_alloc_new]
  rfl) (λu hu=>by simp at hu; subst hu; rfl) (by unfold maxLen; omega) (by omega) hBw1
 refine Lh rfl rfl rfl rfl hr ?_;have hd:=sW _ hr;rw [show bs.length+1=(bs++[Value.int .u8 c]).length by simp] at hown'
 have hne':=Mq (T:=5) hlt1 hb1 hne hg hown';obtain ⟨hb2,Jg⟩:=OV hB hb1 hne hg hown' hne';refine oG ⟨b,0,none⟩ rfl rfl ?_;refine l6 b 0 1 1 rfl rfl Cg rfl ?_;have hv1:v'.cells.toList=[v']/\v'.oneCell'=true:=by
  rcases hown'.2 with ⟨rfl,_⟩ | ⟨g,cap,au,rfl,_⟩
  ·exact ⟨rfl,rfl⟩
  ·exact ⟨rfl,rfl⟩
 refine Dz (cs:=[bO b,v]) hb2 1 v' rfl rfl rfl rfl hv1.1 (by kernel_rfl) hv1.2 (Nat.lt_succ_self 1) ?_
 refine wpList_nil (eH (wp_seq (wp_region_lit ?_)));refine l8 .nilIface rfl rfl ?_;refine wpList_nil (eH (wp_ret (bX' .nilIface rfl rfl rfl ⟨⟨_,rfl⟩,Jg,?_⟩)));exact hbw.trans (rY.trans ((Bw.grown hg hd (Jw hown1) hBw1).trans (Bw.setCells hB 1 _ w2)))
end Go.Qx
end
section
namespace Go.Proofs
open Go.RowKit
set_option maxRecDepth 100000
set_option maxHeartbeats 4000000 in
theorem Tryz.bstr1 {b g cap:Nat}{au:Array Value}{p:Value}{l:List UInt8}{w:World}(hb:w.heap[b]?=some (.cells #[p,.slice (some ⟨g,0,none⟩) l.length cap] 163 (0,0)))(hg:w.heap[g]?=some (.cells au 5 (0,0)))
 (h0:l≠[]) (hnc:l.length<=cap) (hcs:au.size=cap) (hcm:l.length<=1000000000) (hc:∀ (j:Nat) (x:UInt8),l[j]?=some x->au[j]?=some (Value.int IntKind.u8 (x.toNat:Int))) :
 Calls Tryz.prog 126 #[.pointer (some ⟨b,0,none⟩)] w λe w'=>e=.returned (.string ⟨l.toArray⟩)/\w'=w.drew.freeze ⟨g,0,none⟩ l.length:=by
 have hl0:l.length≠0:=by simpa using h0
 have hb':w.drew.heap[b]?=some (.cells #[p,.slice (some ⟨g,0,none⟩) l.length cap] 163 (0,0)):=hb;have hg':w.drew.heap[g]?=some (.cells au 5 (0,0)):=hg;have c1:w.drew.cell? ⟨b,1,none⟩=some (.slice (some ⟨g,0,none⟩) l.length cap):=by simp [World.cell?,hb']
 have hSD:(Builtin.unsafeSliceData_ #[161] 203 #[.slice (some ⟨g,0,none⟩) l.length cap]).run Tryz.prog w.drew=.ok (.pointer (some ⟨g,0,none⟩)) w.drew :=
  Lib.run_unsafeSliceData_row _ _ _ _ _ _ (by omega)
 have hUS:(Builtin.unsafeString_ #[203,3] 9 #[.pointer (some ⟨g,0,none⟩),.int .i64 l.length]).run Tryz.prog w.drew=.ok (.string ⟨l.toArray⟩) (w.drew.freeze ⟨g,0,none⟩ l.length) :=
  Lib.run_unsafeString_row w.drew 203 3 9 5 Tryz.underlying203 (by kernel_rfl) g au.size (by simp [World.shape?,hg']) l h0 (by omega) (by omega) (λj x hx=>by
   have:=hc j x hx;have e:((⟨g,0,none⟩:Addr).add j)=⟨g,j,none⟩:=by rcases j with _ | j<;>simp [Addr.add]
   rw [e];simp [World.cell?,hg',this])
 go_enter Tryz.func126,Tryz.ntmps126
 go_wp2
 go_region
 all_goals (go_wp2; go_ret; exact ⟨rfl,rfl⟩)
set_option maxHeartbeats 4000000 in
theorem Tryz.bstr0 {b:Nat}{p:Value}{w:World}(hb:w.heap[b]?=some (.cells #[p,.slice none 0 0] 163 (0,0))) :
 Calls Tryz.prog 126 #[.pointer (some ⟨b,0,none⟩)] w λe w'=>e=.returned (.string ⟨#[]⟩)/\w'=w.drew:=by
 have hb':w.drew.heap[b]?=some (.cells #[p,.slice none 0 0] 163 (0,0)):=hb;have c1:w.drew.cell? ⟨b,1,none⟩=some (.slice none 0 0):=by simp [World.cell?,hb']
 have hSD:(Builtin.unsafeSliceData_ #[161] 203 #[.slice none 0 0]).run Tryz.prog w.drew=.ok (.pointer none) w.drew:=Lib.run_unsafeSliceData_nil _ _ _ _ _;have hUS:(Builtin.unsafeString_ #[203,3] 9 #[.pointer none,.int .i64 0]).run Tryz.prog w.drew=.ok (.string .empty) w.drew:=Lib.run_unsafeString_none _ _ _ _ _
 go_enter Tryz.func126,Tryz.ntmps126
 go_wp2
 go_region
 all_goals (go_wp2; go_ret; exact ⟨rfl,rfl⟩)
end Go.Proofs
end
section
open Array renaming getElem_append->jG',getElem_ofFn->jq',replicate->jQ'
open List renaming getD->jk',getElem?_eq_getElem->in',getElem?_eq_none->iK',length_cons->iF',map_cons->iH',mem_cons->ir'
open Nat renaming beq->il',eq_of_beq_eq_true->ii',le_of_ble_eq_true->iE',le_refl->ip',le_trans->iz'
open Option renaming bind_assoc->iS',bind_some->io'
namespace Go.Qx
open Go Go.RowKit Go.Sx
section
variable {I:TypeId->Type} [∀ E,Rp (I E)] {P:Program}{tb:aD I}{X X':aY}{c c':Cx}{σ τ:S}{s:St I}{n:Nat}{F:Fr}
abbrev fI (I:TypeId->Type)(k:Kd):Type:=List (ByteArray×Ty I k)
def L8 (tb:aD I)(TA TB:TypeId)(ka kb:Kd)(rs:List Kd)(rl:List ResultVar):Ex->St I->Option (fA I rs×fI I ka×fI I kb):=λe s=>match e with
 | .exit _=>none
 | _=>(kE tb s rl).bind λa=>(mW tb s.O rs a).bind λx=>bif iR x.2 then (match s.O 0,s.O 1 with
   | some (some (.map jf _ ma)),some (some (.map iW _ mb))=>(ku (T:=TA) (T':=jf) (kd:=ka) ma).bind λya=>(ku (T:=TB) (T':=iW) (kd:=kb) mb).bind λyb=>some (x.1,ya,yb)
   | _,_=>none) else none
def FY (tb:aD I)(TA TB:TypeId)(ka kb:Kd)(ks:List Kd)(nt:Nat)(ma:fI I ka)(mb:fI I kb)(q:fA I ks):St I :=
 ⟨nt,λi=>(PV.agg [.mp 0,.mp 1]::jW tb ks q)[i]?,λl=>bif il' l 0 then some (some (.map TA ka ma)) else bif il' l 1 then some (some (.map TB kb mb)) else none,2⟩
def tK (tb:aD I)(TA TB:TypeId)(ka kb:Kd)(ks rs:List Kd)(run:fI I ka->fI I kb->fA I ks->Option (fA I rs×fI I ka×fI I kb))(_:dn I)(ρ:Type)(O:ay I)(_:Nat)(ps:List (PV I))(k:Ef I->Option ρ):Option ρ:=match ps with
 | .agg [.mp la,.mp lb]::r=>match O la,O lb with
   | some (some (.map jf _ ma)),some (some (.map iW _ mb))=>bif il' la lb then none else (ku (T:=TA) (T':=jf) (kd:=ka) ma).bind λya=>(ku (T:=TB) (T':=iW) (kd:=kb) mb).bind λyb =>
      (mW tb O ks r).bind λq=>(run ya yb q.1).bind λx=>k ⟨jo (jW tb rs x.1),aT O q.2++[(la,some (.map TA ka x.2.1)),(lb,some (.map TB kb x.2.2))],[]⟩
   | _,_=>none
 | _=>none
theorem SF (ht:aV P tb){Ah:dn I}(hd0:iT P Ah)(hmx:P.follows .mixedOrders=true){f:FuncId}{fn:Func}{TA TB:TypeId}{ka kb:Kd}{ks rs:List Kd}{nt:Nat}{cd:Code}{rl:List ResultVar}{H:Hints I}
 {run:fI I ka->fI I kb->fA I ks->Option (fA I rs×fI I ka×fI I kb)}
 (hf : P.funcs[f]? = some fn) (hb : fn.body = some cd) (hname : (fn.name == "runtime.NumGoroutine") = false) (hn : fn.ntmps = nt) (hres : fn.results.toList = rl) (hle : Nat.ble (ks.length + 1) nt = true) (hcode : iy H cd 1 = true)
 (hex:run=λma mb q=>jG tb Ah H cd 1 (fA I rs×fI I ka×fI I kb) (FY tb TA TB ka kb ks nt ma mb q) (L8 tb TA TB ka kb rs rl)) :
 qB P (⟨f,tK tb TA TB ka kb ks rs run⟩:jZ I):=by
 refine ⟨λaj ρ O nb ps k=>?_,λaj hd O nb ps ef he=>?_⟩
 ·show tK tb TA TB ka kb ks rs run aj ρ O nb ps k=(tK tb TA TB ka kb ks rs run aj (Ef I) O nb ps some).bind k;unfold tK;split
  ·rename_i la lb r;split
   ·cases il' la lb
    ·simp only [cond_false,iS',io']
    ·rfl
   ·rfl
  ·rfl
 ·intro X c σ s n F vs hX hO h hvs hfree;have he':tK tb TA TB ka kb ks rs run aj (Ef I) O nb ps some=some ef:=he;unfold tK at he';split at he'
  ·rename_i la lb r;split at he'
   ·rename_i jf kU ma iW kg mb hoa dD;cases hab:il' la lb with
    | true=>rw [hab] at he'; cases he'
    | false =>
    rw [hab] at he';simp only [cond_false] at he';have hne:la≠lb:=λe=>by subst e; simp at hab
    obtain ⟨ya,hya,he'⟩:=bind_some he';obtain ⟨yb,hyb,he'⟩:=bind_some he';obtain ⟨q,hq,he'⟩:=bind_some he';obtain ⟨x,hx,he'⟩:=bind_some he';cases he';obtain ⟨ea,eTa,rfl⟩:=oI hya;subst ea;subst eTa;obtain ⟨eb,eTb,rfl⟩:=oI hyb;subst eb;subst eTb;obtain ⟨σ1,p1,p2,p3,p4,p5,p6⟩:=h.pubs hO q.2;have pF:∀ {l:Nat} {T:TypeId} {kd:Kd} {m:fI I kd},O l=some (some (.map T kd m))->(aG s O q.2).O l=some (some (.map T kd m)):=λ{l T kd m} ho=>by
     have:(aG s O q.2).O l=s.O l:=by
      show bC s.O (aT O q.2) l=s.O l;apply kH;intro hm;have hp:∀ {ls:List Nat},l∈eF (aT O ls)->∃ E,∃ xs:List (I E),O l=some (some (.row E xs false)):=by
       intro ls
       induction ls with
       | nil=>intro h; simp [aT,eF] at h
       | cons a r ih =>
         intro h;simp only [aT] at h;split at h
         ·rename_i E xs e;simp only [eF,iH',ir'] at h;rcases h with rfl | h
          ·exact ⟨E,xs,e⟩
          ·exact ih h
         ·exact ih h
      obtain ⟨E,xs,e⟩:=hp hm;rw [ho] at e;cases e
     rw [this]; exact hO l _ ho
    have hsa:=pF hoa;have hsb:=pF dD;have qC:=ah.step p2 _ _ hvs;simp only [ah] at qC;obtain ⟨v0,vs',rfl,hv0,gu'⟩:=qC;have hdv:=uT ht p4 hq (λl hl=>hl) gu';obtain ⟨ba,pQ,Dn⟩:=p3.aL la _ hsa;obtain ⟨bb,qK,Dp⟩:=p3.aL lb _ hsb;have hbne:ba≠bb:=λe=>hne (p3.inj la lb _ _ ba ⟨_,hsa⟩ ⟨_,hsb⟩ pQ qK rfl (by rw [e]))
    have gv':v0=.agg [Value.map (some ba),Value.map (some bb)].toArray:=by
     simp only [RV,RG] at hv0;obtain ⟨cs,e,a1,r1,e1,h1,a2,r2,e2,h2,h3⟩:=hv0;rcases h1 with h1 | ⟨_,w1,f1,g1⟩
     ·exact absurd h1 (by simp [nP])
     rcases h2 with h2 | ⟨_,w2,f2,g2⟩
     ·exact absurd h2 (by simp [nP])
     obtain ⟨b1,u1,m1,n1⟩:=g1;obtain ⟨b2,u2,m2,n2⟩:=g2;rw [pQ] at m1;cases m1;rw [qK] at m2;cases m2;rw [e,e1,f1,e2,f2,h3,n1,n2];rfl
    let X0:aY:=⟨P,σ1.N,λb=>b=ba\/b=bb⟩
    let c0:Cx:=λl=>bif il' l 0 then some ⟨some ⟨ba,0,none⟩,0,0,some ba⟩ else bif il' l 1 then some ⟨some ⟨bb,0,none⟩,0,0,some bb⟩ else none
    have d9:∀ {l:Nat} {o:Ob I},(FY tb jf iW kU kg ks nt ma mb q.1).O l=some (some o)->(l=0/\o=.map jf kU ma)\/(l=1/\o=.map iW kg mb):=λ{l o} ho=>by
     have ho':(bif il' l 0 then some (some (Ob.map jf kU ma)) else bif il' l 1 then some (some (.map iW kg mb)) else none)=some (some o):=ho
     cases h0:il' l 0 with
     | true=>rw [h0] at ho'; cases ho'; exact .inl ⟨ii' h0,rfl⟩
     | false =>
       rw [h0] at ho';cases h1:il' l 1 with
       | true=>rw [h1] at ho'; cases ho'; exact .inr ⟨ii' h1,rfl⟩
       | false=>rw [h1] at ho'; cases ho'
    have hvd:ah X0 c0 σ1 (jW tb ks q.1) vs':=ve ht hdv;have qA:Rel X0 c0 σ1 (FY tb jf iW kU kg ks nt ma mb q.1) nt (dP (v0::vs')):=by
     refine ⟨rfl,λi p hp=>?_,λl o ho=>?_,λl l' p p' b ⟨o,ho⟩ ⟨o',ho'⟩ hc hc' hw hw'=>?_,λl p b ⟨o,ho⟩ hc hw=>?_,λl hl=>?_,⟨ip' _,λE=>iz' (p3.base.2 E) p3.base.1⟩,ja.uz λl E E' u xs q e=>?_⟩
     ·have eu:ah X0 c0 σ1 (.agg [.mp 0,.mp 1]::jW tb ks q.1) (v0::vs'):=by
       simp only [ah];refine ⟨v0,vs',rfl,?_,hvd⟩;simp only [RV];refine ⟨_,gv',?_⟩;simp only [RG];exact ⟨[.map (some ba)],[.map (some bb)],rfl,.inr ⟨rfl,_,rfl,by simp only [RV]; exact ⟨ba,_,rfl,rfl⟩⟩,[.map (some bb)],[],rfl,.inr ⟨rfl,_,rfl,by simp only [RV]; exact ⟨bb,_,rfl,rfl⟩⟩,rfl⟩
      obtain ⟨v,hv,hr⟩:=ah.at_ _ _ eu i p hp;have:dP (v0::vs') i=v:=by simp [dP,jk',hv]
      rw [this]; exact hr
     ·rcases d9 ho with ⟨rfl,rfl⟩ | ⟨rfl,rfl⟩
      ·exact ⟨ba,rfl,Dn⟩
      ·exact ⟨bb,rfl,Dp⟩
     ·rcases d9 ho with ⟨rfl,rfl⟩ | ⟨rfl,rfl⟩<;>rcases d9 ho' with ⟨rfl,rfl⟩ | ⟨rfl,rfl⟩
      ·rfl
      ·cases hc; cases hc'; cases hw; cases hw'; exact absurd rfl hbne
      ·cases hc; cases hc'; cases hw; cases hw'; exact absurd rfl hbne
      ·rfl
     ·rcases d9 ho with ⟨rfl,rfl⟩ | ⟨rfl,rfl⟩
      ·cases hc; cases hw; exact .inr (.inl rfl)
      ·cases hc; cases hw; exact .inr (.inr rfl)
     ·have hl':(bif il' l 0 then some (some (Ob.map jf kU ma)) else bif il' l 1 then some (some (.map iW kg mb)) else none)=(none:Option (Option (Ob I))):=hl
      show (bif il' l 0 then some _ else bif il' l 1 then some _ else none)=none
      cases h0:il' l 0 with
      | true=>rw [h0] at hl'; cases hl'
      | false =>
        rw [h0] at hl';cases h1:il' l 1 with
        | true=>rw [h1] at hl'; cases hl'
        | false=>rfl
     ·rcases d9 e with ⟨_,e⟩ | ⟨_,e⟩<;>cases e
    have hle':=iE' hle;have hlen:vs'.length=ks.length:=by
     have h1:=ah.len _ _ hvd;have h2:∀ (ks:List Kd) (q:fA I ks),(jW tb ks q).length=ks.length:=by
      intro ks
      induction ks with
      | nil=>intro q; rfl
      | cons k r ih=>intro q; simp only [jW,iF']; rw [ih]
     rw [h1,h2]
    have hcall:iB P f (v0::vs') σ1 (Stp X0.M σ1) λv τ=>∃ (s':St I) (c2:Cx) (F':Fr) (ws:List Value) (zs:List (PV I)),Rel X0 c2 τ s' nt F'/\Cx.le c0 c2/\s'.O 0=some (some (.map jf kU x.2.1))/\s'.O 1=some (some (.map iW kg x.2.2))/\v=gB ws/\kW τ rs x.1 ws:=by
     refine .inl ⟨⟨fn,_,hf,hb,hname⟩,calls_of_wp hf hb ?_⟩;have e:(⟨(v0::vs').toArray++jQ' (fn.ntmps-(v0::vs').toArray.size) undef,[]⟩:Act)=fr nt (dP (v0::vs')):=by
      rw [hn];simp only [fr];congr 1;apply Array.ext
      ·simp; omega
      ·intro i h1 h2;simp only [jq',dP,jG'];split
       ·rename_i hi; simp at hi; simp [jk',in' (show i<(v0::vs').length by simp; omega)]
       ·rename_i hi; simp at hi; simp [jk',iK' (l:=v0::vs') (show (v0::vs').length<=i by simp; omega)]
     rw [e];rw [hex] at hx;refine jS ht hd0 hmx cd 1 hcode _ _ _ _ X0 _ σ1 _ _ rfl hx qA λex s' c2 τ F' hfin hle2 hr st _=>?_;have key:L8 tb jf iW kU kg rs rl .normal s'=some x->∃ v,(results fn (fr nt F').tmps).run P τ.w=.ok v τ.w/\∃ v' τ',Ending.returned v=.returned v'/\τ'.w=τ.w/\Stp X0.M σ1 τ'/\∃ (s':St I) (c2:Cx) (F':Fr) (ws:List Value) (zs:List (PV I)),Rel X0 c2 τ' s' nt F'/\Cx.le c0 c2/\s'.O 0=some (some (.map jf kU x.2.1))/\s'.O 1=some (some (.map iW kg x.2.2))/\v'=gB ws/\kW τ' rs x.1 ws:=by
      intro hh;have hh':((kE tb s' rl).bind λa=>(mW tb s'.O rs a).bind λx=>bif iR x.2 then (match s'.O 0,s'.O 1 with
       | some (some (.map QB ka0 QC)),some (some (.map QD kb0 QE))=>(ku (T:=jf) (T':=QB) (kd:=kU) QC).bind λya=>(ku (T:=iW) (T':=QD) (kd:=kg) QE).bind λyb=>some (x.1,ya,yb)
       | _,_=>none) else none)=some x:=hh
      obtain ⟨zs,z1,hh'⟩:=bind_some hh';obtain ⟨y,z2,hh'⟩:=bind_some hh';obtain ⟨z3,hh'⟩:=aK hh';obtain ⟨ws,w1,w2⟩:=sG ht hr z1;have hnil:y.2=[]:=by
       revert z3;cases y.2 with
       | nil=>intro _; rfl
       | cons a r=>intro h; cases h
      obtain ⟨τ2,t1,t2,t3,t4,_,t6⟩:=hr.pubs (O:=s'.O) (λ_ _ h=>h) [];have Ai:=uT ht t4 z2 (λl hl=>by rw [hnil] at hl; cases hl) (ah.step t2 _ _ w1)
      split at hh'
      ·rename_i QB ka0 QC QD kb0 QE o1 o2;obtain ⟨yy,u1,hh'⟩:=bind_some hh';obtain ⟨yz,u2,hh'⟩:=bind_some hh';cases hh';obtain ⟨g1,g2,rfl⟩:=oI u1;subst g1;subst g2;obtain ⟨g1,g2,rfl⟩:=oI u2;subst g1;subst g2;exact ⟨gB ws,yM (by rw [hres]; exact w2),gB ws,τ2,rfl,t1,st.trans t2,aG s' s'.O [],c2,F',ws,zs,t3,hle2,(t6 0 (by simp)).trans o1,(t6 1 (by simp)).trans o2,rfl,Ai⟩
      ·cases hh'
     cases ex with
     | exit i=>cases hfin
     | normal =>obtain ⟨v,h1,v',τ',h2,h3⟩:=key hfin;exact ⟨rfl,v,h1,v',τ',h2,h3⟩
     | ret =>obtain ⟨v,h1,v',τ',h2,h3⟩:=key hfin;exact ⟨rfl,v,h1,v',τ',h2,h3⟩
    refine hcall.mono p1.symm λv τ st ⟨s',c2,F',ws,zs,hr,hle2,o1,o2,hv,hds⟩=>?_;subst hv;have QF:X.M ba:=p3.mine la _ ba ⟨_,hsa⟩ pQ rfl;have rU:X.M bb:=p3.mine lb _ bb ⟨_,hsb⟩ qK rfl;have q1:=p3.kill (l:=la) ⟨_,hsa⟩;have gy':(aP (aG s O q.2) la none).O lb=some (some (.map iW kg mb)):=(bW (λe=>hne e.symm)).trans hsb;have q2:=q1.kill (l:=lb) ⟨_,gy'⟩;have hlive:∀ {l':Nat},aQ (aP (aP (aG s O q.2) la none) lb none) l'->l'≠la/\l'≠lb/\aQ (aG s O q.2) l':=λ{l'} ⟨o,ho⟩=>by
     rcases bG ho with ⟨_,e⟩ | ⟨e1,ho⟩
     ·cases e
     ·rcases bG ho with ⟨_,e⟩ | ⟨e2,ho⟩
      ·cases e
      ·exact ⟨e2,e1,o,ho⟩
    have mY:∀ b,X0.M b->X.M b:=λb hb=>by
     rcases hb with hb | rfl | rfl
     ·exact .inl (iz' p3.base.1 hb)
     ·exact QF
     ·exact rU
    have hn:∀ l p g,aQ (aP (aP (aG s O q.2) la none) lb none) l->c l=some p->p.w=some g->¬ X0.M g:=λl p g hl hc hw hg=>by
     obtain ⟨e1,e2,o,ho⟩:=hlive hl;rcases hg with hg | rfl | rfl
     ·have:=(p3.aL l o ho).lt hc hw;have hg':σ1.N<=g:=hg;omega
     ·exact e1 (p3.inj l la p _ g ⟨o,ho⟩ ⟨_,hsa⟩ hc pQ hw rfl)
     ·exact e2 (p3.inj l lb p _ g ⟨o,ho⟩ ⟨_,hsb⟩ hc qK hw rfl)
    have hi:∀ g,X0.M g->bQ c σ1 (aP (aP (aG s O q.2) la none) lb none) g:=λg hg=>by
     have hni:bQ c σ1 (aG s O q.2) g:=by
      rcases hg with hg | rfl | rfl
      ·exact p3.fresh hg
      ·exact p3.owned ⟨_,hsa⟩ pQ rfl
      ·exact p3.owned ⟨_,hsb⟩ qK rfl
     exact (hni.set (l:=la) (o:=none)).set
    have q3:Rel X c τ (aP (aP (aG s O q.2) la none) lb none) n F:=q2.stepG st mY hn hi;have hi3:∀ g,X0.M g->bQ c τ (aP (aP (aG s O q.2) la none) lb none) g:=λg hg=>(hi g hg).step q2 st hn hi;obtain ⟨ba',j1,j2⟩:=hr.aL 0 _ o1;have j3:c2 0=some ⟨some ⟨ba,0,none⟩,0,0,some ba⟩:=hle2 0 _ rfl;rw [j3] at j1;cases j1;obtain ⟨bb',i1,i2⟩:=hr.aL 1 _ o2;have i3:c2 1=some ⟨some ⟨bb,0,none⟩,0,0,some bb⟩:=hle2 1 _ rfl;rw [i3] at i1;cases i1;have q4:=q3.wU (l:=la) (o:=.map jf kU x.2.1) ⟨ba,pQ,j2⟩ λp g hc hw=>by rw [pQ] at hc;cases hc;cases hw;exact ⟨QF,hi3 ba (.inr (.inl rfl)),λl' p' _ hl' hc' hw'=>hn l' p' ba hl' hc' hw' (.inr (.inl rfl))⟩
    have q5:=q4.wU (l:=lb) (o:=.map iW kg x.2.2) ⟨bb,qK,i2⟩ λp g hc hw=>by
     rw [qK] at hc;cases hc;cases hw;refine ⟨rU,(hi3 bb (.inr (.inr rfl))).set,λl' p' _ ⟨o',hl'⟩ hc' hw'=>?_⟩;rcases bG hl' with ⟨e,_⟩ | ⟨_,hl'⟩
     ·subst e;rw [pQ] at hc';cases hc';cases hw';exact hbne rfl
     ·exact hn l' p' bb ⟨o',hl'⟩ hc' hw' (.inr (.inr rfl))
    have hend:gD s nb ⟨jo (jW tb rs x.1),aT O q.2++[(la,some (.map jf kU x.2.1)),(lb,some (.map iW kg x.2.2))],[]⟩=aP (aP (aP (aP (aG s O q.2) la none) lb none) la (some (.map jf kU x.2.1))) lb (some (.map iW kg x.2.2)):=by
     have um:bC s.O (aT O q.2++[(la,some (.map jf kU x.2.1)),(lb,some (.map iW kg x.2.2))])=aZ (aZ (aZ (aZ (bC s.O (aT O q.2)) la none) lb none) la (some (.map jf kU x.2.1))) lb (some (.map iW kg x.2.2)):=by rw [jT];simp only [bC];funext i;simp only [aZ];cases il' i lb<;>cases il' i la<;>rfl
     show (⟨s.n,s.F,bC s.O (aT O q.2++[(la,some (.map jf kU x.2.1)),(lb,some (.map iW kg x.2.2))]),s.nx⟩:St I)=_;rw [um];rfl
    refine ⟨τ,rfl,p2.trans (st.mono λb _ hb=>mY b hb),c,Cx.le_refl c,by rw [hend]; exact q5,?_⟩
    exact vP (ve ht hds)
   ·cases he'
  ·cases he'
def JS (tb:aD I)(rs:List Kd)(rl:List ResultVar):Ex->St I->Option (fA I rs):=λe s=>match e with
 | .exit _=>none
 | _=>(kE tb s rl).bind λa=>(mW tb s.O rs a).bind λx=>bif iR x.2 then some x.1 else none
def ED (tb:aD I)(TV TA TB:TypeId)(ka kb k1:Kd)(nt:Nat)(ma:fI I ka)(mb:fI I kb)(q:Ty I k1):St I :=
 ⟨nt,λi=>[jV tb k1 q,.ptr 0 0][i]?,λl=>bif il' l 0 then some (some (.var TV [.mp 1,.mp 2] false)) else bif il' l 1 then some (some (.dO TA ka ma)) else bif il' l 2 then some (some (.dO TB kb mb)) else none,3⟩
def yx (O:ay I)(l:Nat)(T:TypeId)(kd:Kd):Option (fI I kd):=match O l with
 | some (some (.map T' _ m))=>ku (T:=T) (T':=T') (kd:=kd) m
 | some (some (.dO T' _ m))=>ku (T:=T) (T':=T') (kd:=kd) m
 | _=>none
omit [∀ E,Rp (I E)] in
theorem Ws {O:ay I}{l:Nat}{T:TypeId}{kd:Kd}{m:fI I kd}(h:yx O l T kd=some m):O l=some (some (.map T kd m))\/O l=some (some (.dO T kd m)):=by
 unfold yx at h;split at h
 ·rename_i T' kd' m' e;obtain ⟨e1,e2,rfl⟩:=oI h;subst e1;subst e2;exact .inl e
 ·rename_i T' kd' m' e;obtain ⟨e1,e2,rfl⟩:=oI h;subst e1;subst e2;exact .inr e
 ·cases h
theorem Oa {l:Nat}{T:TypeId}{kd:Kd}{m:fI I kd}(hr:Rel X c σ s n F)(h:s.O l=some (some (.map T kd m))\/s.O l=some (some (.dO T kd m))):∃ b w,c l=some ⟨some ⟨b,0,none⟩,0,0,w⟩/\lm σ kd m b:=by
 rcases h with h | h
 ·obtain ⟨b,h1,h2⟩:=hr.aL l _ h;exact ⟨b,_,h1,h2⟩
 ·obtain ⟨b,h1,h2,_⟩:=hr.aL l _ h;exact ⟨b,_,h1,h2⟩
def sZ (tb:aD I)(TV TA TB:TypeId)(ka kb k1:Kd)(rs:List Kd)(run:fI I ka->fI I kb->Ty I k1->Option (fA I rs))(_:dn I)(ρ:Type)(O:ay I)(_:Nat)(ps:List (PV I))(k:Ef I->Option ρ):Option ρ:=match ps with
 | [p,.ptr l 0]=>match O l with
   | some (some (.var T [.mp la,.mp lb] _))=>bif il' T TV then (yx O la TA ka).bind λya=>(yx O lb TB kb).bind λyb =>
      (nM tb O k1 p).bind λq=>bif iR q.2 then (run ya yb q.1).bind λx=>k ⟨jo (jW tb rs x),[],[]⟩ else none else none
   | _=>none
 | _=>none
theorem WZ (ht:aV P tb){Ah:dn I}(hd0:iT P Ah)(hmx:P.follows .mixedOrders=true){f:FuncId}{fn:Func}{TV TA TB:TypeId}{ka kb k1:Kd}{rs:List Kd}{nt:Nat}{cd:Code}{rl:List ResultVar}{H:Hints I}
 {run:fI I ka->fI I kb->Ty I k1->Option (fA I rs)}
 (hf : P.funcs[f]? = some fn) (hb : fn.body = some cd) (hname : (fn.name == "runtime.NumGoroutine") = false) (hn : fn.ntmps = nt) (hres : fn.results.toList = rl) (hle : Nat.ble 2 nt = true) (hcode : iy H cd 1 = true)
 (hex:run=λma mb q=>jG tb Ah H cd 1 (fA I rs) (ED tb TV TA TB ka kb k1 nt ma mb q) (JS tb rs rl)) :
 qB P (⟨f,sZ tb TV TA TB ka kb k1 rs run⟩:jZ I):=by
 refine ⟨λaj ρ O nb ps k=>?_,λaj hd O nb ps ef he=>?_⟩
 ·show sZ tb TV TA TB ka kb k1 rs run aj ρ O nb ps k=(sZ tb TV TA TB ka kb k1 rs run aj (Ef I) O nb ps some).bind k;unfold sZ;split
  ·split
   ·rename_i T la lb w e;cases il' T TV
    ·rfl
    ·simp only [cond_true,iS'];congr 1;funext ya;congr 1;funext yb;congr 1;funext q;cases iR q.2
     ·rfl
     ·simp only [cond_true,iS',io']
   ·rfl
  ·rfl
 ·intro X c σ s n F vs hX hO h hvs hfree;have he':sZ tb TV TA TB ka kb k1 rs run aj (Ef I) O nb ps some=some ef:=he;unfold sZ at he';split at he'
  ·rename_i p l;split at he'
   ·rename_i T la lb w hol;obtain ⟨hT,hf'⟩:=aK he';clear he';have he':=hf';clear hf';have hT':=ii' hT;clear hT he;subst hT';obtain ⟨ya,hya,he'⟩:=bind_some he';obtain ⟨yb,hyb,he'⟩:=bind_some he';obtain ⟨q,hq,he'⟩:=bind_some he';obtain ⟨hnl,he'⟩:=aK he';obtain ⟨x,hx,he'⟩:=bind_some he';cases he';have hnl:=mI hnl;obtain ⟨σ1,p1,p2,p3',p4,p5,p6⟩:=h.pubs hO [];have p3:Rel X c σ1 s n F:=p3';have qC:=ah.step p2 _ _ hvs;simp only [ah] at qC;obtain ⟨v0,vs',rfl,hv0,v1,vs'',rfl,hv1,rfl⟩:=qC;have hdv:DV σ1 k1 q.1 v0:=qb ht p4 (ls:=q.2) hq (λl hl=>by rw [hnl] at hl; exact hl) hv0
    have hsO:∀ {l:Nat} {T:TypeId} {kd:Kd} {m:fI I kd},yx O l T kd=some m->s.O l=some (some (.map T kd m))\/s.O l=some (some (.dO T kd m)):=λh=>(Ws h).imp (hO _ _) (hO _ _);obtain ⟨ba,wa,pQ,Dn⟩:=Oa p3 (hsO hya);obtain ⟨bb,wb,qK,Dp⟩:=Oa p3 (hsO hyb);obtain ⟨bv,cs,l1,l2,l3,_,_⟩:=p3.aL l _ (hO l _ hol);have gB':v1=.pointer (some ⟨bv,0,none⟩):=by simp only [RV] at hv1;obtain ⟨b,w,e1,e2⟩:=hv1;rw [l1] at e1;cases e1;exact e2
    have hcs:cs=[Value.map (some ba),Value.map (some bb)]:=by
     simp only [RG] at l2;obtain ⟨a1,r1,e1,h1,a2,r2,e2,h2,h3⟩:=l2;rcases h1 with h1 | ⟨_,w1,f1,g1⟩
     ·exact absurd h1 (by simp [nP])
     rcases h2 with h2 | ⟨_,w2,f2,g2⟩
     ·exact absurd h2 (by simp [nP])
     simp only [RV] at g1 g2;obtain ⟨b1,u1,m1,n1⟩:=g1;obtain ⟨b2,u2,m2,n2⟩:=g2;rw [pQ] at m1;cases m1;rw [qK] at m2;cases m2;rw [e1,f1,e2,f2,h3,n1,n2];rfl
    let X0:aY:=⟨P,σ1.N,λ_=>False⟩
    let c0:Cx:=λl=>bif il' l 0 then some ⟨some ⟨bv,0,none⟩,0,0,none⟩ else bif il' l 1 then some ⟨some ⟨ba,0,none⟩,0,0,none⟩ else bif il' l 2 then some ⟨some ⟨bb,0,none⟩,0,0,none⟩ else none
    have hM0:∀ {b:Nat},b<σ1.N->¬ X0.M b:=λ{b} hlt hm=>by
     rcases hm with hm | hm
     ·have:σ1.N<=b:=hm;omega
     ·exact hm
    have d9:∀ {l:Nat} {o:Ob I},(ED tb T TA TB ka kb k1 nt ya yb q.1).O l=some (some o)->(l=0/\o=.var T [.mp 1,.mp 2] false)\/(l=1/\o=.dO TA ka ya)\/(l=2/\o=.dO TB kb yb):=λ{l o} ho=>by
     have ho':(bif il' l 0 then some (some (Ob.var T [.mp 1,.mp 2] false)) else bif il' l 1 then some (some (Ob.dO TA ka ya)) else bif il' l 2 then some (some (.dO TB kb yb)) else none)=some (some o):=ho
     cases h0:il' l 0 with
     | true=>rw [h0] at ho'; cases ho'; exact .inl ⟨ii' h0,rfl⟩
     | false =>
       rw [h0] at ho';cases h1:il' l 1 with
       | true=>rw [h1] at ho'; cases ho'; exact .inr (.inl ⟨ii' h1,rfl⟩)
       | false =>
         rw [h1] at ho';cases h2:il' l 2 with
         | true=>rw [h2] at ho'; cases ho'; exact .inr (.inr ⟨ii' h2,rfl⟩)
         | false=>rw [h2] at ho'; cases ho'
    have hcn:∀ {l:Nat} {p:Pl} {g:Nat},c0 l=some p->p.w=some g->False:=λ{l p g} hc hw=>by
     have hc':(bif il' l 0 then some (⟨some ⟨bv,0,none⟩,0,0,none⟩:Pl) else bif il' l 1 then some ⟨some ⟨ba,0,none⟩,0,0,none⟩ else bif il' l 2 then some ⟨some ⟨bb,0,none⟩,0,0,none⟩ else none)=some p:=hc
     cases h0:il' l 0 with
     | true=>rw [h0] at hc'; cases hc'; cases hw
     | false =>
       rw [h0] at hc';cases h1:il' l 1 with
       | true=>rw [h1] at hc'; cases hc'; cases hw
       | false =>
         rw [h1] at hc';cases h2:il' l 2 with
         | true=>rw [h2] at hc'; cases hc'; cases hw
         | false=>rw [h2] at hc'; cases hc'
    have qA:Rel X0 c0 σ1 (ED tb T TA TB ka kb k1 nt ya yb q.1) nt (dP [v0,v1]):=by
     refine ⟨rfl,λi p hp=>?_,λl o ho=>?_,λl l' p p' b _ _ hc _ hw _=>(hcn hc hw).elim,λl p b _ hc hw=>(hcn hc hw).elim,λl hl=>?_,⟨ip' _,λE=>iz' (p3.base.2 E) p3.base.1⟩,ja.uz λl E E' u xs q e=>?_⟩
     ·have eu:ah X0 c0 σ1 [jV tb k1 q.1,.ptr 0 0] [v0,v1]:=by
       simp only [ah];refine ⟨v0,[v1],rfl,sJ ht hdv,v1,[],rfl,?_,rfl⟩;simp only [RV];exact ⟨bv,none,rfl,gB'⟩
      obtain ⟨v,hv,hr⟩:=ah.at_ _ _ eu i p hp;have:dP [v0,v1] i=v:=by simp [dP,jk',hv]
      rw [this]; exact hr
     ·rcases d9 ho with ⟨rfl,rfl⟩ | ⟨rfl,rfl⟩ | ⟨rfl,rfl⟩
      ·refine ⟨bv,cs,rfl,?_,l3,λe=>(by cases e),λ_=>hM0 (gF l3)⟩
       rw [hcs];simp only [RG];exact ⟨[.map (some ba)],[.map (some bb)],rfl,.inr ⟨rfl,_,rfl,by simp only [RV]; exact ⟨ba,_,rfl,rfl⟩⟩,[.map (some bb)],[],rfl,.inr ⟨rfl,_,rfl,by simp only [RV]; exact ⟨bb,_,rfl,rfl⟩⟩,rfl⟩
      ·exact ⟨ba,rfl,Dn,hM0 Dn.lt⟩
      ·exact ⟨bb,rfl,Dp,hM0 Dp.lt⟩
     ·have hl':(bif il' l 0 then some (some (Ob.var T [.mp 1,.mp 2] false)) else bif il' l 1 then some (some (Ob.dO TA ka ya)) else bif il' l 2 then some (some (.dO TB kb yb)) else none)=(none:Option (Option (Ob I))):=hl
      show (bif il' l 0 then some _ else bif il' l 1 then some _ else bif il' l 2 then some _ else none)=none
      cases h0:il' l 0 with
      | true=>rw [h0] at hl'; cases hl'
      | false =>
        rw [h0] at hl';cases h1:il' l 1 with
        | true=>rw [h1] at hl'; cases hl'
        | false =>
          rw [h1] at hl';cases h2:il' l 2 with
          | true=>rw [h2] at hl'; cases hl'
          | false=>rfl
     ·rcases d9 e with ⟨_,e⟩ | ⟨_,e⟩ | ⟨_,e⟩<;>cases e
    have hle':=iE' hle;have hcall:iB P f [v0,v1] σ1 (Stp X0.M σ1) λv τ=>∃ ws,v=gB ws/\kW τ rs x ws:=by
     refine .inl ⟨⟨fn,_,hf,hb,hname⟩,calls_of_wp hf hb ?_⟩;have e:(⟨([v0,v1]:List Value).toArray++jQ' (fn.ntmps-([v0,v1]:List Value).toArray.size) undef,[]⟩:Act)=fr nt (dP [v0,v1]):=by
      rw [hn];simp only [fr];congr 1;apply Array.ext
      ·simp; omega
      ·intro i h1 h2;simp only [jq',dP,jG'];split
       ·rename_i hi; simp at hi; simp [jk',in' (show i<([v0,v1]:List Value).length by simp; omega)]
       ·rename_i hi; simp at hi; simp [jk',iK' (l:=[v0,v1]) (show ([v0,v1]:List Value).length<=i by simp; omega)]
     rw [e];rw [hex] at hx;refine jS ht hd0 hmx cd 1 hcode _ _ _ _ X0 _ σ1 _ _ rfl hx qA λex s' c2 τ F' hfin hle2 hr st _=>?_;have key:JS tb rs rl .normal s'=some x->∃ v,(results fn (fr nt F').tmps).run P τ.w=.ok v τ.w/\∃ v' τ',Ending.returned v=.returned v'/\τ'.w=τ.w/\Stp X0.M σ1 τ'/\∃ ws,v'=gB ws/\kW τ' rs x ws:=by
      intro hh;have hh':((kE tb s' rl).bind λa=>(mW tb s'.O rs a).bind λx=>bif iR x.2 then some x.1 else none)=some x:=hh
      obtain ⟨zs,z1,hh'⟩:=bind_some hh';obtain ⟨y,z2,hh'⟩:=bind_some hh';obtain ⟨z3,hh'⟩:=aK hh';cases hh';obtain ⟨ws,w1,w2⟩:=sG ht hr z1;have hnil:y.2=[]:=by
       revert z3;cases y.2 with
       | nil=>intro _; rfl
       | cons a r=>intro h; cases h
      obtain ⟨τ2,t1,t2,t3,t4,_,t6⟩:=hr.pubs (O:=s'.O) (λ_ _ h=>h) [];have Ai:=uT ht t4 z2 (λl hl=>by rw [hnil] at hl; cases hl) (ah.step t2 _ _ w1)
      exact ⟨gB ws,yM (by rw [hres]; exact w2),gB ws,τ2,rfl,t1,st.trans t2,ws,rfl,Ai⟩
     cases ex with
     | exit i=>cases hfin
     | normal =>obtain ⟨v,h1,v',τ',h2,h3⟩:=key hfin;exact ⟨rfl,v,h1,v',τ',h2,h3⟩
     | ret =>obtain ⟨v,h1,v',τ',h2,h3⟩:=key hfin;exact ⟨rfl,v,h1,v',τ',h2,h3⟩
    refine hcall.mono p1.symm λv τ st ⟨ws,hv,hds⟩=>?_;subst hv;have mY:∀ b,X0.M b->X.M b:=λb hb=>by
     rcases hb with hb | hb
     ·exact .inl (iz' p3.base.1 hb)
     ·exact hb.elim
    have hn:∀ l p g,aQ s l->c l=some p->p.w=some g->¬ X0.M g:=λl p g ⟨o,ho⟩ hc hw=>hM0 ((p3.aL l o ho).lt hc hw);have hi:∀ g,X0.M g->bQ c σ1 s g:=λg hg=>by
     rcases hg with hg | hg
     ·exact p3.fresh hg
     ·exact hg.elim
    have q3:Rel X c τ s n F:=p3.stepG st mY hn hi;exact ⟨τ,rfl,p2.trans (st.mono λb _ hb=>mY b hb),c,Cx.le_refl c,q3,vP (ve ht hds)⟩
   ·cases he'
  ·cases he'
end
end Go.Qx
end
section
open Array renaming getElem_append->jG',getElem_ofFn->jq',replicate->jQ'
open Bool renaming and_eq_true->ik'
open List renaming all_eq_true->iu',filterMap_cons->iQ',getD->jk',getElem?_eq_getElem->in',getElem?_eq_none->iK',length_cons->iF',map_cons->iH',mem_append->iw',mem_append_left->jt',mem_cons->ir',mem_map->iT'
open Nat renaming beq->il',ble->iX',blt->iG',eq_of_beq_eq_true->ii',le_of_ble_eq_true->iE',le_refl->ip',le_trans->iz'
open Option renaming bind_assoc->iS',bind_some->io',map_eq_some_iff->ja'
namespace Go.Qx
open Go Go.RowKit Go.Sx
section
variable {I:TypeId->Type} [∀ E,Rp (I E)] {P:Program}{tb:aD I}{X X':aY}{c c':Cx}{σ τ:S}{s:St I}{n nb:Nat}{F:Fr}{O:ay I}
mutual
def J8 (nb:Nat):PV I->Bool
 | .ptr l _=>iG' l nb
 | .vw l=>iG' l nb
 | .vp l _ _ _=>iG' l nb
 | .vs l _ _=>iG' l nb
 | .av l _ _=>iG' l nb
 | .mp l=>iG' l nb
 | .lD _ ls=>lV nb ls
 | .o8 _ ls=>lV nb ls
 | .agg ls=>lV nb ls
 | .lF ls=>lV nb ls
 | _=>true
def lV (nb:Nat):List (PV I)->Bool
 | []=>true
 | p::r=>J8 nb p&&lV nb r
end
theorem iA {a b:Nat}(h:iG' a b=true):a<b:=by simpa using h
mutual
theorem RV.lt (hc:∀ l p,l<nb->c l=some p->c' l=some p):∀ (p:PV I) (v:Value),J8 nb p=true->RV X c σ p v->RV X c' σ p v
 | .int _ _,_,_,h=>by simp only [RV] at h ⊢; exact h
 | .bool _,_,_,h=>by simp only [RV] at h ⊢; exact h
 | .str _,_,_,h=>by simp only [RV] at h ⊢; exact h
 | .sl _ _ _,_,_,h=>by simp only [RV] at h ⊢; exact h
 | .nl _,_,_,h=>by simp only [RV] at h ⊢; exact h
 | .ptr l _,_,k,h=>by simp only [RV] at h ⊢;obtain ⟨b,w,h1,h2⟩:=h;exact ⟨b,w,hc _ _ (iA k) h1,h2⟩
 | .vw l,_,k,h=>by simp only [RV] at h ⊢;obtain ⟨p,h1,h2⟩:=h;exact ⟨p,hc _ _ (iA k) h1,h2⟩
 | .vp l _ _ _,_,k,h=>by simp only [RV] at h ⊢;obtain ⟨b,q,k',m,w,h1,h2⟩:=h;exact ⟨b,q,k',m,w,hc _ _ (iA k) h1,h2⟩
 | .vs l _ _,_,k,h=>by simp only [RV] at h ⊢;obtain ⟨b,k',m,w,h1,h2⟩:=h;exact ⟨b,k',m,w,hc _ _ (iA k) h1,h2⟩
 | .av l _ _,_,k,h=>by simp only [RV] at h ⊢;obtain ⟨b,k',m,w,h1,h2⟩:=h;exact ⟨b,k',m,w,hc _ _ (iA k) h1,h2⟩
 | .mp l,_,k,h=>by simp only [RV] at h ⊢;obtain ⟨b,w,h1,h2⟩:=h;exact ⟨b,w,hc _ _ (iA k) h1,h2⟩
 | .ep _ _ _,_,_,h=>by simp only [RV] at h ⊢; exact h
 | .dat _ _,_,_,h=>by simp only [RV] at h ⊢; exact h
 | .lD _ ls,_,k,h=>by simp only [RV] at h ⊢;obtain ⟨cs,e,hl⟩:=h;exact ⟨cs,e,ah.lt hc ls cs k hl⟩
 | .o8 _ ls,_,k,h=>by simp only [RV] at h ⊢;obtain ⟨cs,e,hl⟩:=h;exact ⟨cs,e,ah.lt hc ls cs k hl⟩
 | .fn _ _ _,_,_,h=>by simp only [RV] at h ⊢; exact h
 | .agg ls,_,k,h=>by simp only [RV] at h ⊢;obtain ⟨cs,e,hl⟩:=h;exact ⟨cs,e,RG.lt hc ls cs k hl⟩
 | .lF ls,_,k,h=>by simp only [RV] at h ⊢;obtain ⟨cs,e,hl⟩:=h;exact ⟨cs,e,ah.lt hc ls cs k hl⟩
 | .undef,_,_,h=>by simp only [RV] at h ⊢; exact h
 | .any,_,_,_=>by simp only [RV]
theorem ah.lt (hc:∀ l p,l<nb->c l=some p->c' l=some p):∀ (ps:List (PV I)) (cs:List Value),lV nb ps=true->ah X c σ ps cs->ah X c' σ ps cs
 | [],_,_,h=>by simp only [ah] at h ⊢; exact h
 | p::ps,_,k,h=>by simp only [ah] at h ⊢;simp only [lV,ik'] at k;obtain ⟨v,r,e,h1,h2⟩:=h;exact ⟨v,r,e,RV.lt hc p v k.1 h1,ah.lt hc ps r k.2 h2⟩
theorem RG.lt (hc:∀ l p,l<nb->c l=some p->c' l=some p):∀ (ps:List (PV I)) (cs:List Value),lV nb ps=true->RG X c σ ps cs->RG X c' σ ps cs
 | [],_,_,h=>by simp only [RG] at h ⊢; exact h
 | p::ps,_,k,h=>by
   simp only [RG] at h ⊢;simp only [lV,ik'] at k;obtain ⟨a,r,e,h1,h2⟩:=h;refine ⟨a,r,e,?_,RG.lt hc ps r k.2 h2⟩;rcases h1 with h1 | ⟨h0,v,e1,h1⟩
   ·exact .inl h1
   ·exact .inr ⟨h0,v,e1,RV.lt hc p v k.1 h1⟩
end
def sH (own:List Nat)(nb:Nat)(O:ay I):ay I:=λl=>bif iG' l nb then (match O l with
 | some (some (.aA _ _ _ _ _))=>some none
 | some (some (.row E xs false))=>bif bg l own then some (some (.row E xs false)) else some (some (.bo E xs))
 | some (some (.row E xs true))=>bif bg l own then some (some (.row E xs true)) else some (some (.ro E xs))
 | some (some (.var T ls w))=>some (some (.var T ls (bif bg l own then w else false)))
 | some (some (.map T kd m))=>bif bg l own then some (some (.map T kd m)) else some (some (.dO T kd m))
 | some (some o)=>some (some o)
 | _=>some none) else none
def yS (nb:Nat)(O:ay I):Nat->Bool
 | 0=>true
 | m+1=>(match O m with
   | some (some (.var _ ls _))=>lV nb ls
   | _=>true)&&yS nb O m
structure IH (I:TypeId->Type) where
 W:List (Nat×V)
 H:Hints I
def nL (O:ay I)(W:List (Nat×V)):List (Nat×TypeId×V):=W.filterMap λx=>match O x.1 with
 | some (some (.var T _ true))=>some (x.1,T,x.2)
 | _=>none
def Pg (tb:aD I)(O:ay I)(rk:List Kd)(W:List (Nat×V))(rl:List ResultVar):Ex->St I->Option (fA I rk×iY I [] W):=λe s=>match e with
 | .exit _=>none
 | _=>(kE tb s rl).bind λa=>(mW tb (λ_=>none) rk a).bind λr=>bif iR r.2 then (mH tb O [] W (W.map (·.1)) s).bind λx=>some (r.1,x) else none
def LF (O:ay I)(nt nb:Nat)(ps:List (PV I))(own:List Nat):St I:=⟨nt,λi=>ps[i]?,sH own nb O,nb⟩
def jD (O:ay I)(W:List (Nat×V)):List Nat:=W.map (·.1)++(nest O (W.map (·.1))).filter (isRow O)
def EF (cd:Code)(nt:Nat)(hs:Nat->IH I)(O:ay I)(nb:Nat)(ps:List (PV I)):Bool :=
 (lV nb ps&&yS nb O nb)&&(iX' ps.length nt&&iy (hs nb).H cd 1)&&(il' (nL O (hs nb).W).length (hs nb).W.length&&(jD O (hs nb).W).all λl=>iG' l nb&&isRow O l)
def dF (tb:aD I)(cd:Code)(nt:Nat)(rl:List ResultVar)(rk:List Kd)(hs:Nat->IH I)(aj:dn I)(ρ:Type)(O:ay I)(nb:Nat)(ps:List (PV I))(k:Ef I->Option ρ):Option ρ :=
 bif EF cd nt hs O nb ps then
 (jG tb aj (hs nb).H cd 1 (fA I rk×iY I [] (hs nb).W) (LF O nt nb ps (jD O (hs nb).W)) (Pg tb O rk (hs nb).W rl)).bind λx =>
  k ⟨jo (jW tb rk x.1),fG ((jD O (hs nb).W).map some)++gX (nL O (hs nb).W) (bR tb nb (eZ [] (hs nb).W) x.2),cO (eZ [] (hs nb).W) x.2⟩ else none
omit [∀ E,Rp (I E)] in
theorem MX:∀ {m l:Nat},yS nb O m=true->l<m->∀ {T ls w},O l=some (some (.var T ls w))->lV nb ls=true
 | 0,_,_,hl,_,_,_,_=>by omega
 | m+1,l,h,hl,T,ls,w,e=>by
   simp only [yS,ik'] at h;by_cases hm:l=m
   ·subst hm;have:=h.1;rw [e] at this;exact this
   ·exact MX h.2 (by omega) e
omit [∀ E,Rp (I E)] in
theorem Zu {own:List Nat}{l:Nat}{E E':TypeId}{u q:Nat}{xs:List (I E)}:sH own nb O l≠some (some (.aA E E' u xs q)):=λe=>by
 unfold sH at e;obtain ⟨_,e⟩:=aK e;split at e
 ·cases e
 ·cases hm:bg l own<;>rw [hm] at e<;>cases e
 ·cases hm:bg l own<;>rw [hm] at e<;>cases e
 ·cases e
 ·cases hm:bg l own<;>rw [hm] at e<;>cases e
 ·rename_i e1 e2 e3 e4 e5 e6;cases e;exact e1 _ _ _ _ _ rfl
 ·cases e
theorem XQ (hO:∀ l o,O l=some (some o)->s.O l=some (some o))(h:Rel X c σ s n F){own:List Nat}{nt:Nat}{ps:List (PV I)}{vs:List Value}(hvs:ah X c σ ps vs)(hp:lV nb ps=true)(hc:yS nb O nb=true) :
 ∃ c1:Cx,(∀ l,l<nb->c1 l=bA own c l)/\Rel (bU X c σ s own) c1 σ (LF O nt nb ps own) nt (dP vs):=by
 let c1:Cx:=λl=>bif iG' l nb then bA own c l else none
 have e1:∀ l,l<nb->c1 l=bA own c l:=λl hl=>by
  show (bif iG' l nb then _ else _)=_
  rw [show iG' l nb=true by simpa using hl]
  rfl
 have e2:∀ l,¬ l<nb->c1 l=none:=λl hl=>by
  show (bif iG' l nb then _ else _)=_
  cases hb:iG' l nb with
  | true=>exact absurd (iA hb) hl
  | false=>rfl
 have hlt:∀ l p,l<nb->bA own c l=some p->c1 l=some p:=λl p hl hp=>(e1 l hl).trans hp;have hcv:∀ l p,c l=some p->∃ w,bA own c l=some ⟨p.A,p.k,p.m,w⟩:=λl p hp=>by
  unfold bA;cases bg l own with
  | true=>exact ⟨p.w,by simp only [cond_true,hp]⟩
  | false=>exact ⟨none,by simp only [cond_false,hp]; rfl⟩
 have hM:=nQ h own;have dD:∀ {l:Nat} {o:Ob I},sH own nb O l=some (some o)->l<nb/\dJ (bU X c σ s own) c1 σ l o/\aQ s l:=λ{l o} ho=>by
  unfold sH at ho;obtain ⟨hl,ho⟩:=aK ho;have hl:=iA hl;have ec:=e1 l hl;have hcl:∀ {p},bg l own=false->c l=some p->c1 l=some ⟨p.A,p.k,p.m,none⟩:=λhm hp=>by rw [ec]; unfold bA; rw [hm,hp]; rfl
  have hct:∀ {p},bg l own=true->c l=some p->c1 l=some p:=λhm hp=>by rw [ec]; unfold bA; rw [hm]; exact hp
  refine ⟨hl,?_⟩;split at ho
  ·cases ho
  ·rename_i E xs e;have hs:=hO _ _ e;obtain ⟨A,k,ow,k1,k2⟩:=h.aL l _ hs;cases hm:bg l own with
   | true=>rw [hm] at ho; cases ho; exact ⟨⟨A,k,ow,hct hm k1,k2⟩,_,hs⟩
   | false=>rw [hm] at ho; cases ho; exact ⟨⟨A,k,hcl hm k1,gu.Py k2 λg hg=>qd h ⟨_,hs⟩ (jN.1 hm) k1 hg⟩,_,hs⟩
  ·rename_i E xs e;have hs:=hO _ _ e;obtain ⟨A,k,ow,k1,k2⟩:=h.aL l _ hs;cases hm:bg l own with
   | true=>rw [hm] at ho; cases ho; exact ⟨⟨A,k,ow,hct hm k1,k2⟩,_,hs⟩
   | false=>rw [hm] at ho; cases ho; exact ⟨⟨A,k,hcl hm k1,k2.sl⟩,_,hs⟩
  ·rename_i T ls w e;have hs:=hO _ _ e;obtain ⟨b,cs,k1,k2,k3,k4,k5⟩:=h.aL l _ hs;have hg:RG (bU X c σ s own) c1 σ ls cs:=RG.lt hlt _ _ (MX hc hl e) (RG.conv (X:=X) (X':=bU X c σ s own) (c:=c) rfl hM hcv _ _ k2)
   cases hm:bg l own with
   | true =>rw [hm] at ho;cases ho;exact ⟨⟨b,cs,hct hm k1,hg,k3,k4,λe hb=>k5 e (hM b hb)⟩,_,hs⟩
   | false =>
     rw [hm] at ho;cases ho;refine ⟨⟨b,cs,hcl hm k1,hg,k3,(λe=>by cases e),λ_=>?_⟩,_,hs⟩
     cases w with
     | true=>exact qd h ⟨_,hs⟩ (jN.1 hm) k1 rfl
     | false=>exact λhb=>k5 rfl (hM b hb)
  ·rename_i T kd m e;have hs:=hO _ _ e;obtain ⟨b,k1,k2⟩:=h.aL l _ hs;cases hm:bg l own with
   | true=>rw [hm] at ho; cases ho; exact ⟨⟨b,hct hm k1,k2⟩,_,hs⟩
   | false=>rw [hm] at ho; cases ho; exact ⟨⟨b,hcl hm k1,k2,qd h ⟨_,hs⟩ (jN.1 hm) k1 rfl⟩,_,hs⟩
  ·rename_i o' n1 n2 n3 n4 n5 e;cases ho;have hs:=hO _ _ e;refine ⟨?_,_,hs⟩;have hx:∀ {p},c l=some p->p.w=none->c1 l=some p:=λ{p} hp hw=>by
    cases hm:bg l own with
    | true=>exact hct hm hp
    | false=>rw [hcl hm hp]; cases p; cases hw; rfl
   cases o with
   | var T ls w=>exact absurd rfl (n4 T ls w)
   | row E xs fl =>
     cases fl with
     | true=>exact absurd rfl (n3 E xs)
     | false=>exact absurd rfl (n2 E xs)
   | aA E E' u xs q=>exact absurd rfl (n1 E E' u xs q)
   | map T kd m=>exact absurd rfl (n5 T kd m)
   | dO T kd m =>obtain ⟨b,k1,k2,k3⟩:=h.aL l _ hs;exact ⟨b,hx k1 rfl,k2,λhb=>k3 (hM b hb)⟩
   | ro E xs =>obtain ⟨A,k,k1,k2⟩:=h.aL l _ hs;exact ⟨A,k,hx k1 rfl,k2⟩
   | bo E xs =>obtain ⟨A,k,k1,k2⟩:=h.aL l _ hs;exact ⟨A,k,hx k1 rfl,k2.sub λb _=>hM b⟩
  ·cases ho
 have hcw:∀ {l p g},l<nb->c1 l=some p->p.w=some g->l∈own/\c l=some p:=λ{l p g} hl hc hw=>by
  rw [e1 l hl] at hc;unfold bA at hc;cases hm:bg l own with
  | true=>rw [hm] at hc; exact ⟨gM.1 hm,hc⟩
  | false =>rw [hm] at hc;simp only [cond_false,ja'] at hc;obtain ⟨q,_,e⟩:=hc;rw [<- e] at hw;cases hw
 have hargs:ah (bU X c σ s own) c1 σ ps vs:=ah.lt hlt _ _ hp (ah.conv (X:=X) (X':=bU X c σ s own) (c:=c) rfl hM hcv _ _ hvs)
 refine ⟨c1,e1,rfl,λi p hi=>?_,λl o ho=>(dD ho).2.1,λl l' p p' b ⟨o,a1⟩ ⟨o',a2⟩ a3 a4 a5 a6=>?_,λl p b ⟨o,a1⟩ a2 a3=>?_,λl hl=>?_,⟨ip' _,λE=>iz' (h.base.2 E) h.base.1⟩,ja.uz λl E E' u xs q e=>Zu e⟩
 ·obtain ⟨v,hv,hr⟩:=ah.at_ _ _ hargs i p hi;have:dP vs i=v:=by simp [dP,jk',hv]
  rw [this]; exact hr
 ·obtain ⟨l1,_,v1⟩:=dD a1;obtain ⟨l2,_,v2⟩:=dD a2;obtain ⟨_,n1⟩:=hcw l1 a3 a5;obtain ⟨_,n2⟩:=hcw l2 a4 a6;exact h.inj l l' p p' b v1 v2 n1 n2 a5 a6
 ·obtain ⟨l1,_,v1⟩:=dD a1;obtain ⟨m1,n1⟩:=hcw l1 a2 a3;exact .inr ⟨l,m1,v1,.inl ⟨p,n1,a3⟩⟩
 ·refine e2 l λhlt=>?_;have hl':sH own nb O l=none:=hl;unfold sH at hl';rw [show iG' l nb=true by simpa using hlt] at hl'
  simp only [cond_true] at hl';split at hl'<;>first | cases hl' | (cases hm:bg l own<;>rw [hm] at hl'<;>cases hl')
omit [∀ E,Rp (I E)] in
theorem gY.mono {τ:S}{cb:Cx}{O0 O1:ay I}(hO:∀ l o,O0 l=some (some o)->O1 l=some (some o)):∀ {W:List (Nat×V)} {wl:List Nat} {us:List Value},gY τ cb O0 W wl us->gY τ cb O1 W wl us
 | [],[],_,h=>h
 | [],_::_,_,h=>h.elim
 | _::_,[],_,h=>h.elim
 | _::_,_::_,_,⟨u,je,b,T,vs,w,cs,e1,e2,e3,e4,e5,e6,e7⟩=>⟨u,je,b,T,vs,w,cs,e1,hO _ _ e2,e3,e4,e5,e6,gY.mono hO e7⟩
omit [∀ E,Rp (I E)] in
theorem NM:∀ {W:List (Nat×V)},(nL O W).length=W.length->(nL O W).map (λx=>(x.1,x.2.2))=W/\∀ x∈nL O W,∃ ls,O x.1=some (some (.var x.2.1 ls true))
 | [],_=>⟨rfl,λx hx=>by cases hx⟩
 | y::r,h=>by
   unfold nL at h ⊢;rw [iQ'] at h ⊢;have hle:=List.length_filterMap_le (λx:Nat×V=>match O x.1 with
    | some (some (.var T _ true))=>some (x.1,T,x.2)
    | _=>none) r
   split at h
   ·rw [iF'] at h;omega
   ·rename_i b e;simp only [iF',Nat.add_right_cancel_iff] at h;obtain ⟨h1,h2⟩:=NM (W:=r) h;split at e
    ·rename_i T ls e';cases e;refine ⟨by rw [iH']; exact congrArg _ h1,λx hx=>?_⟩
     rcases ir'.1 hx with rfl | hx
     ·exact ⟨ls,e'⟩
     ·exact h2 x hx
    ·cases e
theorem dX (ht:aV P tb)(hmx:P.follows .mixedOrders=true){f:FuncId}{fn:Func}{nt:Nat}{cd:Code}{rl:List ResultVar}{rk:List Kd}{hs:Nat->IH I}
 (hf : P.funcs[f]? = some fn) (hb : fn.body = some cd) (hname : (fn.name == "runtime.NumGoroutine") = false) (hn : fn.ntmps = nt) (hres : fn.results.toList = rl) : qB P (⟨f, dF tb cd nt rl rk hs⟩ : jZ I) := by
 refine ⟨λaj ρ O nb ps k=>?_,λaj hd O nb ps ef he=>?_⟩
 ·show dF tb cd nt rl rk hs aj ρ O nb ps k=(dF tb cd nt rl rk hs aj (Ef I) O nb ps some).bind k;unfold dF;cases EF cd nt hs O nb ps
  ·rfl
  ·simp only [cond_true,iS',io']
 ·intro X c σ s n F vs hX hO h hvs hfree;have he':dF tb cd nt rl rk hs aj (Ef I) O nb ps some=some ef:=he;unfold dF at he';obtain ⟨hck,he'⟩:=aK he';obtain ⟨x,hx,he'⟩:=bind_some he';cases he';simp only [EF,ik'] at hck;obtain ⟨⟨⟨q1,q2⟩,q3,q4⟩,q5,q6⟩:=hck;have q3:=iE' q3;have q5:=ii' q5;have hown:∀ l∈jD O (hs nb).W,l<nb/\isRow O l=true:=λl hl=>by have:=iu'.1 q6 l hl;simp only [ik'] at this;exact ⟨iA this.1,this.2⟩
  have hlive:∀ l∈jD O (hs nb).W,aQ s l:=λl hl=>by
   have:=(hown l hl).2;unfold isRow at this;split at this
   ·rename_i e; exact ⟨_,hO _ _ e⟩
   ·rename_i e; exact ⟨_,hO _ _ e⟩
   ·rename_i e; exact ⟨_,hO _ _ e⟩
   ·cases this
  obtain ⟨g1,g2⟩:=NM q5;obtain ⟨cx,hcx,qA⟩:=XQ (nt:=nt) hO h (own:=jD O (hs nb).W) hvs q1 q2;have hlen:=ah.len _ _ hvs;refine .inl ⟨⟨fn,_,hf,hb,hname⟩,calls_of_wp hf hb ?_⟩;have e:(⟨vs.toArray++jQ' (fn.ntmps-vs.toArray.size) undef,[]⟩:Act)=fr nt (dP vs):=by
   rw [hn];simp only [fr];congr 1;apply Array.ext
   ·simp; omega
   ·intro i h1 h2;simp only [jq',dP,jG'];split
    ·rename_i hi; simp at hi; simp [jk',in' hi]
    ·rename_i hi; simp at hi; simp [jk',iK' hi]
  rw [e];refine jS ht hd hmx cd 1 q4 _ _ _ _ (bU X c σ s (jD O (hs nb).W)) _ σ _ _ hX hx qA λex s' c2 τ F' hfin hle2 hr st _=>?_;have key:Pg tb O rk (hs nb).W rl .normal s'=some x->∃ v,(results fn (fr nt F').tmps).run P τ.w=.ok v τ.w/\∃ v' τ',Ending.returned v=.returned v'/\τ'.w=τ.w/\Stp X.M σ τ'/\∃ c',Cx.le c c' /\
   Rel X c' τ' (gD s nb ⟨jo (jW tb rk x.1),fG ((jD O (hs nb).W).map some)++gX (nL O (hs nb).W) (bR tb nb (eZ [] (hs nb).W) x.2),cO (eZ [] (hs nb).W) x.2⟩) n F/\RV X c' τ' (jo (jW tb rk x.1)) v':=by
   intro hh;have hh':((kE tb s' rl).bind λa=>(mW tb (λ_=>none) rk a).bind λr=>bif iR r.2 then (mH tb O [] (hs nb).W ((hs nb).W.map (·.1)) s').bind λx=>some (r.1,x) else none)=some x:=hh
   obtain ⟨zs,z1,hh'⟩:=bind_some hh';obtain ⟨y,z2,hh'⟩:=bind_some hh';obtain ⟨z3,hh'⟩:=aK hh';obtain ⟨xx,z4,hh'⟩:=bind_some hh';cases hh';have hnil:=mI z3;obtain ⟨ws,w1,w2⟩:=sG ht hr z1;have Ai:=uT ht eX.none_ z2 (λl hl=>by rw [hnil] at hl; cases hl) w1
   have hcl:∀ l∈(hs nb).W.map (·.1),c2 l=c l:=λl hl=>by
    have hm:l∈jD O (hs nb).W:=jt' _ hl;obtain ⟨o,ho⟩:=hlive l hm;obtain ⟨p,hp⟩:=(h.aL l o ho).place;have h1:cx l=some p:=by rw [hcx l (hown l hm).1];unfold bA;rw [gM.2 hm];exact hp
    rw [hle2 l p h1,hp]
   obtain ⟨τ2,af,us,t1,t2,hfa⟩:=Gr ht hr hcl z4;have st2:=st.trans t2;have hs2:Rel X c σ ⟨s.n,s.F,s.O,nb⟩ n F:=⟨h.len,h.frame,h.aL,h.inj,h.mine,h.fq,h.base,h.aA⟩;have gC':Facts (bU X c σ s (jD O (hs nb).W)).M τ2 c s.O F [] (hs nb).W ((hs nb).W.map (·.1)) xx af us:=⟨hfa.tt,gY.mono hO hfa.cont,hfa.nodup,hfa.own,hfa.CR⟩
   have hfree':gI s.O nb (cO (eZ [] (hs nb).W) xx)=true:=by
    rw [kK] at hfree ⊢;intro l hl;have h0:=hfree l hl;by_cases hk:l∈eF (fG ((jD O (hs nb).W).map some)++gX (nL O (hs nb).W) (bR tb nb (eZ [] (hs nb).W) xx))
    ·exact absurd h0 (tQ (O':=s.O) hk).2
    ·rwa [kH hk] at h0
   have hnot:∀ {l},l ∉ (hs nb).W.map (·.1)->l ∉ (nest O ((hs nb).W.map (·.1))).filter (isRow O)->l ∉ jD O (hs nb).W:=λh1 h2 hm=>(iw'.1 hm).elim h1 h2
   obtain ⟨k1,k2⟩:=build (m:=0) (dead:=(nest O ((hs nb).W.map (·.1))).filter (isRow O)) ht hs2 st2 (nQ h (jD O (hs nb).W)) (λ_ _=>rfl) (λl p g hl hnw hnd hc hw=>qd h hl (hnot hnw hnd) hc hw) (λl i g hnw hnd hb=>BD h (hnot hnw hnd) hb) gC' hfree'
   have zl:bC s.O (fG ((jD O (hs nb).W).map some))=bF (jD O (hs nb).W) s.O:=by
    funext l;rw [yY (λl hl=>by
     obtain ⟨l',hl',e⟩:=iT'.1 hl;injection e with e
     subst e;obtain ⟨o,ho⟩:=hlive _ hl';rw [ho]; simp)]
    congr 1;simp
   have hst:bV (bC s.O (fG ((jD O (hs nb).W).map some)++gX (nL O (hs nb).W) (bR tb nb (eZ [] (hs nb).W) xx))) nb (cO (eZ [] (hs nb).W) xx) =
    eB s.O (hs nb).W ((hs nb).W.map (·.1)) (bR tb nb (eZ [] (hs nb).W) xx) (bV (bF (jD O (hs nb).W) s.O) nb (cO (eZ [] (hs nb).W) xx)):=by
    rw [jT,zl,Bg (O0:=s.O) (gv:=nL O (hs nb).W) λy hy=>?_]
    ·have g3:(nL O (hs nb).W).map (·.1)=(hs nb).W.map (·.1):=by
      rw [<- congrArg (List.map (·.1)) g1,List.map_map]
      rfl
     rw [g1,g3]
    ·obtain ⟨ls,e⟩:=g2 y hy;refine ⟨⟨ls,hO _ _ e⟩,λhm=>?_⟩;have hw:y.1∈(hs nb).W.map (·.1):=by rw [<- g1];exact iT'.2 ⟨(y.1,y.2.2),iT'.2 ⟨y,hy,rfl⟩,rfl⟩
     have h1:=(hown y.1 (jt' _ hw)).1;have h2:=(iQ.1 hm).1;omega
   refine ⟨gB ws,yM (by rw [hres]; exact w2),gB ws,τ2,rfl,t1,st2.mono λb _ hb=>nQ h _ b hb,_,k1,?_,vP (ve ht (Ai.mono t2.bS))⟩
   have hF:nI 0 s.F=s.F:=by funext i;simp [nI]
   have e4:(jP tb ⟨s.n,s.F,s.O,nb⟩ 0 ((nest O ((hs nb).W.map (·.1))).filter (isRow O)) [] (hs nb).W ((hs nb).W.map (·.1)) xx).F=s.F:=hF
   simp only [gD,hst];exact ⟨k2.len,λi p hp=>k2.frame i p (by rw [e4]; exact hp),k2.aL,k2.inj,k2.mine,k2.fq,k2.base,k2.aA⟩
  cases ex with
  | exit i=>cases hfin
  | normal =>obtain ⟨v,h1,v',τ',h2,h3⟩:=key hfin;exact ⟨rfl,v,h1,v',τ',h2,h3⟩
  | ret =>obtain ⟨v,h1,v',τ',h2,h3⟩:=key hfin;exact ⟨rfl,v,h1,v',τ',h2,h3⟩
end
end Go.Qx
end
section
open Array renaming getElem?_toList->iy'
open Bool renaming and_eq_true->ik'
open Go.Proofs.Tryz renaming prog->ig'
open List renaming all_eq_true->iu',drop_eq_getElem_cons->jm',getElem?_eq_getElem->in',getElem?_eq_some_iff->ij',map_cons->iH'
open Nat renaming beq->il',blt->iG',eq_of_beq_eq_true->ii',le_of_ble_eq_true->iE',le_refl->ip',le_trans->iz',lt_of_lt_of_le->ji',zero_add->iO',zero_le->iP'
open Option renaming map_eq_some_iff->ja',map_some->jc',some->iU'
open Go.Proofs.Tryz
namespace Go.Qx
open Go Go.RowKit Go.Sx
set_option maxHeartbeats 1600000
set_option maxRecDepth 100000
abbrev RK (r:Row I):Prop:=lC ig' r
abbrev RO (r:Rio I):Prop:=oZ ig' r
def ax:Hints I:=aI []
structure En where
 ans:jZ I
 ok:qB ig' ans
def Be:List En->List (jZ I)
 | []=>[]
 | e::r=>e.ans::Be r
theorem wo:∀ l:List En,BK ig' (Be l)
 | []=>trivial
 | e::r=>⟨e.ok,wo r⟩
def eR {r:Row I}(h:RK r):En:=⟨LQ tb r,cT' cB h⟩
def eO {r:Rio I}(h:RO r):En:=⟨JR tb r,XR cB h⟩
def eS {r:Row I}(T f j:Nat)(is:List Nat)(h:qO ig' r (uP T f j is)):En:=⟨Pf tb r (El T f j is),Kw cB h (λ_ _ _ _ _ _ _ _ _ hO h hc hv=>Ya hO h hc hv)⟩
theorem aC {r:Row I}(l:List En)(H:Hints I){fn:Func}(hf:(ig').funcs[r.f]?=some fn)
 (h : (fn.body, fn.name == "runtime.NumGoroutine", Nat.ble r.ps.length fn.ntmps, iy H (dx fn) 1, r.run) = (some (dx fn), false, true, true, qf r.ps (Nw tb (wQ (Be l) 25) H (dx fn) fn.ntmps r.ps r.rs fn.results.toList)) := by kernel_rfl) : RK r := by
 simp only [Prod.mk.injEq] at h;obtain ⟨h1,h2,h5,h6,h7⟩:=h;exact YP cB (vM (wo l) 25) mixed _ hf h1 h2 rfl rfl h5 h6 h7
theorem okO {r:Rio I}(l:List En)(H:Hints I){fn:Func}(hf:(ig').funcs[r.f]?=some fn)
 (h : (fn.body, fn.name == "runtime.NumGoroutine", Nat.ble (r.ps.length + 1) fn.ntmps, iy H (dx fn) 1, r.run) = (some (dx fn), false, true, true, λxs => qf r.ps (Oo tb (wQ (Be l) 25) H (dx fn) fn.ntmps r.E r.ps r.rs fn.results.toList xs)) := by kernel_rfl) : RO r := by
 simp only [Prod.mk.injEq] at h;obtain ⟨h1,h2,h5,h6,h7⟩:=h;exact cL' cB (vM (wo l) 25) mixed _ hf h1 h2 rfl rfl h5 h6 h7
def dW (l:List (Nat×IH I)):Nat->IH I:=λi=>(fB l i).getD ⟨[],ax⟩
def YA:Row I:=⟨271,[pS,pS],[kI],AO⟩
theorem SX:lC ig' YA:=TW func271 (by kernel_rfl) rfl (by kernel_rfl) (by kernel_rfl)
def XT:Row I:=⟨52,[pL 3],[kR 3],gN 8⟩
theorem Aq:lC ig' XT:=Ea cB mixed func52 (by kernel_rfl) (by kernel_rfl) (by kernel_rfl) underlying23 rfl (by kernel_rfl) (λ_=>by kernel_rfl)
def aQ':Rio I:=⟨128,3,[],[],Ow⟩
theorem Q9:oZ ig' aQ':=V6 (I:=I) (E:=3) lay128 128 (by kernel_rfl) (λx=>x) Iff.rfl ⟨_,_,func128,rfl,by kernel_rfl⟩
def Wv:Rio I:=⟨141,9,[],[],DU⟩
theorem KF:oZ ig' Wv:=cd' (I:=I) (E:=9) lay141 141 (by kernel_rfl) (λx=>x) Iff.rfl ⟨_,_,func141,rfl,by kernel_rfl⟩
noncomputable def Z4:Rio I:=⟨267,189,[.fn [.dat 189,.dat 189] [kI]],[],xP⟩
theorem UG:oZ ig' Z4:=bR' lay267 267 (by kernel_rfl) (by kernel_rfl) underlying189 (by kernel_rfl)
def bf':Row I:=⟨251,[pL 9],[kR 9],gN 16⟩
theorem xX:lC ig' bf':=Ea cB mixed func251 (by kernel_rfl) (by kernel_rfl) (by kernel_rfl) underlying35 rfl (by kernel_rfl) (λ_=>by kernel_rfl)
def Wo:Row I:=⟨253,[pL 25],[kR 25],gN 56⟩
theorem OH:lC ig' Wo:=Ea cB mixed func253 (by kernel_rfl) (by kernel_rfl) (by kernel_rfl) underlying22 rfl (by kernel_rfl) (λ_=>by kernel_rfl)
def Vj:Hints I:=aI [.j 29 ⟨16776824,[],[],[(.normal,[(3,kB),(4,kB),(5,kB),(6,kB)])]⟩,.j 941 ⟨26624,[],[],[(.normal,[(11,kB)])]⟩,.j 3773 ⟨4096000,[],[],[(.normal,[(15,kB)])]⟩]
theorem Sd:RK ⟨65,[pD 55],[kB],JE⟩ :=
 aC [] Vj func65
def QL:Hints I:=aI [.l 58 ⟨34351349952,[],[],[(7,kI)],[((.exit 0),[]),(.ret,[(6,kB)])],aJ tb (.len (.slot 0)) 1⟩]
theorem Kc:RK ⟨170,[pS,.fn [.int .u8] [kB],.fn [.int .u8] [kB]],[kB],xJ⟩ :=
 aC [] QL func170
theorem GV:RK ⟨171,[.d (.int .u8)],[kB],wK⟩ :=
 aC [] ax func171
theorem Jr:RK ⟨173,[.d (.int .u8)],[kB],yZ⟩ :=
 aC [] ax func173
theorem R3:RK ⟨172,[.d (.int .u8)],[kB],FL⟩ :=
 aC [eR GV,eR Jr] ax func172
theorem ND:RK ⟨118,[pS],[kB],yg⟩ :=
 aC [eR Kc,eR GV,eR R3] ax func118
theorem JJ:RK ⟨174,[.d (.int .u8)],[kB],E8⟩ :=
 aC [] ax func174
theorem YZ:RK ⟨175,[.d (.int .u8)],[kB],MG⟩ :=
 aC [eR GV,eR JJ,eR Jr] ax func175
theorem Sq:RK ⟨119,[pS],[kB],Oh⟩ :=
 aC [eR Kc,eR JJ,eR YZ] ax func119
theorem av':RK ⟨176,[pD 151],[kB],BR⟩ :=
 aC [eR ND] ax func176
theorem ac':RK ⟨243,[pI],[kB],DN⟩ :=
 aC [] ax func243
theorem bB':RK ⟨212,[pI,pI],[kI],JD⟩ :=
 aC [eR ac'] ax func212
theorem QS:RK ⟨244,[pS,pS],[kI],Oj⟩ :=
 aC [eR SX] ax func244
theorem Zm:RK ⟨213,[pS,pS],[kI],Kk⟩ :=
 aC [eR QS] ax func213
theorem Yu:RK ⟨177,[pD 151,pD 151],[kI],Ll⟩ :=
 aC [eR bB',eR Zm] ax func177
def Yk:Hints I:=aI [.l 26 ⟨8589934492,[],[],[(7,kI)],[((.exit 0),[]),(.ret,[(2,kB)])],aJ tb (.slot 6) 1⟩]
theorem aB':RK ⟨120,[pL 156],[kB],Nq⟩ :=
 aC [eR av',eR Yu] Yk func120
def Z0:Hints I:=aI [.j 105 ⟨16288,[],[],[(.normal,[(5,kB)])]⟩,.j 28311549 ⟨368934881474191032320,[],[],[(.normal,[(66,kB)])]⟩]
theorem Yq:RK ⟨66,[pD 55],[kB],Li⟩ :=
 aC [eR ND,eR Sq,eR aB'] Z0 func66
def TY:Hints I:=aI [.l 58 ⟨4190248,[],[],[(3,kR 3),(12,kI)],[((.exit 0),[(3,kR 3)])],aJ tb (.slot 11) 1⟩]
theorem bl':RK ⟨67,[pD 55],[kR 3],M6⟩ :=
 aC [eR Aq] TY func67
theorem aO':RK ⟨122,[pI],[kB],Ps⟩ :=
 aC [] ax func122
def TH (_:Nat):Hints I:=aI [.l 122 ⟨140462610448544,[],[(1,kR 3)],[(38,kI)],[((.exit 0),[]),(.ret,[(5,kB)])],aJ tb (.slot 37) 1⟩]
def F8 (n:Nat):Row I:=⟨121,[pI,.var 23 (kR 3) true,.var 31 (kD 31) false,.var 86 (.k (.d .any)) false],[kB],Fa n⟩
theorem aI' (n:Nat)(gD':qO ig' (F8 n) (uP 86 121 3 [1,2,3])):qO ig' (F8 (n+1)) (uP 86 121 3 [1,2,3]) :=
 V4 cB (vM (wo [eR aO',eS 86 121 3 [1,2,3] gD']) 3) mixed 50 (s0:=λa=>Kq 86 121 3 3 [1,2,3] (l7 tb 50 [pI,.var 23 (kR 3) true,.var 31 (kD 31) false,.var 86 (.k (.d .any)) false] a)) (fn:=f121) (cd:=dx f121) (H:=(TH n)) (rl:=[.tmp 5]) (λX c σ a vs F h hv _ hC=>TM rfl rfl rfl h hv hC) func121 (by kernel_rfl) (by kernel_rfl) (by kernel_rfl) (by kernel_rfl) (by kernel_rfl) (by kernel_rfl) (by kernel_rfl)
theorem MQ:∀ n:Nat,qO ig' (F8 n) (uP 86 121 3 [1,2,3])
 | 0=>QX (bD' (by kernel_rfl))
 | n+1=>aI' n (MQ n)
def bj' (_:Nat):Hints I:=aI [.l 250 ⟨4177956,[],[(3,kR 3)],[(14,kI)],[((.exit 0),[]),(.ret,[(2,kB)])],aJ tb (.slot 13) 1⟩]
theorem cQ' (n:Nat):RK ⟨68,[pD 31],[kB],KG n⟩ :=
 aC [eS 86 121 3 [1,2,3] (MQ n)] (bj' n) func68
def Uu (_:Nat):Hints I:=aI [.l 58 ⟨2251799811588180,[],[],[(21,kI)],[((.exit 0),[]),(.ret,[(2,kI)])],aJ tb (.slot 20) 1⟩,.l 29902 ⟨1125831187365956,[34],[],[(36,kI)],[((.exit 2),[]),(.ret,[(2,kI)])],aJ tb (.slot 35) 1⟩]
theorem xO (n:Nat):RK ⟨39,[pD 31],[kI],wu n⟩ :=
 aC [eR Sd,eR Yq,eR bl',eR (cQ' n)] (Uu n) func39
def ay':Hints I:=aI [.l 26 ⟨268419152,[12],[],[(14,kI)],[((.exit 0),[]),(.ret,[(4,kB)])],aJ tb (.slot 13) 1⟩]
theorem vZ:RK ⟨28,[pD 31,pD 25],[kB],su⟩ :=
 aC [eR Aq] ay' func28
def cq':Hints I:=aI [.l 58 ⟨1152921504606846012,[],[],[(0,kR 3),(3,kI)],[((.exit 0),[(0,kR 3)]),(.ret,[(2,kR 3)])],aJ tb (.len (.slot 0)) 1⟩,.k 59690 ⟨18014397972611112,0,.row 3,[(3,kI),(5,kI)],[((.exit 2),[(3,kI)])],aJ tb (.len (.slot 4)) 1,0⟩]
theorem bH':RK ⟨130,[.row 3 false],[kR 3],KZ⟩ :=
 aC [] cq' func130
theorem Tz:RK ⟨129,[pL 3],[kT 3],Ol⟩ :=
 aC [] ax func129
theorem OU:RK ⟨71,[pL 3],[kT 3],yJ⟩ :=
 aC [eR Aq,eO Q9,eR bH',eR Tz] ax func71
theorem xM:RK ⟨41,[pD 25],[kD 25],qj⟩ :=
 aC [eR OU] ax func41
def NY:Row I:=⟨69,[pD 25],[kS],sU⟩
def qc (c:UInt8)(xs:List Int)(q:Nat×List UInt8):Option (Fl (Nat×List UInt8) (List UInt8)):=match xs[q.1]? with
 | some n=>(wH c q.2 n).map λb=>.next (q.1+1,b)
 | none=>some (.done q.2)
theorem Gx {c:UInt8}{xs:List Int}:∀ (m i:Nat) {b r:List UInt8},xs.length-i=m->i<=xs.length->yc c (xs.drop i) b=some r->aB (qc c xs) (m+1) (i,b)=some r
 | 0,i,b,r,hm,hi,h=>by
   have e:i=xs.length:=by omega
   subst e;rw [List.drop_length] at h;cases h;simp [aB,qc]
 | m+1,i,b,r,hm,hi,h=>by
   have hlt:i<xs.length:=by omega
   rw [jm' hlt] at h;obtain ⟨b',h1,h2⟩:=bind_some h;have:=Gx m (i+1) (by omega) (by omega) h2
   simp only [aB,qc,in' hlt,h1,jc'];exact this
theorem bI' {P:Program}{w:World}{T:TypeId}{x y:Operand}{s t:ByteArray}(h:s.size+t.size<=1000000) :
 aF P w (do eqGuard .add T x y (.string s) (.string t); binOp .add T (.string s) (.string t)) (.string (s++t)):=by
 simp [aF,eqGuard_at_string,binOp,Op.stringOp];omega
theorem cy':jq ig' 123:=⟨_,_,func123,rfl,by kernel_rfl⟩
theorem OL:jq ig' 124:=⟨_,_,func124,rfl,by kernel_rfl⟩
theorem J6:jq ig' 125:=⟨_,_,func125,rfl,by kernel_rfl⟩
theorem Vu:jq ig' 126:=⟨_,_,func126,rfl,by kernel_rfl⟩
theorem Mw {n:Nat}(h:n<100)(w:World):Calls ig' 125 [Value.int .i64 (n:Int)].toArray w λe w'=>e=.returned (.string ⟨(jO n).toArray⟩)/\w'=w:=by have:=Go.Proofs.Any.strconv_Itoa_small lay125 n h w;rw [<- ak' h] at this;exact this
def vE (σ:S):Nat->Nat×Nat:=λb=>if b<σ.N then σ.L b else (0,0)
theorem F3 {σ:S}{w:World}(h:Bw σ.N σ.w w):dN σ ⟨w,vE σ⟩ :=
 ⟨h.below.size,λb hb=>by simp [vE,hb],λb o v ho hc=>(o7 (h.below.block b (mO hc)) o).trans hc,h.drawn,λb o hb hf=>(tO (h.below.block b hb) o).trans hf⟩
theorem KV (l m:List UInt8):Lib.byteCells (l++m)=Lib.byteCells l++Lib.byteCells m:=by simp [Lib.byteCells]
theorem Ld (l:List UInt8):Lib.strCells ⟨l.toArray⟩=Lib.byteCells l:=by simp [Lib.strCells,Lib.byteCells]
theorem Dq (n:Nat):(jO n).length<=2:=by unfold jO;cases iG' n 10<;>simp
theorem LZ {P:Program}{w:World}{T:TypeId}{x y:Operand}{c:UInt8}{l:List UInt8}(h:l.length<=2) :
 aF P w (do eqGuard .add T x y (.string ⟨#[c]⟩) (.string ⟨l.toArray⟩); binOp .add T (.string ⟨#[c]⟩) (.string ⟨l.toArray⟩)) (.string ⟨(c::l).toArray⟩):=by
 have:=bI' (P:=P) (w:=w) (T:=T) (x:=x) (y:=y) (s:=⟨#[c]⟩) (t:=⟨l.toArray⟩) (by simp [ByteArray.size]; omega)
 have e:(⟨#[c]⟩++⟨l.toArray⟩:ByteArray)=⟨(c::l).toArray⟩:=by apply ByteArray.ext;simp
 rw [e] at this;exact this
theorem WK {c:UInt8}{b r:List UInt8}{n:Int}(h:wH c b n=some r):r.length<=1000003/\b.length<=r.length:=by unfold wH at h;obtain ⟨hc,h⟩:=aK h;cases h;simp only [ik'] at hc;have:=iE' hc.2;have:=Dq n.toNat;simp;omega
theorem Gz {c:UInt8}:∀ {xs:List Int} {b r:List UInt8},yc c xs b=some r->b.length<=1000003->r.length<=1000003
 | [],b,r,h,hb=>by cases h; exact hb
 | n::xs,b,r,h,hb=>by obtain ⟨b',h1,h2⟩:=bind_some h;exact Gz h2 (WK h1).1
theorem YS (w:World)(a:Addr)(n:Nat):(w.freeze a n).drawn=w.drawn:=by unfold World.freeze; split<;>rfl
theorem Ue {b B:Nat}{l:List UInt8}{w:World}(h:Lib.IsBuilder 163 5 B b (Lib.byteCells l) w)(hn:l=[]->w.heap[b]?=some (.cells #[.pointer none,.slice none 0 0] 163 (0,0)))(hl:l.length<=1000003) :
 Calls ig' 126 [bO b].toArray w λe w'=>e=.returned (.string ⟨l.toArray⟩)/\Bw B w w':=by
 have zo:Bw B w w.drew:=⟨(Below.refl B w).drew,Nat.le_succ _⟩;by_cases h0:l=[]
 ·subst h0;exact (Go.Proofs.Tryz.bstr0 (hn rfl)).mono λe w' ⟨h1,h2⟩=>⟨h1,by subst h2; exact zo⟩
 ·obtain ⟨p,_,hB,v,hb,hown,hne⟩:=Dv h;rw [Lib.byteCells_length] at hown;rcases hown.2 with ⟨_,hz⟩ | ⟨g,cap,au,rfl,hbg,hg,hnc,hcm,hcs,htake⟩
  ·exact absurd (List.length_eq_zero_iff.1 hz) h0
  ·refine (Go.Proofs.Tryz.bstr1 (l:=l) hb hg h0 hnc (by simpa using hcs) (by omega) λj x hx=>?_).mono λe w' ⟨h1,h2⟩=>⟨h1,?_⟩
   ·have h3:(Lib.byteCells l)[j]?=some (.int .u8 x.toNat):=by simp [Lib.byteCells,hx]
    rw [<- htake,List.getElem?_take] at h3;split at h3
    ·rw [<- iy']; exact h3
    ·cases h3
   ·subst h2;exact zo.trans ⟨Lib.below_freeze (Below.refl B w.drew) (p:=⟨g,0,none⟩) hbg _,Nat.le_of_eq (YS _ _ _).symm⟩
theorem Pm {i:Nat}(h:i<9223372036854775807):wr .i64 ((i:Int)+1)=((i+1:Nat):Int):=by show IntKind.i64.wrap ((i:Int)+1)=_;rw [IntKind.wrap_i64];omega
theorem O8:lC ig' NY:=by
 refine Ee cB 38 func69 rfl (by kernel_rfl) rfl rfl rfl λX c σ F Q a res hX hrel happ hk=>?_
 have happ:sU a.1=some res:=happ;obtain ⟨g,hg,happ⟩:=bind_some happ;obtain ⟨b1,hb1,happ⟩:=bind_some happ;obtain ⟨b2,hb2,happ⟩:=bind_some happ;have h0:=hrel.frame 0 (.dat 25 a.1) rfl;simp only [RV] at h0;obtain ⟨cs,hF0,hcs⟩:=h0;refine wp_seq (wp_region_lit ?_);refine NN (B:=σ.N) 0 (ip' _) (.agg cs.toArray) cs hF0 rfl rfl λτ1 bx hx1 hblk=>?_;refine l8 (.string ⟨#[]⟩) rfl rfl ?_;refine wpList_nil (eH (wp_seq (wp_region_lit ?_)));have hcs1:Rp.cells τ1 a.1 cs:=Rp.mono hx1.bS hcs;have hl3:cs.length=3:=Rp.len (self:=rI 25) hcs;have t25:uR ig' 25 3:=⟨_,underlying25,rfl,by kernel_rfl⟩
 refine jU bx 0 (.agg cs.toArray) rfl rfl (O4 (hl3▸t25) (λj v hv=>by rw [iO',hblk.cell]; exact hv)) ?_
 have hcall:=xM τ1 (a.1,()) [.agg cs.toArray] [] g ⟨_,_,[],[],rfl,rfl,⟨⟨cs,rfl,hcs1⟩,rfl⟩,rfl,rfl⟩ List.nodup_nil hg;refine vB (o := ⟨some 9, .call ⟨.value (.func 41), #[.tmp 8], #[25]⟩, 25, "core.go:142", #[⟨0, .data⟩], none⟩) rfl hcall (D8 (xs := [.tmp 8]) rfl τ1.w) λv9 τ2 st2 hpost => ?_;obtain ⟨ws,us,dR,hpost⟩:=hpost;obtain ⟨v,hws,⟨cs',hv,hcs2⟩,-⟩:=hpost.tt;have hlen:=hpost.len;have hret:=hpost.ret;obtain ⟨rfl,rfl⟩:ws=[v]/\us=[]:=by
  rcases ws with _ | ⟨u,ws⟩
  ·cases hlen
  ·rcases ws with _ | ⟨u',ws⟩
   ·simp at hws; exact ⟨by rw [hws.1],hws.2⟩
   ·cases hlen
 have hret:v9=v:=hret;subst hret;subst hv;have Jh:cs'.length=3:=Rp.len (self:=rI 25) hcs2;have hne1:¬ bx∈ows ([]:List Pl):=λh=>by cases h
 obtain ⟨k1,k2⟩:=st2.block bx hblk.lt hne1;have hbl:(τ1.L bx)=(0,0):=hblk.2.2;have hblk2:ic σ.N 0 ⟨τ2.w,λk=>if k=bx then (0,0) else τ2.L k⟩ bx 25 cs:=⟨hblk.1,k1.trans hblk.2.1,by simp⟩
 have hw2:dN τ2 ⟨τ2.w,λk=>if k=bx then (0,0) else τ2.L k⟩:=⟨ip' _,λk _=>by
  by_cases e:k=bx
  ·subst e; rw [k2,hbl]; exact iP' _
  ·simp [e],λ_ _ _ _ h=>h,ip' _,λ_ _ _ h=>h⟩
 have hall:cs'.all (·.oneCell')=true:=iu'.2 λu hu=>Rp.one (self:=rI 25) hcs2 u hu
 refine Co (σ:=⟨τ2.w,λk=>if k=bx then (0,0) else τ2.L k⟩) hblk2 0 (.agg cs'.toArray) cs' cs' rfl rfl rfl rfl rfl (by rw [Jh]; kernel_rfl) hall (by rw [Jh,hl3]; rfl) (by rw [List.take_zero,iO',Jh,<- hl3,List.drop_length]; simp) λτ3 uM hblk3=>?_
 have gG':=Rp.mono (self:=rI 25) (hw2.trans uM.bS) hcs2;refine wpList_nil (eH (wp_seq (wp_region_lit ?_)));refine Ns (B:=τ3.N) 0 (ip' _) (.agg #[.pointer none,.slice none 0 0]) [.pointer none,.slice none 0 0] (dY (T:=163) (size:=2) (bytes:=32) (by kernel_rfl)) rfl λτ4 b hx4 hb4=>?_
 have h4:Bw τ3.N τ3.w τ4.w:=⟨hx4.below,hx4.drawn⟩;have hbuild:Lib.IsBuilder 163 5 τ3.N b [] τ4.w:=.inl ⟨hb4.1,.slice none 0 0,hb4.2.1,World.ownsRow_nil _ _ _ _,by simp [Value.ownBlock]⟩
 obtain ⟨cc1,cr1,e1,⟨A1,wZ,ec1,hs1⟩,cc2,cr2,e2,⟨A2,w9,ec2,hs2⟩,hc3⟩:=gG';have hcs':cs'=[.slice A1 g.Pos.length wZ,.slice A2 g.Neg.length w9,.bool g.Lists]:=by have hc3:cr2=[.bool g.Lists]:=hc3;rw [e1,e2,ec1,ec2,hc3]; rfl
 have Ji:∀ w,Bw τ3.N τ3.w w->∀ i,w.cell? ⟨bx,i,none⟩=cs'[i]?:=λw h i=>by rw [o7 (h.below.block bx hblk3.lt)]; exact hblk3.cell i
 have t22:fo ig' 23:=⟨_,underlying23,rfl,by kernel_rfl⟩
 have t3:fo ig' 3:=⟨_,underlying3,rfl,by kernel_rfl⟩
 have t4:fo ig' 4:=⟨_,underlying4,rfl,by kernel_rfl⟩
 refine wpList_nil (eH (Fu (λa w=>∃ F',a=fr 38 F'/\F' 1=.pointer (some ⟨bx,0,none⟩)/\F' 3=bO b/\Bw τ3.N τ3.w w/\Lib.IsBuilder 163 5 τ3.N b (Lib.byteCells (bif g.Lists then [108] else []:List UInt8)) w/\((bif g.Lists then [108] else []:List UInt8)=[]->w.heap[b]?=some (.cells #[.pointer none,.slice none 0 0] 163 (0,0)))) ?_ ?_))
 ·refine wp_seq (wp_region_lit ?_);refine l6 bx 0 2 2 rfl rfl (⟨_,_,underlying25,rfl,rfl,by kernel_rfl⟩) rfl ?_
  refine jU bx 2 (.bool g.Lists) rfl rfl (nR t4 ((Ji τ4.w h4 2).trans (by rw [hcs']; rfl))) ?_
  refine wpList_nil (eH ?_);rcases hL:g.Lists with _ | _
  ·refine uX (c:=false) (by rw [<- hL]; rfl) rfl rfl (wp_skip ?_)
   exact ⟨rfl,_,rfl,rfl,rfl,h4,hbuild,λ_=>hb4.2.1⟩
  ·refine yI (c:=true) (by rw [<- hL]; rfl) rfl rfl (wp_region_lit ?_)
   refine qV [bO b,.int .u8 108] rfl rfl cy' (UO hbuild (by decide) h4.below.size) ?_
   rintro e w5 ⟨⟨v,rfl⟩,hat,gK'⟩;exact ⟨_,rfl,wpList_nil ⟨rfl,_,rfl,rfl,rfl,h4.trans gK',.inr hat,λh=>by simp at h⟩⟩
 rintro a0 w0 h0;refine Fu (λa w=>∃ F',a=fr 38 F'/\F' 1=.pointer (some ⟨bx,0,none⟩)/\F' 3=bO b/\Bw τ3.N τ3.w w/\Lib.IsBuilder 163 5 τ3.N b (Lib.byteCells b1) w/\(b1=[]->w.heap[b]?=some (.cells #[.pointer none,.slice none 0 0] 163 (0,0)))) ?_ ?_
 ·revert a0 w0 h0;rintro a1 w1 ⟨F1,rfl,f1,f3,rY,Jj,hn1⟩;refine wp_seq (wp_region_lit ?_);refine l6 bx 0 0 0 f1 rfl (⟨_,_,underlying25,rfl,rfl,by kernel_rfl⟩) rfl ?_
  refine jU bx 0 (.slice A1 g.Pos.length wZ) rfl rfl (nR t22 ((Ji w1 rY 0).trans (by rw [hcs']; rfl))) ?_
  refine p9 A1 g.Pos.length wZ rfl rfl underlying23 ?_;refine gT (.int .i64 0) rfl rfl ?_;refine wpList_nil (eH (wp_block ?_));refine wp_mono (xK (step:=qc 43 g.Pos) (λq a w=>∃ F',a=fr 38 F'/\F' 1=.pointer (some ⟨bx,0,none⟩)/\F' 3=bO b/\F' 14=.slice A1 g.Pos.length wZ/\F' 15=.int .i64 (g.Pos.length:Int)/\F' 16=.int .i64 (q.1:Int)/\Bw τ3.N τ3.w w/\Lib.IsBuilder 163 5 τ3.N b (Lib.byteCells q.2) w/\(q.2=[]->w.heap[b]?=some (.cells #[.pointer none,.slice none 0 0] 163 (0,0)))/\q.1<=g.Pos.length) (λr e a w=>e=.exit 0/\∃ F',a=fr 38 F'/\F' 1=.pointer (some ⟨bx,0,none⟩)/\F' 3=bO b/\Bw τ3.N τ3.w w/\Lib.IsBuilder 163 5 τ3.N b (Lib.byteCells r) w/\(r=[]->w.heap[b]?=some (.cells #[.pointer none,.slice none 0 0] 163 (0,0)))) (by rintro _ _ _ ⟨h,_⟩; cases h) ?_ _ (0,(bif g.Lists then [108] else [])) b1 _ _ (Gx (g.Pos.length-0) 0 rfl (iP' _) hb1) ⟨_,rfl,f1,f3,rfl,rfl,rfl,rY,Jj,λh=>hn1 h,iP' _⟩) ?_
  ·rintro ⟨i,bs⟩ fl a2 w2 hst ⟨F2,rfl,g1,g3,g14,g15,g16,hbw2,qL,hn2,hi⟩;refine wp_seq (wp_region_lit ?_);refine nN (.int .i64 (i:Int)) (.int .i64 (g.Pos.length:Int)) (.bool (decide ((i:Int)<(g.Pos.length:Int)))) g16 g15 rfl rfl G8 ?_;refine wpList_nil (eH (wp_seq ?_));rcases hx:(g.Pos)[i]? with _ | n
   ·simp only [qc,hx] at hst;cases hst;have hge:(g.Pos).length<=i:=List.getElem?_eq_none_iff.1 hx;refine uX rfl (decide_eq_false (by omega)) rfl (wp_exit ?_)
    exact MW ⟨rfl,_,rfl,g1,g3,hbw2,qL,hn2⟩
   ·simp only [qc,hx,ja'] at hst;obtain ⟨bs',hit,rfl⟩:=hst;have hlt:i<(g.Pos).length:=(ij'.1 hx).1;unfold wH at hit;obtain ⟨hcond,hit⟩:=aK hit;cases hit;simp only [ik',decide_eq_true_eq] at hcond;obtain ⟨⟨n0,n1⟩,nl⟩:=hcond;have nl:bs.length<=1000000:=iE' nl;refine yI rfl (decide_eq_true (by omega)) rfl (wp_skip (eH (wp_seq (wp_block (wp_seq (wp_region_lit ?_))))))
    refine Ga (σ:=⟨w2,vE τ3⟩) (hs1.mono (F3 hbw2)) (show ak g.Pos (i:Int)=some n by simp [ak,hx]) g14 g16 rfl rfl underlying23 (by kernel_rfl) λbb o Jk hc hse=>?_
    have hc:Jk=[.int .i64 n]:=hc;subst hc;refine jU bb o (.int .i64 n) rfl rfl (nR t3 (hse.2 0 _ rfl)) ?_;refine l8 (.int .i64 n) rfl rfl ?_;refine wpList_nil (eH (wp_region_lit ?_));refine gT (.int .i64 n) rfl rfl ?_;have hn:((n.toNat:Nat):Int)=n:=by omega
    refine qV [.int .i64 n] rfl rfl J6 (by have:=Mw (n:=n.toNat) (by omega) w2; rw [hn] at this; exact this) ?_
    rintro e w3 ⟨rfl,rfl⟩;refine ⟨_,rfl,?_⟩;have hdl:(jO n.toNat).length<=2:=Dq _;refine nN (.string ⟨#[43]⟩) (.string ⟨(jO n.toNat).toArray⟩) (.string ⟨(43::jO n.toNat).toArray⟩) rfl rfl rfl rfl (LZ hdl) ?_;have hsz:(⟨(43::jO n.toNat).toArray⟩:ByteArray).size<=3:=by simp [ByteArray.size]; omega
    refine qV [bO b,.string ⟨(43::jO n.toNat).toArray⟩] (by rw [iH',iH',List.map_nil]; exact congrArg (·::_) g3) rfl OL (JX qL (by show (Lib.byteCells bs).length+_<=_; rw [Lib.byteCells_length]; omega) hbw2.below.size) ?_
    rintro e w4 ⟨⟨v,rfl⟩,hat,Jl⟩;refine ⟨_,rfl,?_⟩;refine wpList_nil (LM (eH (wp_region_lit ?_)));refine nN (.int .i64 (i:Int)) (.int .i64 1) (.int .i64 (wr .i64 ((i:Int)+1))) g16 rfl rfl rfl G6 ?_;refine gT (.int .i64 (wr .i64 ((i:Int)+1))) rfl rfl ?_;have hwr:wr .i64 ((i:Int)+1)=((i+1:Nat):Int):=Pm (by have l1:(g.Pos).length<=wZ:=hs1.1; have l2:wZ<=maxLen:=hs1.2.1; unfold maxLen at l2; omega)
    refine wpList_nil ⟨rfl,_,rfl,g1,g3,g14,g15,congrArg _ hwr,hbw2.trans Jl,.inr ?_,λh=>by simp at h,hlt⟩
    rw [Ld,<- KV] at hat;exact hat
  ·rintro r e a2 ⟨rfl,F2,rfl,g1,g3,hbw2,qL,hn2⟩;exact Om ⟨rfl,F2,rfl,g1,g3,hbw2,qL,hn2⟩
 rintro a5 w5 h5;refine Fu (λa w=>∃ F',a=fr 38 F'/\F' 1=.pointer (some ⟨bx,0,none⟩)/\F' 3=bO b/\Bw τ3.N τ3.w w/\Lib.IsBuilder 163 5 τ3.N b (Lib.byteCells b2) w/\(b2=[]->w.heap[b]?=some (.cells #[.pointer none,.slice none 0 0] 163 (0,0)))) ?_ ?_
 ·revert a5 w5 h5;rintro a1 w1 ⟨F1,rfl,f1,f3,rY,Jj,hn1⟩;refine wp_seq (wp_region_lit ?_);refine l6 bx 0 1 1 f1 rfl (⟨_,_,underlying25,rfl,rfl,by kernel_rfl⟩) rfl ?_
  refine jU bx 1 (.slice A2 g.Neg.length w9) rfl rfl (nR t22 ((Ji w1 rY 1).trans (by rw [hcs']; rfl))) ?_
  refine p9 A2 g.Neg.length w9 rfl rfl underlying23 ?_;refine gT (.int .i64 0) rfl rfl ?_;refine wpList_nil (eH (wp_block ?_));refine wp_mono (xK (step:=qc 45 g.Neg) (λq a w=>∃ F',a=fr 38 F'/\F' 1=.pointer (some ⟨bx,0,none⟩)/\F' 3=bO b/\F' 26=.slice A2 g.Neg.length w9/\F' 27=.int .i64 (g.Neg.length:Int)/\F' 28=.int .i64 (q.1:Int)/\Bw τ3.N τ3.w w/\Lib.IsBuilder 163 5 τ3.N b (Lib.byteCells q.2) w/\(q.2=[]->w.heap[b]?=some (.cells #[.pointer none,.slice none 0 0] 163 (0,0)))/\q.1<=g.Neg.length) (λr e a w=>e=.exit 2/\∃ F',a=fr 38 F'/\F' 1=.pointer (some ⟨bx,0,none⟩)/\F' 3=bO b/\Bw τ3.N τ3.w w/\Lib.IsBuilder 163 5 τ3.N b (Lib.byteCells r) w/\(r=[]->w.heap[b]?=some (.cells #[.pointer none,.slice none 0 0] 163 (0,0)))) (by rintro _ _ _ ⟨h,_⟩; cases h) ?_ _ (0,b1) b2 _ _ (Gx (g.Neg.length-0) 0 rfl (iP' _) hb2) ⟨_,rfl,f1,f3,rfl,rfl,rfl,rY,Jj,λh=>hn1 h,iP' _⟩) ?_
  ·rintro ⟨i,bs⟩ fl a2 w2 hst ⟨F2,rfl,g1,g3,g14,g15,g16,hbw2,qL,hn2,hi⟩;refine wp_seq (wp_region_lit ?_);refine nN (.int .i64 (i:Int)) (.int .i64 (g.Neg.length:Int)) (.bool (decide ((i:Int)<(g.Neg.length:Int)))) g16 g15 rfl rfl G8 ?_;refine wpList_nil (eH (wp_seq ?_));rcases hx:(g.Neg)[i]? with _ | n
   ·simp only [qc,hx] at hst;cases hst;have hge:(g.Neg).length<=i:=List.getElem?_eq_none_iff.1 hx;refine uX rfl (decide_eq_false (by omega)) rfl (wp_exit ?_)
    exact MW ⟨rfl,_,rfl,g1,g3,hbw2,qL,hn2⟩
   ·simp only [qc,hx,ja'] at hst;obtain ⟨bs',hit,rfl⟩:=hst;have hlt:i<(g.Neg).length:=(ij'.1 hx).1;unfold wH at hit;obtain ⟨hcond,hit⟩:=aK hit;cases hit;simp only [ik',decide_eq_true_eq] at hcond;obtain ⟨⟨n0,n1⟩,nl⟩:=hcond;have nl:bs.length<=1000000:=iE' nl;refine yI rfl (decide_eq_true (by omega)) rfl (wp_skip (eH (wp_seq (wp_block (wp_seq (wp_region_lit ?_))))))
    refine Ga (σ:=⟨w2,vE τ3⟩) (hs2.mono (F3 hbw2)) (show ak g.Neg (i:Int)=some n by simp [ak,hx]) g14 g16 rfl rfl underlying23 (by kernel_rfl) λbb o Jk hc hse=>?_
    have hc:Jk=[.int .i64 n]:=hc;subst hc;refine jU bb o (.int .i64 n) rfl rfl (nR t3 (hse.2 0 _ rfl)) ?_;refine l8 (.int .i64 n) rfl rfl ?_;refine wpList_nil (eH (wp_region_lit ?_));refine gT (.int .i64 n) rfl rfl ?_;have hn:((n.toNat:Nat):Int)=n:=by omega
    refine qV [.int .i64 n] rfl rfl J6 (by have:=Mw (n:=n.toNat) (by omega) w2; rw [hn] at this; exact this) ?_
    rintro e w3 ⟨rfl,rfl⟩;refine ⟨_,rfl,?_⟩;have hdl:(jO n.toNat).length<=2:=Dq _;refine nN (.string ⟨#[45]⟩) (.string ⟨(jO n.toNat).toArray⟩) (.string ⟨(45::jO n.toNat).toArray⟩) rfl rfl rfl rfl (LZ hdl) ?_;have hsz:(⟨(45::jO n.toNat).toArray⟩:ByteArray).size<=3:=by simp [ByteArray.size]; omega
    refine qV [bO b,.string ⟨(45::jO n.toNat).toArray⟩] (by rw [iH',iH',List.map_nil]; exact congrArg (·::_) g3) rfl OL (JX qL (by show (Lib.byteCells bs).length+_<=_; rw [Lib.byteCells_length]; omega) hbw2.below.size) ?_
    rintro e w4 ⟨⟨v,rfl⟩,hat,Jl⟩;refine ⟨_,rfl,?_⟩;refine wpList_nil (LM (eH (wp_region_lit ?_)));refine nN (.int .i64 (i:Int)) (.int .i64 1) (.int .i64 (wr .i64 ((i:Int)+1))) g16 rfl rfl rfl G6 ?_;refine gT (.int .i64 (wr .i64 ((i:Int)+1))) rfl rfl ?_;have hwr:wr .i64 ((i:Int)+1)=((i+1:Nat):Int):=Pm (by have l1:(g.Neg).length<=w9:=hs2.1; have l2:w9<=maxLen:=hs2.2.1; unfold maxLen at l2; omega)
    refine wpList_nil ⟨rfl,_,rfl,g1,g3,g14,g15,congrArg _ hwr,hbw2.trans Jl,.inr ?_,λh=>by simp at h,hlt⟩
    rw [Ld,<- KV] at hat;exact hat
  ·rintro r e a2 ⟨rfl,F2,rfl,g1,g3,hbw2,qL,hn2⟩;exact Om ⟨rfl,F2,rfl,g1,g3,hbw2,qL,hn2⟩
 rintro a6 w6 ⟨F6,rfl,f1,f3,gL',gM',hn6⟩;refine wp_seq (wp_region_lit ?_);refine qV [bO b] (congrArg (·::_) f3) rfl Vu (Ue gM' hn6 (Gz hb2 (Gz hb1 (by cases g.Lists<;>decide)))) ?_
 rintro e w7 ⟨rfl,gO'⟩;refine ⟨_,rfl,?_⟩;refine l8 (.string ⟨b2.toArray⟩) rfl rfl ?_;refine wpList_nil (eH (wp_ret ?_));have QG:Bw τ3.N τ3.w w7:=gL'.trans gO';have hr:(⟨b2.toArray⟩:ByteArray)=res:=iU'.inj happ;have hA:Bw σ.N σ.w τ1.w:=⟨hx1.below,hx1.drawn⟩;have hB:Bw σ.N τ1.w τ2.w:=⟨⟨st2.os,st2.tape,st2.output,st2.bS.size,λk hk=>(st2.block k (ji' hk hx1.below.size) (λh=>by cases h)).1⟩,st2.bS.drawn⟩
 have hC:Bw σ.N τ2.w τ3.w:=⟨⟨uM.os,uM.tape,uM.output,uM.bS.size,λk hk=>(uM.block k (ji' hk (hA.trans hB).below.size) (.inl hk)).1⟩,uM.bS.drawn⟩;have hD:Bw σ.N τ3.w w7:=⟨QG.below.mono ((hA.trans hB).trans hC).below.size,QG.drawn⟩;have hE:=((hA.trans hB).trans hC).trans hD;subst hr;refine hk .ret ⟨38,λi=>bif il' i 2 then some (.str ⟨b2.toArray⟩) else none,λ_=>none,0⟩ c ⟨w7,vE σ⟩ _ ?_ (Cx.le_refl c) ⟨rfl,(λi p hp=>?_),(λl o ho=>by cases ho),(λ_ _ _ _ _ ⟨_,h⟩=>by cases h),(λ_ _ _ ⟨_,h⟩=>by cases h),(λl _=>hrel.fq l rfl),⟨iz' hrel.base.1 hE.below.size,hrel.base.2⟩,ja.uz λ_ _ _ _ _ _ h=>by cases h⟩
  ⟨F3 hE,hE.below.os,hE.below.tape,hE.below.output,λk hk _=>⟨hE.below.block k hk,by simp [vE,hk]⟩⟩
 ·rfl
 ·have hp:(bif il' i 2 then some (PV.str ⟨b2.toArray⟩) else none)=some p:=hp
  obtain ⟨hi,hp⟩:=aK hp;cases hp;have:=ii' hi;subst this;simp only [RV];rfl
theorem xN:lC ig' NY:=O8
def Y3:Hints I:=aI [.l 26 ⟨524080,[],[],[(8,kI)],[((.exit 0),[]),(.ret,[(4,kI)])],aJ tb (.slot 7) 1⟩]
theorem X7:RK ⟨42,[pL 25,.fn [.dat 25] [kB]],[kI],Ho⟩ :=
 aC [] Y3 func42
theorem EG:RK ⟨19,[pL 25,.fn [.dat 25] [kB]],[kB],vC⟩ :=
 aC [eR X7] ax func19
def ah':Hints I:=aI [.l 26 ⟨524080,[],[],[(8,kI)],[((.exit 0),[]),(.ret,[(4,kI)])],aJ tb (.slot 7) 1⟩]
theorem UU:RK ⟨72,[pL 3,.fn [.int .i64] [kB]],[kI],FK⟩ :=
 aC [] ah' func72
theorem BA:RK ⟨43,[pL 3,.fn [.int .i64] [kB]],[kB],tL⟩ :=
 aC [eR UU] ax func43
def XL:Hints I:=aI [.l 26 ⟨524080,[],[],[(8,kI)],[((.exit 0),[]),(.ret,[(4,kI)])],aJ tb (.slot 7) 1⟩]
theorem VZ:RK ⟨73,[pL 3,pI],[kI],EL⟩ :=
 aC [] XL func73
theorem Ny:RK ⟨45,[pL 3,pI],[kB],xu⟩ :=
 aC [eR VZ] ax func45
theorem Un:RK ⟨44,[pI,.var 23 (kL 3) false],[kB],GK⟩ :=
 aC [eR Ny] ax func44
theorem aN':RK ⟨21,[pL 3,pL 3],[kB],yj⟩ :=
 aC [eR BA,eR Un] ax func21
theorem ZN:RK ⟨20,[pD 25,.var 25 (kD 25) false],[kB],Hf⟩ :=
 aC [eR aN'] ax func20
theorem AP:RK ⟨7,[pL 25,pD 25],[kB],pY⟩ :=
 aC [eR EG,eR ZN] ax func7
theorem Mi:RK ⟨92,[pD 128],[.bI [.row 3 false,.row 3 false,.row 3 false,.row 3 false]],Gt⟩ :=
 aC [eR Aq] ax func92
def ZR:Hints I:=aI [.j 29901 ⟨4293918720,[],[(10,.bI [.row 3 false,.row 3 false,.row 3 false,.row 3 false])],[(.normal,[])]⟩,.l 58 ⟨137438946944,[],[],[(7,kR 128),(13,kI)],[((.exit 0),[(7,kR 128)])],aJ tb (.slot 12) 1⟩]
theorem Xa:RK ⟨136,[pD 128,pL 3,pB],[kR 128],EH⟩ :=
 aC [eR Mi] ZR func136
def SA:Hints I:=aI [.j 509 ⟨170141183455517471574545782616287608848,[],[(2,.bI [.d (.sl 3),.d (.sl 3),.d (.sl 3),.d (.sl 3)])],[(.normal,[]),(.ret,[(4,kR 128)])]⟩,.j 1757 ⟨590295810341525782544,[],[(2,.bI [.d (.sl 3),.d (.sl 3),.d (.sl 3),.d (.sl 3)])],[(.normal,[]),(.ret,[(4,kR 128)])]⟩]
theorem WM:RK ⟨93,[.val (.bI [.row 3 false,.row 3 false,.row 3 false,.row 3 false]),pD 31],[kR 128],Kj⟩ :=
 aC [eR Xa] SA func93
def ce' (n:Nat):Hints I:=aI [.l 124 ⟨295147905179351779232,[],[],[(5,kR 128),(6,.k (.map 80 (.bool))),(7,kR 25)],[((.exit 0),[(6,.k (.map 80 (.bool))),(7,kR 25)])],λ_=>some n⟩]
theorem Ed (n:Nat):RK ⟨53,[pD 31,pD 25],[kR 25],Cu n⟩ :=
 aC [eR OU,eR Mi,eR WM,eR xM,eR xN] (ce' n) func53
def WW:Hints I:=aI [.l 58 ⟨1152921504606846012,[],[],[(0,kR 9),(3,kI)],[((.exit 0),[(0,kR 9)]),(.ret,[(2,kR 9)])],aJ tb (.len (.slot 0)) 1⟩,.k 59690 ⟨18014397972611112,0,.row 9,[(3,kI),(5,kI)],[((.exit 2),[(3,kI)])],aJ tb (.len (.slot 4)) 1,0⟩]
theorem Pq:RK ⟨143,[.row 9 false],[kR 9],F9⟩ :=
 aC [] WW func143
theorem MP:RK ⟨142,[pL 9],[kT 9],Ej⟩ :=
 aC [] ax func142
def WE:Hints I:=aI [.l 58 ⟨2147482784,[],[],[(5,kR 9),(10,kI)],[((.exit 0),[(5,kR 9)])],aJ tb (.slot 9) 1⟩]
theorem Fx:RK ⟨96,[pD 31,pL 3],[kT 9],si⟩ :=
 aC [eO KF,eR Pq,eR MP] WE func96
theorem TL:RK ⟨137,[pI,.var 23 (kL 3) false],[kB],KL⟩ :=
 aC [eR Ny] ax func137
theorem BJ:RK ⟨94,[pL 3,pL 3],[kB],xg⟩ :=
 aC [eR BA,eR TL] ax func94
def Vi:Hints I:=aI [.l 26 ⟨524080,[],[],[(8,kI)],[((.exit 0),[]),(.ret,[(4,kI)])],aJ tb (.slot 7) 1⟩]
theorem aK':RK ⟨187,[pL 9,.fn [.str] [kB]],[kI],N9⟩ :=
 aC [] Vi func187
theorem Wj:RK ⟨138,[pL 9,.fn [.str] [kB]],[kB],Ng⟩ :=
 aC [eR aK'] ax func138
def U5:Hints I:=aI [.l 26 ⟨524080,[],[],[(8,kI)],[((.exit 0),[]),(.ret,[(4,kI)])],aJ tb (.slot 7) 1⟩]
theorem ZU:RK ⟨188,[pL 9,pS],[kI],Ku⟩ :=
 aC [] U5 func188
theorem Vf:RK ⟨140,[pL 9,pS],[kB],KA⟩ :=
 aC [eR ZU] ax func140
theorem QU:RK ⟨139,[pS,.var 35 (kL 9) false],[kB],Oq⟩ :=
 aC [eR Vf] ax func139
theorem Gj:RK ⟨95,[pL 9,pL 9],[kB],Br⟩ :=
 aC [eR Wj,eR QU] ax func95
def SI:Hints I:=aI [.l 58 ⟨4192262,[],[],[(1,kR 137),(2,kI)],[((.exit 0),[(1,kR 137)])],aJ tb (.cst 4) 2⟩]
theorem G9:RK ⟨98,[],[kR 137],BN⟩ :=
 aC [] SI func98
def S9:Hints I:=aI [.j 429 ⟨20480,[],[],[(.normal,[(12,kB)])]⟩,.j 1725 ⟨1310720,[],[],[(.normal,[(18,kB)])]⟩]
theorem J2:RK ⟨146,[pD 137,pD 55],[kB],ER⟩ :=
 aC [] S9 func146
theorem ZQ:RK ⟨145,[pI,.var 31 (kD 31) false,.var 137 (kD 137) false],[kB],NJ⟩ :=
 aC [eR J2] ax func145
theorem DC:RK ⟨100,[pD 137,pD 31,pD 25],[kB],Bh⟩ :=
 aC [eR BA,eR ZQ] ax func100
theorem cK':RK ⟨190,[],[kR 189],Pw⟩ :=
 aC [] ax func190
theorem Zg:RK ⟨287,[pI],[kB],EU⟩ :=
 aC [] ax func287
theorem Rw:RK ⟨269,[pI,pI],[kI],Nj⟩ :=
 aC [eR Zg] ax func269
theorem Uv:RK ⟨268,[pD 189,pD 189],[kI],ML⟩ :=
 aC [eR Rw] ax func268
def Z5:Hints I:=aI [.l 58 ⟨67104808,[],[],[(3,kR 189),(12,kI)],[((.exit 0),[(3,kR 189)])],aJ tb (.slot 11) 1⟩,.l 506 ⟨37778931862956087968576,[],[],[(6,kR 189),(28,kR 189),(30,kI)],[((.exit 2),[(6,kR 189),(28,kR 189)])],aJ tb (.slot 29) 1⟩]
theorem MR:RK ⟨239,[pL 189],[kR 189],yK⟩ :=
 aC [eO UG,eR Uv] Z5 func239
def RZ:Hints I:=aI [.l 58 ⟨1099511620256,[11],[],[(5,kR 189),(13,kI)],[((.exit 0),[(5,kR 189)])],aJ tb (.slot 12) 1⟩,.l 14950 ⟨549754765856,[18],[],[(5,kR 189),(20,kI)],[((.exit 2),[(5,kR 189)])],aJ tb (.slot 19) 1⟩]
theorem Y5:RK ⟨191,[pL 189,pL 189],[kR 189],GH⟩ :=
 aC [eR MR] RZ func191
def Q0:Hints I:=aI [.j 31333 ⟨66846728,[],[],[(.normal,[(3,kR 189)])]⟩,.l 122 ⟨17179868252,[8],[],[(3,kR 189),(4,kI),(10,kI)],[((.exit 0),[(3,kR 189),(4,kI)]),(.ret,[(2,kR 189)])],aJ tb (.slot 9) 1⟩]
theorem cW':RK ⟨192,[pL 189],[kR 189],Nh⟩ :=
 aC [eR MR] Q0 func192
def Tn:Hints I:=aI [.l 58 ⟨137438888352,[],[],[(5,kR 189),(16,kI)],[((.exit 0),[(5,kR 189)])],aJ tb (.slot 15) 1⟩,.l 122 ⟨4611684918915763232,[],[],[(5,kR 189),(40,kI)],[((.exit 2),[(5,kR 189)])],aJ tb (.slot 39) 1⟩]
theorem YR:RK ⟨298,[pD 31,pD 25],[kR 189],ME⟩ :=
 aC [eR cK',eR Y5,eR cW'] Tn func298
theorem EN:RK ⟨335,[pD 269],[kD 360],xB⟩ :=
 aC [eR xX,eO KF,eR Pq,eR MP] ax func335
theorem NQ:RK ⟨318,[pL 9],[kD 269],Ar⟩ :=
 aC [eR EN] ax func318
theorem M0:RK ⟨320,[pL 9],[kD 269],xH⟩ :=
 aC [eR EN] ax func320
theorem Ru:RK ⟨336,[pD 360,pD 360],[kR 9],K6⟩ :=
 aC [eR xX] ax func336
theorem bF':RK ⟨266,[pS],[kB],GX⟩ :=
 aC [] ax func266
theorem XC:RK ⟨236,[pS,pS],[kB],Ot⟩ :=
 aC [eR bF'] ax func236
theorem cM':RK ⟨358,[pS],[kB],DW⟩ :=
 aC [] ax func358
def Zz (n:Nat):Hints I:=aI [.l 60 ⟨2147476352,[],[],[(7,kI),(8,kI)],[((.exit 0),[(7,kI)])],λ_=>some n⟩]
theorem Xj (n:Nat):RK ⟨350,[pL 9,pS],[kI,kB],Ms n⟩ :=
 aC [eR XC,eR cM'] (Zz n) func350
theorem NI (n:Nat):RK ⟨338,[pD 360,pS],[kB],Gf n⟩ :=
 aC [eR (Xj n)] ax func338
def VO (_:Nat):Hints I:=aI [.l 58 ⟨33550496,[],[],[(5,kR 9),(12,kI)],[((.exit 0),[(5,kR 9)])],aJ tb (.slot 11) 1⟩]
theorem Us (n:Nat):RK ⟨337,[pD 360,pD 360],[kR 9],DR n⟩ :=
 aC [eR (NI n)] (VO n) func337
def X4 (_:Nat):Hints I:=aI [.l 250 ⟨576320014815068800,[],[],[(7,kR 9),(47,kI)],[((.exit 1),[(7,kR 9)])],aJ tb (.slot 46) 1⟩]
theorem WT (n:Nat):RK ⟨319,[pD 269,pD 269],[kD 269],Eu n⟩ :=
 aC [eR EN,eR Ru,eR NQ,eR (Us n),eR M0,eR (NI n)] (X4 n) func319
def RP (_:Nat):Hints I:=aI [.l 58 ⟨274877646336,[],[(7,kD 269)],[(18,kI)],[((.exit 0),[])],aJ tb (.slot 17) 1⟩,.l 122 ⟨2305840810190450688,[],[(7,kD 269)],[(41,kI)],[((.exit 2),[])],aJ tb (.slot 40) 1⟩]
theorem UR (n:Nat):RK ⟨299,[pD 31,pD 25,pI],[kD 269],EJ n⟩ :=
 aC [eR NQ,eR M0,eR (WT n)] (RP n) func299
theorem RL:RK ⟨321,[pI,.var 31 (kD 31) false,.var 3 (kI) false],[kB],KM⟩ :=
 aC [] ax func321
theorem Tc:RK ⟨300,[pD 31,pL 3,pI],[kB],wz⟩ :=
 aC [eR BA,eR RL] ax func300
def U0:Hints I:=aI [.l 58 ⟨1099511613952,[],[],[(9,kR 3),(14,kI)],[((.exit 0),[(9,kR 3)])],aJ tb (.slot 13) 1⟩]
theorem FX:RK ⟨151,[pD 137,pD 31,pL 3,pI],[kR 3],jc⟩ :=
 aC [eR J2] U0 func151
def VP (_:Nat):Hints I:=aI [.s 11 [47,51],.s 14 [71,75],.s 28 [124],.j 125 ⟨162259276829213363391577993512576,[],[(6,.bI [.d (.int .i64),.d (.int .i64),.d (.sl 189),.d (.bool),.d (.sl 9),.d (.sl 3),.d (.sl 3),.d (.sl 9),.d (.sl 9)]),(8,.bI [.d (.int .i64),.d (.int .i64),.d (.sl 189),.d (.bool),.d (.sl 9),.d (.sl 3),.d (.sl 3),.d (.sl 9),.d (.sl 9)])],[(.normal,[(9,kI),(10,kI)]),(.ret,[(7,kB)])]⟩]
theorem XD (n:Nat):RK ⟨276,[pD 31,pD 25,pD 137],[kD 271,kB],Mr n⟩ :=
 aC [eR DC,eR YR,eR (UR n),eR Tc,eR FX] (VP n) func276
def cI' (_:Nat):Hints I:=aI [.l 122 ⟨37778931862957027507104,[25],[],[(5,kR 271),(27,kI)],[((.exit 0),[(5,kR 271)])],aJ tb (.slot 26) 1⟩,.l 125342 ⟨18889463679678767183904,[49],[],[(5,kR 271),(51,kI)],[((.exit 2),[(5,kR 271)])],aJ tb (.slot 50) 1⟩]
theorem bm' (n:Nat):RK ⟨249,[pD 31,pD 25],[kR 271],O3 n⟩ :=
 aC [eR (xO n),eR vZ,eR (Ed n),eR Fx,eR BJ,eR Gj,eR G9,eR (XD n),eR xX] (cI' n) func249
def VR:Hints I:=aI [.l 58 ⟨576460752303396608,[],[],[(10,kR 23),(15,kI)],[((.exit 0),[(10,kR 23)]),(.ret,[(8,kR 23),(9,kB)])],aJ tb (.slot 14) 1⟩]
def YC:Row I:=⟨325,[pD 31,pL 3,pI,pI],[kR 23,kB],Gn⟩
theorem Zd:RK (YC) :=
 aC [] VR func325
def UL:Hints I:=aI [.l 26 ⟨524080,[],[],[(8,kI)],[((.exit 0),[]),(.ret,[(4,kI)])],aJ tb (.slot 7) 1⟩]
theorem UD:RK ⟨359,[pL 23,.fn [.sl 3] [kB]],[kI],NA⟩ :=
 aC [] UL func359
theorem da':RK ⟨352,[pL 23,.fn [.sl 3] [kB]],[kB],NP⟩ :=
 aC [eR UD] ax func352
def bJ':Row I:=⟨353,[pL 3,.var 3 (kI) false],[kB],Jy⟩
theorem cg':RK (bJ') :=
 aC [] ax func353
def ZH:Row I:=⟨341,[pI,pL 23],[kB],Ei⟩
theorem Uk:RK (ZH) :=
 aC [eR da',eR cg'] ax func341
def Yz:Hints I:=aI [.p 18 [10,12],.p 19 [12],.p 20 [10,12],.l 58 ⟨4835703278458516698261504,[],[(10,.bI [.d (.sl 25)]),(12,.bI [.row 25 true])],[(20,kI)],[((.exit 0),[]),(.ret,[(11,kB)])],aJ tb (.slot 19) 1⟩,.l 59802 ⟨549722324992,[],[(14,.bI [.row 3 false,.row 3 false,.d (.bool)])],[(25,kI)],[((.exit 2),[])],aJ tb (.slot 24) 1⟩,.l 119610 ⟨295147902980329963520,[],[(14,.bI [.row 3 false,.row 3 false,.d (.bool)])],[(41,kI)],[((.exit 4),[])],aJ tb (.slot 40) 1⟩]
def aS':Row I:=⟨342,[pI,pL 23,pL 23,pL 23,.gW 3],[kD 329,kB],Ph⟩
theorem SN:RK (aS') :=
 aC [eR BJ,eR xM] Yz func342
def WU:Hints I:=aI [.k 26 ⟨2147483440,0,.row 3,[(8,kI)],[((.exit 0),[]),(.ret,[(4,kB)])],aJ tb (.slot 7) 1,0⟩]
def Tt:Rio I:=⟨343,3,[pL 23],[kB],KY⟩
theorem Ut:RO (Tt) :=
 okO [] WU func343
def QV (n:Nat):Hints I:=aI [.p 11 [1000009],.p 17 [9],.j 8131 ⟨2321137573660088015435890688,[],[],[(.normal,[(15,kR 329)])]⟩,.l 254 ⟨79228011398536885764897341696,[],[],[(14,kR 3),(15,kR 329)],[(.ret,[(8,kR 329),(14,kR 3)])],λ_=>some n⟩,.n 122 ⟨⟨18889465929279557614848,[],[],[(41,kI)],[((.exit 0),[]),(.ret,[(8,kR 329)])],aJ tb (.slot 40) 1⟩,9,23⟩,.n 62666 ⟨⟨147573671114699714560,[],[],[(48,kI)],[((.exit 2),[])],aJ tb (.slot 47) 1⟩,9,23⟩]
def Rb (n:Nat):Row I:=⟨326,[pI,pL 23,pL 23,.fn [.int .i64] [kB]],[kR 329],Mg n⟩
theorem Vk (n:Nat):RK (Rb n) :=
 aC [eR Uk,eR SN,eO Ut] (QV n) func326
def Vh:Row I:=⟨327,[pI,.var 31 (kD 31) false],[kB],KI⟩
theorem bg':RK (Vh) :=
 aC [] ax func327
def Zn (_:Nat):Hints I:=aI [.j 29 ⟨3932400,[],[],[(.normal,[(6,kI),(7,kI)]),(.ret,[(4,kR 329),(5,kI)])]⟩,.j 2045 ⟨1180447505529335455744,[12],[],[(.normal,[])]⟩,.l 16362 ⟨1180015159965107888128,[],[],[(59,kI)],[((.exit 1),[])],aJ tb (.slot 58) 1⟩]
def Ry (n:Nat):Row I:=⟨303,[pD 31,pD 271],[kL 329,kI],Ml n⟩
theorem TF (n:Nat):RK (Ry n) :=
 aC [eR (xO n),eR Zd,eR (Vk n),eR bg'] (Zn n) func303
def VE (_:Nat):Hints I:=aI [.j 429 ⟨2684354560,[],[],[(.normal,[(29,kB)])]⟩,.j 1725 ⟨1407374883553280,[],[],[(.normal,[(48,kB)])]⟩,.j 3445 ⟨128,[],[],[(.normal,[(7,kI)])]⟩,.l 55258 ⟨1180015159965107900416,[],[],[(12,kR 236),(59,kI)],[((.exit 1),[(12,kR 236)])],aJ tb (.slot 58) 1⟩]
theorem Tq (n:Nat):RK ⟨277,[pD 31,pD 271],[kR 236],JQ n⟩ :=
 aC [eR (TF n)] (VE n) func277
def XF (_:Nat):Hints I:=aI [.l 58 ⟨1073737888,[10],[],[(5,kR 236),(12,kI)],[((.exit 0),[(5,kR 236)])],aJ tb (.slot 11) 1⟩]
theorem aV' (n:Nat):RK ⟨250,[pD 31,pD 271],[kR 236],Ju n⟩ :=
 aC [eR (Tq n),eR xX] (XF n) func250
def YQ (_:Nat):Hints I:=aI [.l 58 ⟨37778931862957161215648,[17],[],[(5,kR 239),(19,kI)],[((.exit 0),[(5,kR 239)])],aJ tb (.slot 18) 1⟩,.l 119610 ⟨1180589368917597646848,[],[],[(51,kI)],[((.exit 4),[])],aJ tb (.slot 50) 1⟩,.l 239186 ⟨1098437886496,[28],[],[(5,kR 239),(30,kI)],[((.exit 2),[(5,kR 239)])],aJ tb (.slot 29) 1⟩]
theorem Xh (n:Nat):RK ⟨216,[pD 31,pD 25],[kR 239],JP n⟩ :=
 aC [eR (bm' n),eR (aV' n),eR xX] (YQ n) func216
theorem Lg:RK ⟨254,[pD 279],[kL 25],Dx⟩ :=
 aC [eR OH] ax func254
def bO':Hints I:=aI [.l 58 ⟨2147451048,[],[],[(3,kR 25),(15,kI)],[((.exit 0),[(3,kR 25)])],aJ tb (.slot 14) 1⟩,.l 14950 ⟨1071644808,[],[],[(3,kR 25),(21,kI)],[((.exit 2),[(3,kR 25)])],aJ tb (.slot 20) 1⟩]
theorem Zx:RK ⟨217,[pD 239],[kR 25],K9⟩ :=
 aC [eR OH,eR Lg] bO' func217
def Tj:Hints I:=aI [.l 26 ⟨524080,[],[],[(8,kI)],[((.exit 0),[]),(.ret,[(4,kI)])],aJ tb (.slot 7) 1⟩]
theorem az':RK ⟨281,[pL 239,.fn [.dat 239] [kB]],[kI],Mc⟩ :=
 aC [] Tj func281
theorem Ye:RK ⟨255,[pL 239,.fn [.dat 239] [kB]],[kB],Mj⟩ :=
 aC [eR az'] ax func255
def WI:Hints I:=aI [.l 58 ⟨134214512,[],[],[(6,kI),(12,kI)],[((.exit 0),[(6,kI)]),(.ret,[(4,kI),(5,kB)])],aJ tb (.slot 11) 1⟩]
theorem M5:RK ⟨282,[.iC [.map 204 (.sl 239),.map 205 (.int .i64)],pL 25],[kI,kB],GQ⟩ :=
 aC [eR xN] WI func282
def YM:Hints I:=aI [.l 26 ⟨137438947168,[],[(4,.bI [.d (.sl 25),.d (.bool),.d (.sl 3),.d (.sl 3),.d (.bool)])],[(5,kI),(6,kB),(13,kI)],[((.exit 0),[(5,kI),(6,kB)])],aJ tb (.slot 12) 1⟩]
theorem Xp:RK ⟨283,[.iC [.map 204 (.sl 239),.map 205 (.int .i64)],pL 279],[kD 279,kI,kB],KX⟩ :=
 aC [eR Lg,eR M5] YM func283
def Ua:Hints I:=aI [.l 122 ⟨4398012960560,[],[],[(5,kI),(25,kI)],[((.exit 0),[(5,kI)]),(.ret,[(4,kI)])],aJ tb (.slot 24) 1⟩]
theorem Sb:RK ⟨257,[.iC [.map 204 (.sl 239),.map 205 (.int .i64)],pD 239],[kI],OE⟩ :=
 aC [eR M5,eR Xp] Ua func257
def bh':En:=⟨⟨256,sZ tb 207 204 205 (.sl 239) (.int .i64) (.dat 239) [.bool] (λma mb q=>K4 q (ma,mb))⟩,WZ (nt:=8) (cd:=dx f256) (rl:=[.tmp 3]) (H:=ax) cB (vM (wo [eR Sb]) 3) mixed func256 (by kernel_rfl) (by kernel_rfl) (by kernel_rfl) (by kernel_rfl) (by kernel_rfl) (by kernel_rfl) (by kernel_rfl)⟩
def Zv:Hints I:=aI [.p 9 [7],.l 58 ⟨17179853440,[],[],[(7,kR 9),(14,kI)],[((.exit 0),[(7,kR 9)])],aJ tb (.slot 13) 1⟩,.k 122 ⟨35115652614144,0,.map 205 (.int .i64),[(36,kI)],[((.exit 2),[])],aJ tb (.slot 35) 1,1⟩]
def Zf:En:=⟨⟨218,tK tb 204 205 (.sl 239) (.int .i64) [.sl 9,.int .i64] [.bool] (λma mb q=>Kn (ma,mb) q.1 q.2.1)⟩,SF (nt:=48) (cd:=dx f218) (rl:=[.tmp 6]) (H:=Zv) cB (vM (wo [eR Ye,bh']) 3) mixed func218 (by kernel_rfl) (by kernel_rfl) (by kernel_rfl) (by kernel_rfl) (by kernel_rfl) (by kernel_rfl) (by kernel_rfl)⟩
def aL' (n:Nat):Hints I:=aI [.l 124 ⟨147573952589674340288,[],[(5,.bI [.map 204 (.sl 239),.map 205 (.int .i64)])],[(6,kR 25),(7,kR 9)],[((.exit 0),[(7,kR 9)])],λ_=>some n⟩,.l 506 ⟨9297159013149614047232,[7],[(5,.bI [.map 204 (.sl 239),.map 205 (.int .i64)])],[(15,kI)],[((.exit 4),[])],λ_=>some n⟩,.l 509438 ⟨147285722213524717632,[],[],[(6,kR 25),(58,kI)],[((.exit 2),[(6,kR 25)])],aJ tb (.slot 57) 1⟩]
theorem Yx (n:Nat):RK ⟨180,[pD 31,pD 25],[.bI [.map 204 (.sl 239),.map 205 (.int .i64)]],JB n⟩ :=
 aC [eR xN,eR (Xh n),eR Zx,Zf] (aL' n) func180
theorem QN (n:Nat):RK ⟨127,[pD 31,pD 25],[kI],K7 n⟩ :=
 aC [eR (xO n),eR vZ,eR (Yx n),eR xN] ax func127
theorem TU (n:Nat):RK ⟨70,[pD 31,pD 25],[kB],JV n⟩ :=
 aC [eR (QN n)] ax func70
def Wn (_:Nat):Hints I:=aI [.j 125 ⟨549621596224,[],[(0,.bI [.d (.sl 55),.d (.int .i64),.row 25 true,.map 80 (.bool)])],[(.normal,[(6,kB)])]⟩,.j 253 ⟨2249600790429696,[],[(0,.bI [.d (.sl 55),.d (.int .i64),.row 25 true,.map 80 (.bool)])],[(.normal,[])]⟩]
theorem Zt (n:Nat):RK ⟨40,[.var 82 (.bI [.d (.sl 55),.d (.int .i64),.row 25 true,.map 80 (.bool)]) true,pD 25],[kB],Cj n⟩ :=
 aC [eR AP,eR xN,eR (TU n)] (Wn n) func40
def UE:Hints I:=aI [.l 58 ⟨1073738368,[],[],[(7,kR 3),(12,kI)],[((.exit 0),[(7,kR 3)])],aJ tb (.slot 11) 1⟩]
theorem Jo:RK ⟨197,[.val (.bI [.d (.sl 55),.d (.int .i64),.d (.any)]),.gW 3,pI],[kR 3],p8⟩ :=
 aC [] UE func197
def ci':Hints I:=aI [.l 58 ⟨268432256,[],[],[(7,kR 3),(12,kI)],[((.exit 0),[(7,kR 3)])],aJ tb (.slot 11) 1⟩]
theorem L6:RK ⟨198,[.gW 3,.gW 3,pI],[kR 3],yD⟩ :=
 aC [] ci' func198
def RQ (n:Nat):Hints I:=aI [.l 506 ⟨2251791223750912,[],[(6,.bI [.d (.sl 55),.d (.int .i64),.row 25 true,.map 80 (.bool)])],[(8,kI)],[((.exit 0),[])],λ_=>some n⟩]
noncomputable def Ul (_:Nat):En:=⟨⟨19,dF tb (dx f19) 9 [.tmp 4] [.bool] (dW [(426,⟨[(128,.bI [.d (.sl 55),.d (.int .i64),.row 25 true,.map 80 (.bool)])],ax⟩)])⟩,dX cB mixed func19 (by kernel_rfl) (by kernel_rfl) (by kernel_rfl) (by kernel_rfl)⟩
noncomputable def Rn (_:Nat):En:=⟨⟨30,dF tb (dx f30) 12 [.tmp 4] [.bool] (dW [(362,⟨[(128,.bI [.d (.sl 55),.d (.int .i64),.row 25 true,.map 80 (.bool)])],ax⟩)])⟩,dX cB mixed func30 (by kernel_rfl) (by kernel_rfl) (by kernel_rfl) (by kernel_rfl)⟩
noncomputable def R5 (_:Nat):En:=⟨⟨42,dF tb (dx f42) 19 [.tmp 4] [.int .i64] (dW [(450,⟨[(128,.bI [.d (.sl 55),.d (.int .i64),.row 25 true,.map 80 (.bool)])],aI [.l 26 ⟨524080,[],[(2000128,.bI [.d (.sl 55),.d (.int .i64),.row 25 true,.map 80 (.bool)])],[(8,kI)],[((.exit 0),[]),(.ret,[(4,kI)])],aJ tb (.slot 7) 1⟩]⟩)])⟩,dX cB mixed func42 (by kernel_rfl) (by kernel_rfl) (by kernel_rfl) (by kernel_rfl)⟩
noncomputable def U3 (_:Nat):En:=⟨⟨43,dF tb (dx f43) 9 [.tmp 4] [.bool] (dW [(968,⟨[],ax⟩),
 (970,⟨[],ax⟩),
 (972,⟨[],ax⟩),
 (974,⟨[],ax⟩),
 (984,⟨[],ax⟩),
 (986,⟨[],ax⟩),
 (988,⟨[],ax⟩),
 (990,⟨[],ax⟩),
 (1000,⟨[],ax⟩),
 (1002,⟨[],ax⟩),
 (1004,⟨[],ax⟩),
 (1006,⟨[],ax⟩),
 (1016,⟨[],ax⟩),
 (1018,⟨[],ax⟩),
 (1020,⟨[],ax⟩),
 (1022,⟨[],ax⟩),
 (1032,⟨[],ax⟩),
 (1034,⟨[],ax⟩),
 (1036,⟨[],ax⟩),
 (1038,⟨[],ax⟩),
 (1070,⟨[],ax⟩)])⟩,dX cB mixed func43 (by kernel_rfl) (by kernel_rfl) (by kernel_rfl) (by kernel_rfl)⟩
noncomputable def Te (_:Nat):En:=⟨⟨54,dF tb (dx f54) 8 [.tmp 3] [.bool] (dW [(548,⟨[(128,.bI [.d (.sl 55),.d (.int .i64),.row 25 true,.map 80 (.bool)])],ax⟩)])⟩,dX cB mixed func54 (by kernel_rfl) (by kernel_rfl) (by kernel_rfl) (by kernel_rfl)⟩
noncomputable def cX' (_:Nat):En:=⟨⟨55,dF tb (dx f55) 27 [.tmp 4] [.bool] (dW [(580,⟨[(128,.bI [.d (.sl 55),.d (.int .i64),.row 25 true,.map 80 (.bool)])],aI [.s 1 [10],.j 12 ⟨8388576,[],[],[(.normal,[(22,kB)])]⟩]⟩)])⟩,dX cB mixed func55 (by kernel_rfl) (by kernel_rfl) (by kernel_rfl) (by kernel_rfl)⟩
noncomputable def Ux (_:Nat):En:=⟨⟨72,dF tb (dx f72) 19 [.tmp 4] [.int .i64] (dW [(992,⟨[],aI [.l 26 ⟨524080,[],[],[(8,kI)],[((.exit 0),[]),(.ret,[(4,kI)])],aJ tb (.slot 7) 1⟩]⟩),
 (994,⟨[],aI [.l 26 ⟨524080,[],[],[(8,kI)],[((.exit 0),[]),(.ret,[(4,kI)])],aJ tb (.slot 7) 1⟩]⟩),
 (996,⟨[],aI [.l 26 ⟨524080,[],[],[(8,kI)],[((.exit 0),[]),(.ret,[(4,kI)])],aJ tb (.slot 7) 1⟩]⟩),
 (998,⟨[],aI [.l 26 ⟨524080,[],[],[(8,kI)],[((.exit 0),[]),(.ret,[(4,kI)])],aJ tb (.slot 7) 1⟩]⟩),
 (1008,⟨[],aI [.l 26 ⟨524080,[],[],[(8,kI)],[((.exit 0),[]),(.ret,[(4,kI)])],aJ tb (.slot 7) 1⟩]⟩),
 (1010,⟨[],aI [.l 26 ⟨524080,[],[],[(8,kI)],[((.exit 0),[]),(.ret,[(4,kI)])],aJ tb (.slot 7) 1⟩]⟩),
 (1012,⟨[],aI [.l 26 ⟨524080,[],[],[(8,kI)],[((.exit 0),[]),(.ret,[(4,kI)])],aJ tb (.slot 7) 1⟩]⟩),
 (1014,⟨[],aI [.l 26 ⟨524080,[],[],[(8,kI)],[((.exit 0),[]),(.ret,[(4,kI)])],aJ tb (.slot 7) 1⟩]⟩),
 (1024,⟨[],aI [.l 26 ⟨524080,[],[],[(8,kI)],[((.exit 0),[]),(.ret,[(4,kI)])],aJ tb (.slot 7) 1⟩]⟩),
 (1026,⟨[],aI [.l 26 ⟨524080,[],[],[(8,kI)],[((.exit 0),[]),(.ret,[(4,kI)])],aJ tb (.slot 7) 1⟩]⟩),
 (1028,⟨[],aI [.l 26 ⟨524080,[],[],[(8,kI)],[((.exit 0),[]),(.ret,[(4,kI)])],aJ tb (.slot 7) 1⟩]⟩),
 (1030,⟨[],aI [.l 26 ⟨524080,[],[],[(8,kI)],[((.exit 0),[]),(.ret,[(4,kI)])],aJ tb (.slot 7) 1⟩]⟩),
 (1040,⟨[],aI [.l 26 ⟨524080,[],[],[(8,kI)],[((.exit 0),[]),(.ret,[(4,kI)])],aJ tb (.slot 7) 1⟩]⟩),
 (1042,⟨[],aI [.l 26 ⟨524080,[],[],[(8,kI)],[((.exit 0),[]),(.ret,[(4,kI)])],aJ tb (.slot 7) 1⟩]⟩),
 (1044,⟨[],aI [.l 26 ⟨524080,[],[],[(8,kI)],[((.exit 0),[]),(.ret,[(4,kI)])],aJ tb (.slot 7) 1⟩]⟩),
 (1046,⟨[],aI [.l 26 ⟨524080,[],[],[(8,kI)],[((.exit 0),[]),(.ret,[(4,kI)])],aJ tb (.slot 7) 1⟩]⟩),
 (1056,⟨[],aI [.l 26 ⟨524080,[],[],[(8,kI)],[((.exit 0),[]),(.ret,[(4,kI)])],aJ tb (.slot 7) 1⟩]⟩),
 (1058,⟨[],aI [.l 26 ⟨524080,[],[],[(8,kI)],[((.exit 0),[]),(.ret,[(4,kI)])],aJ tb (.slot 7) 1⟩]⟩),
 (1060,⟨[],aI [.l 26 ⟨524080,[],[],[(8,kI)],[((.exit 0),[]),(.ret,[(4,kI)])],aJ tb (.slot 7) 1⟩]⟩),
 (1062,⟨[],aI [.l 26 ⟨524080,[],[],[(8,kI)],[((.exit 0),[]),(.ret,[(4,kI)])],aJ tb (.slot 7) 1⟩]⟩),
 (1094,⟨[],aI [.l 26 ⟨524080,[],[],[(8,kI)],[((.exit 0),[]),(.ret,[(4,kI)])],aJ tb (.slot 7) 1⟩]⟩)])⟩,dX cB mixed func72 (by kernel_rfl) (by kernel_rfl) (by kernel_rfl) (by kernel_rfl)⟩
noncomputable def UA (_:Nat):En:=⟨⟨97,dF tb (dx f97) 9 [.tmp 4] [.bool] (dW [(620,⟨[(128,.bI [.d (.sl 55),.d (.int .i64),.row 25 true,.map 80 (.bool)])],ax⟩)])⟩,dX cB mixed func97 (by kernel_rfl) (by kernel_rfl) (by kernel_rfl) (by kernel_rfl)⟩
noncomputable def Yo (_:Nat):En:=⟨⟨99,dF tb (dx f99) 17 [.tmp 4] [.bool] (dW [(742,⟨[(128,.bI [.d (.sl 55),.d (.int .i64),.row 25 true,.map 80 (.bool)])],aI [.s 1 [10]]⟩)])⟩,dX cB mixed func99 (by kernel_rfl) (by kernel_rfl) (by kernel_rfl) (by kernel_rfl)⟩
noncomputable def YN (_:Nat):En:=⟨⟨101,dF tb (dx f101) 126 [.tmp 6] [.bool] (dW [(830,⟨[(128,.bI [.d (.sl 55),.d (.int .i64),.row 25 true,.map 80 (.bool)])],aI [.s 13 [54],.s 18 [108],.j 221180 ⟨4722365356969738371136,[],[(2000128,.bI [.d (.sl 55),.d (.int .i64),.row 25 true,.map 80 (.bool)])],[(.normal,[(6,kB)])]⟩]⟩)])⟩,dX cB mixed func101 (by kernel_rfl) (by kernel_rfl) (by kernel_rfl) (by kernel_rfl)⟩
noncomputable def bU' (_:Nat):En:=⟨⟨144,dF tb (dx f144) 19 [.tmp 4] [.int .i64] (dW [(644,⟨[(128,.bI [.d (.sl 55),.d (.int .i64),.row 25 true,.map 80 (.bool)])],aI [.l 26 ⟨524080,[],[(2000128,.bI [.d (.sl 55),.d (.int .i64),.row 25 true,.map 80 (.bool)])],[(8,kI)],[((.exit 0),[]),(.ret,[(4,kI)])],aJ tb (.slot 7) 1⟩]⟩)])⟩,dX cB mixed func144 (by kernel_rfl) (by kernel_rfl) (by kernel_rfl) (by kernel_rfl)⟩
noncomputable def Wh (_:Nat):En:=⟨⟨148,dF tb (dx f148) 10 [.tmp 6] [.bool] (dW [(928,⟨[],ax⟩),
 (930,⟨[],ax⟩),
 (932,⟨[],ax⟩),
 (934,⟨[],ax⟩),
 (944,⟨[],ax⟩),
 (946,⟨[],ax⟩),
 (948,⟨[],ax⟩),
 (950,⟨[],ax⟩),
 (960,⟨[],ax⟩),
 (962,⟨[],ax⟩),
 (964,⟨[],ax⟩),
 (966,⟨[],ax⟩),
 (976,⟨[],ax⟩),
 (978,⟨[],ax⟩),
 (980,⟨[],ax⟩),
 (982,⟨[],ax⟩),
 (992,⟨[],ax⟩),
 (994,⟨[],ax⟩),
 (996,⟨[],ax⟩),
 (998,⟨[],ax⟩),
 (1030,⟨[],ax⟩)])⟩,dX cB mixed func148 (by kernel_rfl) (by kernel_rfl) (by kernel_rfl) (by kernel_rfl)⟩
noncomputable def VB (_:Nat):En:=⟨⟨150,dF tb (dx f150) 16 [.tmp 10] [.bool] (dW [(1094,⟨[(128,.bI [.d (.sl 55),.d (.int .i64),.row 25 true,.map 80 (.bool)])],ax⟩),
 (1134,⟨[(128,.bI [.d (.sl 55),.d (.int .i64),.row 25 true,.map 80 (.bool)])],ax⟩)])⟩,dX cB mixed func150 (by kernel_rfl) (by kernel_rfl) (by kernel_rfl) (by kernel_rfl)⟩
noncomputable def ai' (_:Nat):En:=⟨⟨193,dF tb (dx f193) 14 [.tmp 4] [.bool] (dW [(1088,⟨[],ax⟩),
 (1090,⟨[],ax⟩),
 (1092,⟨[],ax⟩),
 (1094,⟨[],ax⟩),
 (1104,⟨[],ax⟩),
 (1106,⟨[],ax⟩),
 (1108,⟨[],ax⟩),
 (1110,⟨[],ax⟩),
 (1120,⟨[],ax⟩),
 (1122,⟨[],ax⟩),
 (1124,⟨[],ax⟩),
 (1126,⟨[],ax⟩),
 (1136,⟨[],ax⟩),
 (1138,⟨[],ax⟩),
 (1140,⟨[],ax⟩),
 (1142,⟨[],ax⟩),
 (1152,⟨[],ax⟩),
 (1154,⟨[],ax⟩),
 (1156,⟨[],ax⟩),
 (1158,⟨[],ax⟩),
 (1190,⟨[],ax⟩)])⟩,dX cB mixed func193 (by kernel_rfl) (by kernel_rfl) (by kernel_rfl) (by kernel_rfl)⟩
noncomputable def X6 (n:Nat):En:=⟨⟨195,dF tb (dx f195) 47 [.tmp 6] [.bool] (dW [(1174,⟨[(128,.bI [.d (.sl 55),.d (.int .i64),.row 25 true,.map 80 (.bool)])],aI [.l 30 ⟨140737488224576,[],[(2000128,.bI [.d (.sl 55),.d (.int .i64),.row 25 true,.map 80 (.bool)])],[(7,kR 3)],[(.ret,[(6,kB),(7,kR 3)])],λ_=>some n⟩,.l 1932 ⟨274875810048,[],[],[(7,kR 3),(8,kI)],[((.exit 2),[(7,kR 3),(8,kI)])],aJ tb (.slot 0) 1⟩]⟩),
 (1214,⟨[(128,.bI [.d (.sl 55),.d (.int .i64),.row 25 true,.map 80 (.bool)])],aI [.l 30 ⟨140737488224576,[],[(2000128,.bI [.d (.sl 55),.d (.int .i64),.row 25 true,.map 80 (.bool)])],[(7,kR 3)],[(.ret,[(6,kB),(7,kR 3)])],λ_=>some n⟩,.l 1932 ⟨274875810048,[],[],[(7,kR 3),(8,kI)],[((.exit 2),[(7,kR 3),(8,kI)])],aJ tb (.slot 0) 1⟩]⟩)])⟩,dX cB mixed func195 (by kernel_rfl) (by kernel_rfl) (by kernel_rfl) (by kernel_rfl)⟩
noncomputable def V8 (_:Nat):En:=⟨⟨196,dF tb (dx f196) 37 [.tmp 7] [.bool] (dW [(1273,⟨[(128,.bI [.d (.sl 55),.d (.int .i64),.row 25 true,.map 80 (.bool)])],aI [.s 4 [26],.l 26 ⟨137438952320,[],[(2000128,.bI [.d (.sl 55),.d (.int .i64),.row 25 true,.map 80 (.bool)])],[(11,kI)],[((.exit 0),[]),(.ret,[(7,kB)])],aJ tb (.slot 10) 1⟩]⟩),
 (1313,⟨[(128,.bI [.d (.sl 55),.d (.int .i64),.row 25 true,.map 80 (.bool)])],aI [.s 4 [26],.l 26 ⟨137438952320,[],[(2000128,.bI [.d (.sl 55),.d (.int .i64),.row 25 true,.map 80 (.bool)])],[(11,kI)],[((.exit 0),[]),(.ret,[(7,kB)])],aJ tb (.slot 10) 1⟩]⟩)])⟩,dX cB mixed func196 (by kernel_rfl) (by kernel_rfl) (by kernel_rfl) (by kernel_rfl)⟩
theorem cD' (n:Nat):RK ⟨18,[pD 31,pD 25],[kD 46,kI],G7 n⟩ :=
 aC [eR (xO n),eR vZ,eR xM,eR (Zt n),(Rn n),eR (Ed n),(Ul n),(R5 n),(Te n),(cX' n),eR BJ,eR Fx,eR Gj,eR G9,(UA n),(bU' n),(Yo n),eR DC,(YN n),(Wh n),(U3 n),(Ux n),(ai' n),eR FX,(VB n),(X6 n),(V8 n),eR Jo,eR L6] (RQ n) func18
theorem Y0:RK ⟨51,[pD 25,.var 31 (kD 31) false],[kB],Nv⟩ :=
 aC [eR vZ] ax func51
theorem JC (n:Nat):RK ⟨27,[pD 31,pL 25],[kB],He n⟩ :=
 aC [eR (xO n),eR EG,eR Y0] ax func27
theorem Y9:RK ⟨29,[pD 25,.var 22 (kL 25) false],[kB],EK⟩ :=
 aC [eR AP] ax func29
noncomputable def Wy (_:Nat):En:=⟨⟨19,dF tb (dx f19) 9 [.tmp 4] [.bool] (dW [(232,⟨[],ax⟩)])⟩,dX cB mixed func19 (by kernel_rfl) (by kernel_rfl) (by kernel_rfl) (by kernel_rfl)⟩
noncomputable def XV (_:Nat):En:=⟨⟨30,dF tb (dx f30) 12 [.tmp 4] [.bool] (dW [(168,⟨[],ax⟩)])⟩,dX cB mixed func30 (by kernel_rfl) (by kernel_rfl) (by kernel_rfl) (by kernel_rfl)⟩
noncomputable def au' (_:Nat):En:=⟨⟨42,dF tb (dx f42) 19 [.tmp 4] [.int .i64] (dW [(256,⟨[],aI [.l 26 ⟨524080,[],[],[(8,kI)],[((.exit 0),[]),(.ret,[(4,kI)])],aJ tb (.slot 7) 1⟩]⟩)])⟩,dX cB mixed func42 (by kernel_rfl) (by kernel_rfl) (by kernel_rfl) (by kernel_rfl)⟩
noncomputable def bo' (_:Nat):En:=⟨⟨43,dF tb (dx f43) 9 [.tmp 4] [.bool] (dW [(776,⟨[],ax⟩),
 (792,⟨[],ax⟩),
 (808,⟨[],ax⟩),
 (824,⟨[],ax⟩),
 (840,⟨[],ax⟩),
 (872,⟨[],ax⟩)])⟩,dX cB mixed func43 (by kernel_rfl) (by kernel_rfl) (by kernel_rfl) (by kernel_rfl)⟩
noncomputable def Sv (_:Nat):En:=⟨⟨54,dF tb (dx f54) 8 [.tmp 3] [.bool] (dW [(352,⟨[],ax⟩)])⟩,dX cB mixed func54 (by kernel_rfl) (by kernel_rfl) (by kernel_rfl) (by kernel_rfl)⟩
noncomputable def Q5 (_:Nat):En:=⟨⟨55,dF tb (dx f55) 27 [.tmp 4] [.bool] (dW [(384,⟨[],aI [.s 1 [10],.j 12 ⟨8388576,[],[],[(.normal,[(22,kB)])]⟩]⟩)])⟩,dX cB mixed func55 (by kernel_rfl) (by kernel_rfl) (by kernel_rfl) (by kernel_rfl)⟩
noncomputable def YG (_:Nat):En:=⟨⟨72,dF tb (dx f72) 19 [.tmp 4] [.int .i64] (dW [(800,⟨[],aI [.l 26 ⟨524080,[],[],[(8,kI)],[((.exit 0),[]),(.ret,[(4,kI)])],aJ tb (.slot 7) 1⟩]⟩),
 (816,⟨[],aI [.l 26 ⟨524080,[],[],[(8,kI)],[((.exit 0),[]),(.ret,[(4,kI)])],aJ tb (.slot 7) 1⟩]⟩),
 (832,⟨[],aI [.l 26 ⟨524080,[],[],[(8,kI)],[((.exit 0),[]),(.ret,[(4,kI)])],aJ tb (.slot 7) 1⟩]⟩),
 (848,⟨[],aI [.l 26 ⟨524080,[],[],[(8,kI)],[((.exit 0),[]),(.ret,[(4,kI)])],aJ tb (.slot 7) 1⟩]⟩),
 (864,⟨[],aI [.l 26 ⟨524080,[],[],[(8,kI)],[((.exit 0),[]),(.ret,[(4,kI)])],aJ tb (.slot 7) 1⟩]⟩),
 (896,⟨[],aI [.l 26 ⟨524080,[],[],[(8,kI)],[((.exit 0),[]),(.ret,[(4,kI)])],aJ tb (.slot 7) 1⟩]⟩)])⟩,dX cB mixed func72 (by kernel_rfl) (by kernel_rfl) (by kernel_rfl) (by kernel_rfl)⟩
noncomputable def Rf (_:Nat):En:=⟨⟨97,dF tb (dx f97) 9 [.tmp 4] [.bool] (dW [(424,⟨[],ax⟩)])⟩,dX cB mixed func97 (by kernel_rfl) (by kernel_rfl) (by kernel_rfl) (by kernel_rfl)⟩
noncomputable def Ta (_:Nat):En:=⟨⟨99,dF tb (dx f99) 17 [.tmp 4] [.bool] (dW [(544,⟨[],ax⟩)])⟩,dX cB mixed func99 (by kernel_rfl) (by kernel_rfl) (by kernel_rfl) (by kernel_rfl)⟩
noncomputable def RN (_:Nat):En:=⟨⟨101,dF tb (dx f101) 126 [.tmp 6] [.bool] (dW [(632,⟨[],aI [.s 13 [54],.s 18 [108],.j 221180 ⟨4722365356969738371136,[],[],[(.normal,[(6,kB)])]⟩]⟩)])⟩,dX cB mixed func101 (by kernel_rfl) (by kernel_rfl) (by kernel_rfl) (by kernel_rfl)⟩
noncomputable def bC' (_:Nat):En:=⟨⟨144,dF tb (dx f144) 19 [.tmp 4] [.int .i64] (dW [(448,⟨[],aI [.l 26 ⟨524080,[],[],[(8,kI)],[((.exit 0),[]),(.ret,[(4,kI)])],aJ tb (.slot 7) 1⟩]⟩)])⟩,dX cB mixed func144 (by kernel_rfl) (by kernel_rfl) (by kernel_rfl) (by kernel_rfl)⟩
noncomputable def Yf (_:Nat):En:=⟨⟨148,dF tb (dx f148) 10 [.tmp 6] [.bool] (dW [(736,⟨[],ax⟩),
 (752,⟨[],ax⟩),
 (768,⟨[],ax⟩),
 (784,⟨[],ax⟩),
 (800,⟨[],ax⟩),
 (832,⟨[],ax⟩)])⟩,dX cB mixed func148 (by kernel_rfl) (by kernel_rfl) (by kernel_rfl) (by kernel_rfl)⟩
noncomputable def UW (_:Nat):En:=⟨⟨150,dF tb (dx f150) 16 [.tmp 10] [.bool] (dW [(896,⟨[],ax⟩),
 (936,⟨[],ax⟩)])⟩,dX cB mixed func150 (by kernel_rfl) (by kernel_rfl) (by kernel_rfl) (by kernel_rfl)⟩
noncomputable def WL (_:Nat):En:=⟨⟨193,dF tb (dx f193) 14 [.tmp 4] [.bool] (dW [(896,⟨[],ax⟩),
 (912,⟨[],ax⟩),
 (928,⟨[],ax⟩),
 (944,⟨[],ax⟩),
 (960,⟨[],ax⟩),
 (992,⟨[],ax⟩)])⟩,dX cB mixed func193 (by kernel_rfl) (by kernel_rfl) (by kernel_rfl) (by kernel_rfl)⟩
noncomputable def WX (n:Nat):En:=⟨⟨195,dF tb (dx f195) 47 [.tmp 6] [.bool] (dW [(976,⟨[],aI [.l 30 ⟨140737488224576,[],[],[(7,kR 3)],[(.ret,[(6,kB),(7,kR 3)])],λ_=>some n⟩,.l 1932 ⟨274875810048,[],[],[(7,kR 3),(8,kI)],[((.exit 2),[(7,kR 3),(8,kI)])],aJ tb (.slot 0) 1⟩]⟩),
 (1016,⟨[],aI [.l 30 ⟨140737488224576,[],[],[(7,kR 3)],[(.ret,[(6,kB),(7,kR 3)])],λ_=>some n⟩,.l 1932 ⟨274875810048,[],[],[(7,kR 3),(8,kI)],[((.exit 2),[(7,kR 3),(8,kI)])],aJ tb (.slot 0) 1⟩]⟩)])⟩,dX cB mixed func195 (by kernel_rfl) (by kernel_rfl) (by kernel_rfl) (by kernel_rfl)⟩
noncomputable def Xf (_:Nat):En:=⟨⟨196,dF tb (dx f196) 37 [.tmp 7] [.bool] (dW [(1073,⟨[],aI [.s 4 [26],.l 26 ⟨137438952320,[],[],[(11,kI)],[((.exit 0),[]),(.ret,[(7,kB)])],aJ tb (.slot 10) 1⟩]⟩),
 (1113,⟨[],aI [.s 4 [26],.l 26 ⟨137438952320,[],[],[(11,kI)],[((.exit 0),[]),(.ret,[(7,kB)])],aJ tb (.slot 10) 1⟩]⟩)])⟩,dX cB mixed func196 (by kernel_rfl) (by kernel_rfl) (by kernel_rfl) (by kernel_rfl)⟩
theorem R6 (n:Nat):RK ⟨13,[pD 31,pL 25,pD 25],[kB],L9 n⟩ :=
 aC [eR (JC n),eR vZ,(XV n),eR (Ed n),(Wy n),(au' n),(Sv n),(Q5 n),eR BJ,eR Fx,eR Gj,eR G9,(Rf n),(bC' n),(Ta n),eR DC,(RN n),(Yf n),(bo' n),(YG n),(WL n),eR FX,(UW n),(WX n),(Xf n),eR Jo,eR L6,eR xM,eR Y9] ax func13
theorem U1 (n:Nat):RK ⟨35,[pD 25,.var 31 (kD 31) false,.var 46 (kD 46) false],[kB],Lr n⟩ :=
 aC [eR (R6 n)] ax func35
theorem Yc (n:Nat):RK ⟨15,[pD 31,pD 25,pD 46],[kB],Ff n⟩ :=
 aC [eR (JC n),eR vZ,eR AP,eR EG,eR (U1 n)] ax func15
theorem YB (n:Nat):RK ⟨6,[],[kB],wG n⟩ :=
 aC [eR (cD' n),eR (Yc n)] ax func6
def QK:Hints I:=aI [.l 26 ⟨262128,[],[],[(5,kI)],[((.exit 0),[]),(.ret,[(4,kB)])],aJ tb (.len (.slot 0)) 1⟩]
theorem bT':RK ⟨46,[pL 3,pI],[kB],Cw⟩ :=
 aC [] QK func46
def Wq:Hints I:=aI [.l 26 ⟨524272,[],[],[(5,kI)],[((.exit 0),[]),(.ret,[(4,kB)])],aJ tb (.len (.slot 0)) 1⟩]
theorem aW':RK ⟨22,[pL 3,pL 3],[kB],yV⟩ :=
 aC [eR bT'] Wq func22
def QM:Hints I:=aI [.l 26 ⟨4398046511088,[],[],[(5,kI)],[((.exit 0),[]),(.ret,[(4,kB)])],aJ tb (.len (.slot 0)) 1⟩]
theorem Z7:RK ⟨8,[pL 25,pD 25],[kB],AL⟩ :=
 aC [eR aW'] QM func8
def VW (_:Nat):Hints I:=aI [.s 8 [52],.l 58 ⟨35184367894576,[],[],[(5,kI)],[((.exit 0),[]),(.ret,[(4,kB)])],aJ tb (.len (.slot 0)) 1⟩]
noncomputable def ca' (n:Nat):Row I:=⟨3,[pL 25,pD 25],[kB],A8 n⟩
theorem cO' (n:Nat):RK (ca' n) :=
 aC [eR (YB n),eR AP,eR Z7] (VW n) func3
end Go.Qx
end
section
open Array renaming getElem?_eq_some_iff->jg'
open Bool renaming false_eq_true->ke'
open List renaming drop_eq_getElem_cons->jm',getElem?_append_left->iD',getElem?_append_right->iv',getElem?_eq_getElem->in',getElem?_eq_some_iff->ij',getElem_mem->iL',length_pos_iff->kq',map_cons->iH',mem_append_left->jt',mem_append_right->jR',mem_map->iT'
open Nat renaming add_assoc->jf',add_mul->jb',lt_of_lt_of_le->ji',mul_le_mul_right->iR',one_mul->jW',zero_add->iO',zero_le->iP'
namespace Go.Pl
open Go Go.RowKit Go.Sx Go.Qx Go.Proofs.YtjbmbpabpaeklaaGreatDoor
def jR (w:World):S:=⟨w,λb=>match w.heap[b]? with | some (.cells c _ _)=>(c.size,0) | _=>(0,0)⟩
theorem RJ {w:World}{b o:Nat}{cs:List Value}(hn:cs≠[])(h:w.rangeAt b o cs)(hf:∀ j,j<cs.length->w.frozen? ⟨b,o+j,none⟩=false):jQ (jR w) b o cs:=by
 refine ⟨⟨?_,hf⟩,h⟩;have hl:0<cs.length:=kq'.2 hn;have hj:=h (cs.length-1) _ (in' (by omega))
 unfold World.cell? at hj;simp only at hj;split at hj
 ·rename_i c e f hb;have h2:o+(cs.length-1)<c.size:=by simp only [Option.isSome_none,ke',if_false] at hj;exact (jg'.1 hj).1
  show o+cs.length<=(match w.heap[b]? with | some (.cells c _ _)=>(c.size,0) | _=>(0,0)).1
  rw [hb];show o+cs.length<=c.size;omega
 ·cases hj
theorem RU {w:World}{base:Nat}{a:Addr}{n:Nat}{cs:List Value}(h:w.cells? base a n=some cs) :
 cs.length=n/\∀ (i:Nat) (v:Value),cs[i]?=some v->w.cell? (a.add i)=some v:=by
 unfold World.cells? at h;split at h
 ·have hl:cs.length=n:=by simpa using mapM_some_length h
  refine ⟨hl,λi v hv=>?_⟩;have hi:i<n:=by have:=(ij'.1 hv).1; omega
  have:=mapM_some_get h i i (by simp [hi])
  rw [this,hv]
 ·cases h
theorem bV' (a:Addr)(x j:Nat):(a.add x).add j=a.add (x+j):=by
 unfold Addr.add;by_cases hx:x=0
 ·subst hx; simp
 ·by_cases hj:j=0
  ·subst hj; simp [hx]
  ·rw [if_neg hj,if_neg hx,if_neg (by omega),jf']
theorem Ti {w:World}{a:Addr}{v:Value}(h:w.cell? a=some v):a.spot=none:=by
 unfold World.cell? at h;split at h
 ·split at h
  ·cases h
  ·rename_i hs; simpa using hs
 ·cases h
section
variable {H:Type}{enc:TypeId×Value->H}{P:Program}{w:World}{base:Nat}{spare:Nat->Bool}{held:Bool}
theorem Pe {α:Type} [Rp α] {fuel:Nat}{t e:TypeId}{cs:List Value}{x:DataW H×List MemPlace}(ht:P.underlying t=some (.slice e))(hc:P.cellsOf e=Rp.sz α)(bk:α->Nat)
 (hrd:∀ (n:Nat) (cs:List Value) (x:DataW H×List MemPlace),n<fuel->w.noneFrozen x.2->DataW.trod enc P w base spare held n e cs=some x->∃ d:α,Rp.cells (jR w) d cs/\bk d<=Rows.uptoBulk x.1) (hz:w.noneFrozen x.2)
 (h:DataW.trod enc P w base spare held fuel t cs=some x) :
 ∃ (ds:List α) (A:Option Addr) (c:Nat),cs=[.slice A ds.length c]/\Sl (jR w) ds A c/\(ds.map bk).sum+1<=Rows.uptoBulk x.1:=by
 rcases DataW.trod_slice ht h with ⟨rfl,rfl⟩ | ⟨a,len,cap,elems,rest,n,rfl,rfl,rfl,hb,hl,hm,hle,hget,-,-⟩
 ·exact ⟨[],none,0,rfl,Sl.rH _ _ _ (iP' _),by simp [Rows.uptoBulk]⟩
 have hze:∀ y∈elems,w.noneFrozen y.2:=λy hy b off hm'=>hz b off (jR' _ (List.mem_flatMap.2 ⟨y,jt' _ hy,hm'⟩));have hzr:∀ i,i<(elems.length+rest.length)*P.cellsOf e->w.frozen? ⟨a.block,a.off+i,none⟩=false:=λi hi=>hz _ _ (jt' _ (iT'.2 ⟨i,List.mem_range.2 hi,rfl⟩));have key:∀ (m i:Nat),i+m=len->∃ (ds:List α) (cs:List Value),ds.length=m/\bE (jR w) ds cs /\
  (∀ (j:Nat) (v:Value),cs[j]?=some v->w.cell? (a.add (i*Rp.sz α+j))=some v)/\(ds.map bk).sum<=Rows.uptoBulkAll ((elems.drop i).map (·.1)):=by
  intro m
  induction m with
  | zero=>intro i _; exact ⟨[],[],rfl,rfl,λj v hv=>by simp at hv,by simp⟩
  | succ m ih =>
    intro i hi;obtain ⟨ds,cs,h1,h2,h3,h4⟩:=ih (i+1) (by omega)
    have hlt:i<elems.length:=by omega
    have hg:=hget i (by omega)
    rw [in' hlt,Option.bind_eq_some_iff] at hg;obtain ⟨cs0,hcs,htr⟩:=hg;obtain ⟨d,hd,hbk⟩:=hrd n cs0 _ (by omega) (hze _ (iL' hlt)) htr
    obtain ⟨hcl,hci⟩:=RU hcs;rw [hc] at hcl hci;refine ⟨d::ds,cs0++cs,by simp [h1],⟨cs0,cs,rfl,hd,h2⟩,?_,?_⟩
    ·intro j v hv;by_cases hj:j<Rp.sz α
     ·rw [iD' (by omega)] at hv
      rw [<- bV'];exact hci j v hv
     ·rw [iv' (by omega)] at hv
      have:=h3 _ v hv;rw [hcl,jb',jW'] at this;have e:i*Rp.sz α+Rp.sz α+(j-Rp.sz α)=i*Rp.sz α+j:=by omega
      rw [e] at this;exact this
    ·rw [jm' hlt];simp only [iH',List.sum_cons,Rows.uptoBulkAll];omega
 obtain ⟨ds,cs,h1,h2,h3,h4⟩:=key len 0 (by omega)
 simp only [Nat.zero_mul,iO',List.drop_zero] at h3 h4;refine ⟨ds,some a,cap,by rw [h1],⟨by omega,hm,cs,h2,λhn=>?_⟩,by simp only [Rows.uptoBulk]; omega⟩
 have hne:=h2.ne_nil hn;cases cs with
 | nil=>exact absurd rfl hne
 | cons v0 r =>
   have h0:=h3 0 v0 rfl;have hs:a.spot=none:=Ti (by simpa [Addr.add] using h0)
   obtain ⟨b,o,sp⟩:=a;simp only at hs;subst hs;refine ⟨b,o,rfl,RJ (by simp) ?_ (λj hj=>hzr j (by have h5:=h2.len;rw [h5,h1] at hj;rw [hc,hle];exact ji' hj (iR' _ (Nat.le_add_right _ _))))⟩
   intro j v hv;have:=h3 j v hv;unfold Addr.add at this;by_cases hj:j=0
   ·subst hj; simpa using this
   ·rw [if_neg hj] at this;exact this
end
end Go.Pl
end
section
namespace Go.Pl
open Go Go.RowKit Go.Sx Go.Qx
def Ay (_:Int):Nat:=1
def FB (l:List Int):Nat:=(l.map Ay).sum+1
def Fp (_:Bool):Nat:=1
def yh (v:ai):Nat:=FB v.Pos+FB v.Neg+Fp v.Lists+1
def WB (l:List ai):Nat:=(l.map yh).sum+1
end Go.Pl
end
section
open Go.Proofs.Tryz renaming prog->ig'
open List renaming length_drop->jd',map_cons->iH',take_append_drop->iW',take_of_length_le->jM'
open Go.Proofs.Tryz
namespace Go.Pl
open Go Go.RowKit Go.Sx Go.Qx Go.Proofs.YtjbmbpabpaeklaaGreatDoor
theorem c3:ig'.cellsOf 3=1:=by kernel_rfl
theorem KU:ig'.cellsOf 23=1:=by kernel_rfl
theorem c4:ig'.cellsOf 4=1:=by kernel_rfl
theorem MC:ig'.cellsOf 25=3:=by kernel_rfl
theorem Nl {α β:Type}(ra:Rp α)(rb:Rp β){σ:S}{cs:List Value}{a:α}{b:β}(o s:Nat)(h1:ra.cells σ a ((cs.drop o).take s))(h2:rb.cells σ b (cs.drop (o+s))):(bT ra rb).cells σ (a,b) (cs.drop o) :=
 ⟨_,_,by rw [<- List.drop_drop]; exact (iW' s (cs.drop o)).symm,h1,h2⟩
theorem Zr {α:Type}(ra:Rp α){σ:S}{cs:List Value}{a:α}(o s:Nat)(hl:cs.length=o+s)(h1:ra.cells σ a ((cs.drop o).take s)):ra.cells σ a (cs.drop o):=by rwa [jM' (by rw [jd']; omega)] at h1
theorem Uf {α:Type}{l:List α}(h:l.length=3):∃ a0 a1 a2,l=[a0,a1,a2]:=by
 match l,h with
 | [a0,a1,a2],_=>exact ⟨a0,a1,a2,rfl⟩
section
variable {H:Type}{enc:TypeId×Value->H}{w:World}{base:Nat}{spare:Nat->Bool}{held:Bool}
theorem Vz {n:Nat}{cs:List Value}{x:DataW H×List MemPlace}(hz:w.noneFrozen x.2)(h:DataW.trod enc ig' w base spare held n 3 cs=some x):∃ d:Int,(bf .i64).cells (jR w) d cs/\Ay d<=Rows.uptoBulk x.1:=by obtain ⟨k,e0,rfl,_⟩:=DataW.trod_int underlying3 h;exact ⟨k,e0,by simp [Ay,Rows.uptoBulk]⟩
theorem OJ {n:Nat}{cs:List Value}{x:DataW H×List MemPlace}(hz:w.noneFrozen x.2)(h:DataW.trod enc ig' w base spare held n 23 cs=some x):∃ d:List Int,(@aW _ (bf .i64)).cells (jR w) d cs/\FB d<=Rows.uptoBulk x.1:=by obtain ⟨ds,A,c,e,hs,hb⟩:=@Pe _ _ _ _ _ _ _ Int (bf .i64) _ _ _ _ _ underlying23 c3 Ay (λn cs x _ hz h=>Vz hz h) hz h;exact ⟨ds,⟨A,c,e,hs⟩,hb⟩
theorem Xi {n:Nat}{cs:List Value}{x:DataW H×List MemPlace}(hz:w.noneFrozen x.2)(h:DataW.trod enc ig' w base spare held n 4 cs=some x):∃ d:Bool,(jv).cells (jR w) d cs/\Fp d<=Rows.uptoBulk x.1:=by obtain ⟨k,e0,rfl⟩:=DataW.trod_bool underlying4 h;exact ⟨k,e0,by simp [Fp,Rows.uptoBulk]⟩
theorem MZ {n:Nat}{cs:List Value}{x:DataW H×List MemPlace}(hz:w.noneFrozen x.2)(h:DataW.trod enc ig' w base spare held n 25 cs=some x):∃ d:ai,(jl).cells (jR w) d cs/\yh d<=Rows.uptoBulk x.1:=by
 obtain ⟨xs,m,rfl,rfl,hl,hx,hf⟩:=DataW.trod_struct underlying25 h;rw [MC] at hl;have hx:xs.length=3:=hx;obtain ⟨x0,x1,x2,rfl⟩:=Uf hx;have f0:DataW.trod enc ig' w base spare held m 23 ((cs.drop 0).take (ig'.cellsOf 23))=[x0,x1,x2][0]?:=hf 0 _ rfl;rw [KU] at f0;obtain ⟨d0,e0,b0⟩:=OJ (x:=x0) (λb off hm=>hz b off (List.mem_flatMap.2 ⟨x0,by simp,hm⟩)) f0
 have f1:DataW.trod enc ig' w base spare held m 23 ((cs.drop 1).take (ig'.cellsOf 23))=[x0,x1,x2][1]?:=hf 1 _ rfl;rw [KU] at f1;obtain ⟨d1,e1,b1⟩:=OJ (x:=x1) (λb off hm=>hz b off (List.mem_flatMap.2 ⟨x1,by simp,hm⟩)) f1
 have f2:DataW.trod enc ig' w base spare held m 4 ((cs.drop 2).take (ig'.cellsOf 4))=[x0,x1,x2][2]?:=hf 2 _ rfl;rw [c4] at f2;obtain ⟨d2,e2,b2⟩:=Xi (x:=x2) (λb off hm=>hz b off (List.mem_flatMap.2 ⟨x2,by simp,hm⟩)) f2
 refine ⟨⟨d0,d1,d2⟩,Nl (@aW _ (bf .i64)) (bT (@aW _ (bf .i64)) (jv)) 0 1 e0 (Nl (@aW _ (bf .i64)) (jv) 1 1 e1 (Zr (jv) 2 1 hl e2)),?_⟩;simp only [yh,Rows.uptoBulk,Rows.uptoBulkAll,iH',List.map_nil];omega
end
end Go.Pl
end

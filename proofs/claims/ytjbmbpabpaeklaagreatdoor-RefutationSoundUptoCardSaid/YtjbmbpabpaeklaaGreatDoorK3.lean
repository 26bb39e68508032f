/- Part 3. -/
import Derived.Test.YtjbmbpabpaeklaaGreatDoorK2
import Derived.KernelRfl
import Derived.Lib.Bytealg
noncomputable section
open Bool renaming and_eq_true->Lc',and_true->Ma',eq_iff_iff->LZ',false_eq_true->Mi',not_true->Mc',true_and->LQ'
open Int renaming toNat_natCast->Ln'
open List renaming all_append->Lv',all_cons->LE',all_eq_true->Le',append_assoc->Lt',cons_append->Mg',drop_eq_getElem_cons->LO',flatMap_cons->Mk',foldl_cons->Mu',getElem?_cons_succ->MO',getElem?_eq_getElem->Lb',getElem?_eq_none_iff->MS',getElem?_eq_some_iff->La',getElem_mem->Lu',getElem_of_mem->LW',length_append->Lf',length_cons->Ld',length_drop->LK',length_range->MG',length_singleton->MW',length_take->LC',mem_append->Lo',mem_append_left->LN',mem_append_right->LT',mem_cons->Lq',mem_of_getElem?->Lj',mem_singleton->Lp',of_mem_zip->Oa',range->LY',replicate->Ll',takeWhile_append_dropWhile->MH',take_append_drop->Mm'
open Nat renaming add_mul->LP',beq->Lm',blt->LF',le_refl->Lg',mul_le_mul->NG',mul_le_mul_right->LA',zero_add->LM'
open Option renaming bind_some->KY',map_some->Mv'
namespace Go.Qx
open Go Go.RowKit Go.Sx
set_option maxRecDepth 100000
structure ax where
 Pos:List Int
 Neg:List Int
 eu:Bool
structure dm where
 bq:Key
 iR:Int
 o6:Bool
structure aF where
 af:Int
 Lo:Int
 Hi:Int
 Text:ByteArray
 ai:List Int
 aS:List dm
 Rest:Int×Int
structure ay where
 aj:List aF
 dh:Int
structure aA where
 L:List Int
 At:Int
structure qO where
 MN:List ax
structure fU where
 pos:List Int
 neg:List Int
 lF':List Int
 lG':List Int
structure bN where
 af:Int
 dB:Int
structure aJ where
 Lo:Int
 Hi:Int
structure qb where
 cu:List Int
 Fails:Bool
 Result:Int
structure iL where
 Leaf:Val
 aU:List Key
 af':List qb
 MO:List ax
structure lu where
 cu:List ax
 Fails:Bool
 Result:ax
structure dY where
 Alternative:iL
 aW:List (List lu)
structure gV where
 kG:Bool
 iQ:List ByteArray
structure ig where
 af:Int
 dB:Int
 Ints:List aJ
 Names:gV
 Pos:List Int
 Neg:List Int
 Vars:List ByteArray
 lH':List ByteArray
structure lC where
 Parts:List ax
structure oO where
 Names:gV
def Dh (x y:Int×Int):Bool:=((x.1==y.1)&&((x.2==y.2)&&true))
def rV (x y:Key):Bool:=((x.af==y.af)&&((bU x.Text y.Text)&&true))
def Ls (l:List (List Int))(x1:Int):Option (Fl Int (Sum Unit Bool)):=cond (x1<(l.length:Int)) ((ak l x1).bind λe2=>cond (80<(e2.length:Int)) (some (.done (.inr false))) (some (.next (wr .i64 (x1+1))))) (some (.done (.inl ())))
def Sr (l:List (List Int)):Option Bool:=(iter (Ls l) ((l.length:Int).toNat+1) 0).bind λb3=>aL (λ_=>some true) (λy5=>some y5) b3
def Sy (d:aF):Option Bool:=(cond (d.af==3) (some (true,false,false,false)) ((cond (d.af==4) (some (d.af==4)) (cond (d.af==6) (some (d.af==6)) (some (d.af==19)))).bind λb1=>cond b1 (some (false,true,false,false)) ((cond (d.af==10) (some (d.af==10)) (cond (d.af==12) (some (d.af==12)) (cond (d.af==14) (some (d.af==14)) (cond (d.af==16) (some (d.af==16)) (cond (d.af==17) (some (d.af==17)) (some (d.af==18))))))).bind λb2=>cond b2 (some (false,false,true,false)) (cond (d.af==13) (some (false,false,false,true)) (some (false,false,false,false)))))).bind λb3=>(cond b3.1 (some true) ((cond (d.Lo==0) (some (d.Hi==0)) (some false)).bind λq4=>some q4)).bind λq5=>(cond q5 ((cond b3.2.1 (some true) (some (bU d.Text (⟨#[]⟩:ByteArray)))).bind λq6=>some q6) (some false)).bind λq7=>(cond q7 ((cond b3.2.2.1 (some true) (some ((d.ai.length:Int)==0))).bind λq8=>some q8) (some false)).bind λq9=>(cond q9 ((cond b3.2.2.2 (some true) ((cond ((d.aS.length:Int)==0) (some (Dh d.Rest (0,0))) (some false)).bind λsF=>some sF)).bind λsG=>some sG) (some false)).bind λvS=>some vS
def VT (s:ByteArray)(other:Int->Option Bool)(x5:Int):Option (Fl Int (Sum Unit Bool)):=cond (x5<(s.size:Int)) ((mD s x5).bind λe6=>(other (e6.toNat:Int)).bind λr7=>cond (!r7) (some (.done (.inr false))) (some (.next (wr .i64 (x5+1))))) (some (.done (.inl ())))
def JQ (s:ByteArray)(first:Int->Option Bool)(other:Int->Option Bool):Option Bool:=(cond ((s.size:Int)<1) (some true) (some (decide (16<(s.size:Int))))).bind λq1=>(cond q1 (some true) ((mD s 0).bind λe2=>(first (e2.toNat:Int)).bind λr3=>some (!r3))).bind λq4=>cond q4 (some false) ((iter (VT s other) ((s.size:Int).toNat+1) 1).bind λb8=>aL (λ_=>some true) (λsH=>some sH) b8)
def Ib (c:Int):Option Bool:=(cond (97<=c) (some (decide (c<=122))) (some false)).bind λq1=>some q1
def LV (c:Int):Option Bool:=(cond (48<=c) (some (decide (c<=57))) (some false)).bind λq1=>some q1
def Xe (c:Int):Option Bool:=(Ib c).bind λr1=>(cond r1 (some true) ((LV c).bind λr2=>some r2)).bind λq3=>(cond q3 (some true) (some (c==95))).bind λq4=>some q4
def KT (s:ByteArray):Option Bool:=(JQ s (λz1=>(Ib z1).bind λr2=>some r2) (λz3=>(Xe z3).bind λr4=>some r4)).bind λr5=>some r5
def Jt (c:Int):Option Bool:=(cond (65<=c) (some (decide (c<=90))) (some false)).bind λq1=>some q1
def XW (c:Int):Option Bool:=(Ib c).bind λr1=>(cond r1 (some true) ((Jt c).bind λr2=>some r2)).bind λq3=>(cond q3 (some true) ((LV c).bind λr4=>some r4)).bind λq5=>(cond q5 (some true) (some (c==95))).bind λq6=>some q6
def Rw (s:ByteArray):Option Bool:=(JQ s (λz1=>(Jt z1).bind λr2=>some r2) (λz3=>(XW z3).bind λr4=>some r4)).bind λr5=>some r5
def OC (k:Key):Option Bool:=cond (k.af==0) ((KT k.Text).bind λr1=>some r1) (cond (k.af==1) (some (decide ((k.Text.size:Int)<=64))) (some false))
def OL (x:Int):Option Bool:=some (x != x)
def Ra (x:Int)(y:Int):Option Int:=(OL x).bind λr1=>(OL y).bind λr2=>cond r1 (cond r2 (some 0) (some (-1))) (cond r2 (some 1) (cond (x<y) (some (-1)) (cond (y<x) (some 1) (some 0))))
def Wm (a:ByteArray)(b:ByteArray):Option Int:=(Jo a b).bind λr1=>some r1
def QH (a:ByteArray)(b:ByteArray):Option Int:=(Wm a b).bind λr1=>some r1
def Df (a:Key)(b:Key):Option Int:=(Ra a.af b.af).bind λr1=>cond (r1 != 0) (some r1) ((QH a.Text b.Text).bind λr2=>some r2)
def OB (l:List dm)(x1:Int):Option (Fl Int (Sum Unit Bool)):=cond (x1<(l.length:Int)) ((ak l x1).bind λe2=>(OC e2.bq).bind λr3=>(cond (!r3) (some true) ((cond (0<x1) ((ak l (wr .i64 (x1-1))).bind λe4=>(Df e4.bq e2.bq).bind λr5=>some (decide (0<=r5))) (some false)).bind λq6=>some q6)).bind λq7=>cond q7 (some (.done (.inr false))) (some (.next (wr .i64 (x1+1))))) (some (.done (.inl ())))
def RP (l:List dm):Option Bool:=(iter (OB l) ((l.length:Int).toNat+1) 0).bind λb8=>aL (λ_=>some true) (λsH=>some sH) b8
def Rq (d:aF):Option Bool:=(cond (d.af==1) (some (d.af==1)) (cond (d.af==2) (some (d.af==2)) (cond (d.af==5) (some (d.af==5)) (cond (d.af==7) (some (d.af==7)) (cond (d.af==8) (some (d.af==8)) (cond (d.af==9) (some (d.af==9)) (cond (d.af==11) (some (d.af==11)) (some (d.af==15))))))))).bind λb1=>cond b1 (some true) (cond (d.af==3) (some (decide (d.Lo<=d.Hi))) (cond (d.af==4) (some (decide ((d.Text.size:Int)<=64))) (cond (d.af==6) ((KT d.Text).bind λr2=>some r2) (cond (d.af==19) ((Rw d.Text).bind λr3=>some r3) (cond (d.af==10) (some (decide ((d.ai.length:Int)<=4))) (cond (d.af==12) (some ((d.ai.length:Int)==2)) (cond (d.af==13) ((RP d.aS).bind λr4=>some r4) (cond (d.af==14) ((cond (1<=(d.ai.length:Int)) (some (decide ((d.ai.length:Int)<=5))) (some false)).bind λq5=>some q5) ((cond (d.af==16) (some (d.af==16)) (some (d.af==17))).bind λb6=>cond b6 (some (decide (1<=(d.ai.length:Int)))) (cond (d.af==18) (some ((d.ai.length:Int)==1)) (some false)))))))))))
def GJ (eU:aF)(x2:(List Int)×Int):Option (Fl ((List Int)×Int) (List Int)):=cond (x2.2<(eU.aS.length:Int)) ((ak eU.aS x2.2).bind λe3=>(aT (x2.1.length+([e3.iR]:List Int).length) 8).bind λ_=>some (.next (x2.1++([e3.iR]:List Int),wr .i64 (x2.2+1)))) (some (.done x2.1))
def Sb (eU:aF):Option (List Int):=(iY 8 eU.ai).bind λr1=>(iter (GJ eU) ((eU.aS.length:Int).toNat+1) (r1,0)).bind λb5=>cond (eU.af==13) ((aT (b5.length+([eU.Rest.1,eU.Rest.2]:List Int).length) 8).bind λ_=>some (b5++([eU.Rest.1,eU.Rest.2]:List Int))) (some b5)
def PL (kind:Int):Option Bool:=(cond (kind==16) (some true) (some (kind==17))).bind λq1=>(cond q1 (some true) (some (kind==18))).bind λq2=>some q2
def vF (aQ:ay)(e10:aF)(Zl:Int->(List Int)->ay->Unit->Option (Bool×(List Int)))(dP:Int×(List Int)):Option (Fl (Int×(List Int)) (Sum (List Int) (Bool×(List Int)))):=cond (dP.1<(e10.ai.length:Int)) ((ak e10.ai dP.1).bind λe12=>(Zl e12 dP.2 aQ ()).bind λiy=>cond (!iy.1) (some (.done (.inr (false,iy.2)))) (some (.next (wr .i64 (dP.1+1),iy.2)))) (some (.done (.inl dP.2)))
def VP (_:Nat)(Zl:Int->(List Int)->ay->Unit->Option (Bool×(List Int)))(i:Int)(gN:List Int)(aQ:ay)(_:Unit):Option (Bool×(List Int)):=(ak gN i).bind λ_=>(gN[i.toNat]?).bind λe2=>(cond (e2 != 0) (some true) ((ak aQ.aj i).bind λe3=>(PL e3.af).bind λr4=>some (!r4))).bind λq5=>cond q5 ((ak gN i).bind λ_=>(gN[i.toNat]?).bind λe7=>some (e7 != 1,gN)) ((ak gN i).bind λ_=>(gN[i.toNat]?).bind λ_=>(ak aQ.aj i).bind λe10=>(iter (vF aQ e10 Zl) ((e10.ai.length:Int).toNat+1) (0,gN.set i.toNat 1)).bind λ(b14:Sum (List Int) (Bool×(List Int)))=>aL (λZm=>(ak Zm i).bind λ_=>(Zm[i.toNat]?).bind λ_=>some (true,Zm.set i.toNat 2)) (λsI=>some (sI.1,sI.2)) b14)
def tL:Nat->Int->(List Int)->ay->Unit->Option (Bool×(List Int)) | 0=>λ_ _ _ _=>none | n+1=>VP n (tL n)
def uS (t:ay)(n:Nat)(x2:Int×(List Int)):Option (Fl (Int×(List Int)) (Sum (List Int) (Bool×(List Int)))):=cond (x2.1<(t.aj.length:Int)) ((tL n x2.1 x2.2 t ()).bind λr3=>cond (!r3.1) (some (.done (.inr (false,r3.2)))) (some (.next (wr .i64 (x2.1+1),r3.2)))) (some (.done (.inl x2.2)))
def OM (n:Nat)(t:ay):Option Bool:=(jY (t.aj.length:Int) (t.aj.length:Int) 8).bind λm1=>(iter (uS t n) ((t.aj.length:Int).toNat+1) (0,Ll' m1 (0:Int))).bind λ(b4:Sum (List Int) (Bool×(List Int)))=>aL (λ_=>some true) (λy6=>some y6.1) b4
def O7 (t:ay)(r7:List Int)(x8:Int):Option (Fl Int (Sum Unit Int)):=cond (x8<(r7.length:Int)) ((ak r7 x8).bind λe9=>(cond (e9<0) (some true) (some (decide ((t.aj.length:Int)<=e9)))).bind λsF=>cond sF (some (.done (.inr 1))) (some (.next (wr .i64 (x8+1))))) (some (.done (.inl ())))
def RL (t:ay)(x2:Int):Option (Fl Int (Sum Unit Int)):=cond (x2<(t.aj.length:Int)) ((ak t.aj x2).bind λe3=>(Sy e3).bind λr4=>(cond (!r4) (some true) ((Rq e3).bind λr5=>some (!r5))).bind λq6=>cond q6 (some (.done (.inr 1))) ((Sb e3).bind λr7=>(iter (O7 t r7) ((r7.length:Int).toNat+1) 0).bind λb11=>aL (λ_=>some (.next (wr .i64 (x2+1)))) (λy13=>some (.done (.inr y13))) b11)) (some (.done (.inl ())))
def wZ (n:Nat)(t:ay):Option Int:=(cond (t.dh<0) (some true) (some (decide ((t.aj.length:Int)<=t.dh)))).bind λq1=>cond q1 (some 1) ((iter (RL t) ((t.aj.length:Int).toNat+1) 0).bind λb14=>aL (λ_=>(OM n t).bind λgP=>cond (!gP) (some 3) (some 0)) (λsI=>some sI) b14)
def Ji (t:ay)(g:ax)(r1:List Int)(x3:Int):Option (Fl Int (Sum Unit Bool)):=cond (x3<((r1++g.Neg).length:Int)) ((ak (r1++g.Neg) x3).bind λe4=>(cond (e4<0) (some true) (some (decide ((t.aj.length:Int)<=e4)))).bind λq5=>cond q5 (some (.done (.inr false))) (some (.next (wr .i64 (x3+1))))) (some (.done (.inl ())))
def yM (t:ay)(g:ax):Option Bool:=(iY 8 g.Pos).bind λr1=>(aT (r1.length+g.Neg.length) 8).bind λ_=>(iter (Ji t g r1) (((r1++g.Neg).length:Int).toNat+1) 0).bind λb6=>aL (λ_=>some true) (λy8=>some y8) b6
def GU (x1:(List Int)×Int)(bO:(Int×Int)×List Int):Option (Fl ((Int×Int)×List Int) (Int×List Int)):=cond (bO.1.2<((bO.2.drop x1.2.toNat).length:Int)) ((ak (bO.2.drop x1.2.toNat) bO.1.2).bind λ_=>(bO.2[(x1.2.toNat+bO.1.2.toNat)]?).bind λe18=>(ak (bO.2.drop x1.2.toNat) (wr .i64 (bO.1.2-1))).bind λ_=>(bO.2[(x1.2.toNat+(wr .i64 (bO.1.2-1)).toNat)]?).bind λe20=>cond (e18 != e20) ((ak (bO.2.drop x1.2.toNat) bO.1.2).bind λ_=>(bO.2[(x1.2.toNat+bO.1.2.toNat)]?).bind λe22=>(ak bO.2 bO.1.1).bind λ_=>(bO.2[bO.1.1.toNat]?).bind λ_=>some (.next ((wr .i64 (bO.1.1+1),wr .i64 (bO.1.2+1)),bO.2.set bO.1.1.toNat e22))) (some (.next ((bO.1.1,wr .i64 (bO.1.2+1)),bO.2)))) (some (.done (bO.1.1,bO.2)))
def JI (x1:(List Int)×Int):Option (Fl ((List Int)×Int) (Sum (List Int) (List Int))):=cond (x1.2<(x1.1.length:Int)) ((ak x1.1 x1.2).bind λ_=>(x1.1[x1.2.toNat]?).bind λe3=>(ak x1.1 (wr .i64 (x1.2-1))).bind λ_=>(x1.1[(wr .i64 (x1.2-1)).toNat]?).bind λe5=>cond (e3==e5) ((ak x1.1 x1.2).bind λ_=>(iter (GU x1) (((x1.1.drop x1.2.toNat).length:Int).toNat+1) ((x1.2,1),x1.1)).bind λdG=>(ak dG.2 dG.1).bind λ_=>cond (LF' dG.1.toNat dG.2.length) ((cut (dG.2.take dG.1.toNat++Ll' (dG.2.length-dG.1.toNat) (0:Int)) 0 dG.1).bind λy27=>some (.done (.inr y27))) none) (some (.next (x1.1,wr .i64 (x1.2+1))))) (some (.done (.inl x1.1)))
def R9 (s:List Int):Option (List Int):=cond ((s.length:Int)<2) (some s) ((iter JI ((s.length:Int).toNat+1) (s,1)).bind λxL=>aL (λx29=>some x29) (λMP=>some MP) xL)
def XT (s:List Int):Option (List Int):=cond ((s.length:Int)==(s.length:Int)&&(s.length:Int)==(s.length:Int)) (some s) none
def BN (l:List Int):Option (List Int):=(iY 8 l).bind λr1=>(WT r1).bind λr2=>(R9 r2.2).bind λr3=>(XT r3).bind λr4=>some r4
def jf (g:ax):Option ax:=(BN g.Pos).bind λr1=>(BN g.Neg).bind λr2=>some (ax.mk r1 r2 g.eu)
def wX (g:ax):Option ByteArray:=(jf g).bind λg=>(AO 43 g.Pos (bif g.eu then [108] else [])).bind λb=>(AO 45 g.Neg b).bind λb=>some ⟨b.toArray⟩
def PY (s:List ax)(f:ax->Option Bool)(x1:Int):Option (Fl Int (Sum Unit Int)):=cond (x1<(s.length:Int)) ((ak s x1).bind λe2=>(f e2).bind λr3=>cond r3 (some (.done (.inr x1))) (some (.next (wr .i64 (x1+1))))) (some (.done (.inl ())))
def Yv (s:List ax)(f:ax->Option Bool):Option Int:=(iter (PY s f) ((s.length:Int).toNat+1) 0).bind λb4=>aL (λ_=>some (-1)) (λy6=>some y6) b4
def EP (s:List ax)(f:ax->Option Bool):Option Bool:=(Yv s f).bind λr1=>some (decide (0<=r1))
def Qn (s:List Int)(f:Int->Option Bool)(x1:Int):Option (Fl Int (Sum Unit Int)):=cond (x1<(s.length:Int)) ((ak s x1).bind λe2=>(f e2).bind λr3=>cond r3 (some (.done (.inr x1))) (some (.next (wr .i64 (x1+1))))) (some (.done (.inl ())))
def Xf (s:List Int)(f:Int->Option Bool):Option Int:=(iter (Qn s f) ((s.length:Int).toNat+1) 0).bind λb4=>aL (λ_=>some (-1)) (λy6=>some y6) b4
def yU (s:List Int)(f:Int->Option Bool):Option Bool:=(Xf s f).bind λr1=>some (decide (0<=r1))
def PX (s:List Int)(v:Int)(x1:Int):Option (Fl Int (Sum Unit Int)):=cond (x1<(s.length:Int)) ((ak s x1).bind λe2=>cond (v==e2) (some (.done (.inr x1))) (some (.next (wr .i64 (x1+1))))) (some (.done (.inl ())))
def Wi (s:List Int)(v:Int):Option Int:=(iter (PX s v) ((s.length:Int).toNat+1) 0).bind λb3=>aL (λ_=>some (-1)) (λy5=>some y5) b3
def IJ (s:List Int)(v:Int):Option Bool:=(Wi s v).bind λr1=>some (decide (0<=r1))
def WM (i:Int)(gN:List Int):Option Bool:=(IJ gN i).bind λr1=>some (!r1)
def KM (a:List Int)(b:List Int):Option Bool:=(yU a (λz1=>(WM z1 b).bind λr2=>some r2)).bind λr3=>some (!r3)
def UY (c:ax)(gN:ax):Option Bool:=(KM c.Pos gN.Pos).bind λr1=>(cond r1 ((KM c.Neg gN.Neg).bind λr2=>some r2) (some false)).bind λq3=>(cond q3 ((cond (!c.eu) (some true) (some gN.eu)).bind λq4=>some q4) (some false)).bind λq5=>some q5
def FH (l:List ax)(g:ax):Option Bool:=(EP l (λz1=>(UY z1 g).bind λr2=>some r2)).bind λr3=>some r3
def LF (p:fU):Option ((List Int)×(List Int)×(List Int)×(List Int)):=(iY 8 p.pos).bind λr1=>(iY 8 p.neg).bind λr2=>(iY 8 p.lF').bind λr3=>(iY 8 p.lG').bind λr4=>some (r1,r2,r3,r4)
def Gm (p:fU)(kids:List Int)(positive:Bool)(x1:(List fU)×Int):Option (Fl ((List fU)×Int) (List fU)):=cond (x1.2<(kids.length:Int)) ((ak kids x1.2).bind λe2=>(LF p).bind λr3=>(cond positive ((aT (r3.1.length+([e2]:List Int).length) 8).bind λ_=>some (r3.1++([e2]:List Int),r3.2.1,r3.2.2.1,r3.2.2.2)) ((aT (r3.2.1.length+([e2]:List Int).length) 8).bind λ_=>some (r3.1,r3.2.1++([e2]:List Int),r3.2.2.1,r3.2.2.2))).bind λb6=>(aT (x1.1.length+([fU.mk b6.1 b6.2.1 b6.2.2.1 b6.2.2.2]:List fU).length) 96).bind λ_=>some (.next (x1.1++([fU.mk b6.1 b6.2.1 b6.2.2.1 b6.2.2.2]:List fU),wr .i64 (x1.2+1)))) (some (.done x1.1))
def BF (p:fU)(kids:List Int)(positive:Bool):Option (List fU):=(iter (Gm p kids positive) ((kids.length:Int).toNat+1) ([],0)).bind λb8=>some b8
def JR (d:(List Int)×(List Int)×(List Int)×(List Int))(t:ay):Option (List fU):=cond (0<=(wr .i64 ((d.1.length:Int)-1))) ((ak d.1 (wr .i64 ((d.1.length:Int)-1))).bind λ_=>(d.1[(wr .i64 ((d.1.length:Int)-1)).toNat]?).bind λe2=>(ak t.aj e2).bind λe3=>(cut d.1 0 (wr .i64 ((d.1.length:Int)-1))).bind λy4=>(cond (e3.af==2) (some (.inl (y4,d.2.1,d.2.2.1,d.2.2.2))) (cond (e3.af==1) (some (.inr ([],(y4,d.2.1,d.2.2.1,d.2.2.2)))) (cond (e3.af==17) ((aT (y4.length+e3.ai.length) 8).bind λ_=>some (.inl (y4++e3.ai,d.2.1,d.2.2.1,d.2.2.2))) (cond (e3.af==18) ((ak e3.ai 0).bind λe6=>(aT (d.2.1.length+([e6]:List Int).length) 8).bind λ_=>some (.inl (y4,d.2.1++([e6]:List Int),d.2.2.1,d.2.2.2))) (cond (e3.af==16) ((BF (fU.mk y4 d.2.1 d.2.2.1 d.2.2.2) e3.ai true).bind λr8=>some (.inr (r8,(y4,d.2.1,d.2.2.1,d.2.2.2)))) ((aT (d.2.2.1.length+([e2]:List Int).length) 8).bind λ_=>some (.inl (y4,d.2.1,d.2.2.1++([e2]:List Int),d.2.2.2)))))))).bind λb10=>aL (λdP=>some ([fU.mk dP.1 dP.2.1 dP.2.2.1 dP.2.2.2]:List fU)) (λIq=>some Iq.1) b10) ((ak d.2.1 (wr .i64 ((d.2.1.length:Int)-1))).bind λ_=>(d.2.1[(wr .i64 ((d.2.1.length:Int)-1)).toNat]?).bind λe14=>(ak t.aj e14).bind λe15=>(cut d.2.1 0 (wr .i64 ((d.2.1.length:Int)-1))).bind λsI=>(cond (e15.af==1) (some (.inl (d.1,sI,d.2.2.1,d.2.2.2))) (cond (e15.af==2) (some (.inr ([],(d.1,sI,d.2.2.1,d.2.2.2)))) (cond (e15.af==16) ((aT (sI.length+e15.ai.length) 8).bind λ_=>some (.inl (d.1,sI++e15.ai,d.2.2.1,d.2.2.2))) (cond (e15.af==18) ((ak e15.ai 0).bind λe18=>(aT (d.1.length+([e18]:List Int).length) 8).bind λ_=>some (.inl (d.1++([e18]:List Int),sI,d.2.2.1,d.2.2.2))) (cond (e15.af==17) ((BF (fU.mk d.1 sI d.2.2.1 d.2.2.2) e15.ai false).bind λl6=>some (.inr (l6,(d.1,sI,d.2.2.1,d.2.2.2)))) ((aT (d.2.2.2.length+([e14]:List Int).length) 8).bind λ_=>some (.inl (d.1,sI,d.2.2.1,d.2.2.2++([e14]:List Int))))))))).bind λMQ=>aL (λx23=>some ([fU.mk x23.1 x23.2.1 x23.2.2.1 x23.2.2.2]:List fU)) (λy24=>some y24.1) MQ)
def wm (d:ay)(t:ax)(x3:(List fU)×(List (ByteArray×Bool))×(List ax)):Option (Fl ((List fU)×(List (ByteArray×Bool))×(List ax)) ((List (ByteArray×Bool))×(List ax))):=cond (0<(x3.1.length:Int)) ((ak x3.1 (wr .i64 ((x3.1.length:Int)-1))).bind λ_=>(x3.1[(wr .i64 ((x3.1.length:Int)-1)).toNat]?).bind λe5=>(LF e5).bind λr6=>(cut x3.1 0 (wr .i64 ((x3.1.length:Int)-1))).bind λy7=>cond (0<(wr .i64 ((r6.1.length:Int)+(r6.2.1.length:Int)))) ((JR (r6.1,r6.2.1,r6.2.2.1,r6.2.2.2) d).bind λr8=>(aT (y7.length+r8.length) 96).bind λ_=>some (.next (y7++r8,x3.2.1,x3.2.2))) ((jf (ax.mk r6.2.2.1 r6.2.2.2 t.eu)).bind λfE=>(wX fE).bind λiA=>cond (!((gQ x3.2.1 iA).getD false)) ((aT (x3.2.2.length+([fE]:List ax).length) 56).bind λ_=>some (.next (y7,jG x3.2.1 iA true,x3.2.2++([fE]:List ax)))) (some (.next (y7,x3.2.1,x3.2.2))))) (some (.done (x3.2.1,x3.2.2)))
def Ht (n:Nat)(d:ay)(t:ax):Option (List ax):=(BN t.Pos).bind λr1=>(BN t.Neg).bind λr2=>(iter (wm d t) n (([fU.mk r1 r2 ([]:List Int) ([]:List Int)]:List fU),([]:List (ByteArray×Bool)),[])).bind λb13=>some b13.2
def FJ (x1:(List ByteArray)×Int)(bO:(Int×Int)×List ByteArray):Option (Fl ((Int×Int)×List ByteArray) (Int×List ByteArray)):=cond (bO.1.2<((bO.2.drop x1.2.toNat).length:Int)) ((ak (bO.2.drop x1.2.toNat) bO.1.2).bind λ_=>(bO.2[(x1.2.toNat+bO.1.2.toNat)]?).bind λe18=>(ak (bO.2.drop x1.2.toNat) (wr .i64 (bO.1.2-1))).bind λ_=>(bO.2[(x1.2.toNat+(wr .i64 (bO.1.2-1)).toNat)]?).bind λe20=>cond (!(bU e18 e20)) ((ak (bO.2.drop x1.2.toNat) bO.1.2).bind λ_=>(bO.2[(x1.2.toNat+bO.1.2.toNat)]?).bind λe22=>(ak bO.2 bO.1.1).bind λ_=>(bO.2[bO.1.1.toNat]?).bind λ_=>some (.next ((wr .i64 (bO.1.1+1),wr .i64 (bO.1.2+1)),bO.2.set bO.1.1.toNat e22))) (some (.next ((bO.1.1,wr .i64 (bO.1.2+1)),bO.2)))) (some (.done (bO.1.1,bO.2)))
def KP (x1:(List ByteArray)×Int):Option (Fl ((List ByteArray)×Int) (Sum (List ByteArray) (List ByteArray))):=cond (x1.2<(x1.1.length:Int)) ((ak x1.1 x1.2).bind λ_=>(x1.1[x1.2.toNat]?).bind λe3=>(ak x1.1 (wr .i64 (x1.2-1))).bind λ_=>(x1.1[(wr .i64 (x1.2-1)).toNat]?).bind λe5=>cond (bU e3 e5) ((ak x1.1 x1.2).bind λ_=>(iter (FJ x1) (((x1.1.drop x1.2.toNat).length:Int).toNat+1) ((x1.2,1),x1.1)).bind λdG=>(ak dG.2 dG.1).bind λ_=>cond (LF' dG.1.toNat dG.2.length) ((cut (dG.2.take dG.1.toNat++Ll' (dG.2.length-dG.1.toNat) ((⟨#[]⟩:ByteArray):ByteArray)) 0 dG.1).bind λy27=>some (.done (.inr y27))) none) (some (.next (x1.1,wr .i64 (x1.2+1))))) (some (.done (.inl x1.1)))
def EG (s:List ByteArray):Option (List ByteArray):=cond ((s.length:Int)<2) (some s) ((iter KP ((s.length:Int).toNat+1) (s,1)).bind λxL=>aL (λx29=>some x29) (λMP=>some MP) xL)
def Jm (s:List ByteArray):Option (List ByteArray):=cond ((s.length:Int)==(s.length:Int)&&(s.length:Int)==(s.length:Int)) (some s) none
def EB (t:ay)(nodes:List Int)(x1:(List ByteArray)×Int):Option (Fl ((List ByteArray)×Int) (List ByteArray)):=cond (x1.2<(nodes.length:Int)) ((ak nodes x1.2).bind λe2=>(ak t.aj e2).bind λe3=>cond (e3.af==19) ((ak t.aj e2).bind λe4=>(aT (x1.1.length+([e4.Text]:List ByteArray).length) 16).bind λ_=>some (.next (x1.1++([e4.Text]:List ByteArray),wr .i64 (x1.2+1)))) (some (.next (x1.1,wr .i64 (x1.2+1))))) (some (.done x1.1))
def yQ (t:ay)(nodes:List Int):Option (List ByteArray):=(iter (EB t nodes) ((nodes.length:Int).toNat+1) ([],0)).bind λb6=>(LQ b6).bind λr7=>(EG r7.2).bind λr8=>(Jm r8).bind λr9=>some r9
def Wn (x:Int)(gN:List Int):Option Bool:=(IJ gN x).bind λr1=>some r1
def Ce (a:List Int)(b:List Int):Option Bool:=(yU a (λz1=>(Wn z1 b).bind λr2=>some r2)).bind λr3=>some r3
def Qt (s:List ByteArray)(f:ByteArray->Option Bool)(x1:Int):Option (Fl Int (Sum Unit Int)):=cond (x1<(s.length:Int)) ((ak s x1).bind λe2=>(f e2).bind λr3=>cond r3 (some (.done (.inr x1))) (some (.next (wr .i64 (x1+1))))) (some (.done (.inl ())))
def WY (s:List ByteArray)(f:ByteArray->Option Bool):Option Int:=(iter (Qt s f) ((s.length:Int).toNat+1) 0).bind λb4=>aL (λ_=>some (-1)) (λy6=>some y6) b4
def Sw (s:List ByteArray)(f:ByteArray->Option Bool):Option Bool:=(WY s f).bind λr1=>some (decide (0<=r1))
def Qb (s:List ByteArray)(v:ByteArray)(x1:Int):Option (Fl Int (Sum Unit Int)):=cond (x1<(s.length:Int)) ((ak s x1).bind λe2=>cond (bU v e2) (some (.done (.inr x1))) (some (.next (wr .i64 (x1+1))))) (some (.done (.inl ())))
def Wq (s:List ByteArray)(v:ByteArray):Option Int:=(iter (Qb s v) ((s.length:Int).toNat+1) 0).bind λb3=>aL (λ_=>some (-1)) (λy5=>some y5) b3
def Ow (s:List ByteArray)(v:ByteArray):Option Bool:=(Wq s v).bind λr1=>some (decide (0<=r1))
def XC (x:ByteArray)(gN:List ByteArray):Option Bool:=(Ow gN x).bind λr1=>some r1
def Gl (a:List ByteArray)(b:List ByteArray):Option Bool:=(Sw a (λz1=>(XC z1 b).bind λr2=>some r2)).bind λr3=>some r3
def qj' (x1:(List bN)×Int):Option (Fl ((List bN)×Int) (List bN)):=cond (x1.2<=4) ((aT (x1.1.length+([bN.mk 6 x1.2,bN.mk 9 x1.2]:List bN).length) 16).bind λ_=>some (.next (x1.1++([bN.mk 6 x1.2,bN.mk 9 x1.2]:List bN),wr .i64 (x1.2+1)))) (some (.done x1.1))
def Ld:Option (List bN):=(iter qj' ((4:Int).toNat+2) (([bN.mk 1 0,bN.mk 2 0,bN.mk 3 0,bN.mk 4 0,bN.mk 5 0,bN.mk 7 0,bN.mk 8 0]:List bN),0)).bind λb3=>some b3
def Kc (d:bN)(t:aF):Option Bool:=cond (t.af==3) (some (d.af==1)) ((cond (t.af==4) (some (t.af==4)) (some (t.af==5))).bind λb1=>cond b1 (some (d.af==2)) ((cond (t.af==6) (some (t.af==6)) (some (t.af==7))).bind λb2=>cond b2 (some (d.af==3)) (cond (t.af==8) (some (d.af==4)) (cond (t.af==9) (some (d.af==5)) (cond (t.af==12) (some (d.af==7)) (cond (t.af==13) (some (d.af==8)) (cond (t.af==11) (some (d.af==6)) (cond (t.af==10) ((cond (d.af==6) (some (d.dB==(t.ai.length:Int))) (some false)).bind λq3=>some q3) (cond (t.af==15) (some (d.af==9)) (cond (t.af==14) ((cond (d.af==9) (some (d.dB==(wr .i64 ((t.ai.length:Int)-1)))) (some false)).bind λq4=>some q4) (some false)))))))))))
def Ju (i:Int)(gN:ay)(aQ:bN):Option Bool:=(ak gN.aj i).bind λe1=>(cond (e1.af != 19) ((ak gN.aj i).bind λe2=>(Kc aQ e2).bind λr3=>some (!r3)) (some false)).bind λq4=>some q4
def GR (s:bN)(t:ay)(e:ax):Option Bool:=(cond e.eu (some (s.af != 5)) (some false)).bind λq1=>(cond q1 (some (s.af != 7)) (some false)).bind λq2=>cond q2 (some false) ((yU e.Pos (λz3=>(Ju z3 t s).bind λr4=>some r4)).bind λr5=>some (!r5))
def Rt:Option (List aJ):=some ([aJ.mk (-9223372036854775808) 9223372036854775807]:List aJ)
def R5 (x:Int):Option Bool:=some (x != x)
def OJ (x:Int)(y:Int):Option Int:=(R5 x).bind λr1=>(R5 y).bind λr2=>cond r1 (cond r2 (some 0) (some (-1))) (cond r2 (some 1) (cond (x<y) (some (-1)) (cond (y<x) (some 1) (some 0))))
def J7 (a:aJ)(b:aJ):Option Int:=(OJ a.Lo b.Lo).bind λr1=>some r1
def Gw (d:List aJ)(x1:(List aJ)×Int):Option (Fl ((List aJ)×Int) (List aJ)):=cond (x1.2<(d.length:Int)) ((ak d x1.2).bind λe2=>cond (e2.Lo<=e2.Hi) ((aT (x1.1.length+([e2]:List aJ).length) 16).bind λ_=>some (.next (x1.1++([e2]:List aJ),wr .i64 (x1.2+1)))) (some (.next (x1.1,wr .i64 (x1.2+1))))) (some (.done x1.1))
def Cc (r8:Unit×List aJ)(x9:(List aJ)×(List aJ)×Int):Option (Fl ((List aJ)×(List aJ)×Int) ((List aJ)×(List aJ))):=cond (x9.2.2<(r8.2.length:Int)) ((ak x9.2.1 x9.2.2).bind λ_=>(x9.2.1[x9.2.2.toNat]?).bind λe11=>(cond (0<=(wr .i64 ((x9.1.length:Int)-1))) ((ak x9.1 (wr .i64 ((x9.1.length:Int)-1))).bind λ_=>(x9.1[(wr .i64 ((x9.1.length:Int)-1)).toNat]?).bind λe13=>(cond (e13.Hi==9223372036854775807) (some true) ((ak x9.1 (wr .i64 ((x9.1.length:Int)-1))).bind λ_=>(x9.1[(wr .i64 ((x9.1.length:Int)-1)).toNat]?).bind λe15=>some (decide (e11.Lo<=(wr .i64 (e15.Hi+1)))))).bind λq16=>some q16) (some false)).bind λMR=>cond MR ((ak x9.1 (wr .i64 ((x9.1.length:Int)-1))).bind λ_=>(x9.1[(wr .i64 ((x9.1.length:Int)-1)).toNat]?).bind λe19=>(ak x9.1 (wr .i64 ((x9.1.length:Int)-1))).bind λ_=>(x9.1[(wr .i64 ((x9.1.length:Int)-1)).toNat]?).bind λe21=>some (.next (x9.1.set ((wr .i64 ((x9.1.length:Int)-1)).toNat) (aJ.mk e21.Lo (max e19.Hi e11.Hi)),x9.2.1,wr .i64 (x9.2.2+1)))) ((aT (x9.1.length+([e11]:List aJ).length) 16).bind λ_=>some (.next (x9.1++([e11]:List aJ),x9.2.1,wr .i64 (x9.2.2+1))))) (some (.done (x9.1,x9.2.1)))
def zX (d:List aJ):Option (List aJ):=(iter (Gw d) ((d.length:Int).toNat+1) ([],0)).bind λb4=>(uX b4 (λz5 z6=>(J7 z5 z6).bind λr7=>some r7)).bind λr8=>(iter (Cc r8) ((r8.2.length:Int).toNat+1) ([],r8.2,0)).bind λvT=>some vT.1
def Cy (e3:aJ)(r4:List aJ)(x5:(List aJ)×Int):Option (Fl ((List aJ)×Int) (List aJ)):=cond (x5.2<(r4.length:Int)) ((ak r4 x5.2).bind λe6=>(aT (x5.1.length+([aJ.mk (max e3.Lo e6.Lo) (min e3.Hi e6.Hi)]:List aJ).length) 16).bind λ_=>some (.next (x5.1++([aJ.mk (max e3.Lo e6.Lo) (min e3.Hi e6.Hi)]:List aJ),wr .i64 (x5.2+1)))) (some (.done x5.1))
def Gb (b:List aJ)(r1:List aJ)(x2:(List aJ)×Int):Option (Fl ((List aJ)×Int) (List aJ)):=cond (x2.2<(r1.length:Int)) ((ak r1 x2.2).bind λe3=>(zX b).bind λr4=>(iter (Cy e3 r4) ((r4.length:Int).toNat+1) (x2.1,0)).bind λb8=>some (.next (b8,wr .i64 (x2.2+1)))) (some (.done x2.1))
def CV (a:List aJ)(b:List aJ):Option (List aJ):=(zX a).bind λr1=>(iter (Gb b r1) ((r1.length:Int).toNat+1) ([],0)).bind λb9=>(zX b9).bind λfE=>some fE
def J6 (r1:List aJ)(x2:(List aJ)×Int×Int):Option (Fl ((List aJ)×Int×Int) (Sum ((List aJ)×Int) (List aJ))):=cond (x2.2.2<(r1.length:Int)) ((ak r1 x2.2.2).bind λe3=>(cond (x2.2.1<e3.Lo) ((aT (x2.1.length+([aJ.mk x2.2.1 (wr .i64 (e3.Lo-1))]:List aJ).length) 16).bind λ_=>some (x2.1++([aJ.mk x2.2.1 (wr .i64 (e3.Lo-1))]:List aJ))) (some x2.1)).bind λb5=>cond (e3.Hi==9223372036854775807) (some (.done (.inr b5))) (some (.next (b5,wr .i64 (e3.Hi+1),wr .i64 (x2.2.2+1))))) (some (.done (.inl (x2.1,x2.2.1))))
def Ma (a:List aJ):Option (List aJ):=(zX a).bind λr1=>(iter (J6 r1) ((r1.length:Int).toNat+1) ([],(-9223372036854775808),0)).bind λb6=>aL (λx7=>(aT (x7.1.length+([aJ.mk x7.2 9223372036854775807]:List aJ).length) 16).bind λ_=>some (x7.1++([aJ.mk x7.2 9223372036854775807]:List aJ))) (λy8=>some y8) b6
def GQ (t:ay)(e:ax)(x2:(List aJ)×Int):Option (Fl ((List aJ)×Int) (List aJ)):=cond (x2.2<(e.Pos.length:Int)) ((ak e.Pos x2.2).bind λe3=>(ak t.aj e3).bind λe4=>cond (e4.af==3) ((CV x2.1 ([aJ.mk e4.Lo e4.Hi]:List aJ)).bind λr5=>some (.next (r5,wr .i64 (x2.2+1)))) (some (.next (x2.1,wr .i64 (x2.2+1))))) (some (.done x2.1))
def Hu (t:ay)(e:ax)(x7:(List aJ)×Int):Option (Fl ((List aJ)×Int) (List aJ)):=cond (x7.2<(e.Neg.length:Int)) ((ak e.Neg x7.2).bind λe8=>(ak t.aj e8).bind λe9=>cond (e9.af==3) ((Ma ([aJ.mk e9.Lo e9.Hi]:List aJ)).bind λfE=>(CV x7.1 fE).bind λiA=>some (.next (iA,wr .i64 (x7.2+1)))) (some (.next (x7.1,wr .i64 (x7.2+1))))) (some (.done x7.1))
def FK (t:ay)(e:ax):Option (List aJ):=(Rt).bind λr1=>(iter (GQ t e) ((e.Pos.length:Int).toNat+1) (r1,0)).bind λb6=>(iter (Hu t e) ((e.Neg.length:Int).toNat+1) (b6,0)).bind λb12=>some b12
def Lm (s:gV):Option oO:=(iY 16 s.iQ).bind λr1=>(LQ r1).bind λr2=>(EG r2.2).bind λr3=>(Jm r3).bind λr4=>some (oO.mk (gV.mk s.kG r4))
def QK (l:List ByteArray):Option gV:=(Lm (gV.mk true l)).bind λr1=>some r1.Names
def Jr (l:List ByteArray):Option gV:=(Lm (gV.mk false l)).bind λr1=>some r1.Names
def dv' (eU:oO)(other:oO):Option (List ByteArray):=(iY 16 eU.Names.iQ).bind λr1=>(aT (r1.length+other.Names.iQ.length) 16).bind λ_=>some (r1++other.Names.iQ)
def VX (x:ByteArray):Option Bool:=some (!(bU x x))
def kz' (x:ByteArray)(y:ByteArray):Option Bool:=(VX x).bind λr1=>(cond r1 ((VX y).bind λr2=>some (!r2)) (some false)).bind λq3=>(cond q3 (some true) (some (jI x y))).bind λq4=>some q4
def Ui (x:ByteArray):Option Bool:=some (!(bU x x))
def BY' (x:List ByteArray)(target:ByteArray)(x1:Int×Int):Option (Fl (Int×Int) Int):=cond (x1.1<x1.2) ((Lb .u64 (wr .u64 (wr .i64 (x1.1+x1.2))) 1).bind λd2=>(ak x (wr .i64 d2)).bind λe3=>(kz' e3 target).bind λr4=>cond r4 (some (.next (wr .i64 ((wr .i64 d2)+1),x1.2))) (some (.next (x1.1,wr .i64 d2)))) (some (.done x1.1))
def eT' (n:Nat)(x:List ByteArray)(target:ByteArray):Option (Int×Bool):=(iter (BY' x target) n (0,(x.length:Int))).bind λb5=>(cond (b5<(x.length:Int)) ((ak x b5).bind λe6=>(cond (bU e6 target) (some true) ((ak x b5).bind λe7=>(Ui e7).bind λr8=>(cond r8 ((Ui target).bind λr9=>some r9) (some false)).bind λsF=>some sF)).bind λsG=>some sG) (some false)).bind λvS=>some (b5,vS)
def WZ (n:Nat)(eU:oO)(name:ByteArray):Option Bool:=(eT' n eU.Names.iQ name).bind λr1=>some r1.2
def mI' (eU:oO)(other:oO)(n:Nat)(x1:(List ByteArray)×Int):Option (Fl ((List ByteArray)×Int) (List ByteArray)):=cond (x1.2<(eU.Names.iQ.length:Int)) ((ak eU.Names.iQ x1.2).bind λe2=>(WZ n other e2).bind λr3=>cond (!r3) ((aT (x1.1.length+([e2]:List ByteArray).length) 16).bind λ_=>some (.next (x1.1++([e2]:List ByteArray),wr .i64 (x1.2+1)))) (some (.next (x1.1,wr .i64 (x1.2+1))))) (some (.done x1.1))
def Yy (n:Nat)(eU:oO)(other:oO):Option (List ByteArray):=(iter (mI' eU other n) ((eU.Names.iQ.length:Int).toNat+1) ([],0)).bind λb5=>some b5
def ob' (r1:oO)(r2:oO)(n:Nat)(x10:(List ByteArray)×Int):Option (Fl ((List ByteArray)×Int) (List ByteArray)):=cond (x10.2<(r1.Names.iQ.length:Int)) ((ak r1.Names.iQ x10.2).bind λe11=>(WZ n r2 e11).bind λgB=>cond gB ((aT (x10.1.length+([e11]:List ByteArray).length) 16).bind λ_=>some (.next (x10.1++([e11]:List ByteArray),wr .i64 (x10.2+1)))) (some (.next (x10.1,wr .i64 (x10.2+1))))) (some (.done x10.1))
def XF (n:Nat)(a:gV)(b:gV):Option gV:=(Lm a).bind λr1=>(Lm b).bind λr2=>(cond r1.Names.kG (some r2.Names.kG) (some false)).bind λq3=>cond q3 ((dv' r1 r2).bind λr4=>(QK r4).bind λr5=>some r5) (cond r1.Names.kG ((Yy n r2 r1).bind λr6=>(Jr r6).bind λr7=>some r7) (cond r2.Names.kG ((Yy n r1 r2).bind λr8=>(Jr r8).bind λr9=>some r9) ((iter (ob' r1 r2 n) ((r1.Names.iQ.length:Int).toNat+1) ([],0)).bind λb14=>(Jr b14).bind λgy=>some gy)))
def sM' (t:ay)(e:ax)(kind:Int)(n:Nat)(x2:Int×gV):Option (Fl (Int×gV) gV):=cond (x2.1<(e.Pos.length:Int)) ((ak e.Pos x2.1).bind λe3=>(ak t.aj e3).bind λe4=>cond (e4.af==kind) ((Jr ([e4.Text]:List ByteArray)).bind λr5=>(XF n x2.2 r5).bind λr6=>some (.next (wr .i64 (x2.1+1),r6))) (some (.next (wr .i64 (x2.1+1),x2.2)))) (some (.done x2.2))
def xp' (t:ay)(e:ax)(kind:Int)(n:Nat)(x8:Int×gV):Option (Fl (Int×gV) gV):=cond (x8.1<(e.Neg.length:Int)) ((ak e.Neg x8.1).bind λe9=>(ak t.aj e9).bind λe10=>cond (e10.af==kind) ((QK ([e10.Text]:List ByteArray)).bind λiA=>(XF n x8.2 iA).bind λgB=>some (.next (wr .i64 (x8.1+1),gB))) (some (.next (wr .i64 (x8.1+1),x8.2)))) (some (.done x8.2))
def YK (n:Nat)(t:ay)(e:ax)(kind:Int):Option gV:=(QK ([]:List ByteArray)).bind λr1=>(iter (sM' t e kind n) ((e.Pos.length:Int).toNat+1) (0,r1)).bind λb7=>(iter (xp' t e kind n) ((e.Neg.length:Int).toNat+1) (0,b7)).bind λb13=>some b13
def cV' (i:Int)(gN:ay)(aQ:Int):Option Bool:=(ak gN.aj i).bind λe1=>some (e1.af==aQ)
def Fg (t:ay)(nodes:List Int)(kind:Int):Option Bool:=(yU nodes (λz1=>(cV' z1 t kind).bind λr2=>some r2)).bind λr3=>some r3
def Qc (s:bN)(t:ay)(nodes:List Int)(kind:Int)(x1:(List Int)×Int):Option (Fl ((List Int)×Int) (List Int)):=cond (x1.2<(nodes.length:Int)) ((ak nodes x1.2).bind λe2=>(ak t.aj e2).bind λe3=>(cond (e3.af==kind) ((ak t.aj e2).bind λe4=>(Kc s e4).bind λr5=>some r5) (some false)).bind λq6=>cond q6 ((aT (x1.1.length+([e2]:List Int).length) 8).bind λ_=>some (.next (x1.1++([e2]:List Int),wr .i64 (x1.2+1)))) (some (.next (x1.1,wr .i64 (x1.2+1))))) (some (.done x1.1))
def kH (s:bN)(t:ay)(nodes:List Int)(kind:Int):Option (List Int):=(iter (Qc s t nodes kind) ((nodes.length:Int).toNat+1) ([],0)).bind λb8=>some b8
def bt' (n:Nat)(d:ay)(t:ax)(aQ:bN):Option (ig×Bool):=(GR aQ d t).bind λr1=>cond (!r1) (some (ig.mk aQ.af aQ.dB ([]:List aJ) (gV.mk false ([]:List ByteArray)) ([]:List Int) ([]:List Int) ([]:List ByteArray) ([]:List ByteArray),false)) ((cond (aQ.af==1) ((FK d t).bind λr2=>some (.inr (decide (0<(r2.length:Int)),(aQ.af,aQ.dB,r2,false,([]:List ByteArray),([]:List Int),([]:List Int),([]:List ByteArray),([]:List ByteArray)),(aQ.af,aQ.dB,r2,false,([]:List ByteArray),([]:List Int),([]:List Int),([]:List ByteArray),([]:List ByteArray))))) (cond (aQ.af==2) ((YK n d t 4).bind λr3=>(Fg d t.Neg 5).bind λr4=>cond (!r4) (cond r3.kG (some (.inr (true,(aQ.af,aQ.dB,([]:List aJ),r3.kG,r3.iQ,([]:List Int),([]:List Int),([]:List ByteArray),([]:List ByteArray)),(aQ.af,aQ.dB,([]:List aJ),r3.kG,r3.iQ,([]:List Int),([]:List Int),([]:List ByteArray),([]:List ByteArray))))) (some (.inr (decide (0<(r3.iQ.length:Int)),(aQ.af,aQ.dB,([]:List aJ),r3.kG,r3.iQ,([]:List Int),([]:List Int),([]:List ByteArray),([]:List ByteArray)),(aQ.af,aQ.dB,([]:List aJ),r3.kG,r3.iQ,([]:List Int),([]:List Int),([]:List ByteArray),([]:List ByteArray)))))) (some (.inr (false,(aQ.af,aQ.dB,([]:List aJ),r3.kG,r3.iQ,([]:List Int),([]:List Int),([]:List ByteArray),([]:List ByteArray)),(aQ.af,aQ.dB,([]:List aJ),r3.kG,r3.iQ,([]:List Int),([]:List Int),([]:List ByteArray),([]:List ByteArray)))))) (cond (aQ.af==3) ((YK n d t 6).bind λr5=>(Fg d t.Neg 7).bind λr6=>cond (!r6) (cond r5.kG (some (.inr (true,(aQ.af,aQ.dB,([]:List aJ),r5.kG,r5.iQ,([]:List Int),([]:List Int),([]:List ByteArray),([]:List ByteArray)),(aQ.af,aQ.dB,([]:List aJ),r5.kG,r5.iQ,([]:List Int),([]:List Int),([]:List ByteArray),([]:List ByteArray))))) (some (.inr (decide (0<(r5.iQ.length:Int)),(aQ.af,aQ.dB,([]:List aJ),r5.kG,r5.iQ,([]:List Int),([]:List Int),([]:List ByteArray),([]:List ByteArray)),(aQ.af,aQ.dB,([]:List aJ),r5.kG,r5.iQ,([]:List Int),([]:List Int),([]:List ByteArray),([]:List ByteArray)))))) (some (.inr (false,(aQ.af,aQ.dB,([]:List aJ),r5.kG,r5.iQ,([]:List Int),([]:List Int),([]:List ByteArray),([]:List ByteArray)),(aQ.af,aQ.dB,([]:List aJ),r5.kG,r5.iQ,([]:List Int),([]:List Int),([]:List ByteArray),([]:List ByteArray)))))) (cond (aQ.af==4) ((Fg d t.Neg 8).bind λr7=>some (.inr (!r7,(aQ.af,aQ.dB,([]:List aJ),false,([]:List ByteArray),([]:List Int),([]:List Int),([]:List ByteArray),([]:List ByteArray)),(aQ.af,aQ.dB,([]:List aJ),false,([]:List ByteArray),([]:List Int),([]:List Int),([]:List ByteArray),([]:List ByteArray))))) (cond (aQ.af==5) ((Fg d t.Neg 9).bind λr8=>some (.inr (!r8,(aQ.af,aQ.dB,([]:List aJ),false,([]:List ByteArray),([]:List Int),([]:List Int),([]:List ByteArray),([]:List ByteArray)),(aQ.af,aQ.dB,([]:List aJ),false,([]:List ByteArray),([]:List Int),([]:List Int),([]:List ByteArray),([]:List ByteArray))))) (cond (aQ.af==6) (some (.inl (10,11,(0,0,([]:List aJ),false,([]:List ByteArray),([]:List Int),([]:List Int),([]:List ByteArray),([]:List ByteArray)),(aQ.af,aQ.dB,([]:List aJ),false,([]:List ByteArray),([]:List Int),([]:List Int),([]:List ByteArray),([]:List ByteArray))))) (cond (aQ.af==7) (some (.inl (12,0,(0,0,([]:List aJ),false,([]:List ByteArray),([]:List Int),([]:List Int),([]:List ByteArray),([]:List ByteArray)),(aQ.af,aQ.dB,([]:List aJ),false,([]:List ByteArray),([]:List Int),([]:List Int),([]:List ByteArray),([]:List ByteArray))))) (cond (aQ.af==8) (some (.inl (13,0,(0,0,([]:List aJ),false,([]:List ByteArray),([]:List Int),([]:List Int),([]:List ByteArray),([]:List ByteArray)),(aQ.af,aQ.dB,([]:List aJ),false,([]:List ByteArray),([]:List Int),([]:List Int),([]:List ByteArray),([]:List ByteArray))))) (cond (aQ.af==9) (some (.inl (14,15,(0,0,([]:List aJ),false,([]:List ByteArray),([]:List Int),([]:List Int),([]:List ByteArray),([]:List ByteArray)),(aQ.af,aQ.dB,([]:List aJ),false,([]:List ByteArray),([]:List Int),([]:List Int),([]:List ByteArray),([]:List ByteArray))))) (some (.inl (0,0,(0,0,([]:List aJ),false,([]:List ByteArray),([]:List Int),([]:List Int),([]:List ByteArray),([]:List ByteArray)),(aQ.af,aQ.dB,([]:List aJ),false,([]:List ByteArray),([]:List Int),([]:List Int),([]:List ByteArray),([]:List ByteArray)))))))))))))).bind λ(b9:Sum (Int×Int×(Int×Int×(List aJ)×Bool×(List ByteArray)×(List Int)×(List Int)×(List ByteArray)×(List ByteArray))×(Int×Int×(List aJ)×Bool×(List ByteArray)×(List Int)×(List Int)×(List ByteArray)×(List ByteArray))) (Bool×(Int×Int×(List aJ)×Bool×(List ByteArray)×(List Int)×(List Int)×(List ByteArray)×(List ByteArray))×(Int×Int×(List aJ)×Bool×(List ByteArray)×(List Int)×(List Int)×(List ByteArray)×(List ByteArray))))=>aL (λx10=>(kH aQ d t.Pos x10.1).bind λgB=>(kH aQ d t.Neg x10.1).bind λiy=>cond (x10.2.1==0) (some (ig.mk x10.2.2.2.1 x10.2.2.2.2.1 x10.2.2.2.2.2.1 (gV.mk x10.2.2.2.2.2.2.1 x10.2.2.2.2.2.2.2.1) gB iy x10.2.2.2.2.2.2.2.2.2.2.1 x10.2.2.2.2.2.2.2.2.2.2.2,true)) ((Fg d t.Neg x10.2.1).bind λoP=>some (ig.mk x10.2.2.2.1 x10.2.2.2.2.1 x10.2.2.2.2.2.1 (gV.mk x10.2.2.2.2.2.2.1 x10.2.2.2.2.2.2.2.1) gB iy x10.2.2.2.2.2.2.2.2.2.2.1 x10.2.2.2.2.2.2.2.2.2.2.2,!oP))) (λqP=>some (ig.mk qP.2.1.1 qP.2.1.2.1 qP.2.1.2.2.1 (gV.mk qP.2.1.2.2.2.1 qP.2.1.2.2.2.2.1) qP.2.1.2.2.2.2.2.1 qP.2.1.2.2.2.2.2.2.1 qP.2.1.2.2.2.2.2.2.2.1 qP.2.1.2.2.2.2.2.2.2.2,qP.1)) b9)
def mQ' (d:ay)(n:Nat)(e6:ax)(r7:List ByteArray)(r8:List ByteArray)(gB:List bN)(Be:(List ig)×Int):Option (Fl ((List ig)×Int) (List ig)):=cond (Be.2<(gB.length:Int)) ((ak gB Be.2).bind λe14=>(bt' n d e6 e14).bind λgy=>cond gy.2 ((iY 16 r7).bind λr16=>(iY 16 r8).bind λgP=>(aT (Be.1.length+([ig.mk gy.1.af gy.1.dB gy.1.Ints gy.1.Names gy.1.Pos gy.1.Neg r16 gP]:List ig).length) 168).bind λ_=>some (.next (Be.1++([ig.mk gy.1.af gy.1.dB gy.1.Ints gy.1.Names gy.1.Pos gy.1.Neg r16 gP]:List ig),wr .i64 (Be.2+1)))) (some (.next (Be.1,wr .i64 (Be.2+1))))) (some (.done Be.1))
def Dt' (d:ay)(n:Nat)(r4:List ax)(x5:(List ig)×Int):Option (Fl ((List ig)×Int) (List ig)):=cond (x5.2<(r4.length:Int)) ((ak r4 x5.2).bind λe6=>(yQ d e6.Pos).bind λr7=>(yQ d e6.Neg).bind λr8=>(Ce e6.Pos e6.Neg).bind λr9=>(cond r9 (some true) ((Gl r7 r8).bind λfE=>some fE)).bind λsG=>cond sG (some (.next (x5.1,wr .i64 (x5.2+1)))) ((Ld).bind λgB=>(iter (mQ' d n e6 r7 r8 gB) ((gB.length:Int).toNat+1) (x5.1,0)).bind λb19=>some (.next (b19,wr .i64 (x5.2+1))))) (some (.done x5.1))
def ft' (n:Nat)(d:ay)(t:ax):Option (List ig):=(wZ n d).bind λr1=>(cond (r1 != 0) (some true) ((yM d t).bind λr2=>some (!r2))).bind λq3=>cond q3 (some ([])) ((Ht n d t).bind λr4=>(iter (Dt' d n r4) ((r4.length:Int).toNat+1) ([],0)).bind λb20=>some b20)
def Cu' (t:ay)(nodes:List Int)(kind:Int)(width:Int)(x1:(List (List Int))×Int):Option (Fl ((List (List Int))×Int) (Sum (List (List Int)) ((List (List Int))×Bool))):=cond (x1.2<(nodes.length:Int)) ((ak nodes x1.2).bind λe2=>(cond (e2<0) (some true) (some (decide ((t.aj.length:Int)<=e2)))).bind λq3=>(cond q3 (some true) ((ak t.aj e2).bind λe4=>some (e4.af != kind))).bind λq5=>(cond q5 (some true) ((ak t.aj e2).bind λe6=>some ((e6.ai.length:Int) != width))).bind λq7=>cond q7 (some (.done (.inr ([],false)))) ((ak t.aj e2).bind λe8=>(aT (x1.1.length+([e8.ai]:List (List Int)).length) 24).bind λ_=>some (.next (x1.1++([e8.ai]:List (List Int)),wr .i64 (x1.2+1))))) (some (.done (.inl x1.1)))
def XR (t:ay)(nodes:List Int)(kind:Int)(width:Int):Option ((List (List Int))×Bool):=(iter (Cu' t nodes kind width) ((nodes.length:Int).toNat+1) ([],0)).bind λb10=>aL (λdP=>some (dP,true)) (λIq=>some (Iq.1,Iq.2)) b10
def mC' (s:List (List Int))(f:(List Int)->Option Bool)(x1:Int):Option (Fl Int (Sum Unit Int)):=cond (x1<(s.length:Int)) ((ak s x1).bind λe2=>(f e2).bind λr3=>cond r3 (some (.done (.inr x1))) (some (.next (wr .i64 (x1+1))))) (some (.done (.inl ())))
def ey' (s:List (List Int))(f:(List Int)->Option Bool):Option Int:=(iter (mC' s f) ((s.length:Int).toNat+1) 0).bind λb4=>aL (λ_=>some (-1)) (λy6=>some y6) b4
def kw' (s:List (List Int))(f:(List Int)->Option Bool):Option Bool:=(ey' s f).bind λr1=>some (decide (0<=r1))
def fb' (r:List Int)(gN:Int):Option Bool:=some ((r.length:Int) != gN)
def U7 (width:Int)(rows:List (List Int)):Option Bool:=(kw' rows (λz1=>(fb' z1 width).bind λr2=>some r2)).bind λr3=>some (!r3)
def oX' (t:List (List Int))(x1:Int×(List ax)×(List ax))(x2:Int×((List Int)×(List Int)×Bool)):Option (Fl (Int×((List Int)×(List Int)×Bool)) ((List Int)×(List Int)×Bool)):=cond (x2.1<(t.length:Int)) ((ak t x2.1).bind λe3=>(ak e3 x1.1).bind λe4=>(aT (x2.2.1.length+([e4]:List Int).length) 8).bind λ_=>some (.next (wr .i64 (x2.1+1),(x2.2.1++([e4]:List Int),x2.2.2.1,x2.2.2.2)))) (some (.done (x2.2.1,x2.2.2.1,x2.2.2.2)))
def DM' (aQ:List (List Int))(iB:List (List Int))(Ir:List Int)(x1:Int×(List ax)×(List ax))(x7:Int×((List Int)×(List Int)×Bool)):Option (Fl (Int×((List Int)×(List Int)×Bool)) ((List Int)×(List Int)×Bool)):=cond (x7.1<(aQ.length:Int)) ((ak aQ x7.1).bind λe8=>(ak iB x7.1).bind λe9=>(ak Ir x7.1).bind λ_=>(Ir[x7.1.toNat]?).bind λe11=>(ak e9 e11).bind λe12=>cond (e12==x1.1) ((ak e8 x1.1).bind λe13=>(aT (x7.2.2.1.length+([e13]:List Int).length) 8).bind λ_=>some (.next (wr .i64 (x7.1+1),(x7.2.1,x7.2.2.1++([e13]:List Int),x7.2.2.2)))) (some (.next (wr .i64 (x7.1+1),(x7.2.1,x7.2.2.1,x7.2.2.2))))) (some (.done (x7.2.1,x7.2.2.1,x7.2.2.2)))
def rN' (d:Int)(t:List (List Int))(aQ:List (List Int))(iB:List (List Int))(Ir:List Int)(x1:Int×(List ax)×(List ax)):Option (Fl (Int×(List ax)×(List ax)) (Sum ((List ax)×(List ax)) (Bool×(List ax)×(List ax)))):=cond (x1.1<d) ((iter (oX' t x1) ((t.length:Int).toNat+1) (0,([],[],false))).bind λb6=>(iter (DM' aQ iB Ir x1) ((aQ.length:Int).toNat+1) (0,(b6.1,b6.2.1,b6.2.2))).bind λb15=>(Ce b15.1 b15.2.1).bind λr16=>cond r16 (some (.done (.inr (false,x1.2.2,x1.2.2)))) ((jf (ax.mk b15.1 b15.2.1 b15.2.2)).bind λgP=>(aT (x1.2.2.length+([gP]:List ax).length) 56).bind λ_=>some (.next (wr .i64 (x1.1+1),x1.2.1,x1.2.2++([gP]:List ax))))) (some (.done (.inl (x1.2.1,x1.2.2))))
def cx' (d:Int)(t:List (List Int))(aQ:List (List Int))(iB:List (List Int))(Ir:List Int):Option (lC×Bool):=(iter (rN' d t aQ iB Ir) (d.toNat+1) (0,([]:List ax),[])).bind λ(b19:Sum ((List ax)×(List ax)) (Bool×(List ax)×(List ax)))=>aL (λx20=>some (lC.mk x20.2,true)) (λy21=>some (lC.mk y21.2.1,y21.1)) b19
def zw' (digits:List Int)(options:List (List Int))(dP:Int×List Int):Option (Fl (Int×List Int) (Sum (Unit×List Int) (Bool×List Int))):=cond (dP.1<(digits.length:Int)) ((ak dP.2 dP.1).bind λ_=>(dP.2[dP.1.toNat]?).bind λe13=>(ak dP.2 dP.1).bind λ_=>(dP.2[dP.1.toNat]?).bind λ_=>(ak (dP.2.set dP.1.toNat (wr .i64 (e13+1))) dP.1).bind λ_=>((dP.2.set dP.1.toNat (wr .i64 (e13+1)))[dP.1.toNat]?).bind λe17=>(ak options dP.1).bind λe18=>cond (e17<(e18.length:Int)) (some (.done (.inr (true,dP.2.set dP.1.toNat (wr .i64 (e13+1)))))) ((ak (dP.2.set dP.1.toNat (wr .i64 (e13+1))) dP.1).bind λ_=>((dP.2.set dP.1.toNat (wr .i64 (e13+1)))[dP.1.toNat]?).bind λ_=>some (.next (wr .i64 (dP.1+1),(dP.2.set dP.1.toNat (wr .i64 (e13+1))).set dP.1.toNat 0)))) (some (.done (.inl ((),dP.2))))
def bH' (digits:List Int)(options:List (List Int)):Option (Bool×List Int):=(iter (zw' digits options) ((digits.length:Int).toNat+1) (0,digits)).bind λ(uz:Sum (Unit×List Int) (Bool×List Int))=>aL (λvU=>some (false,vU.2)) (λy23=>some (y23.1,y23.2)) uz
def sx' (iB:Int->Option Bool)(x7:Int×List (List Int))(e8:List Int)(x9:Int×List (List Int)):Option (Fl (Int×List (List Int)) (Unit×List (List Int))):=cond (x9.1<(e8.length:Int)) ((ak e8 x9.1).bind λe10=>(iB e10).bind λiA=>cond iA ((ak x9.2 x7.1).bind λ_=>(x9.2[x7.1.toNat]?).bind λe13=>(aT (e13.length+([x9.1]:List Int).length) 8).bind λ_=>(ak x9.2 x7.1).bind λ_=>(x9.2[x7.1.toNat]?).bind λ_=>cond (Lm' (x7.1.toNat+2) (x7.1.toNat+2)) (some (.next (wr .i64 (x9.1+1),x9.2.set x7.1.toNat (e13++([x9.1]:List Int))))) none) (some (.next (wr .i64 (x9.1+1),x9.2)))) (some (.done ((),x9.2)))
def zb' (aQ:List (List Int))(iB:Int->Option Bool)(x7:Int×List (List Int)):Option (Fl (Int×List (List Int)) (Sum (Unit×List (List Int)) ((List lC)×List (List Int)))):=cond (x7.1<(aQ.length:Int)) ((ak aQ x7.1).bind λe8=>(iter (sx' iB x7 e8) ((e8.length:Int).toNat+1) (0,x7.2)).bind λb17=>(ak b17.2 x7.1).bind λ_=>(b17.2[x7.1.toNat]?).bind λe19=>cond ((e19.length:Int)==0) (some (.done (.inr ([],b17.2)))) (some (.next (wr .i64 (x7.1+1),b17.2)))) (some (.done (.inl ((),x7.2))))
def vC' (d:Int)(t:List (List Int))(aQ:List (List Int))(x21:Unit×List (List Int))(x24:(List Int)×(List lC)):Option (Fl ((List Int)×(List lC)) ((List lC)×(List Int))):=(cx' d t aQ x21.2 x24.1).bind λuD=>(cond uD.2 ((aT (x24.2.length+([uD.1]:List lC).length) 24).bind λ_=>some (x24.2++([uD.1]:List lC))) (some x24.2)).bind λIu=>(bH' x24.1 x21.2).bind λqc=>cond (!qc.1) (some (.done (Iu,qc.2))) (some (.next (qc.2,Iu)))
def iQ' (n:Nat)(d:Int)(t:List (List Int))(aQ:List (List Int))(iB:Int->Option Bool):Option (List lC):=(cond (d<0) (some true) (some (decide (4<d)))).bind λq1=>(cond q1 (some true) ((U7 d t).bind λr2=>some (!r2))).bind λq3=>(cond q3 (some true) ((U7 d aQ).bind λr4=>some (!r4))).bind λq5=>cond q5 (some ([])) ((jY (aQ.length:Int) (aQ.length:Int) 24).bind λm6=>(iter (zb' aQ iB) ((aQ.length:Int).toNat+1) (0,Ll' m6 ([]:List Int))).bind λ(b20:Sum (Unit×List (List Int)) ((List lC)×List (List Int)))=>aL (λx21=>(jY (aQ.length:Int) (aQ.length:Int) 8).bind λm23=>(iter (vC' d t aQ x21) n (Ll' m23 (0:Int),[])).bind λMU=>some MU.1) (λy22=>some y22.1) b20)
def gI' (i:Int)(gN:ay):Option Bool:=(ak gN.aj i).bind λe1=>some (e1.af != 2)
def DW' (fE:List lC)(dP:Int):Option (Fl Int Unit):=cond (dP<(fE.length:Int)) ((ak fE dP).bind λe12=>(ak e12.Parts 1).bind λ_=>none) (some (.done ()))
def dW' (n:Nat)(d:ay)(t:ig):Option ((List lC)×Int):=(cond (t.af==6) (some (.inl (10,t.dB))) (cond (t.af==7) (some (.inl (12,2))) (some (.inr ([],9))))).bind λb1=>aL (λx2=>(wZ n d).bind λr4=>cond (r4 != 0) (some (([]:List lC),1)) ((XR d t.Pos x2.1 x2.2).bind λr5=>(XR d t.Neg x2.1 x2.2).bind λr6=>(cond (!r5.2) (some true) (some (!r6.2))).bind λq7=>cond q7 (some (([]:List lC),1)) ((iQ' n x2.2 r5.1 r6.1 (λz8=>(gI' z8 d).bind λr9=>some r9)).bind λfE=>(cond (t.af==7) ((iter (DW' fE) ((fE.length:Int).toNat+1) 0).bind λ_=>some ()) (some ())).bind λ_=>some (fE,0)))) (λy3=>some (y3.1,y3.2)) b1
def ye' (r4:(List lC)×Int)(x5:(List iL)×Int):Option (Fl ((List iL)×Int) (List iL)):=cond (x5.2<(r4.1.length:Int)) ((ak r4.1 x5.2).bind λe6=>(aT (x5.1.length+([iL.mk (Val.mk 0 0 (⟨#[]⟩:ByteArray) ([]:List Val) ([]:List Key) ([]:List aD) ([]:List ByteArray)) ([]:List Key) ([]:List qb) e6.Parts]:List iL).length) 200).bind λ_=>some (.next (x5.1++([iL.mk (Val.mk 0 0 (⟨#[]⟩:ByteArray) ([]:List Val) ([]:List Key) ([]:List aD) ([]:List ByteArray)) ([]:List Key) ([]:List qb) e6.Parts]:List iL),wr .i64 (x5.2+1)))) (some (.done x5.1))
def cg' (n:Nat)(d:ay)(t:ig):Option (List iL):=cond (t.af==1) none ((cond (t.af==2) (some (t.af==2)) (some (t.af==3))).bind λb1=>cond b1 ((cond (t.af==3) (some 0) (some 1)).bind λ(_:Int)=>none) ((cond (t.af==6) (some (t.af==6)) (some (t.af==7))).bind λb3=>cond b3 ((dW' n d t).bind λr4=>(iter (ye' r4) ((r4.1.length:Int).toNat+1) ([],0)).bind λb8=>some b8) (cond (t.af==8) none (cond (t.af==9) none (some ([iL.mk (Val.mk 0 0 (⟨#[]⟩:ByteArray) ([]:List Val) ([]:List Key) ([]:List aD) ([]:List ByteArray)) ([]:List Key) ([]:List qb) ([]:List ax)]:List iL))))))
def wa' (l:ig)(r1:List iL)(x2:(List iL)×Int):Option (Fl ((List iL)×Int) (List iL)):=cond (x2.2<(r1.length:Int)) ((ak r1 x2.2).bind λe3=>(iY 16 l.Vars).bind λr4=>(aT (x2.1.length+([iL.mk (Val.mk l.af e3.Leaf.bn e3.Leaf.Text e3.Leaf.ai e3.Leaf.aU e3.Leaf.aW r4) e3.aU e3.af' e3.MO]:List iL).length) 200).bind λ_=>some (.next (x2.1++([iL.mk (Val.mk l.af e3.Leaf.bn e3.Leaf.Text e3.Leaf.ai e3.Leaf.aU e3.Leaf.aW r4) e3.aU e3.af' e3.MO]:List iL),wr .i64 (x2.2+1)))) (some (.done x2.1))
def gF' (n:Nat)(t:ay)(l:ig):Option (List iL):=(cg' n t l).bind λr1=>(iter (wa' l r1) ((r1.length:Int).toNat+1) ([],0)).bind λb6=>some b6
def BR' (r4:List iL)(x5:(List dY)×Int):Option (Fl ((List dY)×Int) (List dY)):=cond (x5.2<(r4.length:Int)) ((ak r4 x5.2).bind λe6=>(aT (x5.1.length+([dY.mk e6 ([]:List (List lu))]:List dY).length) 224).bind λ_=>some (.next (x5.1++([dY.mk e6 ([]:List (List lu))]:List dY),wr .i64 (x5.2+1)))) (some (.done x5.1))
def qD' (e3:ig)(x10:Int):Option (Fl Int Unit):=cond (x10<(e3.Neg.length:Int)) ((ak e3.Neg x10).bind λ_=>none) (some (.done ()))
def oz' (d:ay)(n:Nat)(r1:List ig)(x2:(List dY)×Int):Option (Fl ((List dY)×Int) (List dY)):=cond (x2.2<(r1.length:Int)) ((ak r1 x2.2).bind λe3=>cond (e3.af != 9) ((gF' n d e3).bind λr4=>(iter (BR' r4) ((r4.length:Int).toNat+1) (x2.1,0)).bind λb8=>some (.next (b8,wr .i64 (x2.2+1)))) ((iY 16 e3.Vars).bind λr9=>(iter (qD' e3) ((e3.Neg.length:Int).toNat+1) 0).bind λ_=>(aT (x2.1.length+([dY.mk (iL.mk (Val.mk 9 e3.dB (⟨#[]⟩:ByteArray) ([]:List Val) ([]:List Key) ([]:List aD) r9) ([]:List Key) ([]:List qb) ([]:List ax)) ([]:List (List lu))]:List dY).length) 224).bind λ_=>some (.next (x2.1++([dY.mk (iL.mk (Val.mk 9 e3.dB (⟨#[]⟩:ByteArray) ([]:List Val) ([]:List Key) ([]:List aD) r9) ([]:List Key) ([]:List qb) ([]:List ax)) ([]:List (List lu))]:List dY),wr .i64 (x2.2+1))))) (some (.done x2.1))
def fO' (n:Nat)(d:ay)(t:ax):Option (List dY):=(ft' n d t).bind λr1=>(iter (oz' d n r1) ((r1.length:Int).toNat+1) ([],0)).bind λb14=>some b14
def V3 (f:lu):Option (List ax):=cond f.Fails (some f.cu) ((iY 56 f.cu).bind λr1=>(aT (r1.length+([f.Result]:List ax).length) 56).bind λ_=>some (r1++([f.Result]:List ax)))
def Dv' (e3:List lu)(x4:(List ax)×Int):Option (Fl ((List ax)×Int) (List ax)):=cond (x4.2<(e3.length:Int)) ((ak e3 x4.2).bind λe5=>(V3 e5).bind λr6=>(aT (x4.1.length+r6.length) 56).bind λ_=>some (.next (x4.1++r6,wr .i64 (x4.2+1)))) (some (.done x4.1))
def th' (w:dY)(x2:(List ax)×Int):Option (Fl ((List ax)×Int) (List ax)):=cond (x2.2<(w.aW.length:Int)) ((ak w.aW x2.2).bind λe3=>(iter (Dv' e3) ((e3.length:Int).toNat+1) (x2.1,0)).bind λb8=>some (.next (b8,wr .i64 (x2.2+1)))) (some (.done x2.1))
def ec' (w:dY):Option (List ax):=(iY 56 w.Alternative.MO).bind λr1=>(iter (th' w) ((w.aW.length:Int).toNat+1) (r1,0)).bind λb9=>some b9
def BF' (s:List dY)(f:dY->Option Bool)(x1:Int):Option (Fl Int (Sum Unit Int)):=cond (x1<(s.length:Int)) ((ak s x1).bind λe2=>(f e2).bind λr3=>cond r3 (some (.done (.inr x1))) (some (.next (wr .i64 (x1+1))))) (some (.done (.inl ())))
def eu' (s:List dY)(f:dY->Option Bool):Option Int:=(iter (BF' s f) ((s.length:Int).toNat+1) 0).bind λb4=>aL (λ_=>some (-1)) (λy6=>some y6) b4
def co' (s:List dY)(f:dY->Option Bool):Option Bool:=(eu' s f).bind λr1=>some (decide (0<=r1))
def nJ' (table:(List (ByteArray×(List dY)))×(List (ByteArray×Int)))(l:List ax)(x1:Int×Int):Option (Fl (Int×Int) (Sum Int (Int×Bool))):=cond (x1.2<(l.length:Int)) ((ak l x1.2).bind λe2=>(wX e2).bind λr3=>cond (((gQ table.2 r3).getD (0:Int))==0) (some (.done (.inr (0,false)))) (some (.next (max x1.1 ((gQ table.2 r3).getD (0:Int)),wr .i64 (x1.2+1))))) (some (.done (.inl x1.1)))
def Xj (table:(List (ByteArray×(List dY)))×(List (ByteArray×Int)))(l:List ax):Option (Int×Bool):=(iter (nJ' table l) ((l.length:Int).toNat+1) (0,0)).bind λ(b4:Sum Int (Int×Bool))=>aL (λx5=>some (x5,true)) (λy6=>some (y6.1,y6.2)) b4
def ug' (table:(List (ByteArray×(List dY)))×(List (ByteArray×Int)))(l:List lu)(x1:Int×Bool×Int×((List ax)×Bool×(List Int)×(List Int)×Bool)):Option (Fl (Int×Bool×Int×((List ax)×Bool×(List Int)×(List Int)×Bool)) (Int×Bool×((List ax)×Bool×(List Int)×(List Int)×Bool))):=cond (x1.2.2.1<(l.length:Int)) ((ak l x1.2.2.1).bind λe2=>(V3 e2).bind λr3=>(Xj (table.1,table.2) r3).bind λr4=>(cond r4.2 ((cond (!x1.2.1) (some true) (some (decide (r4.1<x1.1)))).bind λq5=>some q5) (some false)).bind λq6=>cond q6 (some (.next (r4.1,true,wr .i64 (x1.2.2.1+1),(e2.cu,e2.Fails,e2.Result.Pos,e2.Result.Neg,e2.Result.eu)))) (some (.next (x1.1,x1.2.1,wr .i64 (x1.2.2.1+1),(x1.2.2.2.1,x1.2.2.2.2.1,x1.2.2.2.2.2.1,x1.2.2.2.2.2.2.1,x1.2.2.2.2.2.2.2))))) (some (.done (x1.1,x1.2.1,(x1.2.2.2.1,x1.2.2.2.2.1,x1.2.2.2.2.2.1,x1.2.2.2.2.2.2.1,x1.2.2.2.2.2.2.2))))
def dX' (table:(List (ByteArray×(List dY)))×(List (ByteArray×Int)))(l:List lu):Option (lu×Int×Bool):=(iter (ug' table l) ((l.length:Int).toNat+1) (0,false,0,(([]:List ax),false,([]:List Int),([]:List Int),false))).bind λb7=>some (lu.mk b7.2.2.1 b7.2.2.2.1 (ax.mk b7.2.2.2.2.1 b7.2.2.2.2.2.1 b7.2.2.2.2.2.2),b7.1,b7.2.1)
def xd' (table:(List (ByteArray×(List dY)))×(List (ByteArray×Int)))(w:dY)(x2:Int×Int):Option (Fl (Int×Int) (Sum Int Int)):=cond (x2.2<(w.aW.length:Int)) ((ak w.aW x2.2).bind λe3=>(dX' (table.1,table.2) e3).bind λr4=>cond (!r4.2.2) (some (.done (.inr 0))) (some (.next (max x2.1 r4.2.1,wr .i64 (x2.2+1))))) (some (.done (.inl x2.1)))
def fF' (table:(List (ByteArray×(List dY)))×(List (ByteArray×Int)))(w:dY):Option Int:=(Xj (table.1,table.2) w.Alternative.MO).bind λr1=>cond (!r1.2) (some 0) ((iter (xd' table w) ((w.aW.length:Int).toNat+1) (r1.1,0)).bind λb5=>aL (λx6=>some (wr .i64 (x6+1))) (λy7=>some y7) b5)
def bd' (w:dY)(gN:(List (ByteArray×(List dY)))×(List (ByteArray×Int))):Option (Bool×Unit):=(fF' (gN.1,gN.2) w).bind λr1=>some (decide (0<r1),())
def wU' (table:(List (ByteArray×(List dY)))×(List (ByteArray×Int)))(order:List ByteArray)(x1:(List ByteArray)×Int):Option (Fl ((List ByteArray)×Int) (List ByteArray)):=cond (x1.2<(order.length:Int)) ((ak order x1.2).bind λe2=>cond (0<((gQ table.2 e2).getD (0:Int))) (some (.next (x1.1,wr .i64 (x1.2+1)))) ((co' ((gQ table.1 e2).getD ([]:List dY)) (λz3=>(bd' z3 (table.1,table.2)).bind λr4=>some r4.1)).bind λr5=>cond r5 ((aT (x1.1.length+([e2]:List ByteArray).length) 16).bind λ_=>some (.next (x1.1++([e2]:List ByteArray),wr .i64 (x1.2+1)))) (some (.next (x1.1,wr .i64 (x1.2+1)))))) (some (.done x1.1))
def vD' (uE:Int)(b7:List ByteArray)(x10:Int×(List (ByteArray×Int))):Option (Fl (Int×(List (ByteArray×Int))) (Unit×(List (ByteArray×Int)))):=cond (x10.1<(b7.length:Int)) ((ak b7 x10.1).bind λe11=>some (.next (wr .i64 (x10.1+1),jG x10.2 e11 uE))) (some (.done ((),x10.2)))
def iO' (table:(List (ByteArray×(List dY)))×(List (ByteArray×Int)))(order:List ByteArray)(uE:Int):Option ((Bool×Unit)×(List (ByteArray×(List dY)))×(List (ByteArray×Int))):=(iter (wU' table order) ((order.length:Int).toNat+1) ([],0)).bind λb7=>(iter (vD' uE b7) ((b7.length:Int).toNat+1) (0,table.2)).bind λb12=>some ((decide (0<(b7.length:Int)),()),table.1,b12.2)
def vY' (r6:List dY)(x8:(List ax)×Int):Option (Fl ((List ax)×Int) (List ax)):=cond (x8.2<(r6.length:Int)) ((ak r6 x8.2).bind λe9=>(ec' e9).bind λfE=>(aT (x8.1.length+fE.length) 56).bind λ_=>some (.next (x8.1++fE,wr .i64 (x8.2+1)))) (some (.done x8.1))
def vk' (d:ay)(n:Nat)(x1:(List ax)×(List ByteArray)×((List (ByteArray×(List dY)))×(List (ByteArray×Int)))):Option (Fl ((List ax)×(List ByteArray)×((List (ByteArray×(List dY)))×(List (ByteArray×Int)))) ((List ByteArray)×((List (ByteArray×(List dY)))×(List (ByteArray×Int))))):=cond (0<(x1.1.length:Int)) ((ak x1.1 (wr .i64 ((x1.1.length:Int)-1))).bind λ_=>(x1.1[(wr .i64 ((x1.1.length:Int)-1)).toNat]?).bind λe3=>(cut x1.1 0 (wr .i64 ((x1.1.length:Int)-1))).bind λy4=>(wX e3).bind λr5=>cond ((gQ x1.2.2.1 r5).isSome) (some (.next (y4,x1.2.1,(x1.2.2.1,x1.2.2.2)))) ((fO' n d e3).bind λr6=>(aT (x1.2.1.length+([r5]:List ByteArray).length) 16).bind λ_=>(iter (vY' r6) ((r6.length:Int).toNat+1) (y4,0)).bind λb12=>some (.next (b12,x1.2.1++([r5]:List ByteArray),(jG x1.2.2.1 r5 r6,x1.2.2.2))))) (some (.done (x1.2.1,(x1.2.2.1,x1.2.2.2))))
def ru' (b13:(List ByteArray)×((List (ByteArray×(List dY)))×(List (ByteArray×Int))))(mF:Int×((List (ByteArray×(List dY)))×(List (ByteArray×Int)))):Option (Fl (Int×((List (ByteArray×(List dY)))×(List (ByteArray×Int)))) ((List (ByteArray×(List dY)))×(List (ByteArray×Int)))):=(iO' (mF.2.1,mF.2.2) b13.1 mF.1).bind λgy=>cond gy.1.1 (some (.next (wr .i64 (mF.1+1),(gy.2.1,gy.2.2)))) (some (.done (gy.2.1,gy.2.2)))
def gy' (n:Nat)(d:ay)(t:ax):Option ((List (ByteArray×(List dY)))×(List (ByteArray×Int))):=(iter (vk' d n) n (([t]:List ax),[],(([]:List (ByteArray×(List dY))),([]:List (ByteArray×Int))))).bind λb13=>(iter (ru' b13) n (1,(b13.2.1,b13.2.2))).bind λb16=>some (b16.1,b16.2)
def eW' (n:Nat)(t:ay)(g:ax):Option Int:=(wZ n t).bind λr1=>(cond (r1 != 0) (some true) ((yM t g).bind λr2=>some (!r2))).bind λq3=>cond q3 (some 0) ((gy' n t g).bind λr4=>(wX g).bind λr5=>some ((gQ r4.2 r5).getD (0:Int)))
def dr' (n:Nat)(t:ay)(g:ax):Option Bool:=(eW' n t g).bind λr1=>some (r1 != 0)
def Qq (n:Nat)(s:(List aF)×Int×(List ax)×(List (ByteArray×Bool)))(g:ax):Option (Bool×((List aF)×Int×(List ax)×(List (ByteArray×Bool)))):=(FH s.2.2.1 g).bind λr1=>cond r1 (some (true,(s.1,s.2.1,s.2.2.1,s.2.2.2))) ((wX g).bind λr2=>(cond (!((gQ s.2.2.2 r2).isSome)) ((dr' n (ay.mk s.1 s.2.1) g).bind λr3=>some (r3,(s.1,s.2.1,s.2.2.1,jG s.2.2.2 r2 r3))) (some ((gQ s.2.2.2 r2).getD false,(s.1,s.2.1,s.2.2.1,s.2.2.2)))).bind λb4=>(cond (!b4.1) ((aT (b4.2.2.2.1.length+([g]:List ax).length) 56).bind λ_=>some (b4.2.1,b4.2.2.1,b4.2.2.2.1++([g]:List ax),b4.2.2.2.2)) (some (b4.2.1,b4.2.2.1,b4.2.2.2.1,b4.2.2.2.2))).bind λb6=>some (!b4.1,(b6.1,b6.2.1,b6.2.2.1,b6.2.2.2)))
def KJ (j:(List aF)×Int×Unit)(nodes:List Int)(at_:Int)(x1:(List Int)×Int):Option (Fl ((List Int)×Int) (List Int)):=cond (x1.2<(nodes.length:Int)) ((ak nodes x1.2).bind λ_=>(nodes[x1.2.toNat]?).bind λe3=>(ak j.1 e3).bind λe4=>(ak e4.ai at_).bind λe5=>(aT (x1.1.length+([e5]:List Int).length) 8).bind λ_=>some (.next (x1.1++([e5]:List Int),wr .i64 (x1.2+1)))) (some (.done x1.1))
def kZ (j:(List aF)×Int×Unit)(nodes:List Int)(at_:Int):Option (List Int):=(iter (KJ j nodes at_) ((nodes.length:Int).toNat+1) ([],0)).bind λb7=>some b7
def JK (nodes:List Int)(values:List Int)(value:Int)(x1:(List Int)×Int):Option (Fl ((List Int)×Int) (List Int)):=cond (x1.2<(nodes.length:Int)) ((ak nodes x1.2).bind λ_=>(nodes[x1.2.toNat]?).bind λe3=>(ak values x1.2).bind λ_=>(values[x1.2.toNat]?).bind λe5=>cond (e5==value) ((aT (x1.1.length+([e3]:List Int).length) 8).bind λ_=>some (.next (x1.1++([e3]:List Int),wr .i64 (x1.2+1)))) (some (.next (x1.1,wr .i64 (x1.2+1))))) (some (.done x1.1))
def ou (nodes:List Int)(values:List Int)(value:Int):Option (List Int):=(iter (JK nodes values value) ((nodes.length:Int).toNat+1) ([],0)).bind λb7=>some b7
def sj' (t:ay)(e11:ax)(vU:Int):Option (Fl Int (Sum Unit Int)):=cond (vU<(e11.Neg.length:Int)) ((ak e11.Neg vU).bind λe23=>((ak t.aj e23).bind λe24=>some ((e24.af==5,()),())).bind λdG=>cond dG.1.1 (some (.done (.inr vU))) (some (.next (wr .i64 (vU+1))))) (some (.done (.inl ())))
def vK' (t:ay)(e11:ax)(Tv:Int):Option (Fl Int (Sum Unit Int)):=cond (Tv<(e11.Neg.length:Int)) ((ak e11.Neg Tv).bind λe34=>((ak t.aj e34).bind λe35=>some ((e35.af==7,()),())).bind λb36=>cond b36.1.1 (some (.done (.inr Tv))) (some (.next (wr .i64 (Tv+1))))) (some (.done (.inl ())))
def od' (t:ay)(e11:ax)(Tw:Int):Option (Fl Int (Sum Unit Int)):=cond (Tw<(e11.Neg.length:Int)) ((ak e11.Neg Tw).bind λe45=>((ak t.aj e45).bind λe46=>some ((e46.af==8,()),())).bind λb47=>cond b47.1.1 (some (.done (.inr Tw))) (some (.next (wr .i64 (Tw+1))))) (some (.done (.inl ())))
def qF' (t:ay)(e11:ax)(x54:Int):Option (Fl Int (Sum Unit Int)):=cond (x54<(e11.Neg.length:Int)) ((ak e11.Neg x54).bind λe55=>((ak t.aj e55).bind λe56=>some ((e56.af==9,()),())).bind λZn=>cond Zn.1.1 (some (.done (.inr x54))) (some (.next (wr .i64 (x54+1))))) (some (.done (.inl ())))
def vJ' (t:ay)(e11:ax)(Tx:Int):Option (Fl Int (Sum Unit Int)):=cond (Tx<(e11.Neg.length:Int)) ((ak e11.Neg Tx).bind λe65=>((ak t.aj e65).bind λe66=>some ((e66.af==11,()),())).bind λb67=>cond b67.1.1 (some (.done (.inr Tx))) (some (.next (wr .i64 (Tx+1))))) (some (.done (.inl ())))
def Dj' (t:ay)(n:Nat)(e20:bN)(MV:List Int)(sJ:List Int)(zk:(List Int)×((List aF)×Int×(List ax)×(List (ByteArray×Bool))))(sK:Int×((List aF)×Int×(List ax)×(List (ByteArray×Bool)))):Option (Fl (Int×((List aF)×Int×(List ax)×(List (ByteArray×Bool)))) (Sum ((List aF)×Int×(List ax)×(List (ByteArray×Bool))) (Bool×((List aF)×Int×(List ax)×(List (ByteArray×Bool)))))):=cond (sK.1<e20.dB) ((kZ (t.aj,t.dh,()) MV sK.1).bind λr80=>(ou sJ zk.1 sK.1).bind λr81=>(kZ (t.aj,t.dh,()) r81 sK.1).bind λr82=>(jf (ax.mk r80 r82 false)).bind λr83=>(Qq n (sK.2.1,sK.2.2.1,sK.2.2.2.1,sK.2.2.2.2) r83).bind λzl=>cond zl.1 (some (.done (.inr (true,(zl.2.1,zl.2.2.1,zl.2.2.2.1,zl.2.2.2.2))))) (some (.next (wr .i64 (sK.1+1),(zl.2.1,zl.2.2.1,zl.2.2.2.1,zl.2.2.2.2))))) (some (.done (.inl (sK.2.1,sK.2.2.1,sK.2.2.2.1,sK.2.2.2.2))))
def wK' (e20:bN)(sJ:List Int)(x89:(List Int)×Int):Option (Fl ((List Int)×Int) ((List Int)×Int)):=(cond (x89.2<(sJ.length:Int)) ((ak x89.1 x89.2).bind λ_=>(x89.1[x89.2.toNat]?).bind λe91=>some (e91==(wr .i64 (e20.dB-1)))) (some false)).bind λq92=>cond q92 ((ak x89.1 x89.2).bind λ_=>(x89.1[x89.2.toNat]?).bind λ_=>some (.next (x89.1.set x89.2.toNat 0,wr .i64 (x89.2+1)))) (some (.done (x89.1,x89.2)))
def sN' (t:ay)(n:Nat)(e20:bN)(MV:List Int)(sJ:List Int)(zk:(List Int)×((List aF)×Int×(List ax)×(List (ByteArray×Bool)))):Option (Fl ((List Int)×((List aF)×Int×(List ax)×(List (ByteArray×Bool)))) (Bool×(List Int)×((List aF)×Int×(List ax)×(List (ByteArray×Bool))))):=((iter (Dj' t n e20 MV sJ zk) (e20.dB.toNat+1) (0,(zk.2.1,zk.2.2.1,zk.2.2.2.1,zk.2.2.2.2))).bind λ(Zo:Sum ((List aF)×Int×(List ax)×(List (ByteArray×Bool))) (Bool×((List aF)×Int×(List ax)×(List (ByteArray×Bool)))))=>aL (λx86=>some ((false,()),(x86.1,x86.2.1,x86.2.2.1,x86.2.2.2))) (λD6=>some ((D6.1,()),(D6.2.1,D6.2.2.1,D6.2.2.2.1,D6.2.2.2.2))) Zo).bind λqf=>cond (!qf.1.1) (some (.done (false,zk.1,(qf.2.1,qf.2.2.1,qf.2.2.2.1,qf.2.2.2.2)))) ((iter (wK' e20 sJ) ((sJ.length:Int).toNat+1) (zk.1,0)).bind λqQ=>cond (qQ.2==(sJ.length:Int)) (some (.done (true,qQ.1,(qf.2.1,qf.2.2.1,qf.2.2.2.1,qf.2.2.2.2)))) ((ak qQ.1 qQ.2).bind λ_=>(qQ.1[qQ.2.toNat]?).bind λe97=>(ak qQ.1 qQ.2).bind λ_=>(qQ.1[qQ.2.toNat]?).bind λ_=>some (.next (qQ.1.set qQ.2.toNat (wr .i64 (e97+1)),(qf.2.1,qf.2.2.1,qf.2.2.2.1,qf.2.2.2.2)))))
def oI' (t:ay)(n:Nat)(MW:List Int)(sM:List Int)(zm:(List Int)×((List aF)×Int×(List ax)×(List (ByteArray×Bool))))(qR:Int×((List aF)×Int×(List ax)×(List (ByteArray×Bool)))):Option (Fl (Int×((List aF)×Int×(List ax)×(List (ByteArray×Bool)))) (Sum ((List aF)×Int×(List ax)×(List (ByteArray×Bool))) (Bool×((List aF)×Int×(List ax)×(List (ByteArray×Bool)))))):=cond (qR.1<2) ((kZ (t.aj,t.dh,()) MW qR.1).bind λFp'=>(ou sM zm.1 qR.1).bind λD7=>(kZ (t.aj,t.dh,()) D7 qR.1).bind λqg=>(jf (ax.mk Fp' qg (qR.1==1))).bind λFq'=>(Qq n (qR.2.1,qR.2.2.1,qR.2.2.2.1,qR.2.2.2.2) Fq').bind λzn=>cond zn.1 (some (.done (.inr (true,(zn.2.1,zn.2.2.1,zn.2.2.2.1,zn.2.2.2.2))))) (some (.next (wr .i64 (qR.1+1),(zn.2.1,zn.2.2.1,zn.2.2.2.1,zn.2.2.2.2))))) (some (.done (.inl (qR.2.1,qR.2.2.1,qR.2.2.2.1,qR.2.2.2.2))))
def tT' (sM:List Int)(qU:(List Int)×Int):Option (Fl ((List Int)×Int) ((List Int)×Int)):=(cond (qU.2<(sM.length:Int)) ((ak qU.1 qU.2).bind λ_=>(qU.1[qU.2.toNat]?).bind λFr'=>some (Fr'==(wr .i64 ((2:Int)-1)))) (some false)).bind λFs'=>cond Fs' ((ak qU.1 qU.2).bind λ_=>(qU.1[qU.2.toNat]?).bind λ_=>some (.next (qU.1.set qU.2.toNat 0,wr .i64 (qU.2+1)))) (some (.done (qU.1,qU.2)))
def qS' (t:ay)(n:Nat)(MW:List Int)(sM:List Int)(zm:(List Int)×((List aF)×Int×(List ax)×(List (ByteArray×Bool)))):Option (Fl ((List Int)×((List aF)×Int×(List ax)×(List (ByteArray×Bool)))) (Bool×(List Int)×((List aF)×Int×(List ax)×(List (ByteArray×Bool))))):=((iter (oI' t n MW sM zm) ((2:Int).toNat+1) (0,(zm.2.1,zm.2.2.1,zm.2.2.2.1,zm.2.2.2.2))).bind λ(Ft':Sum ((List aF)×Int×(List ax)×(List (ByteArray×Bool))) (Bool×((List aF)×Int×(List ax)×(List (ByteArray×Bool)))))=>aL (λxM=>some ((false,()),(xM.1,xM.2.1,xM.2.2.1,xM.2.2.2))) (λMX=>some ((MX.1,()),(MX.2.1,MX.2.2.1,MX.2.2.2.1,MX.2.2.2.2))) Ft').bind λsN=>cond (!sN.1.1) (some (.done (false,zm.1,(sN.2.1,sN.2.2.1,sN.2.2.2.1,sN.2.2.2.2)))) ((iter (tT' sM) ((sM.length:Int).toNat+1) (zm.1,0)).bind λqV=>cond (qV.2==(sM.length:Int)) (some (.done (true,qV.1,(sN.2.1,sN.2.2.1,sN.2.2.2.1,sN.2.2.2.2)))) ((ak qV.1 qV.2).bind λ_=>(qV.1[qV.2.toNat]?).bind λe127=>(ak qV.1 qV.2).bind λ_=>(qV.1[qV.2.toNat]?).bind λ_=>some (.next (qV.1.set qV.2.toNat (wr .i64 (e127+1)),(sN.2.1,sN.2.2.1,sN.2.2.2.1,sN.2.2.2.2)))))
def xY' (t:ay)(e11:ax)(Tz:Int):Option (Fl Int (Sum Unit Int)):=cond (Tz<(e11.Neg.length:Int)) ((ak e11.Neg Tz).bind λFu'=>((ak t.aj Fu').bind λe137=>some ((e137.af==15,()),())).bind λZp=>cond Zp.1.1 (some (.done (.inr Tz))) (some (.next (wr .i64 (Tz+1))))) (some (.done (.inl ())))
def Br' (t:ay)(n:Nat)(e11:ax)(gP:List bN)(x18:Int×((List aF)×Int×(List ax)×(List (ByteArray×Bool)))):Option (Fl (Int×((List aF)×Int×(List ax)×(List (ByteArray×Bool)))) (Sum ((List aF)×Int×(List ax)×(List (ByteArray×Bool))) (Int×((List aF)×Int×(List ax)×(List (ByteArray×Bool)))))):=cond (x18.1<(gP.length:Int)) ((ak gP x18.1).bind λ_=>(gP[x18.1.toNat]?).bind λe20=>((GR e20 t e11).bind λoQ=>cond oQ ((cond (e20.af==1) none (cond (e20.af==2) (((((iter (sj' t e11) ((e11.Neg.length:Int).toNat+1) 0).bind λMZ=>aL (λ_=>some (((-1),()),())) (λy28=>some ((y28,()),())) MZ).bind λMU=>some ((decide (0<=MU.1.1),()),())).bind λM0=>some ((M0.1.1,()),())).bind λzo=>(cond zo.1.1 (some true) none).bind λq32=>some ((q32,()),(x18.2.1,x18.2.2.1,x18.2.2.2.1,x18.2.2.2.2))) (cond (e20.af==3) (((((iter (vK' t e11) ((e11.Neg.length:Int).toNat+1) 0).bind λb37=>aL (λ_=>some (((-1),()),())) (λy39=>some ((y39,()),())) b37).bind λb40=>some ((decide (0<=b40.1.1),()),())).bind λZq=>some ((Zq.1.1,()),())).bind λZr=>(cond Zr.1.1 (some true) none).bind λq43=>some ((q43,()),(x18.2.1,x18.2.2.1,x18.2.2.2.1,x18.2.2.2.2))) (cond (e20.af==4) (((((iter (od' t e11) ((e11.Neg.length:Int).toNat+1) 0).bind λM4=>aL (λ_=>some (((-1),()),())) (λy50=>some ((y50,()),())) M4).bind λb51=>some ((decide (0<=b51.1.1),()),())).bind λZt=>some ((Zt.1.1,()),())).bind λZu=>some ((Zu.1.1,()),(x18.2.1,x18.2.2.1,x18.2.2.2.1,x18.2.2.2.2))) (cond (e20.af==5) (((((iter (qF' t e11) ((e11.Neg.length:Int).toNat+1) 0).bind λZv=>aL (λ_=>some (((-1),()),())) (λy60=>some ((y60,()),())) Zv).bind λb61=>some ((decide (0<=b61.1.1),()),())).bind λb62=>some ((b62.1.1,()),())).bind λb63=>some ((b63.1.1,()),(x18.2.1,x18.2.2.1,x18.2.2.2.1,x18.2.2.2.2))) (cond (e20.af==6) ((((((iter (vJ' t e11) ((e11.Neg.length:Int).toNat+1) 0).bind λb68=>aL (λ_=>some (((-1),()),())) (λy70=>some ((y70,()),())) b68).bind λb71=>some ((decide (0<=b71.1.1),()),())).bind λZw=>some ((Zw.1.1,()),())).bind λZx=>cond Zx.1.1 (some (true,(x18.2.1,x18.2.2.1,x18.2.2.2.1,x18.2.2.2.2))) ((kH e20 t e11.Pos 10).bind λMV=>(kH e20 t e11.Neg 10).bind λsJ=>(((cond (e20.dB==0) (some (decide (0<(sJ.length:Int)))) (some false)).bind λq76=>cond q76 (some ((true,()),(x18.2.1,x18.2.2.1,x18.2.2.2.1,x18.2.2.2.2))) ((jY (sJ.length:Int) (sJ.length:Int) 8).bind λm77=>(iter (sN' t n e20 MV sJ) n (Ll' m77 (0:Int),(x18.2.1,x18.2.2.1,x18.2.2.2.1,x18.2.2.2.2))).bind λD8=>some ((D8.1,()),(D8.2.2.1,D8.2.2.2.1,D8.2.2.2.2.1,D8.2.2.2.2.2)))).bind λM5=>some ((M5.1.1,()),(M5.2.1,M5.2.2.1,M5.2.2.2.1,M5.2.2.2.2))).bind λM6=>some (M6.1.1,(M6.2.1,M6.2.2.1,M6.2.2.2.1,M6.2.2.2.2)))).bind λM7=>some ((M7.1,()),(M7.2.1,M7.2.2.1,M7.2.2.2.1,M7.2.2.2.2))) (cond (e20.af==7) ((kH e20 t e11.Pos 12).bind λMW=>(kH e20 t e11.Neg 12).bind λsM=>(((cond ((2:Int)==0) (some (decide (0<(sM.length:Int)))) (some false)).bind λFJ'=>cond FJ' (some ((true,()),(x18.2.1,x18.2.2.1,x18.2.2.2.1,x18.2.2.2.2))) ((jY (sM.length:Int) (sM.length:Int) 8).bind λFK'=>(iter (qS' t n MW sM) n (Ll' FK' (0:Int),(x18.2.1,x18.2.2.1,x18.2.2.2.1,x18.2.2.2.2))).bind λM8=>some ((M8.1,()),(M8.2.2.1,M8.2.2.2.1,M8.2.2.2.2.1,M8.2.2.2.2.2)))).bind λM9=>some ((M9.1.1,()),(M9.2.1,M9.2.2.1,M9.2.2.2.1,M9.2.2.2.2))).bind λnu=>some ((nu.1.1,()),(nu.2.1,nu.2.2.1,nu.2.2.2.1,nu.2.2.2.2))) (cond (e20.af==8) ((kH e20 t e11.Pos 13).bind λ_=>(kH e20 t e11.Neg 13).bind λ_=>none) (((((iter (xY' t e11) ((e11.Neg.length:Int).toNat+1) 0).bind λZy=>aL (λ_=>some (((-1),()),())) (λFL'=>some ((FL',()),())) Zy).bind λFM'=>some ((decide (0<=FM'.1.1),()),())).bind λFN'=>some ((FN'.1.1,()),())).bind λFO'=>(cond FO'.1.1 (some true) ((kH e20 t e11.Pos 14).bind λ_=>(kH e20 t e11.Neg 14).bind λ_=>none)).bind λFP'=>some ((FP',()),(x18.2.1,x18.2.2.1,x18.2.2.2.1,x18.2.2.2.2))))))))))).bind λNa=>some ((!Na.1.1,()),(Na.2.1,Na.2.2.1,Na.2.2.2.1,Na.2.2.2.2))) (some ((false,()),(x18.2.1,x18.2.2.1,x18.2.2.2.1,x18.2.2.2.2)))).bind λzq=>cond zq.1.1 (some (.done (.inr (x18.1,(zq.2.1,zq.2.2.1,zq.2.2.2.1,zq.2.2.2.2))))) (some (.next (wr .i64 (x18.1+1),(zq.2.1,zq.2.2.1,zq.2.2.2.1,zq.2.2.2.2))))) (some (.done (.inl (x18.2.1,x18.2.2.1,x18.2.2.2.1,x18.2.2.2.2))))
def AU' (t:ay)(n:Nat)(r8:List ax)(x9:Int×((List aF)×Int×(List ax)×(List (ByteArray×Bool)))):Option (Fl (Int×((List aF)×Int×(List ax)×(List (ByteArray×Bool)))) (Sum ((List aF)×Int×(List ax)×(List (ByteArray×Bool))) (Int×((List aF)×Int×(List ax)×(List (ByteArray×Bool)))))):=cond (x9.1<(r8.length:Int)) ((ak r8 x9.1).bind λ_=>(r8[x9.1.toNat]?).bind λe11=>((((Ce e11.Pos e11.Neg).bind λgB=>cond gB (some true) ((yQ t e11.Pos).bind λiy=>(yQ t e11.Neg).bind λoP=>(Gl iy oP).bind λgy=>some gy)).bind λb16=>cond b16 (some ((true,()),(x9.2.1,x9.2.2.1,x9.2.2.2.1,x9.2.2.2.2))) ((Ld).bind λgP=>(((iter (Br' t n e11 gP) ((gP.length:Int).toNat+1) (0,(x9.2.1,x9.2.2.1,x9.2.2.2.1,x9.2.2.2.2))).bind λ(FQ':Sum ((List aF)×Int×(List ax)×(List (ByteArray×Bool))) (Int×((List aF)×Int×(List ax)×(List (ByteArray×Bool)))))=>aL (λx151=>some (((-1),()),(x151.1,x151.2.1,x151.2.2.1,x151.2.2.2))) (λy152=>some ((y152.1,()),(y152.2.1,y152.2.2.1,y152.2.2.2.1,y152.2.2.2.2))) FQ').bind λNb=>some ((decide (0<=Nb.1.1),()),(Nb.2.1,Nb.2.2.1,Nb.2.2.2.1,Nb.2.2.2.2))).bind λNc=>some ((!Nc.1.1,()),(Nc.2.1,Nc.2.2.1,Nc.2.2.2.1,Nc.2.2.2.2)))).bind λD9=>some ((!D9.1.1,()),(D9.2.1,D9.2.2.1,D9.2.2.2.1,D9.2.2.2.2))).bind λzu=>cond zu.1.1 (some (.done (.inr (x9.1,(zu.2.1,zu.2.2.1,zu.2.2.2.1,zu.2.2.2.2))))) (some (.next (wr .i64 (x9.1+1),(zu.2.1,zu.2.2.1,zu.2.2.2.1,zu.2.2.2.2))))) (some (.done (.inl (x9.2.1,x9.2.2.1,x9.2.2.2.1,x9.2.2.2.2))))
def uw' (t:ay)(n:Nat)(x6:Int×((List aF)×Int×(List ax)×(List (ByteArray×Bool)))):Option (Fl (Int×((List aF)×Int×(List ax)×(List (ByteArray×Bool)))) ((List aF)×Int×(List ax)×(List (ByteArray×Bool)))):=cond (x6.1<(x6.2.2.2.1.length:Int)) ((ak x6.2.2.2.1 x6.1).bind λe7=>((Ht n t e7).bind λr8=>(((iter (AU' t n r8) ((r8.length:Int).toNat+1) (0,(x6.2.1,x6.2.2.1,x6.2.2.2.1,x6.2.2.2.2))).bind λ(FR':Sum ((List aF)×Int×(List ax)×(List (ByteArray×Bool))) (Int×((List aF)×Int×(List ax)×(List (ByteArray×Bool)))))=>aL (λx158=>some (((-1),()),(x158.1,x158.2.1,x158.2.2.1,x158.2.2.2))) (λy159=>some ((y159.1,()),(y159.2.1,y159.2.2.1,y159.2.2.2.1,y159.2.2.2.2))) FR').bind λNf=>some ((decide (0<=Nf.1.1),()),(Nf.2.1,Nf.2.2.1,Nf.2.2.2.1,Nf.2.2.2.2))).bind λNg=>some ((!Ng.1.1,()),(Ng.2.1,Ng.2.2.1,Ng.2.2.2.1,Ng.2.2.2.2))).bind λog=>some (.next (wr .i64 (x6.1+1),(og.2.1,og.2.2.1,og.2.2.2.1,og.2.2.2.2)))) (some (.done (x6.2.1,x6.2.2.1,x6.2.2.2.1,x6.2.2.2.2)))
def U2 (n:Nat)(t:ay)(g:ax):Option (qO×Int):=(wZ n t).bind λr1=>(cond (r1 != 0) (some true) ((yM t g).bind λr2=>some (!r2))).bind λq3=>cond q3 (some (qO.mk ([]:List ax),1)) ((jf g).bind λr4=>(Qq n (t.aj,t.dh,[],([]:List (ByteArray×Bool))) r4).bind λr5=>cond (!r5.1) (some (qO.mk ([]:List ax),11)) ((iter (uw' t n) n (0,(r5.2.1,r5.2.2.1,r5.2.2.2.1,r5.2.2.2.2))).bind λFS'=>some (qO.mk FS'.2.2.1,0)))
def Xz (g:ax)(gN:ay):Option Bool:=(yM gN g).bind λr1=>some (!r1)
def Lv (n:Nat)(t:ay)(l:List ax):Option Bool:=(wZ n t).bind λr1=>(cond (r1==0) ((EP l (λz2=>(Xz z2 t).bind λr3=>some r3)).bind λr4=>some (!r4)) (some false)).bind λq5=>some q5
def bP' (d:(List aF)×Int×Unit)(t:ax)(x2:(List aJ)×Int):Option (Fl ((List aJ)×Int) (List aJ)):=cond (x2.2<(t.Pos.length:Int)) ((ak t.Pos x2.2).bind λe3=>(ak d.1 e3).bind λe4=>cond (e4.af==3) ((CV x2.1 ([aJ.mk e4.Lo e4.Hi]:List aJ)).bind λr5=>some (.next (r5,wr .i64 (x2.2+1)))) (some (.next (x2.1,wr .i64 (x2.2+1))))) (some (.done x2.1))
def aV' (d:(List aF)×Int×Unit)(t:ax)(x7:(List aJ)×Int):Option (Fl ((List aJ)×Int) (List aJ)):=cond (x7.2<(t.Neg.length:Int)) ((ak t.Neg x7.2).bind λe8=>(ak d.1 e8).bind λe9=>cond (e9.af==3) ((Ma ([aJ.mk e9.Lo e9.Hi]:List aJ)).bind λfE=>(CV x7.1 fE).bind λiA=>some (.next (iA,wr .i64 (x7.2+1)))) (some (.next (x7.1,wr .i64 (x7.2+1))))) (some (.done x7.1))
def Qs (d:(List aF)×Int×Unit)(t:ax):Option Bool:=(Rt).bind λr1=>(iter (bP' d t) ((t.Pos.length:Int).toNat+1) (r1,0)).bind λb6=>(iter (aV' d t) ((t.Neg.length:Int).toNat+1) (b6,0)).bind λb12=>some ((b12.length:Int)==0)
def rE (sub:ax)(gN:List ax):Option Bool:=(FH gN sub).bind λr1=>some r1
def Hl (x1:(List Key)×Int)(bO:(Int×Int)×List Key):Option (Fl ((Int×Int)×List Key) (Int×List Key)):=cond (bO.1.2<((bO.2.drop x1.2.toNat).length:Int)) ((ak (bO.2.drop x1.2.toNat) bO.1.2).bind λ_=>(bO.2[(x1.2.toNat+bO.1.2.toNat)]?).bind λe18=>(ak (bO.2.drop x1.2.toNat) (wr .i64 (bO.1.2-1))).bind λ_=>(bO.2[(x1.2.toNat+(wr .i64 (bO.1.2-1)).toNat)]?).bind λe20=>cond (!(rV e18 e20)) ((ak (bO.2.drop x1.2.toNat) bO.1.2).bind λ_=>(bO.2[(x1.2.toNat+bO.1.2.toNat)]?).bind λe22=>(ak bO.2 bO.1.1).bind λ_=>(bO.2[bO.1.1.toNat]?).bind λ_=>some (.next ((wr .i64 (bO.1.1+1),wr .i64 (bO.1.2+1)),bO.2.set bO.1.1.toNat e22))) (some (.next ((bO.1.1,wr .i64 (bO.1.2+1)),bO.2)))) (some (.done (bO.1.1,bO.2)))
def J5 (x1:(List Key)×Int):Option (Fl ((List Key)×Int) (Sum (List Key) (List Key))):=cond (x1.2<(x1.1.length:Int)) ((ak x1.1 x1.2).bind λ_=>(x1.1[x1.2.toNat]?).bind λe3=>(ak x1.1 (wr .i64 (x1.2-1))).bind λ_=>(x1.1[(wr .i64 (x1.2-1)).toNat]?).bind λe5=>cond (rV e3 e5) ((ak x1.1 x1.2).bind λ_=>(iter (Hl x1) (((x1.1.drop x1.2.toNat).length:Int).toNat+1) ((x1.2,1),x1.1)).bind λdG=>(ak dG.2 dG.1).bind λ_=>cond (LF' dG.1.toNat dG.2.length) ((cut (dG.2.take dG.1.toNat++Ll' (dG.2.length-dG.1.toNat) (Key.mk 0 (⟨#[]⟩:ByteArray):Key)) 0 dG.1).bind λy27=>some (.done (.inr y27))) none) (some (.next (x1.1,wr .i64 (x1.2+1))))) (some (.done (.inl x1.1)))
def SL (s:List Key):Option (List Key):=cond ((s.length:Int)<2) (some s) ((iter J5 ((s.length:Int).toNat+1) (s,1)).bind λxL=>aL (λx29=>some x29) (λMP=>some MP) xL)
def IQ (e4:aF)(x5:(List Key)×Int):Option (Fl ((List Key)×Int) (List Key)):=cond (x5.2<(e4.aS.length:Int)) ((ak e4.aS x5.2).bind λe6=>(aT (x5.1.length+([e6.bq]:List Key).length) 24).bind λ_=>some (.next (x5.1++([e6.bq]:List Key),wr .i64 (x5.2+1)))) (some (.done x5.1))
def I7 (j:(List aF)×Int×Unit)(nodes:List Int)(x1:(List Key)×Int):Option (Fl ((List Key)×Int) (List Key)):=cond (x1.2<(nodes.length:Int)) ((ak nodes x1.2).bind λ_=>(nodes[x1.2.toNat]?).bind λe3=>(ak j.1 e3).bind λe4=>(iter (IQ e4) ((e4.aS.length:Int).toNat+1) (x1.1,0)).bind λb8=>some (.next (b8,wr .i64 (x1.2+1)))) (some (.done x1.1))
def Si (j:(List aF)×Int×Unit)(nodes:List Int):Option (List Key):=(iter (I7 j nodes) ((nodes.length:Int).toNat+1) ([],0)).bind λb9=>(uX b9 (λz10 z11=>(Df z10 z11).bind λgB=>some gB)).bind λiy=>(SL iy.2).bind λoP=>some oP
def QL (eU:aF)(k:Key)(x1:Int):Option (Fl Int (Sum Unit Bool)):=cond (x1<(eU.aS.length:Int)) ((ak eU.aS x1).bind λe2=>cond (rV e2.bq k) (some (.done (.inr (!e2.o6)))) (some (.next (wr .i64 (x1+1))))) (some (.done (.inl ())))
def Kk (eU:aF)(k:Key):Option Bool:=(iter (QL eU k) ((eU.aS.length:Int).toNat+1) 0).bind λb3=>aL (λ_=>some false) (λy5=>some y5) b3
def OV (eU:aF)(k:Key)(x1:Int):Option (Fl Int (Sum Unit Int)):=cond (x1<(eU.aS.length:Int)) ((ak eU.aS x1).bind λe2=>cond (rV e2.bq k) (some (.done (.inr e2.iR))) (some (.next (wr .i64 (x1+1))))) (some (.done (.inl ())))
def Pb (eU:aF)(k:Key):Option Int:=(iter (OV eU k) ((eU.aS.length:Int).toNat+1) 0).bind λb3=>aL (λ_=>cond (k.af==0) (some eU.Rest.1) (cond (k.af==1) (some eU.Rest.2) none)) (λy5=>some y5) b3
def Jf (j:(List aF)×Int×Unit)(nodes:List Int)(k:Key)(x1:(List Int)×Int):Option (Fl ((List Int)×Int) (List Int)):=cond (x1.2<(nodes.length:Int)) ((ak nodes x1.2).bind λ_=>(nodes[x1.2.toNat]?).bind λe3=>(ak j.1 e3).bind λe4=>(Pb e4 k).bind λr5=>(aT (x1.1.length+([r5]:List Int).length) 8).bind λ_=>some (.next (x1.1++([r5]:List Int),wr .i64 (x1.2+1)))) (some (.done x1.1))
def JW (j:(List aF)×Int×Unit)(nodes:List Int)(k:Key):Option (List Int):=(iter (Jf j nodes k) ((nodes.length:Int).toNat+1) ([],0)).bind λb7=>some b7
def Mj (j:(List aF)×Int×Unit)(nodes:List Int)(kind:Int)(x1:(List Int)×Int):Option (Fl ((List Int)×Int) (List Int)):=cond (x1.2<(nodes.length:Int)) ((ak nodes x1.2).bind λ_=>(nodes[x1.2.toNat]?).bind λe3=>(ak j.1 e3).bind λe4=>cond (kind==0) ((aT (x1.1.length+([e4.Rest.1]:List Int).length) 8).bind λ_=>some (.next (x1.1++([e4.Rest.1]:List Int),wr .i64 (x1.2+1)))) (cond (kind==1) ((aT (x1.1.length+([e4.Rest.2]:List Int).length) 8).bind λ_=>some (.next (x1.1++([e4.Rest.2]:List Int),wr .i64 (x1.2+1)))) none)) (some (.done x1.1))
def QD (j:(List aF)×Int×Unit)(nodes:List Int)(kind:Int):Option (List Int):=(iter (Mj j nodes kind) ((nodes.length:Int).toNat+1) ([],0)).bind λb7=>some b7
def gl' (t:ay)(e7:ax)(TD:Int):Option (Fl Int (Sum Unit Int)):=cond (TD<(e7.Neg.length:Int)) ((ak e7.Neg TD).bind λe20=>((ak t.aj e20).bind λe21=>some ((e21.af==5,()),())).bind λMQ=>cond MQ.1.1 (some (.done (.inr TD))) (some (.next (wr .i64 (TD+1))))) (some (.done (.inl ())))
def dD' (t:ay)(e7:ax)(x29:Bool×Int×ByteArray):Option (Fl (Bool×Int×ByteArray) (Sum (Bool×ByteArray) (Bool×ByteArray))):=cond (x29.2.1<(e7.Pos.length:Int)) ((ak e7.Pos x29.2.1).bind λe30=>(ak t.aj e30).bind λe31=>cond (e31.af==4) ((cond x29.1 (some (!(bU e31.Text x29.2.2))) (some false)).bind λq32=>cond q32 (some (.done (.inr (true,x29.2.2)))) (some (.next (true,wr .i64 (x29.2.1+1),e31.Text)))) (some (.next (x29.1,wr .i64 (x29.2.1+1),x29.2.2)))) (some (.done (.inl (x29.1,x29.2.2))))
def ia' (t:ay)(e7:ax)(x34:Bool×ByteArray)(TF:Int):Option (Fl Int (Sum Unit Int)):=cond (TF<(e7.Neg.length:Int)) ((ak e7.Neg TF).bind λe37=>((ak t.aj e37).bind λe38=>(cond (e38.af==4) ((ak t.aj e37).bind λe39=>some (bU e39.Text x34.2)) (some false)).bind λq40=>some ((q40,()),())).bind λZq=>cond Zq.1.1 (some (.done (.inr TF))) (some (.next (wr .i64 (TF+1))))) (some (.done (.inl ())))
def fN' (t:ay)(e7:ax)(TG:Int):Option (Fl Int (Sum Unit Int)):=cond (TG<(e7.Neg.length:Int)) ((ak e7.Neg TG).bind λe51=>((ak t.aj e51).bind λe52=>some ((e52.af==7,()),())).bind λZu=>cond Zu.1.1 (some (.done (.inr TG))) (some (.next (wr .i64 (TG+1))))) (some (.done (.inl ())))
def dZ' (t:ay)(e7:ax)(vV:Bool×Int×ByteArray):Option (Fl (Bool×Int×ByteArray) (Sum (Bool×ByteArray) (Bool×ByteArray))):=cond (vV.2.1<(e7.Pos.length:Int)) ((ak e7.Pos vV.2.1).bind λe61=>(ak t.aj e61).bind λe62=>cond (e62.af==6) ((cond vV.1 (some (!(bU e62.Text vV.2.2))) (some false)).bind λq63=>cond q63 (some (.done (.inr (true,vV.2.2)))) (some (.next (true,wr .i64 (vV.2.1+1),e62.Text)))) (some (.next (vV.1,wr .i64 (vV.2.1+1),vV.2.2)))) (some (.done (.inl (vV.1,vV.2.2))))
def dc' (t:ay)(e7:ax)(TH:Bool×ByteArray)(TI:Int):Option (Fl Int (Sum Unit Int)):=cond (TI<(e7.Neg.length:Int)) ((ak e7.Neg TI).bind λe68=>((ak t.aj e68).bind λe69=>(cond (e69.af==6) ((ak t.aj e68).bind λe70=>some (bU e70.Text TH.2)) (some false)).bind λq71=>some ((q71,()),())).bind λZw=>cond Zw.1.1 (some (.done (.inr TI))) (some (.next (wr .i64 (TI+1))))) (some (.done (.inl ())))
def jC' (t:ay)(e7:ax)(x81:Int):Option (Fl Int (Sum Unit Int)):=cond (x81<(e7.Neg.length:Int)) ((ak e7.Neg x81).bind λe82=>((ak t.aj e82).bind λe83=>some ((e83.af==8,()),())).bind λb84=>cond b84.1.1 (some (.done (.inr x81))) (some (.next (wr .i64 (x81+1))))) (some (.done (.inl ())))
def ie' (t:ay)(e7:ax)(x91:Int):Option (Fl Int (Sum Unit Int)):=cond (x91<(e7.Neg.length:Int)) ((ak e7.Neg x91).bind λe92=>((ak t.aj e92).bind λe93=>some ((e93.af==9,()),())).bind λb94=>cond b94.1.1 (some (.done (.inr x91))) (some (.next (wr .i64 (x91+1))))) (some (.done (.inl ())))
def iY' (t:ay)(e7:ax)(x101:Int):Option (Fl Int (Sum Unit Int)):=cond (x101<(e7.Neg.length:Int)) ((ak e7.Neg x101).bind λGg'=>((ak t.aj Gg').bind λGh'=>some ((Gh'.af==11,()),())).bind λGi'=>cond Gi'.1.1 (some (.done (.inr x101))) (some (.next (wr .i64 (x101+1))))) (some (.done (.inl ())))
def Pg (t:ay)(l:List ax)(e16:bN)(D7:List Int)(qg:List Int)(x115:List Int)(xM:Int):Option (Fl Int (Sum Unit Bool)):=cond (xM<e16.dB) ((kZ (t.aj,t.dh,()) D7 xM).bind λGj'=>(ou qg x115 xM).bind λGk'=>(kZ (t.aj,t.dh,()) Gk' xM).bind λGl'=>(jf (ax.mk Gj' Gl' false)).bind λGm'=>(rE Gm' l).bind λGn'=>cond Gn' (some (.done (.inr true))) (some (.next (wr .i64 (xM+1))))) (some (.done (.inl ())))
def rO' (e16:bN)(qg:List Int)(qW:(List Int)×Int):Option (Fl ((List Int)×Int) ((List Int)×Int)):=(cond (qW.2<(qg.length:Int)) ((ak qW.1 qW.2).bind λ_=>(qW.1[qW.2.toNat]?).bind λe128=>some (e128==(wr .i64 (e16.dB-1)))) (some false)).bind λGo'=>cond Go' ((ak qW.1 qW.2).bind λ_=>(qW.1[qW.2.toNat]?).bind λ_=>some (.next (qW.1.set qW.2.toNat 0,wr .i64 (qW.2+1)))) (some (.done (qW.1,qW.2)))
def YJ (t:ay)(l:List ax)(e16:bN)(D7:List Int)(qg:List Int)(x115:List Int):Option (Fl (List Int) (Bool×(List Int))):=((iter (Pg t l e16 D7 qg x115) (e16.dB.toNat+1) 0).bind λGp'=>aL (λ_=>some ((false,()),())) (λGq'=>some ((Gq',()),())) Gp').bind λqV=>cond (!qV.1.1) (some (.done (false,x115))) ((iter (rO' e16 qg) ((qg.length:Int).toNat+1) (x115,0)).bind λnu=>cond (nu.2==(qg.length:Int)) (some (.done (true,nu.1))) ((ak nu.1 nu.2).bind λ_=>(nu.1[nu.2.toNat]?).bind λGr'=>(ak nu.1 nu.2).bind λ_=>(nu.1[nu.2.toNat]?).bind λ_=>some (.next (nu.1.set nu.2.toNat (wr .i64 (Gr'+1))))))
def Qd (t:ay)(l:List ax)(Nh:List Int)(sO:List Int)(Ni:List Int)(Iw:Int):Option (Fl Int (Sum Unit Bool)):=cond (Iw<2) ((kZ (t.aj,t.dh,()) Nh Iw).bind λGs'=>(ou sO Ni Iw).bind λGt'=>(kZ (t.aj,t.dh,()) Gt' Iw).bind λGu'=>(jf (ax.mk Gs' Gu' (Iw==1))).bind λGv'=>(rE Gv' l).bind λGw'=>cond Gw' (some (.done (.inr true))) (some (.next (wr .i64 (Iw+1))))) (some (.done (.inl ())))
def yP' (sO:List Int)(qX:(List Int)×Int):Option (Fl ((List Int)×Int) ((List Int)×Int)):=(cond (qX.2<(sO.length:Int)) ((ak qX.1 qX.2).bind λ_=>(qX.1[qX.2.toNat]?).bind λGx'=>some (Gx'==(wr .i64 ((2:Int)-1)))) (some false)).bind λGy'=>cond Gy' ((ak qX.1 qX.2).bind λ_=>(qX.1[qX.2.toNat]?).bind λ_=>some (.next (qX.1.set qX.2.toNat 0,wr .i64 (qX.2+1)))) (some (.done (qX.1,qX.2)))
def YB (t:ay)(l:List ax)(Nh:List Int)(sO:List Int)(Ni:List Int):Option (Fl (List Int) (Bool×(List Int))):=((iter (Qd t l Nh sO Ni) ((2:Int).toNat+1) 0).bind λGz'=>aL (λ_=>some ((false,()),())) (λGA'=>some ((GA',()),())) Gz').bind λD9=>cond (!D9.1.1) (some (.done (false,Ni))) ((iter (yP' sO) ((sO.length:Int).toNat+1) (Ni,0)).bind λog=>cond (og.2==(sO.length:Int)) (some (.done (true,og.1))) ((ak og.1 og.2).bind λ_=>(og.1[og.2.toNat]?).bind λGB'=>(ak og.1 og.2).bind λ_=>(og.1[og.2.toNat]?).bind λ_=>some (.next (og.1.set og.2.toNat (wr .i64 (GB'+1))))))
def Pe (t:ay)(oU:List Int)(Bf:Key)(TJ:Int):Option (Fl Int (Sum Unit Int)):=cond (TJ<(oU.length:Int)) ((ak oU TJ).bind λGC'=>(((ak t.aj GC').bind λGD'=>(Kk GD' Bf).bind λGE'=>some ((GE',()),())).bind λGF'=>some ((GF'.1.1,()),())).bind λGG'=>cond GG'.1.1 (some (.done (.inr TJ))) (some (.next (wr .i64 (TJ+1))))) (some (.done (.inl ())))
def SF (t:ay)(Bf:Key)(Ea:List Int)(Nj:Int):Option (Fl Int (Sum Unit Int)):=cond (Nj<(Ea.length:Int)) ((ak Ea Nj).bind λ_=>(Ea[Nj.toNat]?).bind λe195=>(((ak t.aj e195).bind λGH'=>(Kk GH' Bf).bind λGI'=>some ((GI',()),())).bind λGJ'=>some ((!GJ'.1.1,()),())).bind λGK'=>cond GK'.1.1 (some (.done (.inr Nj))) (some (.next (wr .i64 (Nj+1))))) (some (.done (.inl ())))
def K3 (t:ay)(l:List ax)(oU:List Int)(nA:List Int)(qh:List Key)(Bg:List Int)(Nk:Int):Option (Fl Int (Sum Unit Bool)):=cond (Nk<(qh.length:Int)) ((ak qh Nk).bind λ_=>(qh[Nk.toNat]?).bind λBf=>(ou nA Bg Nk).bind λEa=>(((iter (Pe t oU Bf) ((oU.length:Int).toNat+1) 0).bind λGL'=>aL (λ_=>some (((-1),()),())) (λGM'=>some ((GM',()),())) GL').bind λGN'=>some ((decide (0<=GN'.1.1),()),())).bind λGO'=>(cond GO'.1.1 (some true) ((((iter (SF t Bf Ea) ((Ea.length:Int).toNat+1) 0).bind λGP'=>aL (λ_=>some (((-1),()),())) (λGQ'=>some ((GQ',()),())) GP').bind λGR'=>some ((decide (0<=GR'.1.1),()),())).bind λGS'=>some GS'.1.1)).bind λGT'=>(cond GT' ((JW (t.aj,t.dh,()) oU Bf).bind λGU'=>(JW (t.aj,t.dh,()) Ea Bf).bind λGV'=>(jf (ax.mk GU' GV' false)).bind λGW'=>(rE GW' l).bind λGX'=>some GX') (some false)).bind λGY'=>cond GY' (some (.done (.inr true))) (some (.next (wr .i64 (Nk+1))))) (some (.done (.inl ())))
def Rv (t:ay)(l:List ax)(oU:List Int)(Bh:Int)(Nl:List Int)(Zz:Int):Option (Fl Int (Sum Unit Bool)):=cond (Zz<(Nl.length:Int)) ((ak Nl Zz).bind λe217=>((QD (t.aj,t.dh,()) oU Bh).bind λlJ'=>(ak t.aj e217).bind λe219=>cond (Bh==0) ((jf (ax.mk lJ' ([e219.Rest.1]:List Int) false)).bind λGZ'=>(rE GZ' l).bind λHa'=>some Ha') (cond (Bh==1) ((jf (ax.mk lJ' ([e219.Rest.2]:List Int) false)).bind λHb'=>(rE Hb' l).bind λHc'=>some Hc') none)).bind λHd'=>cond Hd' (some (.done (.inr true))) (some (.next (wr .i64 (Zz+1))))) (some (.done (.inl ())))
def GL (t:ay)(l:List ax)(oU:List Int)(nA:List Int)(qh:List Key)(Bg:List Int)(Bh:Int):Option (Fl Int (Sum Unit Bool)):=cond (Bh<2) ((ou nA Bg (wr .i64 ((qh.length:Int)+Bh))).bind λNl=>(iter (Rv t l oU Bh Nl) ((Nl.length:Int).toNat+1) 0).bind λHe'=>aL (λ_=>some (.next (wr .i64 (Bh+1)))) (λHf'=>some (.done (.inr Hf'))) He') (some (.done (.inl ())))
def oo' (nA:List Int)(qh:List Key)(qY:(List Int)×Int):Option (Fl ((List Int)×Int) ((List Int)×Int)):=(cond (qY.2<(nA.length:Int)) ((ak qY.1 qY.2).bind λ_=>(qY.1[qY.2.toNat]?).bind λe234=>some (e234==(wr .i64 ((wr .i64 ((qh.length:Int)+2))-1)))) (some false)).bind λHg'=>cond Hg' ((ak qY.1 qY.2).bind λ_=>(qY.1[qY.2.toNat]?).bind λ_=>some (.next (qY.1.set qY.2.toNat 0,wr .i64 (qY.2+1)))) (some (.done (qY.1,qY.2)))
def Ya (t:ay)(l:List ax)(oU:List Int)(nA:List Int)(qh:List Key)(Bg:List Int):Option (Fl (List Int) (Bool×(List Int))):=((iter (K3 t l oU nA qh Bg) ((qh.length:Int).toNat+1) 0).bind λHh'=>aL (λ_=>(iter (GL t l oU nA qh Bg) ((2:Int).toNat+1) 0).bind λHi'=>aL (λ_=>some ((false,()),())) (λHj'=>some ((Hj',()),())) Hi') (λHk'=>some ((Hk',()),())) Hh').bind λHl'=>cond (!Hl'.1.1) (some (.done (false,Bg))) ((iter (oo' nA qh) ((nA.length:Int).toNat+1) (Bg,0)).bind λuF=>cond (uF.2==(nA.length:Int)) (some (.done (true,uF.1))) ((ak uF.1 uF.2).bind λ_=>(uF.1[uF.2.toNat]?).bind λe240=>(ak uF.1 uF.2).bind λ_=>(uF.1[uF.2.toNat]?).bind λ_=>some (.next (uF.1.set uF.2.toNat (wr .i64 (e240+1))))))
def cY' (t:ay)(e7:ax)(TL:Int):Option (Fl Int (Sum Unit Int)):=cond (TL<(e7.Neg.length:Int)) ((ak e7.Neg TL).bind λe247=>((ak t.aj e247).bind λe248=>some ((e248.af==15,()),())).bind λHm'=>cond Hm'.1.1 (some (.done (.inr TL))) (some (.next (wr .i64 (TL+1))))) (some (.done (.inl ())))
def FQ (t:ay)(l:List ax)(e16:bN)(oV:List Int)(e259:Int)(Iy:List Int)(Nn:Int):Option (Fl Int (Sum Unit Bool)):=cond (Nn<e16.dB) ((ak t.aj e259).bind λe264=>(ak e264.ai Nn).bind λHn'=>(ou oV Iy Nn).bind λHo'=>(kZ (t.aj,t.dh,()) Ho' Nn).bind λHp'=>(jf (ax.mk ([Hn']:List Int) Hp' false)).bind λHq'=>(rE Hq' l).bind λHr'=>cond Hr' (some (.done (.inr true))) (some (.next (wr .i64 (Nn+1))))) (some (.done (.inl ())))
def rj' (e16:bN)(oV:List Int)(qZ:(List Int)×Int):Option (Fl ((List Int)×Int) ((List Int)×Int)):=(cond (qZ.2<(oV.length:Int)) ((ak qZ.1 qZ.2).bind λ_=>(qZ.1[qZ.2.toNat]?).bind λe283=>some (e283==(wr .i64 ((wr .i64 (e16.dB+1))-1)))) (some false)).bind λHs'=>cond Hs' ((ak qZ.1 qZ.2).bind λ_=>(qZ.1[qZ.2.toNat]?).bind λ_=>some (.next (qZ.1.set qZ.2.toNat 0,wr .i64 (qZ.2+1)))) (some (.done (qZ.1,qZ.2)))
def Ps (t:ay)(l:List ax)(e16:bN)(oV:List Int)(e259:Int)(Iy:List Int):Option (Fl (List Int) (Bool×(List Int))):=(((iter (FQ t l e16 oV e259 Iy) (e16.dB.toNat+1) 0).bind λHt'=>aL (λ_=>(ou oV Iy e16.dB).bind λBj=>cond ((Bj.length:Int)==0) (some ((false,()),())) ((kZ (t.aj,t.dh,()) Bj e16.dB).bind λNp=>(ak t.aj e259).bind λe275=>(ak e275.ai e16.dB).bind λNq=>(jf (ax.mk Np ([Nq]:List Int) false)).bind λNr=>(rE Nr l).bind λNs=>some ((Ns,()),()))) (λHu'=>some ((Hu',()),())) Ht').bind λHv'=>some ((Hv'.1.1,()),())).bind λHw'=>cond (!Hw'.1.1) (some (.done (false,Iy))) ((iter (rj' e16 oV) ((oV.length:Int).toNat+1) (Iy,0)).bind λuG=>cond (uG.2==(oV.length:Int)) (some (.done (true,uG.1))) ((ak uG.1 uG.2).bind λ_=>(uG.1[uG.2.toNat]?).bind λe289=>(ak uG.1 uG.2).bind λ_=>(uG.1[uG.2.toNat]?).bind λ_=>some (.next (uG.1.set uG.2.toNat (wr .i64 (e289+1))))))
def Jd (t:ay)(l:List ax)(n:Nat)(e16:bN)(oV:List Int)(Nt:List Int)(TM:Int):Option (Fl Int (Sum Unit Int)):=cond (TM<(Nt.length:Int)) ((ak Nt TM).bind λe259=>(((cond ((wr .i64 (e16.dB+1))==0) (some (decide (0<(oV.length:Int)))) (some false)).bind λNu=>cond Nu (some ((true,()),())) ((jY (oV.length:Int) (oV.length:Int) 8).bind λNv=>(iter (Ps t l e16 oV e259) n (Ll' Nv (0:Int))).bind λNw=>some ((Nw.1,()),()))).bind λZA=>some ((ZA.1.1,()),())).bind λHx'=>cond Hx'.1.1 (some (.done (.inr TM))) (some (.next (wr .i64 (TM+1))))) (some (.done (.inl ())))
def BI (t:ay)(l:List ax)(n:Nat)(e7:ax)(iy:List bN)(mF:Int):Option (Fl Int (Sum Unit Int)):=cond (mF<(iy.length:Int)) ((ak iy mF).bind λ_=>(iy[mF.toNat]?).bind λe16=>((GR e16 t e7).bind λgP=>(cond gP ((cond (e16.af==1) ((Qs (t.aj,t.dh,()) e7).bind λvW=>some ((vW,()),())) (cond (e16.af==2) (((((iter (gl' t e7) ((e7.Neg.length:Int).toNat+1) 0).bind λvT=>aL (λ_=>some (((-1),()),())) (λy25=>some ((y25,()),())) vT).bind λMZ=>some ((decide (0<=MZ.1.1),()),())).bind λIu=>some ((Iu.1.1,()),())).bind λxL=>(cond xL.1.1 (some true) (((iter (dD' t e7) ((e7.Pos.length:Int).toNat+1) (false,0,(⟨#[]⟩:ByteArray))).bind λZB=>aL (λx34=>(cond x34.1 ((((iter (ia' t e7 x34) ((e7.Neg.length:Int).toNat+1) 0).bind λZr=>aL (λ_=>some (((-1),()),())) (λy44=>some ((y44,()),())) Zr).bind λb45=>some ((decide (0<=b45.1.1),()),())).bind λb46=>some b46.1.1) (some false)).bind λZC=>some ((ZC,()),())) (λZE=>some ((ZE.1,()),())) ZB).bind λM4=>some M4.1.1)).bind λq49=>some ((q49,()),())) (cond (e16.af==3) (((((iter (fN' t e7) ((e7.Neg.length:Int).toNat+1) 0).bind λb54=>aL (λ_=>some (((-1),()),())) (λy56=>some ((y56,()),())) b54).bind λZn=>some ((decide (0<=Zn.1.1),()),())).bind λZv=>some ((Zv.1.1,()),())).bind λb59=>(cond b59.1.1 (some true) (((iter (dZ' t e7) ((e7.Pos.length:Int).toNat+1) (false,0,(⟨#[]⟩:ByteArray))).bind λb64=>aL (λTH=>(cond TH.1 ((((iter (dc' t e7 TH) ((e7.Neg.length:Int).toNat+1) 0).bind λZx=>aL (λ_=>some (((-1),()),())) (λy75=>some ((y75,()),())) Zx).bind λb76=>some ((decide (0<=b76.1.1),()),())).bind λb77=>some b77.1.1) (some false)).bind λq78=>some ((q78,()),())) (λy66=>some ((y66.1,()),())) b64).bind λb79=>some b79.1.1)).bind λq80=>some ((q80,()),())) (cond (e16.af==4) (((((iter (jC' t e7) ((e7.Neg.length:Int).toNat+1) 0).bind λZo=>aL (λ_=>some (((-1),()),())) (λD6=>some ((D6,()),())) Zo).bind λqf=>some ((decide (0<=qf.1.1),()),())).bind λb89=>some ((b89.1.1,()),())).bind λb90=>some ((b90.1.1,()),())) (cond (e16.af==5) (((((iter (ie' t e7) ((e7.Neg.length:Int).toNat+1) 0).bind λqQ=>aL (λ_=>some (((-1),()),())) (λy97=>some ((y97,()),())) qQ).bind λb98=>some ((decide (0<=b98.1.1),()),())).bind λb99=>some ((b99.1.1,()),())).bind λD8=>some ((D8.1.1,()),())) (cond (e16.af==6) (((((iter (iY' t e7) ((e7.Neg.length:Int).toNat+1) 0).bind λHT'=>aL (λ_=>some (((-1),()),())) (λHU'=>some ((HU',()),())) HT').bind λHV'=>some ((decide (0<=HV'.1.1),()),())).bind λHW'=>some ((HW'.1.1,()),())).bind λb110=>(cond b110.1.1 (some true) ((kH e16 t e7.Pos 10).bind λD7=>(kH e16 t e7.Neg 10).bind λqg=>(((cond (e16.dB==0) (some (decide (0<(qg.length:Int)))) (some false)).bind λHX'=>cond HX' (some ((true,()),())) ((jY (qg.length:Int) (qg.length:Int) 8).bind λHY'=>(iter (YJ t l e16 D7 qg) n (Ll' HY' (0:Int))).bind λHZ'=>some ((HZ'.1,()),()))).bind λZp=>some ((Zp.1.1,()),())).bind λZy=>some Zy.1.1)).bind λIa'=>some ((Ia',()),())) (cond (e16.af==7) ((kH e16 t e7.Pos 12).bind λNh=>(kH e16 t e7.Neg 12).bind λsO=>(((cond ((2:Int)==0) (some (decide (0<(sO.length:Int)))) (some false)).bind λIb'=>cond Ib' (some ((true,()),())) ((jY (sO.length:Int) (sO.length:Int) 8).bind λIc'=>(iter (YB t l Nh sO) n (Ll' Ic' (0:Int))).bind λIe'=>some ((Ie'.1,()),()))).bind λIf'=>some ((If'.1.1,()),())).bind λIg'=>some ((Ig'.1.1,()),())) (cond (e16.af==8) ((kH e16 t e7.Pos 13).bind λoU=>(kH e16 t e7.Neg 13).bind λnA=>((iY 8 oU).bind λlK'=>(aT (lK'.length+nA.length) 8).bind λ_=>(Si (t.aj,t.dh,()) (lK'++nA)).bind λqh=>((cond ((wr .i64 ((qh.length:Int)+2))==0) (some (decide (0<(nA.length:Int)))) (some false)).bind λIh'=>cond Ih' (some ((true,()),())) ((jY (nA.length:Int) (nA.length:Int) 8).bind λIi'=>(iter (Ya t l oU nA qh) n (Ll' Ii' (0:Int))).bind λIj'=>some ((Ij'.1,()),()))).bind λIk'=>some ((Ik'.1.1,()),())).bind λIl'=>some ((Il'.1.1,()),())) (((((iter (cY' t e7) ((e7.Neg.length:Int).toNat+1) 0).bind λIm'=>aL (λ_=>some (((-1),()),())) (λIo'=>some ((Io',()),())) Im').bind λIp'=>some ((decide (0<=Ip'.1.1),()),())).bind λIq'=>some ((Iq'.1.1,()),())).bind λIr'=>(cond Ir'.1.1 (some true) ((kH e16 t e7.Pos 14).bind λoV=>(kH e16 t e7.Neg 14).bind λNt=>((((iter (Jd t l n e16 oV Nt) ((Nt.length:Int).toNat+1) 0).bind λIs'=>aL (λ_=>some (((-1),()),())) (λIt'=>some ((It',()),())) Is').bind λIu'=>some ((decide (0<=Iu'.1.1),()),())).bind λIv'=>some ((Iv'.1.1,()),())).bind λIw'=>some Iw'.1.1)).bind λIx'=>some ((Ix',()),())))))))))).bind λNy=>some (!Ny.1.1)) (some false)).bind λNz=>some ((Nz,()),())).bind λZF=>cond ZF.1.1 (some (.done (.inr mF))) (some (.next (wr .i64 (mF+1))))) (some (.done (.inl ())))
def Bu (t:ay)(l:List ax)(n:Nat)(r4:List ax)(x5:Int):Option (Fl Int (Sum Unit Int)):=cond (x5<(r4.length:Int)) ((ak r4 x5).bind λ_=>(r4[x5.toNat]?).bind λe7=>((((Ce e7.Pos e7.Neg).bind λr8=>cond r8 (some true) ((yQ t e7.Pos).bind λr9=>(yQ t e7.Neg).bind λfE=>(Gl r9 fE).bind λiA=>some iA)).bind λb12=>cond b12 (some ((true,()),())) ((Ld).bind λiy=>(((iter (BI t l n e7 iy) ((iy.length:Int).toNat+1) 0).bind λIy'=>aL (λ_=>some (((-1),()),())) (λIz'=>some ((Iz',()),())) Iy').bind λIA'=>some ((decide (0<=IA'.1.1),()),())).bind λIB'=>some ((!IB'.1.1,()),()))).bind λIC'=>some ((!IC'.1.1,()),())).bind λID'=>cond ID'.1.1 (some (.done (.inr x5))) (some (.next (wr .i64 (x5+1))))) (some (.done (.inl ())))
def Fa (n:Nat)(t:ay)(l:List ax)(g:ax):Option Bool:=(Lv n t l).bind λr1=>(cond (!r1) (some true) ((yM t g).bind λr2=>some (!r2))).bind λq3=>cond q3 (some false) (((Ht n t g).bind λr4=>(((iter (Bu t l n r4) ((r4.length:Int).toNat+1) 0).bind λIE'=>aL (λ_=>some (((-1),()),())) (λIF'=>some ((IF',()),())) IE').bind λIG'=>some ((decide (0<=IG'.1.1),()),())).bind λIH'=>some ((!IH'.1.1,()),())).bind λII'=>some II'.1.1)
def Uc (n:Nat)(c:ax)(gN:ay)(aQ:qO):Option Bool:=(Fa n gN aQ.MN c).bind λr1=>some (!r1)
def F7 (n:Nat)(t:ay)(g:ax)(r:qO):Option Bool:=(Lv n t r.MN).bind λr1=>(cond (!r1) (some true) ((yM t g).bind λr2=>some (!r2))).bind λq3=>(cond q3 (some true) ((FH r.MN g).bind λr4=>some (!r4))).bind λq5=>cond q5 (some false) ((EP r.MN (λz6=>(Uc n z6 t r).bind λr7=>some r7)).bind λr8=>some (!r8))
def CP (n:Nat):Option Bool:=(U2 n (ay.mk ([aF.mk 10 0 0 (⟨#[]⟩:ByteArray) ([0]:List Int) ([]:List dm) (0,0),aF.mk 9 0 0 (⟨#[]⟩:ByteArray) ([]:List Int) ([]:List dm) (0,0)]:List aF) 0) (ax.mk ([0]:List Int) ([]:List Int) false)).bind λr1=>(U2 n (ay.mk ([aF.mk 10 0 0 (⟨#[]⟩:ByteArray) ([0]:List Int) ([]:List dm) (0,0),aF.mk 9 0 0 (⟨#[]⟩:ByteArray) ([]:List Int) ([]:List dm) (0,0)]:List aF) 0) (ax.mk ([1]:List Int) ([]:List Int) false)).bind λr2=>(cond (r1.2==0) ((F7 n (ay.mk ([aF.mk 10 0 0 (⟨#[]⟩:ByteArray) ([0]:List Int) ([]:List dm) (0,0),aF.mk 9 0 0 (⟨#[]⟩:ByteArray) ([]:List Int) ([]:List dm) (0,0)]:List aF) 0) (ax.mk ([0]:List Int) ([]:List Int) false) r1.1).bind λr3=>some r3) (some false)).bind λq4=>(cond q4 ((F7 n (ay.mk ([aF.mk 10 0 0 (⟨#[]⟩:ByteArray) ([0]:List Int) ([]:List dm) (0,0),aF.mk 9 0 0 (⟨#[]⟩:ByteArray) ([]:List Int) ([]:List dm) (0,0)]:List aF) 0) (ax.mk ([0]:List Int) ([]:List Int) false) (qO.mk ([]:List ax))).bind λr5=>some (!r5)) (some false)).bind λq6=>(cond q6 (some (r2.2==11)) (some false)).bind λq7=>some q7
def dQ (s:aA)(nC:Int):Option (Int×aA):=(cond (nC<1) (some true) (some (decide ((s.L.length:Int)<=s.At)))).bind λq1=>cond q1 (some (0,s)) ((ak s.L s.At).bind λe2=>(BR e2 nC).bind λd3=>cond (d3<0) (some (wr .i64 (d3+nC),aA.mk s.L (wr .i64 (s.At+1)))) (some (d3,aA.mk s.L (wr .i64 (s.At+1)))))
def Du (s:aA):Option (ByteArray×aA):=(dQ s 4).bind λr1=>(ak ([(⟨#[97]⟩:ByteArray),(⟨#[98]⟩:ByteArray),(⟨#[111,107]⟩:ByteArray),(⟨#[101,114,114,111,114]⟩:ByteArray)]:List ByteArray) r1.1).bind λ_=>(([(⟨#[97]⟩:ByteArray),(⟨#[98]⟩:ByteArray),(⟨#[111,107]⟩:ByteArray),(⟨#[101,114,114,111,114]⟩:ByteArray)]:List ByteArray)[r1.1.toNat]?).bind λe3=>some (e3,r1.2)
def Dp (s:aA):Option (ByteArray×aA):=(dQ s 4).bind λr1=>(ak ([(⟨#[]⟩:ByteArray),(⟨#[115]⟩:ByteArray),(⟨#[120,32,121]⟩:ByteArray),(⟨#[97]⟩:ByteArray)]:List ByteArray) r1.1).bind λ_=>(([(⟨#[]⟩:ByteArray),(⟨#[115]⟩:ByteArray),(⟨#[120,32,121]⟩:ByteArray),(⟨#[97]⟩:ByteArray)]:List ByteArray)[r1.1.toNat]?).bind λe3=>some (e3,r1.2)
def EO (s:aA):Option (ByteArray×aA):=(dQ s 3).bind λr1=>(ak ([(⟨#[65]⟩:ByteArray),(⟨#[66]⟩:ByteArray),(⟨#[67]⟩:ByteArray)]:List ByteArray) r1.1).bind λ_=>(([(⟨#[65]⟩:ByteArray),(⟨#[66]⟩:ByteArray),(⟨#[67]⟩:ByteArray)]:List ByteArray)[r1.1.toNat]?).bind λe3=>some (e3,r1.2)
def Om (from_:Int)(ZG:Int)(x1:Int×(List Int)×aA):Option (Fl (Int×(List Int)×aA) ((List Int)×aA)):=cond (0<x1.1) ((dQ x1.2.2 (wr .i64 (ZG-from_))).bind λr2=>(aT (x1.2.1.length+([wr .i64 (from_+r2.1)]:List Int).length) 8).bind λ_=>some (.next (wr .i64 (x1.1-1),x1.2.1++([wr .i64 (from_+r2.1)]:List Int),r2.2))) (some (.done (x1.2.1,x1.2.2)))
def mq (s:aA)(many:Int)(from_:Int)(ZG:Int):Option ((List Int)×aA):=(iter (Om from_ ZG) (many.toNat+2) (many,[],s)).bind λb4=>some (b4.1,b4.2)
def H7 (nC:Int)(x3:Int×aA×(Int×Int×Int×ByteArray×(List Int)×(List dm)×Int×Int)):Option (Fl (Int×aA×(Int×Int×Int×ByteArray×(List Int)×(List dm)×Int×Int)) (aA×(Int×Int×Int×ByteArray×(List Int)×(List dm)×Int×Int))):=cond (x3.1<3) (((dQ x3.2.1 2).bind λr4=>cond (r4.1==1) ((ak ([Key.mk 0 (⟨#[97]⟩:ByteArray),Key.mk 0 (⟨#[98]⟩:ByteArray),Key.mk 1 (⟨#[115]⟩:ByteArray)]:List Key) x3.1).bind λe5=>(dQ r4.2 nC).bind λr6=>(dQ r6.2 2).bind λr7=>(aT (x3.2.2.2.2.2.2.2.1.length+([dm.mk e5 r6.1 (r7.1==1)]:List dm).length) 40).bind λ_=>some (r7.2,(x3.2.2.1,x3.2.2.2.1,x3.2.2.2.2.1,x3.2.2.2.2.2.1,x3.2.2.2.2.2.2.1,x3.2.2.2.2.2.2.2.1++([dm.mk e5 r6.1 (r7.1==1)]:List dm),x3.2.2.2.2.2.2.2.2.1,x3.2.2.2.2.2.2.2.2.2))) (some (r4.2,(x3.2.2.1,x3.2.2.2.1,x3.2.2.2.2.1,x3.2.2.2.2.2.1,x3.2.2.2.2.2.2.1,x3.2.2.2.2.2.2.2.1,x3.2.2.2.2.2.2.2.2.1,x3.2.2.2.2.2.2.2.2.2)))).bind λb9=>some (.next (wr .i64 (x3.1+1),b9.1,(b9.2.1,b9.2.2.1,b9.2.2.2.1,b9.2.2.2.2.1,b9.2.2.2.2.2.1,b9.2.2.2.2.2.2.1,b9.2.2.2.2.2.2.2.1,b9.2.2.2.2.2.2.2.2)))) (some (.done (x3.2.1,(x3.2.2.1,x3.2.2.2.1,x3.2.2.2.2.1,x3.2.2.2.2.2.1,x3.2.2.2.2.2.2.1,x3.2.2.2.2.2.2.2.1,x3.2.2.2.2.2.2.2.2.1,x3.2.2.2.2.2.2.2.2.2))))
def QY (s:aA)(nC:Int):Option (aF×aA):=(dQ s nC).bind λr1=>(dQ r1.2 nC).bind λr2=>(iter (H7 nC) ((3:Int).toNat+1) (0,r2.2,(13,0,0,(⟨#[]⟩:ByteArray),[],[],r1.1,r2.1))).bind λb10=>some (aF.mk b10.2.1 b10.2.2.1 b10.2.2.2.1 b10.2.2.2.2.1 b10.2.2.2.2.2.1 b10.2.2.2.2.2.2.1 (b10.2.2.2.2.2.2.2.1,b10.2.2.2.2.2.2.2.2),b10.1)
def Oo (d:aA)(t:Int)(aQ:Int):Option (aF×aA):=(cond (t==(wr .i64 (aQ-1))) (some 14) (some 18)).bind λ(b1:Int)=>(dQ d b1).bind λr2=>cond (r2.1==0) ((dQ r2.2 5).bind λr3=>(ak ([(-9223372036854775808),0,1,2,9223372036854775807]:List Int) r3.1).bind λ_=>(([(-9223372036854775808),0,1,2,9223372036854775807]:List Int)[r3.1.toNat]?).bind λe5=>(dQ r3.2 (wr .i64 (5-r3.1))).bind λr6=>(ak ([(-9223372036854775808),0,1,2,9223372036854775807]:List Int) (wr .i64 (r3.1+r6.1))).bind λ_=>(([(-9223372036854775808),0,1,2,9223372036854775807]:List Int)[(wr .i64 (r3.1+r6.1)).toNat]?).bind λe8=>some (aF.mk 3 e5 e8 (⟨#[]⟩:ByteArray) ([]:List Int) ([]:List dm) (0,0),r6.2)) (cond (r2.1==1) ((Du r2.2).bind λr9=>some (aF.mk 6 0 0 r9.1 ([]:List Int) ([]:List dm) (0,0),r9.2)) (cond (r2.1==2) (some (aF.mk 7 0 0 (⟨#[]⟩:ByteArray) ([]:List Int) ([]:List dm) (0,0),r2.2)) (cond (r2.1==3) ((Dp r2.2).bind λfE=>some (aF.mk 4 0 0 fE.1 ([]:List Int) ([]:List dm) (0,0),fE.2)) (cond (r2.1==4) ((dQ r2.2 4).bind λiA=>(ak ([5,8,11,15]:List Int) iA.1).bind λ_=>(([5,8,11,15]:List Int)[iA.1.toNat]?).bind λe13=>some (aF.mk e13 0 0 (⟨#[]⟩:ByteArray) ([]:List Int) ([]:List dm) (0,0),iA.2)) (cond (r2.1==5) (some (aF.mk 9 0 0 (⟨#[]⟩:ByteArray) ([]:List Int) ([]:List dm) (0,0),r2.2)) (cond (r2.1==6) ((dQ r2.2 2).bind λoP=>(ak ([2,1]:List Int) oP.1).bind λ_=>(([2,1]:List Int)[oP.1.toNat]?).bind λe16=>some (aF.mk e16 0 0 (⟨#[]⟩:ByteArray) ([]:List Int) ([]:List dm) (0,0),oP.2)) (cond (r2.1==7) ((EO r2.2).bind λgP=>some (aF.mk 19 0 0 gP.1 ([]:List Int) ([]:List dm) (0,0),gP.2)) ((cond (r2.1==8) (some (r2.1==8)) (some (r2.1==9))).bind λb18=>cond b18 ((dQ r2.2 3).bind λsP=>(mq sP.2 sP.1 0 aQ).bind λl6=>some (aF.mk 10 0 0 (⟨#[]⟩:ByteArray) l6.1 ([]:List dm) (0,0),l6.2)) (cond (r2.1==10) ((mq r2.2 2 0 aQ).bind λoQ=>some (aF.mk 12 0 0 (⟨#[]⟩:ByteArray) oQ.1 ([]:List dm) (0,0),oQ.2)) (cond (r2.1==11) ((QY r2.2 aQ).bind λTN=>some (TN.1,TN.2)) ((cond (r2.1==12) (some (r2.1==12)) (some (r2.1==13))).bind λvT=>cond vT ((dQ r2.2 3).bind λNA=>(mq NA.2 (wr .i64 (1+NA.1)) 0 aQ).bind λuD=>some (aF.mk 14 0 0 (⟨#[]⟩:ByteArray) uD.1 ([]:List dm) (0,0),uD.2)) (cond (r2.1==14) ((mq r2.2 1 (wr .i64 (t+1)) aQ).bind λqi=>some (aF.mk 18 0 0 (⟨#[]⟩:ByteArray) qi.1 ([]:List dm) (0,0),qi.2)) (cond (r2.1==15) ((mq r2.2 2 (wr .i64 (t+1)) aQ).bind λuH=>some (aF.mk 17 0 0 (⟨#[]⟩:ByteArray) uH.1 ([]:List dm) (0,0),uH.2)) ((dQ r2.2 2).bind λqc=>(mq qc.2 (wr .i64 (2+qc.1)) (wr .i64 (t+1)) aQ).bind λNC=>some (aF.mk 16 0 0 (⟨#[]⟩:ByteArray) NC.1 ([]:List dm) (0,0),NC.2)))))))))))))))
def Jl (nC:Int)(x1:Int×aA×((List aF)×Int)):Option (Fl (Int×aA×((List aF)×Int)) (aA×((List aF)×Int))):=cond (x1.1<(max nC 1)) ((Oo x1.2.1 x1.1 (max nC 1)).bind λr2=>(aT (x1.2.2.1.length+([r2.1]:List aF).length) 104).bind λ_=>some (.next (wr .i64 (x1.1+1),r2.2,(x1.2.2.1++([r2.1]:List aF),x1.2.2.2)))) (some (.done (x1.2.1,(x1.2.2.1,x1.2.2.2))))
def Jw (s:aA)(nC:Int):Option (ay×aA):=(iter (Jl nC) ((max nC 1).toNat+1) (0,s,([],0))).bind λb4=>some (ay.mk b4.2.1 b4.2.2,b4.1)
def Gt (s:aA):Option (Int×aA):=(dQ s 10).bind λr1=>(ak ([0,1,(-1),2,3,(-2),7,(-9223372036854775808),9223372036854775807,10]:List Int) r1.1).bind λ_=>(([0,1,(-1),2,3,(-2),7,(-9223372036854775808),9223372036854775807,10]:List Int)[r1.1.toNat]?).bind λe3=>some (e3,r1.2)
def KY (eU:Int):Option Val:=some (Val.mk 1 eU (⟨#[]⟩:ByteArray) ([]:List Val) ([]:List Key) ([]:List aD) ([]:List ByteArray))
def CY (s:ByteArray):Option Val:=some (Val.mk 3 0 s ([]:List Val) ([]:List Key) ([]:List aD) ([]:List ByteArray))
def Bq (s:ByteArray):Option Val:=some (Val.mk 2 0 s ([]:List Val) ([]:List Key) ([]:List aD) ([]:List ByteArray))
def EF (eU:Int):Option Val:=some (Val.mk 4 eU (⟨#[]⟩:ByteArray) ([]:List Val) ([]:List Key) ([]:List aD) ([]:List ByteArray))
def qB:Option Val:=some (Val.mk 5 0 (⟨#[]⟩:ByteArray) ([]:List Val) ([]:List Key) ([]:List aD) ([]:List ByteArray))
def Av (l:List Val):Option (List Val):=(aT (0+l.length) 128).bind λ_=>some l
def Aj (l:List Val):Option Val:=(Av l).bind λr1=>some (Val.mk 6 0 (⟨#[]⟩:ByteArray) r1 ([]:List Key) ([]:List aD) ([]:List ByteArray))
def rO (s:aA):Option (Val×aA):=(dQ s 6).bind λr1=>cond (r1.1==0) ((Gt r1.2).bind λr2=>(KY r2.1).bind λr3=>some (r3,r2.2)) (cond (r1.1==1) ((Du r1.2).bind λr4=>(CY r4.1).bind λr5=>some (r5,r4.2)) (cond (r1.1==2) ((Dp r1.2).bind λr6=>(Bq r6.1).bind λr7=>some (r7,r6.2)) (cond (r1.1==3) ((dQ r1.2 3).bind λr8=>(EF r8.1).bind λr9=>some (r9,r8.2)) (cond (r1.1==4) ((qB).bind λfE=>some (fE,r1.2)) ((Aj ([]:List Val)).bind λiA=>some (iA,r1.2))))))
def E9 (c:Int):Option Bool:=(cond (97<=c) (some (decide (c<=122))) (some false)).bind λq1=>some q1
def JU (c:Int):Option Bool:=(cond (48<=c) (some (decide (c<=57))) (some false)).bind λq1=>some q1
def YC (s:ByteArray)(x5:Int):Option (Fl Int (Sum Unit Bool)):=cond (x5<(s.size:Int)) ((mD s x5).bind λe6=>(E9 (e6.toNat:Int)).bind λr7=>(cond (!r7) ((mD s x5).bind λe8=>(JU (e8.toNat:Int)).bind λr9=>some (!r9)) (some false)).bind λsF=>(cond sF ((mD s x5).bind λe11=>some ((e11.toNat:Int) != 95)) (some false)).bind λvS=>cond vS (some (.done (.inr false))) (some (.next (wr .i64 (x5+1))))) (some (.done (.inl ())))
def FP (s:ByteArray):Option Bool:=(cond ((s.size:Int)<1) (some true) (some (decide (16<(s.size:Int))))).bind λq1=>(cond q1 (some true) ((mD s 0).bind λe2=>(E9 (e2.toNat:Int)).bind λr3=>some (!r3))).bind λq4=>cond q4 (some false) ((iter (YC s) ((s.size:Int).toNat+1) 1).bind λb13=>aL (λ_=>some true) (λZH=>some ZH) b13)
def H8 (k:Key):Option Bool:=(cond (k.af==0) ((FP k.Text).bind λr1=>some r1) (some false)).bind λq2=>(cond q2 (some true) ((cond (k.af==1) (some (decide ((k.Text.size:Int)<=64))) (some false)).bind λq3=>some q3)).bind λq4=>some q4
def Fq (a:Int)(b:Int):Option Int:=cond (a<b) (some (-1)) (cond (b<a) (some 1) (some 0))
def Ab (a:ByteArray)(b:ByteArray):Option Int:=cond (jI a b) (some (-1)) (cond (!(jI a b||bU a b)) (some 1) (some 0))
def zT (a:Key)(b:Key):Option Int:=cond (a.af != b.af) ((Fq a.af b.af).bind λr1=>some r1) ((Ab a.Text b.Text).bind λr2=>some r2)
def Aq (d:List Key)(x1:Int×(Int×Int×ByteArray×(List Val)×(List Key)×(List aD)×(List ByteArray))):Option (Fl (Int×(Int×Int×ByteArray×(List Val)×(List Key)×(List aD)×(List ByteArray))) (Sum (Int×Int×ByteArray×(List Val)×(List Key)×(List aD)×(List ByteArray)) (Int×(Int×Int×ByteArray×(List Val)×(List Key)×(List aD)×(List ByteArray))))):=cond (x1.1<(d.length:Int)) ((ak d x1.1).bind λe2=>(H8 e2).bind λr3=>cond (!r3) (some (.done (.inr (1,(0,0,(⟨#[]⟩:ByteArray),[],[],[],[]))))) (some (.next (wr .i64 (x1.1+1),(x1.2.1,x1.2.2.1,x1.2.2.2.1,x1.2.2.2.2.1,x1.2.2.2.2.2.1,x1.2.2.2.2.2.2.1,x1.2.2.2.2.2.2.2))))) (some (.done (.inl (x1.2.1,x1.2.2.1,x1.2.2.2.1,x1.2.2.2.2.1,x1.2.2.2.2.2.1,x1.2.2.2.2.2.2.1,x1.2.2.2.2.2.2.2))))
def QV (d:List Key)(x7:Int×(Int×Int×ByteArray×(List Val)×(List Key)×(List aD)×(List ByteArray))×(Int×Int×ByteArray×(List Val)×(List Key)×(List aD)×(List ByteArray)))(x8:Int):Option (Fl Int Int):=(cond (x8<(x7.2.2.2.2.2.2.1.length:Int)) ((ak x7.2.2.2.2.2.2.1 x8).bind λe9=>(ak d x7.1).bind λe10=>(zT e9 e10).bind λiA=>some (decide (iA<0))) (some false)).bind λvS=>cond vS (some (.next (wr .i64 (x8+1)))) (some (.done x8))
def yD (d:List Key)(t:List Val)(x7:Int×(Int×Int×ByteArray×(List Val)×(List Key)×(List aD)×(List ByteArray))×(Int×Int×ByteArray×(List Val)×(List Key)×(List aD)×(List ByteArray))):Option (Fl (Int×(Int×Int×ByteArray×(List Val)×(List Key)×(List aD)×(List ByteArray))×(Int×Int×ByteArray×(List Val)×(List Key)×(List aD)×(List ByteArray))) (Sum ((Int×Int×ByteArray×(List Val)×(List Key)×(List aD)×(List ByteArray))×(Int×Int×ByteArray×(List Val)×(List Key)×(List aD)×(List ByteArray))) (Int×(Int×Int×ByteArray×(List Val)×(List Key)×(List aD)×(List ByteArray))×(Int×Int×ByteArray×(List Val)×(List Key)×(List aD)×(List ByteArray))))):=cond (x7.1<(d.length:Int)) ((iter (QV d x7) ((x7.2.2.2.2.2.2.1.length:Int).toNat+1) 0).bind λb13=>(cond (b13<(x7.2.2.2.2.2.2.1.length:Int)) ((ak x7.2.2.2.2.2.2.1 b13).bind λe14=>(ak d x7.1).bind λe15=>some (rV e14 e15)) (some false)).bind λq16=>cond q16 (some (.done (.inr (6,(0,0,(⟨#[]⟩:ByteArray),[],[],[],[]),(x7.2.2.1,x7.2.2.2.1,x7.2.2.2.2.1,x7.2.2.2.2.2.1,x7.2.2.2.2.2.2.1,x7.2.2.2.2.2.2.2.1,x7.2.2.2.2.2.2.2.2))))) ((cut x7.2.2.2.2.2.2.1 0 b13).bind λTP=>(aT (0+TP.length) 24).bind λ_=>(cut x7.2.2.2.2.2.1 0 b13).bind λBl=>(Av Bl).bind λl6=>(ak d x7.1).bind λe21=>(aT (TP.length+([e21]:List Key).length) 24).bind λ_=>(cut x7.2.2.2.2.2.2.1 b13 (x7.2.2.2.2.2.2.1.length:Int)).bind λy23=>(aT ((TP++([e21]:List Key)).length+y23.length) 24).bind λ_=>(ak t x7.1).bind λe25=>(aT (l6.length+([e25]:List Val).length) 128).bind λ_=>(cut x7.2.2.2.2.2.1 b13 (x7.2.2.2.2.2.1.length:Int)).bind λy27=>(aT ((l6++([e25]:List Val)).length+y27.length) 128).bind λ_=>some (.next (wr .i64 (x7.1+1),(x7.2.1.1,x7.2.1.2.1,x7.2.1.2.2.1,x7.2.1.2.2.2.1,x7.2.1.2.2.2.2.1,x7.2.1.2.2.2.2.2.1,x7.2.1.2.2.2.2.2.2),(x7.2.2.1,x7.2.2.2.1,x7.2.2.2.2.1,(l6++([e25]:List Val))++y27,(TP++([e21]:List Key))++y23,x7.2.2.2.2.2.2.2.1,x7.2.2.2.2.2.2.2.2))))) (some (.done (.inl ((x7.2.1.1,x7.2.1.2.1,x7.2.1.2.2.1,x7.2.1.2.2.2.1,x7.2.1.2.2.2.2.1,x7.2.1.2.2.2.2.2.1,x7.2.1.2.2.2.2.2.2),(x7.2.2.1,x7.2.2.2.1,x7.2.2.2.2.1,x7.2.2.2.2.2.1,x7.2.2.2.2.2.2.1,x7.2.2.2.2.2.2.2.1,x7.2.2.2.2.2.2.2.2)))))
def vJ (d:List Key)(t:List Val):Option (Val×Int):=cond ((d.length:Int) != (t.length:Int)) (some (Val.mk 0 0 (⟨#[]⟩:ByteArray) ([]:List Val) ([]:List Key) ([]:List aD) ([]:List ByteArray),1)) ((iter (Aq d) ((d.length:Int).toNat+1) (0,(0,0,(⟨#[]⟩:ByteArray),[],[],[],[]))).bind λ(b4:Sum (Int×Int×ByteArray×(List Val)×(List Key)×(List aD)×(List ByteArray)) (Int×(Int×Int×ByteArray×(List Val)×(List Key)×(List aD)×(List ByteArray))))=>aL (λx5=>(iter (yD d t) ((d.length:Int).toNat+1) (0,(x5.1,x5.2.1,x5.2.2.1,x5.2.2.2.1,x5.2.2.2.2.1,x5.2.2.2.2.2.1,x5.2.2.2.2.2.2),(8,0,(⟨#[]⟩:ByteArray),([]:List Val),([]:List Key),[],[]))).bind λ(MU:Sum ((Int×Int×ByteArray×(List Val)×(List Key)×(List aD)×(List ByteArray))×(Int×Int×ByteArray×(List Val)×(List Key)×(List aD)×(List ByteArray))) (Int×(Int×Int×ByteArray×(List Val)×(List Key)×(List aD)×(List ByteArray))×(Int×Int×ByteArray×(List Val)×(List Key)×(List aD)×(List ByteArray))))=>aL (λx30=>some (Val.mk x30.2.1 x30.2.2.1 x30.2.2.2.1 x30.2.2.2.2.1 x30.2.2.2.2.2.1 x30.2.2.2.2.2.2.1 x30.2.2.2.2.2.2.2,0)) (λy31=>some (Val.mk y31.2.1.1 y31.2.1.2.1 y31.2.1.2.2.1 y31.2.1.2.2.2.1 y31.2.1.2.2.2.2.1 y31.2.1.2.2.2.2.2.1 y31.2.1.2.2.2.2.2.2,y31.1)) MU) (λy6=>some (Val.mk y6.2.1 y6.2.2.1 y6.2.2.2.1 y6.2.2.2.2.1 y6.2.2.2.2.2.1 y6.2.2.2.2.2.2.1 y6.2.2.2.2.2.2.2,y6.1)) b4)
def yB (a:Int)(b:Int):Option Int:=(Fq a b).bind λr1=>some r1
def il' (d:Val)(t:Val)(x5:Int):Option (Fl Int (Sum Unit Int)):=cond (x5<(d.aU.length:Int)) ((ak d.aU x5).bind λe6=>(ak t.aU x5).bind λe7=>(zT e6 e7).bind λr8=>cond (r8 != 0) (some (.done (.inr r8))) (some (.next (wr .i64 (x5+1))))) (some (.done (.inl ())))
def dB' (d:Val)(t:Val)(ZI:aD->aD->Option Int)(mF:Int):Option (Fl Int (Sum Unit Int)):=cond (mF<(d.aW.length:Int)) ((ak d.aW mF).bind λe15=>(ak t.aW mF).bind λe16=>(ZI e15 e16).bind λgP=>cond (gP != 0) (some (.done (.inr gP))) (some (.next (wr .i64 (mF+1))))) (some (.done (.inl ())))
def ip' (d:Val)(t:Val)(vU:Int):Option (Fl Int (Sum Unit Int)):=cond (vU<(d.bX.length:Int)) ((ak d.bX vU).bind λe23=>(ak t.bX vU).bind λe24=>(Ab e23 e24).bind λuD=>cond (uD != 0) (some (.done (.inr uD))) (some (.next (wr .i64 (vU+1))))) (some (.done (.inl ())))
def eL' (a:List Val)(b:List Val)(ND:Val->Val->Option Int)(x2:Int):Option (Fl Int (Sum Unit Int)):=cond (x2<(a.length:Int)) ((ak a x2).bind λe3=>(ak b x2).bind λe4=>(ND e3 e4).bind λr5=>cond (r5 != 0) (some (.done (.inr r5))) (some (.next (wr .i64 (x2+1))))) (some (.done (.inl ())))
def V4 (_:Nat)(_:Val->Val->Option Int)(ZJ:(List Val)->(List Val)->Option Int)(ZI:aD->aD->Option Int)(d:Val)(t:Val):Option Int:=cond (d.af != t.af) ((yB d.af t.af).bind λr1=>some r1) (cond (d.bn != t.bn) ((Fq d.bn t.bn).bind λr2=>some r2) (cond (!(bU d.Text t.Text)) ((Ab d.Text t.Text).bind λr3=>some r3) (cond ((d.aU.length:Int) != (t.aU.length:Int)) ((yB (d.aU.length:Int) (t.aU.length:Int)).bind λr4=>some r4) ((iter (il' d t) ((d.aU.length:Int).toNat+1) 0).bind λb9=>aL (λ_=>(ZJ d.ai t.ai).bind λgB=>cond (gB != 0) (some gB) (cond ((d.aW.length:Int) != (t.aW.length:Int)) ((yB (d.aW.length:Int) (t.aW.length:Int)).bind λiy=>some iy) ((iter (dB' d t ZI) ((d.aW.length:Int).toNat+1) 0).bind λb18=>aL (λ_=>cond ((d.bX.length:Int) != (t.bX.length:Int)) ((yB (d.bX.length:Int) (t.bX.length:Int)).bind λoQ=>some oQ) ((iter (ip' d t) ((d.bX.length:Int).toNat+1) 0).bind λMZ=>aL (λ_=>some 0) (λy28=>some y28) MZ)) (λy20=>some y20) b18))) (λqP=>some qP) b9))))
def Vd (_:Nat)(ND:Val->Val->Option Int)(_:(List Val)->(List Val)->Option Int)(_:aD->aD->Option Int)(a:List Val)(b:List Val):Option Int:=cond ((a.length:Int) != (b.length:Int)) ((yB (a.length:Int) (b.length:Int)).bind λr1=>some r1) ((iter (eL' a b ND) ((a.length:Int).toNat+1) 0).bind λb6=>aL (λ_=>some 0) (λy8=>some y8) b6)
def VY (_:Nat)(ND:Val->Val->Option Int)(ZJ:(List Val)->(List Val)->Option Int)(_:aD->aD->Option Int)(a:aD)(b:aD):Option Int:=(ZJ a.cu b.cu).bind λr1=>cond (r1 != 0) (some r1) (cond (a.Fails != b.Fails) (cond a.Fails (some (-1)) (some 1)) ((ND a.Result b.Result).bind λr2=>some r2))
def tJ:Nat->(Val->Val->Option Int)×((List Val)->(List Val)->Option Int)×(aD->aD->Option Int) | 0=>(λ_ _=>none,λ_ _=>none,λ_ _=>none) | n+1=>(V4 n ((tJ n).1) ((tJ n).2.1) ((tJ n).2.2),Vd n ((tJ n).1) ((tJ n).2.1) ((tJ n).2.2),VY n ((tJ n).1) ((tJ n).2.1) ((tJ n).2.2))
def zW (n:Nat):Val->Val->Option Int:=(tJ n).1
def LZ (n:Nat):(List Val)->(List Val)->Option Int:=(tJ n).2.1
def tC (n:Nat):aD->aD->Option Int:=(tJ n).2.2
def Kn (n:Nat)(a:Val)(b:Val):Option Bool:=(zW n a b).bind λr1=>some (r1==0)
def QN (l:List aD)(x1:(List aD)×Int)(n:Nat)(x2:Int):Option (Fl Int Int):=(cond (x2<(x1.1.length:Int)) ((ak x1.1 x2).bind λe3=>(ak l x1.2).bind λ_=>(l[x1.2.toNat]?).bind λe5=>(tC n e3 e5).bind λr6=>some (decide (r6<0))) (some false)).bind λq7=>cond q7 (some (.next (wr .i64 (x2+1)))) (some (.done x2))
def zN (l:List aD)(n:Nat)(x1:(List aD)×Int):Option (Fl ((List aD)×Int) (List aD)):=cond (x1.2<(l.length:Int)) (((iter (QN l x1 n) ((x1.1.length:Int).toNat+1) 0).bind λb8=>(cond (b8<(x1.1.length:Int)) ((ak x1.1 b8).bind λe9=>(ak l x1.2).bind λ_=>(l[x1.2.toNat]?).bind λe11=>(tC n e9 e11).bind λgB=>some (gB==0)) (some false)).bind λvX=>cond vX (some x1.1) ((cut x1.1 0 b8).bind λnD=>(aT (0+nD.length) 160).bind λ_=>(ak l x1.2).bind λ_=>(l[x1.2.toNat]?).bind λe17=>(aT (nD.length+([e17]:List aD).length) 160).bind λ_=>(cut x1.1 b8 (x1.1.length:Int)).bind λBl=>(aT ((nD++([e17]:List aD)).length+Bl.length) 160).bind λ_=>some ((nD++([e17]:List aD))++Bl))).bind λuz=>some (.next (uz,wr .i64 (x1.2+1)))) (some (.done x1.1))
def HV (n:Nat)(l:List aD):Option (List aD):=(iter (zN l n) ((l.length:Int).toNat+1) (([]:List aD),0)).bind λMQ=>some MQ
def Az (arity:Int)(l:List aD)(n:Nat)(x2:Int×(Int×Int×ByteArray×(List Val)×(List Key)×(List aD)×(List ByteArray))):Option (Fl (Int×(Int×Int×ByteArray×(List Val)×(List Key)×(List aD)×(List ByteArray))) (Sum (Int×Int×ByteArray×(List Val)×(List Key)×(List aD)×(List ByteArray)) (Int×(Int×Int×ByteArray×(List Val)×(List Key)×(List aD)×(List ByteArray))))):=cond (x2.1<(l.length:Int)) ((ak l x2.1).bind λ_=>(l[x2.1.toNat]?).bind λe4=>(cond ((e4.cu.length:Int) != arity) (some true) ((ak l x2.1).bind λ_=>(l[x2.1.toNat]?).bind λe6=>(cond e6.Fails ((ak l x2.1).bind λ_=>(l[x2.1.toNat]?).bind λe8=>(Kn n e8.Result (Val.mk 0 0 (⟨#[]⟩:ByteArray) ([]:List Val) ([]:List Key) ([]:List aD) ([]:List ByteArray))).bind λr9=>some (!r9)) (some false)).bind λsF=>some sF)).bind λsG=>cond sG (some (.done (.inr (1,(0,0,(⟨#[]⟩:ByteArray),[],[],[],[]))))) (some (.next (wr .i64 (x2.1+1),(x2.2.1,x2.2.2.1,x2.2.2.2.1,x2.2.2.2.2.1,x2.2.2.2.2.2.1,x2.2.2.2.2.2.2.1,x2.2.2.2.2.2.2.2))))) (some (.done (.inl (x2.2.1,x2.2.2.1,x2.2.2.2.1,x2.2.2.2.2.1,x2.2.2.2.2.2.1,x2.2.2.2.2.2.2.1,x2.2.2.2.2.2.2.2))))
def yJ (n:Nat)(arity:Int)(l:List aD):Option (Val×Int):=(cond (arity<0) (some true) (some (decide (4<arity)))).bind λq1=>cond q1 (some (Val.mk 0 0 (⟨#[]⟩:ByteArray) ([]:List Val) ([]:List Key) ([]:List aD) ([]:List ByteArray),1)) ((iter (Az arity l n) ((l.length:Int).toNat+1) (0,(0,0,(⟨#[]⟩:ByteArray),[],[],[],[]))).bind λ(b12:Sum (Int×Int×ByteArray×(List Val)×(List Key)×(List aD)×(List ByteArray)) (Int×(Int×Int×ByteArray×(List Val)×(List Key)×(List aD)×(List ByteArray))))=>aL (λ_=>(HV n l).bind λgy=>some (Val.mk 9 arity (⟨#[]⟩:ByteArray) ([]:List Val) ([]:List Key) gy ([]:List ByteArray),0)) (λnD=>some (Val.mk nD.2.1 nD.2.2.1 nD.2.2.2.1 nD.2.2.2.2.1 nD.2.2.2.2.2.1 nD.2.2.2.2.2.2.1 nD.2.2.2.2.2.2.2,nD.1)) b12)
def OW (l:List ByteArray)(x1:(List ByteArray)×Int)(x2:Int):Option (Fl Int Int):=(cond (x2<(x1.1.length:Int)) ((ak x1.1 x2).bind λe3=>(ak l x1.2).bind λe4=>some (jI e3 e4)) (some false)).bind λq5=>cond q5 (some (.next (wr .i64 (x2+1)))) (some (.done x2))
def Dv (l:List ByteArray)(x1:(List ByteArray)×Int):Option (Fl ((List ByteArray)×Int) (List ByteArray)):=cond (x1.2<(l.length:Int)) (((iter (OW l x1) ((x1.1.length:Int).toNat+1) 0).bind λb6=>(cond (b6<(x1.1.length:Int)) ((ak x1.1 b6).bind λe7=>(ak l x1.2).bind λe8=>some (bU e7 e8)) (some false)).bind λq9=>cond q9 (some x1.1) ((cut x1.1 0 b6).bind λsH=>(aT (0+sH.length) 16).bind λ_=>(ak l x1.2).bind λe12=>(aT (sH.length+([e12]:List ByteArray).length) 16).bind λ_=>(cut x1.1 b6 (x1.1.length:Int)).bind λnD=>(aT ((sH++([e12]:List ByteArray)).length+nD.length) 16).bind λ_=>some ((sH++([e12]:List ByteArray))++nD))).bind λb16=>some (.next (b16,wr .i64 (x1.2+1)))) (some (.done x1.1))
def yL (l:List ByteArray):Option (List ByteArray):=(iter (Dv l) ((l.length:Int).toNat+1) (([]:List ByteArray),0)).bind λb17=>some b17
def Lr (v:Val)(names:List ByteArray):Option Val:=(yL names).bind λr1=>some (Val.mk v.af v.bn v.Text v.ai v.aU v.aW r1)
def FN (head:Val)(tail:Val):Option Val:=some (Val.mk 7 0 (⟨#[]⟩:ByteArray) ([head,tail]:List Val) ([]:List Key) ([]:List aD) ([]:List ByteArray))
def IL (s:aA):Option ((List ByteArray)×aA):=(dQ s 3).bind λr1=>(cond (r1.1==1) ((EO r1.2).bind λr2=>(aT (0+([r2.1]:List ByteArray).length) 16).bind λ_=>(dQ r2.2 2).bind λr4=>cond (r4.1==1) ((EO r4.2).bind λr5=>(aT (([r2.1]:List ByteArray).length+([r5.1]:List ByteArray).length) 16).bind λ_=>some (([r2.1]:List ByteArray)++([r5.1]:List ByteArray),r5.2)) (some (([r2.1]:List ByteArray),r4.2))) (some ([],r1.2))).bind λb7=>(yL b7.1).bind λr8=>some (r8,b7.2)
def O4 (s:aA):Option (Key×aA):=(dQ s 2).bind λr1=>cond (r1.1==0) ((Du r1.2).bind λr2=>some (Key.mk 0 r2.1,r2.2)) ((Dp r1.2).bind λr3=>some (Key.mk 1 r3.1,r3.2))
def Kh (t:Int)(sQ:aA->Int->Option (Val×aA))(x4:(List Val)×Int×aA):Option (Fl ((List Val)×Int×aA) ((List Val)×aA)):=cond (0<x4.2.1) ((sQ x4.2.2 (wr .i64 (t-1))).bind λr5=>(aT (x4.1.length+([r5.1]:List Val).length) 128).bind λ_=>some (.next (x4.1++([r5.1]:List Val),wr .i64 (x4.2.1-1),r5.2))) (some (.done (x4.1,x4.2.2)))
def Le (t:Int)(sQ:aA->Int->Option (Val×aA))(x20:(List Key)×(List Val)×Int×aA):Option (Fl ((List Key)×(List Val)×Int×aA) ((List Key)×(List Val)×aA)):=cond (0<x20.2.2.1) ((O4 x20.2.2.2).bind λoQ=>(aT (x20.1.length+([oQ.1]:List Key).length) 24).bind λ_=>(sQ oQ.2 (wr .i64 (t-1))).bind λEb=>(aT (x20.2.1.length+([Eb.1]:List Val).length) 128).bind λ_=>some (.next (x20.1++([oQ.1]:List Key),x20.2.1++([Eb.1]:List Val),wr .i64 (x20.2.2.1-1),Eb.2))) (some (.done (x20.1,x20.2.1,x20.2.2.2)))
def LJ (t:Int)(uH:Int×aA)(ZK:aA->Int->Int->Option (aD×aA))(x29:(List aD)×Int×aA):Option (Fl ((List aD)×Int×aA) ((List aD)×aA)):=cond (0<x29.2.1) ((ZK x29.2.2 uH.1 (wr .i64 (t-1))).bind λNE=>(aT (x29.1.length+([NE.1]:List aD).length) 160).bind λ_=>some (.next (x29.1++([NE.1]:List aD),wr .i64 (x29.2.1-1),NE.2))) (some (.done (x29.1,x29.2.2)))
def Lh (uE:Int)(sQ:aA->Int->Option (Val×aA))(x1:Int×aA×((List Val)×Bool×Int×Int×ByteArray×(List Val)×(List Key)×(List aD)×(List ByteArray))):Option (Fl (Int×aA×((List Val)×Bool×Int×Int×ByteArray×(List Val)×(List Key)×(List aD)×(List ByteArray))) (aA×((List Val)×Bool×Int×Int×ByteArray×(List Val)×(List Key)×(List aD)×(List ByteArray)))):=cond (0<x1.1) ((sQ x1.2.1 uE).bind λr2=>(aT (x1.2.2.1.length+([r2.1]:List Val).length) 128).bind λ_=>some (.next (wr .i64 (x1.1-1),r2.2,(x1.2.2.1++([r2.1]:List Val),x1.2.2.2.1,x1.2.2.2.2.1,x1.2.2.2.2.2.1,x1.2.2.2.2.2.2.1,x1.2.2.2.2.2.2.2.1,x1.2.2.2.2.2.2.2.2.1,x1.2.2.2.2.2.2.2.2.2.1,x1.2.2.2.2.2.2.2.2.2.2)))) (some (.done (x1.2.1,(x1.2.2.1,x1.2.2.2.1,x1.2.2.2.2.1,x1.2.2.2.2.2.1,x1.2.2.2.2.2.2.1,x1.2.2.2.2.2.2.2.1,x1.2.2.2.2.2.2.2.2.1,x1.2.2.2.2.2.2.2.2.2.1,x1.2.2.2.2.2.2.2.2.2.2))))
def CW (_:Nat)(_:aA->Int->Option (Val×aA))(IJ':aA->Int->Option (Val×aA))(_:aA->Int->Int->Option (aD×aA))(s:aA)(uE:Int):Option (Val×aA):=(IJ' s uE).bind λr1=>(IL r1.2).bind λr2=>some (Val.mk r1.1.af r1.1.bn r1.1.Text r1.1.ai r1.1.aU r1.1.aW r2.1,r2.2)
def yS (n:Nat)(sQ:aA->Int->Option (Val×aA))(_:aA->Int->Option (Val×aA))(ZK:aA->Int->Int->Option (aD×aA))(d:aA)(t:Int):Option (Val×aA):=cond (t<=1) ((rO d).bind λr1=>some (r1.1,r1.2)) ((dQ d 6).bind λr2=>(cond (r2.1==1) ((dQ r2.2 4).bind λr3=>(iter (Kh t sQ) (r3.1.toNat+2) ([],r3.1,r3.2)).bind λb7=>(Aj b7.1).bind λr8=>some (.inr (b7.2,(r8.af,r8.bn,r8.Text,r8.ai,r8.aU,r8.aW,r8.bX)))) (cond (r2.1==2) ((qB).bind λr9=>(cond (2<t) ((dQ r2.2 2).bind λfE=>some (fE.1==1,fE.2)) (some (false,r2.2))).bind λb11=>(cond b11.1 ((sQ b11.2 (wr .i64 (t-2))).bind λgB=>(qB).bind λiy=>(FN gB.1 iy).bind λoP=>some (gB.2,oP)) (some (b11.2,r9))).bind λb15=>(IL b15.1).bind λr16=>(sQ r16.2 (wr .i64 (t-1))).bind λgP=>(FN gP.1 (Val.mk b15.2.af b15.2.bn b15.2.Text b15.2.ai b15.2.aU b15.2.aW r16.1)).bind λvW=>some (.inr (gP.2,(vW.af,vW.bn,vW.Text,vW.ai,vW.aU,vW.aW,vW.bX)))) (cond (r2.1==3) ((dQ r2.2 3).bind λsP=>(iter (Le t sQ) (sP.1.toNat+2) ([],[],sP.1,sP.2)).bind λdG=>(vJ dG.1 dG.2.1).bind λqi=>cond (qi.2==0) (some (.inr (dG.2.2,(qi.1.af,qi.1.bn,qi.1.Text,qi.1.ai,qi.1.aU,qi.1.aW,qi.1.bX)))) (some (.inl (dG.2.2,(0,0,(⟨#[]⟩:ByteArray),([]:List Val),([]:List Key),([]:List aD),([]:List ByteArray)))))) (cond (r2.1==4) ((dQ r2.2 3).bind λuH=>(dQ uH.2 3).bind λqc=>(iter (LJ t uH ZK) (qc.1.toNat+2) ([],qc.1,qc.2)).bind λb32=>(yJ n uH.1 b32.1).bind λsS=>cond (sS.2==0) (some (.inr (b32.2,(sS.1.af,sS.1.bn,sS.1.Text,sS.1.ai,sS.1.aU,sS.1.aW,sS.1.bX)))) (some (.inl (b32.2,(0,0,(⟨#[]⟩:ByteArray),([]:List Val),([]:List Key),([]:List aD),([]:List ByteArray)))))) (some (.inl (r2.2,(0,0,(⟨#[]⟩:ByteArray),([]:List Val),([]:List Key),([]:List aD),([]:List ByteArray))))))))).bind λ(b34:Sum (aA×(Int×Int×ByteArray×(List Val)×(List Key)×(List aD)×(List ByteArray))) (aA×(Int×Int×ByteArray×(List Val)×(List Key)×(List aD)×(List ByteArray))))=>aL (λx35=>(rO x35.1).bind λNF=>some (NF.1,NF.2)) (λBn=>some (Val.mk Bn.2.1 Bn.2.2.1 Bn.2.2.2.1 Bn.2.2.2.2.1 Bn.2.2.2.2.2.1 Bn.2.2.2.2.2.2.1 Bn.2.2.2.2.2.2.2,Bn.1)) b34)
def Md (_:Nat)(sQ:aA->Int->Option (Val×aA))(_:aA->Int->Option (Val×aA))(_:aA->Int->Int->Option (aD×aA))(s:aA)(nC:Int)(uE:Int):Option (aD×aA):=(iter (Lh uE sQ) (nC.toNat+2) (nC,s,([],false,0,0,(⟨#[]⟩:ByteArray),[],[],[],[]))).bind λb4=>(dQ b4.1 4).bind λr5=>cond (r5.1==1) (some (aD.mk b4.2.1 true (Val.mk b4.2.2.2.1 b4.2.2.2.2.1 b4.2.2.2.2.2.1 b4.2.2.2.2.2.2.1 b4.2.2.2.2.2.2.2.1 b4.2.2.2.2.2.2.2.2.1 b4.2.2.2.2.2.2.2.2.2),r5.2)) ((sQ r5.2 uE).bind λr6=>some (aD.mk b4.2.1 b4.2.2.1 r6.1,r6.2))
def fA:Nat->(aA->Int->Option (Val×aA))×(aA->Int->Option (Val×aA))×(aA->Int->Int->Option (aD×aA)) | 0=>(λ_ _=>none,λ_ _=>none,λ_ _ _=>none) | n+1=>(CW n ((fA n).1) ((fA n).2.1) ((fA n).2.2),yS n ((fA n).1) ((fA n).2.1) ((fA n).2.2),Md n ((fA n).1) ((fA n).2.1) ((fA n).2.2))
def I5 (n:Nat):aA->Int->Option (Val×aA):=(fA n).1
def mX' (n:Nat):aA->Int->Option (Val×aA):=(fA n).2.1
def Bp' (n:Nat):aA->Int->Int->Option (aD×aA):=(fA n).2.2
def JM (c:Int):Option Bool:=(cond (65<=c) (some (decide (c<=90))) (some false)).bind λq1=>some q1
def WE (s:ByteArray)(x5:Int):Option (Fl Int (Sum Unit Bool)):=cond (x5<(s.size:Int)) ((mD s x5).bind λe6=>(E9 (e6.toNat:Int)).bind λr7=>(cond (!r7) ((mD s x5).bind λe8=>(JM (e8.toNat:Int)).bind λr9=>some (!r9)) (some false)).bind λsF=>(cond sF ((mD s x5).bind λe11=>(JU (e11.toNat:Int)).bind λgB=>some (!gB)) (some false)).bind λvX=>(cond vX ((mD s x5).bind λe14=>some ((e14.toNat:Int) != 95)) (some false)).bind λEc=>cond Ec (some (.done (.inr false))) (some (.next (wr .i64 (x5+1))))) (some (.done (.inl ())))
def La (s:ByteArray):Option Bool:=(cond ((s.size:Int)<1) (some true) (some (decide (16<(s.size:Int))))).bind λq1=>(cond q1 (some true) ((mD s 0).bind λe2=>(JM (e2.toNat:Int)).bind λr3=>some (!r3))).bind λq4=>cond q4 (some false) ((iter (WE s) ((s.size:Int).toNat+1) 1).bind λb16=>aL (λ_=>some true) (λy18=>some y18) b16)
def QU (d:Val)(x1:Int):Option (Fl Int (Sum Unit Bool)):=cond (x1<(d.bX.length:Int)) ((ak d.bX x1).bind λe2=>(La e2).bind λr3=>(cond (!r3) (some true) ((cond (0<x1) ((ak d.bX (wr .i64 (x1-1))).bind λe4=>(ak d.bX x1).bind λe5=>some (!(jI e4 e5))) (some false)).bind λq6=>some q6)).bind λq7=>cond q7 (some (.done (.inr false))) (some (.next (wr .i64 (x1+1))))) (some (.done (.inl ())))
def Pz (d:Val)(x31:Int):Option (Fl Int (Sum Unit Bool)):=cond (x31<(d.aU.length:Int)) ((ak d.aU x31).bind λe32=>(H8 e32).bind λsS=>(cond (!sS) (some true) ((cond (0<x31) ((ak d.aU (wr .i64 (x31-1))).bind λe34=>(ak d.aU x31).bind λe35=>(zT e34 e35).bind λIz=>some (decide (0<=Iz))) (some false)).bind λZL=>some ZL)).bind λq38=>cond q38 (some (.done (.inr false))) (some (.next (wr .i64 (x31+1))))) (some (.done (.inl ())))
def Oe (d:Val)(n:Nat)(x43:Int):Option (Fl Int (Sum Unit Bool)):=cond (x43<(d.aW.length:Int)) ((ak d.aW x43).bind λe44=>(cond ((e44.cu.length:Int) != d.bn) (some true) ((cond e44.Fails ((Kn n e44.Result (Val.mk 0 0 (⟨#[]⟩:ByteArray) ([]:List Val) ([]:List Key) ([]:List aD) ([]:List ByteArray))).bind λr45=>some (!r45)) (some false)).bind λq46=>some q46)).bind λZC=>(cond ZC (some true) ((cond (0<x43) ((ak d.aW (wr .i64 (x43-1))).bind λe48=>(tC n e48 e44).bind λr49=>some (decide (0<=r49))) (some false)).bind λq50=>some q50)).bind λq51=>cond q51 (some (.done (.inr false))) (some (.next (wr .i64 (x43+1))))) (some (.done (.inl ())))
def PK (n:Nat)(d:Val):Option Bool:=(iter (QU d) ((d.bX.length:Int).toNat+1) 0).bind λb8=>aL (λ_=>(cond (d.af==1) (some true) (some (d.af==4))).bind λsG=>(cond sG (some true) (some (d.af==9))).bind λvS=>(cond (d.af==2) (some true) (some (d.af==3))).bind λvX=>(cond (d.af==6) (some true) (some (d.af==7))).bind λNI=>(cond NI (some true) (some (d.af==8))).bind λEc=>(cond (!vS) (some (d.bn != 0)) (some false)).bind λq16=>(cond q16 (some true) ((cond (!vX) (some (!(bU d.Text (⟨#[]⟩:ByteArray)))) (some false)).bind λMR=>some MR)).bind λZM=>(cond ZM (some true) ((cond (!Ec) (some (decide (0<(d.ai.length:Int)))) (some false)).bind λq19=>some q19)).bind λNJ=>(cond NJ (some true) ((cond (d.af != 8) (some (decide (0<(d.aU.length:Int)))) (some false)).bind λq21=>some q21)).bind λq22=>(cond q22 (some true) ((cond (d.af != 9) (some (decide (0<(d.aW.length:Int)))) (some false)).bind λq23=>some q23)).bind λq24=>cond q24 (some false) ((cond (d.af==1) (some (d.af==1)) (some (d.af==5))).bind λdG=>cond dG (some true) (cond (d.af==2) (some (decide ((d.Text.size:Int)<=64))) (cond (d.af==3) ((FP d.Text).bind λqi=>some qi) (cond (d.af==4) (some (decide (0<=d.bn))) (cond (d.af==6) (some (decide ((d.ai.length:Int)<=4))) (cond (d.af==7) ((cond ((d.ai.length:Int)==2) ((ak d.ai 1).bind λe27=>(cond (e27.af==5) (some true) ((ak d.ai 1).bind λe28=>some (e28.af==7))).bind λq29=>some q29) (some false)).bind λq30=>some q30) (cond (d.af==8) ((iter (Pz d) ((d.aU.length:Int).toNat+1) 0).bind λb39=>aL (λ_=>some ((d.aU.length:Int)==(d.ai.length:Int))) (λy41=>some y41) b39) (cond (d.af==9) ((cond (d.bn<0) (some true) (some (decide (4<d.bn)))).bind λq42=>cond q42 (some false) ((iter (Oe d n) ((d.aW.length:Int).toNat+1) 0).bind λZt=>aL (λ_=>some true) (λy54=>some y54) Zt)) (some false)))))))))) (λsH=>some sH) b8
def Rb (v:Val)(zw:Val->Option Bool)(x2:Int):Option (Fl Int (Sum Unit Bool)):=cond (x2<(v.ai.length:Int)) ((ak v.ai x2).bind λe3=>(zw e3).bind λr4=>cond (!r4) (some (.done (.inr false))) (some (.next (wr .i64 (x2+1))))) (some (.done (.inl ())))
def OZ (zw:Val->Option Bool)(e9:aD)(x10:Int):Option (Fl Int (Sum Unit Bool)):=cond (x10<(e9.cu.length:Int)) ((ak e9.cu x10).bind λe11=>(zw e11).bind λgB=>cond (!gB) (some (.done (.inr false))) (some (.next (wr .i64 (x10+1))))) (some (.done (.inl ())))
def OP (v:Val)(zw:Val->Option Bool)(x8:Int):Option (Fl Int (Sum Unit Bool)):=cond (x8<(v.aW.length:Int)) ((ak v.aW x8).bind λe9=>(iter (OZ zw e9) ((e9.cu.length:Int).toNat+1) 0).bind λb13=>aL (λ_=>(cond (!e9.Fails) ((zw e9.Result).bind λr16=>some (!r16)) (some false)).bind λMR=>cond MR (some (.done (.inr false))) (some (.next (wr .i64 (x8+1))))) (λZH=>some (.done (.inr ZH))) b13) (some (.done (.inl ())))
def WS (n:Nat)(zw:Val->Option Bool)(v:Val):Option Bool:=(PK n v).bind λr1=>cond (!r1) (some false) ((iter (Rb v zw) ((v.ai.length:Int).toNat+1) 0).bind λb5=>aL (λ_=>(iter (OP v zw) ((v.aW.length:Int).toNat+1) 0).bind λb18=>aL (λ_=>some true) (λy20=>some y20) b18) (λy7=>some y7) b5)
def wI:Nat->Val->Option Bool | 0=>λ_=>none | n+1=>WS n (wI n)
def ED (t:ay)(iB:Int)(e4:aF)(oW:aA->ay->Int->Int->Option (Val×aA))(x21:Int×aA×(Int×Int×ByteArray×(List Val)×(List Key)×(List aD)×(List ByteArray))):Option (Fl (Int×aA×(Int×Int×ByteArray×(List Val)×(List Key)×(List aD)×(List ByteArray))) (aA×(Int×Int×ByteArray×(List Val)×(List Key)×(List aD)×(List ByteArray)))):=cond (x21.1<(e4.ai.length:Int)) ((ak e4.ai x21.1).bind λe22=>(oW x21.2.1 t e22 (wr .i64 (iB-1))).bind λEb=>(aT (x21.2.2.2.2.2.1.length+([Eb.1]:List Val).length) 128).bind λ_=>some (.next (wr .i64 (x21.1+1),Eb.2,(x21.2.2.1,x21.2.2.2.1,x21.2.2.2.2.1,x21.2.2.2.2.2.1++([Eb.1]:List Val),x21.2.2.2.2.2.2.1,x21.2.2.2.2.2.2.2.1,x21.2.2.2.2.2.2.2.2)))) (some (.done (x21.2.1,(x21.2.2.1,x21.2.2.2.1,x21.2.2.2.2.1,x21.2.2.2.2.2.1,x21.2.2.2.2.2.2.1,x21.2.2.2.2.2.2.2.1,x21.2.2.2.2.2.2.2.2))))
def uZ (t:ay)(e4:aF)(x40:Int×Val):Option (Fl (Int×Val) Val):=cond (x40.1<(e4.ai.length:Int)) (((ak e4.ai x40.1).bind λe41=>(ak t.aj e41).bind λe42=>cond (e42.af==19) ((aT (0+x40.2.bX.length) 16).bind λ_=>(ak e4.ai x40.1).bind λe44=>(ak t.aj e44).bind λe45=>(aT (x40.2.bX.length+([e45.Text]:List ByteArray).length) 16).bind λ_=>(yL (x40.2.bX++([e45.Text]:List ByteArray))).bind λr47=>some (Val.mk x40.2.af x40.2.bn x40.2.Text x40.2.ai x40.2.aU x40.2.aW r47)) (some x40.2)).bind λM4=>some (.next (wr .i64 (x40.1+1),M4))) (some (.done x40.2))
def CS (t:ay)(aQ:aF)(iB:Int)(oW:aA->ay->Int->Int->Option (Val×aA))(x3:Int×aA×((List Val)×Bool×Int×Int×ByteArray×(List Val)×(List Key)×(List aD)×(List ByteArray))):Option (Fl (Int×aA×((List Val)×Bool×Int×Int×ByteArray×(List Val)×(List Key)×(List aD)×(List ByteArray))) (aA×((List Val)×Bool×Int×Int×ByteArray×(List Val)×(List Key)×(List aD)×(List ByteArray)))):=cond (x3.1<(wr .i64 ((aQ.ai.length:Int)-1))) ((ak aQ.ai x3.1).bind λe4=>(oW x3.2.1 t e4 (wr .i64 (iB-1))).bind λr5=>(aT (x3.2.2.1.length+([r5.1]:List Val).length) 128).bind λ_=>some (.next (wr .i64 (x3.1+1),r5.2,(x3.2.2.1++([r5.1]:List Val),x3.2.2.2.1,x3.2.2.2.2.1,x3.2.2.2.2.2.1,x3.2.2.2.2.2.2.1,x3.2.2.2.2.2.2.2.1,x3.2.2.2.2.2.2.2.2.1,x3.2.2.2.2.2.2.2.2.2.1,x3.2.2.2.2.2.2.2.2.2.2)))) (some (.done (x3.2.1,(x3.2.2.1,x3.2.2.2.1,x3.2.2.2.2.1,x3.2.2.2.2.2.1,x3.2.2.2.2.2.2.1,x3.2.2.2.2.2.2.2.1,x3.2.2.2.2.2.2.2.2.1,x3.2.2.2.2.2.2.2.2.2.1,x3.2.2.2.2.2.2.2.2.2.2))))
def Fj (t:ay)(aQ:aF)(iB:Int)(oW:aA->ay->Int->Int->Option (Val×aA))(x2:(List aD)×Int×aA):Option (Fl ((List aD)×Int×aA) ((List aD)×aA)):=cond (0<x2.2.1) ((iter (CS t aQ iB oW) ((wr .i64 ((aQ.ai.length:Int)-1)).toNat+1) (0,x2.2.2,([],false,0,0,(⟨#[]⟩:ByteArray),[],[],[],[]))).bind λb7=>(dQ b7.1 6).bind λr8=>(cond (r8.1==1) (some (r8.2,(b7.2.1,true,b7.2.2.2.1,b7.2.2.2.2.1,b7.2.2.2.2.2.1,b7.2.2.2.2.2.2.1,b7.2.2.2.2.2.2.2.1,b7.2.2.2.2.2.2.2.2.1,b7.2.2.2.2.2.2.2.2.2))) ((ak aQ.ai (wr .i64 ((aQ.ai.length:Int)-1))).bind λe9=>(oW r8.2 t e9 (wr .i64 (iB-1))).bind λfE=>some (fE.2,(b7.2.1,b7.2.2.1,fE.1.af,fE.1.bn,fE.1.Text,fE.1.ai,fE.1.aU,fE.1.aW,fE.1.bX)))).bind λb11=>(aT (x2.1.length+([aD.mk b11.2.1 b11.2.2.1 (Val.mk b11.2.2.2.1 b11.2.2.2.2.1 b11.2.2.2.2.2.1 b11.2.2.2.2.2.2.1 b11.2.2.2.2.2.2.2.1 b11.2.2.2.2.2.2.2.2.1 b11.2.2.2.2.2.2.2.2.2)]:List aD).length) 160).bind λ_=>some (.next (x2.1++([aD.mk b11.2.1 b11.2.2.1 (Val.mk b11.2.2.2.1 b11.2.2.2.2.1 b11.2.2.2.2.2.1 b11.2.2.2.2.2.2.1 b11.2.2.2.2.2.2.2.1 b11.2.2.2.2.2.2.2.2.1 b11.2.2.2.2.2.2.2.2.2)]:List aD),wr .i64 (x2.2.1-1),b11.1))) (some (.done (x2.1,x2.2.2)))
def GV (t:ay)(aQ:aF)(iB:Int)(oW:aA->ay->Int->Int->Option (Val×aA))(x1:(List Key)×(List Val)×Int×aA):Option (Fl ((List Key)×(List Val)×Int×aA) ((List Key)×(List Val)×aA)):=cond (x1.2.2.1<(aQ.aS.length:Int)) ((((ak aQ.aS x1.2.2.1).bind λe2=>cond e2.o6 ((dQ x1.2.2.2 2).bind λr3=>some (r3.1==1,r3.2)) (some (false,x1.2.2.2))).bind λb4=>cond b4.1 (some (x1.1,x1.2.1,b4.2)) ((ak aQ.aS x1.2.2.1).bind λe5=>(aT (x1.1.length+([e5.bq]:List Key).length) 24).bind λ_=>(ak aQ.aS x1.2.2.1).bind λe7=>(oW b4.2 t e7.iR (wr .i64 (iB-1))).bind λr8=>(aT (x1.2.1.length+([r8.1]:List Val).length) 128).bind λ_=>some (x1.1++([e5.bq]:List Key),x1.2.1++([r8.1]:List Val),r8.2))).bind λb10=>some (.next (b10.1,b10.2.1,wr .i64 (x1.2.2.1+1),b10.2.2))) (some (.done (x1.1,x1.2.1,x1.2.2.2)))
def Cu (n:Nat)(_:aA->ay->Int->Int->Option (Val×aA))(TQ:aA->ay->Int->Int->Option (Val×aA))(_:aA->ay->aF->Int->Option (Val×aA))(_:aA->ay->aF->Int->Option (Val×aA))(s:aA)(t:ay)(k:Int)(uE:Int):Option (Val×aA):=(TQ s t k uE).bind λr1=>(wI n r1.1).bind λr2=>cond (!r2) ((rO r1.2).bind λr3=>some (r3.1,r3.2)) (some (r1.1,r1.2))
def xQ (n:Nat)(oW:aA->ay->Int->Int->Option (Val×aA))(TQ:aA->ay->Int->Int->Option (Val×aA))(Jf':aA->ay->aF->Int->Option (Val×aA))(Jg':aA->ay->aF->Int->Option (Val×aA))(d:aA)(t:ay)(aQ:Int)(iB:Int):Option (Val×aA):=(cond (iB<=0) (some true) (some (decide (aQ<0)))).bind λq1=>(cond q1 (some true) (some (decide ((t.aj.length:Int)<=aQ)))).bind λq2=>cond q2 ((rO d).bind λr3=>some (r3.1,r3.2)) ((ak t.aj aQ).bind λe4=>cond (e4.af==3) ((BZ .i64 e4.Hi 2).bind λd5=>(BZ .i64 e4.Lo 2).bind λd6=>(dQ d 3).bind λr7=>(ak ([e4.Lo,e4.Hi,wr .i64 (e4.Lo+(wr .i64 (d5-d6)))]:List Int) r7.1).bind λ_=>(([e4.Lo,e4.Hi,wr .i64 (e4.Lo+(wr .i64 (d5-d6)))]:List Int)[r7.1.toNat]?).bind λe9=>(KY e9).bind λfE=>some (fE,r7.2)) (cond (e4.af==4) ((Bq e4.Text).bind λiA=>some (iA,d)) (cond (e4.af==5) ((Dp d).bind λgB=>(Bq gB.1).bind λiy=>some (iy,gB.2)) (cond (e4.af==6) ((CY e4.Text).bind λoP=>some (oP,d)) (cond (e4.af==7) ((Du d).bind λgy=>(CY gy.1).bind λr16=>some (r16,gy.2)) (cond (e4.af==8) ((dQ d 2).bind λgP=>(EF gP.1).bind λvW=>some (vW,gP.2)) (cond (e4.af==9) ((qB).bind λsP=>some (sP,d)) ((cond (e4.af==10) (some (e4.af==10)) (some (e4.af==12))).bind λb20=>cond b20 ((iter (ED t iB e4 oW) ((e4.ai.length:Int).toNat+1) (0,d,(0,0,(⟨#[]⟩:ByteArray),[],[],[],[]))).bind λdG=>(cond (e4.af==12) ((ak dG.2.2.2.2.1 1).bind λ_=>(dG.2.2.2.2.1[(1:Int).toNat]?).bind λe27=>cond (e27.af != 7) ((qB).bind λqc=>(ak dG.2.2.2.2.1 1).bind λ_=>(dG.2.2.2.2.1[(1:Int).toNat]?).bind λ_=>some (7,dG.2.2.1,dG.2.2.2.1,dG.2.2.2.2.1.set ((1:Int).toNat) qc,dG.2.2.2.2.2.1,dG.2.2.2.2.2.2.1,dG.2.2.2.2.2.2.2)) (some (7,dG.2.2.1,dG.2.2.2.1,dG.2.2.2.2.1,dG.2.2.2.2.2.1,dG.2.2.2.2.2.2.1,dG.2.2.2.2.2.2.2))) (some (6,dG.2.2.1,dG.2.2.2.1,dG.2.2.2.2.1,dG.2.2.2.2.2.1,dG.2.2.2.2.2.2.1,dG.2.2.2.2.2.2.2))).bind λzo=>some (Val.mk zo.1 zo.2.1 zo.2.2.1 zo.2.2.2.1 zo.2.2.2.2.1 zo.2.2.2.2.2.1 zo.2.2.2.2.2.2,dG.1)) (cond (e4.af==13) ((Jg' d t e4 iB).bind λr32=>some (r32.1,r32.2)) (cond (e4.af==14) ((Jf' d t e4 iB).bind λsS=>some (sS.1,sS.2)) (cond (e4.af==16) ((dQ d (e4.ai.length:Int)).bind λr34=>(ak e4.ai r34.1).bind λe35=>(TQ r34.2 t e35 iB).bind λIz=>some (Iz.1,Iz.2)) (cond (e4.af==17) ((dQ d (e4.ai.length:Int)).bind λNF=>(ak e4.ai NF.1).bind λe38=>(TQ NF.2 t e38 iB).bind λr39=>(iter (uZ t e4) ((e4.ai.length:Int).toNat+1) (0,r39.1)).bind λb49=>some (b49,r39.2)) (cond (e4.af==19) ((rO d).bind λr50=>(Lr r50.1 ([e4.Text]:List ByteArray)).bind λr51=>some (r51,r50.2)) ((I5 n d 2).bind λNM=>some (NM.1,NM.2)))))))))))))))
def Co (n:Nat)(oW:aA->ay->Int->Int->Option (Val×aA))(_:aA->ay->Int->Int->Option (Val×aA))(_:aA->ay->aF->Int->Option (Val×aA))(_:aA->ay->aF->Int->Option (Val×aA))(d:aA)(t:ay)(aQ:aF)(iB:Int):Option (Val×aA):=(dQ d 3).bind λr1=>(iter (Fj t aQ iB oW) (r1.1.toNat+2) ([],r1.1,r1.2)).bind λb13=>(yJ n (wr .i64 ((aQ.ai.length:Int)-1)) b13.1).bind λoP=>cond (oP.2 != 0) ((qB).bind λgy=>some (gy,b13.2)) (some (oP.1,b13.2))
def Cz (_:Nat)(oW:aA->ay->Int->Int->Option (Val×aA))(_:aA->ay->Int->Int->Option (Val×aA))(_:aA->ay->aF->Int->Option (Val×aA))(_:aA->ay->aF->Int->Option (Val×aA))(d:aA)(t:ay)(aQ:aF)(iB:Int):Option (Val×aA):=(iter (GV t aQ iB oW) ((aQ.aS.length:Int).toNat+1) ([],[],0,d)).bind λb11=>(dQ b11.2.2 2).bind λgB=>(cond (gB.1==1) ((dQ gB.2 2).bind λiy=>(aT (b11.1.length+([Key.mk iy.1 (⟨#[111,116,104,101,114]⟩:ByteArray)]:List Key).length) 24).bind λ_=>cond (iy.1==0) ((oW iy.2 t aQ.Rest.1 (wr .i64 (iB-1))).bind λgy=>(aT (b11.2.1.length+([gy.1]:List Val).length) 128).bind λ_=>some (b11.1++([Key.mk iy.1 (⟨#[111,116,104,101,114]⟩:ByteArray)]:List Key),b11.2.1++([gy.1]:List Val),gy.2)) (cond (iy.1==1) ((oW iy.2 t aQ.Rest.2 (wr .i64 (iB-1))).bind λgP=>(aT (b11.2.1.length+([gP.1]:List Val).length) 128).bind λ_=>some (b11.1++([Key.mk iy.1 (⟨#[111,116,104,101,114]⟩:ByteArray)]:List Key),b11.2.1++([gP.1]:List Val),gP.2)) none)) (some (b11.1,b11.2.1,gB.2))).bind λb19=>(vJ b19.1 b19.2.1).bind λl6=>cond (l6.2 != 0) ((qB).bind λoQ=>some (oQ,b19.2.2)) (some (l6.1,b19.2.2))
def bM:Nat->(aA->ay->Int->Int->Option (Val×aA))×(aA->ay->Int->Int->Option (Val×aA))×(aA->ay->aF->Int->Option (Val×aA))×(aA->ay->aF->Int->Option (Val×aA)) | 0=>(λ_ _ _ _=>none,λ_ _ _ _=>none,λ_ _ _ _=>none,λ_ _ _ _=>none) | n+1=>(Cu n ((bM n).1) ((bM n).2.1) ((bM n).2.2.1) ((bM n).2.2.2),xQ n ((bM n).1) ((bM n).2.1) ((bM n).2.2.1) ((bM n).2.2.2),Co n ((bM n).1) ((bM n).2.1) ((bM n).2.2.1) ((bM n).2.2.2),Cz n ((bM n).1) ((bM n).2.1) ((bM n).2.2.1) ((bM n).2.2.2))
def Po (n:Nat):aA->ay->Int->Int->Option (Val×aA):=(bM n).1
def qH' (n:Nat):aA->ay->Int->Int->Option (Val×aA):=(bM n).2.1
def zU' (n:Nat):aA->ay->aF->Int->Option (Val×aA):=(bM n).2.2.1
def yO' (n:Nat):aA->ay->aF->Int->Option (Val×aA):=(bM n).2.2.2
def Eo (n:Nat)(l:List Int)(m:List Int):Option (ay×Val):=(dQ (aA.mk l 0) 7).bind λr1=>(Jw r1.2 (wr .i64 (1+r1.1))).bind λr2=>(dQ (aA.mk m 0) (r2.1.aj.length:Int)).bind λr3=>(Po n r3.2 r2.1 r3.1 4).bind λr4=>some (r2.1,r4.1)
def JC (l:List Int)(k:Int)(x1:Int):Option (Fl Int Int):=(cond (x1<(l.length:Int)) ((ak l x1).bind λe2=>some (decide (e2<k))) (some false)).bind λq3=>cond q3 (some (.next (wr .i64 (x1+1)))) (some (.done x1))
def QM (l:List Int)(k:Int):Option (List Int):=(iter (JC l k) ((l.length:Int).toNat+1) 0).bind λb4=>(cond (b4<(l.length:Int)) ((ak l b4).bind λe5=>some (e5==k)) (some false)).bind λq6=>cond q6 (some l) ((cut l 0 b4).bind λy7=>(aT (0+y7.length) 8).bind λ_=>(aT (y7.length+([k]:List Int).length) 8).bind λ_=>(cut l b4 (l.length:Int)).bind λsH=>(aT ((y7++([k]:List Int)).length+sH.length) 8).bind λ_=>some ((y7++([k]:List Int))++sH))
def Ig (l:List Int)(x1:(List Int)×Int):Option (Fl ((List Int)×Int) (List Int)):=cond (x1.2<(l.length:Int)) ((ak l x1.2).bind λe2=>(QM x1.1 e2).bind λr3=>some (.next (r3,wr .i64 (x1.2+1)))) (some (.done x1.1))
def Kb (l:List Int):Option (List Int):=(iter (Ig l) ((l.length:Int).toNat+1) (([]:List Int),0)).bind λb4=>some b4
def Pt (g:ax):Option ax:=(Kb g.Pos).bind λr1=>(Kb g.Neg).bind λr2=>some (ax.mk r1 r2 g.eu)
def KE (t:ay)(x2:Int×aA×((List Int)×(List Int)×Bool)):Option (Fl (Int×aA×((List Int)×(List Int)×Bool)) (aA×((List Int)×(List Int)×Bool))):=cond (0<x2.1) ((dQ x2.2.1 (t.aj.length:Int)).bind λr3=>(aT (x2.2.2.1.length+([r3.1]:List Int).length) 8).bind λ_=>some (.next (wr .i64 (x2.1-1),r3.2,(x2.2.2.1++([r3.1]:List Int),x2.2.2.2.1,x2.2.2.2.2)))) (some (.done (x2.2.1,(x2.2.2.1,x2.2.2.2.1,x2.2.2.2.2))))
def Jh (t:ay)(x7:Int×aA×((List Int)×(List Int)×Bool)):Option (Fl (Int×aA×((List Int)×(List Int)×Bool)) (aA×((List Int)×(List Int)×Bool))):=cond (0<x7.1) ((dQ x7.2.1 (t.aj.length:Int)).bind λr8=>(aT (x7.2.2.2.1.length+([r8.1]:List Int).length) 8).bind λ_=>some (.next (wr .i64 (x7.1-1),r8.2,(x7.2.2.1,x7.2.2.2.1++([r8.1]:List Int),x7.2.2.2.2)))) (some (.done (x7.2.1,(x7.2.2.1,x7.2.2.2.1,x7.2.2.2.2))))
def Ka (s:aA)(t:ay):Option (ax×aA):=(dQ s 2).bind λr1=>(iter (KE t) ((wr .i64 (1+r1.1)).toNat+2) (wr .i64 (1+r1.1),r1.2,([],[],false))).bind λb5=>(dQ b5.1 3).bind λr6=>(iter (Jh t) (r6.1.toNat+2) (r6.1,r6.2,(b5.2.1,b5.2.2.1,b5.2.2.2))).bind λb10=>(dQ b10.1 8).bind λiA=>(Pt (ax.mk b10.2.1 b10.2.2.1 (iA.1==1))).bind λgB=>some (gB,iA.2)
def Oz (t:ay)(x2:(List ax)×Int×aA):Option (Fl ((List ax)×Int×aA) ((List ax)×aA)):=cond (0<x2.2.1) ((Ka x2.2.2 t).bind λr3=>(aT (x2.1.length+([r3.1]:List ax).length) 56).bind λ_=>some (.next (x2.1++([r3.1]:List ax),wr .i64 (x2.2.1-1),r3.2))) (some (.done (x2.1,x2.2.2)))
def QO (t:ay)(l:List Int):Option (List ax):=(dQ (aA.mk l 0) 5).bind λr1=>(iter (Oz t) (r1.1.toNat+2) ([],r1.1,r1.2)).bind λb5=>some b5.1
def yN (t:ay)(k:Int):Option Bool:=(cond (0<=k) (some (decide (k<(t.aj.length:Int)))) (some false)).bind λq1=>some q1
def Rm (d:ay)(t:aF)(x1:Int):Option (Fl Int (Sum Unit Bool)):=cond (x1<(t.ai.length:Int)) ((ak t.ai x1).bind λe2=>(yN d e2).bind λr3=>cond (!r3) (some (.done (.inr false))) (some (.next (wr .i64 (x1+1))))) (some (.done (.inl ())))
def OO (d:ay)(t:aF)(x24:Int):Option (Fl Int (Sum Unit Bool)):=cond (x24<(t.aS.length:Int)) ((ak t.aS x24).bind λe25=>(yN d e25.iR).bind λqi=>(cond (!qi) (some true) ((H8 e25.bq).bind λuH=>some (!uH))).bind λq28=>(cond q28 (some true) ((cond (0<x24) ((ak t.aS (wr .i64 (x24-1))).bind λe29=>(zT e29.bq e25.bq).bind λNE=>some (decide (0<=NE))) (some false)).bind λq31=>some q31)).bind λq32=>cond q32 (some (.done (.inr false))) (some (.next (wr .i64 (x24+1))))) (some (.done (.inl ())))
def Oj (d:ay)(t:aF):Option Bool:=(iter (Rm d t) ((t.ai.length:Int).toNat+1) 0).bind λb4=>aL (λ_=>(cond (t.af==4) (some true) (some (t.af==6))).bind λq7=>(cond q7 (some true) (some (t.af==19))).bind λq8=>(cond (!(t.af==3)) ((cond (t.Lo != 0) (some true) (some (t.Hi != 0))).bind λq9=>some q9) (some false)).bind λsF=>(cond sF (some true) ((cond (!q8) (some (!(bU t.Text (⟨#[]⟩:ByteArray)))) (some false)).bind λsG=>some sG)).bind λvS=>cond vS (some false) ((cond (t.af != 13) ((cond (0<(t.aS.length:Int)) (some true) (some (!(Dh t.Rest (0,0))))).bind λvX=>some vX) (some false)).bind λNI=>cond NI (some false) (cond (t.af==3) ((cond ((t.ai.length:Int)==0) (some (decide (t.Lo<=t.Hi))) (some false)).bind λEc=>some Ec) (cond (t.af==4) ((cond ((t.ai.length:Int)==0) (some (decide ((t.Text.size:Int)<=64))) (some false)).bind λq16=>some q16) (cond (t.af==6) ((cond ((t.ai.length:Int)==0) ((FP t.Text).bind λgP=>some gP) (some false)).bind λZM=>some ZM) (cond (t.af==19) ((cond ((t.ai.length:Int)==0) ((La t.Text).bind λsP=>some sP) (some false)).bind λNJ=>some NJ) ((cond (t.af==1) (some (t.af==1)) (cond (t.af==2) (some (t.af==2)) (cond (t.af==5) (some (t.af==5)) (cond (t.af==7) (some (t.af==7)) (cond (t.af==8) (some (t.af==8)) (cond (t.af==9) (some (t.af==9)) (cond (t.af==11) (some (t.af==11)) (some (t.af==15))))))))).bind λuz=>cond uz (some ((t.ai.length:Int)==0)) (cond (t.af==10) (some (decide ((t.ai.length:Int)<=4))) (cond (t.af==12) (some ((t.ai.length:Int)==2)) (cond (t.af==14) ((cond (1<=(t.ai.length:Int)) (some (decide ((t.ai.length:Int)<=5))) (some false)).bind λq22=>some q22) ((cond (t.af==16) (some (t.af==16)) (some (t.af==17))).bind λvT=>cond vT (some (decide (1<=(t.ai.length:Int)))) (cond (t.af==18) (some ((t.ai.length:Int)==1)) (cond (t.af==13) ((iter (OO d t) ((t.aS.length:Int).toNat+1) 0).bind λZB=>aL (λ_=>(cond ((t.ai.length:Int)==0) ((yN d t.Rest.1).bind λIz=>some Iz) (some false)).bind λZL=>(cond ZL ((yN d t.Rest.2).bind λr38=>some r38) (some false)).bind λq39=>some q39) (λZE=>some ZE) ZB) (some false)))))))))))))) (λy6=>some y6) b4
def QC (eU:aF):Option Bool:=(cond (eU.af==16) (some true) (some (eU.af==17))).bind λq1=>(cond q1 (some true) (some (eU.af==18))).bind λq2=>some q2
def SK (d:ay)(x2:Int):Option (Fl Int (Sum Unit Int)):=cond (x2<(d.aj.length:Int)) ((ak d.aj x2).bind λe3=>(Oj d e3).bind λr4=>cond (!r4) (some (.done (.inr 1))) (some (.next (wr .i64 (x2+1))))) (some (.done (.inl ())))
def xS (d:ay)(x10:(List Bool)×Int)(dP:(List Bool)×Bool×Int):Option (Fl ((List Bool)×Bool×Int) ((List Bool)×Bool)):=(ak d.aj x10.2).bind λe12=>(QC e12).bind λiy=>(cond iy ((ak d.aj x10.2).bind λe14=>some (decide (dP.2.2<(e14.ai.length:Int)))) (some false)).bind λEc=>cond Ec ((cond dP.2.1 ((ak d.aj x10.2).bind λe16=>(ak e16.ai dP.2.2).bind λe17=>(ak dP.1 e17).bind λ_=>(dP.1[e17.toNat]?).bind λe19=>some e19) (some false)).bind λNJ=>some (.next (dP.1,NJ,wr .i64 (dP.2.2+1)))) (some (.done (dP.1,dP.2.1)))
def C9 (d:ay)(n:Nat)(x10:(List Bool)×Int):Option (Fl ((List Bool)×Int) (List Bool)):=cond (x10.2<(d.aj.length:Int)) ((iter (xS d x10) n (x10.1,true,0)).bind λuz=>(ak uz.1 x10.2).bind λ_=>(uz.1[x10.2.toNat]?).bind λe23=>(cond e23 (some true) (some uz.2)).bind λq24=>(ak uz.1 x10.2).bind λ_=>(uz.1[x10.2.toNat]?).bind λ_=>some (.next (uz.1.set x10.2.toNat q24,wr .i64 (x10.2+1)))) (some (.done x10.1))
def Dj (d:ay)(n:Nat)(x9:(List Bool)×Int):Option (Fl ((List Bool)×Int) (List Bool)):=cond (x9.2<(d.aj.length:Int)) ((iter (C9 d n) ((d.aj.length:Int).toNat+1) (x9.1,0)).bind λIu=>some (.next (Iu,wr .i64 (x9.2+1)))) (some (.done x9.1))
def Jq (x29:(List Bool)×Int):Option (Fl ((List Bool)×Int) (Sum (List Bool) (Int×(List Bool)))):=cond (x29.2<(x29.1.length:Int)) ((ak x29.1 x29.2).bind λ_=>(x29.1[x29.2.toNat]?).bind λe31=>cond (!e31) (some (.done (.inr (3,x29.1)))) (some (.next (x29.1,wr .i64 (x29.2+1))))) (some (.done (.inl x29.1)))
def EY (n:Nat)(d:ay):Option Int:=(yN d d.dh).bind λr1=>cond (!r1) (some 1) ((iter (SK d) ((d.aj.length:Int).toNat+1) 0).bind λb5=>aL (λ_=>(jY (d.aj.length:Int) (d.aj.length:Int) 1).bind λm8=>(iter (Dj d n) ((d.aj.length:Int).toNat+1) (Ll' m8 (false:Bool),0)).bind λxL=>(iter Jq ((xL.length:Int).toNat+1) (xL,0)).bind λb32=>aL (λ_=>some 0) (λy34=>some y34.1) b32) (λy7=>some y7) b5)
def Kr (t:ay)(g:ax)(x3:Int):Option (Fl Int (Sum Unit Bool)):=cond (x3<((g.Pos++g.Neg).length:Int)) ((ak (g.Pos++g.Neg) x3).bind λe4=>(yN t e4).bind λr5=>cond (!r5) (some (.done (.inr false))) (some (.next (wr .i64 (x3+1))))) (some (.done (.inl ())))
def QR (t:ay)(g:ax):Option Bool:=(aT (0+g.Pos.length) 8).bind λ_=>(aT (g.Pos.length+g.Neg.length) 8).bind λ_=>(iter (Kr t g) (((g.Pos++g.Neg).length:Int).toNat+1) 0).bind λb6=>aL (λ_=>some true) (λy8=>some y8) b6
def Sn (v:Val)(k:Key)(x1:Int):Option (Fl Int (Sum Unit Int)):=cond (x1<(v.aU.length:Int)) ((ak v.aU x1).bind λe2=>cond (rV e2 k) (some (.done (.inr x1))) (some (.next (wr .i64 (x1+1))))) (some (.done (.inl ())))
def Qw (v:Val)(k:Key):Option Int:=(iter (Sn v k) ((v.aU.length:Int).toNat+1) 0).bind λb3=>aL (λ_=>some (-1)) (λy5=>some y5) b3
def QZ (eU:aF)(k:Key)(x1:Int):Option (Fl Int (Sum Unit Int)):=cond (x1<(eU.aS.length:Int)) ((ak eU.aS x1).bind λe2=>cond (rV e2.bq k) (some (.done (.inr x1))) (some (.next (wr .i64 (x1+1))))) (some (.done (.inl ())))
def Fe (eU:aF)(k:Key):Option Int:=(iter (QZ eU k) ((eU.aS.length:Int).toNat+1) 0).bind λb3=>aL (λ_=>some (-1)) (λy5=>some y5) b3
def RB (v:Val)(t:ay)(Ed:aF)(IA:(List Val)->ay->(List Int)->Option Bool)(mG:Val->ay->Int->Option Bool)(x1:Int):Option (Fl Int (Sum Unit Bool)):=cond (x1<(v.aW.length:Int)) ((ak v.aW x1).bind λe2=>(cut Ed.ai 0 (wr .i64 ((Ed.ai.length:Int)-1))).bind λy3=>(IA e2.cu t y3).bind λr4=>(cond r4 ((cond e2.Fails (some true) ((ak Ed.ai (wr .i64 ((Ed.ai.length:Int)-1))).bind λe5=>(mG e2.Result t e5).bind λr6=>some (!r6))).bind λq7=>some q7) (some false)).bind λq8=>cond q8 (some (.done (.inr false))) (some (.next (wr .i64 (x1+1))))) (some (.done (.inl ())))
def QG (d:Val)(aQ:aF)(x1:Int):Option (Fl Int (Sum Unit Bool)):=cond (x1<(aQ.aS.length:Int)) ((ak aQ.aS x1).bind λe2=>(cond (!e2.o6) ((ak aQ.aS x1).bind λe3=>(Qw d e3.bq).bind λr4=>some (decide (r4<0))) (some false)).bind λq5=>cond q5 (some (.done (.inr false))) (some (.next (wr .i64 (x1+1))))) (some (.done (.inl ())))
def JN (d:Val)(t:ay)(aQ:aF)(mG:Val->ay->Int->Option Bool)(x9:Int):Option (Fl Int (Sum Unit Bool)):=cond (x9<(d.aU.length:Int)) ((ak d.aU x9).bind λe10=>(Fe aQ e10).bind λiA=>((ak d.aU x9).bind λe12=>cond (e12.af==0) (some aQ.Rest.1) (cond (e12.af==1) (some aQ.Rest.2) none)).bind λb13=>(cond (0<=iA) ((ak aQ.aS iA).bind λe14=>some e14.iR) (some b13)).bind λb15=>(ak d.ai x9).bind λe16=>(mG e16 t b15).bind λgP=>cond (!gP) (some (.done (.inr false))) (some (.next (wr .i64 (x9+1))))) (some (.done (.inl ())))
def LG (d:Val)(t:ay)(e1:aF)(mG:Val->ay->Int->Option Bool)(mF:Int):Option (Fl Int (Sum Unit Bool)):=cond (mF<(e1.ai.length:Int)) ((ak e1.ai mF).bind λe15=>(mG d t e15).bind λr16=>cond r16 (some (.done (.inr true))) (some (.next (wr .i64 (mF+1))))) (some (.done (.inl ())))
def HY (d:Val)(t:ay)(e1:aF)(mG:Val->ay->Int->Option Bool)(x20:Int):Option (Fl Int (Sum Unit Bool)):=cond (x20<(e1.ai.length:Int)) ((ak e1.ai x20).bind λe21=>(mG d t e21).bind λTN=>cond (!TN) (some (.done (.inr false))) (some (.next (wr .i64 (x20+1))))) (some (.done (.inl ())))
def L6 (d:Val)(e1:aF)(x28:Int):Option (Fl Int (Sum Unit Bool)):=cond (x28<(d.bX.length:Int)) ((ak d.bX x28).bind λe29=>cond (bU e29 e1.Text) (some (.done (.inr true))) (some (.next (wr .i64 (x28+1))))) (some (.done (.inl ())))
def I4 (l:List Val)(t:ay)(nodes:List Int)(mG:Val->ay->Int->Option Bool)(x1:Int):Option (Fl Int (Sum Unit Bool)):=cond (x1<(l.length:Int)) ((ak l x1).bind λe2=>(ak nodes x1).bind λe3=>(mG e2 t e3).bind λr4=>cond (!r4) (some (.done (.inr false))) (some (.next (wr .i64 (x1+1))))) (some (.done (.inl ())))
def Wo (_:Nat)(_:Val->ay->aF->Option Bool)(_:Val->ay->aF->Option Bool)(mG:Val->ay->Int->Option Bool)(IA:(List Val)->ay->(List Int)->Option Bool)(v:Val)(t:ay)(Ed:aF):Option Bool:=cond (v.bn != (wr .i64 ((Ed.ai.length:Int)-1))) (some false) ((iter (RB v t Ed IA mG) ((v.aW.length:Int).toNat+1) 0).bind λb9=>aL (λ_=>some true) (λqP=>some qP) b9)
def V7 (_:Nat)(_:Val->ay->aF->Option Bool)(_:Val->ay->aF->Option Bool)(mG:Val->ay->Int->Option Bool)(_:(List Val)->ay->(List Int)->Option Bool)(d:Val)(t:ay)(aQ:aF):Option Bool:=(iter (QG d aQ) ((aQ.aS.length:Int).toNat+1) 0).bind λb6=>aL (λ_=>(iter (JN d t aQ mG) ((d.aU.length:Int).toNat+1) 0).bind λb18=>aL (λ_=>some true) (λy20=>some y20) b18) (λy8=>some y8) b6
def Xb (_:Nat)(Jn':Val->ay->aF->Option Bool)(Jo':Val->ay->aF->Option Bool)(mG:Val->ay->Int->Option Bool)(IA:(List Val)->ay->(List Int)->Option Bool)(d:Val)(t:ay)(aQ:Int):Option Bool:=(ak t.aj aQ).bind λe1=>cond (e1.af==2) (some true) (cond (e1.af==3) ((cond (d.af==1) (some (decide (e1.Lo<=d.bn))) (some false)).bind λq2=>(cond q2 (some (decide (d.bn<=e1.Hi))) (some false)).bind λq3=>some q3) (cond (e1.af==4) ((cond (d.af==2) (some (bU d.Text e1.Text)) (some false)).bind λq4=>some q4) (cond (e1.af==5) (some (d.af==2)) (cond (e1.af==6) ((cond (d.af==3) (some (bU d.Text e1.Text)) (some false)).bind λq5=>some q5) (cond (e1.af==7) (some (d.af==3)) (cond (e1.af==8) (some (d.af==4)) (cond (e1.af==9) (some (d.af==5)) (cond (e1.af==11) (some (d.af==6)) (cond (e1.af==15) (some (d.af==9)) (cond (e1.af==10) ((cond (d.af==6) ((IA d.ai t e1.ai).bind λr6=>some r6) (some false)).bind λq7=>some q7) (cond (e1.af==12) ((cond (d.af==7) ((IA d.ai t e1.ai).bind λr8=>some r8) (some false)).bind λq9=>some q9) (cond (e1.af==13) ((cond (d.af==8) ((Jo' d t e1).bind λfE=>some fE) (some false)).bind λsG=>some sG) (cond (e1.af==14) ((cond (d.af==9) ((Jn' d t e1).bind λgB=>some gB) (some false)).bind λvX=>some vX) (cond (e1.af==16) ((iter (LG d t e1 mG) ((e1.ai.length:Int).toNat+1) 0).bind λb17=>aL (λ_=>some false) (λBl=>some Bl) b17) (cond (e1.af==17) ((iter (HY d t e1 mG) ((e1.ai.length:Int).toNat+1) 0).bind λvT=>aL (λ_=>some true) (λy25=>some y25) vT) (cond (e1.af==18) ((ak e1.ai 0).bind λe26=>(mG d t e26).bind λuH=>some (!uH)) (cond (e1.af==19) ((iter (L6 d e1) ((d.bX.length:Int).toNat+1) 0).bind λM0=>aL (λ_=>some false) (λy32=>some y32) M0) (some false))))))))))))))))))
def JV (_:Nat)(_:Val->ay->aF->Option Bool)(_:Val->ay->aF->Option Bool)(mG:Val->ay->Int->Option Bool)(_:(List Val)->ay->(List Int)->Option Bool)(l:List Val)(t:ay)(nodes:List Int):Option Bool:=cond ((l.length:Int) != (nodes.length:Int)) (some false) ((iter (I4 l t nodes mG) ((l.length:Int).toNat+1) 0).bind λb5=>aL (λ_=>some true) (λy7=>some y7) b5)
def lW:Nat->(Val->ay->aF->Option Bool)×(Val->ay->aF->Option Bool)×(Val->ay->Int->Option Bool)×((List Val)->ay->(List Int)->Option Bool) | 0=>(λ_ _ _=>none,λ_ _ _=>none,λ_ _ _=>none,λ_ _ _=>none) | n+1=>(Wo n ((lW n).1) ((lW n).2.1) ((lW n).2.2.1) ((lW n).2.2.2),V7 n ((lW n).1) ((lW n).2.1) ((lW n).2.2.1) ((lW n).2.2.2),Xb n ((lW n).1) ((lW n).2.1) ((lW n).2.2.1) ((lW n).2.2.2),JV n ((lW n).1) ((lW n).2.1) ((lW n).2.2.1) ((lW n).2.2.2))
def Bv (n:Nat):Val->ay->aF->Option Bool:=(lW n).1
def Dx (n:Nat):Val->ay->aF->Option Bool:=(lW n).2.1
def jc (n:Nat):Val->ay->Int->Option Bool:=(lW n).2.2.1
def AJ (n:Nat):(List Val)->ay->(List Int)->Option Bool:=(lW n).2.2.2
def Ov (v:Val)(t:ay)(g:ax)(n:Nat)(x1:Int):Option (Fl Int (Sum Unit Bool)):=cond (x1<(g.Pos.length:Int)) ((ak g.Pos x1).bind λe2=>(jc n v t e2).bind λr3=>cond (!r3) (some (.done (.inr false))) (some (.next (wr .i64 (x1+1))))) (some (.done (.inl ())))
def Sg (v:Val)(t:ay)(g:ax)(n:Nat)(x7:Int):Option (Fl Int (Sum Unit Bool)):=cond (x7<(g.Neg.length:Int)) ((ak g.Neg x7).bind λe8=>(jc n v t e8).bind λr9=>cond r9 (some (.done (.inr false))) (some (.next (wr .i64 (x7+1))))) (some (.done (.inl ())))
def Yz (n:Nat)(v:Val)(t:ay)(g:ax):Option Bool:=(iter (Ov v t g n) ((g.Pos.length:Int).toNat+1) 0).bind λb4=>aL (λ_=>(iter (Sg v t g n) ((g.Neg.length:Int).toNat+1) 0).bind λb10=>aL (λ_=>(cond (!g.eu) (some true) (some (v.af==5))).bind λvX=>(cond vX (some true) (some (v.af==7))).bind λNI=>some NI) (λIq=>some Iq) b10) (λy6=>some y6) b4
def Qv (n:Nat)(v:Val)(t:ay)(g:ax):Option Bool:=(wI n v).bind λr1=>(cond r1 ((EY n t).bind λr2=>some (r2==0)) (some false)).bind λq3=>(cond q3 ((QR t g).bind λr4=>some r4) (some false)).bind λq5=>(cond q5 ((Yz n v t g).bind λr6=>some r6) (some false)).bind λq7=>some q7
def Qz (n:Nat)(r3:ay×Val)(r4:ax×aA)(r5:List ax)(x9:Int):Option (Fl Int (Sum Unit Bool)):=cond (x9<((r5++([r4.1]:List ax)).length:Int)) ((ak (r5++([r4.1]:List ax)) x9).bind λe10=>(Qv n r3.2 r3.1 e10).bind λiA=>cond iA (some (.done (.inr false))) (some (.next (wr .i64 (x9+1))))) (some (.done (.inl ())))
def Lj (n:Nat)(l:List Int)(g:List Int)(h:List Int)(m:List Int):Option Bool:=(Sr ([l,g,h,m]:List (List Int))).bind λr1=>cond (!r1) ((CP n).bind λr2=>some r2) ((Eo n l m).bind λr3=>(Ka (aA.mk g 0) r3.1).bind λr4=>(QO r3.1 h).bind λr5=>(aT (r5.length+([r4.1]:List ax).length) 56).bind λ_=>(F7 n r3.1 r4.1 (qO.mk (r5++([r4.1]:List ax)))).bind λr7=>cond (!r7) ((CP n).bind λr8=>some r8) ((iter (Qz n r3 r4 r5) (((r5++([r4.1]:List ax)).length:Int).toNat+1) 0).bind λb12=>aL (λ_=>(CP n).bind λgy=>some gy) (λnD=>some nD) b12))
end Go.Qx
namespace Go.Pl
open Go Go.RowKit Go.Sx Go.Qx
theorem aV (x:Int):wr .i64 x=d9 x:=rfl
theorem eZ {α:Type}(b:Bool)(x y:α):(bif b then x else y)=if b=true then x else y:=by cases b<;>rfl
theorem jg {α:Type}(o:Option α):(Option.bind o λx=>some x)=o:=by cases o<;>rfl
theorem dw {α:Type}(l:List α):((l.length:Int)).toNat=l.length:=by omega
theorem V8 (s:ByteArray):((s.size:Int)).toNat=s.size:=by omega
theorem dZ {x:Int}(h1 : -9223372036854775808<=x)(h2:x<=9223372036854775807):d9 x=x:=by unfold d9;rw [IntKind.wrap_i64];omega
theorem aR {α:Type}{xs:List α}{i:Nat}{x:α}(h:xs[i]?=some x):ak xs (i:Int)=some x:=by
 unfold ak;rw [if_pos (by omega)]
 simpa using h
theorem dX {n bytes:Nat}(h:n*bytes<=140737488355328):aT n bytes=some ():=by unfold aT; rw [if_pos h]
theorem nK {σ α St β:Type}{step:St->Option (Fl St β)}(xs:List α)(pack:σ->Nat->St)(F:σ->α->σ)(I:Nat->σ->Prop)(D:σ->β)
 (hstep:∀ i s x,xs[i]?=some x->I i s->step (pack s i)=some (.next (pack (F s x) (i+1)))/\I (i+1) (F s x))
 (hend:∀ s,I xs.length s->step (pack s xs.length)=some (.done (D s))) (s0:σ) (h0:I 0 s0) (k:Nat) (hk:xs.length+1<=k) :
 iter step k (pack s0 0)=some (D (xs.foldl F s0)):=by
 have key:∀ (n i:Nat) (s:σ) (k:Nat),i+n=xs.length->n+1<=k->I i s->iter step k (pack s i)=some (D ((xs.drop i).foldl F s)):=by
  intro n
  induction n with
  | zero =>
    intro i s k hi hk hI;have e:i=xs.length:=by omega
    subst e;obtain ⟨k,rfl⟩:∃ m,k=m+1:=⟨k-1,by omega⟩
    simp [iter,hend s hI]
  | succ n ih =>
    intro i s k hi hk hI;have hlt:i<xs.length:=by omega
    obtain ⟨k,rfl⟩:∃ m,k=m+1:=⟨k-1,by omega⟩
    obtain ⟨h1,h2⟩:=hstep i s xs[i] (Lb' hlt) hI;rw [LO' hlt,Mu'];simp only [iter,h1,KY'];exact ih (i+1) _ k (by omega) (by omega) h2
 have:=key xs.length 0 s0 k (by omega) hk h0
 simpa using this
def qK (s:ByteArray):Nat:=s.size+1
def iN:List ByteArray->Nat
 | []=>0
 | s::r=>qK s+iN r
def wV (k:Key):Nat:=1+qK k.Text+1
def dK:List Key->Nat
 | []=>0
 | s::r=>wV s+dK r
mutual
def bD:Val->Nat
 | .mk _ _ t kids keys nY nZ=>1+1+qK t+(bL kids+1)+(dK keys+1)+(dz nY+1)+(iN nZ+1)+1
def bL:List Val->Nat
 | []=>0
 | x::r=>bD x+bL r
def pK:aD->Nat
 | .mk args _ res=>(bL args+1)+1+bD res+1
def dz:List aD->Nat
 | []=>0
 | x::r=>pK x+dz r
end
theorem tO (v:Val):bD v=1+1+qK v.Text+(bL v.ai+1)+(dK v.aU+1)+(dz v.aW+1)+(iN v.bX+1)+1:=by cases v; simp only [bD,Val.Text,Val.ai,Val.aU,Val.aW,Val.bX]
theorem rT (v:aD):pK v=(bL v.cu+1)+1+bD v.Result+1:=by cases v; simp only [pK,aD.cu,aD.Result]
theorem vC {x:Val}:∀ {l:List Val},x∈l->bD x<=bL l
 | y::r,h=>by
   simp only [bL];rcases Lq'.1 h with rfl | h
   ·omega
   ·have:=vC h; omega
theorem vI {x:aD}:∀ {l:List aD},x∈l->pK x<=dz l
 | y::r,h=>by
   simp only [dz];rcases Lq'.1 h with rfl | h
   ·omega
   ·have:=vI h; omega
theorem Ho:∀ (l:List Val),l.length<=bL l
 | []=>Lg' _
 | x::r=>by have:=Ho r; have:=tO x; simp only [bL,Ld']; omega
theorem Dl:∀ (l:List aD),l.length<=dz l
 | []=>Lg' _
 | x::r=>by have:=Dl r; have:=rT x; simp only [dz,Ld']; omega
theorem P6:∀ (l:List Key),l.length<=dK l
 | []=>Lg' _
 | x::r=>by have:=P6 r; simp only [dK,wV,Ld']; omega
theorem Km:∀ (l:List ByteArray),l.length<=iN l
 | []=>Lg' _
 | x::r=>by have:=Km r; simp only [iN,qK,Ld']; omega
theorem uf (l m:List Val):bL (l++m)=bL l+bL m:=by
 induction l with
 | nil=>simp [bL]
 | cons x r ih=>simp only [Mg',bL,ih]; omega
theorem LD (v:Val):8<=bD v:=by rw [tO]; unfold qK; omega
def vg (e:aD):List Val:=e.cu++(if e.Fails then [] else [e.Result])
def xh (v:Val):List Val:=v.ai++v.aW.flatMap vg
theorem rC' (e:aD):bL (vg e)<pK e:=by rw [rT,vg,uf];cases e.Fails<;>simp [bL]<;>omega
theorem kC':∀ l:List aD,bL (l.flatMap vg)<=dz l
 | []=>by simp [bL]
 | e::r=>by have h1:=kC' r;have h2:=rC' e;simp only [Mk',uf,dz];omega
theorem ve' (v:Val):bL (xh v)<bD v:=by have:=kC' v.aW;rw [tO,xh,uf];omega
theorem Ar {α β:Type}(f:β->List α):∀ (l:List β) (s:List α),l.foldl (λs x=>s++f x) s=s++l.flatMap f
 | [],s=>by simp
 | x::r,s=>by simp only [Mu',Ar f r,Mk',Lt']
theorem zI {α:Type}{l:List α}{i:Nat}{x:α}(h:l[i]?=some x):l.take (i+1)=l.take i++[x]:=by rw [List.take_add_one,h]; rfl
theorem Ec' {α:Type}(m:List (ByteArray×α))(k j:ByteArray)(v:α):gQ (jG m k v) j=if j=k then some v else gQ m j:=by
 induction m with
 | nil =>
   simp only [jG,gQ];by_cases h:j=k
   ·rw [if_pos h,(MapKept.bytes_beq j k).2 h]; rfl
   ·rw [if_neg h];cases hb:j==k
    ·rfl
    ·exact absurd ((MapKept.bytes_beq j k).1 hb) h
 | cons x r ih =>
   simp only [jG];cases hb:k==x.1
   ·simp only [cond_false,gQ];cases hj:j==x.1
    ·simp only [cond_false]; exact ih
    ·simp only [cond_true];have e:=(MapKept.bytes_beq j x.1).1 hj;have:j≠k:=λe2=>by rw [<- e2,hj] at hb; cases hb
     rw [if_neg this]
   ·have e:=(MapKept.bytes_beq k x.1).1 hb;simp only [cond_true,gQ];by_cases h:j=k
    ·rw [if_pos h,(MapKept.bytes_beq j k).2 h]; rfl
    ·rw [if_neg h];cases hj:j==k
     ·simp only [cond_false];cases hj2:j==x.1
      ·rfl
      ·exact absurd (((MapKept.bytes_beq j x.1).1 hj2).trans e.symm) h
     ·exact absurd ((MapKept.bytes_beq j k).1 hj) h
def tn (x y:Int):Int:=if x=0 then y else x
def cI (x y:Int):Int:=if x<y then -1 else if y<x then 1 else 0
def lx:List Int->List Int->Int
 | [],[]=>0
 | [],_::_ => -1
 | _::_,[]=>1
 | x::xs,y::ys=>tn (cI x y) (lx xs ys)
theorem FW (x y z:Int):tn (tn x y) z=tn x (tn y z):=by unfold tn; split<;>simp_all
theorem EX (x:Int):tn x 0=x:=by unfold tn; split<;>simp_all
theorem AB (x:Int):tn 0 x=x:=by simp [tn]
theorem je (x y:Int):(x<y/\cI x y = -1)\/(y<x/\cI x y=1)\/(x=y/\cI x y=0):=by
 unfold cI;by_cases h:x<y
 ·left; simp [h]
 ·by_cases h2:y<x
  ·right; left; simp [h,h2]
  ·right; right; simp [h,h2]; omega
theorem Mf:∀ a b:List Int,lx b a = - lx a b
 | [],[]=>by simp [lx]
 | [],_::_=>by simp [lx]
 | _::_,[]=>by simp [lx]
 | x::xs,y::ys=>by have:=Mf xs ys;rcases je x y with ⟨h1,h⟩ | ⟨h1,h⟩ | ⟨h1,h⟩<;>rcases je y x with ⟨h2,k⟩ | ⟨h2,k⟩ | ⟨h2,k⟩<;>simp [lx,h,k,tn]<;>omega
theorem Vg:∀ a b c:List Int,lx a b<=0->lx b c<=0->lx a c<=0
 | [],_,[],_,_=>by simp [lx]
 | [],_,_::_,_,_=>by simp [lx]
 | _::_,[],_,h,_=>by simp [lx] at h
 | _::_,_::_,[],_,h=>by simp [lx] at h
 | x::xs,y::ys,z::zs,h1,h2=>by
   have:=Vg xs ys zs;rcases je x y with ⟨p1,h⟩ | ⟨p1,h⟩ | ⟨p1,h⟩<;>rcases je y z with ⟨p2,k⟩ | ⟨p2,k⟩ | ⟨p2,k⟩ <;>
    rcases je x z with ⟨p3,l⟩ | ⟨p3,l⟩ | ⟨p3,l⟩<;>simp [lx,h,k,l,tn] at h1 h2 ⊢<;>first | omega | (exact this (by omega) (by omega))
theorem jf':∀ a:List Int,lx a a=0:=by intro a; have:=Mf a a; omega
def lU:List UInt8->List UInt8->Int
 | [],[]=>0
 | [],_::_ => -1
 | _::_,[]=>1
 | x::xs,y::ys=>tn (cI x.toNat y.toNat) (lU xs ys)
def Ah:List UInt8->List Int
 | []=>[0]
 | x::r=>((x.toNat:Int)+1)::Ah r
theorem pH' (x y:Int):cI (x+1) (y+1)=cI x y:=by
 unfold cI;by_cases h:x<y
 ·rw [if_pos (by omega),if_pos h]
 ·rw [if_neg (by omega),if_neg h]
  by_cases h2:y<x
  ·rw [if_pos (by omega),if_pos h2]
  ·rw [if_neg (by omega),if_neg h2]
theorem eM':∀ (a b:List UInt8) (r s:List Int),lx (Ah a++r) (Ah b++s)=tn (lU a b) (lx r s)
 | [],[],r,s=>by simp [Ah,lx,lU,cI,AB]
 | [],y::ys,r,s=>by
   have:cI 0 ((y.toNat:Int)+1) = -1:=by unfold cI; rw [if_pos (by omega)]
   simp [Ah,lx,lU,this,tn]
 | x::xs,[],r,s=>by
   have:cI ((x.toNat:Int)+1) 0=1:=by unfold cI; rw [if_neg (by omega),if_pos (by omega)]
   simp [Ah,lx,lU,this,tn]
 | x::xs,y::ys,r,s=>by simp only [Ah,Mg',lx,lU,pH',eM' xs ys,FW]
def cS (a b:ByteArray):Int:=lU a.data.toList b.data.toList
def eS (a:ByteArray):List Int:=Ah a.data.toList
theorem OY (a b:ByteArray)(r s:List Int):lx (eS a++r) (eS b++s)=tn (cS a b) (lx r s):=eM' _ _ r s
def cK (a b:Key):Int:=tn (cI a.af b.af) (cS a.Text b.Text)
def eK (a:Key):List Int:=a.af::eS a.Text
theorem pfK (a b:Key)(r s:List Int):lx (eK a++r) (eK b++s)=tn (cK a b) (lx r s):=by simp only [eK,Mg',lx,OY,cK,FW]
def cL {α:Type}(c:α->α->Int):List α->List α->Int
 | [],_=>0
 | _::_,[]=>0
 | x::xs,y::ys=>tn (c x y) (cL c xs ys)
def cN {α:Type}(c:α->α->Int)(xs ys:List α):Int:=tn (cI (xs.length:Int) (ys.length:Int)) (cL c xs ys)
def eN {α:Type}(e:α->List Int)(xs:List α):List Int:=(xs.length:Int)::xs.flatMap e
theorem pfL {α:Type}{c:α->α->Int}{e:α->List Int}:∀ (xs ys:List α) (r s:List Int),(∀ x∈xs,∀ y r s,lx (e x++r) (e y++s)=tn (c x y) (lx r s))->xs.length=ys.length ->
 lx (xs.flatMap e++r) (ys.flatMap e++s)=tn (cL c xs ys) (lx r s)
 | [],[],r,s,_,_=>by simp [cL,AB]
 | [],_::_,_,_,_,h=>by simp at h
 | _::_,[],_,_,_,h=>by simp at h
 | x::xs,y::ys,r,s,hc,h=>by simp only [Mk',Lt',cL];rw [hc x (by simp),pfL xs ys r s (λz hz=>hc z (by simp [hz])) (by simpa using h),FW]
theorem L9 {α:Type}{c:α->α->Int}{e:α->List Int}(xs ys:List α)(r s:List Int)(hc:∀ x∈xs,∀ y r s,lx (e x++r) (e y++s)=tn (c x y) (lx r s)) :
 lx (eN e xs++r) (eN e ys++s)=tn (cN c xs ys) (lx r s):=by
 simp only [eN,Mg',lx,cN,FW];rcases je (xs.length:Int) (ys.length:Int) with ⟨_,h⟩ | ⟨_,h⟩ | ⟨h1,h⟩
 ·simp [h,tn]
 ·simp [h,tn]
 ·rw [h,AB,AB,pfL xs ys r s hc (by omega)]
def bI (b:Bool):Int:=if b then 0 else 1
mutual
def cV:Val->Val->Int
 | .mk k n t kids keys nY nZ,b=>tn (cI k b.af) (tn (cI n b.bn) (tn (cS t b.Text) (tn (cN cK keys b.aU) (tn (tn (cI (kids.length:Int) (b.ai.length:Int)) (Cb kids b.ai)) (tn (tn (cI (nY.length:Int) (b.aW.length:Int)) (F8 nY b.aW)) (cN cS nZ b.bX))))))
def Cb:List Val->List Val->Int
 | [],_=>0
 | _::_,[]=>0
 | x::xs,y::ys=>tn (cV x y) (Cb xs ys)
def cE:aD->aD->Int
 | .mk args f res,b=>tn (tn (cI (args.length:Int) (b.cu.length:Int)) (Cb args b.cu)) (tn (cI (bI f) (bI b.Fails)) (cV res b.Result))
def F8:List aD->List aD->Int
 | [],_=>0
 | _::_,[]=>0
 | x::xs,y::ys=>tn (cE x y) (F8 xs ys)
end
theorem WC:∀ xs ys:List Val,Cb xs ys=cL cV xs ys
 | [],_=>by simp [Cb,cL]
 | _::_,[]=>by simp [Cb,cL]
 | x::xs,y::ys=>by simp only [Cb,cL,WC xs ys]
theorem dI':∀ xs ys:List aD,F8 xs ys=cL cE xs ys
 | [],_=>by simp [F8,cL]
 | _::_,[]=>by simp [F8,cL]
 | x::xs,y::ys=>by simp only [F8,cL,dI' xs ys]
theorem ir' (a b:Val):cV a b=tn (cI a.af b.af) (tn (cI a.bn b.bn) (tn (cS a.Text b.Text) (tn (cN cK a.aU b.aU) (tn (cN cV a.ai b.ai) (tn (cN cE a.aW b.aW) (cN cS a.bX b.bX)))))):=by cases a; simp only [cV,WC,dI',cN,Val.af,Val.bn,Val.Text,Val.aU,Val.ai,Val.aW,Val.bX]
theorem bK' (a b:aD):cE a b=tn (cN cV a.cu b.cu) (tn (cI (bI a.Fails) (bI b.Fails)) (cV a.Result b.Result)):=by cases a; simp only [cE,WC,cN,aD.cu,aD.Fails,aD.Result]
mutual
def eV:Val->List Int
 | .mk k n t kids keys nY nZ=>k::n::(eS t++(eN eK keys++(((kids.length:Int)::Hz kids)++(((nY.length:Int)::I6 nY)++eN eS nZ))))
def Hz:List Val->List Int
 | []=>[]
 | x::xs=>eV x++Hz xs
def eE:aD->List Int
 | .mk args f res=>((args.length:Int)::Hz args)++(bI f::eV res)
def I6:List aD->List Int
 | []=>[]
 | x::xs=>eE x++I6 xs
end
theorem Yq:∀ xs:List Val,Hz xs=xs.flatMap eV
 | []=>by simp [Hz]
 | x::xs=>by simp only [Hz,Mk',Yq xs]
theorem in':∀ xs:List aD,I6 xs=xs.flatMap eE
 | []=>by simp [I6]
 | x::xs=>by simp only [I6,Mk',in' xs]
theorem eE' (a:Val):eV a=a.af::a.bn::(eS a.Text++(eN eK a.aU++(eN eV a.ai++(eN eE a.aW++eN eS a.bX)))):=by cases a; simp only [eV,Yq,in',eN,Val.af,Val.bn,Val.Text,Val.aU,Val.ai,Val.aW,Val.bX]
theorem aZ' (a:aD):eE a=eN eV a.cu++(bI a.Fails::eV a.Result):=by cases a; simp only [eE,Yq,eN,aD.cu,aD.Fails,aD.Result]
theorem bn':∀ n:Nat,(∀ a:Val,bD a<=n->∀ b r s,lx (eV a++r) (eV b++s)=tn (cV a b) (lx r s))/\(∀ a:aD,pK a<=n->∀ b r s,lx (eE a++r) (eE b++s)=tn (cE a b) (lx r s)):=by
 intro n
 induction n with
 | zero=>exact ⟨λa h=>by have:=LD a; omega,λa h=>by have:=rT a; omega⟩
 | succ n ih =>
   refine ⟨λa h b r s=>?_,λa h b r s=>?_⟩
   ·have hb:=tO a;rw [eE' a,eE' b,ir'];simp only [Mg',Lt',lx,FW];rw [OY,L9 a.aU b.aU _ _ (λx _ y r s=>pfK x y r s),L9 a.ai b.ai _ _ (λx hx=>ih.1 x (by have:=vC hx; omega)),
     L9 a.aW b.aW _ _ (λx hx=>ih.2 x (by have:=vI hx; omega)),L9 a.bX b.bX _ _ (λx _ y r s=>OY x y r s)]
   ·have hb:=rT a;rw [aZ' a,aZ' b,bK'];simp only [Lt',FW];rw [L9 a.cu b.cu _ _ (λx hx=>ih.1 x (by have:=vC hx; omega))]
    simp only [Mg',lx];rw [ih.1 a.Result (by omega)]
theorem CQ' (a b:Val):cV a b=lx (eV a) (eV b):=by have:=(bn' (bD a)).1 a (Lg' _) b [] [];simpa [lx,EX] using this.symm
theorem wI' (a:Val):cV a a=0:=by rw [CQ']; exact jf' _
theorem sA' (a b:Int):Ra a b=some (cI a b):=by
 unfold Ra OL;simp only [eZ,bne_self_eq_false,KY',Mi',if_false];rcases je a b with ⟨h,e⟩ | ⟨h,e⟩ | ⟨h,e⟩
 ·rw [if_pos (by simpa using h),e]
 ·rw [if_neg (by simp; omega),if_pos (by simpa using h),e]
 ·rw [if_neg (by simp; omega),if_neg (by simp; omega),e]
theorem Yf (a b:Int):Fq a b=some (cI a b):=by
 unfold Fq;simp only [eZ];rcases je a b with ⟨h,e⟩ | ⟨h,e⟩ | ⟨h,e⟩
 ·rw [if_pos (by simpa using h),e]
 ·rw [if_neg (by simp; omega),if_pos (by simpa using h),e]
 ·rw [if_neg (by simp; omega),if_neg (by simp; omega),e]
theorem eb' (a b:Int):yB a b=some (cI a b):=by unfold yB; rw [Yf]; rfl
theorem jI':∀ a b:List UInt8,Lib.compareBytes a b=lU a b
 | [],[]=>rfl
 | [],_::_=>rfl
 | _::_,[]=>rfl
 | x::xs,y::ys=>by
   have ih:=jI' xs ys;simp only [Lib.compareBytes,lU,UInt8.lt_iff_toNat_lt];rcases je (x.toNat:Int) (y.toNat:Int) with ⟨h,e⟩ | ⟨h,e⟩ | ⟨h,e⟩
   ·rw [if_pos (by omega),e]; rfl
   ·rw [if_neg (by omega),if_pos (by omega),e]; rfl
   ·rw [if_neg (by omega),if_neg (by omega),e,AB,ih]
theorem CP' (a b:ByteArray):QH a b=some (cS a b):=by unfold QH Wm Jo Lx;rw [jI']; rfl
theorem VH:∀ a b:List UInt8,(Op.bytesLess a b=true/\lU a b = -1/\a≠b)\/(Op.bytesLess a b=false/\lU a b=0/\a=b)\/(Op.bytesLess a b=false/\lU a b=1/\a≠b)
 | [],[]=>by simp [Op.bytesLess,lU]
 | [],_::_=>by simp [Op.bytesLess,lU]
 | _::_,[]=>by simp [Op.bytesLess,lU]
 | x::xs,y::ys=>by
   have ih:=VH xs ys;simp only [Op.bytesLess,lU];rcases je (x.toNat:Int) (y.toNat:Int) with ⟨h,e⟩ | ⟨h,e⟩ | ⟨h,e⟩
   ·have h1:x<y:=UInt8.lt_iff_toNat_lt.2 (by omega)
    have h2:x≠y:=by intro h3; subst h3; omega
    simp [e,h1,h2,tn]
   ·have h1:¬ x<y:=λh3=>by have:=UInt8.lt_iff_toNat_lt.1 h3; omega
    have h2:x≠y:=by intro h3; subst h3; omega
    simp [e,h1,h2,tn]
   ·have h2:x=y:=UInt8.toNat_inj.1 (by omega)
    subst h2;have h1:¬ x<x:=λh3=>by have:=UInt8.lt_iff_toNat_lt.1 h3; omega
    simpa [e,h1,tn] using ih
theorem Ev (a b:ByteArray):(jI a b=true/\bU a b=false/\cS a b = -1)\/(jI a b=false/\bU a b=true/\cS a b=0)\/(jI a b=false/\bU a b=false/\cS a b=1):=by
 unfold jI bU cS;rw [Lib.toList_data,Lib.toList_data];rcases VH a.data.toList b.data.toList with ⟨h,e,n⟩ | ⟨h,e,n⟩ | ⟨h,e,n⟩
 ·left; exact ⟨h,by simpa using n,e⟩
 ·right; left; exact ⟨h,by simpa using n,e⟩
 ·right; right; exact ⟨h,by simpa using n,e⟩
theorem WG (a b:ByteArray):Ab a b=some (cS a b):=by unfold Ab;rcases Ev a b with ⟨h,k,e⟩ | ⟨h,k,e⟩ | ⟨h,k,e⟩<;>simp [h,k,e]
theorem Xc {x y:Int}{o:Option Int}(h:o=some y):(bif (x != 0) then some x else o)=some (tn x y):=by
 rw [eZ];unfold tn;by_cases hx:x=0
 ·subst hx; simp [h]
 ·simp [hx]
theorem Wt {a b y:Int}{o:Option Int}(h:o=some y):(bif (a != b) then some (cI a b) else o)=some (tn (cI a b) y):=by
 rw [eZ];unfold tn;rcases je a b with ⟨p,e⟩ | ⟨p,e⟩ | ⟨p,e⟩
 ·have:a≠b:=by omega
  simp [this,e]
 ·have:a≠b:=by omega
  simp [this,e]
 ·simp [p,h];subst p;intro h2; rw [e] at h2; exact absurd rfl h2
theorem Dr' {a b:ByteArray}{y:Int}{o:Option Int}(h:o=some y):(bif (!bU a b) then ((Ab a b).bind λr=>some r) else o)=some (tn (cS a b) y):=by rw [eZ,WG,h];rcases Ev a b with ⟨_,p,e⟩ | ⟨_,p,e⟩ | ⟨_,p,e⟩<;>simp [p,e,tn]
theorem jT' (a b:Key):Df a b=some (cK a b):=by unfold Df;rw [sA'];simp only [KY'];exact Xc (by rw [CP']; rfl)
theorem PG (a b:Key):zT a b=some (cK a b):=by unfold zT;rw [Yf];exact Wt (by rw [WG]; rfl)
theorem vQ' {α:Type}{step:Int->Option (Fl Int (Sum Unit Int))}{rc:α->α->Option Int}{c:α->α->Int}(xs ys:List α)(hlen:xs.length=ys.length)
 (hst:∀ q,step q=bif q<(xs.length:Int) then (ak xs q).bind λx=>(ak ys q).bind λy=>(rc x y).bind λr =>
   bif r != 0 then some (.done (.inr r)) else some (.next (wr .i64 (q+1))) else some (.done (.inl ())))
 (hrc:∀ x∈xs,∀ y,rc x y=some (c x y)) (hl:xs.length<=4194304) :
 ∃ o,iter step (xs.length+1) 0=some o/\((o=.inl ()/\cL c xs ys=0)\/(o=.inr (cL c xs ys)/\cL c xs ys≠0)):=by
 have key:∀ (n i k:Nat),i+n=xs.length->n+1<=k ->
  ∃ o,iter step k (i:Int)=some o/\((o=.inl ()/\cL c (xs.drop i) (ys.drop i)=0)\/(o=.inr (cL c (xs.drop i) (ys.drop i))/\cL c (xs.drop i) (ys.drop i)≠0)):=by
  intro n
  induction n with
  | zero =>
    intro i k hi hk;obtain ⟨k,rfl⟩:∃ m,k=m+1:=⟨k-1,by omega⟩
    refine ⟨.inl (),?_,.inl ⟨rfl,?_⟩⟩
    ·simp only [iter,hst,eZ];rw [if_neg (by simp; omega)]
     rfl
    ·rw [List.drop_eq_nil_of_le (by omega)]; simp [cL]
  | succ n ih =>
    intro i k hi hk;obtain ⟨k,rfl⟩:∃ m,k=m+1:=⟨k-1,by omega⟩
    have hx:i<xs.length:=by omega
    have hy:i<ys.length:=by omega
    rw [LO' hx,LO' hy];have e:step (i:Int)=if (c xs[i] ys[i] != 0)=true then some (.done (.inr (c xs[i] ys[i]))) else some (.next (d9 ((i:Int)+1))):=by
     rw [hst];simp only [eZ,aV];rw [if_pos (by simp; omega),aR (Lb' hx),aR (Lb' hy)]
     simp only [KY'];rw [hrc _ (Lu' hx)];rfl
    simp only [iter,e,cL];by_cases h0:c xs[i] ys[i]=0
    ·rw [h0,AB,dZ (x:=(i:Int)+1) (by omega) (by omega)]
     obtain ⟨o,ho,hp⟩:=ih (i+1) k (by omega) (by omega)
     refine ⟨o,?_,hp⟩;simpa using ho
    ·have ht:tn (c xs[i] ys[i]) (cL c (xs.drop (i+1)) (ys.drop (i+1)))=c xs[i] ys[i]:=by simp [tn,h0]
     rw [ht];refine ⟨.inr (c xs[i] ys[i]),?_,.inr ⟨rfl,h0⟩⟩;simp [h0]
 obtain ⟨o,h1,h2⟩:=key xs.length 0 (xs.length+1) (by omega) (Lg' _)
 exact ⟨o,by simpa using h1,by simpa using h2⟩
theorem qV' {α:Type}{step:Int->Option (Fl Int (Sum Unit Int))}{rc:α->α->Option Int}{c:α->α->Int}(xs ys:List α)(hlen:xs.length=ys.length)
 (hst:∀ q,step q=bif q<(xs.length:Int) then (ak xs q).bind λx=>(ak ys q).bind λy=>(rc x y).bind λr =>
   bif r != 0 then some (.done (.inr r)) else some (.next (wr .i64 (q+1))) else some (.done (.inl ())))
 (hrc:∀ x∈xs,∀ y,rc x y=some (c x y)) (hl:xs.length<=4194304) {f:Unit->Option Int} {z:Int} (hf:∀ q,f q=some z) :
 ((iter step (((xs.length:Int)).toNat+1) 0).bind λb=>aL f (λr=>some r) b)=some (tn (cL c xs ys) z):=by
 obtain ⟨o,h1,h2⟩:=vQ' xs ys hlen hst hrc hl;rw [dw,h1];rcases h2 with ⟨rfl,h⟩ | ⟨rfl,h⟩
 ·simp [aL,hf,h,tn]
 ·simp [aL,h,tn]
theorem R6 {α:Type}{step:Int->Option (Fl Int (Sum Unit Int))}{rc:α->α->Option Int}{c:α->α->Int}(xs ys:List α)
 (hst:∀ q,step q=bif q<(xs.length:Int) then (ak xs q).bind λx=>(ak ys q).bind λy=>(rc x y).bind λr =>
   bif r != 0 then some (.done (.inr r)) else some (.next (wr .i64 (q+1))) else some (.done (.inl ())))
 (hrc:∀ x∈xs,∀ y,rc x y=some (c x y)) (hl:xs.length<=4194304) {f:Unit->Option Int} {z:Int} (hf:∀ q,f q=some z) :
 (bif ((xs.length:Int) != (ys.length:Int)) then ((yB (xs.length:Int) (ys.length:Int)).bind λr=>some r) else
   ((iter step (((xs.length:Int)).toNat+1) 0).bind λb=>aL f (λr=>some r) b))=some (tn (cN c xs ys) z):=by
 rw [eZ,eb'];simp only [KY',cN];rcases je (xs.length:Int) (ys.length:Int) with ⟨p,e⟩ | ⟨p,e⟩ | ⟨p,e⟩
 ·have:((xs.length:Int) != (ys.length:Int))=true:=by simp; omega
  rw [if_pos this,e]; rfl
 ·have:((xs.length:Int) != (ys.length:Int))=true:=by simp; omega
  rw [if_pos this,e]; rfl
 ·rw [if_neg (by simp; omega),qV' xs ys (by omega) hst hrc hl hf,e,AB]
theorem JX:∀ (k:Nat),
 (∀ a b,2*bD a<=k->bD a<=4194304->zW k a b=some (cV a b)) /\
 (∀ xs ys,2*bL xs+1<=k->bL xs<=4194304->LZ k xs ys=some (cN cV xs ys)) /\
 (∀ a b,2*pK a<=k->pK a<=4194304->tC k a b=some (cE a b))
 | 0=>⟨λv _ h=>by have:=LD v; omega,λ_ _ h=>by omega,λv _ h=>by have:=rT v; omega⟩
 | k+1=>by
   obtain ⟨i1,i2,i3⟩:=JX k;refine ⟨?_,?_,?_⟩
   ·intro a b h hb;show V4 k (zW k) (LZ k) (tC k) a b=_;have hbe:=tO a;have hk:=P6 a.aU;have hs:=Km a.bX;have he:=Dl a.aW;unfold V4;rw [ir',eb',Yf];simp only [KY'];refine Wt (Wt (Dr' ?_));refine R6 (step:=il' a b) a.aU b.aU (rc:=zT) (c:=cK) (λq=>rfl) (λx _ y=>PG x y) (by omega) ?_
    intro _;rw [i2 a.ai b.ai (by omega) (by omega)]
    simp only [KY'];refine Xc ?_;refine R6 (step:=dB' a b (tC k)) a.aW b.aW (rc:=tC k) (c:=cE) (λq=>rfl) (λx hx y=>i3 x y (by have:=vI hx; omega) (by have:=vI hx; omega)) (by omega) ?_
    intro _;have:=R6 (step:=ip' a b) a.bX b.bX (rc:=Ab) (c:=cS) (z:=0) (λq=>rfl) (λx _ y=>WG x y) (by omega) (f:=λ_=>some 0) (λ_=>rfl)
    rw [EX] at this;exact this
   ·intro xs ys h hb;show Vd k (zW k) (LZ k) (tC k) xs ys=_;have hl:=Ho xs;unfold Vd;rw [R6 (step:=eL' xs ys (zW k)) xs ys (rc:=zW k) (c:=cV) (z:=0) (λq=>rfl) (λx hx y=>i1 x y (by have:=vC hx; omega) (by have:=vC hx; omega)) (by omega) (λ_=>rfl),EX]
   ·intro a b h hb;show VY k (zW k) (LZ k) (tC k) a b=_;have hbe:=rT a;unfold VY;rw [bK',i2 a.cu b.cu (by omega) (by omega),i1 a.Result b.Result (by omega) (by omega)]
    simp only [KY'];refine Xc ?_;cases a.Fails<;>cases b.Fails<;>simp [bI,cI,tn]
theorem Yx {step:Int->Option (Fl Int (Sum Unit Bool))}(n:Nat)(p:Nat->Bool)
 (hst:∀ i:Nat,i<n->step (i:Int)=some (if p i=true then .next ((i+1:Nat):Int) else .done (.inr false)))
 (hend:∀ i:Nat,n<=i->step (i:Int)=some (.done (.inl ()))) (i0:Nat) (b:Bool) (hb:b=true↔∀ i,i0<=i->i<n->p i=true) :
 (iter step (n+1) (i0:Int)).bind (aL (λ_=>some true) (λr=>some r))=some b:=by
 have gJ:∀ (i k:Nat),n<=i->(∀ j,i0<=j->j<i->j<n->p j=true)->(iter step (k+1) (i:Int)).bind (aL (λ_=>some true) (λr=>some r))=some b:=by
  intro i k h1 h4;simp only [iter,hend i h1,KY',aL];have:b=true:=hb.2 λj a c=>h4 j a (by omega) c
  rw [this]
 have key:∀ (m i k:Nat),n<=i+m->m+1<=k->i0<=i->(∀ j,i0<=j->j<i->j<n->p j=true)->(iter step k (i:Int)).bind (aL (λ_=>some true) (λr=>some r))=some b:=by
  intro m
  induction m with
  | zero =>
    intro i k h1 h2 h3 h4;obtain ⟨k,rfl⟩:∃ m,k=m+1:=⟨k-1,by omega⟩
    exact gJ i k (by omega) h4
  | succ m ih =>
    intro i k h1 h2 h3 h4;obtain ⟨k,rfl⟩:∃ m,k=m+1:=⟨k-1,by omega⟩
    by_cases hlt:i<n
    ·simp only [iter,hst i hlt];cases hp:p i
     ·simp only [Mi',if_false,KY',aL];have:b=false:=by
       cases b
       ·rfl
       ·have:=hb.1 rfl i h3 hlt;rw [hp] at this; cases this
      rw [this]
     ·simp only [if_true,KY'];refine ih (i+1) k (by omega) (by omega) (by omega) (λj a c d=>?_)
      by_cases e:j<i
      ·exact h4 j a e d
      ·have:j=i:=by omega
       subst this; exact hp
    ·exact gJ i k (by omega) h4
 exact key n i0 (n+1) (by omega) (by omega) (Lg' _) (λj a c=>by omega)
theorem bF (i:Nat)(h:i<=4611686018427387904):d9 ((i:Int)+1)=((i+1:Nat):Int):=by rw [dZ (by omega) (by omega)]; rfl
theorem yV (b:Bool)(x:Int):(bif (!b) then some (Fl.done (Sum.inr false)) else some (Fl.next x))=some (if b=true then Fl.next x else (Fl.done (Sum.inr false):Fl Int (Sum Unit Bool))):=by cases b<;>rfl
def bC {α:Type}(c:α->α->Int):List α->Bool
 | x::y::r=>decide (c x y<0)&&bC c (y::r)
 | _=>true
theorem Qf {α:Type}(c:α->α->Int):∀ xs:List α,bC c xs=true↔∀ i,1<=i->(hi:i<xs.length)->c xs[i-1] xs[i]<0
 | []=>by simp [bC]
 | [x]=>by simp only [bC,true_iff];intro i h1 hi;simp at hi; omega
 | x::y::r=>by
   have ih:=Qf c (y::r);simp only [bC,Lc',decide_eq_true_eq,ih];constructor
   ·intro ⟨h1,h2⟩ i hi hl;obtain ⟨i,rfl⟩:∃ m,i=m+1:=⟨i-1,by omega⟩
    cases i with
    | zero=>exact h1
    | succ i=>exact h2 (i+1) (by omega) (by simpa using hl)
   ·intro h;refine ⟨h 1 (by omega) (by simp),λi hi hl=>?_⟩
    obtain ⟨i,rfl⟩:∃ m,i=m+1:=⟨i-1,by omega⟩
    have:=h (i+2) (by omega) (by simpa using hl)
    simpa using this
def mU (c:UInt8):Bool:=decide (97<=(c.toNat:Int))&&decide ((c.toNat:Int)<=122)
def tF (c:UInt8):Bool:=decide (65<=(c.toNat:Int))&&decide ((c.toNat:Int)<=90)
def oH (c:UInt8):Bool:=decide (48<=(c.toNat:Int))&&decide ((c.toNat:Int)<=57)
def G7 (f g:UInt8->Bool)(s:ByteArray):Bool :=
 match s.data.toList with
 | []=>false
 | c::r=>decide (r.length<=15)&&f c&&r.all g
def qz (s:ByteArray):Bool:=G7 tF (λc=>mU c||tF c||oH c||(c.toNat:Int)==95) s
def qw (s:ByteArray):Bool:=G7 mU (λc=>mU c||oH c||(c.toNat:Int)==95) s
theorem YP (c:UInt8):Ib (c.toNat:Int)=some (mU c):=by unfold Ib mU;cases decide (97<=(c.toNat:Int))<;>simp
theorem eI' (c:UInt8):Jt (c.toNat:Int)=some (tF c):=by unfold Jt tF;cases decide (65<=(c.toNat:Int))<;>simp
theorem eS' (c:UInt8):LV (c.toNat:Int)=some (oH c):=by unfold LV oH;cases decide (48<=(c.toNat:Int))<;>simp
theorem Gi {s:ByteArray}{i:Nat}{c:UInt8}(h:s.data.toList[i]?=some c):mD s (i:Int)=some c:=by
 unfold mD;rw [if_pos (by omega)]
 obtain ⟨hi,e⟩:=La'.1 h;have hs:i<s.size:=by simpa using hi
 show s[((i:Int)).toNat]?=some c;rw [Ln',getElem?_pos s i hs];show some s.data[i]=some c;simpa using e
theorem Xw (s:ByteArray):s.size=s.data.toList.length:=by simp
theorem aH' {a1 a2:Int->Option Bool}{f g:UInt8->Bool}(h1:∀ c:UInt8,a1 (c.toNat:Int)=some (f c))(h2:∀ c:UInt8,a2 (c.toNat:Int)=some (g c))(s:ByteArray):JQ s a1 a2=some (G7 f g s):=by
 unfold JQ G7;simp only [eZ,V8];have hsz:=Xw s;cases hs:s.data.toList with
 | nil =>rw [hs] at hsz;rw [hsz];simp
 | cons c r =>
   rw [hs] at hsz;simp only [Ld'] at hsz;have e1:decide ((s.size:Int)<1)=false:=by simp; omega
   rw [e1];simp only [Mi',if_false,KY'];by_cases hb:16<(s.size:Int)
   ·rw [if_pos (by simpa using hb)]
    have:decide (r.length<=15)=false:=by simp; omega
    rw [this]; rfl
   ·rw [if_neg (by simpa using hb)]
    have e2:decide (r.length<=15)=true:=by simp; omega
    have e3:mD s 0=some c:=Gi (i:=0) (by rw [hs]; rfl)
    rw [e2,e3];simp only [KY',h1,LQ'];cases f c
    ·rfl
    ·simp only [Mc',Mi',if_false,LQ'];refine Yx s.size (λi=>match s.data.toList[i]? with | some x=>g x | none=>true) ?_ ?_ 1 (r.all g) ?_
     ·intro i hi;have hi':i<s.data.toList.length:=by rw [hs]; simp; omega
      unfold VT;rw [eZ,if_pos (by simp; omega),Gi (Lb' hi')]
      simp only [KY',h2];rw [Lb' hi',aV,bF i (by omega)]
      exact yV _ _
     ·intro i hi;unfold VT;rw [eZ,if_neg (by simp; omega)]
     ·rw [hs,Le'];constructor
      ·intro h i h1 hi;obtain ⟨i,rfl⟩:∃ m,i=m+1:=⟨i-1,by omega⟩
       have hr:i<r.length:=by omega
       simp only [MO',Lb' hr];exact h _ (Lu' hr)
      ·intro h x hx;obtain ⟨i,hi,rfl⟩:=LW' hx;have:=h (i+1) (by omega) (by omega)
       simpa only [MO',Lb' hi] using this
theorem wo' (s:ByteArray):Rw s=some (qz s):=by
 unfold Rw;simp only [jg];rw [aH' eI' (g:=λc=>mU c||tF c||oH c||(c.toNat:Int)==95) (λc=>by unfold XW;rw [YP,eI',eS'];simp only [KY'];cases mU c<;>cases tF c<;>cases oH c<;>simp)]
 rfl
theorem fC' (s:ByteArray):KT s=some (qw s):=by
 unfold KT;simp only [jg];rw [aH' YP (g:=λc=>mU c||oH c||(c.toNat:Int)==95) (λc=>by unfold Xe;rw [YP,eS'];simp only [KY'];cases mU c<;>cases oH c<;>simp)]
 rfl
def pY (l:List ByteArray):Bool:=bC cS l&&l.all qz
def fK (k:Key):Bool:=if k.af=0 then qw k.Text else if k.af=1 then decide ((k.Text.size:Int)<=64) else false
def yO (v:Val):Bool:=v.aU.length==v.ai.length&&(bC cK v.aU&&v.aU.all fK)
abbrev rM:Val:=Val.mk 0 0 (⟨#[]⟩) ([]:List Val) ([]:List Key) ([]:List aD) ([]:List ByteArray)
def lV (n:Int)(e:aD):Bool:=(e.cu.length:Int)==n&&(!e.Fails||cV e.Result rM==0)
def BU (v:Val):Bool:=decide (0<=v.bn)&&decide (v.bn<=4)&&(bC cE v.aW&&v.aW.all (lV v.bn))
theorem XP (k:Key):OC k=some (fK k):=by
 unfold OC fK;rw [fC'];simp only [eZ,beq_iff_eq,jg];by_cases h:k.af=0
 ·simp [h]
 ·by_cases h1:k.af=1
  ·simp [h1]
  ·simp [h,h1]
def uW (v:Val):Bool :=
 (v.af==1||v.af==4||v.af==9||v.bn==0)&&(v.af==2||v.af==3||bU v.Text ⟨#[]⟩) &&
 (v.af==6||v.af==7||v.af==8||v.ai.isEmpty)&&(v.af==8||v.aU.isEmpty)&&(v.af==9||v.aW.isEmpty)
def G8 (l:List Val):Bool :=
 match l with
 | [_,t]=>t.af==5||t.af==7
 | _=>false
def oK (v:Val):Bool :=
 if v.af=1 then true else if v.af=2 then decide ((v.Text.size:Int)<=64) else if v.af=3 then qw v.Text else if v.af=4 then decide (0<=v.bn) else
 if v.af=5 then true else if v.af=6 then decide (v.ai.length<=4) else if v.af=7 then G8 v.ai else if v.af=8 then yO v else if v.af=9 then BU v else false
def l9 (v:Val):Bool:=pY v.bX&&(uW v&&oK v)
theorem dp' {α:Type}(l:List α):decide (0<(l.length:Int))=!l.isEmpty:=by cases l<;>simp
mutual
def bP:Val->Bool
 | .mk k n t kids keys nY nZ=>l9 (.mk k n t kids keys nY nZ)&&(gY kids&&ko nY)
def gY:List Val->Bool
 | []=>true
 | x::r=>bP x&&gY r
def wL:aD->Bool
 | .mk args fails res=>gY args&&(fails||bP res)
def ko:List aD->Bool
 | []=>true
 | x::r=>wL x&&ko r
end
theorem Hq (v:Val):bP v=(l9 v&&(gY v.ai&&ko v.aW)):=by cases v; simp only [bP,Val.ai,Val.aW]
theorem Kv (e:aD):wL e=(gY e.cu&&(e.Fails||bP e.Result)):=by cases e; simp only [wL,aD.cu,aD.Fails,aD.Result]
theorem uJ:∀ l:List Val,gY l=l.all bP
 | []=>by simp [gY]
 | x::r=>by simp only [gY,LE',uJ r]
theorem Ct:∀ l:List aD,ko l=l.all wL
 | []=>by simp [ko]
 | x::r=>by simp only [ko,LE',Ct r]
theorem jJ':∀ l:List aD,ko l=(l.flatMap vg).all bP
 | []=>by simp [ko]
 | x::r=>by simp only [ko,Mk',Lv',jJ' r,Kv,vg,uJ];cases x.Fails<;>simp
theorem uu' (v:Val):bP v=(l9 v&&(xh v).all bP):=by rw [Hq,xh,Lv',uJ,jJ']
def gL {α:Type}(p:α->Bool)(x:α)(out:List α):List α:=out.takeWhile p++[x]++out.dropWhile p
theorem Yn {α:Type}(p:α->Bool):∀ l:List α,l.take (l.takeWhile p).length=l.takeWhile p
 | []=>rfl
 | x::r=>by
   by_cases h:p x=true
   ·simp [h,Yn p r]
   ·simp [h]
theorem VI {α:Type}(p:α->Bool):∀ l:List α,l.drop (l.takeWhile p).length=l.dropWhile p
 | []=>rfl
 | x::r=>by
   by_cases h:p x=true
   ·simp [h,VI p r]
   ·simp [h]
theorem BS {α:Type}(p:α->Bool):∀ l:List α,(l.takeWhile p).length<=l.length
 | []=>Lg' _
 | x::r=>by
   have:=BS p r;by_cases h:p x=true
   ·simp [h,this]
   ·simp [h]
theorem Ll {α:Type}(p:α->Bool):∀ (l:List α),l[(l.takeWhile p).length]?=(l.dropWhile p).head?
 | []=>rfl
 | x::r=>by
   have:=Ll p r;by_cases h:p x=true
   ·simp [h,this]
   ·simp [h]
theorem RQ {α:Type}{step:Int->Option (Fl Int Int)}(out:List α)(p:α->Bool)
 (hst:∀ (i:Nat) (x:α),out[i]?=some x->step (i:Int)=some (if p x=true then .next ((i+1:Nat):Int) else .done (i:Int)))
 (hend:step (out.length:Int)=some (.done (out.length:Int))):iter step (out.length+1) 0=some ((out.takeWhile p).length:Int):=by
 have key:∀ (m i k:Nat),i+m=out.length->m+1<=k->iter step k (i:Int)=some (((i+((out.drop i).takeWhile p).length:Nat)):Int):=by
  intro m
  induction m with
  | zero =>
    intro i k h1 h2;obtain ⟨k,rfl⟩:∃ m,k=m+1:=⟨k-1,by omega⟩
    have e:i=out.length:=by omega
    subst e;simp [iter,hend]
  | succ m ih =>
    intro i k h1 h2;obtain ⟨k,rfl⟩:∃ m,k=m+1:=⟨k-1,by omega⟩
    have hlt:i<out.length:=by omega
    have hs:=hst i out[i] (Lb' hlt);rw [LO' hlt,List.takeWhile_cons];by_cases hp:p out[i]=true
    ·rw [if_pos hp] at hs;simp only [iter,hs,KY',ih (i+1) k (by omega) (by omega),hp,if_true,Ld']
     congr 2;omega
    ·rw [if_neg hp] at hs;simp [iter,hs,hp]
 have:=key out.length 0 (out.length+1) (by omega) (Lg' _)
 simpa using this
theorem lF {α σ τ β:Type}{step:σ->Option (Fl σ (Sum τ β))}(xs:List α)(p:α->Bool)(pk:Nat->σ)(d:τ)(b:β)
 (hst:∀ (i:Nat) (x:α),xs[i]?=some x->step (pk i)=some (if p x=true then .next (pk (i+1)) else .done (.inr b)))
 (hend:step (pk xs.length)=some (.done (.inl d))):iter step (xs.length+1) (pk 0)=some (if xs.all p=true then .inl d else .inr b):=by
 have key:∀ (m i k:Nat),i+m=xs.length->m+1<=k->iter step k (pk i)=some (if (xs.drop i).all p=true then .inl d else .inr b):=by
  intro m
  induction m with
  | zero =>
    intro i k h1 h2;obtain ⟨k,rfl⟩:∃ m,k=m+1:=⟨k-1,by omega⟩
    have e:i=xs.length:=by omega
    subst e;simp [iter,hend]
  | succ m ih =>
    intro i k h1 h2;obtain ⟨k,rfl⟩:∃ m,k=m+1:=⟨k-1,by omega⟩
    have hlt:i<xs.length:=by omega
    have hs:=hst i xs[i] (Lb' hlt);rw [LO' hlt,LE'];by_cases hp:p xs[i]=true
    ·rw [if_pos hp] at hs;simp only [iter,hs,KY',ih (i+1) k (by omega) (by omega),hp,LQ']
    ·rw [if_neg hp] at hs;simp [iter,hs,hp]
 have:=key xs.length 0 (xs.length+1) (by omega) (Lg' _)
 simpa using this
theorem He {α:Type}(c:α->α->Int)(hanti:∀ a b,c b a = - c a b)(x:α):∀ out:List α,bC c out=true->(∀ y,(out.dropWhile (λy=>decide (c y x<0))).head?=some y->c y x≠0) ->
 bC c (gL (λy=>decide (c y x<0)) x out)=true
 | [],_,_=>by simp [gL,bC]
 | y::r,h,hne=>by
   by_cases hp:c y x<0
   ·have ih:=He c hanti x r (by cases r with | nil=>simp [bC] | cons z r=>simp [bC] at h; exact h.2) (by
     intro z hz;refine hne z ?_;simpa [hp] using hz)
    have e:gL (λy=>decide (c y x<0)) x (y::r)=y::gL (λy=>decide (c y x<0)) x r:=by simp [gL,hp]
    rw [e];cases r with
    | nil=>simp [gL,bC,hp]
    | cons z r =>
      simp only [bC,Lc',decide_eq_true_eq] at h;by_cases hz:c z x<0
      ·have e2:gL (λy=>decide (c y x<0)) x (z::r)=z::gL (λy=>decide (c y x<0)) x r:=by simp [gL,hz]
       rw [e2] at ih ⊢;simp only [bC,Lc',decide_eq_true_eq];exact ⟨h.1,ih⟩
      ·have e2:gL (λy=>decide (c y x<0)) x (z::r)=x::z::r:=by simp [gL,hz]
       rw [e2] at ih ⊢;simp only [bC,Lc',decide_eq_true_eq] at ih ⊢;exact ⟨hp,ih⟩
   ·have e:gL (λy=>decide (c y x<0)) x (y::r)=x::y::r:=by simp [gL,hp]
    have hy:=hne y (by simp [hp])
    have ha:=hanti y x;rw [e];simp only [bC,Lc',decide_eq_true_eq];exact ⟨by omega,h⟩
theorem O5 {α:Type}{p:α->Bool}{x y:α}{out:List α}(h:y∈gL p x out):y=x\/y∈out:=by
 have e:=MH' (p:=p) (l:=out);simp only [gL,Lo',Lp'] at h;rcases h with (h | h) | h
 ·exact .inr (by rw [<- e]; exact LN' _ h)
 ·exact .inl h
 ·exact .inr (by rw [<- e]; exact LT' _ h)
theorem Db {α:Type}(p:α->Bool)(x:α)(out:List α):(gL p x out).length=out.length+1:=by have e:=congrArg List.length (MH' (p:=p) (l:=out));simp only [Lf'] at e;simp only [gL,Lf',MW'];omega
theorem Ru {α:Type}(l:List α){k:Nat}(h:k<=l.length):cut l 0 (k:Int)=some (l.take k):=by
 unfold cut;rw [if_pos ⟨by omega,by omega,by omega⟩]
 simp
theorem VL {α:Type}(l:List α){k:Nat}(h:k<=l.length):cut l (k:Int) (l.length:Int)=some (l.drop k):=by
 unfold cut;rw [if_pos ⟨by omega,by omega,by omega⟩]
 simp
theorem Va {α β:Type}(out:List α)(x:α)(p:α->Bool)(b:Nat)(hb:b<=1024)(hl:out.length<=4194304)(f:List α->Option β) :
 ((cut out 0 ((out.takeWhile p).length:Int)).bind λu=>(aT (0+u.length) b).bind λ_ =>
   (aT (u.length+[x].length) b).bind λ_=>(cut out ((out.takeWhile p).length:Int) (out.length:Int)).bind λw =>
   (aT ((u++[x]).length+w.length) b).bind λ_=>f ((u++[x])++w))=f (gL p x out):=by
 have hk:=BS p out;have rm:∀ n,n<=4194305->aT n b=some ():=λn hn=>dX (by have:n*b<=4194305*1024:=NG' hn hb;omega)
 rw [Ru out hk,VL out hk,Yn,VI];have hl2:=Db p x out;simp only [gL,Lf',MW'] at hl2;simp only [KY'];rw [rm _ (by simp; omega),rm _ (by simp; omega),rm _ (by simp only [Lf',MW']; omega)]
 rfl
theorem iL' (a b:aD):cE a b=lx (eE a) (eE b):=by have:=(bn' (pK a)).2 a (Lg' _) b [] [];simpa [lx,EX] using this.symm
theorem au' (a b:aD):cE b a = - cE a b:=by rw [iL',iL']; exact Mf _ _
def jy (out:List aD)(x:aD):List aD :=
 match (out.dropWhile (λy=>decide (cE y x<0))).head? with
 | some y=>if cE y x=0 then out else gL (λy=>decide (cE y x<0)) x out
 | none=>gL (λy=>decide (cE y x<0)) x out
theorem OD (a b:List aD):dz (a++b)=dz a+dz b:=by
 induction a with
 | nil=>simp [dz]
 | cons x r ih=>simp only [Mg',dz,ih]; omega
theorem iE' (p:aD->Bool)(x:aD)(out:List aD):dz (gL p x out)=dz out+pK x:=by have e:=congrArg dz (MH' (p:=p) (l:=out));rw [OD] at e;simp only [gL,OD,dz];omega
theorem AO' (out:List aD)(x:aD):dz (jy out x)<=dz out+pK x:=by
 unfold jy;split
 ·split
  ·omega
  ·rw [iE']; omega
 ·rw [iE']; omega
theorem Ay' (out:List aD)(x:aD):(jy out x).length<=out.length+1:=by
 unfold jy;split
 ·split
  ·omega
  ·rw [Db]; omega
 ·rw [Db]; omega
theorem dn' {out:List aD}{x y:aD}(h:y∈jy out x):y=x\/y∈out:=by
 unfold jy at h;split at h
 ·split at h
  ·exact .inr h
  ·exact O5 h
 ·exact O5 h
theorem pj' (out:List aD)(x:aD)(h:bC cE out=true):bC cE (jy out x)=true:=by
 unfold jy;split
 ·rename_i y hy;split
  ·exact h
  ·rename_i hne;refine He cE au' x out h (λz hz=>?_);rw [hy] at hz;cases hz;exact hne
 ·rename_i hy;refine He cE au' x out h (λz hz=>?_);rw [hy] at hz; cases hz
theorem nX' (fuel:Nat)(es out:List aD)(i:Nat)(x:aD)(hx:es[i]?=some x)(hf:∀ e∈out,2*pK e<=fuel)(hb:∀ e∈out,pK e<=4194304)(hl:out.length<=4194304)(hi:i<=4194304) :
 zN es fuel (out,(i:Int))=some (.next (jy out x,((i+1:Nat):Int))):=by
 have hlt:i<es.length:=(La'.1 hx).1;have hix:ak es (i:Int)=some x:=aR hx;have hcmp:∀ e∈out,tC fuel e x=some (cE e x):=λe he=>(JX fuel).2.2 e x (hf e he) (hb e he);unfold zN;simp only [dw];rw [RQ (step:=QN es (out,(i:Int)) fuel) out (λy=>decide (cE y x<0)) ?_ ?_]
 ·simp only [eZ,aV];rw [if_pos (by simp; omega)]
  simp only [KY',hix,Ln',hx];have hk:=BS (λy=>decide (cE y x<0)) out;have hat:=Ll (λy=>decide (cE y x<0)) out;have go:((cut out 0 ((out.takeWhile (λy=>decide (cE y x<0))).length:Int)).bind λu=>(aT (0+u.length) 160).bind λ_ =>
   (aT (u.length+[x].length) 160).bind λ_=>(cut out ((out.takeWhile (λy=>decide (cE y x<0))).length:Int) (out.length:Int)).bind λw =>
   (aT ((u++[x]).length+w.length) 160).bind λ_=>some ((u++[x])++w))=some (gL (λy=>decide (cE y x<0)) x out) :=
   Va out x _ 160 (by omega) hl (λl=>some l)
  rw [bF i (by omega)]
  have gJ:∀ (b:Bool) (r:List aD),(if b=true then some out else some r)=some (jy out x)->(Option.bind (if b=true then some out else some r) λb18=>some (Fl.next (b18,((i+1:Nat):Int)):Fl (List aD×Int) (List aD)))=some (.next (jy out x,((i+1:Nat):Int))):=by intro b r h;rw [h]; rfl
  rw [go];unfold jy at gJ ⊢;cases hh:(out.dropWhile (λy=>decide (cE y x<0))).head? with
  | none =>
    rw [hh] at hat;have hge:=MS'.1 hat;rw [if_neg (by simp; omega)]
    rfl
  | some y =>
    rw [hh] at hat;have hlt2:=(La'.1 hat).1;rw [if_pos (by simp; omega),aR hat]
    simp only [KY'];rw [hcmp y (Lj' hat)];simp only [KY'];by_cases h0:cE y x=0
    ·rw [if_pos (by simp [h0]),if_pos h0]
     rfl
    ·rw [if_neg (by simp [h0]),if_neg h0]
     rfl
 ·intro j y hy;have hj:j<out.length:=(La'.1 hy).1;unfold QN;simp only [eZ,aV];rw [if_pos (by simp; omega),aR hy,hix]
  simp only [KY',Ln',hx];rw [hcmp y (Lj' hy)];simp only [KY',bF j (by omega)]
  by_cases h:cE y x<0<;>simp [h]
 ·unfold QN;simp
theorem Uo:∀ (es out:List aD),dz (es.foldl jy out)<=dz out+dz es
 | [],out=>by simp [dz]
 | x::r,out=>by have h1:=Uo r (jy out x);have h2:=AO' out x;simp only [Mu',dz];omega
theorem Yd {y:aD}:∀ (es out:List aD),y∈es.foldl jy out->y∈out\/y∈es
 | [],_,h=>.inl h
 | x::r,out,h=>by
   rcases Yd r (jy out x) h with h | h
   ·rcases dn' h with rfl | h
    ·exact .inr (by simp)
    ·exact .inl h
   ·exact .inr (by simp [h])
theorem cK':∀ (es out:List aD),bC cE out=true->bC cE (es.foldl jy out)=true
 | [],_,h=>h
 | x::r,out,h=>cK' r (jy out x) (pj' out x h)
theorem Bn' (fuel:Nat)(es:List aD)(hf:2*dz es<=fuel)(hb:dz es<=4194304):HV fuel es=some (es.foldl jy []):=by
 have hlen:=Dl es;unfold HV;have key:=nK (σ:=List aD) (step:=zN es fuel) es (λs i=>(s,(i:Int))) jy (λi s=>s.length<=i/\(∀ e∈s,e∈es)) (λs=>s)
  ?_ ?_ [] ⟨by simp,by simp⟩ _ (Lg' _)
 ·have e:iter (zN es fuel) (es.length+1) (([]:List aD),0)=iter (zN es fuel) (es.length+1) (([]:List aD),((0:Nat):Int)):=rfl;rw [dw,e,key];rfl
 ·intro i s x hx ⟨hI,hm⟩;have hi:i<es.length:=(La'.1 hx).1;refine ⟨nX' fuel es s i x hx (λe he=>by have:=vI (hm e he); omega) (λe he=>by have:=vI (hm e he); omega) (by omega) (by omega),?_,?_⟩
  ·have:=Ay' s x; omega
  ·intro e he;rcases dn' he with rfl | he
   ·exact Lj' hx
   ·exact hm e he
 ·intro s _;unfold zN;simp
def zS (n:Int)(es:List aD):Val:=Val.mk 9 n (⟨#[]⟩) ([]:List Val) ([]:List Key) es ([]:List ByteArray)
abbrev zO:Type:=Int×Int×ByteArray×(List Val)×(List Key)×(List aD)×(List ByteArray)
abbrev jN:zO:=(0,0,(⟨#[]⟩:ByteArray),[],[],[],[])
theorem iv' (fuel:Nat)(n:Int)(es:List aD)(hf:2*dz es<=fuel)(hb:dz es<=4194304) :
 yJ fuel n es=some (if 0<=n/\n<=4/\es.all (lV n)=true then (zS n (es.foldl jy []),0) else (rM,1)):=by
 have hlen:=Dl es;unfold yJ;simp only [dw];by_cases h1:n<0
 ·have e1:decide (n<0)=true:=by simpa using h1
  rw [e1,if_neg (by omega)]; rfl
 by_cases h2:4<n
 ·have e1:decide (n<0)=false:=by simpa using h1
  have e2:decide (4<n)=true:=by simpa using h2
  rw [e1,e2,if_neg (by omega)]; rfl
 have e1:decide (n<0)=false:=by simpa using h1
 have e2:decide (4<n)=false:=by simpa using h2
 rw [e1,e2,Bn' fuel es hf hb];have key:=lF (step:=Az n es fuel) es (lV n) (λi=>((i:Int),jN)) jN (1,jN) ?_ ?_
 ·have e:iter (Az n es fuel) (es.length+1) (0,(0,0,(⟨#[]⟩:ByteArray),[],[],[],[]))=iter (Az n es fuel) (es.length+1) (((0:Nat):Int),jN):=rfl;rw [e,key];by_cases ha:es.all (lV n)=true
  ·rw [if_pos ha,if_pos ⟨by omega,by omega,ha⟩]
   rfl
  ·rw [if_neg ha,if_neg (λh=>ha h.2.2)];rfl
 ·intro i x hx;have hi:i<es.length:=(La'.1 hx).1;have hm:=vI (Lj' hx);have hbe:=rT x;unfold Az Kn;simp only [eZ,aV];rw [if_pos (by simp; omega),aR hx]
  simp only [KY',Ln',hx];rw [show Val.mk 0 0 (⟨#[]⟩:ByteArray) ([]:List Val) ([]:List Key) ([]:List aD) ([]:List ByteArray)=rM from rfl,(JX fuel).1 x.Result rM (by omega) (by omega),bF i (by omega)]
  unfold lV;by_cases hl:(x.cu.length:Int)=n
  ·have e1:((x.cu.length:Int) != n)=false:=by simp [hl]
   have e2:((x.cu.length:Int)==n)=true:=by simp [hl]
   rw [e1,e2];simp only [Mi',if_false,KY',LQ'];cases x.Fails
   ·simp
   ·by_cases h0:cV x.Result rM=0<;>simp [h0]
  ·have e1:((x.cu.length:Int) != n)=true:=by simp [hl]
   have e2:((x.cu.length:Int)==n)=false:=by simp [hl]
   rw [e1,e2];simp
 ·unfold Az;simp
theorem V6 (c:UInt8):E9 (c.toNat:Int)=some (mU c):=by unfold E9 mU;cases decide (97<=(c.toNat:Int))<;>simp
theorem fi' (c:UInt8):JU (c.toNat:Int)=some (oH c):=by unfold JU oH;cases decide (48<=(c.toNat:Int))<;>simp
theorem Vq (s:ByteArray):FP s=some (qw s):=by
 unfold FP qw G7;simp only [eZ,V8];have hsz:=Xw s;cases hs:s.data.toList with
 | nil =>rw [hs] at hsz;rw [hsz];simp
 | cons c r =>
   rw [hs] at hsz;simp only [Ld'] at hsz;have e1:decide ((s.size:Int)<1)=false:=by simp; omega
   rw [e1];simp only [Mi',if_false,KY'];by_cases hb:16<(s.size:Int)
   ·rw [if_pos (by simpa using hb)]
    have:decide (r.length<=15)=false:=by simp; omega
    rw [this]; rfl
   ·rw [if_neg (by simpa using hb)]
    have e2:decide (r.length<=15)=true:=by simp; omega
    have e3:mD s 0=some c:=Gi (i:=0) (by rw [hs]; rfl)
    rw [e2,e3];simp only [KY',V6,LQ'];cases mU c
    ·rfl
    ·simp only [Mc',Mi',if_false,LQ'];refine Yx s.size (λi=>match s.data.toList[i]? with | some x=>(mU x||oH x||(x.toNat:Int)==95) | none=>true) ?_ ?_ 1 _ ?_
     ·intro i hi;have hi':i<s.data.toList.length:=by rw [hs]; simp; omega
      unfold YC;simp only [eZ,aV];rw [if_pos (by simp; omega),Gi (Lb' hi')]
      simp only [KY',V6,fi'];rw [Lb' hi',bF i (by omega)]
      generalize s.data.toList[i]=x;have hn:((x.toNat:Int) != 95)=!((x.toNat:Int)==95):=rfl;rw [hn];show _=some (if (mU x||oH x||(x.toNat:Int)==95)=true then _ else _)
      cases mU x<;>cases oH x<;>cases (x.toNat:Int)==95<;>rfl
     ·intro i hi;unfold YC;rw [eZ,if_neg (by simp; omega)]
     ·rw [hs,Le'];constructor
      ·intro h i h1 hi;obtain ⟨i,rfl⟩:∃ m,i=m+1:=⟨i-1,by omega⟩
       have hr:i<r.length:=by omega
       simp only [MO',Lb' hr];exact h _ (Lu' hr)
      ·intro h x hx;obtain ⟨i,hi,rfl⟩:=LW' hx;have:=h (i+1) (by omega) (by omega)
       simpa only [MO',Lb' hi] using this
theorem YR (k:Key):H8 k=some (fK k):=by
 unfold H8 fK;rw [Vq];by_cases h:k.af=0
 ·cases qw k.Text<;>simp [h]
 ·by_cases h1:k.af=1
  ·simp [h1]
  ·have e0:(k.af==0)=false:=by simpa using h
   have e1:(k.af==1)=false:=by simpa using h1
   rw [e0,e1,if_neg h,if_neg h1];rfl
theorem Qy (a b:Key):cK a b=lx (eK a) (eK b):=by have:=pfK a b [] [];simpa [lx,EX] using this.symm
theorem Ej (a b:Key):cK b a = - cK a b:=by rw [Qy,Qy]; exact Mf _ _
def fZ (a b:Key):Bool:=rV a b
theorem vR' (a b:Key):fZ a b=((a.af==b.af)&&bU a.Text b.Text):=by unfold fZ rV; simp
theorem WN (a b:Key):fZ a b=true↔cK a b=0:=by
 rw [vR'];unfold cK;rcases je a.af b.af with ⟨h,e⟩ | ⟨h,e⟩ | ⟨h,e⟩
 ·have:(a.af==b.af)=false:=by simp; omega
  simp [this,e,tn]
 ·have:(a.af==b.af)=false:=by simp; omega
  simp [this,e,tn]
 ·rw [h];rw [h] at e;rcases Ev a.Text b.Text with ⟨_,p,q⟩ | ⟨_,p,q⟩ | ⟨_,p,q⟩<;>simp [p,q,e,tn]
abbrev jO (k:Key):Key->Bool:=λy=>decide (cK y k<0)
def zV (s:List Val×List Key)(x:Key×Val):Option (List Val×List Key) :=
 if ((s.2.dropWhile (jO x.1)).head?.map λy=>fZ y x.1)=some true then none
 else some (s.1.take (s.2.takeWhile (jO x.1)).length++[x.2]++s.1.drop (s.2.takeWhile (jO x.1)).length,gL (jO x.1) x.1 s.2)
def tT:List (Key×Val)->List Val×List Key->Option (List Val×List Key)
 | [],s=>some s
 | x::r,s=>(zV s x).bind (tT r)
abbrev tQ (s:List Val×List Key):zO:=(8,0,(⟨#[]⟩:ByteArray),s.1,s.2,[],[])
theorem zW' (keys:List Key)(l:List Val)(i:Nat)(k:Key)(x:Val)(hk:keys[i]?=some k)(hx:l[i]?=some x)(s:List Val×List Key)(hs:s.1.length=s.2.length)(hl:s.2.length<=4194304)(hi:i<=4194304) :
 ∃ y,yD keys l ((i:Int),jN,tQ s)=some (match zV s (k,x) with | some t=>.next (((i+1:Nat):Int),jN,tQ t) | none=>.done (.inr (6,jN,y))):=by
 refine ⟨tQ s,?_⟩;have hlt:i<keys.length:=(La'.1 hk).1;have hik:ak keys (i:Int)=some k:=aR hk;have hix:ak l (i:Int)=some x:=aR hx;unfold yD;simp only [dw];rw [RQ (step:=QV keys ((i:Int),jN,tQ s)) s.2 (jO k) ?_ ?_]
 ·simp only [eZ,aV];rw [if_pos (by simp; omega)]
  simp only [KY',hik,hix];have hp:=BS (jO k) s.2;have hat:=Ll (jO k) s.2;have ZN:∀ n,n<=4194305->aT n 24=some ():=λn hn=>dX (by omega)
  have ZO:∀ n,n<=4194305->aT n 128=some ():=λn hn=>dX (by omega)
  have h1:=Db (jO k) k s.2;simp only [gL,Lf',MW'] at h1;have go:((cut s.2 0 ((s.2.takeWhile (jO k)).length:Int)).bind λu=>(aT (0+u.length) 24).bind λ_ =>
   (cut s.1 0 ((s.2.takeWhile (jO k)).length:Int)).bind λu2=>(Av u2).bind λr2 =>
   (aT (u.length+[k].length) 24).bind λ_=>(cut s.2 ((s.2.takeWhile (jO k)).length:Int) (s.2.length:Int)).bind λw =>
   (aT ((u++[k]).length+w.length) 24).bind λ_=>(aT (r2.length+[x].length) 128).bind λ_ =>
   (cut s.1 ((s.2.takeWhile (jO k)).length:Int) (s.1.length:Int)).bind λw2=>(aT ((r2++[x]).length+w2.length) 128).bind λ_ =>
   some (Fl.next (d9 ((i:Int)+1),jN,tQ ((r2++[x])++w2,(u++[k])++w))))=some (Fl.next (((i+1:Nat):Int),jN,tQ (s.1.take (s.2.takeWhile (jO k)).length++[x]++s.1.drop (s.2.takeWhile (jO k)).length,gL (jO k) k s.2)):Fl (Int×zO×zO) (Sum (zO×zO) (Int×zO×zO))):=by
   have ht:(s.1.take (s.2.takeWhile (jO k)).length).length<=4194304:=by rw [LC']; omega
   have hd:(s.1.take (s.2.takeWhile (jO k)).length).length+(s.1.drop (s.2.takeWhile (jO k)).length).length=s.1.length:=by rw [LC',LK']; omega
   rw [Ru s.2 hp,VL s.2 hp,Ru s.1 (by omega),VL s.1 (by omega),Yn,VI]
   unfold Av;simp only [KY'];rw [ZN _ (by simp; omega),ZO _ (by simp; omega)]
   simp only [KY'];rw [ZN _ (by simp; omega),ZN _ (by simp only [Lf',MW']; omega),ZO _ (by simp; omega),ZO _ (by simp only [Lf',MW']; omega),bF i (by omega)]
   rfl
  unfold zV;cases hh:(s.2.dropWhile (jO k)).head? with
  | none =>
    rw [hh] at hat;have hge:=MS'.1 hat;rw [if_neg (by simp; omega),if_neg (by simp)]
    exact go
  | some y =>
    rw [hh] at hat;have hlt2:=(La'.1 hat).1;rw [if_pos (by simp; omega),aR hat]
    simp only [KY',Mv'];cases hq:fZ y k
    ·unfold fZ at hq;rw [hq,if_neg (by simp),if_neg (by simp)]
     exact go
    ·unfold fZ at hq;rw [hq,if_pos rfl,if_pos rfl]
 ·intro j y hy;have hj:j<s.2.length:=(La'.1 hy).1;unfold QV;simp only [eZ,aV];rw [if_pos (by simp; omega),aR hy,hik]
  simp only [KY',PG,bF j (by omega)]
  by_cases h:cK y k<0<;>simp [h]
 ·unfold QV;simp
theorem ib' {s t:List Val×List Key}{x:Key×Val}(h:zV s x=some t)(hs:s.1.length=s.2.length):t.1.length=t.2.length/\t.2.length=s.2.length+1:=by
 unfold zV at h;split at h
 ·cases h
 ·cases h;have h1:=Db (jO x.1) x.1 s.2;have hp:=BS (jO x.1) s.2;refine ⟨?_,h1⟩;rw [h1];simp only [Lf',MW',LC',LK'];omega
theorem wA' (keys:List Key)(l:List Val)(hkl:keys.length=l.length)(hl:keys.length<=4194304) :
 ∃ y,iter (yD keys l) (keys.length+1) (0,jN,tQ ([],[]))=some (match tT (keys.zip l) ([],[]) with | some t=>.inl (jN,tQ t) | none=>.inr (6,jN,y)):=by
 have key:∀ (m i k:Nat) (s:List Val×List Key),i+m=keys.length->m+1<=k->s.1.length=s.2.length->s.2.length<=i ->
  ∃ y,iter (yD keys l) k ((i:Int),jN,tQ s)=some (match tT ((keys.drop i).zip (l.drop i)) s with | some t=>.inl (jN,tQ t) | none=>.inr (6,jN,y)):=by
  intro m
  induction m with
  | zero =>
    intro i k s h1 h2 hs hn;obtain ⟨k,rfl⟩:∃ m,k=m+1:=⟨k-1,by omega⟩
    have e:i=keys.length:=by omega
    subst e;rw [List.drop_length,List.zip_nil_left];have:yD keys l ((keys.length:Int),jN,tQ s)=some (.done (.inl (jN,tQ s))):=by unfold yD;simp
    exact ⟨jN,by simp only [iter,this,tT,KY']⟩
  | succ m ih =>
    intro i k s h1 h2 hs hn;obtain ⟨k,rfl⟩:∃ m,k=m+1:=⟨k-1,by omega⟩
    have hlt:i<keys.length:=by omega
    have hlt2:i<l.length:=by omega
    rw [LO' hlt,LO' hlt2,List.zip_cons_cons];obtain ⟨y,hy⟩:=zW' keys l i _ _ (Lb' hlt) (Lb' hlt2) s hs (by omega) (by omega)
    simp only [iter,hy,tT];cases hi:zV s (keys[i],l[i]) with
    | none=>exact ⟨y,by simp⟩
    | some t =>obtain ⟨h3,h4⟩:=ib' hi hs;simp only [KY'];exact ih (i+1) k t (by omega) (by omega) h3 (by omega)
 obtain ⟨y,hy⟩:=key keys.length 0 (keys.length+1) ([],[]) (by omega) (Lg' _) rfl (Lg' _)
 exact ⟨y,by simpa using hy⟩
def wT (s:List Val×List Key):Val:=Val.mk 8 0 (⟨#[]⟩) s.1 s.2 ([]:List aD) ([]:List ByteArray)
theorem fy' (keys:List Key)(l:List Val)(hl:keys.length<=4194304) :
 vJ keys l=some (if keys.length=l.length/\keys.all fK=true then (match tT (keys.zip l) ([],[]) with | some t=>((wT t,0):Val×Int) | none=>(rM,6)) else (rM,1)):=by
 unfold vJ;simp only [dw];by_cases hkl:keys.length=l.length
 ·have e1:((keys.length:Int) != (l.length:Int))=false:=by simp; omega
  rw [e1];have k1:=lF (step:=Aq keys) keys fK (λi=>((i:Int),jN)) jN (1,jN) ?_ ?_
  ·obtain ⟨y,hy⟩:=wA' keys l hkl hl;have e2:iter (Aq keys) (keys.length+1) (0,(0,0,(⟨#[]⟩:ByteArray),[],[],[],[]))=iter (Aq keys) (keys.length+1) (((0:Nat):Int),jN):=rfl;rw [e2,k1];by_cases ha:keys.all fK=true
   ·rw [if_pos ha,if_pos ⟨hkl,ha⟩];simp only [KY',aL,cond_false];rw [hy];cases tT (keys.zip l) ([],[])<;>rfl
   ·rw [if_neg ha,if_neg (λh=>ha h.2)];rfl
  ·intro i x hx;have hi:i<keys.length:=(La'.1 hx).1;unfold Aq;simp only [eZ,aV];rw [if_pos (by simp; omega),aR hx]
   simp only [KY',YR,bF i (by omega)]
   cases fK x<;>rfl
  ·unfold Aq;simp
 ·have e1:((keys.length:Int) != (l.length:Int))=true:=by simp; omega
  rw [e1,if_neg (λh=>hkl h.1)];rfl
theorem KF (a b:List Key):dK (a++b)=dK a+dK b:=by
 induction a with
 | nil=>simp [dK]
 | cons x r ih=>simp only [Mg',dK,ih]; omega
theorem qJ' {s t:List Val×List Key}{x:Key×Val}(h:zV s x=some t)(ha:bC cK s.2=true) :
 bC cK t.2=true/\(∀ y∈t.2,y=x.1\/y∈s.2)/\(∀ y∈t.1,y=x.2\/y∈s.1)/\bL t.1=bL s.1+bD x.2/\dK t.2=dK s.2+wV x.1:=by
 unfold zV at h;split at h
 ·cases h
 ·rename_i hne;cases h;refine ⟨He cK Ej x.1 s.2 ha ?_,λy hy=>O5 hy,λy hy=>?_,?_,?_⟩
  ·intro y hy h0;rw [hy] at hne;simp only [Mv'] at hne;exact hne (congrArg some ((WN y x.1).2 h0))
  ·simp only [Lo',Lp'] at hy;rcases hy with (hy | hy) | hy
   ·exact .inr (List.mem_of_mem_take hy)
   ·exact .inl hy
   ·exact .inr (List.mem_of_mem_drop hy)
  ·have e:=congrArg bL (Mm' (s.2.takeWhile (jO x.1)).length s.1);rw [uf] at e;simp only [uf,bL];omega
  ·have e:=congrArg dK (MH' (p:=jO x.1) (l:=s.2));rw [KF] at e;simp only [gL,KF,dK];omega
def Cq:List (Key×Val)->Nat
 | []=>0
 | x::r=>wV x.1+bD x.2+Cq r
theorem Xr:∀ (xs:List (Key×Val)) (s t:List Val×List Key),tT xs s=some t->bC cK s.2=true->s.1.length=s.2.length ->
 bC cK t.2=true/\t.1.length=t.2.length/\t.2.length=s.2.length+xs.length/\(∀ y∈t.2,y∈s.2\/∃ x∈xs,y=x.1)/\(∀ y∈t.1,y∈s.1\/∃ x∈xs,y=x.2)/\bL t.1+dK t.2=bL s.1+dK s.2+Cq xs
 | [],s,t,h,ha,hl=>by cases h;exact ⟨ha,hl,rfl,λy hy=>.inl hy,λy hy=>.inl hy,rfl⟩
 | x::r,s,t,h,ha,hl=>by
   simp only [tT] at h;obtain ⟨u,hu,h⟩:=Option.bind_eq_some_iff.1 h;obtain ⟨k1,k2,k3,k4,k5⟩:=qJ' hu ha;obtain ⟨l1,l2⟩:=ib' hu hl;obtain ⟨m1,m2,m3,m4,m5,m6⟩:=Xr r u t h k1 l1;refine ⟨m1,m2,by rw [m3,l2,Ld']; omega,λy hy=>?_,λy hy=>?_,by simp only [Cq]; omega⟩
   ·rcases m4 y hy with hy | ⟨z,hz,rfl⟩
    ·rcases k2 y hy with rfl | hy
     ·exact .inr ⟨x,by simp,rfl⟩
     ·exact .inl hy
    ·exact .inr ⟨z,by simp [hz],rfl⟩
   ·rcases m5 y hy with hy | ⟨z,hz,rfl⟩
    ·rcases k3 y hy with rfl | hy
     ·exact .inr ⟨x,by simp,rfl⟩
     ·exact .inl hy
    ·exact .inr ⟨z,by simp [hz],rfl⟩
theorem cu' (c:UInt8):JM (c.toNat:Int)=some (tF c):=by unfold JM tF;cases decide (65<=(c.toNat:Int))<;>simp
theorem ki' (s:ByteArray):La s=some (qz s):=by
 unfold La qz G7;simp only [eZ,V8];have hsz:=Xw s;cases hs:s.data.toList with
 | nil =>rw [hs] at hsz;rw [hsz];simp
 | cons c r =>
   rw [hs] at hsz;simp only [Ld'] at hsz;have e1:decide ((s.size:Int)<1)=false:=by simp; omega
   rw [e1];simp only [Mi',if_false,KY'];by_cases hb:16<(s.size:Int)
   ·rw [if_pos (by simpa using hb)]
    have:decide (r.length<=15)=false:=by simp; omega
    rw [this]; rfl
   ·rw [if_neg (by simpa using hb)]
    have e2:decide (r.length<=15)=true:=by simp; omega
    have e3:mD s 0=some c:=Gi (i:=0) (by rw [hs]; rfl)
    rw [e2,e3];simp only [KY',cu',LQ'];cases tF c
    ·rfl
    ·simp only [Mc',Mi',if_false,LQ'];refine Yx s.size (λi=>match s.data.toList[i]? with | some x=>(mU x||tF x||oH x||(x.toNat:Int)==95) | none=>true) ?_ ?_ 1 _ ?_
     ·intro i hi;have hi':i<s.data.toList.length:=by rw [hs]; simp; omega
      unfold WE;simp only [eZ,aV];rw [if_pos (by simp; omega),Gi (Lb' hi')]
      simp only [KY',V6,fi',cu'];rw [Lb' hi',bF i (by omega)]
      generalize s.data.toList[i]=x;have hn:((x.toNat:Int) != 95)=!((x.toNat:Int)==95):=rfl;rw [hn];show _=some (if (mU x||tF x||oH x||(x.toNat:Int)==95)=true then _ else _)
      cases mU x<;>cases tF x<;>cases oH x<;>cases (x.toNat:Int)==95<;>rfl
     ·intro i hi;unfold WE;rw [eZ,if_neg (by simp; omega)]
     ·rw [hs,Le'];constructor
      ·intro h i h1 hi;obtain ⟨i,rfl⟩:∃ m,i=m+1:=⟨i-1,by omega⟩
       have hr:i<r.length:=by omega
       simp only [MO',Lb' hr];exact h _ (Lu' hr)
      ·intro h x hx;obtain ⟨i,hi,rfl⟩:=LW' hx;have:=h (i+1) (by omega) (by omega)
       simpa only [MO',Lb' hi] using this
theorem wU:bU (⟨#[]⟩:ByteArray) ⟨#[]⟩=true:=by simp [bU]
theorem BS' (n:Int):bP (Val.mk 1 n (⟨#[]⟩) [] [] [] [])=true:=by simp [bP,gY,ko,l9,pY,bC,uW,oK,wU,Val.af,Val.bn,Val.Text,Val.ai,Val.aU,Val.aW,Val.bX]
theorem BV' (s:ByteArray):bP (Val.mk 2 0 s [] [] [] [])=decide ((s.size:Int)<=64):=by rw [LZ']; simp [bP,gY,ko,l9,pY,bC,uW,oK,Val.af,Val.bn,Val.Text,Val.ai,Val.aU,Val.aW,Val.bX]; exact decide_eq_true_iff
theorem Aa' (s:ByteArray):bP (Val.mk 3 0 s [] [] [] [])=qw s:=by simp [bP,gY,ko,l9,pY,bC,uW,oK,Val.af,Val.bn,Val.Text,Val.ai,Val.aU,Val.aW,Val.bX]
theorem wC' (n:Int):bP (Val.mk 4 n (⟨#[]⟩) [] [] [] [])=decide (0<=n):=by rw [LZ']; simp [bP,gY,ko,l9,pY,bC,uW,oK,wU,Val.af,Val.bn,Val.Text,Val.ai,Val.aU,Val.aW,Val.bX]; exact decide_eq_true_iff
theorem RZ:bP (Val.mk 5 0 (⟨#[]⟩) [] [] [] [])=true:=by simp [bP,gY,ko,l9,pY,bC,uW,oK,wU,Val.af,Val.bn,Val.Text,Val.ai,Val.aU,Val.aW,Val.bX]
theorem iu' (l:List Val):bP (Val.mk 6 0 (⟨#[]⟩) l [] [] [])=(decide (l.length<=4)&&gY l):=by rw [LZ']; simp [bP,ko,l9,pY,bC,uW,oK,wU,Val.af,Val.bn,Val.Text,Val.ai,Val.aU,Val.aW,Val.bX]; intro _; exact decide_eq_true_iff
theorem bo' (x t:Val):bP (Val.mk 7 0 (⟨#[]⟩) [x,t] [] [] [])=((t.af==5||t.af==7)&&(bP x&&bP t)):=by simp [bP,gY,ko,l9,pY,bC,uW,oK,G8,wU,Val.af,Val.bn,Val.Text,Val.ai,Val.aU,Val.aW,Val.bX]
theorem Dd' (t:List Val×List Key):bP (wT t)=(yO (wT t)&&gY t.1):=by simp [wT,bP,ko,l9,pY,bC,uW,oK,wU,Val.af,Val.bn,Val.Text,Val.ai,Val.aU,Val.aW,Val.bX]
theorem wN' (n:Int)(es:List aD):bP (zS n es)=(BU (zS n es)&&ko es):=by simp [zS,bP,gY,l9,pY,bC,uW,oK,wU,Val.af,Val.bn,Val.Text,Val.ai,Val.aU,Val.aW,Val.bX]
def xR (v:Val)(l:List ByteArray):Val:=Val.mk v.af v.bn v.Text v.ai v.aU v.aW l
theorem OE {v:Val}{l:List ByteArray}(h:bP v=true)(hl:pY l=true):bP (xR v l)=true:=by cases v;simp only [bP,l9,Lc',xR,Val.af,Val.bn,Val.Text,Val.ai,Val.aU,Val.aW,Val.bX] at h ⊢;exact ⟨⟨hl,h.1.2⟩,h.2⟩
theorem Kl (v:Val)(l:List ByteArray):bD (xR v l)<=bD v+iN l:=by rw [tO,tO v];simp only [xR,Val.Text,Val.ai,Val.aU,Val.aW,Val.bX];omega
theorem kP:(⟨#[]⟩:ByteArray).size=0:=rfl
theorem iT (k n:Int)(t:ByteArray)(kids:List Val)(keys:List Key)(es:List aD):bD (Val.mk k n t kids keys es [])=8+t.size+bL kids+dK keys+dz es:=by simp only [bD,qK,iN]; omega
structure OS (L:List Int)(s:aA):Prop where
 l:s.L=L
 lo:0<=s.At
 hi:s.At<=(L.length:Int)
section
variable {L:List Int}
theorem fu (hL:L.length<=4194304){s:aA}(h:OS L s){n:Int}(h1:1<=n)(h2:n<=1000):∃ x t,dQ s n=some (x,t)/\OS L t/\0<=x/\x<n:=by
 obtain ⟨hl,lo,hi⟩:=h;unfold dQ;have e1:decide (n<1)=false:=by simp; omega
 rw [e1,hl];by_cases he:(L.length:Int)<=s.At
 ·have e2:decide ((L.length:Int)<=s.At)=true:=by simpa using he
  rw [e2];exact ⟨0,s,rfl,⟨hl,lo,hi⟩,by omega,by omega⟩
 ·have e2:decide ((L.length:Int)<=s.At)=false:=by simpa using he
  rw [e2];simp only [cond_false,KY'];have hlt:s.At.toNat<L.length:=by omega
  have e:ak L s.At=some L[s.At.toNat]:=by have:=aR (Lb' hlt);rwa [show ((s.At.toNat:Nat):Int)=s.At by omega] at this
  rw [e];simp only [KY'];have hq:BR L[s.At.toNat] n=some (L[s.At.toNat].tmod n):=by unfold BR; rw [if_neg (by omega)]
  rw [hq];simp only [KY',aV];have b1:=Int.tmod_lt_of_pos L[s.At.toNat] (show 0<n by omega)
  have b2:=Int.lt_tmod_of_pos L[s.At.toNat] (show 0<n by omega)
  have hw:d9 (s.At+1)=s.At+1:=dZ (by omega) (by omega)
  have hos:OS L (aA.mk L (d9 (s.At+1))):=⟨rfl,by show 0<=d9 (s.At+1); omega,by show d9 (s.At+1)<=_; omega⟩
  by_cases hn:L[s.At.toNat].tmod n<0
  ·rw [eZ,if_pos (by simpa using hn),dZ (x:=L[s.At.toNat].tmod n+n) (by omega) (by omega)]
   exact ⟨_,_,rfl,hos,by omega,by omega⟩
  ·rw [eZ,if_neg (by simpa using hn)]
   exact ⟨_,_,rfl,hos,by omega,by omega⟩
theorem LP {α:Type}(l:List α){x:Int}(h0:0<=x)(h1:x<(l.length:Int)):∃ t,ak l x=some t/\l[x.toNat]?=some t/\t∈l:=by
 have hlt:x.toNat<l.length:=by omega
 have:=aR (Lb' hlt);rw [show ((x.toNat:Nat):Int)=x by omega] at this
 exact ⟨_,this,Lb' hlt,Lu' hlt⟩
abbrev Hy:List ByteArray:=[⟨#[65]⟩,⟨#[66]⟩,⟨#[67]⟩]
abbrev UC:List ByteArray:=[⟨#[97]⟩,⟨#[98]⟩,⟨#[111,107]⟩,⟨#[101,114,114,111,114]⟩]
abbrev UF:List ByteArray:=[⟨#[]⟩,⟨#[115]⟩,⟨#[120,32,121]⟩,⟨#[97]⟩]
theorem UJ (hL:L.length<=4194304){s:aA}(h:OS L s):∃ x t,EO s=some (x,t)/\OS L t/\x∈Hy:=by
 obtain ⟨n,t,e,ht,a,b⟩:=fu hL h (n:=3) (by omega) (by omega)
 obtain ⟨x,ex,eg,hx⟩:=LP Hy a (by simpa using b)
 exact ⟨x,t,by unfold EO; rw [e]; simp only [KY']; rw [ex,eg]; rfl,ht,hx⟩
theorem RJ (hL:L.length<=4194304){s:aA}(h:OS L s):∃ x t,Du s=some (x,t)/\OS L t/\x∈UC:=by
 obtain ⟨n,t,e,ht,a,b⟩:=fu hL h (n:=4) (by omega) (by omega)
 obtain ⟨x,ex,eg,hx⟩:=LP UC a (by simpa using b)
 exact ⟨x,t,by unfold Du; rw [e]; simp only [KY']; rw [ex,eg]; rfl,ht,hx⟩
theorem PU (hL:L.length<=4194304){s:aA}(h:OS L s):∃ x t,Dp s=some (x,t)/\OS L t/\x∈UF:=by
 obtain ⟨n,t,e,ht,a,b⟩:=fu hL h (n:=4) (by omega) (by omega)
 obtain ⟨x,ex,eg,hx⟩:=LP UF a (by simpa using b)
 exact ⟨x,t,by unfold Dp; rw [e]; simp only [KY']; rw [ex,eg]; rfl,ht,hx⟩
theorem qZ' (hL:L.length<=4194304){s:aA}(h:OS L s):∃ x t,Gt s=some (x,t)/\OS L t:=by
 obtain ⟨n,t,e,ht,a,b⟩:=fu hL h (n:=10) (by omega) (by omega)
 obtain ⟨x,ex,eg,hx⟩:=LP ([0,1,(-1),2,3,(-2),7,(-9223372036854775808),9223372036854775807,10]:List Int) a (by simpa using b)
 exact ⟨x,t,by unfold Gt; rw [e]; simp only [KY']; rw [ex,eg]; rfl,ht⟩
def lm (o:Option (List ByteArray)):Bool :=
 match o with
 | some l=>pY l&&decide (iN l<=4)
 | none=>false
theorem K6 {o:Option (List ByteArray)}(h:lm o=true):∃ l,o=some l/\pY l=true/\iN l<=4:=by
 cases o with
 | none=>cases h
 | some l=>simp only [lm,Lc',decide_eq_true_eq] at h; exact ⟨l,rfl,h⟩
theorem mE':lm (yL ([]:List ByteArray))=true:=by kernel_rfl
theorem yq':Hy.all (λx=>lm (yL [x]))=true:=by kernel_rfl
theorem qe':Hy.all (λx=>Hy.all (λy=>lm (yL ([x]++[y]))))=true:=by kernel_rfl
theorem Rh (hL:L.length<=4194304){s:aA}(h:OS L s):∃ l t,IL s=some (l,t)/\OS L t/\pY l=true/\iN l<=4:=by
 obtain ⟨n,t,e,ht,_,_⟩:=fu hL h (n:=3) (by omega) (by omega)
 unfold IL;rw [e];simp only [KY'];cases hn:n==1
 ·simp only [cond_false,KY'];obtain ⟨l,el,h1,h2⟩:=K6 mE';exact ⟨l,t,by rw [el]; rfl,ht,h1,h2⟩
 ·simp only [cond_true,KY'];obtain ⟨x,t2,e2,ht2,hx⟩:=UJ hL ht;obtain ⟨m,t3,e3,ht3,_,_⟩:=fu hL ht2 (n:=2) (by omega) (by omega)
  rw [e2];simp only [KY'];rw [dX (by simp),e3]
  simp only [KY'];cases hm:m==1
  ·simp only [cond_false,KY'];obtain ⟨l,el,h1,h2⟩:=K6 (Le'.1 yq' x hx);exact ⟨l,t3,by rw [el]; rfl,ht3,h1,h2⟩
  ·simp only [cond_true,KY'];obtain ⟨y,t4,e4,NN,hy⟩:=UJ hL ht3;rw [e4];simp only [KY'];rw [dX (by simp)]
   obtain ⟨l,el,h1,h2⟩:=K6 (Le'.1 (Le'.1 qe' x hx) y hy);exact ⟨l,t4,by simp only [KY']; rw [el]; rfl,NN,h1,h2⟩
theorem Pj:UC.all (λx=>qw x&&decide (x.size<=5))=true:=by kernel_rfl
theorem Rz:UF.all (λx=>decide (x.size<=5))=true:=by kernel_rfl
theorem KS (hL:L.length<=4194304){s:aA}(h:OS L s):∃ v t,rO s=some (v,t)/\OS L t/\bP v=true/\bD v<=16:=by
 obtain ⟨n,t,e,ht,_,_⟩:=fu hL h (n:=6) (by omega) (by omega)
 unfold rO;rw [e];simp only [KY'];cases n==0
 ·simp only [cond_false,KY'];cases n==1
  ·simp only [cond_false,KY'];cases n==2
   ·simp only [cond_false,KY'];cases n==3
    ·simp only [cond_false,KY'];cases n==4
     ·simp only [cond_false,KY'];unfold Aj Av;rw [dX (by simp)]
      exact ⟨_,t,rfl,ht,by rw [iu']; rfl,by rw [iT]; simp [kP,bL,dK,dz]⟩
     ·simp only [cond_true,KY'];exact ⟨_,t,rfl,ht,RZ,by rw [iT]; simp [kP,bL,dK,dz]⟩
    ·simp only [cond_true,KY'];obtain ⟨x,t2,e2,ht2,h0,_⟩:=fu hL ht (n:=3) (by omega) (by omega)
     rw [e2];exact ⟨_,t2,rfl,ht2,by rw [wC']; simpa using h0,by rw [iT]; simp [kP,bL,dK,dz]⟩
   ·simp only [cond_true,KY'];obtain ⟨x,t2,e2,ht2,hx⟩:=PU hL ht;have hw:=Le'.1 Rz x hx;simp only [decide_eq_true_eq] at hw;rw [e2];exact ⟨_,t2,rfl,ht2,by rw [BV']; simp; omega,by rw [iT]; simp only [bL,dK,dz]; omega⟩
  ·simp only [cond_true,KY'];obtain ⟨x,t2,e2,ht2,hx⟩:=RJ hL ht;have hw:=Le'.1 Pj x hx;simp only [Lc',decide_eq_true_eq] at hw;rw [e2];exact ⟨_,t2,rfl,ht2,by rw [Aa']; exact hw.1,by rw [iT]; simp only [bL,dK,dz]; omega⟩
 ·simp only [cond_true,KY'];obtain ⟨x,t2,e2,ht2⟩:=qZ' hL ht;rw [e2];exact ⟨_,t2,rfl,ht2,BS' x,by rw [iT]; simp [kP,bL,dK,dz]⟩
theorem Cw' (hL:L.length<=4194304){s:aA}(h:OS L s):∃ k t,O4 s=some (k,t)/\OS L t/\fK k=true/\wV k<=8:=by
 obtain ⟨n,t,e,ht,_,_⟩:=fu hL h (n:=2) (by omega) (by omega)
 unfold O4;rw [e];simp only [KY'];cases n==0
 ·simp only [cond_false,KY'];obtain ⟨x,t2,e2,ht2,hx⟩:=PU hL ht;have hw:=Le'.1 Rz x hx;simp only [decide_eq_true_eq] at hw;rw [e2];refine ⟨_,t2,rfl,ht2,?_,?_⟩
  ·simp [fK]; omega
  ·simp only [wV,qK]; omega
 ·simp only [cond_true,KY'];obtain ⟨x,t2,e2,ht2,hx⟩:=RJ hL ht;have hw:=Le'.1 Pj x hx;simp only [Lc',decide_eq_true_eq] at hw;rw [e2];refine ⟨_,t2,rfl,ht2,?_,?_⟩
  ·simpa [fK] using hw.1
  ·simp only [wV,qK]; omega
theorem Af {γ σ τ:Type}{step:σ->Option (Fl σ τ)}(pack:γ->Int->aA->σ)(out:γ->aA->τ)(Inv:Nat->γ->Prop)(J:Nat)
 (hst:∀ (j n:Nat) (g:γ) (s:aA),j<J->n<=J->Inv j g->OS L s->∃ g' s',step (pack g ((n+1:Nat):Int) s)=some (.next (pack g' (n:Int) s'))/\OS L s'/\Inv (j+1) g')
 (hend:∀ g s,step (pack g 0 s)=some (.done (out g s))) :
 ∀ (n j k:Nat) (g:γ) (s:aA),j+n<=J->n+1<=k->Inv j g->OS L s->∃ g' s',iter step k (pack g (n:Int) s)=some (out g' s')/\OS L s'/\Inv (j+n) g':=by
 intro n
 induction n with
 | zero =>
   intro j k g s _ hk hI hs;obtain ⟨k,rfl⟩:∃ m,k=m+1:=⟨k-1,by omega⟩
   exact ⟨g,s,by have:=hend g s; simp [iter,this],hs,hI⟩
 | succ n ih =>
   intro j k g s hJ hk hI hs;obtain ⟨k,rfl⟩:∃ m,k=m+1:=⟨k-1,by omega⟩
   obtain ⟨g1,s1,e,hs1,hI1⟩:=hst j n g s (by omega) (by omega) hI hs
   obtain ⟨g2,s2,e2,hs2,hI2⟩:=ih (j+1) k g1 s1 (by omega) (by omega) hI1 hs1
   refine ⟨g2,s2,?_,hs2,by rw [show j+(n+1)=j+1+n by omega]; exact hI2⟩
   simp only [iter,e,KY'];exact e2
def hb:Nat->Nat
 | 0=>32
 | h+1=>64+8*hb h
theorem jU' {h:Nat}(hh:h<=2):hb h<=2624:=by
 match h,hh with
 | 0,_=>decide
 | 1,_=>decide
 | 2,_=>decide
theorem ak' (h:Nat):32<=hb h:=by cases h<;>simp [hb]; omega
def I8 (b:Nat)(v:Val):Prop:=bP v=true/\bD v<=b
end
theorem Qm (a b:List Val):gY (a++b)=(gY a&&gY b):=by rw [uJ,uJ,uJ,Lv']
theorem XU:∀ (ks:List Key) (vs:List Val),Cq (ks.zip vs)<=dK ks+bL vs
 | [],_=>by simp [Cq]
 | _::_,[]=>by simp [Cq]
 | k::r,v::q=>by have:=XU r q; simp only [List.zip_cons_cons,Cq,dK,bL]; omega
theorem AQ (n:Nat)(h:n<=1000)(b:Nat)(hb:b<=1024):aT n b=some ():=dX (by
 have:n*b<=1000*1024:=NG' h hb;omega)
section
variable {L:List Int}
theorem rZ' (hL:L.length<=4194304){rv:aA->Int->Option (Val×aA)}{b:Nat}{h:Int}(hv:∀ s,OS L s->∃ v t,rv s h=some (v,t)/\OS L t/\I8 b v)
 (hb:b<=100000) (hb8:8<=b) (rx:aA->Int->Option (Val×aA)) (ry:aA->Int->Int->Option (aD×aA)) (fuel:Nat) {n:Nat} (hn:n<=4) {s:aA} (hs:OS L s) :
 ∃ e t,Md fuel rv rx ry s (n:Int) h=some (e,t)/\OS L t/\wL e=true/\lV (n:Int) e=true/\pK e<=n*b+b+3:=by
 obtain ⟨g,s1,e1,hs1,h1,h2,h3⟩:=Af (L:=L) (step:=Lh h rv) (λ(g:List Val) (m:Int) (s:aA)=>(m,s,(g,false,0,0,(⟨#[]⟩:ByteArray),([]:List Val),([]:List Key),([]:List aD),([]:List ByteArray))))
  (λ(g:List Val) (s:aA)=>(s,(g,false,0,0,(⟨#[]⟩:ByteArray),([]:List Val),([]:List Key),([]:List aD),([]:List ByteArray)))) (λj g=>g.length=j/\gY g=true/\bL g<=j*b) 4
  (by
    intro j m g s hj hm ⟨i1,i2,i3⟩ hs;obtain ⟨v,t,e,ht,k1,k2⟩:=hv s hs;refine ⟨g++[v],t,?_,ht,by simp [i1],by rw [Qm,i2]; simp [gY,k1],?_⟩
    ·unfold Lh;simp only [eZ,aV];rw [if_pos (decide_eq_true (by omega)),e]
     simp only [KY'];rw [AQ _ (by simp; omega) _ (by omega),dZ (by omega) (by omega)]
     simp only [KY'];rw [show ((m+1:Nat):Int)-1=(m:Int) by omega]
    ·rw [uf];simp only [bL,LP'];omega)
  (by intro g s;unfold Lh;simp) n 0 (n+2) [] s (by omega) (by omega) ⟨rfl,rfl,by simp [bL]⟩ hs
 obtain ⟨x,t,e2,ht,_,_⟩:=fu hL hs1 (n:=4) (by omega) (by omega)
 rw [LM'] at h1 h3;unfold Md;rw [show ((n:Int)).toNat=n by omega,e1]
 simp only [KY'];rw [e2];simp only [KY'];cases x==1
 ·simp only [cond_false];obtain ⟨v,t2,e3,ht2,k1,k2⟩:=hv t ht;rw [e3];refine ⟨_,t2,rfl,ht2,by rw [Kv]; simp only [aD.cu,aD.Fails,aD.Result]; rw [h2,k1]; rfl,?_,?_⟩
  ·simp [lV,aD.cu,aD.Fails,h1]
  ·rw [rT];simp only [aD.cu,aD.Result];omega
 ·simp only [cond_true];refine ⟨_,t,rfl,ht,by rw [Kv]; simp only [aD.cu,aD.Fails]; rw [h2]; rfl,?_,?_⟩
  ·simp [lV,aD.cu,aD.Fails,aD.Result,h1,wI']
  ·rw [rT];simp only [aD.cu,aD.Result];have:bD (Val.mk 0 0 (⟨#[]⟩) [] [] [] [])=8:=by rw [iT]; rfl
   omega
theorem Rx {x:Int}{b:Int}(h0:0<=x)(h1:x<b):∃ n:Nat,x=(n:Int)/\(n:Int)<b:=⟨x.toNat,by omega,by omega⟩
theorem xi' (hL:L.length<=4194304){rv:aA->Int->Option (Val×aA)}{re:aA->Int->Int->Option (aD×aA)}{h:Nat}(hh:h<=2)
 (hv:∀ s,OS L s->∃ v t,rv s ((h:Int)+1)=some (v,t)/\OS L t/\I8 (hb h) v)
 (hv2:1<=h->∀ s,OS L s->∃ v t,rv s (h:Int)=some (v,t)/\OS L t/\I8 (hb h) v)
 (he:∀ n:Nat,n<=4->∀ s,OS L s->∃ e t,re s (n:Int) ((h:Int)+1)=some (e,t)/\OS L t/\wL e=true/\lV (n:Int) e=true/\pK e<=n*hb h+hb h+3)
 (rx:aA->Int->Option (Val×aA)) {fuel:Nat} (hf:40000<=fuel) {s:aA} (hs:OS L s) :
 ∃ v t,yS fuel rv rx re s ((h:Int)+2)=some (v,t)/\OS L t/\bP v=true/\bD v+8<=hb (h+1):=by
 have hb1:=jU' hh;have hb2:=ak' h;have hbs:hb (h+1)=64+8*hb h:=rfl;have w1:d9 ((h:Int)+2-1)=(h:Int)+1:=by rw [dZ (by omega) (by omega)]; omega
 have w2:d9 ((h:Int)+2-2)=(h:Int):=by rw [dZ (by omega) (by omega)]; omega
 have wn:∀ m:Nat,m<=10->d9 (((m+1:Nat):Int)-1)=(m:Int):=λm hm=>by rw [dZ (by omega) (by omega)]; omega
 have lf:∀ s,OS L s->∃ v t,rO s=some (v,t)/\OS L t/\bP v=true/\bD v+8<=hb (h+1):=λs hs=>by obtain ⟨v,t,e,ht,h1,h2⟩:=KS hL hs;exact ⟨v,t,e,ht,h1,by omega⟩
 obtain ⟨c,t,e,ht,_,_⟩:=fu hL hs (n:=6) (by omega) (by omega)
 unfold yS;have e0:decide ((h:Int)+2<=1)=false:=by simp; omega
 rw [e0,e];simp only [KY',cond_false,aV,w1,w2];cases c==1
 ·simp only [cond_false,KY',aL];cases c==2
  ·simp only [cond_false,KY',aL];cases c==3
   ·simp only [cond_false,KY',aL];cases c==4
    ·simp only [cond_false,KY',aL];obtain ⟨v,t2,e2,h2⟩:=lf t ht;rw [e2];exact ⟨v,t2,rfl,h2⟩
    ·simp only [cond_true,KY',aL];obtain ⟨x,t2,e2,ht2,x0,x1⟩:=fu hL ht (n:=3) (by omega) (by omega)
     obtain ⟨y,t3,e3,ht3,y0,y1⟩:=fu hL ht2 (n:=3) (by omega) (by omega)
     obtain ⟨n,rfl,hn⟩:=Rx x0 x1;obtain ⟨m,rfl,hm⟩:=Rx y0 y1;rw [e2];simp only [KY'];rw [e3];simp only [KY'];have hnb:n*hb h<=2*hb h:=LA' _ (by omega)
     obtain ⟨g,s1,e4,hs1,i1,i2,i3,i4⟩:=Af (L:=L) (step:=LJ ((h:Int)+2) ((n:Int),t2) re) (λ(g:List aD) (m:Int) (s:aA)=>(g,m,s)) (λ(g:List aD) (s:aA)=>(g,s)) (λj g=>g.length=j/\ko g=true/\g.all (lV (n:Int))=true/\dz g<=j*(3*hb h+3)) 4
      (by
        intro j m g s hj hm ⟨i1,i2,i3,i4⟩ hs;obtain ⟨v,t,e,ht,k1,k2,k3⟩:=he n (by omega) s hs
        refine ⟨g++[v],t,?_,ht,by simp [i1],by rw [Ct,Lv',<- Ct,i2]; simp [k1],by rw [Lv',i3]; simp [k2],?_⟩
        ·unfold LJ;simp only [eZ,aV];rw [if_pos (decide_eq_true (by omega)),w1,e]
         simp only [KY'];rw [AQ _ (by simp; omega) _ (by omega),wn m (by omega)]
         rfl
        ·rw [OD];simp only [dz,LP'];omega)
      (by intro g s;unfold LJ;simp) m 0 (m+2) [] t3 (by omega) (by omega) ⟨rfl,rfl,rfl,by simp [dz]⟩ ht3
     simp only [KY',Ln'];rw [e4];simp only [KY'];rw [LM'] at i1 i4;have hmb:m*(3*hb h+3)<=2*(3*hb h+3):=LA' _ (by omega)
     rw [iv' fuel (n:Int) g (by omega) (by omega),if_pos ⟨by omega,by omega,i3⟩]
     simp only [KY'];simp only [show ((0:Int)==0)=true from rfl,cond_true,KY',aL]
     refine ⟨zS (n:Int) (g.foldl jy []),s1,rfl,hs1,?_,?_⟩
     ·rw [wN'];have a1:(g.foldl jy []).all (lV (n:Int))=true:=Le'.2 λy hy=>by
       rcases Yd g [] hy with hy | hy
       ·simp at hy
       ·exact Le'.1 i3 y hy
      have a2:ko (g.foldl jy [])=true:=by
       rw [Ct];rw [Ct] at i2;exact Le'.2 λy hy=>by
        rcases Yd g [] hy with hy | hy
        ·simp at hy
        ·exact Le'.1 i2 y hy
      rw [a2];simp only [BU,zS,Val.bn,Val.aW];rw [a1,cK' g [] rfl];simp only [Ma',Lc'];exact ⟨decide_eq_true (by omega),decide_eq_true (by omega)⟩
     ·have:=Uo g [];simp only [zS,iT,kP,bL,dK];simp only [dz] at this;omega
   ·simp only [cond_true,KY',aL];obtain ⟨y,t3,e3,ht3,y0,y1⟩:=fu hL ht (n:=3) (by omega) (by omega)
    obtain ⟨m,rfl,hm⟩:=Rx y0 y1;rw [e3];simp only [KY'];obtain ⟨g,s1,e4,hs1,i1,i2,i3,i4,i5,i6⟩:=Af (L:=L) (step:=Le ((h:Int)+2) rv) (λ(g:List Key×List Val) (m:Int) (s:aA)=>(g.1,g.2,m,s)) (λ(g:List Key×List Val) (s:aA)=>(g.1,g.2,s)) (λj g=>g.1.length=j/\g.2.length=j/\g.1.all fK=true/\gY g.2=true/\bL g.2<=j*hb h/\dK g.1<=j*8) 4
     (by
       intro j m g s hj hm ⟨i1,i2,i3,i4,i5,i6⟩ hs;obtain ⟨k,t,e,ht,k1,k2⟩:=Cw' hL hs;obtain ⟨v,t2,e2,ht2,l1,l2⟩:=hv t ht;refine ⟨(g.1++[k],g.2++[v]),t2,?_,ht2,by simp [i1],by simp [i2],by rw [Lv',i3]; simp [k1],by rw [Qm,i4]; simp [gY,l1],?_,?_⟩
       ·unfold Le;simp only [eZ,aV];rw [if_pos (decide_eq_true (by omega)),e,w1]
        simp only [KY'];rw [AQ _ (by simp; omega) _ (by omega),e2]
        simp only [KY'];rw [AQ _ (by simp; omega) _ (by omega),wn m (by omega)]
        rfl
       ·rw [uf];simp only [bL,LP'];omega
       ·rw [KF];simp only [dK,LP'];omega)
     (by intro g s;unfold Le;simp) m 0 (m+2) ([],[]) t3 (by omega) (by omega) ⟨rfl,rfl,rfl,rfl,by simp [bL],by simp [dK]⟩ ht3
    simp only [Ln'];rw [e4];simp only [KY'];rw [LM'] at i1 i2 i5 i6;have hmb:m*hb h<=2*hb h:=LA' _ (by omega)
    rw [fy' g.1 g.2 (by omega),if_pos ⟨by omega,i3⟩]
    simp only [KY'];cases hx:tT (g.1.zip g.2) ([],[]) with
    | none =>
      simp only [show ((6:Int)==0)=false from rfl,cond_false,KY',aL]
      obtain ⟨v,t2,e2,h2⟩:=lf _ hs1;rw [e2];exact ⟨v,t2,rfl,h2⟩
    | some u =>
      simp only;simp only [show ((0:Int)==0)=true from rfl,cond_true,KY',aL]
      obtain ⟨m1,m2,m3,m4,m5,m6⟩:=Xr _ _ _ hx rfl rfl;have hz:=XU g.1 g.2;simp only [bL,dK] at m6;refine ⟨wT u,s1,rfl,hs1,?_,?_⟩
      ·rw [Dd'];have a1:u.2.all fK=true:=Le'.2 λy hy=>by
        rcases m4 y hy with hy | ⟨x,hx,rfl⟩
        ·simp at hy
        ·exact Le'.1 i3 _ (Oa' hx).1
       have a2:gY u.1=true:=by
        rw [uJ];rw [uJ] at i4;exact Le'.2 λy hy=>by
         rcases m5 y hy with hy | ⟨x,hx,rfl⟩
         ·simp at hy
         ·exact Le'.1 i4 _ (Oa' hx).2
       rw [a2];simp only [yO,wT,Val.aU,Val.ai];rw [a1,m1,m2];simp
      ·simp only [wT,iT,kP,dz];omega
  ·simp only [cond_true,KY',aL];have gJ:∀ (tl v:Val),bP tl=true->(tl.af=5\/tl.af=7)->bD tl<=24+hb h->I8 (hb h) v ->
    bP (Val.mk 7 0 (⟨#[]⟩) [v,tl] [] [] [])=true/\bD (Val.mk 7 0 (⟨#[]⟩) [v,tl] [] [] [])+8<=hb (h+1):=by
    intro tl v ho hk hbt ⟨k1,k2⟩;refine ⟨?_,?_⟩
    ·rw [bo',k1,ho];rcases hk with hk | hk<;>simp [hk]
    ·rw [iT];simp only [kP,bL,dK,dz];omega
   have Jp':bD (Val.mk 5 0 (⟨#[]⟩) [] [] [] [])=8:=by rw [iT]; rfl
   unfold qB FN;simp only [KY'];by_cases h2:1<=h
   ·have e5:decide (2<(h:Int)+2)=true:=by simp; omega
    obtain ⟨x,t2,e2,ht2,_,_⟩:=fu hL ht (n:=2) (by omega) (by omega)
    rw [e5,e2];simp only [KY',cond_true];cases x==1
    ·simp only [KY',cond_false];obtain ⟨l,t3,e3,ht3,l1,l2⟩:=Rh hL ht2;rw [e3];simp only [KY'];obtain ⟨v,t5,e5,Ee,k5⟩:=hv t3 ht3;rw [e5];exact ⟨_,t5,rfl,Ee,gJ (xR (Val.mk 5 0 (⟨#[]⟩) [] [] [] []) l) v (OE RZ l1) (.inl rfl) (by have:=Kl (Val.mk 5 0 (⟨#[]⟩) [] [] [] []) l; omega) k5⟩
    ·simp only [KY',cond_true];obtain ⟨v,t3,e3,ht3,k1,k2⟩:=hv2 h2 t2 ht2;rw [e3];simp only [KY'];obtain ⟨l,t4,e4,NN,l1,l2⟩:=Rh hL ht3;have ho:bP (Val.mk 7 0 (⟨#[]⟩) [v,Val.mk 5 0 (⟨#[]⟩) [] [] [] []] [] [] [])=true:=by rw [bo',k1,RZ]; rfl
     have hbb:bD (Val.mk 7 0 (⟨#[]⟩) [v,Val.mk 5 0 (⟨#[]⟩) [] [] [] []] [] [] [])<=16+hb h:=by rw [iT];simp only [kP,bL,dK,dz,Jp'];omega
     rw [e4];simp only [KY'];obtain ⟨v5,t5,e5,Ee,k5⟩:=hv t4 NN;rw [e5];exact ⟨_,t5,rfl,Ee,gJ (xR (Val.mk 7 0 (⟨#[]⟩) [v,Val.mk 5 0 (⟨#[]⟩) [] [] [] []] [] [] []) l) v5 (OE ho l1) (.inr rfl) (by have:=Kl (Val.mk 7 0 (⟨#[]⟩) [v,Val.mk 5 0 (⟨#[]⟩) [] [] [] []] [] [] []) l; omega) k5⟩
   ·have e5:decide (2<(h:Int)+2)=false:=by simp; omega
    rw [e5];simp only [KY',cond_false];obtain ⟨l,t3,e3,ht3,l1,l2⟩:=Rh hL ht;rw [e3];simp only [KY'];obtain ⟨v,t5,e5,Ee,k5⟩:=hv t3 ht3;rw [e5];exact ⟨_,t5,rfl,Ee,gJ (xR (Val.mk 5 0 (⟨#[]⟩) [] [] [] []) l) v (OE RZ l1) (.inl rfl) (by have:=Kl (Val.mk 5 0 (⟨#[]⟩) [] [] [] []) l; omega) k5⟩
 ·simp only [cond_true,KY',aL];obtain ⟨y,t3,e3,ht3,y0,y1⟩:=fu hL ht (n:=4) (by omega) (by omega)
  obtain ⟨m,rfl,hm⟩:=Rx y0 y1;rw [e3];simp only [KY'];obtain ⟨g,s1,e4,hs1,i1,i2,i3⟩:=Af (L:=L) (step:=Kh ((h:Int)+2) rv) (λ(g:List Val) (m:Int) (s:aA)=>(g,m,s)) (λ(g:List Val) (s:aA)=>(g,s)) (λj g=>g.length=j/\gY g=true/\bL g<=j*hb h) 4
   (by
     intro j m g s hj hm ⟨i1,i2,i3⟩ hs;obtain ⟨v,t,e,ht,k1,k2⟩:=hv s hs;refine ⟨g++[v],t,?_,ht,by simp [i1],by rw [Qm,i2]; simp [gY,k1],?_⟩
     ·unfold Kh;simp only [eZ,aV];rw [if_pos (decide_eq_true (by omega)),w1,e]
      simp only [KY'];rw [AQ _ (by simp; omega) _ (by omega),wn m (by omega)]
      rfl
     ·rw [uf];simp only [bL,LP'];omega)
   (by intro g s;unfold Kh;simp) m 0 (m+2) [] t3 (by omega) (by omega) ⟨rfl,rfl,by simp [bL]⟩ ht3
  simp only [Ln'];rw [e4];simp only [KY'];rw [LM'] at i1 i3;have hmb:m*hb h<=3*hb h:=LA' _ (by omega)
  unfold Aj Av;rw [AQ _ (by simp; omega) _ (by omega)]
  refine ⟨Val.mk 6 0 (⟨#[]⟩) g [] [] [],s1,rfl,hs1,?_,?_⟩
  ·rw [iu',i2];simp;omega
  ·rw [iT];simp only [kP,dK,dz];omega
theorem oA' (hL:L.length<=4194304):∀ (h k:Nat),h<=3->50000+3*h<=k->∀ s,OS L s->∃ v t,(fA k).1 s ((h:Int)+1)=some (v,t)/\OS L t/\I8 (hb h) v:=by
 intro h
 induction h using Nat.strongRecOn with
 | ind h ih =>
   intro k hh hk s hs;obtain ⟨k,rfl⟩:∃ m,k=m+2:=⟨k-2,by omega⟩
   have key:∃ v t,(fA (k+1)).2.1 s ((h:Int)+1)=some (v,t)/\OS L t/\bP v=true/\bD v+8<=hb h:=by
    show ∃ v t,yS k (fA k).1 (fA k).2.1 (fA k).2.2 s ((h:Int)+1)=some (v,t)/\_;cases h with
    | zero =>
      obtain ⟨v,t,e,ht,h1,h2⟩:=KS hL hs;refine ⟨v,t,?_,ht,h1,by simp only [hb]; omega⟩
      unfold yS;have e0:decide (((0:Nat):Int)+1<=1)=true:=rfl;rw [e0,e];rfl
    | succ h =>
      have:=xi' hL (h:=h) (by omega) (rv:=(fA k).1) (re:=(fA k).2.2) (λs hs=>ih h (by omega) k (by omega) (by omega) s hs)
       (λh1 s hs=>by
         obtain ⟨h,rfl⟩:∃ m,h=m+1:=⟨h-1,by omega⟩
         obtain ⟨v,t,e,ht,k1,k2⟩:=ih h (by omega) k (by omega) (by omega) s hs
         exact ⟨v,t,e,ht,k1,by simp only [hb]; omega⟩)
       (λn hn s hs=>by
         obtain ⟨p,rfl⟩:∃ m,k=m+1:=⟨k-1,by omega⟩
         have hb1:=jU' (show h<=2 by omega)
         have hb2:=ak' h;exact rZ' hL (rv:=(fA p).1) (b:=hb h) (λs hs=>ih h (by omega) p (by omega) (by omega) s hs) (by omega) (by omega) (fA p).2.1 (fA p).2.2 p hn hs)
       (fA k).2.1 (fuel:=k) (by omega) hs
      rw [show (((h+1:Nat):Int))+1=(h:Int)+2 by omega]
      exact this
   obtain ⟨v,t,e,ht,h1,h2⟩:=key;obtain ⟨l,t2,e2,ht2,l1,l2⟩:=Rh hL ht;show ∃ v t,CW (k+1) (fA (k+1)).1 (fA (k+1)).2.1 (fA (k+1)).2.2 s ((h:Int)+1)=some (v,t)/\_;unfold CW;rw [e];simp only [KY'];rw [e2];have:=Kl v l;exact ⟨xR v l,t2,rfl,ht2,OE h1 l1,by omega⟩
end
def wC {α:Type}(c:α->α->Int)(q:α->Bool)(l:List α)(i:Nat):Bool :=
 match l[i]? with
 | some x=>q x&&(match i with
   | 0=>true
   | j+1=>match l[j]? with
     | some y=>decide (c y x<0)
     | none=>true)
 | none=>true
theorem Yk {α:Type}(c:α->α->Int)(q:α->Bool)(l:List α):(LY' l.length).all (wC c q l)=(bC c l&&l.all q):=by
 rw [LZ',Lc',Qf,Le',Le'];constructor
 ·intro h;refine ⟨λi h1 hi=>?_,λx hx=>?_⟩
  ·obtain ⟨j,rfl⟩:∃ m,i=m+1:=⟨i-1,by omega⟩
   have:=h (j+1) (by simpa using hi)
   unfold wC at this;rw [Lb' hi] at this;simp only [Lc'] at this;have h2:=this.2;rw [Lb' (show j<l.length by omega)] at h2
   simpa using h2
  ·obtain ⟨i,hi,rfl⟩:=LW' hx;have:=h i (by simpa using hi)
   unfold wC at this;rw [Lb' hi] at this;simp only [Lc'] at this;exact this.1
 ·intro ⟨h1,h2⟩ i hi;have hi:i<l.length:=by simpa using hi
  unfold wC;rw [Lb' hi];simp only [Lc'];refine ⟨h2 _ (Lu' hi),?_⟩;cases i with
  | zero=>rfl
  | succ j =>
    simp only;rw [Lb' (show j<l.length by omega)]
    have:=h1 (j+1) (by omega) hi
    simpa using this
theorem QB {α β:Type}{step:Int->Option (Fl Int (Sum Unit β))}(c:α->α->Int)(q:α->Bool)(l:List α)(b:β)
 (hst:∀ (i:Nat) (x:α),l[i]?=some x->step (i:Int)=some (if wC c q l i=true then .next ((i+1:Nat):Int) else .done (.inr b)))
 (hend:step (l.length:Int)=some (.done (.inl ()))):iter step (l.length+1) 0=some (if (bC c l&&l.all q)=true then .inl () else .inr b):=by
 have:=lF (step:=step) (LY' l.length) (wC c q l) (λi=>(i:Int)) () b (λi x hx=>by
  have hi:i<l.length:=by have:=(La'.1 hx).1; simpa using this
  have e:x=i:=by rw [List.getElem?_range hi] at hx;cases hx; rfl
  subst e;exact hst x _ (Lb' hi)) (by rw [MG']; exact hend)
 rw [MG',Yk] at this;exact this
theorem Lf {α:Type}(c:α->α->Int)(q:α->Bool)(l:List α)(i:Nat)(x:α)(hx:l[i]?=some x)(hl:l.length<=4194304){o:Option (Fl Int (Sum Unit Bool))}
 (h0:q x=false->o=some (.done (.inr false)))
 (h1:q x=true->i=0->o=some (.next (d9 ((i:Int)+1))))
 (h2:q x=true->∀ j y,i=j+1->l[j]?=some y->ak l (d9 ((i:Int)-1))=some y->o=some (if c y x<0 then .next (d9 ((i:Int)+1)) else .done (.inr false))) :
 o=some (if wC c q l i=true then .next ((i+1:Nat):Int) else .done (.inr false)):=by
 have hi:i<l.length:=(La'.1 hx).1;have hw:=bF i (by omega)
 unfold wC;rw [hx];cases hq:q x
 ·rw [h0 hq]; simp [hq]
 ·cases i with
  | zero=>rw [h1 hq rfl,hw]; simp [hq]
  | succ j =>
    have hy:=Lb' (show j<l.length by omega)
    have hj:d9 (((j+1:Nat):Int)-1)=(j:Int):=by rw [dZ (by omega) (by omega)]; omega
    rw [h2 hq j _ rfl hy (by rw [hj]; exact aR hy),hw]
    simp only [hy];by_cases hc:c l[j] x<0<;>simp [hq,hc]
theorem xW' (a b:ByteArray):jI a b=decide (cS a b<0):=by rcases Ev a b with ⟨h,_,e⟩ | ⟨h,_,e⟩ | ⟨h,_,e⟩<;>simp [h,e]
theorem Jg (i:Nat):decide (0<(((i+1:Nat)):Int))=true:=decide_eq_true (by omega)
theorem rB' (l:List Val):(bif ((l.length:Int)==2) then (ak l 1).bind λx=>(bif (x.af==5) then some true else (ak l 1).bind λy=>some (y.af==7)).bind λq=>some q else some false)=some (G8 l):=by
 unfold G8
 match l with
 | []=>rfl
 | [_]=>rfl
 | [x,t] =>have e2:((([x,t]:List Val).length:Int)==2)=true:=rfl;rw [e2];have:ak [x,t] 1=some t:=rfl;simp only [cond_true,this,KY'];cases t.af==5<;>rfl
 | _::_::_::r =>
   rename_i a b c;have:((((a::b::c::r:List Val)).length:Int)==2)=false:=by simp; omega
   rw [this]; rfl
theorem zf' (fuel:Nat)(v:Val)(hf:2*bD v<=fuel+2)(hb:bD v<=4194304):PK fuel v=some (l9 v):=by
 have he:=tO v;have hs:=Km v.bX;have hk:=P6 v.aU;have hn:=Dl v.aW;have l1:iter (QU v) (v.bX.length+1) 0=some (if (bC cS v.bX&&v.bX.all qz)=true then .inl () else .inr false):=by
  refine QB cS qz v.bX false ?_ ?_
  ·intro i x hx;have hi:i<v.bX.length:=(La'.1 hx).1;unfold QU;simp only [eZ,aV];rw [if_pos (by simp; omega),aR hx]
   simp only [KY',ki'];refine Lf cS qz v.bX i x hx (by omega) (λh=>by rw [h]; rfl) (λh h0=>by subst h0; rw [h]; rfl) (λh j y hj hy zx=>?_)
   subst hj;rw [h,zx,Jg];simp only [Mc',Mi',if_false,if_true,KY'];rw [xW'];by_cases hc:cS y x<0<;>simp [hc]
  ·unfold QU;simp
 have l2:iter (Pz v) (v.aU.length+1) 0=some (if (bC cK v.aU&&v.aU.all fK)=true then .inl () else .inr false):=by
  refine QB cK fK v.aU false ?_ ?_
  ·intro i x hx;have hi:i<v.aU.length:=(La'.1 hx).1;unfold Pz;simp only [eZ,aV];rw [if_pos (by simp; omega),aR hx]
   simp only [KY',YR];refine Lf cK fK v.aU i x hx (by omega) (λh=>by rw [h]; rfl) (λh h0=>by subst h0; rw [h]; rfl) (λh j y hj hy zx=>?_)
   subst hj;rw [h,zx,Jg];simp only [Mc',Mi',if_false,if_true,KY',PG];by_cases hc:cK y x<0
   ·have:¬ 0<=cK y x:=by omega
    simp [hc,this]
   ·have:0<=cK y x:=by omega
    simp [hc,this]
  ·unfold Pz;simp
 have l3:iter (Oe v fuel) (v.aW.length+1) 0=some (if (bC cE v.aW&&v.aW.all (lV v.bn))=true then .inl () else .inr false):=by
  refine QB cE (lV v.bn) v.aW false ?_ ?_
  ·intro i x hx;have hi:i<v.aW.length:=(La'.1 hx).1;have hm:=vI (Lj' hx);have hbe:=rT x;unfold Oe Kn;simp only [eZ,aV];rw [if_pos (by simp; omega),aR hx]
   simp only [KY'];rw [show Val.mk 0 0 (⟨#[]⟩:ByteArray) ([]:List Val) ([]:List Key) ([]:List aD) ([]:List ByteArray)=rM from rfl,(JX fuel).1 x.Result rM (by omega) (by omega)]
   simp only [KY'];have hq:(Option.bind (if ((x.cu.length:Int) != v.bn)=true then some true else Option.bind (if x.Fails=true then some (!(cV x.Result rM==0)) else some false) λq=>some q) λq=>some q)=some (!(lV v.bn x)):=by unfold lV;have e0:((x.cu.length:Int) != v.bn)=!((x.cu.length:Int)==v.bn):=rfl;rw [e0];cases ((x.cu.length:Int)==v.bn)<;>cases x.Fails<;>cases (cV x.Result rM==0)<;>rfl
   rw [jg] at hq;simp only [jg] at hq ⊢;rw [hq];simp only [KY'];refine Lf cE (lV v.bn) v.aW i x hx (by omega) (λh=>by rw [h]; rfl) (λh h0=>by subst h0; rw [h]; rfl) (λh j y hj hy zx=>?_)
   subst hj;have hmy:=vI (Lj' hy);have hc:tC fuel y x=some (cE y x):=(JX fuel).2.2 y x (by omega) (by omega)
   rw [h,zx,Jg];simp only [Mc',Mi',if_false,if_true,KY',hc];by_cases hc:cE y x<0
   ·have:¬ 0<=cE y x:=by omega
    simp [hc,this]
   ·have:0<=cE y x:=by omega
    simp [hc,this]
  ·unfold Oe;simp
 unfold PK;simp only [dw,jg];rw [l1,l2,l3,Vq];have SY:=rB' v.ai;simp only [jg] at SY;rw [SY];simp only [KY',dp'];unfold l9 pY;cases hlab:(bC cS v.bX&&v.bX.all qz)
 ·rfl
 have h6:decide ((v.ai.length:Int)<=4)=decide (v.ai.length<=4):=by
  by_cases h:v.ai.length<=4
  ·simp [h]; omega
  ·simp [h]; omega
 have hm:yO v=(decide (v.aU.length=v.ai.length)&&(bC cK v.aU&&v.aU.all fK)):=by unfold yO;by_cases h:v.aU.length=v.ai.length<;>simp [h]
 have hm2:((v.aU.length:Int)==(v.ai.length:Int))=decide (v.aU.length=v.ai.length):=by
  by_cases h:v.aU.length=v.ai.length
  ·simp [h]
  ·simp [h]; omega
 have hfu:BU v=(!decide (v.bn<0)&&!decide (4<v.bn)&&(bC cE v.aW&&v.aW.all (lV v.bn))):=by
  unfold BU;by_cases h1:v.bn<0<;>by_cases h2:4<v.bn
  ·omega
  ·have:¬ 0<=v.bn:=by omega
   simp [h1,this]
  ·have:¬ v.bn<=4:=by omega
   simp [h2,this]
  ·have a:0<=v.bn:=by omega
   have b:v.bn<=4:=by omega
   simp [h1,h2,a,b]
 have hi:(v.bn != 0)=!(v.bn==0):=rfl;rw [hm2,hi,h6];simp only [aL,if_true];unfold uW oK;rw [hm,hfu];generalize (bC cE v.aW&&v.aW.all (lV v.bn))=f;generalize (bC cK v.aU&&v.aU.all fK)=k;generalize decide (v.aU.length=v.ai.length)=m;generalize decide (v.bn<0)=p;generalize decide (4<v.bn)=r;generalize bU v.Text ⟨#[]⟩=t;generalize v.aU.isEmpty=y;generalize v.aW.isEmpty=e;generalize v.ai.isEmpty=d;generalize (v.bn==0)=i;generalize qw v.Text=a;generalize decide ((v.Text.size:Int)<=64)=z;generalize G8 v.ai=c;generalize decide (0<=v.bn)=g;generalize decide (v.ai.length<=4)=n;by_cases hk:v.af=1\/v.af=2\/v.af=3\/v.af=4\/v.af=5\/v.af=6\/v.af=7\/v.af=8\/v.af=9
 ·rcases hk with h | h | h | h | h | h | h | h | h<;>rw [h]<;>cases i<;>cases t<;>cases d<;>cases y<;>cases e<;>simp
  all_goals first
   | rfl
   | (cases k<;>cases m<;>simp)
   | (cases p<;>cases r<;>cases f<;>simp)
 ·simp only [not_or] at hk;obtain ⟨h1,h2,h3,h4,h5,h6',h7,h8,h9⟩:=hk;have e1:(v.af==1)=false:=by simpa using h1
  have e2:(v.af==2)=false:=by simpa using h2
  have e3:(v.af==3)=false:=by simpa using h3
  have e4:(v.af==4)=false:=by simpa using h4
  have e5:(v.af==5)=false:=by simpa using h5
  have e6:(v.af==6)=false:=by simpa using h6'
  have e7:(v.af==7)=false:=by simpa using h7
  have e8:(v.af==8)=false:=by simpa using h8
  have e9:(v.af==9)=false:=by simpa using h9
  simp only [bne,e1,e2,e3,e4,e5,e6,e7,e8,e9,if_neg h1,if_neg h2,if_neg h3,if_neg h4,if_neg h5,if_neg h6',if_neg h7,if_neg h8,if_neg h9];cases i<;>cases t<;>cases d<;>cases y<;>cases e<;>rfl
theorem Wj:∀ (k:Nat) (v:Val),2*bD v<=k->bD v<=4194304->wI k v=some (bP v)
 | 0,v,h,_=>by have:=LD v; omega
 | k+1,v,h,hb=>by
   have he:=tO v;have hv:=Ho v.ai;have hn:=Dl v.aW;have hrec:∀ x,bD x<bD v->wI k x=some (bP x):=λx hx=>Wj k x (by omega) (by omega)
   show WS k (wI k) v=_;unfold WS;rw [zf' k v (by omega) hb,Hq,uJ,Ct]
   simp only [KY',dw];have l1:iter (Rb v (wI k)) (v.ai.length+1) 0=some (if v.ai.all bP=true then .inl () else .inr false):=by
    refine lF v.ai bP (λi=>(i:Int)) () false ?_ ?_
    ·intro i x hx;have hi:i<v.ai.length:=(La'.1 hx).1;have hm:=vC (Lj' hx);unfold Rb;simp only [aV];rw [show decide ((i:Int)<(v.ai.length:Int))=true by simp; omega,aR hx]
     simp only [cond_true,KY'];rw [hrec x (by omega),bF i (by omega)]
     exact yV _ _
    ·unfold Rb;simp
   have l2:iter (OP v (wI k)) (v.aW.length+1) 0=some (if v.aW.all wL=true then .inl () else .inr false):=by
    refine lF v.aW wL (λi=>(i:Int)) () false ?_ ?_
    ·intro i x hx;have hi:i<v.aW.length:=(La'.1 hx).1;have hm:=vI (Lj' hx);have hbe:=rT x;have hal:=Ho x.cu;unfold OP;simp only [aV,dw];rw [show decide ((i:Int)<(v.aW.length:Int))=true by simp; omega,aR hx]
     simp only [cond_true,KY'];have l3:iter (OZ (wI k) x) (x.cu.length+1) 0=some (if x.cu.all bP=true then .inl () else .inr false):=by
      refine lF x.cu bP (λi=>(i:Int)) () false ?_ ?_
      ·intro j y hy;have hj:j<x.cu.length:=(La'.1 hy).1;have hmy:=vC (Lj' hy);unfold OZ;simp only [aV];rw [show decide ((j:Int)<(x.cu.length:Int))=true by simp; omega,aR hy]
       simp only [cond_true,KY'];rw [hrec y (by omega),bF j (by omega)]
       exact yV _ _
      ·unfold OZ;simp
     rw [l3,hrec x.Result (by omega),Kv,uJ,bF i (by omega)]
     simp only [KY'];cases x.cu.all bP<;>cases x.Fails<;>cases bP x.Result<;>rfl
    ·unfold OP;simp
   rw [l1,l2];cases l9 v<;>cases v.ai.all bP<;>cases v.aW.all wL<;>rfl
end Go.Pl
end

/- Part 4. -/
import Derived.Test.YtmjdpaeioidmeaaGreatDoorK2
import Derived.Test.YtmjdpaeioidmeaaGreatDoorK3
import Derived.ChangeArms
import Derived.KernelRfl
import Derived.OpenShut
import Derived.Test.YtmjdpaeioidmeaaGreatDoorRows
section
namespace Go.Qx
open Go Go.RowKit Go.Sx
structure Flip (J:Nat->Prop)(w0 w:World):Prop where
 size:w.heap.size=w0.heap.size
 far:∀ b,¬ J b->w.heap[b]?=w0.heap[b]?
 off:∀ b o,¬ (J b/\o=5)->w.cell? ⟨b,o,none⟩=w0.cell? ⟨b,o,none⟩
 on:∀ b,J b->w.cell? ⟨b,5,none⟩=some (.bool true)
 fz:∀ a,w.frozen? a=w0.frozen? a
 os:w.os=w0.os
 tape:w.tape=w0.tape
 output:w.output=w0.output
 drawn:w.drawn=w0.drawn
theorem Flip.refl {J:Nat->Prop}(w:World)(h:∀ b,¬ J b):Flip J w w:=⟨rfl,fun _ _=>rfl,fun _ _ _=>rfl,fun b hb=>absurd hb (h b),fun _=>rfl,rfl,rfl,rfl,rfl⟩
theorem Flip.store {J J':Nat->Prop}{w0 w:World}(h:Flip J w0 w){g:Nat}{u:Value}(hc:w.cell? ⟨g,5,none⟩=some u)(hJ:∀ b,J' b↔J b\/b=g):Flip J' w0 (w.setCell ⟨g,5,none⟩ (.bool true)):=by
 refine ⟨?_,fun b hb=>?_,fun b o hb=>?_,fun b hb=>?_,fun a=>(a9T _ _ _ _).trans (h.fz a),h.os,h.tape,h.output,h.drawn⟩
 ·exact (a3T g [.bool true] 5 w).trans h.size
 ·have hn:¬ (J b\/b=g):=fun k=>hb ((hJ b).2 k)
  exact (a0x g [.bool true] 5 w b fun e=>hn (.inr e)).trans (h.far b fun e=>hn (.inl e))
 ·rw [World.cell?_setCell_other _ _ _ _ (fun e=>hb (by cases e; exact ⟨(hJ _).2 (.inr rfl),rfl⟩))]
  exact h.off b o fun k=>hb ⟨(hJ b).2 (.inl k.1),k.2⟩
 ·by_cases e:b=g
  ·subst e
   exact World.cell?_setCell_same _ _ _ hc
  ·rw [World.cell?_setCell_other _ _ _ _ (fun e'=>e (by cases e'; rfl))]
   exact h.on b (((hJ b).1 hb).resolve_right e)
section
variable {P:Program}{ops:Array Oper}{Q:Exit->Act->World->Prop}{n:Nat}{F:Fr}{rest:List Oper}{d:Option Nat}{ty:TypeId}{pos:String}{aft:Array Edge}
theorem c1r {T:TypeId}{x y:Operand}{b o:Nat}{v v0:Value}{w:World}(hx:ev F x=.pointer (some ⟨b,o,none⟩))(hkx:Z4 n x=true)(hky:Z4 n y=true)(hv:(ev F y).cells.toList=[v])
 (hT:(P.info? T).map (·.size)=some 1) (h1:v.oneCell'=true) (hc:w.cell? ⟨b,o,none⟩=some v0) (hf:w.frozen? ⟨b,o,none⟩=false) (h:wpList P ops Q rest (fr n (Y3 F d undef)) (w.setCell ⟨b,o,none⟩ v)) :
 wpList P ops Q (⟨d,.store T x y,ty,pos,aft,none⟩::rest) (fr n F) w:=by
 have hsz:(ev F y).cells.size=1:=by rw [<- Array.length_toList,hv]; rfl
 refine a9q rfl (w.setCell ⟨b,o,none⟩ v) ?_ h
 show Sem.run P (do Instr.storeAt T ((fr n F).eval x) ((fr n F).eval y); pure Next.skip) w=_
 rw [j8 hkx,j8 hky,hx]
 have hst:=run_storeCells_cells (P:=P) b o [v] 0 w (fun j hj=>by
  obtain rfl:j=0:=by simpa using hj
  simp [hc]) (fun j hj=>by
  obtain rfl:j=0:=by simpa using hj
  simpa using hf) (fun u hu=>by rw [List.mem_singleton.1 hu]; exact h1)
 simp only [Nat.add_zero,World.setCells] at hst
 simp only [Instr.storeAt,Instr.sureAddr,storeVar,Sem.run_bind,Sem.run_pure,Result.andThen_ok,Sx.run_sizeOf hT,hsz,ne_eq,not_true_eq_false,if_false,hv,hst]
end
structure FlipTy {γ δ:Type} [Rp γ] [Rp δ] (B:Nat)(to:γ->List δ)(ps ng:δ->List Int)(bt:δ->Bool):Prop where
 szγ:Rp.sz γ=1
 szδ:Rp.sz δ=3
 cγ:∀ {σ:S} {x:γ} {cs:List Value},Rp.cells σ x cs↔∃ A c,cs=[.slice A (to x).length c]/\Sl σ (to x) A c/\(to x≠[]->∃ g,A=some ⟨g,0,none⟩/\B<=g)
 cδ:∀ {σ:S} {d:δ} {cs:List Value},Rp.cells σ d cs↔∃ A1 c1 A2 c2,cs=[.slice A1 (ps d).length c1,.slice A2 (ng d).length c2,.bool (bt d)]/\Sl σ (ps d) A1 c1/\Sl σ (ng d) A2 c2
section
variable {γ δ:Type} [Rp γ] [Rp δ] {B:Nat}{to:γ->List δ}{ps ng:δ->List Int}{bt:δ->Bool}
def JB (w:World)(A:Option Addr)(i b:Nat):Prop:=∃ ob oo j l c,A=some ⟨ob,oo,none⟩/\j<i/\w.cell? ⟨ob,oo+j,none⟩=some (.slice (some ⟨b,0,none⟩) l c)
theorem b3S (hT:FlipTy B to ps ng bt){τ:S}{bs:List γ}{A:Option Addr}{k:Nat}(hs:Sl τ bs A k){i:Nat}{x:γ}(hx:bs[i]?=some x)(h2:2<=(to x).length) :
 ∃ ob oo g c d0 d1 r,A=some ⟨ob,oo,none⟩/\τ.w.cell? ⟨ob,oo+i,none⟩=some (.slice (some ⟨g,0,none⟩) (to x).length c)/\B<=g/\to x=d0::d1::r/\Sl τ (to x) (some ⟨g,0,none⟩) c /\
  τ.w.cell? ⟨g,5,none⟩=some (.bool (bt d1))/\τ.w.frozen? ⟨g,5,none⟩=false:=by
 obtain ⟨ob,oo,cs,e1,h1,h3⟩:=hs.at_ hx
 obtain ⟨A',c,rfl,h4,h5⟩:=hT.cγ.1 h1
 obtain ⟨g,rfl,hg⟩:=h5 (by intro e; rw [e] at h2; simp at h2)
 rw [hT.szγ,Nat.mul_one] at h3
 have hc0:=h3.2 0 _ rfl
 rw [Nat.add_zero] at hc0
 match e:to x,h2 with
 | d0::d1::r,_ =>
   have h4':=h4
   rw [e] at h4'
   obtain ⟨b,o,cs,e2,k1,k2⟩:=h4'.at_ (i:=1) (x:=d1) rfl
   cases e2
   obtain ⟨A1,c1,A2,c2,rfl,_,_⟩:=hT.cδ.1 k1
   rw [hT.szδ] at k2
   have k3:=k2.2 2 _ rfl
   have k4:=k2.1.2 2 (by simp)
   refine ⟨ob,oo,g,c,d0,d1,r,e1,by rw [<- e]; exact hc0,hg,rfl,by rw [<- e]; exact h4,?_,?_⟩
   ·simpa using k3
   ·simpa using k4
theorem b3d (hT:FlipTy B to ps ng bt){τ:S}{bs:List γ}{A:Option Addr}{k:Nat}(hs:Sl τ bs A k)(h2:∀ x∈bs,2<=(to x).length){i b:Nat}(hi:i<=bs.length)(hJ:JB τ.w A i b) :
 B<=b/\∃ v,τ.w.cell? ⟨b,5,none⟩=some (.bool v):=by
 obtain ⟨ob,oo,j,l,c,e1,hj,hc⟩:=hJ
 have hjl:j<bs.length:=by omega
 obtain ⟨ob',oo',g,c',d0,d1,r,e2,k1,k2,k3,k4,k5,k6⟩:=b3S hT hs (List.getElem?_eq_getElem hjl) (h2 _ (List.getElem_mem hjl))
 rw [e1] at e2
 cases e2
 rw [hc] at k1
 cases k1
 exact ⟨k2,_,k5⟩
theorem c7h (i:Nat)(h:i<9223372036854775807):IntKind.wrap .i64 ((i:Int)+1)=((i+1:Nat):Int):=by
 rw [IntKind.wrap_i64]
 omega
theorem b6J {m:Nat}:∀ (q i:Nat),i+q=m->y2 (fun i=>if i<m then some (Fl.next (i+1)) else some (Fl.done ())) (q+1) i=some ()
 | 0,i,h=>by
   have:¬ i<m:=by omega
   simp [y2,this]
 | q+1,i,h=>by
   have:i<m:=by omega
   simp only [y2,this,if_true,Option.bind_some]
   exact b6J q (i+1) (by omega)
set_option maxHeartbeats 1000000 in
theorem c4b (hT:FlipTy B to ps ng bt){P:Program}{Q:Exit->Act->World->Prop}{F:Fr}{τ:S}{bs:List γ}{A:Option Addr}{k:Nat}(hs:Sl τ bs A k)(h2:∀ x∈bs,2<=(to x).length)
 {Ti Tb To Tx Tr Tg:TypeId} {i1 i2 i16 i17 i18 i19:Nat} {t0 t1 t2 t3 t4 t5 t6 t7 t8 t9 ta tb tc u1 u2:TypeId} {p0 p1 p2 p3 p4 p5 p6 p7 p8 p9 pa pb pc:String} {a0 a1 a2 a3 a4 a5 a6 a7 a8 a9 aa ab ac:Array Edge}
 (hTo:P.underlying To=some (.slice Tx)) (hTx:(P.info? Tx).map (·.size)=some 1) (hfx:a2B P Tx 0 0) (hr1:J5 P Tr) (hTr:P.underlying Tr=some (.slice Tg)) (hTg:(P.info? Tg).map (·.size)=some 3) (hfg:a2B P Tg 2 2) (hTb:(P.info? Tb).map (·.size)=some 1)
 (h12:F 12=.slice A bs.length k) (h58:F 58=.int .i64 (bs.length:Int)) (h59:F 59=.int .i64 0)
 (hk:∀ F' w,Flip (JB τ.w A bs.length) τ.w w->F' 12=F 12->Q .normal (fr 71 F') w) :
 (Code.block i1 (.loop (.seq (.region i16 #[⟨some 60,.binOp .lss Ti (.tmp 59) (.tmp 58) u1,t0,p0,a0,none⟩] false) (.seq (.cond (.tmp 60) .skip (.exit i1)) (.seq (.block i2 (.seq
   (.region i17 #[⟨some 61,.move (.tmp 59),t1,p1,a1,none⟩,⟨some 13,.assign (.tmp 61),t2,p2,a2,none⟩] false)
   (.region i18 #[⟨some 62,.move (.tmp 12),t3,p3,a3,none⟩,⟨some 63,.move (.tmp 13),t4,p4,a4,none⟩,⟨some 64,.indexAddr To (.tmp 62) (.tmp 63),t5,p5,a5,none⟩,⟨some 65,.fieldAddr Tx (.tmp 64) 0,t6,p6,a6,none⟩,⟨some 66,.load Tr (.tmp 65),t7,p7,a7,none⟩,
     ⟨some 67,.indexAddr Tr (.tmp 66) (.const (.int .i64 1)),t8,p8,a8,none⟩,⟨some 68,.fieldAddr Tg (.tmp 67) 2,t9,p9,a9,none⟩,⟨none,.store Tb (.tmp 68) (.const (.bool true)),ta,pa,aa,none⟩] false)))
   (.region i19 #[⟨some 69,.binOp .add Ti (.tmp 59) (.const (.int .i64 1)) u2,tb,pb,ab,none⟩,⟨some 59,.move (.tmp 69),tc,pc,ac,none⟩] false)))))).wp P Q (fr 71 F) τ.w:=by
 let Inv:Nat->Act->World->Prop:=fun i a w=>i<=bs.length/\∃ F',a=fr 71 F'/\F' 12=.slice A bs.length k/\F' 58=.int .i64 (bs.length:Int)/\F' 59=.int .i64 (i:Int)/\Flip (JB τ.w A i) τ.w w
 let Post:Unit->Exit->Act->World->Prop:=fun _ e a w=>e=.exit i1/\∃ F',a=fr 71 F'/\F' 12=.slice A bs.length k/\Flip (JB τ.w A bs.length) τ.w w
 refine wp_block (wp_mono (a6K (P:=P) (step:=fun i=>if i<bs.length then some (Fl.next (i+1)) else some (Fl.done ())) Inv Post (fun b a w h=>by cases h.1) (fun i fl a w hst hI=>?_) (bs.length+1) 0 () (fr 71 F) τ.w (b6J bs.length 0 (by omega)) ⟨Nat.zero_le _,F,rfl,h12,h58,h59,Flip.refl _ fun b ⟨_,_,j,_,_,_,hj,_⟩=>by omega⟩) fun e a w hp=>?_)
 ·obtain ⟨hi,F',rfl,f12,f58,f59,hfl⟩:=hI
  refine wp_seq (wp_region_lit ?_)
  refine a3p (.int .i64 (i:Int)) (.int .i64 (bs.length:Int)) (.bool (decide ((i:Int)<(bs.length:Int)))) f59 f58 rfl rfl b9I ?_
  refine wpList_nil (Y7 ?_)
  by_cases hlt:i<bs.length
  ·rw [if_pos hlt] at hst
   cases hst
   have hd:decide ((i:Int)<(bs.length:Int))=true:=by simpa using hlt
   refine wp_seq (b0e rfl hd rfl (wp_skip (Y7 ?_)))
   refine wp_seq (wp_block (wp_seq (wp_region_lit ?_)))
   refine J7 (.int .i64 (i:Int)) f59 rfl ?_
   refine a0j (.int .i64 (i:Int)) rfl rfl ?_
   refine wpList_nil (Y7 (wp_region_lit ?_))
   obtain ⟨ob,oo,g,c,d0,d1,r,rfl,k1,k2,k3,k4,k5,k6⟩:=b3S hT hs (List.getElem?_eq_getElem hlt) (h2 _ (List.getElem_mem hlt))
   have hw1:w.cell? ⟨ob,oo+i,none⟩=some (.slice (some ⟨g,0,none⟩) (to bs[i]).length c):=by
    rw [hfl.off ob (oo+i) fun hJ=>?_]
    ·exact k1
    ·obtain ⟨_,v,hv⟩:=b3d hT hs h2 hi hJ.1
     rw [hJ.2,hv] at k1
     cases k1
   have hw2:∃ u,w.cell? ⟨g,5,none⟩=some u:=by
    by_cases hJ:JB τ.w (some ⟨ob,oo,none⟩) i g
    ·exact ⟨_,hfl.on g hJ⟩
    ·exact ⟨_,(hfl.off g 5 fun h=>hJ h.1).trans k5⟩
   obtain ⟨u,hu⟩:=hw2
   have hfz:w.frozen? ⟨g,5,none⟩=false:=(hfl.fz _).trans k6
   have hl2:2<=(to bs[i]).length:=h2 _ (List.getElem_mem hlt)
   refine J7 (.slice (some ⟨ob,oo,none⟩) bs.length k) f12 rfl ?_
   refine J7 (.int .i64 (i:Int)) rfl rfl ?_
   refine a4t (g:=ob) (o:=oo) (len:=bs.length) (k:=k) (sz:=1) (j:=(i:Int)) (by omega) (by omega) rfl rfl rfl rfl hTo hTx ?_
   refine J3 ob (oo+(i:Int).toNat*1) 0 (oo+i) rfl rfl hfx (by simp) ?_
   refine a0E ob (oo+i) (.slice (some ⟨g,0,none⟩) (to bs[i]).length c) rfl rfl (a0n hr1 hw1) ?_
   refine a4t (g:=g) (o:=0) (len:=(to bs[i]).length) (k:=c) (sz:=3) (j:=1) (by omega) (by omega) rfl rfl rfl rfl hTr hTg ?_
   refine J3 g (0+(1:Int).toNat*3) 2 5 rfl rfl hfg rfl ?_
   refine c1r (v:=.bool true) rfl rfl rfl rfl hTb rfl hu hfz ?_
   refine wpList_nil (c4q (Y7 (wp_region_lit ?_)))
   refine a3p (.int .i64 (i:Int)) (.int .i64 1) (.int .i64 ((i+1:Nat):Int)) f59 rfl rfl rfl (by have:=b9N (P:=P) (w:=w.setCell ⟨g,5,none⟩ (.bool true)) (T:=Ti) (x:=.tmp 59) (y:=.const (.int .i64 1)) (k:=.i64) (a:=(i:Int)) (b:=1); rw [c7h i (Nat.lt_of_lt_of_le hlt hs.le_max)] at this; exact this) ?_
   refine J7 (.int .i64 ((i+1:Nat):Int)) rfl rfl ?_
   refine wpList_nil ⟨rfl,by omega,_,rfl,f12,f58,rfl,hfl.store hu fun b=>⟨fun ⟨ob',oo',j,l,c',e,hj,hc⟩=>?_,fun h=>?_⟩⟩
   ·cases e
    by_cases ej:j<i
    ·exact .inl ⟨ob,oo,j,l,c',rfl,ej,hc⟩
    ·obtain rfl:j=i:=by omega
     rw [k1] at hc
     cases hc
     exact .inr rfl
   ·rcases h with ⟨ob',oo',j,l,c',e,hj,hc⟩ | rfl
    ·exact ⟨ob',oo',j,l,c',e,by omega,hc⟩
    ·exact ⟨ob,oo,i,_,_,rfl,by omega,k1⟩
  ·rw [if_neg hlt] at hst
   cases hst
   have hd:decide ((i:Int)<(bs.length:Int))=false:=by simpa using hlt
   obtain rfl:i=bs.length:=by omega
   exact wp_seq (a5a rfl hd rfl (wp_exit (b8d ⟨rfl,_,rfl,f12,hfl⟩)))
 ·obtain ⟨rfl,F',rfl,f12,hfl⟩:=hp
  exact c4S (hk F' w hfl (f12.trans h12.symm))
theorem b8D (hT:FlipTy B to ps ng bt){τ:S}{bs:List γ}{A:Option Addr}{k:Nat}(hs:Sl τ bs A k)(h2:∀ x∈bs,2<=(to x).length){w:World}(hfl:Flip (JB τ.w A bs.length) τ.w w)
 {b o:Nat} {v:Value} (hc:τ.w.cell? ⟨b,o,none⟩=some v) (hv:∀ x,v≠.bool x):w.cell? ⟨b,o,none⟩=some v:=by
 rw [hfl.off b o fun hJ=>?_]
 ·exact hc
 ·obtain ⟨_,x,hx⟩:=b3d hT hs h2 (Nat.le_refl _) hJ.1
  rw [hJ.2,hx] at hc
  exact hv x (Option.some.inj hc).symm
theorem c5n {σ τ:S}:∀ {xs:List Int} {cs:List Value},Y0 σ xs cs->Y0 τ xs cs/\∀ v∈cs,∀ x,v≠.bool x
 | [],_,h=>by cases h; exact ⟨rfl,fun v hv=>by cases hv⟩
 | n::xs,_,⟨c,r,e,hc,hr⟩=>by
   obtain ⟨h1,h2⟩:=c5n (τ:=τ) hr
   have hc':c=[.int .i64 n]:=hc
   refine ⟨⟨c,r,e,hc,h1⟩,fun v hv x=>?_⟩
   subst e
   subst hc'
   rcases List.mem_append.1 hv with hv | hv
   ·rw [List.mem_singleton.1 hv]; intro h; cases h
   ·exact h2 v hv x
theorem a8m (hT:FlipTy B to ps ng bt){τ:S}{bs:List γ}{A:Option Addr}{k:Nat}(hs:Sl τ bs A k)(h2:∀ x∈bs,2<=(to x).length){w:World}(hfl:Flip (JB τ.w A bs.length) τ.w w)
 {xs:List Int} {A1:Option Addr} {c1:Nat} (h:Sl τ xs A1 c1):Sl (⟨w,τ.L⟩:S) xs A1 c1:=by
 obtain ⟨h1,h3,cs,h4,h5⟩:=h
 obtain ⟨k1,k2⟩:=c5n (τ:=⟨w,τ.L⟩) h4
 refine ⟨h1,h3,cs,k1,fun hn=>?_⟩
 obtain ⟨b,o,e,h6⟩:=h5 hn
 exact ⟨b,o,e,⟨h6.1.1,fun j hj=>(hfl.fz _).trans (h6.1.2 j hj)⟩,fun j v hv=>b8D hT hs h2 hfl (h6.2 j v hv) (k2 v (List.mem_of_getElem? hv))⟩
theorem c0X (hT:FlipTy B to ps ng bt){τ:S}{bs:List γ}{A:Option Addr}{k:Nat}(hs:Sl τ bs A k)(h2:∀ x∈bs,2<=(to x).length){w:World}(hfl:Flip (JB τ.w A bs.length) τ.w w)
 {d:δ} {cs:List Value} (h:Rp.cells τ d cs):Rp.cells (⟨w,τ.L⟩:S) d cs:=by
 obtain ⟨A1,c1,A2,c2,e,k1,k2⟩:=hT.cδ.1 h
 exact hT.cδ.2 ⟨A1,c1,A2,c2,e,a8m hT hs h2 hfl k1,a8m hT hs h2 hfl k2⟩
theorem b8P (hT:FlipTy B to ps ng bt){τ:S}{bs:List γ}{A:Option Addr}{k:Nat}(hs:Sl τ bs A k)(h2:∀ x∈bs,2<=(to x).length){w:World}(hfl:Flip (JB τ.w A bs.length) τ.w w) :
 ∀ {ds:List δ} {cs:List Value},Y0 τ ds cs->Y0 (⟨w,τ.L⟩:S) ds cs
 | [],_,h=>h
 | _::_,_,⟨c,r,e,hc,hr⟩=>⟨c,r,e,c0X hT hs h2 hfl hc,b8P hT hs h2 hfl hr⟩
theorem c0j {σ:S}{f:γ->γ}:∀ {xs:List γ} {cs:List Value},cs.length=xs.length->(∀ (i:Nat) (x:γ) (v:Value),xs[i]?=some x->cs[i]?=some v->Rp.cells σ (f x) [v])->Y0 σ (xs.map f) cs
 | [],[],_,_=>rfl
 | x::xs,v::cs,h,hk=>⟨[v],cs,rfl,hk 0 x v rfl rfl,c0j (by simpa using h) fun i x' v' h1 h2=>hk (i+1) x' v' h1 h2⟩
theorem c4V (hT:FlipTy B to ps ng bt){setL:δ->δ}{setB:γ->γ}(hset:∀ x d0 d1 r,to x=d0::d1::r->to (setB x)=d0::setL d1::r)(hL:∀ d,ps (setL d)=ps d/\ng (setL d)=ng d/\bt (setL d)=true)
 {τ:S} {bs:List γ} {A:Option Addr} {k:Nat} (hs:Sl τ bs A k) (h2:∀ x∈bs,2<=(to x).length) {w:World} (hfl:Flip (JB τ.w A bs.length) τ.w w):Sl (⟨w,τ.L⟩:S) (bs.map setB) A k:=by
 have hs0:=hs
 obtain ⟨h1,h3,cs,h4,h5⟩:=hs
 have hlen:cs.length=bs.length:=by rw [h4.len,hT.szγ,Nat.mul_one]
 refine ⟨by rw [List.length_map]; exact h1,h3,cs,c0j hlen fun i x v hx hv=>?_,fun hn=>?_⟩
 ·have hi:i<bs.length:=(List.getElem?_eq_some_iff.1 hx).1
  obtain ⟨ob,oo,g,c,d0,d1,r,eA,k1,k2,k3,k4,k5,k6⟩:=b3S hT hs0 hx (h2 x (List.mem_of_getElem? hx))
  obtain ⟨b,o,eA',h6⟩:=h5 (by intro e; rw [e] at hi; simp at hi)
  rw [eA] at eA'
  cases eA'
  have hv':=h6.2 i v hv
  rw [k1] at hv'
  cases hv'
  have hJ:JB τ.w A bs.length g:=⟨ob,oo,i,_,_,eA,hi,k1⟩
  have hto:=hset x d0 d1 r k3
  have hl:(to (setB x)).length=(to x).length:=by rw [hto,k3]; rfl
  refine hT.cγ.2 ⟨some ⟨g,0,none⟩,c,by rw [hl],?_,fun _=>⟨g,rfl,k2⟩⟩
  obtain ⟨m1,m2,cs2,m3,m4⟩:=k4
  refine ⟨by rw [hl]; exact m1,m2,?_⟩
  rw [k3] at m3
  obtain ⟨q0,r0,rfl,f0,q1,r1,rfl,f1,f2⟩:=m3
  obtain ⟨b',o',eg,m5⟩:=m4 (by rw [k3]; exact List.cons_ne_nil _ _)
  cases eg
  obtain ⟨A1,c1,A2,c2,rfl,s1,s2⟩:=hT.cδ.1 f1
  have hq0:q0.length=3:=(Rp.len f0).trans hT.szδ
  match q0,hq0 with
  | [x0,x1,x2],_ =>
    refine ⟨[x0,x1,x2]++([.slice A1 (ps d1).length c1,.slice A2 (ng d1).length c2,.bool true]++r1),?_,fun _=>⟨g,0,rfl,⟨?_,fun j hj=>(hfl.fz _).trans (m5.1.2 j (by simpa using hj))⟩,fun j v hv=>?_⟩⟩
    ·rw [hto]
     obtain ⟨l1,l2,l3⟩:=hL d1
     exact ⟨_,_,rfl,c0X hT hs0 h2 hfl f0,_,_,rfl,hT.cδ.2 ⟨A1,c1,A2,c2,by rw [l1,l2,l3],by rw [l1]; exact a8m hT hs0 h2 hfl s1,by rw [l2]; exact a8m hT hs0 h2 hfl s2⟩,b8P hT hs0 h2 hfl f2⟩
    ·simpa using m5.1.1
    ·by_cases ej:j=5
     ·subst ej
      have hv2:some (Value.bool true)=some v:=hv
      cases hv2
      rw [Nat.zero_add]
      exact hfl.on g hJ
     ·show w.cell? ⟨g,0+j,none⟩=some v
      rw [hfl.off g (0+j) fun h=>ej (by omega)]
      refine m5.2 j v ?_
      match j,ej,hv with
      | 0,_,hv=>exact hv
      | 1,_,hv=>exact hv
      | 2,_,hv=>exact hv
      | 3,_,hv=>exact hv
      | 4,_,hv=>exact hv
      | j+6,_,hv=>exact hv
 ·have hn':bs≠[]:=fun e=>hn (by rw [e]; rfl)
  obtain ⟨b,o,eA,h6⟩:=h5 hn'
  refine ⟨b,o,eA,⟨h6.1.1,fun j hj=>(hfl.fz _).trans (h6.1.2 j hj)⟩,fun j v hv=>?_⟩
  refine b8D hT hs0 h2 hfl (h6.2 j v hv) fun x e=>?_
  have hj:j<bs.length:=by rw [<- hlen]; exact (List.getElem?_eq_some_iff.1 hv).1
  obtain ⟨ob,oo,g,c,d0,d1,r,eA',k1,_⟩:=b3S hT hs0 (List.getElem?_eq_getElem hj) (h2 _ (List.getElem_mem hj))
  rw [eA] at eA'
  cases eA'
  have:=h6.2 j v hv
  rw [k1] at this
  cases this
  cases e
theorem c48 {J:Nat->Prop}{M:Nat->Prop}{σ τ:S}{w:World}(hst:Stp M σ τ)(hJ:∀ b,J b->σ.N<=b)(hfl:Flip J τ.w w):Stp M σ (⟨w,τ.L⟩:S):=by
 have hno:∀ b,b<σ.w.heap.size->¬ J b:=fun b hb h=>by
  have h':σ.w.heap.size<=b:=hJ b h
  omega
 refine ⟨⟨?_,hst.wext.len,fun b o v ho hc=>?_,?_,fun b o hb hf=>(hfl.fz _).trans (hst.wext.nf b o hb hf)⟩,hfl.os.trans hst.os,hfl.tape.trans hst.tape,hfl.output.trans hst.output,fun b hb hn=>?_⟩
 ·show σ.w.heap.size<=w.heap.size
  rw [hfl.size]
  exact hst.wext.size
 ·show w.cell? ⟨b,o,none⟩=some v
  rw [hfl.off b o fun h=>hno b (a1i hc) h.1]
  exact hst.wext.cell b o v ho hc
 ·show σ.w.drawn<=w.drawn
  rw [hfl.drawn]
  exact hst.wext.drawn
 ·obtain ⟨h1,h2⟩:=hst.block b hb hn
  exact ⟨(hfl.far b (hno b hb)).trans h1,h2⟩
end
end Go.Qx
end
section
namespace Go.Qx
open Go Go.RowKit Go.Sx
def b8m:Nat->Code->List Code
 | m+1,.seq a b=>a::b8m m b
 | _,_=>[]
def c3b:Nat->Code->Code
 | m+1,.seq _ b=>c3b m b
 | _,c=>c
theorem c0k:∀ (m:Nat) (c:Code),a8t (b8m m c) (c3b m c)=c
 | 0,c=>by cases c<;>rfl
 | m+1,c=>by
   cases c with
   | seq a b=>exact congrArg (Code.seq a) (c0k m b)
   | _=>rfl
section
variable {I:TypeId->Type} [∀ E,Rp (I E)] {P:Program}{ρ:Type}
def c2z (s:St I)(E:TypeId)(xs:List (I E)):St I:=⟨71,fun i=>bif Nat.beq i 12 then some (.sl E xs false) else none,fun l=>match s.O l with
 | some _=>some none
 | none=>none,s.nx⟩
def c2W (tb:Tab I)(disp:Q9 I)(H:Hints I)(E:TypeId)(setB:I E->I E)(ok:I E->Bool)(c20:Code)(fin:Ex->St I->Option ρ)(s:St I):Option ρ:=match s.F 12 with
 | some (.vw l)=>match s.O l with
   | some (some (.row E' xs false))=>Option.bind (a0e E E' xs) fun bs=>bif bs.all ok then a0C tb disp H c20 1023 ρ (c2z s E (bs.map setB)) fin else none
   | _=>none
 | _=>none
def c5G (tb:Tab I)(disp:Q9 I)(H:Hints I)(E:TypeId)(setB:I E->I E)(ok:I E->Bool)(r14 c20:Code)(fin:Ex->St I->Option ρ):Ex->St I->Option ρ
 | .normal,s=>a0C tb disp H r14 2044 ρ s fun e s1=>match e with
   | .normal=>Option.bind (evP s1.n s1.F (.tmp 56)) fun q=>match q with
     | .bool b=>bif b then c2W tb disp H E setB ok c20 fin s1 else a0C tb disp H c20 1023 ρ s1 fin
     | _=>none
   | _=>none
 | .ret,s=>fin .ret s
 | .exit _,_=>none
set_option maxHeartbeats 1000000 in
theorem c5Z {tb:Tab I}{disp:Q9 I}{H:Hints I}(ht:TabOk P tb)(hd:DispOk P disp)(hmx:P.follows .mixedOrders=true){B f:Nat}{T1 T2 E G:TypeId}{to:I E->List (I G)}{ps ng:I G->List Int}{bt:I G->Bool}
 (hT:FlipTy B to ps ng bt) {setL:I G->I G} {setB:I E->I E} (hset:∀ x d0 d1 r,to x=d0::d1::r->to (setB x)=d0::setL d1::r) (hL:∀ d,ps (setL d)=ps d/\ng (setL d)=ng d/\bt (setL d)=true) {ok:I E->Bool} (hok:∀ x,ok x=true->2<=(to x).length)
 {run:b5v I [.d (.dat T1),.d (.dat T2)] (TyT I [.k (.d (.sl E)),.k (.d (.int .i64))])} {fn:Func} {cd r14 c20:Code}
 {Ti Tb To Tx Tr Tg Tl:TypeId} {i1 i2 i15 i16 i17 i18 i19:Nat} {t0 t1 t2 t3 t4 t5 t6 t7 t8 t9 ta tb' tc u1 u2 l1 l2 l3:TypeId} {p0 p1 p2 p3 p4 p5 p6 p7 p8 p9 pa pb pc q1 q2 q3:String} {a0 a1 a2 a3 a4 a5 a6 a7 a8 a9 aa ab ac b1 b2 b3:Array Edge}
 (hf : P.funcs[f]? = some fn) (hb : fn.body = some cd) (hname : (fn.name == "runtime.NumGoroutine") = false) (hn : fn.ntmps = 71) {rl : List ResultVar} (hres : fn.results.toList = rl)
 (hrest:c3b 8 cd=.seq (.seq r14 (.cond (.tmp 56) (.seq (.region i15 #[⟨some 57,.move (.tmp 12),l1,q1,b1,none⟩,⟨some 58,.call ⟨.builtin .len,#[.tmp 57],#[Tl]⟩,l2,q2,b2,none⟩,⟨some 59,.move (.const (.int .i64 0)),l3,q3,b3,none⟩] false)
   (.block i1 (.loop (.seq (.region i16 #[⟨some 60,.binOp .lss Ti (.tmp 59) (.tmp 58) u1,t0,p0,a0,none⟩] false) (.seq (.cond (.tmp 60) .skip (.exit i1)) (.seq (.block i2 (.seq
   (.region i17 #[⟨some 61,.move (.tmp 59),t1,p1,a1,none⟩,⟨some 13,.assign (.tmp 61),t2,p2,a2,none⟩] false)
   (.region i18 #[⟨some 62,.move (.tmp 12),t3,p3,a3,none⟩,⟨some 63,.move (.tmp 13),t4,p4,a4,none⟩,⟨some 64,.indexAddr To (.tmp 62) (.tmp 63),t5,p5,a5,none⟩,⟨some 65,.fieldAddr Tx (.tmp 64) 0,t6,p6,a6,none⟩,⟨some 66,.load Tr (.tmp 65),t7,p7,a7,none⟩,
     ⟨some 67,.indexAddr Tr (.tmp 66) (.const (.int .i64 1)),t8,p8,a8,none⟩,⟨some 68,.fieldAddr Tg (.tmp 67) 2,t9,p9,a9,none⟩,⟨none,.store Tb (.tmp 68) (.const (.bool true)),ta,pa,aa,none⟩] false)))
   (.region i19 #[⟨some 69,.binOp .add Ti (.tmp 59) (.const (.int .i64 1)) u2,tb',pb,ab,none⟩,⟨some 59,.move (.tmp 69),tc,pc,ac,none⟩] false))))))) .skip)) c20)
 (hTo:P.underlying To=some (.slice Tx)) (hTx:(P.info? Tx).map (·.size)=some 1) (hfx:a2B P Tx 0 0) (hr1:J5 P Tr) (hTr:P.underlying Tr=some (.slice Tg)) (hTg:(P.info? Tg).map (·.size)=some 3) (hfg:a2B P Tg 2 2) (hTb:(P.info? Tb).map (·.size)=some 1) (hTl:P.underlying Tl=some (.slice Tx))
 (hctx:b9z H (b8m 8 cd) 1=true) (hc14:W5 H r14 2044=true) (hc20:W5 H c20 1023=true) (hlo:tb.lo=B)
 (hrun:run=fun x1 x2=>a0C tb disp H (a8t (b8m 8 cd) .skip) 1 _ (a2F tb 71 [.d (.dat T1),.d (.dat T2)] (x1,x2,())) (c5G tb disp H E setB ok r14 c20 (fin tb [.d (.dat T1),.d (.dat T2)] [.k (.d (.sl E)),.k (.d (.int .i64))] rl))) :
 a0F P (⟨f,[.d (.dat T1),.d (.dat T2)],[.k (.d (.sl E)),.k (.d (.int .i64))],run⟩:Row I) (fun w _=>w.heap.size=B):=by
 refine b7I (s0:=a2F tb 71 [.d (.dat T1),.d (.dat T2)]) ht 71 (fun _ _ _ _ _ _ h _ _ _=>h) hf hb hname hn hres rfl (hlo:=.inr fun w vs h=>by rw [hlo,h]; exact Nat.le_refl _) fun X c σ F Q a res hX hC hrel happ hk=>?_
 obtain ⟨vs0,hC⟩:=hC
 have hB:σ.w.heap.size=B:=hC
 have happ':a0C tb disp H (a8t (b8m 8 cd) .skip) 1 _ (a2F tb 71 [.d (.dat T1),.d (.dat T2)] (a.1,a.2.1,())) (c5G tb disp H E setB ok r14 c20 (fin tb [.d (.dat T1),.d (.dat T2)] [.k (.d (.sl E)),.k (.d (.int .i64))] rl))=some res:=by
  rw [hrun] at happ
  exact happ
 have hcd:=c0k 8 cd
 rw [<- hcd,hrest]
 refine b97 ht hd hmx (b8m 8 cd) 1 hctx _ _ _ res X c σ F Q hX happ' hrel (fun e s' c' τ F' hne h1 h2 h3 h4=>?_) (fun s' c' τ F' h1 h2 h3 h4=>?_)
 ·cases e with
  | normal=>exact absurd rfl hne
  | exit i=>cases h1
  | ret=>exact hk .ret s' c' τ F' h1 h2 h3 h4
 ·refine wp_seq (wp_seq (W9 ht hd hmx r14 2044 hc14 _ s' _ res X c' τ F' _ hX h1 h3 fun e s1 c1 υ F1 g1 g2 g3 g4 _=>?_))
  cases e with
  | exit i=>cases g1
  | ret=>cases g1
  | normal =>
    obtain ⟨q,hq,g1⟩:=bind_some g1
    rw [g3.len] at hq
    obtain ⟨e1,e2⟩:=a7p g3.frame hq
    split at g1
    ·rename_i bb
     simp only [RV] at e2
     cases bb with
     | false =>
       refine Y7 (wp_cond_false ((j8 e1).trans e2) (wp_skip (Y7 ?_)))
       exact W9 ht hd hmx c20 1023 hc20 _ s1 _ res X c1 υ F1 Q hX g1 g3 fun e s2 c2 υ2 F2 m1 m2 m3 m4 _=>hk e s2 c2 υ2 F2 m1 (Cx.le_trans h2 (Cx.le_trans g2 m2)) m3 ((h4.trans g4).trans m4)
     | true =>
       refine Y7 (wp_cond_true ((j8 e1).trans e2) ?_)
       have g1':c2W tb disp H E setB ok c20 (fin tb [.d (.dat T1),.d (.dat T2)] [.k (.d (.sl E)),.k (.d (.int .i64))] rl) s1=some res:=g1
       unfold c2W at g1'
       split at g1'
       ·rename_i l hl12
        split at g1'
        ·rename_i E' xs hol
         obtain ⟨bs,hbs,g1'⟩:=bind_some g1'
         obtain ⟨eE,rfl⟩:=J2 hbs
         subst eE
         obtain ⟨hall,hex⟩:=y0 g1'
         have h2':∀ x∈xs,2<=(to x).length:=fun x hx=>hok x (List.all_eq_true.1 hall x hx)
         obtain ⟨υ3,w3,st3,r3⟩:=g3.pub l
         have hv:=r3.frame 12 (.vw l) (by unfold Qx.pub; rw [hol]; exact hl12)
         simp only [RV] at hv
         obtain ⟨p,hp,hF12⟩:=hv
         have ho:=r3.objs l (.row E' xs true) (by unfold Qx.pub; rw [hol]; exact Z9 _ _ _)
         obtain ⟨A,k,ow,k1,k2⟩:=ho
         rw [k1] at hp
         cases hp
         have hs:Sl υ3 xs A k:=k2.sl
         have hF12':F1 12=.slice A xs.length k:=hF12
         rw [<- w3]
         refine wp_seq (wp_region_lit ?_)
         refine J7 (.slice A xs.length k) hF12' rfl ?_
         refine a5y A xs.length k rfl rfl hTl ?_
         refine J7 (.int .i64 0) rfl rfl ?_
         refine wpList_nil (Y7 (c4b hT hs h2' hTo hTx hfx hr1 hTr hTg hfg hTb hF12' rfl rfl fun F' w hfl hF'=>Y7 ?_))
         have hst4:Stp X.M σ (⟨w,υ3.L⟩:S):=c48 ((h4.trans g4).trans st3) (fun b hJ=>by
          have:=(b3d hT hs h2' (Nat.le_refl _) hJ).1
          show σ.w.heap.size<=b
          omega) hfl
         have hsl:=c4V hT hset hL hs h2' hfl
         have hr4:Rel X c1 (⟨w,υ3.L⟩:S) (c2z s1 E' (xs.map setB)) 71 F':=by
          refine ⟨rfl,fun i p hp=>?_,fun l' o ho=>?_,fun l1 l2 p1 p2 b ⟨o,ho⟩=>?_,fun l' p b ⟨o,ho⟩=>?_,fun l' hl'=>?_,⟨?_,r3.base.2⟩,noN.nests fun l' E0 E0' u ys q e=>?_⟩
          ·have hp':(bif Nat.beq i 12 then some (PV.sl E' (xs.map setB) false) else none)=some p:=hp
           obtain ⟨hi,hp'⟩:=y0 hp'
           cases hp'
           have:=Nat.eq_of_beq_eq_true hi
           subst this
           simp only [RV]
           exact ⟨A,k,by rw [List.length_map]; exact hF'.trans hF12',hsl,fun h=>by cases h⟩
          all_goals
           simp only [c2z] at *
          ·split at ho<;>cases ho
          ·split at ho<;>cases ho
          ·split at ho<;>cases ho
          ·split at hl'
           ·cases hl'
           ·rename_i hn; exact g3.nom l' hn
          ·show X.N<=w.heap.size
           rw [hfl.size]
           exact r3.base.1
          ·split at e<;>cases e
         exact W9 ht hd hmx c20 1023 hc20 _ _ _ res X c1 (⟨w,υ3.L⟩:S) F' Q hX hex hr4 fun e s2 c2 υ2 F2 m1 m2 m3 m4 _=>hk e s2 c2 υ2 F2 m1 (Cx.le_trans h2 (Cx.le_trans g2 m2)) m3 (hst4.trans m4)
        ·cases g1'
       ·cases g1'
    ·cases g1
end
end Go.Qx
end
section
namespace Go.Qx
open Go Go.RowKit Go.Sx
section
variable {I:TypeId->Type} [∀ E,Rp (I E)] {P:Program}{tb:Tab I}{X X':Cxt}{c c':Cx}{σ τ:S}{s:St I}{n:Nat}{F:Fr}
abbrev MpT (I:TypeId->Type)(k:Kd):Type:=List (ByteArray×Ty I k)
def c3V (tb:Tab I)(TA TB:TypeId)(ka kb:Kd)(rs:List Kd)(rl:List ResultVar):Ex->St I->Option (Tys I rs×MpT I ka×MpT I kb):=fun e s=>match e with
 | .exit _=>none
 | _=>Option.bind (a5l tb s rl) fun a=>Option.bind (a3Q tb s.O rs a) fun x=>bif a1w x.2 then (match s.O 0,s.O 1 with
   | some (some (.map TA' ka' ma)),some (some (.map TB' kb' mb))=>Option.bind (a2m (T:=TA) (T':=TA') (kd:=ka) ma) fun ya=>Option.bind (a2m (T:=TB) (T':=TB') (kd:=kb) mb) fun yb=>some (x.1,ya,yb)
   | _,_=>none) else none
def c4h (tb:Tab I)(TA TB:TypeId)(ka kb:Kd)(ks:List Kd)(nt:Nat)(ma:MpT I ka)(mb:MpT I kb)(q:Tys I ks):St I :=
 ⟨nt,fun i=>(PV.agg [.mp 0,.mp 1]::a5n tb ks q)[i]?,fun l=>bif Nat.beq l 0 then some (some (.map TA ka ma)) else bif Nat.beq l 1 then some (some (.map TB kb mb)) else none,2⟩
def b1g (tb:Tab I)(TA TB:TypeId)(ka kb:Kd)(ks rs:List Kd)(run:MpT I ka->MpT I kb->Tys I ks->Option (Tys I rs×MpT I ka×MpT I kb))(_:Q9 I)(ρ:Type)(O:Obs I)(nb:Nat)(ps:List (PV I))(k:Ef I->Option ρ):Option ρ:=match ps with
 | .agg [.mp la,.mp lb]::r=>match O la,O lb with
   | some (some (.map TA' ka' ma)),some (some (.map TB' kb' mb))=>bif Nat.beq la lb then none else Option.bind (a2m (T:=TA) (T':=TA') (kd:=ka) ma) fun ya=>Option.bind (a2m (T:=TB) (T':=TB') (kd:=kb) mb) fun yb =>
      Option.bind (a3Q tb O ks r) fun q=>Option.bind (run ya yb q.1) fun x=>k ⟨a4d (a5n tb rs x.1),Z3 O q.2++[(la,some (.map TA ka x.2.1)),(lb,some (.map TB kb x.2.2))],[]⟩
   | _,_=>none
 | _=>none
theorem c6b (ht:TabOk P tb){disp0:Q9 I}(hd0:DispOk P disp0)(hmx:P.follows .mixedOrders=true){f:FuncId}{fn:Func}{TA TB:TypeId}{ka kb:Kd}{ks rs:List Kd}{nt:Nat}{cd:Code}{rl:List ResultVar}{H:Hints I}
 {run:MpT I ka->MpT I kb->Tys I ks->Option (Tys I rs×MpT I ka×MpT I kb)}
 (hf : P.funcs[f]? = some fn) (hb : fn.body = some cd) (hname : (fn.name == "runtime.NumGoroutine") = false) (hn : fn.ntmps = nt) (hres : fn.results.toList = rl) (hle : Nat.ble (ks.length + 1) nt = true) (hcode : W5 H cd 1 = true)
 (hex:run=fun ma mb q=>a0C tb disp0 H cd 1 (Tys I rs×MpT I ka×MpT I kb) (c4h tb TA TB ka kb ks nt ma mb q) (c3V tb TA TB ka kb rs rl)) :
 EntOk P (⟨f,b1g tb TA TB ka kb ks rs run⟩:Ans I):=by
 refine ⟨fun disp ρ O nb ps k=>?_,fun disp hd O nb ps ef he=>?_⟩
 ·show b1g tb TA TB ka kb ks rs run disp ρ O nb ps k=(b1g tb TA TB ka kb ks rs run disp (Ef I) O nb ps some).bind k
  unfold b1g
  split
  ·rename_i la lb r
   split
   ·cases Nat.beq la lb
    ·simp only [cond_false,Option.bind_assoc,Option.bind_some]
    ·rfl
   ·rfl
  ·rfl
 ·intro X c σ s n F vs hX hO h hvs hfree
  have he':b1g tb TA TB ka kb ks rs run disp (Ef I) O nb ps some=some ef:=he
  unfold b1g at he'
  split at he'
  ·rename_i la lb r
   split at he'
   ·rename_i TA' ka' ma TB' kb' mb hoa hob
    cases hab:Nat.beq la lb with
    | true=>rw [hab] at he'; cases he'
    | false =>
    rw [hab] at he'
    simp only [cond_false] at he'
    have hne:la≠lb:=fun e=>by subst e; simp at hab
    obtain ⟨ya,hya,he'⟩:=bind_some he'
    obtain ⟨yb,hyb,he'⟩:=bind_some he'
    obtain ⟨q,hq,he'⟩:=bind_some he'
    obtain ⟨x,hx,he'⟩:=bind_some he'
    cases he'
    obtain ⟨ea,eTa,rfl⟩:=a1P hya
    subst ea
    subst eTa
    obtain ⟨eb,eTb,rfl⟩:=a1P hyb
    subst eb
    subst eTb
    obtain ⟨σ1,p1,p2,p3,p4,p5,p6⟩:=h.pubs hO q.2
    have hpub:∀ {l:Nat} {T:TypeId} {kd:Kd} {m:MpT I kd},O l=some (some (.map T kd m))->(k8 s O q.2).O l=some (some (.map T kd m)):=fun {l T kd m} ho=>by
     have:(k8 s O q.2).O l=s.O l:=by
      show apU s.O (Z3 O q.2) l=s.O l
      apply a0M
      intro hm
      have hp:∀ {ls:List Nat},l∈V0 (Z3 O ls)->∃ E,∃ xs:List (I E),O l=some (some (.row E xs false)):=by
       intro ls
       induction ls with
       | nil=>intro h; simp [Z3,V0] at h
       | cons a r ih =>
         intro h
         simp only [Z3] at h
         split at h
         ·rename_i E xs e
          simp only [V0,List.map_cons,List.mem_cons] at h
          rcases h with rfl | h
          ·exact ⟨E,xs,e⟩
          ·exact ih h
         ·exact ih h
      obtain ⟨E,xs,e⟩:=hp hm
      rw [ho] at e
      cases e
     rw [this]; exact hO l _ ho
    have hsa:=hpub hoa
    have hsb:=hpub hob
    have hvs1:=RVs.step p2 _ _ hvs
    simp only [RVs] at hvs1
    obtain ⟨v0,vs',rfl,hv0,hvs'⟩:=hvs1
    have hdv:=a5Q ht p4 hq (fun l hl=>hl) hvs'
    obtain ⟨ba,ka1,ka2⟩:=p3.objs la _ hsa
    obtain ⟨bb,kb1,kb2⟩:=p3.objs lb _ hsb
    have hbne:ba≠bb:=fun e=>hne (p3.inj la lb _ _ ba ⟨_,hsa⟩ ⟨_,hsb⟩ ka1 kb1 rfl (by rw [e]))
    have hv0':v0=.agg [Value.map (some ba),Value.map (some bb)].toArray:=by
     simp only [RV,RG] at hv0
     obtain ⟨cs,e,a1,r1,e1,h1,a2,r2,e2,h2,h3⟩:=hv0
     rcases h1 with h1 | ⟨_,w1,f1,g1⟩
     ·exact absurd h1 (by simp [a7q])
     rcases h2 with h2 | ⟨_,w2,f2,g2⟩
     ·exact absurd h2 (by simp [a7q])
     obtain ⟨b1,u1,m1,n1⟩:=g1
     obtain ⟨b2,u2,m2,n2⟩:=g2
     rw [ka1] at m1
     cases m1
     rw [kb1] at m2
     cases m2
     rw [e,e1,f1,e2,f2,h3,n1,n2]
     rfl
    let X0:Cxt:=⟨P,σ1.N,fun b=>b=ba\/b=bb⟩
    let c0:Cx:=fun l=>bif Nat.beq l 0 then some ⟨some ⟨ba,0,none⟩,0,0,some ba⟩ else bif Nat.beq l 1 then some ⟨some ⟨bb,0,none⟩,0,0,some bb⟩ else none
    have hO0:∀ {l:Nat} {o:Ob I},(c4h tb TA' TB' ka' kb' ks nt ma mb q.1).O l=some (some o)->(l=0/\o=.map TA' ka' ma)\/(l=1/\o=.map TB' kb' mb):=fun {l o} ho=>by
     have ho':(bif Nat.beq l 0 then some (some (Ob.map TA' ka' ma)) else bif Nat.beq l 1 then some (some (.map TB' kb' mb)) else none)=some (some o):=ho
     cases h0:Nat.beq l 0 with
     | true=>rw [h0] at ho'; cases ho'; exact .inl ⟨Nat.eq_of_beq_eq_true h0,rfl⟩
     | false =>
       rw [h0] at ho'
       cases h1:Nat.beq l 1 with
       | true=>rw [h1] at ho'; cases ho'; exact .inr ⟨Nat.eq_of_beq_eq_true h1,rfl⟩
       | false=>rw [h1] at ho'; cases ho'
    have hvd:RVs X0 c0 σ1 (a5n tb ks q.1) vs':=a9Y ht hdv
    have hini:Rel X0 c0 σ1 (c4h tb TA' TB' ka' kb' ks nt ma mb q.1) nt (V7 (v0::vs')):=by
     refine ⟨rfl,fun i p hp=>?_,fun l o ho=>?_,fun l l' p p' b ⟨o,ho⟩ ⟨o',ho'⟩ hc hc' hw hw'=>?_,fun l p b ⟨o,ho⟩ hc hw=>?_,fun l hl=>?_,⟨Nat.le_refl _,fun E=>Nat.le_trans (p3.base.2 E) p3.base.1⟩,noN.nests fun l E E' u xs q e=>?_⟩
     ·have hrv:RVs X0 c0 σ1 (.agg [.mp 0,.mp 1]::a5n tb ks q.1) (v0::vs'):=by
       simp only [RVs]
       refine ⟨v0,vs',rfl,?_,hvd⟩
       simp only [RV]
       refine ⟨_,hv0',?_⟩
       simp only [RG]
       exact ⟨[.map (some ba)],[.map (some bb)],rfl,.inr ⟨rfl,_,rfl,by simp only [RV]; exact ⟨ba,_,rfl,rfl⟩⟩,[.map (some bb)],[],rfl,.inr ⟨rfl,_,rfl,by simp only [RV]; exact ⟨bb,_,rfl,rfl⟩⟩,rfl⟩
      obtain ⟨v,hv,hr⟩:=RVs.at_ _ _ hrv i p hp
      have:V7 (v0::vs') i=v:=by simp [V7,List.getD,hv]
      rw [this]; exact hr
     ·rcases hO0 ho with ⟨rfl,rfl⟩ | ⟨rfl,rfl⟩
      ·exact ⟨ba,rfl,ka2⟩
      ·exact ⟨bb,rfl,kb2⟩
     ·rcases hO0 ho with ⟨rfl,rfl⟩ | ⟨rfl,rfl⟩<;>rcases hO0 ho' with ⟨rfl,rfl⟩ | ⟨rfl,rfl⟩
      ·rfl
      ·cases hc; cases hc'; cases hw; cases hw'; exact absurd rfl hbne
      ·cases hc; cases hc'; cases hw; cases hw'; exact absurd rfl hbne
      ·rfl
     ·rcases hO0 ho with ⟨rfl,rfl⟩ | ⟨rfl,rfl⟩
      ·cases hc; cases hw; exact .inr (.inl rfl)
      ·cases hc; cases hw; exact .inr (.inr rfl)
     ·have hl':(bif Nat.beq l 0 then some (some (Ob.map TA' ka' ma)) else bif Nat.beq l 1 then some (some (.map TB' kb' mb)) else none)=(none:Option (Option (Ob I))):=hl
      show (bif Nat.beq l 0 then some _ else bif Nat.beq l 1 then some _ else none)=none
      cases h0:Nat.beq l 0 with
      | true=>rw [h0] at hl'; cases hl'
      | false =>
        rw [h0] at hl'
        cases h1:Nat.beq l 1 with
        | true=>rw [h1] at hl'; cases hl'
        | false=>rfl
     ·rcases hO0 e with ⟨_,e⟩ | ⟨_,e⟩<;>cases e
    have hle':=Nat.le_of_ble_eq_true hle
    have hlen:vs'.length=ks.length:=by
     have h1:=RVs.len _ _ hvd
     have h2:∀ (ks:List Kd) (q:Tys I ks),(a5n tb ks q).length=ks.length:=by
      intro ks
      induction ks with
      | nil=>intro q; rfl
      | cons k r ih=>intro q; simp only [a5n,List.length_cons]; rw [ih]
     rw [h1,h2]
    have hcall:V8 P f (v0::vs') σ1 (Stp X0.M σ1) fun v τ=>∃ (s':St I) (c2:Cx) (F':Fr) (ws:List Value) (zs:List (PV I)),Rel X0 c2 τ s' nt F'/\Cx.le c0 c2/\s'.O 0=some (some (.map TA' ka' x.2.1))/\s'.O 1=some (some (.map TB' kb' x.2.2))/\v=a1Q ws/\DVs τ rs x.1 ws:=by
     refine .inl ⟨⟨fn,_,hf,hb,hname⟩,calls_of_wp hf hb ?_⟩
     have e:(⟨(v0::vs').toArray++Array.replicate (fn.ntmps-(v0::vs').toArray.size) undef,[]⟩:Act)=fr nt (V7 (v0::vs')):=by
      rw [hn]
      simp only [fr]
      congr 1
      apply Array.ext
      ·simp; omega
      ·intro i h1 h2
       simp only [Array.getElem_ofFn,V7,Array.getElem_append]
       split
       ·rename_i hi; simp at hi; simp [List.getD,List.getElem?_eq_getElem (show i<(v0::vs').length by simp; omega)]
       ·rename_i hi; simp at hi; simp [List.getD,List.getElem?_eq_none (l:=v0::vs') (show (v0::vs').length<=i by simp; omega)]
     rw [e]
     rw [hex] at hx
     refine W9 ht hd0 hmx cd 1 hcode _ _ _ _ X0 _ σ1 _ _ rfl hx hini fun ex s' c2 τ F' hfin hle2 hr st _=>?_
     have key:c3V tb TA' TB' ka' kb' rs rl .normal s'=some x->∃ v,(results fn (fr nt F').tmps).run P τ.w=.ok v τ.w/\∃ v' τ',Ending.returned v=.returned v'/\τ'.w=τ.w/\Stp X0.M σ1 τ'/\∃ (s':St I) (c2:Cx) (F':Fr) (ws:List Value) (zs:List (PV I)),Rel X0 c2 τ' s' nt F'/\Cx.le c0 c2/\s'.O 0=some (some (.map TA' ka' x.2.1))/\s'.O 1=some (some (.map TB' kb' x.2.2))/\v'=a1Q ws/\DVs τ' rs x.1 ws:=by
      intro hh
      have hh':(Option.bind (a5l tb s' rl) fun a=>Option.bind (a3Q tb s'.O rs a) fun x=>bif a1w x.2 then (match s'.O 0,s'.O 1 with
       | some (some (.map TA0 ka0 ma0)),some (some (.map TB0 kb0 mb0))=>Option.bind (a2m (T:=TA') (T':=TA0) (kd:=ka') ma0) fun ya=>Option.bind (a2m (T:=TB') (T':=TB0) (kd:=kb') mb0) fun yb=>some (x.1,ya,yb)
       | _,_=>none) else none)=some x:=hh
      obtain ⟨zs,z1,hh'⟩:=bind_some hh'
      obtain ⟨y,z2,hh'⟩:=bind_some hh'
      obtain ⟨z3,hh'⟩:=y0 hh'
      obtain ⟨ws,w1,w2⟩:=a6T ht hr z1
      have hnil:y.2=[]:=by
       revert z3
       cases y.2 with
       | nil=>intro _; rfl
       | cons a r=>intro h; cases h
      obtain ⟨τ2,t1,t2,t3,t4,_,t6⟩:=hr.pubs (O:=s'.O) (fun _ _ h=>h) []
      have hdvs:=a5Q ht t4 z2 (fun l hl=>by rw [hnil] at hl; cases hl) (RVs.step t2 _ _ w1)
      split at hh'
      ·rename_i TA0 ka0 ma0 TB0 kb0 mb0 o1 o2
       obtain ⟨yy,u1,hh'⟩:=bind_some hh'
       obtain ⟨yz,u2,hh'⟩:=bind_some hh'
       cases hh'
       obtain ⟨g1,g2,rfl⟩:=a1P u1
       subst g1
       subst g2
       obtain ⟨g1,g2,rfl⟩:=a1P u2
       subst g1
       subst g2
       exact ⟨a1Q ws,a5C (by rw [hres]; exact w2),a1Q ws,τ2,rfl,t1,st.trans t2,k8 s' s'.O [],c2,F',ws,zs,t3,hle2,(t6 0 (by simp)).trans o1,(t6 1 (by simp)).trans o2,rfl,hdvs⟩
      ·cases hh'
     cases ex with
     | exit i=>cases hfin
     | normal =>
       obtain ⟨v,h1,v',τ',h2,h3⟩:=key hfin
       exact ⟨rfl,v,h1,v',τ',h2,h3⟩
     | ret =>
       obtain ⟨v,h1,v',τ',h2,h3⟩:=key hfin
       exact ⟨rfl,v,h1,v',τ',h2,h3⟩
    refine hcall.mono p1.symm fun v τ st ⟨s',c2,F',ws,zs,hr,hle2,o1,o2,hv,hds⟩=>?_
    subst hv
    have hMa:X.M ba:=p3.mine la _ ba ⟨_,hsa⟩ ka1 rfl
    have hMb:X.M bb:=p3.mine lb _ bb ⟨_,hsb⟩ kb1 rfl
    have q1:=p3.kill (l:=la) ⟨_,hsa⟩
    have hsb':(v8 (k8 s O q.2) la none).O lb=some (some (.map TB' kb' mb)):=(Z8 (fun e=>hne e.symm)).trans hsb
    have q2:=q1.kill (l:=lb) ⟨_,hsb'⟩
    have hlive:∀ {l':Nat},w8 (v8 (v8 (k8 s O q.2) la none) lb none) l'->l'≠la/\l'≠lb/\w8 (k8 s O q.2) l':=fun {l'} ⟨o,ho⟩=>by
     rcases j9 ho with ⟨_,e⟩ | ⟨e1,ho⟩
     ·cases e
     ·rcases j9 ho with ⟨_,e⟩ | ⟨e2,ho⟩
      ·cases e
      ·exact ⟨e2,e1,o,ho⟩
    have hMX:∀ b,X0.M b->X.M b:=fun b hb=>by
     rcases hb with hb | rfl | rfl
     ·exact .inl (Nat.le_trans p3.base.1 hb)
     ·exact hMa
     ·exact hMb
    have hn:∀ l p g,w8 (v8 (v8 (k8 s O q.2) la none) lb none) l->c l=some p->p.w=some g->¬ X0.M g:=fun l p g hl hc hw hg=>by
     obtain ⟨e1,e2,o,ho⟩:=hlive hl
     rcases hg with hg | rfl | rfl
     ·have:=(p3.objs l o ho).lt hc hw
      have hg':σ1.N<=g:=hg
      omega
     ·exact e1 (p3.inj l la p _ g ⟨o,ho⟩ ⟨_,hsa⟩ hc ka1 hw rfl)
     ·exact e2 (p3.inj l lb p _ g ⟨o,ho⟩ ⟨_,hsb⟩ hc kb1 hw rfl)
    have hi:∀ g,X0.M g->notIn c σ1 (v8 (v8 (k8 s O q.2) la none) lb none) g:=fun g hg=>by
     have hni:notIn c σ1 (k8 s O q.2) g:=by
      rcases hg with hg | rfl | rfl
      ·exact p3.fresh hg
      ·exact p3.owned ⟨_,hsa⟩ ka1 rfl
      ·exact p3.owned ⟨_,hsb⟩ kb1 rfl
     exact (hni.set (l:=la) (o:=none)).set
    have q3:Rel X c τ (v8 (v8 (k8 s O q.2) la none) lb none) n F:=q2.stepG st hMX hn hi
    have hi3:∀ g,X0.M g->notIn c τ (v8 (v8 (k8 s O q.2) la none) lb none) g:=fun g hg=>(hi g hg).step q2 st hn hi
    obtain ⟨ba',j1,j2⟩:=hr.objs 0 _ o1
    have j3:c2 0=some ⟨some ⟨ba,0,none⟩,0,0,some ba⟩:=hle2 0 _ rfl
    rw [j3] at j1
    cases j1
    obtain ⟨bb',i1,i2⟩:=hr.objs 1 _ o2
    have i3:c2 1=some ⟨some ⟨bb,0,none⟩,0,0,some bb⟩:=hle2 1 _ rfl
    rw [i3] at i1
    cases i1
    have q4:=q3.revive (l:=la) (o:=.map TA' ka' x.2.1) ⟨ba,ka1,j2⟩ fun p g hc hw=>by
     rw [ka1] at hc
     cases hc
     cases hw
     exact ⟨hMa,hi3 ba (.inr (.inl rfl)),fun l' p' _ hl' hc' hw'=>hn l' p' ba hl' hc' hw' (.inr (.inl rfl))⟩
    have q5:=q4.revive (l:=lb) (o:=.map TB' kb' x.2.2) ⟨bb,kb1,i2⟩ fun p g hc hw=>by
     rw [kb1] at hc
     cases hc
     cases hw
     refine ⟨hMb,(hi3 bb (.inr (.inr rfl))).set,fun l' p' _ ⟨o',hl'⟩ hc' hw'=>?_⟩
     rcases j9 hl' with ⟨e,_⟩ | ⟨_,hl'⟩
     ·subst e
      rw [ka1] at hc'
      cases hc'
      cases hw'
      exact hbne rfl
     ·exact hn l' p' bb ⟨o',hl'⟩ hc' hw' (.inr (.inr rfl))
    have hend:apE s nb ⟨a4d (a5n tb rs x.1),Z3 O q.2++[(la,some (.map TA' ka' x.2.1)),(lb,some (.map TB' kb' x.2.2))],[]⟩=v8 (v8 (v8 (v8 (k8 s O q.2) la none) lb none) la (some (.map TA' ka' x.2.1))) lb (some (.map TB' kb' x.2.2)):=by
     have hO':apU s.O (Z3 O q.2++[(la,some (.map TA' ka' x.2.1)),(lb,some (.map TB' kb' x.2.2))])=upF (upF (upF (upF (apU s.O (Z3 O q.2)) la none) lb none) la (some (.map TA' ka' x.2.1))) lb (some (.map TB' kb' x.2.2)):=by
      rw [a0w]
      simp only [apU]
      funext i
      simp only [upF]
      cases Nat.beq i lb<;>cases Nat.beq i la<;>rfl
     show (⟨s.n,s.F,apU s.O (Z3 O q.2++[(la,some (.map TA' ka' x.2.1)),(lb,some (.map TB' kb' x.2.2))]),s.nx⟩:St I)=_
     rw [hO']
     rfl
    refine ⟨τ,rfl,p2.trans (st.mono fun b _ hb=>hMX b hb),c,Cx.le_refl c,by rw [hend]; exact q5,?_⟩
    exact a9J (a9Y ht hds)
   ·cases he'
  ·cases he'
def c5m (tb:Tab I)(rs:List Kd)(rl:List ResultVar):Ex->St I->Option (Tys I rs):=fun e s=>match e with
 | .exit _=>none
 | _=>Option.bind (a5l tb s rl) fun a=>Option.bind (a3Q tb s.O rs a) fun x=>bif a1w x.2 then some x.1 else none
def c4Y (tb:Tab I)(TV TA TB:TypeId)(ka kb k1:Kd)(nt:Nat)(ma:MpT I ka)(mb:MpT I kb)(q:Ty I k1):St I :=
 ⟨nt,fun i=>[a3v tb k1 q,.ptr 0 0][i]?,fun l=>bif Nat.beq l 0 then some (some (.var TV [.mp 1,.mp 2] false)) else bif Nat.beq l 1 then some (some (.rom TA ka ma)) else bif Nat.beq l 2 then some (some (.rom TB kb mb)) else none,3⟩
def b6w (O:Obs I)(l:Nat)(T:TypeId)(kd:Kd):Option (MpT I kd):=match O l with
 | some (some (.map T' kd' m))=>a2m (T:=T) (T':=T') (kd:=kd) m
 | some (some (.rom T' kd' m))=>a2m (T:=T) (T':=T') (kd:=kd) m
 | _=>none
omit [∀ E,Rp (I E)] in
theorem c4g {O:Obs I}{l:Nat}{T:TypeId}{kd:Kd}{m:MpT I kd}(h:b6w O l T kd=some m):O l=some (some (.map T kd m))\/O l=some (some (.rom T kd m)):=by
 unfold b6w at h
 split at h
 ·rename_i T' kd' m' e
  obtain ⟨e1,e2,rfl⟩:=a1P h
  subst e1
  subst e2
  exact .inl e
 ·rename_i T' kd' m' e
  obtain ⟨e1,e2,rfl⟩:=a1P h
  subst e1
  subst e2
  exact .inr e
 ·cases h
theorem b9Y {l:Nat}{T:TypeId}{kd:Kd}{m:MpT I kd}(hr:Rel X c σ s n F)(h:s.O l=some (some (.map T kd m))\/s.O l=some (some (.rom T kd m))):∃ b w,c l=some ⟨some ⟨b,0,none⟩,0,0,w⟩/\a4Q σ kd m b:=by
 rcases h with h | h
 ·obtain ⟨b,h1,h2⟩:=hr.objs l _ h
  exact ⟨b,_,h1,h2⟩
 ·obtain ⟨b,h1,h2,_⟩:=hr.objs l _ h
  exact ⟨b,_,h1,h2⟩
def b07 (tb:Tab I)(TV TA TB:TypeId)(ka kb k1:Kd)(rs:List Kd)(run:MpT I ka->MpT I kb->Ty I k1->Option (Tys I rs))(_:Q9 I)(ρ:Type)(O:Obs I)(_:Nat)(ps:List (PV I))(k:Ef I->Option ρ):Option ρ:=match ps with
 | [p,.ptr l 0]=>match O l with
   | some (some (.var T [.mp la,.mp lb] _))=>bif Nat.beq T TV then Option.bind (b6w O la TA ka) fun ya=>Option.bind (b6w O lb TB kb) fun yb =>
      Option.bind (a4M tb O k1 p) fun q=>bif a1w q.2 then Option.bind (run ya yb q.1) fun x=>k ⟨a4d (a5n tb rs x),[],[]⟩ else none else none
   | _=>none
 | _=>none
theorem c51 (ht:TabOk P tb){disp0:Q9 I}(hd0:DispOk P disp0)(hmx:P.follows .mixedOrders=true){f:FuncId}{fn:Func}{TV TA TB:TypeId}{ka kb k1:Kd}{rs:List Kd}{nt:Nat}{cd:Code}{rl:List ResultVar}{H:Hints I}
 {run:MpT I ka->MpT I kb->Ty I k1->Option (Tys I rs)}
 (hf : P.funcs[f]? = some fn) (hb : fn.body = some cd) (hname : (fn.name == "runtime.NumGoroutine") = false) (hn : fn.ntmps = nt) (hres : fn.results.toList = rl) (hle : Nat.ble 2 nt = true) (hcode : W5 H cd 1 = true)
 (hex:run=fun ma mb q=>a0C tb disp0 H cd 1 (Tys I rs) (c4Y tb TV TA TB ka kb k1 nt ma mb q) (c5m tb rs rl)) :
 EntOk P (⟨f,b07 tb TV TA TB ka kb k1 rs run⟩:Ans I):=by
 refine ⟨fun disp ρ O nb ps k=>?_,fun disp hd O nb ps ef he=>?_⟩
 ·show b07 tb TV TA TB ka kb k1 rs run disp ρ O nb ps k=(b07 tb TV TA TB ka kb k1 rs run disp (Ef I) O nb ps some).bind k
  unfold b07
  split
  ·split
   ·rename_i T la lb w e
    cases Nat.beq T TV
    ·rfl
    ·simp only [cond_true,Option.bind_assoc]
     congr 1
     funext ya
     congr 1
     funext yb
     congr 1
     funext q
     cases a1w q.2
     ·rfl
     ·simp only [cond_true,Option.bind_assoc,Option.bind_some]
   ·rfl
  ·rfl
 ·intro X c σ s n F vs hX hO h hvs hfree
  have he':b07 tb TV TA TB ka kb k1 rs run disp (Ef I) O nb ps some=some ef:=he
  unfold b07 at he'
  split at he'
  ·rename_i p l
   split at he'
   ·rename_i T la lb w hol
    obtain ⟨hT,hf'⟩:=y0 he'
    clear he'
    have he':=hf'
    clear hf'
    have hT':=Nat.eq_of_beq_eq_true hT
    clear hT he
    subst hT'
    obtain ⟨ya,hya,he'⟩:=bind_some he'
    obtain ⟨yb,hyb,he'⟩:=bind_some he'
    obtain ⟨q,hq,he'⟩:=bind_some he'
    obtain ⟨hnl,he'⟩:=y0 he'
    obtain ⟨x,hx,he'⟩:=bind_some he'
    cases he'
    have hnl:=a1s hnl
    obtain ⟨σ1,p1,p2,p3',p4,p5,p6⟩:=h.pubs hO []
    have p3:Rel X c σ1 s n F:=p3'
    have hvs1:=RVs.step p2 _ _ hvs
    simp only [RVs] at hvs1
    obtain ⟨v0,vs',rfl,hv0,v1,vs'',rfl,hv1,rfl⟩:=hvs1
    have hdv:DV σ1 k1 q.1 v0:=a2o ht p4 (ls:=q.2) hq (fun l hl=>by rw [hnl] at hl; exact hl) hv0
    have hsO:∀ {l:Nat} {T:TypeId} {kd:Kd} {m:MpT I kd},b6w O l T kd=some m->s.O l=some (some (.map T kd m))\/s.O l=some (some (.rom T kd m)):=fun h=>(c4g h).imp (hO _ _) (hO _ _)
    obtain ⟨ba,wa,ka1,ka2⟩:=b9Y p3 (hsO hya)
    obtain ⟨bb,wb,kb1,kb2⟩:=b9Y p3 (hsO hyb)
    obtain ⟨bv,cs,l1,l2,l3,_,_⟩:=p3.objs l _ (hO l _ hol)
    have hv1':v1=.pointer (some ⟨bv,0,none⟩):=by
     simp only [RV] at hv1
     obtain ⟨b,w,e1,e2⟩:=hv1
     rw [l1] at e1
     cases e1
     exact e2
    have hcs:cs=[Value.map (some ba),Value.map (some bb)]:=by
     simp only [RG] at l2
     obtain ⟨a1,r1,e1,h1,a2,r2,e2,h2,h3⟩:=l2
     rcases h1 with h1 | ⟨_,w1,f1,g1⟩
     ·exact absurd h1 (by simp [a7q])
     rcases h2 with h2 | ⟨_,w2,f2,g2⟩
     ·exact absurd h2 (by simp [a7q])
     simp only [RV] at g1 g2
     obtain ⟨b1,u1,m1,n1⟩:=g1
     obtain ⟨b2,u2,m2,n2⟩:=g2
     rw [ka1] at m1
     cases m1
     rw [kb1] at m2
     cases m2
     rw [e1,f1,e2,f2,h3,n1,n2]
     rfl
    let X0:Cxt:=⟨P,σ1.N,fun _=>False⟩
    let c0:Cx:=fun l=>bif Nat.beq l 0 then some ⟨some ⟨bv,0,none⟩,0,0,none⟩ else bif Nat.beq l 1 then some ⟨some ⟨ba,0,none⟩,0,0,none⟩ else bif Nat.beq l 2 then some ⟨some ⟨bb,0,none⟩,0,0,none⟩ else none
    have hM0:∀ {b:Nat},b<σ1.N->¬ X0.M b:=fun {b} hlt hm=>by
     rcases hm with hm | hm
     ·have:σ1.N<=b:=hm
      omega
     ·exact hm
    have hO0:∀ {l:Nat} {o:Ob I},(c4Y tb T TA TB ka kb k1 nt ya yb q.1).O l=some (some o)->(l=0/\o=.var T [.mp 1,.mp 2] false)\/(l=1/\o=.rom TA ka ya)\/(l=2/\o=.rom TB kb yb):=fun {l o} ho=>by
     have ho':(bif Nat.beq l 0 then some (some (Ob.var T [.mp 1,.mp 2] false)) else bif Nat.beq l 1 then some (some (Ob.rom TA ka ya)) else bif Nat.beq l 2 then some (some (.rom TB kb yb)) else none)=some (some o):=ho
     cases h0:Nat.beq l 0 with
     | true=>rw [h0] at ho'; cases ho'; exact .inl ⟨Nat.eq_of_beq_eq_true h0,rfl⟩
     | false =>
       rw [h0] at ho'
       cases h1:Nat.beq l 1 with
       | true=>rw [h1] at ho'; cases ho'; exact .inr (.inl ⟨Nat.eq_of_beq_eq_true h1,rfl⟩)
       | false =>
         rw [h1] at ho'
         cases h2:Nat.beq l 2 with
         | true=>rw [h2] at ho'; cases ho'; exact .inr (.inr ⟨Nat.eq_of_beq_eq_true h2,rfl⟩)
         | false=>rw [h2] at ho'; cases ho'
    have hcn:∀ {l:Nat} {p:Pl} {g:Nat},c0 l=some p->p.w=some g->False:=fun {l p g} hc hw=>by
     have hc':(bif Nat.beq l 0 then some (⟨some ⟨bv,0,none⟩,0,0,none⟩:Pl) else bif Nat.beq l 1 then some ⟨some ⟨ba,0,none⟩,0,0,none⟩ else bif Nat.beq l 2 then some ⟨some ⟨bb,0,none⟩,0,0,none⟩ else none)=some p:=hc
     cases h0:Nat.beq l 0 with
     | true=>rw [h0] at hc'; cases hc'; cases hw
     | false =>
       rw [h0] at hc'
       cases h1:Nat.beq l 1 with
       | true=>rw [h1] at hc'; cases hc'; cases hw
       | false =>
         rw [h1] at hc'
         cases h2:Nat.beq l 2 with
         | true=>rw [h2] at hc'; cases hc'; cases hw
         | false=>rw [h2] at hc'; cases hc'
    have hini:Rel X0 c0 σ1 (c4Y tb T TA TB ka kb k1 nt ya yb q.1) nt (V7 [v0,v1]):=by
     refine ⟨rfl,fun i p hp=>?_,fun l o ho=>?_,fun l l' p p' b _ _ hc _ hw _=>(hcn hc hw).elim,fun l p b _ hc hw=>(hcn hc hw).elim,fun l hl=>?_,⟨Nat.le_refl _,fun E=>Nat.le_trans (p3.base.2 E) p3.base.1⟩,noN.nests fun l E E' u xs q e=>?_⟩
     ·have hrv:RVs X0 c0 σ1 [a3v tb k1 q.1,.ptr 0 0] [v0,v1]:=by
       simp only [RVs]
       refine ⟨v0,[v1],rfl,a49 ht hdv,v1,[],rfl,?_,rfl⟩
       simp only [RV]
       exact ⟨bv,none,rfl,hv1'⟩
      obtain ⟨v,hv,hr⟩:=RVs.at_ _ _ hrv i p hp
      have:V7 [v0,v1] i=v:=by simp [V7,List.getD,hv]
      rw [this]; exact hr
     ·rcases hO0 ho with ⟨rfl,rfl⟩ | ⟨rfl,rfl⟩ | ⟨rfl,rfl⟩
      ·refine ⟨bv,cs,rfl,?_,l3,fun e=>(by cases e),fun _=>hM0 (J8 l3)⟩
       rw [hcs]
       simp only [RG]
       exact ⟨[.map (some ba)],[.map (some bb)],rfl,.inr ⟨rfl,_,rfl,by simp only [RV]; exact ⟨ba,_,rfl,rfl⟩⟩,[.map (some bb)],[],rfl,.inr ⟨rfl,_,rfl,by simp only [RV]; exact ⟨bb,_,rfl,rfl⟩⟩,rfl⟩
      ·exact ⟨ba,rfl,ka2,hM0 ka2.lt⟩
      ·exact ⟨bb,rfl,kb2,hM0 kb2.lt⟩
     ·have hl':(bif Nat.beq l 0 then some (some (Ob.var T [.mp 1,.mp 2] false)) else bif Nat.beq l 1 then some (some (Ob.rom TA ka ya)) else bif Nat.beq l 2 then some (some (.rom TB kb yb)) else none)=(none:Option (Option (Ob I))):=hl
      show (bif Nat.beq l 0 then some _ else bif Nat.beq l 1 then some _ else bif Nat.beq l 2 then some _ else none)=none
      cases h0:Nat.beq l 0 with
      | true=>rw [h0] at hl'; cases hl'
      | false =>
        rw [h0] at hl'
        cases h1:Nat.beq l 1 with
        | true=>rw [h1] at hl'; cases hl'
        | false =>
          rw [h1] at hl'
          cases h2:Nat.beq l 2 with
          | true=>rw [h2] at hl'; cases hl'
          | false=>rfl
     ·rcases hO0 e with ⟨_,e⟩ | ⟨_,e⟩ | ⟨_,e⟩<;>cases e
    have hle':=Nat.le_of_ble_eq_true hle
    have hcall:V8 P f [v0,v1] σ1 (Stp X0.M σ1) fun v τ=>∃ ws,v=a1Q ws/\DVs τ rs x ws:=by
     refine .inl ⟨⟨fn,_,hf,hb,hname⟩,calls_of_wp hf hb ?_⟩
     have e:(⟨([v0,v1]:List Value).toArray++Array.replicate (fn.ntmps-([v0,v1]:List Value).toArray.size) undef,[]⟩:Act)=fr nt (V7 [v0,v1]):=by
      rw [hn]
      simp only [fr]
      congr 1
      apply Array.ext
      ·simp; omega
      ·intro i h1 h2
       simp only [Array.getElem_ofFn,V7,Array.getElem_append]
       split
       ·rename_i hi; simp at hi; simp [List.getD,List.getElem?_eq_getElem (show i<([v0,v1]:List Value).length by simp; omega)]
       ·rename_i hi; simp at hi; simp [List.getD,List.getElem?_eq_none (l:=[v0,v1]) (show ([v0,v1]:List Value).length<=i by simp; omega)]
     rw [e]
     rw [hex] at hx
     refine W9 ht hd0 hmx cd 1 hcode _ _ _ _ X0 _ σ1 _ _ rfl hx hini fun ex s' c2 τ F' hfin hle2 hr st _=>?_
     have key:c5m tb rs rl .normal s'=some x->∃ v,(results fn (fr nt F').tmps).run P τ.w=.ok v τ.w/\∃ v' τ',Ending.returned v=.returned v'/\τ'.w=τ.w/\Stp X0.M σ1 τ'/\∃ ws,v'=a1Q ws/\DVs τ' rs x ws:=by
      intro hh
      have hh':(Option.bind (a5l tb s' rl) fun a=>Option.bind (a3Q tb s'.O rs a) fun x=>bif a1w x.2 then some x.1 else none)=some x:=hh
      obtain ⟨zs,z1,hh'⟩:=bind_some hh'
      obtain ⟨y,z2,hh'⟩:=bind_some hh'
      obtain ⟨z3,hh'⟩:=y0 hh'
      cases hh'
      obtain ⟨ws,w1,w2⟩:=a6T ht hr z1
      have hnil:y.2=[]:=by
       revert z3
       cases y.2 with
       | nil=>intro _; rfl
       | cons a r=>intro h; cases h
      obtain ⟨τ2,t1,t2,t3,t4,_,t6⟩:=hr.pubs (O:=s'.O) (fun _ _ h=>h) []
      have hdvs:=a5Q ht t4 z2 (fun l hl=>by rw [hnil] at hl; cases hl) (RVs.step t2 _ _ w1)
      exact ⟨a1Q ws,a5C (by rw [hres]; exact w2),a1Q ws,τ2,rfl,t1,st.trans t2,ws,rfl,hdvs⟩
     cases ex with
     | exit i=>cases hfin
     | normal =>
       obtain ⟨v,h1,v',τ',h2,h3⟩:=key hfin
       exact ⟨rfl,v,h1,v',τ',h2,h3⟩
     | ret =>
       obtain ⟨v,h1,v',τ',h2,h3⟩:=key hfin
       exact ⟨rfl,v,h1,v',τ',h2,h3⟩
    refine hcall.mono p1.symm fun v τ st ⟨ws,hv,hds⟩=>?_
    subst hv
    have hMX:∀ b,X0.M b->X.M b:=fun b hb=>by
     rcases hb with hb | hb
     ·exact .inl (Nat.le_trans p3.base.1 hb)
     ·exact hb.elim
    have hn:∀ l p g,w8 s l->c l=some p->p.w=some g->¬ X0.M g:=fun l p g ⟨o,ho⟩ hc hw=>hM0 ((p3.objs l o ho).lt hc hw)
    have hi:∀ g,X0.M g->notIn c σ1 s g:=fun g hg=>by
     rcases hg with hg | hg
     ·exact p3.fresh hg
     ·exact hg.elim
    have q3:Rel X c τ s n F:=p3.stepG st hMX hn hi
    exact ⟨τ,rfl,p2.trans (st.mono fun b _ hb=>hMX b hb),c,Cx.le_refl c,q3,a9J (a9Y ht hds)⟩
   ·cases he'
  ·cases he'
end
end Go.Qx
end
section
namespace Go.Qx
open Go Go.RowKit Go.Sx
set_option maxHeartbeats 1600000
set_option maxRecDepth 100000
abbrev RK (r:Row I):Prop:=a0r Go.Proofs.Tryz.prog r
abbrev RO (r:Rio I):Prop:=a3V Go.Proofs.Tryz.prog r
def mkH (a:List (Nat×List (List Nat)))(b c:List (Nat×List Nat))(j:List (Nat×JH))(l:List (Nat×LH I))(k:List (Nat×KH I))(ns:List (Nat×NH I))(u:List (Nat×Nat)):Hints I :=
 ⟨fun i=>(asc a i).getD [],fun i=>(asc b i).getD [],fun i=>(asc c i).getD [],asc j,asc l,asc k,asc ns,fun i=>(asc u i).getD 0⟩
def Y2:Hints I:=mkH [] [] [] [] [] [] [] []
structure En where
 ans:Ans I
 ok:EntOk Go.Proofs.Tryz.prog ans
def enL:List En->List (Ans I)
 | []=>[]
 | e::r=>e.ans::enL r
theorem a64:∀ l:List En,b8q Go.Proofs.Tryz.prog (enL l)
 | []=>trivial
 | e::r=>⟨e.ok,a64 r⟩
def eR {r:Row I}(h:RK r):En:=⟨b7P tb r,a92 a2p h⟩
def eO {r:Rio I}(h:RO r):En:=⟨c46 tb r,c1S a2p h⟩
def eS {r:Row I}(T f j:Nat)(is:List Nat)(h:a0F Go.Proofs.Tryz.prog r (a6D T f j is)):En:=⟨b6K tb r (b7R T f j is),b6d a2p h (fun _ _ _ _ _ _ _ _ _ hO h hc hv=>c2b hO h hc hv)⟩
theorem okR {r:Row I}(l:List En){fn:Func}(nt:Nat)(H:Hints I)(rl:List ResultVar)(hf:(Go.Proofs.Tryz.prog).funcs[r.f]?=some fn)
 (h : (fn.body, fn.name == "runtime.NumGoroutine", fn.ntmps, fn.results.toList, Nat.ble r.ps.length nt, W5 H (a56 fn) 1, r.run) = (some (a56 fn), false, nt, rl, true, true, b0Q r.ps (c5k tb (b32 (enL l) 3) H (a56 fn) nt r.ps r.rs rl))) : RK r := by
 simp only [Prod.mk.injEq] at h
 obtain ⟨h1,h2,h3,h4,h5,h6,h7⟩:=h
 exact c7P a2p (a2h (a64 l) 3) mixed nt hf h1 h2 h3 h4 h5 h6 h7
theorem okO {r:Rio I}(l:List En){fn:Func}(nt:Nat)(H:Hints I)(rl:List ResultVar)(hf:(Go.Proofs.Tryz.prog).funcs[r.f]?=some fn)
 (h : (fn.body, fn.name == "runtime.NumGoroutine", fn.ntmps, fn.results.toList, Nat.ble (r.ps.length + 1) nt, W5 H (a56 fn) 1, r.run) = (some (a56 fn), false, nt, rl, true, true, fun xs => b0Q r.ps (c5t tb (b32 (enL l) 3) H (a56 fn) nt r.E r.ps r.rs rl xs))) : RO r := by
 simp only [Prod.mk.injEq] at h
 obtain ⟨h1,h2,h3,h4,h5,h6,h7⟩:=h
 exact c7B a2p (a2h (a64 l) 3) mixed nt hf h1 h2 h3 h4 h5 h6 h7
noncomputable def c6M:Rio I:=⟨51,56,[.fn [.dat 56,.dat 56] [.k (.d (.int .i64))]],[],b00⟩
theorem c8a:a3V Go.Proofs.Tryz.prog c6M:=b8C Go.Proofs.Tryz.lay51 51 (by kernel_rfl) (by kernel_rfl) Go.Proofs.Tryz.underlying56 (by kernel_rfl)
def c6x:Row I:=⟨187,[.d (.str),.d (.str)],[.k (.d (.int .i64))],c2I⟩
theorem c6Y:a0r Go.Proofs.Tryz.prog c6x:=c7A Go.Proofs.Tryz.func187 (by kernel_rfl) rfl (by kernel_rfl) (by kernel_rfl)
def c6f:Row I:=⟨108,[.d (.sl 3)],[.k (.row 3 false)],Q4 8⟩
theorem a67:a0r Go.Proofs.Tryz.prog c6f:=a61 a2p mixed Go.Proofs.Tryz.func108 (by kernel_rfl) (by kernel_rfl) (by kernel_rfl) Go.Proofs.Tryz.underlying36 rfl (by kernel_rfl) (fun _=>by kernel_rfl)
def c54:Row I:=⟨128,[.d (.sl 128)],[.k (.row 128 false)],Q4 40⟩
theorem c6W:a0r Go.Proofs.Tryz.prog c54:=a61 a2p mixed Go.Proofs.Tryz.func128 (by kernel_rfl) (by kernel_rfl) (by kernel_rfl) Go.Proofs.Tryz.underlying64 rfl (by kernel_rfl) (fun _=>by kernel_rfl)
def c6m:Rio I:=⟨182,3,[],[],c1M⟩
theorem c6O:a3V Go.Proofs.Tryz.prog c6m:=c3t (I:=I) (E:=3) Go.Proofs.Tryz.lay182 182 (by kernel_rfl) (fun x=>x) Iff.rfl ⟨_,_,Go.Proofs.Tryz.func182,rfl,by kernel_rfl⟩
def c6F:Rio I:=⟨190,9,[],[],b7Q⟩
theorem c36:a3V Go.Proofs.Tryz.prog c6F:=c3O (I:=I) (E:=9) Go.Proofs.Tryz.lay190 190 (by kernel_rfl) (fun x=>x) Iff.rfl ⟨_,_,Go.Proofs.Tryz.func190,rfl,by kernel_rfl⟩
def c6d:Row I:=⟨157,[.d (.sl 9)],[.k (.row 9 false)],Q4 16⟩
theorem b2P:a0r Go.Proofs.Tryz.prog c6d:=a61 a2p mixed Go.Proofs.Tryz.func157 (by kernel_rfl) (by kernel_rfl) (by kernel_rfl) Go.Proofs.Tryz.underlying22 rfl (by kernel_rfl) (fun _=>by kernel_rfl)
noncomputable def c6I:Rio I:=⟨287,126,[.fn [.dat 126,.dat 126] [.k (.d (.int .i64))]],[],b00⟩
theorem c7H:a3V Go.Proofs.Tryz.prog c6I:=b8C Go.Proofs.Tryz.lay287 287 (by kernel_rfl) (by kernel_rfl) Go.Proofs.Tryz.underlying126 (by kernel_rfl)
def c5V:Row I:=⟨235,[.d (.sl 126)],[.k (.row 126 false)],Q4 24⟩
theorem c3h:a0r Go.Proofs.Tryz.prog c5V:=a61 a2p mixed Go.Proofs.Tryz.func235 (by kernel_rfl) (by kernel_rfl) (by kernel_rfl) Go.Proofs.Tryz.underlying39 rfl (by kernel_rfl) (fun _=>by kernel_rfl)
def c5T:Row I:=⟨159,[.d (.sl 100)],[.k (.row 100 false)],Q4 56⟩
theorem c3U:a0r Go.Proofs.Tryz.prog c5T:=a61 a2p mixed Go.Proofs.Tryz.func159 (by kernel_rfl) (by kernel_rfl) (by kernel_rfl) Go.Proofs.Tryz.underlying184 rfl (by kernel_rfl) (fun _=>by kernel_rfl)
def b1P:Row I:=⟨94,[.d (.int .i64)],[.k (.d (.bool))],a4E⟩
theorem b2s:RK (b1P) :=
 okR [] 6 Y2 [.tmp 2] Go.Proofs.Tryz.func94 (by kernel_rfl)
def b0m:Row I:=⟨53,[.d (.int .i64),.d (.int .i64)],[.k (.d (.int .i64))],a6i⟩
theorem b01:RK (b0m) :=
 okR [eR b2s] 20 Y2 [.tmp 4] Go.Proofs.Tryz.func53 (by kernel_rfl)
def a7S:Row I:=⟨52,[.d (.dat 56),.d (.dat 56)],[.k (.d (.int .i64))],a4G⟩
theorem a74:RK (a7S) :=
 okR [eR b01] 10 Y2 [.tmp 4] Go.Proofs.Tryz.func52 (by kernel_rfl)
def b0X:Hints I:=mkH [(14,[[],[0],[0,1],[0,1,2],[0,1,2],[0,1,2,3,4],[0,1,2,3,4,5],[0,1,2,3,4,5,6],[0,1,2,3,4,5,6,7],[0,1,2,3,4,5,6,7,8],[0,1,2,3,4,5,6,7,8,9],[0,1,2,3,4,5,6,7,8,9,10],[0,1,2,3,4,5,6,7,8,9],[0,1,2,3,4,5,6,7,8,9],[0,1,2,3,4,5,6,7,8,9,12,13],[0,1,2,3,4,5,6,7,8,9,12,13,14],[0,1,2,3,4,5,6,7,8,9,12,13,14,15],[0,1,2,3,4,5,6,7,8,9,12,13,14,15,16],[0,1,2,3,4,5,6,7,8,9,10,11,12,13,14,15,16,17],[0,1,2,3,4,5,6,7,8,9,10,11,12,13,14,15,16,17,18],[0,1,2,3,4,5,6,7,8,9,10,11,12,13,14,15,16,17,18,19]]),(15,[[],[],[],[],[2,3],[2,3,4],[2,3,4,5],[],[7],[2,3,4,5,6,7,8],[0,1,2,3,4,5,6,7,8,9],[0,1,2,3,4,5,6,7,8,9,10],[0,1,2,3,4,5,6,7,8,9,10,11]])] [] [] [] [(58,⟨67104808,[],[],[(3,.k (.row 56 false)),(12,.k (.d (.int .i64)))],[((.exit 0),[(3,.k (.row 56 false))])],bnd tb (.slot 11) 1⟩),
 (506,⟨37778931862956087968576,[],[],[(6,.k (.row 56 false)),(28,.k (.row 56 false)),(30,.k (.d (.int .i64)))],[((.exit 2),[(6,.k (.row 56 false)),(28,.k (.row 56 false))])],bnd tb (.slot 29) 1⟩)] [] [] []
noncomputable def a83:Row I:=⟨34,[.d (.sl 56)],[.k (.row 56 false)],a0a⟩
theorem a2b:RK (a83) :=
 okR [eO c8a,eR a74] 76 b0X [.tmp 2] Go.Proofs.Tryz.func34 (by kernel_rfl)
def b2g:Row I:=⟨20,[.d (.dat 67)],[.k (.d (.dat 27))],a1J⟩
theorem a1G:RK (b2g) :=
 okR [] 6 Y2 [.cell 2 27] Go.Proofs.Tryz.func20 (by kernel_rfl)
def b4K:Row I:=⟨6,[],[.k (.d (.dat 27))],a0Q⟩
theorem a1m:RK (b4K) :=
 okR [eR a1G] 3 Y2 [.cell 0 27] Go.Proofs.Tryz.func6 (by kernel_rfl)
def b0V:Hints I:=mkH [] [] [] [(29,⟨16776824,[],[],[(.normal,[(3,.k (.d (.bool))),(4,.k (.d (.bool))),(5,.k (.d (.bool))),(6,.k (.d (.bool)))])]⟩),
 (941,⟨26624,[],[],[(.normal,[(11,.k (.d (.bool)))])]⟩),
 (3773,⟨4096000,[],[],[(.normal,[(15,.k (.d (.bool)))])]⟩)] [] [] [] []
def a80:Row I:=⟨82,[.d (.dat 67)],[.k (.d (.bool))],a5D⟩
theorem b0j:RK (a80) :=
 okR [] 67 b0V [.tmp 2] Go.Proofs.Tryz.func82 (by kernel_rfl)
def b7Y:Hints I:=mkH [] [] [] [] [(58,⟨34351349952,[],[],[(7,.k (.d (.int .i64)))],[((.exit 0),[]),(.ret,[(6,.k (.d (.bool)))])],bnd tb (.len (.slot 0)) 1⟩)] [] [] []
def b5W:Row I:=⟨54,[.d (.str),.fn [.int .u8] [.k (.d (.bool))],.fn [.int .u8] [.k (.d (.bool))]],[.k (.d (.bool))],a3g⟩
theorem a8q:RK (b5W) :=
 okR [] 35 b7Y [.tmp 6] Go.Proofs.Tryz.func54 (by kernel_rfl)
def b4z:Row I:=⟨57,[.d (.int .u8)],[.k (.d (.bool))],a1A⟩
theorem a33:RK (b4z) :=
 okR [] 9 Y2 [.tmp 2] Go.Proofs.Tryz.func57 (by kernel_rfl)
def b4A:Row I:=⟨58,[.d (.int .u8)],[.k (.d (.bool))],a2v⟩
theorem a7k:RK (b4A) :=
 okR [] 9 Y2 [.tmp 2] Go.Proofs.Tryz.func58 (by kernel_rfl)
def b2X:Row I:=⟨135,[.d (.int .u8)],[.k (.d (.bool))],a5v⟩
theorem b4e:RK (b2X) :=
 okR [eR a33,eR a7k] 13 Y2 [.tmp 2] Go.Proofs.Tryz.func135 (by kernel_rfl)
def b5m:Row I:=⟨106,[.d (.str)],[.k (.d (.bool))],a2T⟩
theorem a8x:RK (b5m) :=
 okR [eR a8q,eR a33,eR b4e] 5 Y2 [.tmp 2] Go.Proofs.Tryz.func106 (by kernel_rfl)
def b4B:Row I:=⟨55,[.d (.int .u8)],[.k (.d (.bool))],a2w⟩
theorem a7l:RK (b4B) :=
 okR [] 9 Y2 [.tmp 2] Go.Proofs.Tryz.func55 (by kernel_rfl)
def a8P:Row I:=⟨56,[.d (.int .u8)],[.k (.d (.bool))],a2S⟩
theorem a9L:RK (a8P) :=
 okR [eR a33,eR a7l,eR a7k] 17 Y2 [.tmp 2] Go.Proofs.Tryz.func56 (by kernel_rfl)
def b0z:Row I:=⟨35,[.d (.str)],[.k (.d (.bool))],a0y⟩
theorem a2H:RK (b0z) :=
 okR [eR a8q,eR a7l,eR a9L] 5 Y2 [.tmp 2] Go.Proofs.Tryz.func35 (by kernel_rfl)
def b3E:Row I:=⟨136,[.d (.dat 126)],[.k (.d (.bool))],a1a⟩
theorem a6h:RK (b3E) :=
 okR [eR a8x] 16 Y2 [.tmp 2] Go.Proofs.Tryz.func136 (by kernel_rfl)
def b4N:Row I:=⟨167,[.d (.int .i64)],[.k (.d (.bool))],a6e⟩
theorem b41:RK (b4N) :=
 okR [] 6 Y2 [.tmp 2] Go.Proofs.Tryz.func167 (by kernel_rfl)
def b18:Row I:=⟨152,[.d (.int .i64),.d (.int .i64)],[.k (.d (.int .i64))],a4D⟩
theorem a5W:RK (b18) :=
 okR [eR b41] 20 Y2 [.tmp 4] Go.Proofs.Tryz.func152 (by kernel_rfl)
def a3B:Row I:=⟨168,[.d (.str),.d (.str)],[.k (.d (.int .i64))],a1C⟩
theorem a3O:RK (a3B) :=
 okR [eR c6Y] 8 Y2 [.tmp 4] Go.Proofs.Tryz.func168 (by kernel_rfl)
def b2i:Row I:=⟨153,[.d (.str),.d (.str)],[.k (.d (.int .i64))],a4N⟩
theorem a5T:RK (b2i) :=
 okR [eR a3O] 8 Y2 [.tmp 4] Go.Proofs.Tryz.func153 (by kernel_rfl)
def a9V:Row I:=⟨137,[.d (.dat 126),.d (.dat 126)],[.k (.d (.int .i64))],a3x⟩
theorem a4y:RK (a9V) :=
 okR [eR a5W,eR a5T] 19 Y2 [.tmp 4] Go.Proofs.Tryz.func137 (by kernel_rfl)
def a8X:Hints I:=mkH [(4,[[],[0],[0,1],[0,1,2],[0,1,2,3],[0,1,2,3,4],[0,1,2,3,4,5],[0,1,2,3,4,5,6],[0,1,2,3,4,5,6,7],[0,1,2,3,4,5,6,7],[0,1,2,3,4,5,6,7,9],[0,1,2,3,4,5,6,7,8,9,10],[0,1,2,3,4,5,6,7,8,9,10,11],[0,1,2,3,4,5,6,7,8,9,10,11,12],[0,1,2,3,4,5,6,7],[0,1,2,3,4,5,6,7,14],[0,1,2,3,4,5,6,7,8,9,10,11,12,13,14,15],[0,1,2,3,4,5,6,7,8,9,10,11,12,13,14,15,16],[0,1,2,3,4,5,6,7,8,9,10,11,12,13,14,15,16,17],[0,1,2,3,4,5,6,7,8,9,10,11,12,13,14,15,16,17,18]])] [] [] [] [(26,⟨8589934492,[],[],[(7,.k (.d (.int .i64)))],[((.exit 0),[]),(.ret,[(2,.k (.d (.bool)))])],bnd tb (.slot 6) 1⟩)] [] [] []
def a7j:Row I:=⟨107,[.d (.sl 128)],[.k (.d (.bool))],a4L⟩
theorem a8c:RK (a7j) :=
 okR [eR a6h,eR a4y] 33 a8X [.tmp 2] Go.Proofs.Tryz.func107 (by kernel_rfl)
def b1b:Hints I:=mkH [] [] [] [(105,⟨16288,[],[],[(.normal,[(5,.k (.d (.bool)))])]⟩),
 (28311549,⟨368934881474191032320,[],[],[(.normal,[(66,.k (.d (.bool)))])]⟩)] [] [] [] []
def a84:Row I:=⟨83,[.d (.dat 67)],[.k (.d (.bool))],a5X⟩
theorem a9Z:RK (a84) :=
 okR [eR a8x,eR a2H,eR a8c] 79 b1b [.tmp 2] Go.Proofs.Tryz.func83 (by kernel_rfl)
def b5A:Hints I:=mkH [] [] [] [] [(58,⟨4190248,[],[],[(3,.k (.row 3 false)),(12,.k (.d (.int .i64)))],[((.exit 0),[(3,.k (.row 3 false))])],bnd tb (.slot 11) 1⟩)] [] [] []
def b3k:Row I:=⟨84,[.d (.dat 67)],[.k (.row 3 false)],a94⟩
theorem b4d:RK (b3k) :=
 okR [eR a67] 35 b5A [.tmp 2] Go.Proofs.Tryz.func84 (by kernel_rfl)
def a82:Row I:=⟨110,[.d (.int .i64)],[.k (.d (.bool))],a5L⟩
theorem a9S:RK (a82) :=
 okR [] 13 Y2 [.tmp 2] Go.Proofs.Tryz.func110 (by kernel_rfl)
def a69 (_:Nat):Hints I:=mkH [] [] [] [] [(122,⟨140462610448544,[],[(1,.k (.row 3 false))],[(38,.k (.d (.int .i64)))],[((.exit 0),[]),(.ret,[(5,.k (.d (.bool)))])],bnd tb (.slot 37) 1⟩)] [] [] []
def a0N (n:Nat):Row I:=⟨109,[.d (.int .i64),.var 36 (.k (.row 3 false)) true,.var 27 (.k (.d (.dat 27))) false,.var 151 (.k (.d .any)) false],[.k (.d (.bool))],a1M n⟩
theorem a6a (n:Nat)(h_typeexpr_contractive_1:a0F Go.Proofs.Tryz.prog (a0N n) (a6D 151 109 3 [1,2,3])):a0F Go.Proofs.Tryz.prog (a0N (n+1)) (a6D 151 109 3 [1,2,3]) :=
 b7U a2p (a2h (a64 [eR a9S,eS 151 109 3 [1,2,3] h_typeexpr_contractive_1]) 3) mixed 50 (s0:=fun a=>c2n 151 109 3 3 [1,2,3] (a2F tb 50 [.d (.int .i64),.var 36 (.k (.row 3 false)) true,.var 27 (.k (.d (.dat 27))) false,.var 151 (.k (.d .any)) false] a)) (fn:=Go.Proofs.Tryz.f109) (cd:=a56 Go.Proofs.Tryz.f109) (H:=(a69 n)) (rl:=[.tmp 5]) (fun X c σ a vs F h hv _ hC=>c0J rfl rfl rfl h hv hC) Go.Proofs.Tryz.func109 (by kernel_rfl) (by kernel_rfl) (by kernel_rfl) (by kernel_rfl) (by kernel_rfl) (by kernel_rfl) (by kernel_rfl)
theorem a2M:∀ n:Nat,a0F Go.Proofs.Tryz.prog (a0N n) (a6D 151 109 3 [1,2,3])
 | 0=>b8J (b7f (by kernel_rfl))
 | n+1=>a6a n (a2M n)
def a9k (_:Nat):Hints I:=mkH [] [] [] [] [(250,⟨4177956,[],[(3,.k (.row 3 false))],[(14,.k (.d (.int .i64)))],[((.exit 0),[]),(.ret,[(2,.k (.d (.bool)))])],bnd tb (.slot 13) 1⟩)] [] [] []
def a7s (n:Nat):Row I:=⟨85,[.d (.dat 27)],[.k (.d (.bool))],a4w n⟩
theorem a7W (n:Nat):RK (a7s n) :=
 okR [eS 151 109 3 [1,2,3] (a2M n)] 22 (a9k n) [.tmp 2] Go.Proofs.Tryz.func85 (by kernel_rfl)
def a9E (_:Nat):Hints I:=mkH [] [] [] [] [(58,⟨2251799811588180,[],[],[(21,.k (.d (.int .i64)))],[((.exit 0),[]),(.ret,[(2,.k (.d (.int .i64)))])],bnd tb (.slot 20) 1⟩),
 (29902,⟨1125831187365956,[34],[],[(36,.k (.d (.int .i64)))],[((.exit 2),[]),(.ret,[(2,.k (.d (.int .i64)))])],bnd tb (.slot 35) 1⟩)] [] [] []
def a73 (n:Nat):Row I:=⟨45,[.d (.dat 27)],[.k (.d (.int .i64))],V3 n⟩
theorem X9 (n:Nat):RK (a73 n) :=
 okR [eR b0j,eR a9Z,eR b4d,eR (a7W n)] 54 (a9E n) [.tmp 2] Go.Proofs.Tryz.func45 (by kernel_rfl)
def b26 (n:Nat):Row I:=⟨97,[.d (.dat 27)],[.k (.d (.dat 27))],a9z n⟩
theorem b4F (n:Nat):RK (b26 n) :=
 okR [eR (X9 n),eR a1m] 8 Y2 [.cell 2 27] Go.Proofs.Tryz.func97 (by kernel_rfl)
def b2F:Hints I:=mkH [] [] [] [] [(58,⟨67092512,[],[(2,.lvs [.d (.int .i64),.d (.int .i64),.d (.int .i64),.d (.str),.row 3 false,.d (.sl 128),.d (.int .i64),.d (.int .i64)])],[(14,.k (.d (.int .i64)))],[((.exit 0),[])],bnd tb (.slot 13) 1⟩),
 (250,⟨140728898420800,[],[(2,.lvs [.d (.int .i64),.d (.int .i64),.d (.int .i64),.d (.str),.row 3 false,.row 128 false,.d (.int .i64),.d (.int .i64)])],[(33,.k (.d (.int .i64)))],[((.exit 2),[])],bnd tb (.slot 32) 1⟩)] [] [] []
def b02:Row I:=⟨98,[.d (.dat 67),.d (.int .i64)],[.k (.d (.dat 67))],a7v⟩
theorem b1R:RK (b02) :=
 okR [eR a67,eR c6W] 65 b2F [.cell 4 67] Go.Proofs.Tryz.func98 (by kernel_rfl)
def b5w (_:Nat):Hints I:=mkH [(8,[[],[],[1],[],[1,2,3],[0],[0,1,2,3,4,5]])] [] [] [] [(122,⟨134152449,[],[],[(0,.k (.row 67 false)),(16,.k (.d (.int .i64)))],[((.exit 0),[(0,.k (.row 67 false))])],bnd tb (.slot 15) 1⟩)] [] [] []
def b3j (n:Nat):Row I:=⟨62,[.row 67 false,.d (.dat 27)],[.k (.row 67 false),.k (.d (.int .i64))],a1b n⟩
theorem a3u (n:Nat):RK (b3j n) :=
 okR [eR (b4F n),eR b1R] 32 (b5w n) [.tmp 4,.tmp 5] Go.Proofs.Tryz.func62 (by kernel_rfl)
def b6q (_:Nat):Hints I:=mkH [] [] [] [] [(122,⟨1073709920,[],[],[(5,.k (.row 67 false)),(6,.k (.row 3 false)),(15,.k (.d (.int .i64)))],[((.exit 0),[(5,.k (.row 67 false)),(6,.k (.row 3 false))])],bnd tb (.slot 14) 1⟩)] [] [] []
def b4r (n:Nat):Row I:=⟨46,[.d (.int .i64),.d (.sl 27)],[.k (.d (.dat 27))],b1z n⟩
theorem b5o (n:Nat):RK (b4r n) :=
 okR [eR (a3u n)] 36 (b6q n) [.cell 4 27] Go.Proofs.Tryz.func46 (by kernel_rfl)
def b2G (n:Nat):Row I:=⟨30,[.d (.sl 27)],[.k (.d (.dat 27))],a9W n⟩
theorem b4c (n:Nat):RK (b2G n) :=
 okR [eR a1m,eR (b5o n)] 9 Y2 [.cell 2 27] Go.Proofs.Tryz.func30 (by kernel_rfl)
def b6s (_:Nat):Hints I:=mkH [] [] [] [] [(58,⟨8388136,[7],[],[(3,.k (.row 27 false)),(9,.k (.d (.int .i64)))],[((.exit 0),[(3,.k (.row 27 false))])],bnd tb (.slot 8) 1⟩)] [] [] []
noncomputable def b4w (n:Nat):Row I:=⟨16,[.d (.sl 56)],[.k (.d (.dat 27))],b1v n⟩
theorem b5n (n:Nat):RK (b4w n) :=
 okR [eR a2b,eR a1G,eR (b4c n)] 25 (b6s n) [.cell 2 27] Go.Proofs.Tryz.func16 (by kernel_rfl)
def b0q:Row I:=⟨17,[.d (.str)],[.k (.d (.dat 27))],a6p⟩
theorem b1e:RK (b0q) :=
 okR [eR a2H,eR a1m,eR a1G] 10 Y2 [.cell 2 27] Go.Proofs.Tryz.func17 (by kernel_rfl)
def b5K:Row I:=⟨18,[],[.k (.d (.dat 27))],b2Q⟩
theorem b6k:RK (b5K) :=
 okR [eR a1G] 3 Y2 [.cell 0 27] Go.Proofs.Tryz.func18 (by kernel_rfl)
def a5t:Hints I:=mkH [] [] [] [] [(26,⟨524080,[],[],[(8,.k (.d (.int .i64)))],[((.exit 0),[]),(.ret,[(4,.k (.d (.int .i64)))])],bnd tb (.slot 7) 1⟩)] [] [] []
def a4T:Row I:=⟨65,[.d (.sl 9),.d (.str)],[.k (.d (.int .i64))],a0O⟩
theorem a4Z:RK (a4T) :=
 okR [] 19 a5t [.tmp 4] Go.Proofs.Tryz.func65 (by kernel_rfl)
def a3H:Row I:=⟨40,[.d (.sl 9),.d (.str)],[.k (.d (.bool))],J6⟩
theorem a1r:RK (a3H) :=
 okR [eR a4Z] 9 Y2 [.tmp 4] Go.Proofs.Tryz.func40 (by kernel_rfl)
def b2p:Hints I:=mkH [] [] [] [] [(26,⟨130580,[],[],[(9,.k (.d (.int .i64)))],[((.exit 0),[]),(.ret,[(2,.k (.d (.int .i64)))])],bnd tb (.slot 8) 1⟩),
 (58,⟨1073217636,[],[],[(19,.k (.d (.int .i64)))],[((.exit 2),[]),(.ret,[(2,.k (.d (.int .i64)))])],bnd tb (.slot 18) 1⟩)] [] [] []
def b0S:Row I:=⟨21,[.d (.sl 9)],[.k (.d (.int .i64))],a1t⟩
theorem b1M:RK (b0S) :=
 okR [eR a2H,eR a1r] 30 b2p [.tmp 2] Go.Proofs.Tryz.func21 (by kernel_rfl)
def a1l:Hints I:=mkH [] [] [] [] [(26,⟨524080,[],[],[(8,.k (.d (.int .i64)))],[((.exit 0),[]),(.ret,[(4,.k (.d (.int .i64)))])],bnd tb (.slot 7) 1⟩)] [] [] []
def a0Z:Row I:=⟨59,[.d (.sl 51),.fn [.dat 51] [.k (.d (.bool))]],[.k (.d (.int .i64))],X4⟩
theorem a1c:RK (a0Z) :=
 okR [] 19 a1l [.tmp 4] Go.Proofs.Tryz.func59 (by kernel_rfl)
def a0I:Row I:=⟨36,[.d (.sl 51),.fn [.dat 51] [.k (.d (.bool))]],[.k (.d (.bool))],V9⟩
theorem a0P:RK (a0I) :=
 okR [eR a1c] 9 Y2 [.tmp 4] Go.Proofs.Tryz.func36 (by kernel_rfl)
def a12:Hints I:=mkH [] [] [] [] [(26,⟨524080,[],[],[(8,.k (.d (.int .i64)))],[((.exit 0),[]),(.ret,[(4,.k (.d (.int .i64)))])],bnd tb (.slot 7) 1⟩)] [] [] []
def a1N:Row I:=⟨63,[.d (.sl 61),.fn [.dat 61] [.k (.d (.bool))]],[.k (.d (.int .i64))],a0f⟩
theorem a1S:RK (a1N) :=
 okR [] 19 a12 [.tmp 4] Go.Proofs.Tryz.func63 (by kernel_rfl)
def a6A:Row I:=⟨64,[.d (.dat 61),.var 9 (.k (.d (.str))) false],[.k (.d (.bool))],a4e⟩
theorem a7f:RK (a6A) :=
 okR [] 8 Y2 [.tmp 3] Go.Proofs.Tryz.func64 (by kernel_rfl)
def a9K (_:Nat):Hints I:=mkH [] [] [] [(2051323,⟨18444492273895882784,[],[],[(.normal,[(5,.k (.row 67 false)),(8,.k (.map 106 (.int .i64)))])]⟩)] [(250,⟨9444732965739273682464,[],[],[(5,.k (.row 67 false)),(8,.k (.map 106 (.int .i64))),(24,.k (.d (.int .i64)))],[((.exit 0),[(5,.k (.row 67 false)),(8,.k (.map 106 (.int .i64)))])],bnd tb (.slot 23) 1⟩)] [] [] []
def a75 (n:Nat):Row I:=⟨39,[.d (.dat 27),.d (.sl 61)],[.k (.d (.dat 27))],a2J n⟩
theorem a9f (n:Nat):RK (a75 n) :=
 okR [eR (a3u n),eR a1S,eR a7f] 76 (a9K n) [.cell 4 27] Go.Proofs.Tryz.func39 (by kernel_rfl)
def b4L (n:Nat):Row I:=⟨95,[.d (.dat 27),.d (.dat 27)],[.k (.d (.dat 27)),.k (.d (.int .i64))],b1w n⟩
theorem b48 (n:Nat):RK (b4L n) :=
 okR [eR (a3u n)] 24 Y2 [.cell 4 27,.tmp 5] Go.Proofs.Tryz.func95 (by kernel_rfl)
def b2A (_:Nat):Hints I:=mkH [(2,[[],[],[1],[1,2],[],[4],[1,2,3,4,5],[0],[0,1,2,3,4,5,6,7]])] [] [] [] [] [] [] []
def b0Z (n:Nat):Row I:=⟨60,[.d (.dat 27),.d (.dat 27)],[.k (.d (.dat 27)),.k (.d (.dat 100))],a7G n⟩
theorem b1Q (n:Nat):RK (b0Z n) :=
 okR [eR (b48 n)] 21 (b2A n) [.cell 4 27,.cell 5 100] Go.Proofs.Tryz.func60 (by kernel_rfl)
def b9r:Hints I:=mkH [(1,[[],[0],[0,1],[],[3],[0,1,2,3,4],[0,1,2,3,4,5],[]])] [] [] [] [(26,⟨268419152,[12],[],[(14,.k (.d (.int .i64)))],[((.exit 0),[]),(.ret,[(4,.k (.d (.bool)))])],bnd tb (.slot 13) 1⟩)] [] [] []
def b6v:Row I:=⟨125,[.d (.dat 27),.d (.dat 100)],[.k (.d (.bool))],a8F⟩
theorem b0p:RK (b6v) :=
 okR [eR a67] 28 b9r [.tmp 4] Go.Proofs.Tryz.func125 (by kernel_rfl)
def a7H:Hints I:=mkH [(6,[[],[],[0,1],[0,1,2],[],[],[5],[4,5,6],[4,5,6,7],[0,1,2,3,4,5,6,7,8]]),(11,[[],[],[0,1],[0,1,2],[],[],[5],[4,5,6],[4,5,6,7],[0,1,2,3,4,5,6,7,8]])] [] [] [] [(58,⟨1152921504606846012,[],[],[(0,.k (.row 3 false)),(3,.k (.d (.int .i64)))],[((.exit 0),[(0,.k (.row 3 false))]),(.ret,[(2,.k (.row 3 false))])],bnd tb (.len (.slot 0)) 1⟩)] [(59690,⟨18014397972611112,0,.row 3,[(3,.k (.d (.int .i64))),(5,.k (.d (.int .i64)))],[((.exit 2),[(3,.k (.d (.int .i64)))])],bnd tb (.len (.slot 4)) 1,0⟩)] [] []
def a6g:Row I:=⟨184,[.row 3 false],[.k (.row 3 false)],a3I⟩
theorem a6w:RK (a6g) :=
 okR [] 61 a7H [.tmp 2] Go.Proofs.Tryz.func184 (by kernel_rfl)
def a8d:Row I:=⟨183,[.d (.sl 3)],[.k (.row 3 true)],a43⟩
theorem a9n:RK (a8d) :=
 okR [] 9 Y2 [.tmp 2] Go.Proofs.Tryz.func183 (by kernel_rfl)
def b7a:Row I:=⟨164,[.d (.sl 3)],[.k (.row 3 true)],a3J⟩
theorem a9w:RK (b7a) :=
 okR [eR a67,eO c6O,eR a6w,eR a9n] 11 Y2 [.tmp 2] Go.Proofs.Tryz.func164 (by kernel_rfl)
def b80:Hints I:=mkH [(1,[[],[0],[0,1],[],[3],[0,1,2,3,4],[],[6],[0,1,2,3,4,5,6,7],[0,1,2,3,4,5,6,7,8]])] [] [] [] [] [] [] []
def b6I:Row I:=⟨146,[.d (.dat 100)],[.k (.d (.dat 100))],a08⟩
theorem a1f:RK (b6I) :=
 okR [eR a9w] 12 b80 [.cell 2 100] Go.Proofs.Tryz.func146 (by kernel_rfl)
def c1W:Row I:=⟨127,[.d (.dat 100)],[.k (.d (.str))],a6S⟩
def a6E (c:UInt8)(xs:List Int)(q:Nat×List UInt8):Option (Fl (Nat×List UInt8) (List UInt8)):=match xs[q.1]? with
 | some n=>(a6N c q.2 n).map fun b=>.next (q.1+1,b)
 | none=>some (.done q.2)
theorem b0M {c:UInt8}{xs:List Int}:∀ (m i:Nat) {b r:List UInt8},xs.length-i=m->i<=xs.length->a7F c (xs.drop i) b=some r->y2 (a6E c xs) (m+1) (i,b)=some r
 | 0,i,b,r,hm,hi,h=>by
   have e:i=xs.length:=by omega
   subst e
   rw [List.drop_length] at h
   cases h
   simp [y2,a6E]
 | m+1,i,b,r,hm,hi,h=>by
   have hlt:i<xs.length:=by omega
   rw [List.drop_eq_getElem_cons hlt] at h
   obtain ⟨b',h1,h2⟩:=bind_some h
   have:=b0M m (i+1) (by omega) (by omega) h2
   simp only [y2,a6E,List.getElem?_eq_getElem hlt,h1,Option.map_some]
   exact this
theorem c6a {P:Program}{w:World}{T:TypeId}{x y:Operand}{s t:ByteArray}(h:s.size+t.size<=1000000) :
 k7 P w (do eqGuard .add T x y (.string s) (.string t); binOp .add T (.string s) (.string t)) (.string (s++t)):=by
 simp [k7,eqGuard_at_string,binOp,Op.stringOp]
 omega
theorem c8x:X6 Go.Proofs.Tryz.prog 147:=⟨_,_,Go.Proofs.Tryz.func147,rfl,by kernel_rfl⟩
theorem c5p:X6 Go.Proofs.Tryz.prog 148:=⟨_,_,Go.Proofs.Tryz.func148,rfl,by kernel_rfl⟩
theorem c5b:X6 Go.Proofs.Tryz.prog 149:=⟨_,_,Go.Proofs.Tryz.func149,rfl,by kernel_rfl⟩
theorem c8v:X6 Go.Proofs.Tryz.prog 150:=⟨_,_,Go.Proofs.Tryz.func150,rfl,by kernel_rfl⟩
theorem c1Z {n:Nat}(h:n<100)(w:World):Calls Go.Proofs.Tryz.prog 149 [Value.int .i64 (n:Int)].toArray w fun e w'=>e=.returned (.string ⟨(a0U n).toArray⟩)/\w'=w:=by
 have:=Go.Proofs.Any.strconv_Itoa_small Go.Proofs.Tryz.lay149 n h w
 rw [<- c3Q h] at this
 exact this
def b34 (σ:S):Nat->Nat×Nat:=fun b=>if b<σ.N then σ.L b else (0,0)
theorem b3u {σ:S}{w:World}(h:Bw σ.N σ.w w):Wext σ ⟨w,b34 σ⟩ :=
 ⟨h.below.size,fun b hb=>by simp [b34,hb],fun b o v ho hc=>(W7 (h.below.block b (a1i hc)) o).trans hc,h.drawn,fun b o hb hf=>(a0i (h.below.block b hb) o).trans hf⟩
theorem b8w (l m:List UInt8):Lib.byteCells (l++m)=Lib.byteCells l++Lib.byteCells m:=by simp [Lib.byteCells]
theorem b4X (l:List UInt8):Lib.strCells ⟨l.toArray⟩=Lib.byteCells l:=by simp [Lib.strCells,Lib.byteCells]
theorem b0U (n:Nat):(a0U n).length<=2:=by
 unfold a0U
 cases Nat.blt n 10<;>simp
theorem c5y {P:Program}{w:World}{T:TypeId}{x y:Operand}{c:UInt8}{l:List UInt8}(h:l.length<=2) :
 k7 P w (do eqGuard .add T x y (.string ⟨#[c]⟩) (.string ⟨l.toArray⟩); binOp .add T (.string ⟨#[c]⟩) (.string ⟨l.toArray⟩)) (.string ⟨(c::l).toArray⟩):=by
 have:=c6a (P:=P) (w:=w) (T:=T) (x:=x) (y:=y) (s:=⟨#[c]⟩) (t:=⟨l.toArray⟩) (by simp [ByteArray.size]; omega)
 have e:(⟨#[c]⟩++⟨l.toArray⟩:ByteArray)=⟨(c::l).toArray⟩:=by
  apply ByteArray.ext
  simp
 rw [e] at this
 exact this
theorem c1y {c:UInt8}{b r:List UInt8}{n:Int}(h:a6N c b n=some r):r.length<=1000003/\b.length<=r.length:=by
 unfold a6N at h
 obtain ⟨hc,h⟩:=y0 h
 cases h
 simp only [Bool.and_eq_true] at hc
 have:=Nat.le_of_ble_eq_true hc.2
 have:=b0U n.toNat
 simp
 omega
theorem a7h {c:UInt8}:∀ {xs:List Int} {b r:List UInt8},a7F c xs b=some r->b.length<=1000003->r.length<=1000003
 | [],b,r,h,hb=>by cases h; exact hb
 | n::xs,b,r,h,hb=>by
   obtain ⟨b',h1,h2⟩:=bind_some h
   exact a7h h2 (c1y h1).1
theorem b9X (w:World)(a:Addr)(n:Nat):(w.freeze a n).drawn=w.drawn:=by unfold World.freeze; split<;>rfl
theorem c8H {b B:Nat}{l:List UInt8}{w:World}(h:Lib.IsBuilder 200 5 B b (Lib.byteCells l) w)(hn:l=[]->w.heap[b]?=some (.cells #[.pointer none,.slice none 0 0] 200 (0,0)))(hl:l.length<=1000003) :
 Calls Go.Proofs.Tryz.prog 150 [Y4 b].toArray w fun e w'=>e=.returned (.string ⟨l.toArray⟩)/\Bw B w w':=by
 have hdrew:Bw B w w.drew:=⟨(Below.refl B w).drew,Nat.le_succ _⟩
 by_cases h0:l=[]
 ·subst h0
  exact (Go.Proofs.Tryz.bstr0 (hn rfl)).mono fun e w' ⟨h1,h2⟩=>⟨h1,by subst h2; exact hdrew⟩
 ·obtain ⟨p,_,hB,v,hb,hown,hne⟩:=c2c h
  rw [Lib.byteCells_length] at hown
  rcases hown.2 with ⟨_,hz⟩ | ⟨g,cap,cur,rfl,hbg,hg,hnc,hcm,hcs,htake⟩
  ·exact absurd (List.length_eq_zero_iff.1 hz) h0
  ·refine (Go.Proofs.Tryz.bstr1 (l:=l) hb hg h0 hnc (by simpa using hcs) (by omega) fun j x hx=>?_).mono fun e w' ⟨h1,h2⟩=>⟨h1,?_⟩
   ·have h3:(Lib.byteCells l)[j]?=some (.int .u8 x.toNat):=by simp [Lib.byteCells,hx]
    rw [<- htake,List.getElem?_take] at h3
    split at h3
    ·rw [<- Array.getElem?_toList]; exact h3
    ·cases h3
   ·subst h2
    exact hdrew.trans ⟨Lib.below_freeze (Below.refl B w.drew) (p:=⟨g,0,none⟩) hbg _,Nat.le_of_eq (b9X _ _ _).symm⟩
theorem b99 {i:Nat}(h:i<9223372036854775807):wr .i64 ((i:Int)+1)=((i+1:Nat):Int):=by
 show IntKind.i64.wrap ((i:Int)+1)=_
 rw [IntKind.wrap_i64]
 omega
theorem c3I:a0r Go.Proofs.Tryz.prog c1W:=by
 refine c0T a2p 38 Go.Proofs.Tryz.func127 rfl (by kernel_rfl) rfl rfl rfl fun X c σ F Q a res hX hrel happ hk=>?_
 have happ:a6S a.1=some res:=happ
 obtain ⟨g,hg,happ⟩:=bind_some happ
 obtain ⟨b1,hb1,happ⟩:=bind_some happ
 obtain ⟨b2,hb2,happ⟩:=bind_some happ
 have h0:=hrel.frame 0 (.dat 100 a.1) rfl
 simp only [RV] at h0
 obtain ⟨cs,hF0,hcs⟩:=h0
 refine wp_seq (wp_region_lit ?_)
 refine c5C (B:=σ.N) 0 (Nat.le_refl _) (.agg cs.toArray) cs hF0 rfl rfl fun τ1 bx hx1 hblk=>?_
 refine a0j (.string ⟨#[]⟩) rfl rfl ?_
 refine wpList_nil (Y7 (wp_seq (wp_region_lit ?_)))
 have hcs1:Rp.cells τ1 a.1 cs:=Rp.mono hx1.wext hcs
 have hl3:cs.length=3:=Rp.len (self:=rI 100) hcs
 have t100:b3W Go.Proofs.Tryz.prog 100 3:=⟨_,Go.Proofs.Tryz.underlying100,rfl,by kernel_rfl⟩
 refine a0E bx 0 (.agg cs.toArray) rfl rfl (b8x (hl3▸t100) (fun j v hv=>by rw [Nat.zero_add,hblk.cell]; exact hv)) ?_
 have hcall:=a1f τ1 (a.1,()) [.agg cs.toArray] [] g ⟨_,_,[],[],rfl,rfl,⟨⟨cs,rfl,hcs1⟩,rfl⟩,rfl,rfl⟩ List.nodup_nil hg
 refine a4f (o := ⟨some 9, .call ⟨.value (.func 146), #[.tmp 8], #[100]⟩, 100, "core.go:142", #[⟨0, .data⟩], none⟩) rfl hcall (b5q (xs := [.tmp 8]) rfl τ1.w) fun v9 τ2 st2 hpost => ?_
 obtain ⟨ws,us,pls',hpost⟩:=hpost
 obtain ⟨v,hws,⟨cs',hv,hcs2⟩,-⟩:=hpost.tt
 have hlen:=hpost.len
 have hret:=hpost.ret
 obtain ⟨rfl,rfl⟩:ws=[v]/\us=[]:=by
  rcases ws with _ | ⟨u,ws⟩
  ·cases hlen
  ·rcases ws with _ | ⟨u',ws⟩
   ·simp at hws; exact ⟨by rw [hws.1],hws.2⟩
   ·cases hlen
 have hret:v9=v:=hret
 subst hret
 subst hv
 have hl3':cs'.length=3:=Rp.len (self:=rI 100) hcs2
 have hne1:¬ bx∈ows ([]:List Pl):=fun h=>by cases h
 obtain ⟨k1,k2⟩:=st2.block bx hblk.lt hne1
 have hbl:(τ1.L bx)=(0,0):=hblk.2.2
 have hblk2:Blk σ.N 0 ⟨τ2.w,fun k=>if k=bx then (0,0) else τ2.L k⟩ bx 100 cs:=⟨hblk.1,k1.trans hblk.2.1,by simp⟩
 have hw2:Wext τ2 ⟨τ2.w,fun k=>if k=bx then (0,0) else τ2.L k⟩:=⟨Nat.le_refl _,fun k _=>by
  by_cases e:k=bx
  ·subst e; rw [k2,hbl]; exact Nat.zero_le _
  ·simp [e],fun _ _ _ _ h=>h,Nat.le_refl _,fun _ _ _ h=>h⟩
 have hall:cs'.all (·.oneCell')=true:=List.all_eq_true.2 fun u hu=>Rp.one (self:=rI 100) hcs2 u hu
 refine b3K (σ:=⟨τ2.w,fun k=>if k=bx then (0,0) else τ2.L k⟩) hblk2 0 (.agg cs'.toArray) cs' cs' rfl rfl rfl rfl rfl (by rw [hl3']; kernel_rfl) hall (by rw [hl3',hl3]; rfl) (by rw [List.take_zero,Nat.zero_add,hl3',<- hl3,List.drop_length]; simp) fun τ3 hm3 hblk3=>?_
 have hcs3:=Rp.mono (self:=rI 100) (hw2.trans hm3.wext) hcs2
 refine wpList_nil (Y7 (wp_seq (wp_region_lit ?_)))
 refine c11 (B:=τ3.N) 0 (Nat.le_refl _) (.agg #[.pointer none,.slice none 0 0]) [.pointer none,.slice none 0 0] (v6 (T:=200) (size:=2) (bytes:=32) (by kernel_rfl)) rfl fun τ4 b hx4 hb4=>?_
 have h4:Bw τ3.N τ3.w τ4.w:=⟨hx4.below,hx4.drawn⟩
 have hbuild:Lib.IsBuilder 200 5 τ3.N b [] τ4.w:=.inl ⟨hb4.1,.slice none 0 0,hb4.2.1,World.ownsRow_nil _ _ _ _,by simp [Value.ownBlock]⟩
 obtain ⟨cc1,cr1,e1,⟨A1,k1c,ec1,hs1⟩,cc2,cr2,e2,⟨A2,k2c,ec2,hs2⟩,hc3⟩:=hcs3
 have hcs':cs'=[.slice A1 g.Pos.length k1c,.slice A2 g.Neg.length k2c,.bool g.Lists]:=by
  have hc3:cr2=[.bool g.Lists]:=hc3
  rw [e1,e2,ec1,ec2,hc3]; rfl
 have hbxw:∀ w,Bw τ3.N τ3.w w->∀ i,w.cell? ⟨bx,i,none⟩=cs'[i]?:=fun w h i=>by rw [W7 (h.below.block bx hblk3.lt)]; exact hblk3.cell i
 have t22:J5 Go.Proofs.Tryz.prog 36:=⟨_,Go.Proofs.Tryz.underlying36,rfl,by kernel_rfl⟩
 have t3:J5 Go.Proofs.Tryz.prog 3:=⟨_,Go.Proofs.Tryz.underlying3,rfl,by kernel_rfl⟩
 have t4:J5 Go.Proofs.Tryz.prog 4:=⟨_,Go.Proofs.Tryz.underlying4,rfl,by kernel_rfl⟩
 refine wpList_nil (Y7 (b5T (fun a w=>∃ F',a=fr 38 F'/\F' 1=.pointer (some ⟨bx,0,none⟩)/\F' 3=Y4 b/\Bw τ3.N τ3.w w/\Lib.IsBuilder 200 5 τ3.N b (Lib.byteCells (bif g.Lists then [108] else []:List UInt8)) w/\((bif g.Lists then [108] else []:List UInt8)=[]->w.heap[b]?=some (.cells #[.pointer none,.slice none 0 0] 200 (0,0)))) ?_ ?_))
 ·refine wp_seq (wp_region_lit ?_)
  refine J3 bx 0 2 2 rfl rfl (⟨_,_,Go.Proofs.Tryz.underlying100,rfl,rfl,by kernel_rfl⟩) rfl ?_
  refine a0E bx 2 (.bool g.Lists) rfl rfl (a0n t4 ((hbxw τ4.w h4 2).trans (by rw [hcs']; rfl))) ?_
  refine wpList_nil (Y7 ?_)
  rcases hL:g.Lists with _ | _
  ·refine a5a (c:=false) (by rw [<- hL]; rfl) rfl rfl (wp_skip ?_)
   exact ⟨rfl,_,rfl,rfl,rfl,h4,hbuild,fun _=>hb4.2.1⟩
  ·refine b0e (c:=true) (by rw [<- hL]; rfl) rfl rfl (wp_region_lit ?_)
   refine a4g [Y4 b,.int .u8 108] rfl rfl c8x (bwb hbuild (by decide) h4.below.size) ?_
   rintro e w5 ⟨⟨v,rfl⟩,hat,hbw5⟩
   exact ⟨_,rfl,wpList_nil ⟨rfl,_,rfl,rfl,rfl,h4.trans hbw5,.inr hat,fun h=>by simp at h⟩⟩
 rintro a0 w0 h0
 refine b5T (fun a w=>∃ F',a=fr 38 F'/\F' 1=.pointer (some ⟨bx,0,none⟩)/\F' 3=Y4 b/\Bw τ3.N τ3.w w/\Lib.IsBuilder 200 5 τ3.N b (Lib.byteCells b1) w/\(b1=[]->w.heap[b]?=some (.cells #[.pointer none,.slice none 0 0] 200 (0,0)))) ?_ ?_
 ·revert a0 w0 h0
  rintro a1 w1 ⟨F1,rfl,f1,f3,hbw1,hbd1,hn1⟩
  refine wp_seq (wp_region_lit ?_)
  refine J3 bx 0 0 0 f1 rfl (⟨_,_,Go.Proofs.Tryz.underlying100,rfl,rfl,by kernel_rfl⟩) rfl ?_
  refine a0E bx 0 (.slice A1 g.Pos.length k1c) rfl rfl (a0n t22 ((hbxw w1 hbw1 0).trans (by rw [hcs']; rfl))) ?_
  refine a5y A1 g.Pos.length k1c rfl rfl Go.Proofs.Tryz.underlying36 ?_
  refine J7 (.int .i64 0) rfl rfl ?_
  refine wpList_nil (Y7 (wp_block ?_))
  refine wp_mono (a6K (step:=a6E 43 g.Pos) (fun q a w=>∃ F',a=fr 38 F'/\F' 1=.pointer (some ⟨bx,0,none⟩)/\F' 3=Y4 b/\F' 14=.slice A1 g.Pos.length k1c/\F' 15=.int .i64 (g.Pos.length:Int)/\F' 16=.int .i64 (q.1:Int)/\Bw τ3.N τ3.w w/\Lib.IsBuilder 200 5 τ3.N b (Lib.byteCells q.2) w/\(q.2=[]->w.heap[b]?=some (.cells #[.pointer none,.slice none 0 0] 200 (0,0)))/\q.1<=g.Pos.length) (fun r e a w=>e=.exit 0/\∃ F',a=fr 38 F'/\F' 1=.pointer (some ⟨bx,0,none⟩)/\F' 3=Y4 b/\Bw τ3.N τ3.w w/\Lib.IsBuilder 200 5 τ3.N b (Lib.byteCells r) w/\(r=[]->w.heap[b]?=some (.cells #[.pointer none,.slice none 0 0] 200 (0,0)))) (by rintro _ _ _ ⟨h,_⟩; cases h) ?_ _ (0,(bif g.Lists then [108] else [])) b1 _ _ (b0M (g.Pos.length-0) 0 rfl (Nat.zero_le _) hb1) ⟨_,rfl,f1,f3,rfl,rfl,rfl,hbw1,hbd1,fun h=>hn1 h,Nat.zero_le _⟩) ?_
  ·rintro ⟨i,bs⟩ fl a2 w2 hst ⟨F2,rfl,g1,g3,g14,g15,g16,hbw2,hbd2,hn2,hi⟩
   refine wp_seq (wp_region_lit ?_)
   refine a3p (.int .i64 (i:Int)) (.int .i64 (g.Pos.length:Int)) (.bool (decide ((i:Int)<(g.Pos.length:Int)))) g16 g15 rfl rfl b9I ?_
   refine wpList_nil (Y7 (wp_seq ?_))
   rcases hx:(g.Pos)[i]? with _ | n
   ·simp only [a6E,hx] at hst
    cases hst
    have hge:(g.Pos).length<=i:=List.getElem?_eq_none_iff.1 hx
    refine a5a rfl (decide_eq_false (by omega)) rfl (wp_exit ?_)
    exact b8d ⟨rfl,_,rfl,g1,g3,hbw2,hbd2,hn2⟩
   ·simp only [a6E,hx,Option.map_eq_some_iff] at hst
    obtain ⟨bs',hit,rfl⟩:=hst
    have hlt:i<(g.Pos).length:=(List.getElem?_eq_some_iff.1 hx).1
    unfold a6N at hit
    obtain ⟨hcond,hit⟩:=y0 hit
    cases hit
    simp only [Bool.and_eq_true,decide_eq_true_eq] at hcond
    obtain ⟨⟨n0,n1⟩,nl⟩:=hcond
    have nl:bs.length<=1000000:=Nat.le_of_ble_eq_true nl
    refine b0e rfl (decide_eq_true (by omega)) rfl (wp_skip (Y7 (wp_seq (wp_block (wp_seq (wp_region_lit ?_))))))
    refine a9g (σ:=⟨w2,b34 τ3⟩) (hs1.mono (b3u hbw2)) (show idx g.Pos (i:Int)=some n by simp [idx,hx]) g14 g16 rfl rfl Go.Proofs.Tryz.underlying36 (by kernel_rfl) fun bb o ccs hc hse=>?_
    have hc:ccs=[.int .i64 n]:=hc
    subst hc
    refine a0E bb o (.int .i64 n) rfl rfl (a0n t3 (hse.2 0 _ rfl)) ?_
    refine a0j (.int .i64 n) rfl rfl ?_
    refine wpList_nil (Y7 (wp_region_lit ?_))
    refine J7 (.int .i64 n) rfl rfl ?_
    have hn:((n.toNat:Nat):Int)=n:=by omega
    refine a4g [.int .i64 n] rfl rfl c5b (by have:=c1Z (n:=n.toNat) (by omega) w2; rw [hn] at this; exact this) ?_
    rintro e w3 ⟨rfl,rfl⟩
    refine ⟨_,rfl,?_⟩
    have hdl:(a0U n.toNat).length<=2:=b0U _
    refine a3p (.string ⟨#[43]⟩) (.string ⟨(a0U n.toNat).toArray⟩) (.string ⟨(43::a0U n.toNat).toArray⟩) rfl rfl rfl rfl (c5y hdl) ?_
    have hsz:(⟨(43::a0U n.toNat).toArray⟩:ByteArray).size<=3:=by simp [ByteArray.size]; omega
    refine a4g [Y4 b,.string ⟨(43::a0U n.toNat).toArray⟩] (by rw [List.map_cons,List.map_cons,List.map_nil]; exact congrArg (·::_) g3) rfl c5p (bws hbd2 (by show (Lib.byteCells bs).length+_<=_; rw [Lib.byteCells_length]; omega) hbw2.below.size) ?_
    rintro e w4 ⟨⟨v,rfl⟩,hat,hbw4⟩
    refine ⟨_,rfl,?_⟩
    refine wpList_nil (c4q (Y7 (wp_region_lit ?_)))
    refine a3p (.int .i64 (i:Int)) (.int .i64 1) (.int .i64 (wr .i64 ((i:Int)+1))) g16 rfl rfl rfl b9N ?_
    refine J7 (.int .i64 (wr .i64 ((i:Int)+1))) rfl rfl ?_
    have hwr:wr .i64 ((i:Int)+1)=((i+1:Nat):Int):=b99 (by have l1:(g.Pos).length<=k1c:=hs1.1; have l2:k1c<=maxLen:=hs1.2.1; unfold maxLen at l2; omega)
    refine wpList_nil ⟨rfl,_,rfl,g1,g3,g14,g15,congrArg _ hwr,hbw2.trans hbw4,.inr ?_,fun h=>by simp at h,hlt⟩
    rw [b4X,<- b8w] at hat
    exact hat
  ·rintro r e a2 ⟨rfl,F2,rfl,g1,g3,hbw2,hbd2,hn2⟩
   exact c4S ⟨rfl,F2,rfl,g1,g3,hbw2,hbd2,hn2⟩
 rintro a5 w5 h5
 refine b5T (fun a w=>∃ F',a=fr 38 F'/\F' 1=.pointer (some ⟨bx,0,none⟩)/\F' 3=Y4 b/\Bw τ3.N τ3.w w/\Lib.IsBuilder 200 5 τ3.N b (Lib.byteCells b2) w/\(b2=[]->w.heap[b]?=some (.cells #[.pointer none,.slice none 0 0] 200 (0,0)))) ?_ ?_
 ·revert a5 w5 h5
  rintro a1 w1 ⟨F1,rfl,f1,f3,hbw1,hbd1,hn1⟩
  refine wp_seq (wp_region_lit ?_)
  refine J3 bx 0 1 1 f1 rfl (⟨_,_,Go.Proofs.Tryz.underlying100,rfl,rfl,by kernel_rfl⟩) rfl ?_
  refine a0E bx 1 (.slice A2 g.Neg.length k2c) rfl rfl (a0n t22 ((hbxw w1 hbw1 1).trans (by rw [hcs']; rfl))) ?_
  refine a5y A2 g.Neg.length k2c rfl rfl Go.Proofs.Tryz.underlying36 ?_
  refine J7 (.int .i64 0) rfl rfl ?_
  refine wpList_nil (Y7 (wp_block ?_))
  refine wp_mono (a6K (step:=a6E 45 g.Neg) (fun q a w=>∃ F',a=fr 38 F'/\F' 1=.pointer (some ⟨bx,0,none⟩)/\F' 3=Y4 b/\F' 26=.slice A2 g.Neg.length k2c/\F' 27=.int .i64 (g.Neg.length:Int)/\F' 28=.int .i64 (q.1:Int)/\Bw τ3.N τ3.w w/\Lib.IsBuilder 200 5 τ3.N b (Lib.byteCells q.2) w/\(q.2=[]->w.heap[b]?=some (.cells #[.pointer none,.slice none 0 0] 200 (0,0)))/\q.1<=g.Neg.length) (fun r e a w=>e=.exit 2/\∃ F',a=fr 38 F'/\F' 1=.pointer (some ⟨bx,0,none⟩)/\F' 3=Y4 b/\Bw τ3.N τ3.w w/\Lib.IsBuilder 200 5 τ3.N b (Lib.byteCells r) w/\(r=[]->w.heap[b]?=some (.cells #[.pointer none,.slice none 0 0] 200 (0,0)))) (by rintro _ _ _ ⟨h,_⟩; cases h) ?_ _ (0,b1) b2 _ _ (b0M (g.Neg.length-0) 0 rfl (Nat.zero_le _) hb2) ⟨_,rfl,f1,f3,rfl,rfl,rfl,hbw1,hbd1,fun h=>hn1 h,Nat.zero_le _⟩) ?_
  ·rintro ⟨i,bs⟩ fl a2 w2 hst ⟨F2,rfl,g1,g3,g14,g15,g16,hbw2,hbd2,hn2,hi⟩
   refine wp_seq (wp_region_lit ?_)
   refine a3p (.int .i64 (i:Int)) (.int .i64 (g.Neg.length:Int)) (.bool (decide ((i:Int)<(g.Neg.length:Int)))) g16 g15 rfl rfl b9I ?_
   refine wpList_nil (Y7 (wp_seq ?_))
   rcases hx:(g.Neg)[i]? with _ | n
   ·simp only [a6E,hx] at hst
    cases hst
    have hge:(g.Neg).length<=i:=List.getElem?_eq_none_iff.1 hx
    refine a5a rfl (decide_eq_false (by omega)) rfl (wp_exit ?_)
    exact b8d ⟨rfl,_,rfl,g1,g3,hbw2,hbd2,hn2⟩
   ·simp only [a6E,hx,Option.map_eq_some_iff] at hst
    obtain ⟨bs',hit,rfl⟩:=hst
    have hlt:i<(g.Neg).length:=(List.getElem?_eq_some_iff.1 hx).1
    unfold a6N at hit
    obtain ⟨hcond,hit⟩:=y0 hit
    cases hit
    simp only [Bool.and_eq_true,decide_eq_true_eq] at hcond
    obtain ⟨⟨n0,n1⟩,nl⟩:=hcond
    have nl:bs.length<=1000000:=Nat.le_of_ble_eq_true nl
    refine b0e rfl (decide_eq_true (by omega)) rfl (wp_skip (Y7 (wp_seq (wp_block (wp_seq (wp_region_lit ?_))))))
    refine a9g (σ:=⟨w2,b34 τ3⟩) (hs2.mono (b3u hbw2)) (show idx g.Neg (i:Int)=some n by simp [idx,hx]) g14 g16 rfl rfl Go.Proofs.Tryz.underlying36 (by kernel_rfl) fun bb o ccs hc hse=>?_
    have hc:ccs=[.int .i64 n]:=hc
    subst hc
    refine a0E bb o (.int .i64 n) rfl rfl (a0n t3 (hse.2 0 _ rfl)) ?_
    refine a0j (.int .i64 n) rfl rfl ?_
    refine wpList_nil (Y7 (wp_region_lit ?_))
    refine J7 (.int .i64 n) rfl rfl ?_
    have hn:((n.toNat:Nat):Int)=n:=by omega
    refine a4g [.int .i64 n] rfl rfl c5b (by have:=c1Z (n:=n.toNat) (by omega) w2; rw [hn] at this; exact this) ?_
    rintro e w3 ⟨rfl,rfl⟩
    refine ⟨_,rfl,?_⟩
    have hdl:(a0U n.toNat).length<=2:=b0U _
    refine a3p (.string ⟨#[45]⟩) (.string ⟨(a0U n.toNat).toArray⟩) (.string ⟨(45::a0U n.toNat).toArray⟩) rfl rfl rfl rfl (c5y hdl) ?_
    have hsz:(⟨(45::a0U n.toNat).toArray⟩:ByteArray).size<=3:=by simp [ByteArray.size]; omega
    refine a4g [Y4 b,.string ⟨(45::a0U n.toNat).toArray⟩] (by rw [List.map_cons,List.map_cons,List.map_nil]; exact congrArg (·::_) g3) rfl c5p (bws hbd2 (by show (Lib.byteCells bs).length+_<=_; rw [Lib.byteCells_length]; omega) hbw2.below.size) ?_
    rintro e w4 ⟨⟨v,rfl⟩,hat,hbw4⟩
    refine ⟨_,rfl,?_⟩
    refine wpList_nil (c4q (Y7 (wp_region_lit ?_)))
    refine a3p (.int .i64 (i:Int)) (.int .i64 1) (.int .i64 (wr .i64 ((i:Int)+1))) g16 rfl rfl rfl b9N ?_
    refine J7 (.int .i64 (wr .i64 ((i:Int)+1))) rfl rfl ?_
    have hwr:wr .i64 ((i:Int)+1)=((i+1:Nat):Int):=b99 (by have l1:(g.Neg).length<=k2c:=hs2.1; have l2:k2c<=maxLen:=hs2.2.1; unfold maxLen at l2; omega)
    refine wpList_nil ⟨rfl,_,rfl,g1,g3,g14,g15,congrArg _ hwr,hbw2.trans hbw4,.inr ?_,fun h=>by simp at h,hlt⟩
    rw [b4X,<- b8w] at hat
    exact hat
  ·rintro r e a2 ⟨rfl,F2,rfl,g1,g3,hbw2,hbd2,hn2⟩
   exact c4S ⟨rfl,F2,rfl,g1,g3,hbw2,hbd2,hn2⟩
 rintro a6 w6 ⟨F6,rfl,f1,f3,hbw6,hbd6,hn6⟩
 refine wp_seq (wp_region_lit ?_)
 refine a4g [Y4 b] (congrArg (·::_) f3) rfl c8v (c8H hbd6 hn6 (a7h hb2 (a7h hb1 (by cases g.Lists<;>decide)))) ?_
 rintro e w7 ⟨rfl,hbw7⟩
 refine ⟨_,rfl,?_⟩
 refine a0j (.string ⟨b2.toArray⟩) rfl rfl ?_
 refine wpList_nil (Y7 (wp_ret ?_))
 have hb7:Bw τ3.N τ3.w w7:=hbw6.trans hbw7
 have hr:(⟨b2.toArray⟩:ByteArray)=res:=Option.some.inj happ
 have hA:Bw σ.N σ.w τ1.w:=⟨hx1.below,hx1.drawn⟩
 have hB:Bw σ.N τ1.w τ2.w:=⟨⟨st2.os,st2.tape,st2.output,st2.wext.size,fun k hk=>(st2.block k (Nat.lt_of_lt_of_le hk hx1.below.size) (fun h=>by cases h)).1⟩,st2.wext.drawn⟩
 have hC:Bw σ.N τ2.w τ3.w:=⟨⟨hm3.os,hm3.tape,hm3.output,hm3.wext.size,fun k hk=>(hm3.block k (Nat.lt_of_lt_of_le hk (hA.trans hB).below.size) (.inl hk)).1⟩,hm3.wext.drawn⟩
 have hD:Bw σ.N τ3.w w7:=⟨hb7.below.mono ((hA.trans hB).trans hC).below.size,hb7.drawn⟩
 have hE:=((hA.trans hB).trans hC).trans hD
 subst hr
 refine hk .ret ⟨38,fun i=>bif Nat.beq i 2 then some (.str ⟨b2.toArray⟩) else none,fun _=>none,0⟩ c ⟨w7,b34 σ⟩ _ ?_ (Cx.le_refl c) ⟨rfl,(fun i p hp=>?_),(fun l o ho=>by cases ho),(fun _ _ _ _ _ ⟨_,h⟩=>by cases h),(fun _ _ _ ⟨_,h⟩=>by cases h),(fun l _=>hrel.nom l rfl),⟨Nat.le_trans hrel.base.1 hE.below.size,hrel.base.2⟩,noN.nests fun _ _ _ _ _ _ h=>by cases h⟩
  ⟨b3u hE,hE.below.os,hE.below.tape,hE.below.output,fun k hk _=>⟨hE.below.block k hk,by simp [b34,hk]⟩⟩
 ·rfl
 ·have hp:(bif Nat.beq i 2 then some (PV.str ⟨b2.toArray⟩) else none)=some p:=hp
  obtain ⟨hi,hp⟩:=y0 hp
  cases hp
  have:=Nat.eq_of_beq_eq_true hi
  subst this
  simp only [RV]
  rfl
theorem b6m:a0r Go.Proofs.Tryz.prog c1W:=c3I
def b4H:Hints I:=mkH [(1,[[],[0],[0,1],[],[3],[0,1,2,3,4],[],[6],[0,1,2,3,4,5,6,7],[],[9],[0,1,2,3,4,5,6,7,8,9,10],[0,1,2,3,4,5,6,7,8,9,10,11],[0,1,2,3,4,5,6,7,8,9,10,11,12]])] [] [] [] [] [] [] []
def b2f:Row I:=⟨188,[.d (.dat 252)],[.lvs [.row 3 false,.row 3 false,.row 3 false,.row 3 false]],a4U⟩
theorem a5E:RK (b2f) :=
 okR [eR a67] 16 b4H [.cell 2 252] Go.Proofs.Tryz.func188 (by kernel_rfl)
def b1S:Hints I:=mkH [] [] [] [(29901,⟨4293918720,[],[(10,.lvs [.row 3 false,.row 3 false,.row 3 false,.row 3 false])],[(.normal,[])]⟩)] [(58,⟨137438946944,[],[],[(7,.k (.row 252 false)),(13,.k (.d (.int .i64)))],[((.exit 0),[(7,.k (.row 252 false))])],bnd tb (.slot 12) 1⟩)] [] [] []
def a9x:Row I:=⟨214,[.d (.dat 252),.d (.sl 3),.d (.bool)],[.k (.row 252 false)],a3w⟩
theorem b1d:RK (a9x) :=
 okR [eR a5E] 38 b1S [.tmp 6] Go.Proofs.Tryz.func214 (by kernel_rfl)
def b1G:Hints I:=mkH [(14,[[],[0],[],[2],[2,3],[2,3,4],[2,3,4,5],[0,1,2,3,4,5,6],[0,1,2,3,4,5,6,7],[0,1,2,3,4,5,6,7,8]]),(30,[[],[0],[],[2],[2,3],[2,3,4],[2,3,4,5],[0,1,2,3,4,5,6],[0,1,2,3,4,5,6,7],[0,1,2,3,4,5,6,7,8]])] [] [] [(509,⟨170141183455517471574545782616287608848,[],[(2,.lvs [.d (.sl 3),.d (.sl 3),.d (.sl 3),.d (.sl 3)])],[(.normal,[]),(.ret,[(4,.k (.row 252 false))])]⟩),
 (1757,⟨590295810341525782544,[],[(2,.lvs [.d (.sl 3),.d (.sl 3),.d (.sl 3),.d (.sl 3)])],[(.normal,[]),(.ret,[(4,.k (.row 252 false))])]⟩)] [] [] [] []
def b0d:Row I:=⟨189,[.val (.lvs [.row 3 false,.row 3 false,.row 3 false,.row 3 false]),.d (.dat 27)],[.k (.row 252 false)],a6q⟩
theorem b0D:RK (b0d) :=
 okR [eR b1d] 129 b1G [.tmp 4] Go.Proofs.Tryz.func189 (by kernel_rfl)
def b4b (n:Nat):Hints I:=mkH [(1,[[],[0],[0,1],[],[3],[0,1,2,3,4],[0,1,2,3,4,5],[0,1,2,3,4,5,6],[0,1,2,3,4,5,6,7]])] [] [] [] [(124,⟨295147905179351779232,[],[],[(5,.k (.row 252 false)),(6,.k (.map 254 (.bool))),(7,.k (.row 100 false))],[((.exit 0),[(6,.k (.map 254 (.bool))),(7,.k (.row 100 false))])],fun _=>some n⟩)] [] [] []
def b2a (n:Nat):Row I:=⟨169,[.d (.dat 27),.d (.dat 100)],[.k (.row 100 false)],a8r n⟩
theorem b3c (n:Nat):RK (b2a n) :=
 okR [eR a9w,eR a5E,eR b0D,eR a1f,eR b6m] 69 (b4b n) [.tmp 4] Go.Proofs.Tryz.func169 (by kernel_rfl)
def a4z:Hints I:=mkH [(6,[[],[],[0,1],[0,1,2],[],[],[5],[4,5,6],[4,5,6,7],[0,1,2,3,4,5,6,7,8]]),(11,[[],[],[0,1],[0,1,2],[],[],[5],[4,5,6],[4,5,6,7],[0,1,2,3,4,5,6,7,8]])] [] [] [] [(58,⟨1152921504606846012,[],[],[(0,.k (.row 9 false)),(3,.k (.d (.int .i64)))],[((.exit 0),[(0,.k (.row 9 false))]),(.ret,[(2,.k (.row 9 false))])],bnd tb (.len (.slot 0)) 1⟩)] [(59690,⟨18014397972611112,0,.row 9,[(3,.k (.d (.int .i64))),(5,.k (.d (.int .i64)))],[((.exit 2),[(3,.k (.d (.int .i64)))])],bnd tb (.len (.slot 4)) 1,0⟩)] [] []
def a30:Row I:=⟨192,[.row 9 false],[.k (.row 9 false)],a0v⟩
theorem a1x:RK (a30) :=
 okR [] 61 a4z [.tmp 2] Go.Proofs.Tryz.func192 (by kernel_rfl)
def a41:Row I:=⟨191,[.d (.sl 9)],[.k (.row 9 true)],a00⟩
theorem a2c:RK (a41) :=
 okR [] 9 Y2 [.tmp 2] Go.Proofs.Tryz.func191 (by kernel_rfl)
def c1b:Hints I:=mkH [] [] [] [] [(58,⟨2147482784,[],[],[(5,.k (.row 9 false)),(10,.k (.d (.int .i64)))],[((.exit 0),[(5,.k (.row 9 false))])],bnd tb (.slot 9) 1⟩)] [] [] []
def b8s:Row I:=⟨170,[.d (.dat 27),.d (.sl 3)],[.k (.row 9 true)],b1p⟩
theorem b83:RK (b8s) :=
 okR [eO c36,eR a1x,eR a2c] 36 c1b [.tmp 4] Go.Proofs.Tryz.func170 (by kernel_rfl)
def a6c:Hints I:=mkH [] [] [] [] [(26,⟨524080,[],[],[(8,.k (.d (.int .i64)))],[((.exit 0),[]),(.ret,[(4,.k (.d (.int .i64)))])],bnd tb (.slot 7) 1⟩)] [] [] []
def a5f:Row I:=⟨216,[.d (.sl 3),.fn [.int .i64] [.k (.d (.bool))]],[.k (.d (.int .i64))],a29⟩
theorem a5V:RK (a5f) :=
 okR [] 19 a6c [.tmp 4] Go.Proofs.Tryz.func216 (by kernel_rfl)
def a4k:Row I:=⟨193,[.d (.sl 3),.fn [.int .i64] [.k (.d (.bool))]],[.k (.d (.bool))],K6⟩
theorem V6:RK (a4k) :=
 okR [eR a5V] 9 Y2 [.tmp 4] Go.Proofs.Tryz.func193 (by kernel_rfl)
def a8U:Hints I:=mkH [] [] [] [] [(26,⟨524080,[],[],[(8,.k (.d (.int .i64)))],[((.exit 0),[]),(.ret,[(4,.k (.d (.int .i64)))])],bnd tb (.slot 7) 1⟩)] [] [] []
def a7I:Row I:=⟨217,[.d (.sl 3),.d (.int .i64)],[.k (.d (.int .i64))],a4X⟩
theorem a7Z:RK (a7I) :=
 okR [] 19 a8U [.tmp 4] Go.Proofs.Tryz.func217 (by kernel_rfl)
def a5S:Row I:=⟨195,[.d (.sl 3),.d (.int .i64)],[.k (.d (.bool))],a0s⟩
theorem a2s:RK (a5S) :=
 okR [eR a7Z] 9 Y2 [.tmp 4] Go.Proofs.Tryz.func195 (by kernel_rfl)
def b1J:Row I:=⟨194,[.d (.int .i64),.var 36 (.k (.d (.sl 3))) false],[.k (.d (.bool))],a8k⟩
theorem b3w:RK (b1J) :=
 okR [eR a2s] 7 Y2 [.tmp 3] Go.Proofs.Tryz.func194 (by kernel_rfl)
def b4j:Row I:=⟨171,[.d (.sl 3),.d (.sl 3)],[.k (.d (.bool))],a3S⟩
theorem a3Y:RK (b4j) :=
 okR [eR V6,eR b3w] 8 Y2 [.tmp 4] Go.Proofs.Tryz.func171 (by kernel_rfl)
def a4a:Hints I:=mkH [] [] [] [] [(26,⟨524080,[],[],[(8,.k (.d (.int .i64)))],[((.exit 0),[]),(.ret,[(4,.k (.d (.int .i64)))])],bnd tb (.slot 7) 1⟩)] [] [] []
def a3z:Row I:=⟨218,[.d (.sl 9),.fn [.str] [.k (.d (.bool))]],[.k (.d (.int .i64))],a1I⟩
theorem a3M:RK (a3z) :=
 okR [] 19 a4a [.tmp 4] Go.Proofs.Tryz.func218 (by kernel_rfl)
def a2Q:Row I:=⟨196,[.d (.sl 9),.fn [.str] [.k (.d (.bool))]],[.k (.d (.bool))],a05⟩
theorem a3h:RK (a2Q) :=
 okR [eR a3M] 9 Y2 [.tmp 4] Go.Proofs.Tryz.func196 (by kernel_rfl)
def a86:Row I:=⟨197,[.d (.str),.var 22 (.k (.d (.sl 9))) false],[.k (.d (.bool))],a5P⟩
theorem a9P:RK (a86) :=
 okR [eR a1r] 7 Y2 [.tmp 3] Go.Proofs.Tryz.func197 (by kernel_rfl)
def b0P:Row I:=⟨172,[.d (.sl 9),.d (.sl 9)],[.k (.d (.bool))],a7M⟩
theorem b1U:RK (b0P) :=
 okR [eR a3h,eR a9P] 8 Y2 [.tmp 4] Go.Proofs.Tryz.func172 (by kernel_rfl)
def c1e:Hints I:=mkH [] [] [] [] [(58,⟨4192262,[],[],[(1,.k (.row 237 false)),(2,.k (.d (.int .i64)))],[((.exit 0),[(1,.k (.row 237 false))])],bnd tb (.cst 4) 2⟩)] [] [] []
def b72:Row I:=⟨173,[],[.k (.row 237 false)],b7w⟩
theorem b9o:RK (b72) :=
 okR [] 23 c1e [.tmp 0] Go.Proofs.Tryz.func173 (by kernel_rfl)
def b55:Hints I:=mkH [] [] [] [(429,⟨20480,[],[],[(.normal,[(12,.k (.d (.bool)))])]⟩),
 (1725,⟨1310720,[],[],[(.normal,[(18,.k (.d (.bool)))])]⟩)] [] [] [] []
def b2D:Row I:=⟨220,[.d (.dat 237),.d (.dat 67)],[.k (.d (.bool))],a5q⟩
theorem a6n:RK (b2D) :=
 okR [] 81 b55 [.tmp 4] Go.Proofs.Tryz.func220 (by kernel_rfl)
def b2Y:Hints I:=mkH [(1,[[],[0],[],[0,1,2],[0,1,2,3],[0,1,2,3,4],[0,1,2,3,4,5],[0,1,2,3,4,5,6],[0,1,2,3,4,5,6,7],[0,1,2,3,4,5,6,7],[0,1,2,3,4,5,6,7,9],[0,1,2,3,4,5,6,7],[0,1,2,3,4,5,6,7,9,10,11],[0,1,2,3,4,5,6,7,9,10,11,12],[0,1,2,3,4,5,6,7,8,9,10,11,12,13],[0,1,2,3,4,5,6,7,8,9,10,11,12,13,14],[0,1,2,3,4,5,6,7,8,9,10,11,12,13,14,15],[0,1,2,3,4,5,6,7,8,9,10,11,12,13,14,15,16]])] [] [] [] [] [] [] []
def b0L:Row I:=⟨219,[.d (.int .i64),.var 27 (.k (.d (.dat 27))) false,.var 237 (.k (.d (.dat 237))) false],[.k (.d (.bool))],a6Z⟩
theorem b2b:RK (b0L) :=
 okR [eR a6n] 22 b2Y [.tmp 4] Go.Proofs.Tryz.func219 (by kernel_rfl)
def b3n:Row I:=⟨198,[.d (.dat 237),.d (.dat 27),.d (.dat 100)],[.k (.d (.bool))],a9y⟩
theorem b4m:RK (b3n) :=
 okR [eR V6,eR b2b] 24 Y2 [.tmp 6] Go.Proofs.Tryz.func198 (by kernel_rfl)
def b37:Row I:=⟨221,[],[.k (.row 56 false)],b1D⟩
theorem b45:RK (b37) :=
 okR [] 3 Y2 [.tmp 0] Go.Proofs.Tryz.func221 (by kernel_rfl)
def b09:Hints I:=mkH [] [] [] [] [(58,⟨1099511620256,[11],[],[(5,.k (.row 56 false)),(13,.k (.d (.int .i64)))],[((.exit 0),[(5,.k (.row 56 false))])],bnd tb (.slot 12) 1⟩),
 (14950,⟨549754765856,[18],[],[(5,.k (.row 56 false)),(20,.k (.d (.int .i64)))],[((.exit 2),[(5,.k (.row 56 false))])],bnd tb (.slot 19) 1⟩)] [] [] []
noncomputable def a8E:Row I:=⟨222,[.d (.sl 56),.d (.sl 56)],[.k (.row 56 false)],a3b⟩
theorem b0t:RK (a8E) :=
 okR [eR a2b] 42 b09 [.tmp 4] Go.Proofs.Tryz.func222 (by kernel_rfl)
def b0r:Hints I:=mkH [] [] [] [(31333,⟨66846728,[],[],[(.normal,[(3,.k (.row 56 false))])]⟩)] [(122,⟨17179868252,[8],[],[(3,.k (.row 56 false)),(4,.k (.d (.int .i64))),(10,.k (.d (.int .i64)))],[((.exit 0),[(3,.k (.row 56 false)),(4,.k (.d (.int .i64)))]),(.ret,[(2,.k (.row 56 false))])],bnd tb (.slot 9) 1⟩)] [] [] []
noncomputable def a7X:Row I:=⟨223,[.d (.sl 56)],[.k (.row 56 false)],a44⟩
theorem a8W:RK (a7X) :=
 okR [eR a2b] 39 b0r [.tmp 2] Go.Proofs.Tryz.func223 (by kernel_rfl)
def c0Q:Hints I:=mkH [] [] [] [] [(58,⟨137438888352,[],[],[(5,.k (.row 56 false)),(16,.k (.d (.int .i64)))],[((.exit 0),[(5,.k (.row 56 false))])],bnd tb (.slot 15) 1⟩),
 (122,⟨4611684918915763232,[],[],[(5,.k (.row 56 false)),(40,.k (.d (.int .i64)))],[((.exit 2),[(5,.k (.row 56 false))])],bnd tb (.slot 39) 1⟩)] [] [] []
noncomputable def b7E:Row I:=⟨199,[.d (.dat 27),.d (.dat 100)],[.k (.row 56 false)],b6C⟩
theorem b9n:RK (b7E) :=
 okR [eR b45,eR b0t,eR a8W] 63 c0Q [.tmp 4] Go.Proofs.Tryz.func199 (by kernel_rfl)
def b04:Hints I:=mkH [(3,[[],[0],[],[2],[2,3],[0,1,2,3,4],[0,1,2,3,4,5],[0,1,2,3,4,5,6]])] [] [] [] [] [] [] []
def a8J:Row I:=⟨259,[.d (.dat 214)],[.k (.d (.dat 320))],a0G⟩
theorem a14:RK (a8J) :=
 okR [eR b2P,eO c36,eR a1x,eR a2c] 16 b04 [.cell 2 320] Go.Proofs.Tryz.func259 (by kernel_rfl)
def a9A:Row I:=⟨224,[.d (.sl 9)],[.k (.d (.dat 214))],a1X⟩
theorem a4R:RK (a9A) :=
 okR [eR a14] 7 Y2 [.cell 2 214] Go.Proofs.Tryz.func224 (by kernel_rfl)
def b1W:Row I:=⟨226,[.d (.sl 9)],[.k (.d (.dat 214))],a1E⟩
theorem a5O:RK (b1W) :=
 okR [eR a14] 7 Y2 [.cell 2 214] Go.Proofs.Tryz.func226 (by kernel_rfl)
def a9b:Hints I:=mkH [(1,[[],[0],[0,1],[0,1,2],[],[4],[4,5],[0,1,2,3,4,5,6],[0,1,2,3,4,5,6,7]])] [] [] [] [] [] [] []
def a7P:Row I:=⟨260,[.d (.dat 320),.d (.dat 320)],[.k (.row 9 false)],a4P⟩
theorem a78:RK (a7P) :=
 okR [eR b2P] 13 a9b [.tmp 4] Go.Proofs.Tryz.func260 (by kernel_rfl)
def b0v:Row I:=⟨281,[.d (.str)],[.k (.d (.bool))],a35⟩
theorem b1X:RK (b0v) :=
 okR [] 6 Y2 [.tmp 2] Go.Proofs.Tryz.func281 (by kernel_rfl)
def b1K:Row I:=⟨256,[.d (.str),.d (.str)],[.k (.d (.bool))],a8h⟩
theorem b2o:RK (b1K) :=
 okR [eR b1X] 17 Y2 [.tmp 4] Go.Proofs.Tryz.func256 (by kernel_rfl)
def a8b:Row I:=⟨296,[.d (.str)],[.k (.d (.bool))],a2I⟩
theorem a9e:RK (a8b) :=
 okR [] 6 Y2 [.tmp 2] Go.Proofs.Tryz.func296 (by kernel_rfl)
def a3r (n:Nat):Hints I:=mkH [] [] [] [] [(60,⟨2147476352,[],[],[(7,.k (.d (.int .i64))),(8,.k (.d (.int .i64)))],[((.exit 0),[(7,.k (.d (.int .i64)))])],fun _=>some n⟩)] [] [] []
def a2R (n:Nat):Row I:=⟨282,[.d (.sl 9),.d (.str)],[.k (.d (.int .i64)),.k (.d (.bool))],a04 n⟩
theorem a2U (n:Nat):RK (a2R n) :=
 okR [eR b2o,eR a9e] 54 (a3r n) [.tmp 4,.tmp 5] Go.Proofs.Tryz.func282 (by kernel_rfl)
def a7U (n:Nat):Row I:=⟨262,[.d (.dat 320),.d (.str)],[.k (.d (.bool))],a2G n⟩
theorem a3C (n:Nat):RK (a7U n) :=
 okR [eR (a2U n)] 16 Y2 [.tmp 4] Go.Proofs.Tryz.func262 (by kernel_rfl)
def a72 (_:Nat):Hints I:=mkH [] [] [] [] [(58,⟨33550496,[],[],[(5,.k (.row 9 false)),(12,.k (.d (.int .i64)))],[((.exit 0),[(5,.k (.row 9 false))])],bnd tb (.slot 11) 1⟩)] [] [] []
def a6G (n:Nat):Row I:=⟨261,[.d (.dat 320),.d (.dat 320)],[.k (.row 9 false)],a16 n⟩
theorem a7g (n:Nat):RK (a6G n) :=
 okR [eR (a3C n)] 26 (a72 n) [.tmp 4] Go.Proofs.Tryz.func261 (by kernel_rfl)
def b0E (_:Nat):Hints I:=mkH [(1,[[],[0],[],[0,1,2],[],[],[0,1,2,3,4,5],[0,1,2,3,4,5,6]])] [] [] [] [(250,⟨576320014815068800,[],[],[(7,.k (.row 9 false)),(47,.k (.d (.int .i64)))],[((.exit 1),[(7,.k (.row 9 false))])],bnd tb (.slot 46) 1⟩)] [] [] []
def a9d (n:Nat):Row I:=⟨225,[.d (.dat 214),.d (.dat 214)],[.k (.d (.dat 214))],a3a n⟩
theorem a90 (n:Nat):RK (a9d n) :=
 okR [eR a14,eR a78,eR a4R,eR (a7g n),eR a5O,eR (a3C n)] 61 (b0E n) [.cell 4 214] Go.Proofs.Tryz.func225 (by kernel_rfl)
def b82 (_:Nat):Hints I:=mkH [(7,[[],[],[1],[1,2],[1,2,3],[0,1,2,3,4],[0,1,2,3,4,5]]),(14,[[],[],[1],[1,2],[1,2,3],[0,1,2,3,4],[0,1,2,3,4,5]])] [] [] [] [(58,⟨274877646336,[],[(7,.k (.d (.dat 214)))],[(18,.k (.d (.int .i64)))],[((.exit 0),[])],bnd tb (.slot 17) 1⟩),
 (122,⟨2305840810190450688,[],[(7,.k (.d (.dat 214)))],[(41,.k (.d (.int .i64)))],[((.exit 2),[])],bnd tb (.slot 40) 1⟩)] [] [] []
def b6n (n:Nat):Row I:=⟨200,[.d (.dat 27),.d (.dat 100),.d (.int .i64)],[.k (.d (.dat 214))],a8K n⟩
theorem b7W (n:Nat):RK (b6n n) :=
 okR [eR a4R,eR a5O,eR (a90 n)] 62 (b82 n) [.cell 6 214] Go.Proofs.Tryz.func200 (by kernel_rfl)
def b87:Hints I:=mkH [(1,[[],[0],[],[0,1,2],[0,1,2,3],[0,1,2,3,4],[],[0,1,2,3,4,5,6],[0,1,2,3,4,5,6,7]])] [] [] [] [] [] [] []
def b6D:Row I:=⟨227,[.d (.int .i64),.var 27 (.k (.d (.dat 27))) false,.var 3 (.k (.d (.int .i64))) false],[.k (.d (.bool))],b40⟩
theorem b8u:RK (b6D) :=
 okR [] 13 b87 [.tmp 4] Go.Proofs.Tryz.func227 (by kernel_rfl)
def b9d:Row I:=⟨201,[.d (.dat 27),.d (.sl 3),.d (.int .i64)],[.k (.d (.bool))],a4h⟩
theorem c1a:RK (b9d) :=
 okR [eR V6,eR b8u] 10 Y2 [.tmp 6] Go.Proofs.Tryz.func201 (by kernel_rfl)
def b7N:Hints I:=mkH [(5,[[],[0],[],[0,1,2],[0,1,2,3],[0,1,2,3,4],[],[0,1,2,3,4,5,6],[0,1,2,3,4,5,6,7],[0,1,2,3,4,5,6,7,8],[0,1,2,3,4,5,6,7,8],[0,1,2,3,4,5,6,7,8,10],[0,1,2,3,4,5,6,7,8],[0,1,2,3,4,5,6,7,8,10,11,12],[0,1,2,3,4,5,6,7,8,10,11,12,13],[0,1,2,3,4,5,6,7,8,9,10,11,12,13,14],[0,1,2,3,4,5,6,7,8,9,10,11,12,13,14,15]])] [] [] [] [(58,⟨1099511613952,[],[],[(9,.k (.row 3 false)),(14,.k (.d (.int .i64)))],[((.exit 0),[(9,.k (.row 3 false))])],bnd tb (.slot 13) 1⟩)] [] [] []
def b5G:Row I:=⟨202,[.d (.dat 237),.d (.dat 27),.d (.sl 3),.d (.int .i64)],[.k (.row 3 false)],a7Q⟩
theorem b6j:RK (b5G) :=
 okR [eR a6n] 41 b7N [.tmp 8] Go.Proofs.Tryz.func202 (by kernel_rfl)
def c00 (_:Nat):Hints I:=mkH [(8,[[],[],[1],[1,2],[1,2,3],[0],[0,1,2,3,4,5]]),(11,[[],[],[],[2],[1,2,3],[1,2,3,4],[1,2,3,4,5],[1,2,3,4,5,6],[1,2,3,4,5,6,7],[1,2,3,4,5,6,7,8],[1,2,3,4,5,6,7,8,9],[1,2,3,4,5,6,7,8,9,10],[1,2,3,4,5,6,7,8,9,10,11],[1,2,3,4,5,6,7,8,9,10,11,12],[1,2,3,4,5,6,7,8,9,10,11,12,13],[1,2,3,4,5,6,7,8,9,10,11,12,13,14],[1,2,3,4,5,6,7,8,9,10,11,12,13,14,15],[1,2,3,4,5,6,7,8,9,10,11,12,13,14,15,16],[0,1,2,3,4,5,6,7,8,9,10],[0,1,2,3,4,5,6,7,8,9,10,11,12,13,14,15,16,17,18]]),(14,[[],[],[],[2],[1,2,3],[1,2,3,4],[1,2,3,4,5],[1,2,3,4,5,6],[1,2,3,4,5,6,7],[1,2,3,4,5,6,7,8],[1,2,3,4,5,6,7,8,9],[1,2,3,4,5,6,7,8,9,10],[1,2,3,4,5,6,7,8,9,10,11],[1,2,3,4,5,6,7,8,9,10,11,12],[1,2,3,4,5,6,7,8,9,10,11,12,13],[1,2,3,4,5,6,7,8,9,10,11,12,13,14],[1,2,3,4,5,6,7,8,9,10,11,12,13,14,15],[1,2,3,4,5,6,7,8,9,10,11,12,13,14,15,16],[0,1,2,3,4,5,6,7,8,9,10],[0,1,2,3,4,5,6,7,8,9,10,11,12,13,14,15,16,17,18]]),(16,[[],[],[],[2],[1,2,3],[1,2,3,4],[0,1,2,3,4],[0,1,2,3,4,5,6]]),(18,[[],[],[],[2],[1,2,3],[1,2,3,4],[0,1,2,3,4],[0,1,2,3,4,5,6]]),(27,[[],[],[],[2],[],[0,1,2,3,4],[],[],[],[8],[],[0,1,2,3,4,5,6,7,8,9,10],[0,1,2,3,4,5],[0,1,2,3,4,5,6,7,8,9,10,11,12],[0,1,2,3,4,5,6,7,8,9,10,11,12,13],[0,1,2,3,4,5,6,7,8,9,10,11,12,13,14]]),(28,[[],[],[1],[1,2],[1,2,3],[1,2,3],[1,2,3,5],[1,2,3],[1,2,3,4,5,6,7],[1,2,3,4,5,6,7,8],[1,2,3,4,5,6,7,8,9],[0,1,2,3,4,5,6,7,8],[0,1,2,3,4,5,6,7,8,9,10,11]])] [(11,[47,51]),(14,[71,75]),(28,[124])] [] [(125,⟨162259276829213363391577993512576,[],[(6,.lvs [.d (.int .i64),.d (.int .i64),.d (.sl 56),.d (.bool),.d (.sl 9),.d (.sl 3),.d (.sl 3),.d (.sl 9),.d (.sl 9)]),(8,.lvs [.d (.int .i64),.d (.int .i64),.d (.sl 56),.d (.bool),.d (.sl 9),.d (.sl 3),.d (.sl 3),.d (.sl 9),.d (.sl 9)])],[(.normal,[(9,.k (.d (.int .i64))),(10,.k (.d (.int .i64)))]),(.ret,[(7,.k (.d (.bool)))])]⟩)] [] [] [] []
noncomputable def b7O (n:Nat):Row I:=⟨174,[.d (.dat 27),.d (.dat 100),.d (.dat 237)],[.k (.d (.dat 216)),.k (.d (.bool))],b6A n⟩
theorem b9f (n:Nat):RK (b7O n) :=
 okR [eR b4m,eR b9n,eR (b7W n),eR c1a,eR b6j] 132 (c00 n) [.cell 6 216,.tmp 7] Go.Proofs.Tryz.func174 (by kernel_rfl)
def b86 (_:Nat):Hints I:=mkH [(7,[[],[],[1],[0,1,2],[],[],[5],[0,1,2,3,4,5,6],[0,1,2,3,4,5,6,7],[0,1,2,3,4,5,6,7,8]])] [] [] [] [(122,⟨37778931862957027507104,[25],[],[(5,.k (.row 216 false)),(27,.k (.d (.int .i64)))],[((.exit 0),[(5,.k (.row 216 false))])],bnd tb (.slot 26) 1⟩),
 (125342,⟨18889463679678767183904,[49],[],[(5,.k (.row 216 false)),(51,.k (.d (.int .i64)))],[((.exit 2),[(5,.k (.row 216 false))])],bnd tb (.slot 50) 1⟩)] [] [] []
noncomputable def b7b (n:Nat):Row I:=⟨155,[.d (.dat 27),.d (.dat 100)],[.k (.row 216 false)],b4S n⟩
theorem b7F (n:Nat):RK (b7b n) :=
 okR [eR (X9 n),eR b0p,eR (b3c n),eR b83,eR a3Y,eR b1U,eR b9o,eR (b9f n),eR b2P] 76 (b86 n) [.tmp 4] Go.Proofs.Tryz.func155 (by kernel_rfl)
def b0k:Row I:=⟨228,[.d (.int .i64)],[.k (.d (.int .u64))],a0T⟩
theorem b1n:RK (b0k) :=
 okR [] 10 Y2 [.tmp 2] Go.Proofs.Tryz.func228 (by kernel_rfl)
def b57:Hints I:=mkH [] [] [] [] [(58,⟨562949953419696,[],[],[(4,.k (.d (.int .i64))),(5,.k (.d (.bool))),(11,.k (.d (.int .i64)))],[((.exit 0),[(4,.k (.d (.int .i64))),(5,.k (.d (.bool)))])],bnd tb (.slot 10) 1⟩)] [] [] []
def b2y:Row I:=⟨203,[.d (.sl 56)],[.k (.d (.int .i64)),.k (.d (.bool))],a9C⟩
theorem b4f:RK (b2y) :=
 okR [eR b1n] 51 b57 [.tmp 2,.tmp 3] Go.Proofs.Tryz.func203 (by kernel_rfl)
def b7V:Hints I:=mkH [] [] [] [] [(58,⟨1073739840,[],[],[(5,.k (.row 5 false)),(11,.k (.d (.int .i64)))],[((.exit 0),[(5,.k (.row 5 false))])],bnd tb (.slot 10) 1⟩)] [] [] []
def b59:Row I:=⟨263,[.d (.int .i64),.d (.int .i64)],[.k (.row 5 false)],a3j⟩
theorem a8i:RK (b59) :=
 okR [] 31 b7V [.tmp 4] Go.Proofs.Tryz.func263 (by kernel_rfl)
def b1I:Row I:=⟨283,[.d (.int .i64),.d (.int .i64),.d (.int .u8)],[.k (.d (.int .u8)),.k (.d (.bool))],a8j⟩
theorem b2n:RK (b1I) :=
 okR [] 33 Y2 [.tmp 6,.tmp 7] Go.Proofs.Tryz.func283 (by kernel_rfl)
def c1k:Hints I:=mkH [] [] [] [] [(58,⟨8796092957136,[],[],[(1,.k (.row 5 false)),(5,.k (.row 5 false)),(6,.k (.d (.int .i64)))],[((.exit 0),[(1,.k (.row 5 false)),(5,.k (.row 5 false))]),(.ret,[(4,.k (.row 5 false))])],bnd tb (.slot 6) 2⟩)] [] [] []
def b8o:Row I:=⟨264,[.d (.int .i64),.row 5 false],[.k (.row 5 false)],b6S⟩
theorem b9l:RK (b8o) :=
 okR [eR a8i,eR b2n] 48 c1k [.tmp 4] Go.Proofs.Tryz.func264 (by kernel_rfl)
def b5J (n:Nat):Hints I:=mkH [] [] [] [(253,⟨103079215360,[],[],[(.normal,[(8,.k (.row 5 false))])]⟩)] [(122,⟨2146959488,[],[],[(5,.k (.map 254 (.bool))),(19,.k (.d (.int .i64)))],[((.exit 0),[(5,.k (.map 254 (.bool)))])],bnd tb (.slot 18) 1⟩),
 (508,⟨17454747091200,[],[],[(8,.k (.row 5 false))],[((.exit 2),[(8,.k (.row 5 false))])],fun _=>some n⟩)] [] [] []
def b3f (n:Nat):Row I:=⟨229,[.d (.int .i64),.d (.sl 126)],[.k (.d (.dat 126))],a5m n⟩
theorem a6t (n:Nat):RK (b3f n) :=
 okR [eR a8i,eR b9l] 48 (b5J n) [.cell 4 126] Go.Proofs.Tryz.func229 (by kernel_rfl)
def b1t:Row I:=⟨230,[.d (.str),.d (.str)],[.k (.d (.int .i64))],a7t⟩
theorem b1Z:RK (b1t) :=
 okR [eR a5W,eR a5T] 17 Y2 [.tmp 4] Go.Proofs.Tryz.func230 (by kernel_rfl)
def b49 (_:Nat):Hints I:=mkH [] [] [] [] [(122,⟨17171480896,[],[],[(6,.k (.row 126 false)),(23,.k (.d (.int .i64)))],[((.exit 0),[(6,.k (.row 126 false))])],bnd tb (.slot 22) 1⟩),
 (1018,⟨73786905926094040064,[44],[],[(10,.k (.d (.str))),(11,.k (.d (.bool))),(46,.k (.d (.int .i64)))],[((.exit 2),[(10,.k (.d (.str))),(11,.k (.d (.bool)))])],bnd tb (.slot 45) 1⟩)] [] [] []
def b2W (n:Nat):Row I:=⟨204,[.d (.dat 214),.d (.int .i64)],[.k (.d (.str)),.k (.d (.bool))],a9N n⟩
theorem b4o (n:Nat):RK (b2W n) :=
 okR [eR (a6t n),eR a6h,eR b1Z] 68 (b49 n) [.tmp 4,.tmp 5] Go.Proofs.Tryz.func204 (by kernel_rfl)
def b8k:Hints I:=mkH [] [] [] [] [(58,⟨576460752303396608,[],[],[(10,.k (.row 36 false)),(15,.k (.d (.int .i64)))],[((.exit 0),[(10,.k (.row 36 false))]),(.ret,[(8,.k (.row 36 false)),(9,.k (.d (.bool)))])],bnd tb (.slot 14) 1⟩)] [] [] []
def b6b:Row I:=⟨231,[.d (.dat 27),.d (.sl 3),.d (.int .i64),.d (.int .i64)],[.k (.row 36 false),.k (.d (.bool))],a4O⟩
theorem b6Q:RK (b6b) :=
 okR [] 60 b8k [.tmp 8,.tmp 9] Go.Proofs.Tryz.func231 (by kernel_rfl)
def a5N:Hints I:=mkH [] [] [] [] [(26,⟨524080,[],[],[(8,.k (.d (.int .i64)))],[((.exit 0),[]),(.ret,[(4,.k (.d (.int .i64)))])],bnd tb (.slot 7) 1⟩)] [] [] []
def a40:Row I:=⟨297,[.d (.sl 36),.fn [.sl 3] [.k (.d (.bool))]],[.k (.d (.int .i64))],a2K⟩
theorem a5u:RK (a40) :=
 okR [] 19 a5N [.tmp 4] Go.Proofs.Tryz.func297 (by kernel_rfl)
def a36:Row I:=⟨284,[.d (.sl 36),.fn [.sl 3] [.k (.d (.bool))]],[.k (.d (.bool))],a13⟩
theorem a4l:RK (a36) :=
 okR [eR a5u] 9 Y2 [.tmp 4] Go.Proofs.Tryz.func284 (by kernel_rfl)
def b3h:Row I:=⟨285,[.d (.sl 3),.var 3 (.k (.d (.int .i64))) false],[.k (.d (.bool))],a9R⟩
theorem b4G:RK (b3h) :=
 okR [] 8 Y2 [.tmp 3] Go.Proofs.Tryz.func285 (by kernel_rfl)
def b5M:Row I:=⟨265,[.d (.int .i64),.d (.sl 36)],[.k (.d (.bool))],a4I⟩
theorem b6V:RK (b5M) :=
 okR [eR a4l,eR b4G] 9 Y2 [.tmp 4] Go.Proofs.Tryz.func265 (by kernel_rfl)
def b8X:Hints I:=mkH [(9,[[],[0],[],[],[2,3],[2,3,4],[2,3,4,5],[0,1,2,3,4,5,6],[0,1,2,3,4,5,6,7],[0,1,2,3,4,5,6,7,8]]),(14,[[],[],[0,1],[0,1,2],[],[],[4,5],[4,5,6],[0,1,2,3,4,5,6,7],[0,1,2,3,4,5,6,7,8],[],[0,1,2,3,4,5,6,7,8,9,10]]),(15,[[],[0],[],[],[2,3],[2,3,4],[2,3,4,5],[0,1,2,3,4,5,6],[0,1,2,3,4,5,6,7],[0,1,2,3,4,5,6,7,8]]),(19,[[],[0],[],[2],[2,3],[0,1,2,3,4],[0,1,2,3,4,5],[0,1,2,3,4,5,6]])] [] [] [] [(58,⟨4835703278458516698261504,[],[(10,.lvs [.row 100 false]),(12,.lvs [.row 100 false])],[(20,.k (.d (.int .i64)))],[((.exit 0),[]),(.ret,[(11,.k (.d (.bool))),(1000012,.lvs [.d (.any)])])],bnd tb (.slot 19) 1⟩),
 (59802,⟨549722324992,[],[(14,.lvs [.row 3 false,.row 3 false,.d (.bool)])],[(25,.k (.d (.int .i64)))],[((.exit 2),[])],bnd tb (.slot 24) 1⟩),
 (119610,⟨295147902980329963520,[],[(14,.lvs [.row 3 false,.row 3 false,.d (.bool)])],[(41,.k (.d (.int .i64)))],[((.exit 4),[])],bnd tb (.slot 40) 1⟩)] [] [] []
def b6U:Row I:=⟨266,[.d (.int .i64),.d (.sl 36),.d (.sl 36),.d (.sl 36),.bor 3],[.lvs [.row 100 false],.k (.d (.bool))],a9c⟩
theorem b7K:RK (b6U) :=
 okR [eR a3Y,eR a1f] 83 b8X [.cell 10 273,.tmp 11] Go.Proofs.Tryz.func266 (by kernel_rfl)
def b4D:Hints I:=mkH [(5,[[],[],[0,1],[0,1,2],[],[],[4,5],[4,5,6],[4,5,6,7],[0,1,2,3,4,5,6,7,8]])] [] [] [] [] [(26,⟨2147483440,0,.row 3,[(8,.k (.d (.int .i64)))],[((.exit 0),[]),(.ret,[(4,.k (.d (.bool)))])],bnd tb (.slot 7) 1,0⟩)] [] []
def b2d:Rio I:=⟨267,3,[.d (.sl 36)],[.k (.d (.bool))],a4q⟩
theorem b2r:RO (b2d) :=
 okO [] 31 b4D [.tmp 4] Go.Proofs.Tryz.func267 (by kernel_rfl)
def tyM (B:Nat):List TE:=[⟨2,Int,rpK .i64⟩,
 ⟨3,Int,rpK .i64⟩,
 ⟨4,Bool,rpBool⟩,
 ⟨5,Int,rpK .u8⟩,
 ⟨9,ByteArray,rpStr⟩,
 ⟨22,List ByteArray,@rpList _ (rpStr)⟩,
 ⟨25,List Api_TypeNode,@rpList _ (J0)⟩,
 ⟨27,Api_Type,J1⟩,
 ⟨36,List Int,@rpList _ (rpK .i64)⟩,
 ⟨38,List Val,@rpList _ (rpVal)⟩,
 ⟨39,List Key,@rpList _ (rpKey)⟩,
 ⟨40,List Ent,@rpList _ (rpEnt)⟩,
 ⟨42,Val,rpVal⟩,
 ⟨51,Api_Constraint,a0k⟩,
 ⟨56,Api_Range,W2⟩,
 ⟨57,List Api_Range,@rpList _ (W2)⟩,
 ⟨61,Api_Binding,a1d⟩,
 ⟨64,List Api_Field,@rpList _ (W6)⟩,
 ⟨65,Int×Int,k9 (rpK .i64) (rpK .i64)⟩,
 ⟨67,Api_TypeNode,J0⟩,
 ⟨100,Api_Goal,j6⟩,
 ⟨120,Ent,rpEnt⟩,
 ⟨126,Key,rpKey⟩,
 ⟨128,Api_Field,W6⟩,
 ⟨184,List Api_Goal,@rpList _ (j6)⟩,
 ⟨188,List Api_Form,@rpList _ (X7)⟩,
 ⟨190,Api_Alternative,Q7⟩,
 ⟨191,List (List Api_EntryForm),@rpList _ (@rpList _ (Q0))⟩,
 ⟨193,Solve_Way,a1Z⟩,
 ⟨214,Api_Names,K8⟩,
 ⟨216,Api_Line,a2z⟩,
 ⟨219,List Api_EntryForm,@rpList _ (Q0)⟩,
 ⟨224,Api_EntryForm,Q0⟩,
 ⟨237,Core_Sort,a1Y⟩,
 ⟨252,Core_pair,a11⟩,
 ⟨273,Api_Box,@b3I Api_Box Api_Goal j6 B a0W⟩,
 ⟨296,Api_Goal×Api_Goal,k9 (j6) (j6)⟩,
 ⟨297,List Api_SomeKey,@rpList _ (J9)⟩,
 ⟨299,Api_Shape,a18⟩,
 ⟨302,Api_SomeKey,J9⟩,
 ⟨320,Literals_normal,a0b⟩,
 ⟨336,Record_place,a0L⟩,
 ⟨338,Api_Form,X7⟩]
abbrev J (B:Nat)(E:TypeId):Type:=(a4o (tyM B) E).α
instance rJ (B:Nat) (E:TypeId):Rp (J B E):=(a4o (tyM B) E).rp
def a4Y (B:Nat):Fd (J B) (J B 27) inferInstance:=(Y9 (rg:=J1) (j5 (w9 67:Fd (J B) (List Api_TypeNode) (@rpList _ (J0))) ((Y8 .i64:Fd (J B) Int (rpK .i64)))) a9i b4Z (fun _=>rfl) (fun _ _ _=>Iff.rfl):Fd (J B) Api_Type J1)
def b8p (B:Nat):Fd (J B) (J B 42) inferInstance:=(Y9 (rg:=rpVal) (j5 (Y8 .i64:Fd (J B) Int (rpK .i64)) (j5 (Y8 .i64:Fd (J B) Int (rpK .i64)) (j5 (a5B:Fd (J B) ByteArray (rpStr)) (j5 (w9 42:Fd (J B) (List Val) (@rpList _ (rpVal))) (j5 (w9 126:Fd (J B) (List Key) (@rpList _ (rpKey))) (j5 (w9 120:Fd (J B) (List Ent) (@rpList _ (rpEnt))) ((w9 9:Fd (J B) (List ByteArray) (@rpList _ (rpStr)))))))))) Val.to Val.of (fun _=>rfl) Val.cells_to:Fd (J B) Val rpVal)
def b3l (B:Nat):Fd (J B) (J B 51) inferInstance:=(Y9 (rg:=a0k) (j5 (K9 27 (a4Y B):Fd (J B) Api_Type (J1)) ((K9 27 (a4Y B):Fd (J B) Api_Type (J1)))) a3y a6m (fun _=>rfl) (fun _ _ _=>Iff.rfl):Fd (J B) Api_Constraint a0k)
def b85 (B:Nat):Fd (J B) (J B 56) inferInstance:=(Y9 (rg:=W2) (j5 (Y8 .i64:Fd (J B) Int (rpK .i64)) ((Y8 .i64:Fd (J B) Int (rpK .i64)))) a7e b2T (fun _=>rfl) (fun _ _ _=>Iff.rfl):Fd (J B) Api_Range W2)
def b6L (B:Nat):Fd (J B) (J B 61) inferInstance:=(Y9 (rg:=a1d) (j5 (a5B:Fd (J B) ByteArray (rpStr)) ((K9 27 (a4Y B):Fd (J B) Api_Type (J1)))) a5g a9t (fun _=>rfl) (fun _ _ _=>Iff.rfl):Fd (J B) Api_Binding a1d)
def c1Q (B:Nat):Fd (J B) (J B 65) inferInstance:=(j5 (Y8 .i64:Fd (J B) Int (rpK .i64)) ((Y8 .i64:Fd (J B) Int (rpK .i64))):Fd (J B) (Int×Int) (k9 (rpK .i64) (rpK .i64)))
def b5u (B:Nat):Fd (J B) (J B 67) inferInstance:=(Y9 (rg:=J0) (j5 (Y8 .i64:Fd (J B) Int (rpK .i64)) (j5 (Y8 .i64:Fd (J B) Int (rpK .i64)) (j5 (Y8 .i64:Fd (J B) Int (rpK .i64)) (j5 (a5B:Fd (J B) ByteArray (rpStr)) (j5 (w9 3:Fd (J B) (List Int) (@rpList _ (rpK .i64))) (j5 (w9 128:Fd (J B) (List Api_Field) (@rpList _ (W6))) ((K9 65 (c1Q B):Fd (J B) (Int×Int) (k9 (rpK .i64) (rpK .i64)))))))))) a4p a8C (fun _=>rfl) (fun _ _ _=>Iff.rfl):Fd (J B) Api_TypeNode J0)
def a27 (B:Nat):Fd (J B) (J B 100) inferInstance:=(Y9 (rg:=j6) (j5 (w9 3:Fd (J B) (List Int) (@rpList _ (rpK .i64))) (j5 (w9 3:Fd (J B) (List Int) (@rpList _ (rpK .i64))) ((a0V:Fd (J B) Bool (rpBool))))) a8G b4T (fun _=>rfl) (fun _ _ _=>Iff.rfl):Fd (J B) Api_Goal j6)
def c6H (B:Nat):Fd (J B) (J B 120) inferInstance:=(Y9 (rg:=rpEnt) (j5 (w9 42:Fd (J B) (List Val) (@rpList _ (rpVal))) (j5 (a0V:Fd (J B) Bool (rpBool)) ((K9 42 (b8p B):Fd (J B) Val (rpVal))))) Ent.to Ent.of (fun _=>rfl) Ent.cells_to:Fd (J B) Ent rpEnt)
def c1X (B:Nat):Fd (J B) (J B 126) inferInstance:=(Y9 (rg:=rpKey) (j5 (Y8 .i64:Fd (J B) Int (rpK .i64)) ((a5B:Fd (J B) ByteArray (rpStr)))) Key.to Key.of (fun _=>rfl) Key.cells_to:Fd (J B) Key rpKey)
def b9p (B:Nat):Fd (J B) (J B 128) inferInstance:=(Y9 (rg:=W6) (j5 (K9 126 (c1X B):Fd (J B) Key (rpKey)) (j5 (Y8 .i64:Fd (J B) Int (rpK .i64)) ((a0V:Fd (J B) Bool (rpBool))))) a7R b2I (fun _=>rfl) (fun _ _ _=>Iff.rfl):Fd (J B) Api_Field W6)
def a47 (B:Nat):Fd (J B) (J B 190) inferInstance:=(Y9 (rg:=Q7) (j5 (K9 42 (b8p B):Fd (J B) Val (rpVal)) (j5 (w9 126:Fd (J B) (List Key) (@rpList _ (rpKey))) (j5 (w9 338:Fd (J B) (List Api_Form) (@rpList _ (X7))) ((w9 100:Fd (J B) (List Api_Goal) (@rpList _ (j6))))))) a24 a5Y (fun _=>rfl) (fun _ _ _=>Iff.rfl):Fd (J B) Api_Alternative Q7)
def b9c (B:Nat):Fd (J B) (J B 193) inferInstance:=(Y9 (rg:=a1Z) (j5 (K9 190 (a47 B):Fd (J B) Api_Alternative (Q7)) ((w9 219:Fd (J B) (List (List Api_EntryForm)) (@rpList _ (@rpList _ (Q0)))))) a7b b3e (fun _=>rfl) (fun _ _ _=>Iff.rfl):Fd (J B) Solve_Way a1Z)
def a58 (B:Nat):Fd (J B) (J B 214) inferInstance:=(Y9 (rg:=K8) (j5 (a0V:Fd (J B) Bool (rpBool)) ((w9 9:Fd (J B) (List ByteArray) (@rpList _ (rpStr))))) a68 b2z (fun _=>rfl) (fun _ _ _=>Iff.rfl):Fd (J B) Api_Names K8)
def c0s (B:Nat):Fd (J B) (J B 216) inferInstance:=(Y9 (rg:=a2z) (j5 (Y8 .i64:Fd (J B) Int (rpK .i64)) (j5 (Y8 .i64:Fd (J B) Int (rpK .i64)) (j5 (w9 56:Fd (J B) (List Api_Range) (@rpList _ (W2))) (j5 (K9 214 (a58 B):Fd (J B) Api_Names (K8)) (j5 (w9 3:Fd (J B) (List Int) (@rpList _ (rpK .i64))) (j5 (w9 3:Fd (J B) (List Int) (@rpList _ (rpK .i64))) (j5 (w9 9:Fd (J B) (List ByteArray) (@rpList _ (rpStr))) ((w9 9:Fd (J B) (List ByteArray) (@rpList _ (rpStr))))))))))) a9j b4P (fun _=>rfl) (fun _ _ _=>Iff.rfl):Fd (J B) Api_Line a2z)
def b4p (B:Nat):Fd (J B) (J B 224) inferInstance:=(Y9 (rg:=Q0) (j5 (w9 100:Fd (J B) (List Api_Goal) (@rpList _ (j6))) (j5 (a0V:Fd (J B) Bool (rpBool)) ((K9 100 (a27 B):Fd (J B) Api_Goal (j6))))) a3Z a6U (fun _=>rfl) (fun _ _ _=>Iff.rfl):Fd (J B) Api_EntryForm Q0)
def b9g (B:Nat):Fd (J B) (J B 237) inferInstance:=(Y9 (rg:=a1Y) (j5 (Y8 .i64:Fd (J B) Int (rpK .i64)) ((Y8 .i64:Fd (J B) Int (rpK .i64)))) a7c b3p (fun _=>rfl) (fun _ _ _=>Iff.rfl):Fd (J B) Core_Sort a1Y)
def b9q (B:Nat):Fd (J B) (J B 252) inferInstance:=(Y9 (rg:=a11) (j5 (w9 3:Fd (J B) (List Int) (@rpList _ (rpK .i64))) (j5 (w9 3:Fd (J B) (List Int) (@rpList _ (rpK .i64))) (j5 (w9 3:Fd (J B) (List Int) (@rpList _ (rpK .i64))) ((w9 3:Fd (J B) (List Int) (@rpList _ (rpK .i64))))))) a7y b3s (fun _=>rfl) (fun _ _ _=>Iff.rfl):Fd (J B) Core_pair a11)
def c1x (B:Nat):Fd (J B) (J B 273) inferInstance:=(c74 (I:=J B) (G:=100) B a0W:Fd (J B) Api_Box (@b3I Api_Box Api_Goal j6 B a0W))
def c0U (B:Nat):Fd (J B) (J B 296) inferInstance:=(j5 (K9 100 (a27 B):Fd (J B) Api_Goal (j6)) ((K9 100 (a27 B):Fd (J B) Api_Goal (j6))):Fd (J B) (Api_Goal×Api_Goal) (k9 (j6) (j6)))
def b9s (B:Nat):Fd (J B) (J B 299) inferInstance:=(Y9 (rg:=a18) (j5 (w9 126:Fd (J B) (List Key) (@rpList _ (rpKey))) (j5 (w9 3:Fd (J B) (List Int) (@rpList _ (rpK .i64))) (j5 (w9 100:Fd (J B) (List Api_Goal) (@rpList _ (j6))) (j5 (K9 296 (c0U B):Fd (J B) (Api_Goal×Api_Goal) (k9 (j6) (j6))) ((w9 302:Fd (J B) (List Api_SomeKey) (@rpList _ (J9)))))))) a7z b2w (fun _=>rfl) (fun _ _ _=>Iff.rfl):Fd (J B) Api_Shape a18)
def b7m (B:Nat):Fd (J B) (J B 302) inferInstance:=(Y9 (rg:=J9) (j5 (Y8 .i64:Fd (J B) Int (rpK .i64)) ((K9 100 (a27 B):Fd (J B) Api_Goal (j6)))) a5d a9U (fun _=>rfl) (fun _ _ _=>Iff.rfl):Fd (J B) Api_SomeKey J9)
def b1H (B:Nat):Fd (J B) (J B 320) inferInstance:=(Y9 (rg:=a0b) ((K9 214 (a58 B):Fd (J B) Api_Names (K8))) a3c a5U (fun _=>rfl) (fun _ _ _=>Iff.rfl):Fd (J B) Literals_normal a0b)
def b43 (B:Nat):Fd (J B) (J B 336) inferInstance:=(Y9 (rg:=a0L) (j5 (Y8 .i64:Fd (J B) Int (rpK .i64)) (j5 (a0V:Fd (J B) Bool (rpBool)) ((Y8 .i64:Fd (J B) Int (rpK .i64))))) a4s a8z (fun _=>rfl) (fun _ _ _=>Iff.rfl):Fd (J B) Record_place a0L)
def c08 (B:Nat):Fd (J B) (J B 338) inferInstance:=(Y9 (rg:=X7) (j5 (w9 3:Fd (J B) (List Int) (@rpList _ (rpK .i64))) (j5 (a0V:Fd (J B) Bool (rpBool)) ((Y8 .i64:Fd (J B) Int (rpK .i64))))) a8Z b4Y (fun _=>rfl) (fun _ _ _=>Iff.rfl):Fd (J B) Api_Form X7)
def feM (B:Nat):List (FE (J B)):=[⟨2,Y8 .i64⟩,
 ⟨3,Y8 .i64⟩,
 ⟨4,a0V⟩,
 ⟨5,Y8 .u8⟩,
 ⟨9,a5B⟩,
 ⟨22,w9 9⟩,
 ⟨25,w9 67⟩,
 ⟨27,(a4Y B)⟩,
 ⟨36,w9 3⟩,
 ⟨38,w9 42⟩,
 ⟨39,w9 126⟩,
 ⟨40,w9 120⟩,
 ⟨42,(b8p B)⟩,
 ⟨51,(b3l B)⟩,
 ⟨56,(b85 B)⟩,
 ⟨57,w9 56⟩,
 ⟨61,(b6L B)⟩,
 ⟨64,w9 128⟩,
 ⟨65,(c1Q B)⟩,
 ⟨67,(b5u B)⟩,
 ⟨100,(a27 B)⟩,
 ⟨120,(c6H B)⟩,
 ⟨126,(c1X B)⟩,
 ⟨128,(b9p B)⟩,
 ⟨184,w9 100⟩,
 ⟨188,w9 338⟩,
 ⟨190,(a47 B)⟩,
 ⟨191,w9 219⟩,
 ⟨193,(b9c B)⟩,
 ⟨214,(a58 B)⟩,
 ⟨216,(c0s B)⟩,
 ⟨219,w9 224⟩,
 ⟨224,(b4p B)⟩,
 ⟨237,(b9g B)⟩,
 ⟨252,(b9q B)⟩,
 ⟨273,(c1x B)⟩,
 ⟨296,(c0U B)⟩,
 ⟨297,w9 302⟩,
 ⟨299,(b9s B)⟩,
 ⟨302,(b7m B)⟩,
 ⟨320,(b1H B)⟩,
 ⟨336,(b43 B)⟩,
 ⟨338,(c08 B)⟩]
def c7J (B:Nat):TabL (J B) where
 lo:=B
 sz:=[(27,2),(51,4),(56,2),(61,3),(65,2),(67,8),(100,3),(126,2),(128,4),(168,2),(190,10),(193,11),(214,2),(216,9),(224,5),(237,2),(252,4),(273,1),(299,10),(302,4),(320,2),(336,3)]
 one:=[(2,()),(3,()),(4,()),(5,()),(9,()),(22,()),(25,()),(36,()),(39,()),(57,()),(62,()),(64,()),(106,()),(151,()),(166,()),(184,()),(191,()),(219,()),(293,()),(297,()),(330,()),(331,())]
 fld:=[(27,[(0,25),(1,3)]),(42,[(0,3),(1,2),(2,9),(3,38),(4,39),(5,40),(6,22)]),(51,[(0,27),(2,27)]),(56,[(0,2),(1,2)]),(61,[(0,9),(1,27)]),(67,[(0,3),(1,2),(2,2),(3,9),(4,36),(5,64),(6,65)]),(100,[(0,36),(1,36),(2,4)]),(126,[(0,3),(1,9)]),(128,[(0,126),(2,3),(3,4)]),(168,[(0,166),(1,106)]),(190,[(0,42),(7,39),(8,188),(9,184)]),(193,[(0,190),(10,191)]),(214,[(0,4),(1,22)]),(216,[(0,3),(1,3),(2,57),(3,214),(5,36),(6,36),(7,22),(8,22)]),(224,[(0,184),(1,4),(2,100)]),(237,[(0,3),(1,3)]),(252,[(0,36),(1,36),(2,36),(3,36)]),(273,[(0,184)]),(299,[(0,39),(1,36),(2,184),(3,296),(9,297)]),(302,[(0,3),(1,100)]),(320,[(0,214)]),(336,[(0,3),(1,4),(2,3)])]
 el:=[(22,9),(24,27),(25,67),(29,36),(36,3),(39,126),(45,51),(57,56),(62,61),(64,128),(184,100),(185,193),(191,219),(198,5),(211,216),(217,190),(219,224),(234,237),(253,252),(269,273),(293,299),(297,302),(330,336)]
 str:=[(9,())]
 bool:=[]
 ik:=[(2,.i64),(3,.i64),(5,.u8),(135,.u64),(165,.u64)]
 fe:=(feM B)
 inf:=[(2,1,8,[.int .i64 0]),(3,1,8,[.int .i64 0]),(4,1,1,[.bool false]),(5,1,1,[.int .u8 0]),(9,1,16,[.str ⟨#[]⟩]),(22,1,24,[.nl 9]),(27,2,32,[.nl 67,.int .i64 0]),(36,1,24,[.nl 3]),(39,1,24,[.nl 126]),(42,7,128,[.int .i64 0,.int .i64 0,.str ⟨#[]⟩,.nl 42,.nl 126,.nl 120,.nl 9]),(51,4,64,[.nl 67,.int .i64 0,.nl 67,.int .i64 0]),(56,2,16,[.int .i64 0,.int .i64 0]),(57,1,24,[.nl 56]),(61,3,48,[.str ⟨#[]⟩,.nl 67,.int .i64 0]),(64,1,24,[.nl 128]),(65,2,16,[.int .i64 0,.int .i64 0]),(67,8,104,[.int .i64 0,.int .i64 0,.int .i64 0,.str ⟨#[]⟩,.nl 3,.nl 128,.int .i64 0,.int .i64 0]),(100,3,56,[.nl 3,.nl 3,.bool false]),(126,2,24,[.int .i64 0,.str ⟨#[]⟩]),(128,4,40,[.int .i64 0,.str ⟨#[]⟩,.int .i64 0,.bool false]),(151,1,8,[.any]),(168,2,16,[.any,.any]),(184,1,24,[.nl 100]),(185,1,24,[.nl 193]),(190,10,200,[.int .i64 0,.int .i64 0,.str ⟨#[]⟩,.nl 42,.nl 126,.nl 120,.nl 9,.nl 126,.nl 338,.nl 100]),(193,11,224,[.int .i64 0,.int .i64 0,.str ⟨#[]⟩,.nl 42,.nl 126,.nl 120,.nl 9,.nl 126,.nl 338,.nl 100,.nl 219]),(214,2,32,[.bool false,.nl 9]),(216,9,168,[.int .i64 0,.int .i64 0,.nl 56,.bool false,.nl 9,.nl 3,.nl 3,.nl 9,.nl 9]),(219,1,24,[.nl 224]),(224,5,88,[.nl 100,.bool false,.nl 3,.nl 3,.bool false]),(237,2,16,[.int .i64 0,.int .i64 0]),(252,4,96,[.nl 3,.nl 3,.nl 3,.nl 3]),(273,1,24,[.nl 100]),(293,1,24,[.nl 299]),(297,1,24,[.nl 302]),(299,10,208,[.nl 126,.nl 3,.nl 100,.nl 3,.nl 3,.bool false,.nl 3,.nl 3,.bool false,.nl 302]),(302,4,64,[.int .i64 0,.nl 3,.nl 3,.bool false]),(320,2,32,[.bool false,.nl 9]),(330,1,24,[.nl 336]),(331,1,8,[.any]),(336,3,24,[.int .i64 0,.bool false,.int .i64 0])]
 st:=[(27,[(0,1),(1,1)]),(42,[(0,1),(1,1),(2,1),(3,1),(4,1),(5,1),(6,1)]),(51,[(0,2),(2,2)]),(56,[(0,1),(1,1)]),(61,[(0,1),(1,2)]),(65,[(0,1),(1,1)]),(67,[(0,1),(1,1),(2,1),(3,1),(4,1),(5,1),(6,2)]),(100,[(0,1),(1,1),(2,1)]),(126,[(0,1),(1,1)]),(168,[(0,1),(1,1)]),(190,[(0,7),(7,1),(8,1),(9,1)]),(193,[(0,10),(10,1)]),(214,[(0,1),(1,1)]),(216,[(0,1),(1,1),(2,1),(3,2),(5,1),(6,1),(7,1),(8,1)]),(237,[(0,1),(1,1)]),(252,[(0,1),(1,1),(2,1),(3,1)]),(299,[(0,1),(1,1),(2,1),(3,6),(9,1)]),(302,[(0,1),(1,3)]),(320,[(0,2)]),(336,[(0,1),(1,1),(2,1)])]
 eq:=[(65,b2S (feM B) 65 a60),(126,b2S (feM B) 126 a2A)]
 nest:=[(36,3,0),(100,3,1)]
 arr:=[(65,3,2,1),(296,100,2,3)]
 u8:=[(5,())]
 mp:=[(106,.int .i64),(166,.sl 193),(254,.bool)]
 fb:=[(37,()),(52,()),(55,()),(56,()),(57,()),(64,()),(135,()),(137,()),(162,()),(194,()),(197,()),(219,()),(227,()),(233,()),(285,()),(286,())]
abbrev tbJ (B:Nat):Tab (J B):=c2Z (c7J B)
theorem c8e (B:Nat){σ:S}{x y:Int×Int}{cs ds:List Value}(h:(rJ B 65).cells σ x cs)(k:(rJ B 65).cells σ y ds):Sx.EqAt Go.Proofs.Tryz.prog 2 65 (.agg cs.toArray) (.agg ds.toArray) (a60 x y):=by
 obtain ⟨_,_,rfl,rfl,rfl⟩:=h
 obtain ⟨_,_,rfl,rfl,rfl⟩:=k
 exact c0N Go.Proofs.Tryz.underlying65 ti3 (a8B (W3 to3 rfl) (W3 to3 rfl) (a48 Go.Proofs.Tryz.underlying3) (a8B (W3 to3 rfl) (W3 to3 rfl) (a48 Go.Proofs.Tryz.underlying3) b96))
theorem c7t (B:Nat){σ:S}{x y:Key}{cs ds:List Value}(h:(rJ B 126).cells σ x cs)(k:(rJ B 126).cells σ y ds):Sx.EqAt Go.Proofs.Tryz.prog 2 126 (.agg cs.toArray) (.agg ds.toArray) (a2A x y):=by
 obtain ⟨_,_,rfl,rfl,rfl⟩:=h
 obtain ⟨_,_,rfl,rfl,rfl⟩:=k
 exact b4U Go.Proofs.Tryz.underlying126 (by kernel_rfl) (a8o (by decide) (W3 to3 rfl) (W3 to3 rfl) (a48 Go.Proofs.Tryz.underlying3) (a8o (by decide) (W3 to9 rfl) (W3 to9 rfl) (c03 Go.Proofs.Tryz.underlying9) c0z))
theorem c7U (B:Nat)(T:TypeId)(g:J B T->J B T->Bool){K:Nat}(h:∀ {σ:S} {x y:J B T} {cs ds:List Value},Rp.cells σ x cs->Rp.cells σ y ds->Sx.EqAt Go.Proofs.Tryz.prog K T (.agg cs.toArray) (.agg ds.toArray) (g x y))(hg:Go.Proofs.Tryz.prog.eqGuardType (Go.Proofs.Tryz.prog).depth T=false)(hK:Nat.ble K 10000=true)
 {X:Cxt} {c:Cx} {σ:S} {ls ms:List (PV (J B))} {r:Bool} {cs ds:List Value} (h1:b2S (feM B) T g ls ms=some r) (h2:RG X c σ ls cs) (h3:RG X c σ ms ds) :
 Go.Proofs.Tryz.prog.eqGuardType (Go.Proofs.Tryz.prog).depth T=false/\∃ j,Nat.ble j 10000=true/\Sx.EqAt Go.Proofs.Tryz.prog j T (.agg cs.toArray) (.agg ds.toArray) r:=by
 obtain ⟨x,y,k1,k2,rfl⟩:=c1T h1 h2 h3
 exact ⟨hg,K,hK,h k1 k2⟩
theorem c7e (B:Nat):TabLOk Go.Proofs.Tryz.prog (c7J B) where
 low:=fun E=>b8U (l:=tyM B) (n:=B) ⟨Nat.zero_le _,⟨Nat.zero_le _,⟨Nat.zero_le _,⟨Nat.zero_le _,⟨Nat.zero_le _,⟨Nat.zero_le _,⟨Nat.zero_le _,⟨Nat.zero_le _,⟨Nat.zero_le _,⟨Nat.zero_le _,⟨Nat.zero_le _,⟨Nat.zero_le _,⟨Nat.zero_le _,⟨Nat.zero_le _,⟨Nat.zero_le _,⟨Nat.zero_le _,⟨Nat.zero_le _,⟨Nat.zero_le _,⟨Nat.zero_le _,⟨Nat.zero_le _,⟨Nat.zero_le _,⟨Nat.zero_le _,⟨Nat.zero_le _,⟨Nat.zero_le _,⟨Nat.zero_le _,⟨Nat.zero_le _,⟨Nat.zero_le _,⟨Nat.zero_le _,⟨Nat.zero_le _,⟨Nat.zero_le _,⟨Nat.zero_le _,⟨Nat.zero_le _,⟨Nat.zero_le _,⟨Nat.zero_le _,⟨Nat.zero_le _,⟨Nat.le_refl _,⟨Nat.zero_le _,⟨Nat.zero_le _,⟨Nat.zero_le _,⟨Nat.zero_le _,⟨Nat.zero_le _,⟨Nat.zero_le _,⟨Nat.zero_le _,trivial⟩⟩⟩⟩⟩⟩⟩⟩⟩⟩⟩⟩⟩⟩⟩⟩⟩⟩⟩⟩⟩⟩⟩⟩⟩⟩⟩⟩⟩⟩⟩⟩⟩⟩⟩⟩⟩⟩⟩⟩⟩⟩⟩ E
 sz:=⟨⟨_,Go.Proofs.Tryz.underlying27,rfl,by kernel_rfl⟩,⟨⟨_,Go.Proofs.Tryz.underlying51,rfl,by kernel_rfl⟩,⟨⟨_,Go.Proofs.Tryz.underlying56,rfl,by kernel_rfl⟩,⟨⟨_,Go.Proofs.Tryz.underlying61,rfl,by kernel_rfl⟩,⟨⟨_,Go.Proofs.Tryz.underlying65,rfl,by kernel_rfl⟩,⟨⟨_,Go.Proofs.Tryz.underlying67,rfl,by kernel_rfl⟩,⟨⟨_,Go.Proofs.Tryz.underlying100,rfl,by kernel_rfl⟩,⟨⟨_,Go.Proofs.Tryz.underlying126,rfl,by kernel_rfl⟩,⟨⟨_,Go.Proofs.Tryz.underlying128,rfl,by kernel_rfl⟩,⟨⟨_,Go.Proofs.Tryz.underlying168,rfl,by kernel_rfl⟩,⟨⟨_,Go.Proofs.Tryz.underlying190,rfl,by kernel_rfl⟩,⟨⟨_,Go.Proofs.Tryz.underlying193,rfl,by kernel_rfl⟩,⟨⟨_,Go.Proofs.Tryz.underlying214,rfl,by kernel_rfl⟩,⟨⟨_,Go.Proofs.Tryz.underlying216,rfl,by kernel_rfl⟩,⟨⟨_,Go.Proofs.Tryz.underlying224,rfl,by kernel_rfl⟩,⟨⟨_,Go.Proofs.Tryz.underlying237,rfl,by kernel_rfl⟩,⟨⟨_,Go.Proofs.Tryz.underlying252,rfl,by kernel_rfl⟩,⟨⟨_,Go.Proofs.Tryz.underlying273,rfl,by kernel_rfl⟩,⟨⟨_,Go.Proofs.Tryz.underlying299,rfl,by kernel_rfl⟩,⟨⟨_,Go.Proofs.Tryz.underlying302,rfl,by kernel_rfl⟩,⟨⟨_,Go.Proofs.Tryz.underlying320,rfl,by kernel_rfl⟩,⟨⟨_,Go.Proofs.Tryz.underlying336,rfl,by kernel_rfl⟩,trivial⟩⟩⟩⟩⟩⟩⟩⟩⟩⟩⟩⟩⟩⟩⟩⟩⟩⟩⟩⟩⟩⟩
 one:=⟨to2,⟨to3,⟨to4,⟨to5,⟨to9,⟨c63,⟨c7X,⟨c7x,⟨c7r,⟨c7I,⟨c7o,⟨c7s,⟨c5o,⟨c5z,⟨c5O,⟨c2j,⟨c5u,⟨c5A,⟨c5D,⟨c5N,⟨c5r,⟨c5d,trivial⟩⟩⟩⟩⟩⟩⟩⟩⟩⟩⟩⟩⟩⟩⟩⟩⟩⟩⟩⟩⟩⟩
 fld:=⟨⟨⟨_,_,Go.Proofs.Tryz.underlying27,rfl,rfl,by kernel_rfl⟩,⟨⟨_,_,Go.Proofs.Tryz.underlying27,rfl,rfl⟩,⟨⟨_,_,Go.Proofs.Tryz.underlying27,rfl,rfl,by kernel_rfl⟩,⟨⟨_,_,Go.Proofs.Tryz.underlying27,rfl,rfl⟩,trivial⟩⟩⟩⟩,⟨⟨⟨_,_,Go.Proofs.Tryz.underlying42,rfl,rfl,by kernel_rfl⟩,⟨⟨_,_,Go.Proofs.Tryz.underlying42,rfl,rfl⟩,⟨⟨_,_,Go.Proofs.Tryz.underlying42,rfl,rfl,by kernel_rfl⟩,⟨⟨_,_,Go.Proofs.Tryz.underlying42,rfl,rfl⟩,⟨⟨_,_,Go.Proofs.Tryz.underlying42,rfl,rfl,by kernel_rfl⟩,⟨⟨_,_,Go.Proofs.Tryz.underlying42,rfl,rfl⟩,⟨⟨_,_,Go.Proofs.Tryz.underlying42,rfl,rfl,by kernel_rfl⟩,⟨⟨_,_,Go.Proofs.Tryz.underlying42,rfl,rfl⟩,⟨⟨_,_,Go.Proofs.Tryz.underlying42,rfl,rfl,by kernel_rfl⟩,⟨⟨_,_,Go.Proofs.Tryz.underlying42,rfl,rfl⟩,⟨⟨_,_,Go.Proofs.Tryz.underlying42,rfl,rfl,by kernel_rfl⟩,⟨⟨_,_,Go.Proofs.Tryz.underlying42,rfl,rfl⟩,⟨⟨_,_,Go.Proofs.Tryz.underlying42,rfl,rfl,by kernel_rfl⟩,⟨⟨_,_,Go.Proofs.Tryz.underlying42,rfl,rfl⟩,trivial⟩⟩⟩⟩⟩⟩⟩⟩⟩⟩⟩⟩⟩⟩,⟨⟨⟨_,_,Go.Proofs.Tryz.underlying51,rfl,rfl,by kernel_rfl⟩,⟨⟨_,_,Go.Proofs.Tryz.underlying51,rfl,rfl⟩,⟨⟨_,_,Go.Proofs.Tryz.underlying51,rfl,rfl,by kernel_rfl⟩,⟨⟨_,_,Go.Proofs.Tryz.underlying51,rfl,rfl⟩,trivial⟩⟩⟩⟩,⟨⟨⟨_,_,Go.Proofs.Tryz.underlying56,rfl,rfl,by kernel_rfl⟩,⟨⟨_,_,Go.Proofs.Tryz.underlying56,rfl,rfl⟩,⟨⟨_,_,Go.Proofs.Tryz.underlying56,rfl,rfl,by kernel_rfl⟩,⟨⟨_,_,Go.Proofs.Tryz.underlying56,rfl,rfl⟩,trivial⟩⟩⟩⟩,⟨⟨⟨_,_,Go.Proofs.Tryz.underlying61,rfl,rfl,by kernel_rfl⟩,⟨⟨_,_,Go.Proofs.Tryz.underlying61,rfl,rfl⟩,⟨⟨_,_,Go.Proofs.Tryz.underlying61,rfl,rfl,by kernel_rfl⟩,⟨⟨_,_,Go.Proofs.Tryz.underlying61,rfl,rfl⟩,trivial⟩⟩⟩⟩,⟨⟨⟨_,_,Go.Proofs.Tryz.underlying67,rfl,rfl,by kernel_rfl⟩,⟨⟨_,_,Go.Proofs.Tryz.underlying67,rfl,rfl⟩,⟨⟨_,_,Go.Proofs.Tryz.underlying67,rfl,rfl,by kernel_rfl⟩,⟨⟨_,_,Go.Proofs.Tryz.underlying67,rfl,rfl⟩,⟨⟨_,_,Go.Proofs.Tryz.underlying67,rfl,rfl,by kernel_rfl⟩,⟨⟨_,_,Go.Proofs.Tryz.underlying67,rfl,rfl⟩,⟨⟨_,_,Go.Proofs.Tryz.underlying67,rfl,rfl,by kernel_rfl⟩,⟨⟨_,_,Go.Proofs.Tryz.underlying67,rfl,rfl⟩,⟨⟨_,_,Go.Proofs.Tryz.underlying67,rfl,rfl,by kernel_rfl⟩,⟨⟨_,_,Go.Proofs.Tryz.underlying67,rfl,rfl⟩,⟨⟨_,_,Go.Proofs.Tryz.underlying67,rfl,rfl,by kernel_rfl⟩,⟨⟨_,_,Go.Proofs.Tryz.underlying67,rfl,rfl⟩,⟨⟨_,_,Go.Proofs.Tryz.underlying67,rfl,rfl,by kernel_rfl⟩,⟨⟨_,_,Go.Proofs.Tryz.underlying67,rfl,rfl⟩,trivial⟩⟩⟩⟩⟩⟩⟩⟩⟩⟩⟩⟩⟩⟩,⟨⟨⟨_,_,Go.Proofs.Tryz.underlying100,rfl,rfl,by kernel_rfl⟩,⟨⟨_,_,Go.Proofs.Tryz.underlying100,rfl,rfl⟩,⟨⟨_,_,Go.Proofs.Tryz.underlying100,rfl,rfl,by kernel_rfl⟩,⟨⟨_,_,Go.Proofs.Tryz.underlying100,rfl,rfl⟩,⟨⟨_,_,Go.Proofs.Tryz.underlying100,rfl,rfl,by kernel_rfl⟩,⟨⟨_,_,Go.Proofs.Tryz.underlying100,rfl,rfl⟩,trivial⟩⟩⟩⟩⟩⟩,⟨⟨⟨_,_,Go.Proofs.Tryz.underlying126,rfl,rfl,by kernel_rfl⟩,⟨⟨_,_,Go.Proofs.Tryz.underlying126,rfl,rfl⟩,⟨⟨_,_,Go.Proofs.Tryz.underlying126,rfl,rfl,by kernel_rfl⟩,⟨⟨_,_,Go.Proofs.Tryz.underlying126,rfl,rfl⟩,trivial⟩⟩⟩⟩,⟨⟨⟨_,_,Go.Proofs.Tryz.underlying128,rfl,rfl,by kernel_rfl⟩,⟨⟨_,_,Go.Proofs.Tryz.underlying128,rfl,rfl⟩,⟨⟨_,_,Go.Proofs.Tryz.underlying128,rfl,rfl,by kernel_rfl⟩,⟨⟨_,_,Go.Proofs.Tryz.underlying128,rfl,rfl⟩,⟨⟨_,_,Go.Proofs.Tryz.underlying128,rfl,rfl,by kernel_rfl⟩,⟨⟨_,_,Go.Proofs.Tryz.underlying128,rfl,rfl⟩,trivial⟩⟩⟩⟩⟩⟩,⟨⟨⟨_,_,Go.Proofs.Tryz.underlying168,rfl,rfl,by kernel_rfl⟩,⟨⟨_,_,Go.Proofs.Tryz.underlying168,rfl,rfl⟩,⟨⟨_,_,Go.Proofs.Tryz.underlying168,rfl,rfl,by kernel_rfl⟩,⟨⟨_,_,Go.Proofs.Tryz.underlying168,rfl,rfl⟩,trivial⟩⟩⟩⟩,⟨⟨⟨_,_,Go.Proofs.Tryz.underlying190,rfl,rfl,by kernel_rfl⟩,⟨⟨_,_,Go.Proofs.Tryz.underlying190,rfl,rfl⟩,⟨⟨_,_,Go.Proofs.Tryz.underlying190,rfl,rfl,by kernel_rfl⟩,⟨⟨_,_,Go.Proofs.Tryz.underlying190,rfl,rfl⟩,⟨⟨_,_,Go.Proofs.Tryz.underlying190,rfl,rfl,by kernel_rfl⟩,⟨⟨_,_,Go.Proofs.Tryz.underlying190,rfl,rfl⟩,⟨⟨_,_,Go.Proofs.Tryz.underlying190,rfl,rfl,by kernel_rfl⟩,⟨⟨_,_,Go.Proofs.Tryz.underlying190,rfl,rfl⟩,trivial⟩⟩⟩⟩⟩⟩⟩⟩,⟨⟨⟨_,_,Go.Proofs.Tryz.underlying193,rfl,rfl,by kernel_rfl⟩,⟨⟨_,_,Go.Proofs.Tryz.underlying193,rfl,rfl⟩,⟨⟨_,_,Go.Proofs.Tryz.underlying193,rfl,rfl,by kernel_rfl⟩,⟨⟨_,_,Go.Proofs.Tryz.underlying193,rfl,rfl⟩,trivial⟩⟩⟩⟩,⟨⟨⟨_,_,Go.Proofs.Tryz.underlying214,rfl,rfl,by kernel_rfl⟩,⟨⟨_,_,Go.Proofs.Tryz.underlying214,rfl,rfl⟩,⟨⟨_,_,Go.Proofs.Tryz.underlying214,rfl,rfl,by kernel_rfl⟩,⟨⟨_,_,Go.Proofs.Tryz.underlying214,rfl,rfl⟩,trivial⟩⟩⟩⟩,⟨⟨⟨_,_,Go.Proofs.Tryz.underlying216,rfl,rfl,by kernel_rfl⟩,⟨⟨_,_,Go.Proofs.Tryz.underlying216,rfl,rfl⟩,⟨⟨_,_,Go.Proofs.Tryz.underlying216,rfl,rfl,by kernel_rfl⟩,⟨⟨_,_,Go.Proofs.Tryz.underlying216,rfl,rfl⟩,⟨⟨_,_,Go.Proofs.Tryz.underlying216,rfl,rfl,by kernel_rfl⟩,⟨⟨_,_,Go.Proofs.Tryz.underlying216,rfl,rfl⟩,⟨⟨_,_,Go.Proofs.Tryz.underlying216,rfl,rfl,by kernel_rfl⟩,⟨⟨_,_,Go.Proofs.Tryz.underlying216,rfl,rfl⟩,⟨⟨_,_,Go.Proofs.Tryz.underlying216,rfl,rfl,by kernel_rfl⟩,⟨⟨_,_,Go.Proofs.Tryz.underlying216,rfl,rfl⟩,⟨⟨_,_,Go.Proofs.Tryz.underlying216,rfl,rfl,by kernel_rfl⟩,⟨⟨_,_,Go.Proofs.Tryz.underlying216,rfl,rfl⟩,⟨⟨_,_,Go.Proofs.Tryz.underlying216,rfl,rfl,by kernel_rfl⟩,⟨⟨_,_,Go.Proofs.Tryz.underlying216,rfl,rfl⟩,⟨⟨_,_,Go.Proofs.Tryz.underlying216,rfl,rfl,by kernel_rfl⟩,⟨⟨_,_,Go.Proofs.Tryz.underlying216,rfl,rfl⟩,trivial⟩⟩⟩⟩⟩⟩⟩⟩⟩⟩⟩⟩⟩⟩⟩⟩,⟨⟨⟨_,_,Go.Proofs.Tryz.underlying224,rfl,rfl,by kernel_rfl⟩,⟨⟨_,_,Go.Proofs.Tryz.underlying224,rfl,rfl⟩,⟨⟨_,_,Go.Proofs.Tryz.underlying224,rfl,rfl,by kernel_rfl⟩,⟨⟨_,_,Go.Proofs.Tryz.underlying224,rfl,rfl⟩,⟨⟨_,_,Go.Proofs.Tryz.underlying224,rfl,rfl,by kernel_rfl⟩,⟨⟨_,_,Go.Proofs.Tryz.underlying224,rfl,rfl⟩,trivial⟩⟩⟩⟩⟩⟩,⟨⟨⟨_,_,Go.Proofs.Tryz.underlying237,rfl,rfl,by kernel_rfl⟩,⟨⟨_,_,Go.Proofs.Tryz.underlying237,rfl,rfl⟩,⟨⟨_,_,Go.Proofs.Tryz.underlying237,rfl,rfl,by kernel_rfl⟩,⟨⟨_,_,Go.Proofs.Tryz.underlying237,rfl,rfl⟩,trivial⟩⟩⟩⟩,⟨⟨⟨_,_,Go.Proofs.Tryz.underlying252,rfl,rfl,by kernel_rfl⟩,⟨⟨_,_,Go.Proofs.Tryz.underlying252,rfl,rfl⟩,⟨⟨_,_,Go.Proofs.Tryz.underlying252,rfl,rfl,by kernel_rfl⟩,⟨⟨_,_,Go.Proofs.Tryz.underlying252,rfl,rfl⟩,⟨⟨_,_,Go.Proofs.Tryz.underlying252,rfl,rfl,by kernel_rfl⟩,⟨⟨_,_,Go.Proofs.Tryz.underlying252,rfl,rfl⟩,⟨⟨_,_,Go.Proofs.Tryz.underlying252,rfl,rfl,by kernel_rfl⟩,⟨⟨_,_,Go.Proofs.Tryz.underlying252,rfl,rfl⟩,trivial⟩⟩⟩⟩⟩⟩⟩⟩,⟨⟨⟨_,_,Go.Proofs.Tryz.underlying273,rfl,rfl,by kernel_rfl⟩,⟨⟨_,_,Go.Proofs.Tryz.underlying273,rfl,rfl⟩,trivial⟩⟩,⟨⟨⟨_,_,Go.Proofs.Tryz.underlying299,rfl,rfl,by kernel_rfl⟩,⟨⟨_,_,Go.Proofs.Tryz.underlying299,rfl,rfl⟩,⟨⟨_,_,Go.Proofs.Tryz.underlying299,rfl,rfl,by kernel_rfl⟩,⟨⟨_,_,Go.Proofs.Tryz.underlying299,rfl,rfl⟩,⟨⟨_,_,Go.Proofs.Tryz.underlying299,rfl,rfl,by kernel_rfl⟩,⟨⟨_,_,Go.Proofs.Tryz.underlying299,rfl,rfl⟩,⟨⟨_,_,Go.Proofs.Tryz.underlying299,rfl,rfl,by kernel_rfl⟩,⟨⟨_,_,Go.Proofs.Tryz.underlying299,rfl,rfl⟩,⟨⟨_,_,Go.Proofs.Tryz.underlying299,rfl,rfl,by kernel_rfl⟩,⟨⟨_,_,Go.Proofs.Tryz.underlying299,rfl,rfl⟩,trivial⟩⟩⟩⟩⟩⟩⟩⟩⟩⟩,⟨⟨⟨_,_,Go.Proofs.Tryz.underlying302,rfl,rfl,by kernel_rfl⟩,⟨⟨_,_,Go.Proofs.Tryz.underlying302,rfl,rfl⟩,⟨⟨_,_,Go.Proofs.Tryz.underlying302,rfl,rfl,by kernel_rfl⟩,⟨⟨_,_,Go.Proofs.Tryz.underlying302,rfl,rfl⟩,trivial⟩⟩⟩⟩,⟨⟨⟨_,_,Go.Proofs.Tryz.underlying320,rfl,rfl,by kernel_rfl⟩,⟨⟨_,_,Go.Proofs.Tryz.underlying320,rfl,rfl⟩,trivial⟩⟩,⟨⟨⟨_,_,Go.Proofs.Tryz.underlying336,rfl,rfl,by kernel_rfl⟩,⟨⟨_,_,Go.Proofs.Tryz.underlying336,rfl,rfl⟩,⟨⟨_,_,Go.Proofs.Tryz.underlying336,rfl,rfl,by kernel_rfl⟩,⟨⟨_,_,Go.Proofs.Tryz.underlying336,rfl,rfl⟩,⟨⟨_,_,Go.Proofs.Tryz.underlying336,rfl,rfl,by kernel_rfl⟩,⟨⟨_,_,Go.Proofs.Tryz.underlying336,rfl,rfl⟩,trivial⟩⟩⟩⟩⟩⟩,trivial⟩⟩⟩⟩⟩⟩⟩⟩⟩⟩⟩⟩⟩⟩⟩⟩⟩⟩⟩⟩⟩⟩
 el:=⟨⟨Go.Proofs.Tryz.underlying22,_,_,ti9,rfl,by decide⟩,⟨⟨Go.Proofs.Tryz.underlying24,_,_,c2E,rfl,by decide⟩,⟨⟨Go.Proofs.Tryz.underlying25,_,_,c2u,rfl,by decide⟩,⟨⟨Go.Proofs.Tryz.underlying29,_,_,c29,rfl,by decide⟩,⟨⟨Go.Proofs.Tryz.underlying36,_,_,ti3,rfl,by decide⟩,⟨⟨Go.Proofs.Tryz.underlying39,_,_,b9w,rfl,by decide⟩,⟨⟨Go.Proofs.Tryz.underlying45,_,_,c2M,rfl,by decide⟩,⟨⟨Go.Proofs.Tryz.underlying57,_,_,c2r,rfl,by decide⟩,⟨⟨Go.Proofs.Tryz.underlying62,_,_,c3c,rfl,by decide⟩,⟨⟨Go.Proofs.Tryz.underlying64,_,_,b9T,rfl,by decide⟩,⟨⟨Go.Proofs.Tryz.underlying184,_,_,b9H,rfl,by decide⟩,⟨⟨Go.Proofs.Tryz.underlying185,_,_,b9U,rfl,by decide⟩,⟨⟨Go.Proofs.Tryz.underlying191,_,_,b9R,rfl,by decide⟩,⟨⟨Go.Proofs.Tryz.underlying198,_,_,ti5,rfl,by decide⟩,⟨⟨Go.Proofs.Tryz.underlying211,_,_,b9u,rfl,by decide⟩,⟨⟨Go.Proofs.Tryz.underlying217,_,_,b9L,rfl,by decide⟩,⟨⟨Go.Proofs.Tryz.underlying219,_,_,b9Q,rfl,by decide⟩,⟨⟨Go.Proofs.Tryz.underlying234,_,_,b9M,rfl,by decide⟩,⟨⟨Go.Proofs.Tryz.underlying253,_,_,b9E,rfl,by decide⟩,⟨⟨Go.Proofs.Tryz.underlying269,_,_,b9A,rfl,by decide⟩,⟨⟨Go.Proofs.Tryz.underlying293,_,_,b9P,rfl,by decide⟩,⟨⟨Go.Proofs.Tryz.underlying297,_,_,b9F,rfl,by decide⟩,⟨⟨Go.Proofs.Tryz.underlying330,_,_,b9G,rfl,by decide⟩,trivial⟩⟩⟩⟩⟩⟩⟩⟩⟩⟩⟩⟩⟩⟩⟩⟩⟩⟩⟩⟩⟩⟩⟩
 str:=⟨Go.Proofs.Tryz.underlying9,trivial⟩
 bool:=trivial
 ik:=⟨Go.Proofs.Tryz.underlying2,⟨Go.Proofs.Tryz.underlying3,⟨Go.Proofs.Tryz.underlying5,⟨Go.Proofs.Tryz.underlying135,⟨Go.Proofs.Tryz.underlying165,trivial⟩⟩⟩⟩⟩
 inf:=⟨⟨_,ti2,fun X c σ=>RG.cns rfl Z2 (RG.nl)⟩,⟨⟨_,ti3,fun X c σ=>RG.cns rfl Z2 (RG.nl)⟩,⟨⟨_,ti4,fun X c σ=>RG.cns rfl V5 (RG.nl)⟩,⟨⟨_,ti5,fun X c σ=>RG.cns rfl Z2 (RG.nl)⟩,⟨⟨_,ti9,fun X c σ=>RG.cns rfl a1U (RG.nl)⟩,⟨⟨_,c7T,fun X c σ=>RG.cns rfl j7 (RG.nl)⟩,⟨⟨_,c2E,fun X c σ=>RG.cns rfl j7 (RG.cns rfl Z2 (RG.nl))⟩,⟨⟨_,c29,fun X c σ=>RG.cns rfl j7 (RG.nl)⟩,⟨⟨_,c7V,fun X c σ=>RG.cns rfl j7 (RG.nl)⟩,⟨⟨_,c6V,fun X c σ=>RG.cns rfl Z2 (RG.cns rfl Z2 (RG.cns rfl a1U (RG.cns rfl j7 (RG.cns rfl j7 (RG.cns rfl j7 (RG.cns rfl j7 (RG.nl)))))))⟩,⟨⟨_,c2M,fun X c σ=>RG.cns rfl j7 (RG.cns rfl Z2 (RG.cns rfl j7 (RG.cns rfl Z2 (RG.nl))))⟩,⟨⟨_,c2r,fun X c σ=>RG.cns rfl Z2 (RG.cns rfl Z2 (RG.nl))⟩,⟨⟨_,c6L,fun X c σ=>RG.cns rfl j7 (RG.nl)⟩,⟨⟨_,c3c,fun X c σ=>RG.cns rfl a1U (RG.cns rfl j7 (RG.cns rfl Z2 (RG.nl)))⟩,⟨⟨_,c7p,fun X c σ=>RG.cns rfl j7 (RG.nl)⟩,⟨⟨_,c6K,fun X c σ=>RG.cns rfl Z2 (RG.cns rfl Z2 (RG.nl))⟩,⟨⟨_,c2u,fun X c σ=>RG.cns rfl Z2 (RG.cns rfl Z2 (RG.cns rfl Z2 (RG.cns rfl a1U (RG.cns rfl j7 (RG.cns rfl j7 (RG.cns rfl Z2 (RG.cns rfl Z2 (RG.nl))))))))⟩,⟨⟨_,b9H,fun X c σ=>RG.cns rfl j7 (RG.cns rfl j7 (RG.cns rfl V5 (RG.nl)))⟩,⟨⟨_,b9w,fun X c σ=>RG.cns rfl Z2 (RG.cns rfl a1U (RG.nl))⟩,⟨⟨_,b9T,fun X c σ=>RG.cns rfl Z2 (RG.cns rfl a1U (RG.cns rfl Z2 (RG.cns rfl V5 (RG.nl))))⟩,⟨⟨_,c5P,fun X c σ=>RG.cns rfl a8f (RG.nl)⟩,⟨⟨_,c5B,fun X c σ=>RG.cns rfl a8f (RG.cns rfl a8f (RG.nl))⟩,⟨⟨_,c5M,fun X c σ=>RG.cns rfl j7 (RG.nl)⟩,⟨⟨_,b9y,fun X c σ=>RG.cns rfl j7 (RG.nl)⟩,⟨⟨_,b9L,fun X c σ=>RG.cns rfl Z2 (RG.cns rfl Z2 (RG.cns rfl a1U (RG.cns rfl j7 (RG.cns rfl j7 (RG.cns rfl j7 (RG.cns rfl j7 (RG.cns rfl j7 (RG.cns rfl j7 (RG.cns rfl j7 (RG.nl))))))))))⟩,⟨⟨_,b9U,fun X c σ=>RG.cns rfl Z2 (RG.cns rfl Z2 (RG.cns rfl a1U (RG.cns rfl j7 (RG.cns rfl j7 (RG.cns rfl j7 (RG.cns rfl j7 (RG.cns rfl j7 (RG.cns rfl j7 (RG.cns rfl j7 (RG.cns rfl j7 (RG.nl)))))))))))⟩,⟨⟨_,c5J,fun X c σ=>RG.cns rfl V5 (RG.cns rfl j7 (RG.nl))⟩,⟨⟨_,b9u,fun X c σ=>RG.cns rfl Z2 (RG.cns rfl Z2 (RG.cns rfl j7 (RG.cns rfl V5 (RG.cns rfl j7 (RG.cns rfl j7 (RG.cns rfl j7 (RG.cns rfl j7 (RG.cns rfl j7 (RG.nl)))))))))⟩,⟨⟨_,b9R,fun X c σ=>RG.cns rfl j7 (RG.nl)⟩,⟨⟨_,b9Q,fun X c σ=>RG.cns rfl j7 (RG.cns rfl V5 (RG.cns rfl j7 (RG.cns rfl j7 (RG.cns rfl V5 (RG.nl)))))⟩,⟨⟨_,b9M,fun X c σ=>RG.cns rfl Z2 (RG.cns rfl Z2 (RG.nl))⟩,⟨⟨_,b9E,fun X c σ=>RG.cns rfl j7 (RG.cns rfl j7 (RG.cns rfl j7 (RG.cns rfl j7 (RG.nl))))⟩,⟨⟨_,b9A,fun X c σ=>RG.cns rfl j7 (RG.nl)⟩,⟨⟨_,c5s,fun X c σ=>RG.cns rfl j7 (RG.nl)⟩,⟨⟨_,c5K,fun X c σ=>RG.cns rfl j7 (RG.nl)⟩,⟨⟨_,b9P,fun X c σ=>RG.cns rfl j7 (RG.cns rfl j7 (RG.cns rfl j7 (RG.cns rfl j7 (RG.cns rfl j7 (RG.cns rfl V5 (RG.cns rfl j7 (RG.cns rfl j7 (RG.cns rfl V5 (RG.cns rfl j7 (RG.nl))))))))))⟩,⟨⟨_,b9F,fun X c σ=>RG.cns rfl Z2 (RG.cns rfl j7 (RG.cns rfl j7 (RG.cns rfl V5 (RG.nl))))⟩,⟨⟨_,c5F,fun X c σ=>RG.cns rfl V5 (RG.cns rfl j7 (RG.nl))⟩,⟨⟨_,c5w,fun X c σ=>RG.cns rfl j7 (RG.nl)⟩,⟨⟨_,c5v,fun X c σ=>RG.cns rfl a8f (RG.nl)⟩,⟨⟨_,b9G,fun X c σ=>RG.cns rfl Z2 (RG.cns rfl V5 (RG.cns rfl Z2 (RG.nl)))⟩,trivial⟩⟩⟩⟩⟩⟩⟩⟩⟩⟩⟩⟩⟩⟩⟩⟩⟩⟩⟩⟩⟩⟩⟩⟩⟩⟩⟩⟩⟩⟩⟩⟩⟩⟩⟩⟩⟩⟩⟩⟩⟩
 st:=⟨.inl ⟨_,Go.Proofs.Tryz.underlying27,by kernel_rfl⟩,⟨.inl ⟨_,Go.Proofs.Tryz.underlying42,by kernel_rfl⟩,⟨.inl ⟨_,Go.Proofs.Tryz.underlying51,by kernel_rfl⟩,⟨.inl ⟨_,Go.Proofs.Tryz.underlying56,by kernel_rfl⟩,⟨.inl ⟨_,Go.Proofs.Tryz.underlying61,by kernel_rfl⟩,⟨.inr (c3n Go.Proofs.Tryz.underlying65 ti3 rfl),⟨.inl ⟨_,Go.Proofs.Tryz.underlying67,by kernel_rfl⟩,⟨.inl ⟨_,Go.Proofs.Tryz.underlying100,by kernel_rfl⟩,⟨.inl ⟨_,Go.Proofs.Tryz.underlying126,by kernel_rfl⟩,⟨.inl ⟨_,Go.Proofs.Tryz.underlying168,by kernel_rfl⟩,⟨.inl ⟨_,Go.Proofs.Tryz.underlying190,by kernel_rfl⟩,⟨.inl ⟨_,Go.Proofs.Tryz.underlying193,by kernel_rfl⟩,⟨.inl ⟨_,Go.Proofs.Tryz.underlying214,by kernel_rfl⟩,⟨.inl ⟨_,Go.Proofs.Tryz.underlying216,by kernel_rfl⟩,⟨.inl ⟨_,Go.Proofs.Tryz.underlying237,by kernel_rfl⟩,⟨.inl ⟨_,Go.Proofs.Tryz.underlying252,by kernel_rfl⟩,⟨.inl ⟨_,Go.Proofs.Tryz.underlying299,by kernel_rfl⟩,⟨.inl ⟨_,Go.Proofs.Tryz.underlying302,by kernel_rfl⟩,⟨.inl ⟨_,Go.Proofs.Tryz.underlying320,by kernel_rfl⟩,⟨.inl ⟨_,Go.Proofs.Tryz.underlying336,by kernel_rfl⟩,trivial⟩⟩⟩⟩⟩⟩⟩⟩⟩⟩⟩⟩⟩⟩⟩⟩⟩⟩⟩⟩
 eq:=⟨fun X c σ ls ms r cs ds h1 h2 h3=>c7U B 65 a60 (fun h k=>c8e B h k) (by kernel_rfl) (by decide) h1 h2 h3,⟨fun X c σ ls ms r cs ds h1 h2 h3=>c7U B 126 a2A (fun h k=>c7t B h k) (by kernel_rfl) (by decide) h1 h2 h3,trivial⟩⟩
 arr:=⟨⟨Go.Proofs.Tryz.underlying65,by kernel_rfl⟩,⟨⟨Go.Proofs.Tryz.underlying296,by kernel_rfl⟩,trivial⟩⟩
 u8:=⟨⟨Go.Proofs.Tryz.underlying5,fun y=>⟨y,rfl⟩⟩,trivial⟩
 mp:=⟨⟨_,_,_,_,_,Go.Proofs.Tryz.underlying106,Go.Proofs.Tryz.underlying9,ti3,fun x h σ=>by cases h; exact rfl⟩,⟨⟨_,_,_,_,_,Go.Proofs.Tryz.underlying166,Go.Proofs.Tryz.underlying9,b9y,fun x h σ=>by cases h; exact ⟨none,0,rfl,Sl.nil_ _ _ _ (Nat.zero_le _)⟩⟩,⟨⟨_,_,_,_,_,Go.Proofs.Tryz.underlying254,Go.Proofs.Tryz.underlying9,ti4,fun x h σ=>by cases h; exact rfl⟩,trivial⟩⟩⟩
 fb:=⟨⟨_,_,Go.Proofs.Tryz.func37,rfl,by kernel_rfl⟩,⟨⟨_,_,Go.Proofs.Tryz.func52,rfl,by kernel_rfl⟩,⟨⟨_,_,Go.Proofs.Tryz.func55,rfl,by kernel_rfl⟩,⟨⟨_,_,Go.Proofs.Tryz.func56,rfl,by kernel_rfl⟩,⟨⟨_,_,Go.Proofs.Tryz.func57,rfl,by kernel_rfl⟩,⟨⟨_,_,Go.Proofs.Tryz.func64,rfl,by kernel_rfl⟩,⟨⟨_,_,Go.Proofs.Tryz.func135,rfl,by kernel_rfl⟩,⟨⟨_,_,Go.Proofs.Tryz.func137,rfl,by kernel_rfl⟩,⟨⟨_,_,Go.Proofs.Tryz.func162,rfl,by kernel_rfl⟩,⟨⟨_,_,Go.Proofs.Tryz.func194,rfl,by kernel_rfl⟩,⟨⟨_,_,Go.Proofs.Tryz.func197,rfl,by kernel_rfl⟩,⟨⟨_,_,Go.Proofs.Tryz.func219,rfl,by kernel_rfl⟩,⟨⟨_,_,Go.Proofs.Tryz.func227,rfl,by kernel_rfl⟩,⟨⟨_,_,Go.Proofs.Tryz.func233,rfl,by kernel_rfl⟩,⟨⟨_,_,Go.Proofs.Tryz.func285,rfl,by kernel_rfl⟩,⟨⟨_,_,Go.Proofs.Tryz.func286,rfl,by kernel_rfl⟩,trivial⟩⟩⟩⟩⟩⟩⟩⟩⟩⟩⟩⟩⟩⟩⟩⟩
theorem a8s (B:Nat):TabOk Go.Proofs.Tryz.prog (tbJ B):=c1h (c7e B)
def c67 (B:Nat)(a:List (Nat×List (List Nat)))(b c:List (Nat×List Nat))(j:List (Nat×JH))(l:List (Nat×LH (J B)))(k:List (Nat×KH (J B)))(ns:List (Nat×NH (J B)))(u:List (Nat×Nat)):Hints (J B) :=
 ⟨fun i=>(asc a i).getD [],fun i=>(asc b i).getD [],fun i=>(asc c i).getD [],asc j,asc l,asc k,asc ns,fun i=>(asc u i).getD 0⟩
def a6j (B:Nat):Row (J B):=⟨265,[.d (.int .i64),.d (.sl 36)],[.k (.d (.bool))],a4I⟩
theorem b5V (B:Nat):a0r Go.Proofs.Tryz.prog (a6j B):=fun σ a vs pls res hA hd hr =>
 V8.mono (b6V σ a vs pls res hA hd hr) rfl fun _ τ hE ⟨ws,us,pls',hp⟩=>⟨τ,rfl,hE,ws,us,pls',⟨hp.ret,hp.len,hp.tt,hp.out,hp.nodup,hp.own⟩⟩
def b5P (B:Nat):Row (J B):=⟨266,[.d (.int .i64),.d (.sl 36),.d (.sl 36),.d (.sl 36),.bor 3],[.lvs [.row 100 false],.k (.d (.bool))],a9c⟩
theorem b7o (B:Nat):a0r Go.Proofs.Tryz.prog (b5P B):=fun σ a vs pls res hA hd hr =>
 V8.mono (b7K σ a vs pls res hA hd hr) rfl fun _ τ hE ⟨ws,us,pls',hp⟩=>⟨τ,rfl,hE,ws,us,pls',⟨hp.ret,hp.len,hp.tt,hp.out,hp.nodup,hp.own⟩⟩
def a4n (B:Nat):Rio (J B):=⟨267,3,[.d (.sl 36)],[.k (.d (.bool))],a4q⟩
theorem b2j (B:Nat):a3V Go.Proofs.Tryz.prog (a4n B):=fun σ xs a vs pls res ys hA hd hr =>
 V8.mono (b2r σ xs a vs pls res ys hA hd hr) rfl fun _ τ hE ⟨ws,us,pls',hp,A,k,ow,h1,h2,h3,h4⟩=>⟨τ,rfl,hE,ws,us,pls',⟨hp.ret,hp.len,hp.tt,hp.out,hp.nodup,hp.own⟩,A,k,ow,h1,h2,h3,h4⟩
def a6o (B:Nat):Row (J B):=⟨266,[.d (.int .i64),.d (.sl 36),.d (.sl 36),.d (.sl 36),.bor 3],[.k (.d (.dat 273)),.k (.d .bool)],b3F⟩
theorem b5h (B:Nat):a0F Go.Proofs.Tryz.prog (a6o B) (fun w _=>B<=w.heap.size):=c6U (I:=J B) (T1:=36) (T2:=3) (G:=100) (E:=273) B a0W (fun l=>Api_Box.mk l) (fun _=>rfl) (fun σ x A c h1 h2=>@c35 Api_Box Api_Goal j6 B a0W σ x A c h1 h2) (b7o B)
theorem c7R (B:Nat){r:Row (J B)}(h:a0F Go.Proofs.Tryz.prog r (fun w _=>B<=w.heap.size)):EntOk Go.Proofs.Tryz.prog (b6K (tbJ B) r (fun _ _=>true)):=b6d (a8s B) h (fun _ _ _ _ _ _ _ _ _ _ h _ _=>Nat.le_trans (h.base.2 273) h.base.1)
def esB (B:Nat):List (Ans (J B)):=[b7P (tbJ B) (a6j B),b6K (tbJ B) (a6o B) (fun _ _=>true),c46 (tbJ B) (a4n B)]
theorem c7g (B:Nat):b8q Go.Proofs.Tryz.prog (esB B):=⟨a92 (a8s B) (b5V B),c7R B (b5h B),c1S (a8s B) (b2j B),trivial⟩
def b5i (B:Nat)(n:Nat):Hints (J B):=c67 B [] [] [(11,[1000009]),(17,[9])] [(8131,⟨2321137573660088015435890688,[],[],[(.normal,[(15,.k (.row 273 false))])]⟩)] [(254,⟨79228011398536885764897341696,[],[],[(14,.k (.row 3 false)),(15,.k (.row 273 false))],[(.ret,[(8,.k (.row 273 false)),(14,.k (.row 3 false))])],fun _=>some n⟩)] [] [(122,⟨⟨18889465929279557614848,[],[],[(41,.k (.d (.int .i64)))],[((.exit 0),[]),(.ret,[(8,.k (.row 273 false))])],bnd (tbJ B) (.slot 40) 1⟩,9,36⟩),
 (62666,⟨⟨147573671114699714560,[],[],[(48,.k (.d (.int .i64)))],[((.exit 2),[])],bnd (tbJ B) (.slot 47) 1⟩,9,36⟩)] []
def a5I (B n:Nat):Row (J B):=⟨232,[.d (.int .i64),.d (.sl 36),.d (.sl 36),.fn [.int .i64] [.k (.d (.bool))]],[.k (.row 273 false)],b1E n⟩
theorem b4x (B n:Nat):a0F Go.Proofs.Tryz.prog (a5I B n) (fun w _=>B<=w.heap.size) :=
 b7U (a8s B) (a2h (c7g B) 3) mixed 96 (s0:=fun a=>a2F (tbJ B) 96 [.d (.int .i64),.d (.sl 36),.d (.sl 36),.fn [.int .i64] [.k (.d (.bool))]] a) (fn:=Go.Proofs.Tryz.f232) (cd:=a56 Go.Proofs.Tryz.f232) (H:=b5i B n) (rl:=[.tmp 8]) (fun X c σ a vs F h _ _ _=>h) Go.Proofs.Tryz.func232 (by kernel_rfl) (by kernel_rfl) (by kernel_rfl) (by kernel_rfl) (by kernel_rfl) (by kernel_rfl) (by kernel_rfl) (hlo:=.inr fun w vs h=>h)
def a6W:Row I:=⟨233,[.d (.int .i64),.var 27 (.k (.d (.dat 27))) false],[.k (.d (.bool))],a2i⟩
theorem a7Y:RK (a6W) :=
 okR [] 11 Y2 [.tmp 3] Go.Proofs.Tryz.func233 (by kernel_rfl)
def a3f (B:Nat)(n:Nat):Row (J B):=⟨45,[.d (.dat 27)],[.k (.d (.int .i64))],V3 n⟩
theorem a7V (B:Nat)(n:Nat):a0r Go.Proofs.Tryz.prog (a3f B n):=fun σ a vs pls res hA hd hr =>
 V8.mono (X9 n σ a vs pls res hA hd hr) rfl fun _ τ hE ⟨ws,us,pls',hp⟩=>⟨τ,rfl,hE,ws,us,pls',⟨hp.ret,hp.len,hp.tt,hp.out,hp.nodup,hp.own⟩⟩
def a6k (B:Nat):Row (J B):=⟨231,[.d (.dat 27),.d (.sl 3),.d (.int .i64),.d (.int .i64)],[.k (.row 36 false),.k (.d (.bool))],a4O⟩
theorem b5x (B:Nat):a0r Go.Proofs.Tryz.prog (a6k B):=fun σ a vs pls res hA hd hr =>
 V8.mono (b6Q σ a vs pls res hA hd hr) rfl fun _ τ hE ⟨ws,us,pls',hp⟩=>⟨τ,rfl,hE,ws,us,pls',⟨hp.ret,hp.len,hp.tt,hp.out,hp.nodup,hp.own⟩⟩
def a2N (B:Nat):Row (J B):=⟨233,[.d (.int .i64),.var 27 (.k (.d (.dat 27))) false],[.k (.d (.bool))],a2i⟩
theorem a7J (B:Nat):a0r Go.Proofs.Tryz.prog (a2N B):=fun σ a vs pls res hA hd hr =>
 V8.mono (a7Y σ a vs pls res hA hd hr) rfl fun _ τ hE ⟨ws,us,pls',hp⟩=>⟨τ,rfl,hE,ws,us,pls',⟨hp.ret,hp.len,hp.tt,hp.out,hp.nodup,hp.own⟩⟩
def esC (B n:Nat):List (Ans (J B)):=[b7P (tbJ B) (a3f B n),b7P (tbJ B) (a6k B),b6K (tbJ B) (a5I B n) (fun _ _=>true),b7P (tbJ B) (a2N B)]
theorem c7O (B n:Nat):b8q Go.Proofs.Tryz.prog (esC B n):=⟨a92 (a8s B) (a7V B n),a92 (a8s B) (b5x B),c7R B (b4x B n),a92 (a8s B) (a7J B),trivial⟩
def a91 (B:Nat)(_:Nat):Hints (J B):=c67 B [(1,[[],[0],[],[0,1,2]])] [] [] [(29,⟨3932400,[],[],[(.normal,[(6,.k (.d (.int .i64))),(7,.k (.d (.int .i64)))]),(.ret,[(4,.k (.row 273 false)),(5,.k (.d (.int .i64)))])]⟩)] [] [] [] []
def a8e (B n:Nat):Row (J B):=⟨205,[.d (.dat 27),.d (.dat 216)],[.k (.d (.sl 273)),.k (.d (.int .i64))],a2X n⟩
theorem c8b (B:Nat):FlipTy (γ:=J B 273) (δ:=J B 100) B a0W (fun g:Api_Goal=>g.Pos) (fun g:Api_Goal=>g.Neg) (fun g:Api_Goal=>g.Lists):=⟨rfl,rfl,Iff.rfl,by
 intro σ d cs
 constructor
 ·rintro ⟨_,_,rfl,⟨A1,c1,rfl,h1⟩,_,_,rfl,⟨A2,c2,rfl,h2⟩,rfl⟩
  exact ⟨A1,c1,A2,c2,rfl,h1,h2⟩
 ·rintro ⟨A1,c1,A2,c2,rfl,h1,h2⟩
  exact ⟨_,_,rfl,⟨A1,c1,rfl,h1⟩,_,_,rfl,⟨A2,c2,rfl,h2⟩,rfl⟩⟩
theorem c6B (x:Api_Box)(d0 d1:Api_Goal)(r:List Api_Goal)(h:x.Parts=d0::d1::r):(a4V x).Parts=d0::a7B d1::r:=by
 unfold a4V
 rw [h]
theorem a8M (B n:Nat):a0F Go.Proofs.Tryz.prog (a8e B n) (fun w _=>w.heap.size=B) :=
 c5Z (I:=J B) (B:=B) (E:=273) (G:=100) (H:=a91 B n) (a8s B) (a2h (c7O B n) 3) mixed (c8b B) (setL:=a7B) (setB:=a4V) c6B (fun _=>⟨rfl,rfl,rfl⟩) (ok:=b4R) (fun x h=>Nat.le_of_ble_eq_true h) (cd:=a56 Go.Proofs.Tryz.f205) (rl:=[.tmp 4,.tmp 5]) Go.Proofs.Tryz.func205 (by kernel_rfl) (by kernel_rfl) (by kernel_rfl) (by kernel_rfl) rfl Go.Proofs.Tryz.underlying269 (by kernel_rfl) ⟨_,_,Go.Proofs.Tryz.underlying273,rfl,rfl,by kernel_rfl⟩ c2j Go.Proofs.Tryz.underlying184 (by kernel_rfl) ⟨_,_,Go.Proofs.Tryz.underlying100,rfl,rfl,by kernel_rfl⟩ (by kernel_rfl) Go.Proofs.Tryz.underlying269 (by kernel_rfl) (by kernel_rfl) (by kernel_rfl) rfl (by kernel_rfl)
def a9o (n:Nat):Row I:=⟨205,[.d (.dat 27),.d (.dat 216)],[.k (.d (.sl 273)),.k (.d (.int .i64))],a2X n⟩
theorem a98 (n:Nat):RK (a9o n):=fun σ a vs pls res hA hd hr =>
 V8.mono (a8M σ.w.heap.size n σ a vs pls res hA rfl hd hr) rfl fun v τ hE ⟨ws,us,pls',hp⟩=>by
  obtain ⟨v1,r,p1,p2,e1,e2,⟨⟨A,c,e3,hs⟩,e4⟩,h2⟩:=hp.tt
  exact ⟨τ,rfl,hE,ws,us,pls',hp.ret,hp.len,⟨v1,r,p1,p2,e1,e2,⟨⟨A,c,e3,c6Q (a:=j6) (to:=a0W) hs⟩,e4⟩,h2⟩,hp.out,hp.nodup,hp.own⟩
def b35:Row I:=⟨286,[.d (.int .i64),.var 27 (.k (.d (.dat 27))) false],[.k (.d (.bool))],b1B⟩
theorem b5a:RK (b35) :=
 okR [] 22 Y2 [.tmp 3] Go.Proofs.Tryz.func286 (by kernel_rfl)
def b7c:Row I:=⟨268,[.d (.dat 27),.d (.sl 3)],[.k (.d (.bool))],a8N⟩
theorem b8r:RK (b7c) :=
 okR [eR V6,eR b5a] 9 Y2 [.tmp 4] Go.Proofs.Tryz.func268 (by kernel_rfl)
def a38:Hints I:=mkH [(6,[[],[],[0,1],[0,1,2],[],[],[5],[4,5,6],[4,5,6,7],[0,1,2,3,4,5,6,7,8]]),(11,[[],[],[0,1],[0,1,2],[],[],[5],[4,5,6],[4,5,6,7],[0,1,2,3,4,5,6,7,8]])] [] [] [] [(58,⟨1152921504606846012,[],[],[(0,.k (.row 126 false)),(3,.k (.d (.int .i64)))],[((.exit 0),[(0,.k (.row 126 false))]),(.ret,[(2,.k (.row 126 false))])],bnd tb (.len (.slot 0)) 1⟩)] [(59690,⟨18014397972611112,0,.row 126,[(3,.k (.d (.int .i64))),(5,.k (.d (.int .i64)))],[((.exit 2),[(3,.k (.d (.int .i64)))])],bnd tb (.len (.slot 4)) 1,0⟩)] [] []
def a3t:Row I:=⟨289,[.row 126 false],[.k (.row 126 false)],a1K⟩
theorem a3N:RK (a3t) :=
 okR [] 61 a38 [.tmp 2] Go.Proofs.Tryz.func289 (by kernel_rfl)
def a4j:Row I:=⟨288,[.d (.sl 126)],[.k (.row 126 true)],a2e⟩
theorem a4A:RK (a4j) :=
 okR [] 9 Y2 [.tmp 2] Go.Proofs.Tryz.func288 (by kernel_rfl)
def b6X:Hints I:=mkH [] [] [] [] [(58,⟨17179865760,[],[],[(5,.k (.row 126 false)),(12,.k (.d (.int .i64)))],[((.exit 0),[(5,.k (.row 126 false))])],bnd tb (.slot 11) 1⟩),
 (14950,⟨8581546528,[],[],[(5,.k (.row 126 false)),(23,.k (.d (.int .i64)))],[((.exit 2),[(5,.k (.row 126 false))])],bnd tb (.slot 22) 1⟩)] [] [] []
noncomputable def b4s:Row I:=⟨269,[.d (.dat 27),.d (.sl 3)],[.k (.row 126 true)],b1F⟩
theorem b5j:RK (b4s) :=
 okR [eO c7H,eR a4y,eR a3N,eR a4A] 39 b6X [.tmp 4] Go.Proofs.Tryz.func269 (by kernel_rfl)
def c3Y:Hints I:=mkH [] [] [] [] [(26,⟨2096208,[],[],[(10,.k (.d (.int .i64)))],[((.exit 0),[]),(.ret,[(4,.k (.d (.int .i64)))])],bnd tb (.slot 9) 1⟩)] [] [] []
def c1A:Row I:=⟨292,[.d (.dat 67),.d (.dat 126)],[.k (.d (.int .i64))],b3L⟩
theorem b7n:RK (c1A) :=
 okR [] 26 c3Y [.tmp 4] Go.Proofs.Tryz.func292 (by kernel_rfl)
def b7s:Hints I:=mkH [] [] [] [] [(26,⟨4193360,[],[],[(10,.k (.d (.int .i64)))],[((.exit 0),[]),(.ret,[(4,.k (.d (.bool)))])],bnd tb (.slot 9) 1⟩)] [] [] []
def b4I:Row I:=⟨293,[.d (.dat 67),.d (.dat 126)],[.k (.d (.bool))],a6b⟩
theorem a7A:RK (b4I) :=
 okR [] 22 b7s [.tmp 4] Go.Proofs.Tryz.func293 (by kernel_rfl)
def b5d:Hints I:=mkH [(6,[[],[0],[],[2],[],[2,3,4],[2,3,4,5],[],[2,3,4,5,6,7],[2,3,4,5,6,7,8],[0,1,2,3,4,5,6,7,8,9],[0,1,2,3,4,5,6,7,8,9,10],[0,1,2,3,4,5,6,7,8,9,10,11]]),(7,[[],[0],[],[0,1,2],[0,1,2,3],[],[0,1,2,3,4,5]]),(15,[[],[0],[],[2],[],[4],[],[4,5,6],[4,5,6,7],[2,3,4,5,6,7,8],[2,3,4,5,6,7,8,9],[],[2,3,4,5,6,7,8,9,10,11],[2,3,4,5,6,7,8,9,10,11,12],[0,1,2,3,4,5,6,7,8,9,10,11,12,13],[0,1,2,3,4,5,6,7,8,9,10,11,12,13,14],[0,1,2,3,4,5,6,7,8,9,10,11,12,13,14,15]]),(22,[[],[],[1],[],[3],[],[5],[1,2,3,4,5,6],[1,2,3,4,5,6,7],[0,1,2,3,4,5,6,7],[0,1,2,3,4,5,6,7,9],[0,1,2,3,4,5,6,7,8,9,10]])] [] [(22,[13])] [] [(122,⟨140737480048640,[],[(13,.lvs [.row 3 false,.row 3 false,.d (.bool)])],[(14,.k (.d (.int .i64))),(23,.k (.d (.int .i64)))],[((.exit 0),[(14,.k (.d (.int .i64)))])],bnd tb (.slot 22) 1⟩),
 (506,⟨604462909244364634865664,[],[(13,.lvs [.row 3 false,.row 3 false,.d (.bool)])],[(14,.k (.d (.int .i64))),(17,.k (.d (.bool))),(49,.k (.d (.int .i64)))],[((.exit 2),[(14,.k (.d (.int .i64))),(17,.k (.d (.bool)))])],bnd tb (.slot 48) 1⟩)] [] [] []
def b2x:Row I:=⟨290,[.d (.dat 27),.d (.dat 216),.d (.int .i64),.d (.dat 126),.bor 336],[.k (.d (.int .i64)),.k (.d (.dat 100)),.k (.d (.bool))],a9r⟩
theorem b4l:RK (b2x) :=
 okR [eR b7n,eR a7A,eR a1f,eR a3Y] 92 b5d [.tmp 10,.cell 11 100,.tmp 12] Go.Proofs.Tryz.func290 (by kernel_rfl)
def b8a:Hints I:=mkH [(17,[[],[],[],[1,2],[1,2,3],[1,2,3,4],[],[6],[],[],[6,7,8],[6,7,8,10],[6,7,8,9,10,11],[6,7,8,9,10,11,12],[6,7,8,9,10,11,12,13],[1,2,3,4,5,6,7,8,9,10,11,12,13,14],[],[0,1,2,3,4,5,6,7,8,9,10,11,12,13,14,15,16],[0,1,2,3,4,5,6,7,8,9,10,11,12,13,14,15,16,17],[0,1,2,3,4,5,6,7,8,9,10,11,12,13,14,15,16,17,18]]),(29,[[],[0],[],[2],[],[2,3,4],[2,3,4,5],[],[7],[0,1,2,3,4,5,6],[0,1,2,3,4,5,6,9],[0,1,2,3,4,5,6,7,8,9,10],[0,1,2,3,4,5,6,7,8,9,10,11],[0,1,2,3,4,5,6,7,8,9,10,11,12]])] [] [(7,[10]),(8,[10]),(9,[10]),(10,[10])] [(129638,⟨42530103568258773105293295432646000640,[],[],[(.normal,[(22,.k (.d (.int .i64)))])]⟩),
 (518556,⟨10846500445604913522895065611887611740160,[],[],[(.normal,[(132,.k (.d (.bool)))])]⟩)] [(58,⟨576460752035052032,[10],[(8,.lvs [.d (.sl 126),.d (.sl 3),.d (.sl 100),.d (.sl 3),.d (.sl 3),.d (.bool),.d (.sl 3),.d (.sl 3),.d (.bool),.d (.sl 302)]),(10,.lvs [.row 126 true,.row 3 true,.row 100 true,.row 3 true,.row 3 true,.d (.bool),.row 3 true,.row 3 true,.d (.bool),.row 302 true])],[(28,.k (.d (.int .i64)))],[((.exit 0),[]),(.ret,[(9,.k (.d (.bool)))])],bnd tb (.slot 27) 1⟩),
 (122,⟨1237940034673694256472129536,[],[(10,.lvs [.row 126 true,.row 3 true,.row 100 true,.row 3 true,.row 3 true,.d (.bool),.row 3 true,.row 3 true,.d (.bool),.row 302 true])],[(62,.k (.d (.int .i64)))],[((.exit 2),[])],bnd tb (.slot 61) 1⟩),
 (506,⟨89202980794102210156539221420169498779976192,[],[(8,.k (.d (.dat 299))),(10,.lvs [.row 126 true,.row 3 true,.row 100 true,.d (.sl 3),.d (.sl 3),.d (.bool),.d (.sl 3),.d (.sl 3),.d (.bool),.row 302 true])],[(104,.k (.d (.int .i64)))],[((.exit 8),[]),(.ret,[(9,.k (.d (.bool)))])],bnd tb (.slot 103) 1⟩)] [] [] [(250,3),(31334,3)]
def b5F:Row I:=⟨271,[.d (.dat 27),.d (.dat 216),.d (.sl 126),.bor 336],[.k (.d (.dat 299)),.k (.d (.bool))],b2N⟩
theorem b6E:RK (b5F) :=
 okR [eR c3h,eR b4l,eR a1f,eR a2s] 147 b8a [.cell 8 299,.tmp 9] Go.Proofs.Tryz.func271 (by kernel_rfl)
def b1V:Row I:=⟨291,[.d (.int .i64),.var 27 (.k (.d (.dat 27))) false],[.k (.d (.bool))],a4v⟩
theorem b2U:RK (b1V) :=
 okR [] 11 Y2 [.tmp 3] Go.Proofs.Tryz.func291 (by kernel_rfl)
def b6H:Hints I:=mkH [] [] [] [(16024,⟨105553116272640,[],[],[(.normal,[(11,.k (.d (.int .i64))),(12,.k (.d (.int .i64)))])]⟩),
 (31333,⟨4160749824,[],[],[(.normal,[(8,.k (.row 336 false))])]⟩)] [(122,⟨2199023191808,[],[],[(8,.k (.row 336 false)),(16,.k (.d (.int .i64)))],[((.exit 0),[(8,.k (.row 336 false))])],bnd tb (.slot 15) 1⟩),
 (250,⟨144106391982840064,[],[],[(8,.k (.row 336 false)),(43,.k (.d (.int .i64)))],[((.exit 2),[(8,.k (.row 336 false))])],bnd tb (.cst 2) 1⟩)] [] [] []
def b38:Row I:=⟨272,[.d (.dat 27),.d (.dat 67),.d (.sl 126)],[.k (.row 336 false)],b1C⟩
theorem b5l:RK (b38) :=
 okR [eR b7n,eR b2U,eR a7A] 58 b6H [.tmp 6] Go.Proofs.Tryz.func272 (by kernel_rfl)
def b4a (_:Nat):Hints I:=mkH [(4,[[],[],[1],[],[3],[],[3,4,5],[3,4,5,6],[1,2,3,4,5,6,7],[1,2,3,4,5,6,7,8],[],[0,1,2,3,4,5,6,7,8,9,10],[0,1,2,3,4,5,6,7,8,9,10,11],[]])] [] [] [(83,⟨1006632960,[],[(5,.k (.row 299 false))],[(.normal,[])]⟩)] [(14,⟨72048797944907776,[],[(4,.k (.row 336 false)),(5,.k (.row 299 false))],[(41,.k (.row 336 false)),(43,.k (.d (.int .i64)))],[((.exit 0),[(41,.k (.row 336 false))])],bnd tb (.slot 42) 1⟩)] [] [] []
def a2E (n:Nat):Row I:=⟨270,[.d (.int .i64),.var 216 (.k (.d (.dat 216))) false,.var 27 (.k (.d (.dat 27))) false,.var 39 (.k (.d (.sl 126))) false,.var 330 (.k (.row 336 false)) true,.var 293 (.k (.row 299 false)) true,.var 331 (.k (.d .any)) false],[],a4K n⟩
theorem b1Y (n:Nat)(h_record_Shapes_1:a0F Go.Proofs.Tryz.prog (a2E n) (a6D 331 270 6 [1,2,3,4,5,6])):a0F Go.Proofs.Tryz.prog (a2E (n+1)) (a6D 331 270 6 [1,2,3,4,5,6]) :=
 b7U a2p (a2h (a64 [eR b6E,eR b5l,eS 331 270 6 [1,2,3,4,5,6] h_record_Shapes_1]) 3) mixed 56 (s0:=fun a=>c2n 331 270 7 6 [1,2,3,4,5,6] (a2F tb 56 [.d (.int .i64),.var 216 (.k (.d (.dat 216))) false,.var 27 (.k (.d (.dat 27))) false,.var 39 (.k (.d (.sl 126))) false,.var 330 (.k (.row 336 false)) true,.var 293 (.k (.row 299 false)) true,.var 331 (.k (.d .any)) false] a)) (fn:=Go.Proofs.Tryz.f270) (cd:=a56 Go.Proofs.Tryz.f270) (H:=(b4a n)) (rl:=[]) (fun X c σ a vs F h hv _ hC=>c0J rfl rfl rfl h hv hC) Go.Proofs.Tryz.func270 (by kernel_rfl) (by kernel_rfl) (by kernel_rfl) (by kernel_rfl) (by kernel_rfl) (by kernel_rfl) (by kernel_rfl)
theorem a5M:∀ n:Nat,a0F Go.Proofs.Tryz.prog (a2E n) (a6D 331 270 6 [1,2,3,4,5,6])
 | 0=>b8J (b7f (by kernel_rfl))
 | n+1=>b1Y n (a5M n)
def b7d (_:Nat):Hints I:=mkH [(5,[[],[],[1],[1,2],[],[4],[1,2,3,4,5],[0,1,2,3,4,5,6],[],[0,1,2,3,4,5,6,7,8]])] [] [] [] [] [] [] []
noncomputable def b4u (n:Nat):Row I:=⟨234,[.d (.dat 27),.d (.dat 216)],[.k (.row 299 false),.k (.d (.int .i64))],b1x n⟩
theorem b56 (n:Nat):RK (b4u n) :=
 okR [eR (X9 n),eR b8r,eR a67,eR b5j,eS 331 270 6 [1,2,3,4,5,6] (a5M n)] 46 (b7d n) [.tmp 4,.tmp 5] Go.Proofs.Tryz.func234 (by kernel_rfl)
def b9b (_:Nat):Hints I:=mkH [(12,[[],[0],[],[2],[],[2,3,4],[2,3,4,5],[2,3,4,5,6],[0,1,2,3,4,5,6,7],[0,1,2,3,4,5,6,7,8],[0,1,2,3,4,5,6,7,8,9]]),(20,[[],[0],[0,1],[0,1,2],[],[4],[],[4,5,6],[4,5,6,7],[4,5,6,7,8],[0,1,2,3,4,5,6,7,8,9],[],[11],[11,12],[0,1,2,3,4,5,6,7,8,9,10,11,12,13],[],[15],[],[15,16,17],[15,16,17,18],[15,16,17,18,19],[0,1,2,3,4,5,6,7,8,9,10,11,12,13,14,15,16,17,18,19,20],[0,1,2,3,4,5,6,7,8,9,10,11,12,13,14,15,16,17,18,19,20,21],[],[0,1,2,3,4,5,6,7,8,9,10,11,12,13,14,15,16,17,18,19,20,21,22,23]]),(22,[[],[0],[],[2],[2,3],[0,1,2,3,4],[0,1,2,3,4,5],[0,1,2,3,4,5,6]])] [] [] [(256701646,⟨5070601796450007798672225599488,[],[],[(.normal,[(17,.k (.pv 100))])]⟩)] [(122,⟨2658455991569831745807614120493825664,[24],[],[(7,.k (.row 190 false)),(26,.k (.d (.int .i64)))],[((.exit 0),[(7,.k (.row 190 false))])],bnd tb (.slot 25) 1⟩),
 (125338,⟨2305843000623765504,[],[(10,.lvs [.d (.int .i64),.d (.int .i64),.d (.str),.row 42 false,.row 126 false,.row 120 false,.row 9 false,.row 126 false,.row 338 false,.row 100 false])],[(33,.k (.d (.int .i64)))],[((.exit 2),[])],bnd tb (.slot 32) 1⟩),
 (501370,⟨83076749736557094482535351591346176,[13],[(10,.lvs [.d (.int .i64),.d (.int .i64),.d (.str),.row 42 false,.row 126 false,.row 120 false,.row 9 false,.row 126 false,.row 338 false,.row 100 false])],[(13,.k (.row 126 true)),(67,.k (.d (.int .i64)))],[((.exit 4),[])],bnd tb (.slot 66) 1⟩)] [] [] []
noncomputable def b65 (n:Nat):Row I:=⟨206,[.d (.dat 27),.d (.dat 216)],[.k (.row 190 false)],b4W n⟩
theorem b7H (n:Nat):RK (b65 n) :=
 okR [eR (b56 n),eR c3h,eR (a6t n),eR a67,eR a1f] 122 (b9b n) [.tmp 4] Go.Proofs.Tryz.func206 (by kernel_rfl)
def b9j (_:Nat):Hints I:=mkH [] [] [] [(429,⟨2684354560,[],[],[(.normal,[(29,.k (.d (.bool)))])]⟩),
 (1725,⟨1407374883553280,[],[],[(.normal,[(48,.k (.d (.bool)))])]⟩),
 (3445,⟨128,[],[],[(.normal,[(7,.k (.d (.int .i64)))])]⟩)] [(55258,⟨1180015159965107900416,[],[],[(12,.k (.row 190 false)),(59,.k (.d (.int .i64)))],[((.exit 1),[(12,.k (.row 190 false))])],bnd tb (.slot 58) 1⟩)] [] [] []
noncomputable def b7g (n:Nat):Row I:=⟨175,[.d (.dat 27),.d (.dat 216)],[.k (.row 190 false)],b4V n⟩
theorem b7z (n:Nat):RK (b7g n) :=
 okR [eR b4f,eR (b4o n),eR (a98 n),eR (b7H n)] 83 (b9j n) [.tmp 4] Go.Proofs.Tryz.func175 (by kernel_rfl)
def b84 (_:Nat):Hints I:=mkH [] [] [] [] [(58,⟨1073737888,[10],[],[(5,.k (.row 190 false)),(12,.k (.d (.int .i64)))],[((.exit 0),[(5,.k (.row 190 false))])],bnd tb (.slot 11) 1⟩)] [] [] []
noncomputable def b6l (n:Nat):Row I:=⟨156,[.d (.dat 27),.d (.dat 216)],[.k (.row 190 false)],b4Q n⟩
theorem b75 (n:Nat):RK (b6l n) :=
 okR [eR (b7z n),eR b2P] 31 (b84 n) [.tmp 4] Go.Proofs.Tryz.func156 (by kernel_rfl)
def c0x (_:Nat):Hints I:=mkH [(11,[[],[0],[],[2],[2,3],[0,1,2,3,4],[0,1,2,3,4,5],[0,1,2,3,4,5,6],[],[0,1,2,3,4,5,6,7,8]])] [] [] [] [(58,⟨37778931862957161215648,[17],[],[(5,.k (.row 193 false)),(19,.k (.d (.int .i64)))],[((.exit 0),[(5,.k (.row 193 false))])],bnd tb (.slot 18) 1⟩),
 (119610,⟨1180589368917597646848,[],[],[(51,.k (.d (.int .i64)))],[((.exit 4),[])],bnd tb (.slot 50) 1⟩),
 (239186,⟨1098437886496,[28],[],[(5,.k (.row 193 false)),(30,.k (.d (.int .i64)))],[((.exit 2),[(5,.k (.row 193 false))])],bnd tb (.slot 29) 1⟩)] [] [] []
noncomputable def b79 (n:Nat):Row I:=⟨143,[.d (.dat 27),.d (.dat 100)],[.k (.row 193 false)],b6p n⟩
theorem b8Z (n:Nat):RK (b79 n) :=
 okR [eR (b7F n),eR (b75 n),eR b2P] 76 (c0x n) [.tmp 4] Go.Proofs.Tryz.func143 (by kernel_rfl)
def b8V:Hints I:=mkH [(3,[[],[0],[0,1],[],[3],[3,4],[0,1,2,3,4,5],[0,1,2,3,4,5,6]])] [] [] [] [] [] [] []
def b64:Row I:=⟨160,[.d (.dat 224)],[.k (.d (.sl 100))],a8Y⟩
theorem a9O:RK (b64) :=
 okR [eR c3U] 14 b8V [.tmp 2] Go.Proofs.Tryz.func160 (by kernel_rfl)
def b5e:Hints I:=mkH [] [] [] [] [(58,⟨2147451048,[],[],[(3,.k (.row 100 false)),(15,.k (.d (.int .i64)))],[((.exit 0),[(3,.k (.row 100 false))])],bnd tb (.slot 14) 1⟩),
 (14950,⟨1071644808,[],[],[(3,.k (.row 100 false)),(21,.k (.d (.int .i64)))],[((.exit 2),[(3,.k (.row 100 false))])],bnd tb (.slot 20) 1⟩)] [] [] []
def b3z:Row I:=⟨144,[.d (.dat 193)],[.k (.row 100 false)],a9D⟩
theorem b4v:RK (b3z) :=
 okR [eR c3U,eR a9O] 32 b5e [.tmp 2] Go.Proofs.Tryz.func144 (by kernel_rfl)
end Go.Qx
end
section
namespace Go.Qx
open Go Go.RowKit Go.Sx
set_option maxHeartbeats 1600000
set_option maxRecDepth 100000
def a2D:Hints I:=mkH [] [] [] [] [(26,⟨524080,[],[],[(8,.k (.d (.int .i64)))],[((.exit 0),[]),(.ret,[(4,.k (.d (.int .i64)))])],bnd tb (.slot 7) 1⟩)] [] [] []
def a2n:Row I:=⟨179,[.d (.sl 193),.fn [.dat 193] [.k (.d (.bool))]],[.k (.d (.int .i64))],a0D⟩
theorem a2u:RK (a2n) :=
 okR [] 19 a2D [.tmp 4] Go.Proofs.Tryz.func179 (by kernel_rfl)
def a1R:Row I:=⟨161,[.d (.sl 193),.fn [.dat 193] [.k (.d (.bool))]],[.k (.d (.bool))],a0l⟩
theorem a10:RK (a1R) :=
 okR [eR a2u] 9 Y2 [.tmp 4] Go.Proofs.Tryz.func161 (by kernel_rfl)
def a8L:Hints I:=mkH [(5,[[],[0],[],[2],[0,1,2,3],[0,1,2,3,4]])] [] [] [] [(58,⟨134214512,[],[],[(6,.k (.d (.int .i64))),(12,.k (.d (.int .i64)))],[((.exit 0),[(6,.k (.d (.int .i64)))]),(.ret,[(4,.k (.d (.int .i64))),(5,.k (.d (.bool)))])],bnd tb (.slot 11) 1⟩)] [] [] []
def a7u:Row I:=⟨180,[.lnt [.map 166 (.sl 193),.map 106 (.int .i64)],.d (.sl 100)],[.k (.d (.int .i64)),.k (.d (.bool))],a2k⟩
theorem a3s:RK (a7u) :=
 okR [eR b6m] 28 a8L [.tmp 4,.tmp 5] Go.Proofs.Tryz.func180 (by kernel_rfl)
def b2B:Hints I:=mkH [(4,[[],[],[1],[0,1,2],[0,1,2,3],[0,1,2,3,4],[0,1,2,3,4],[0,1,2,3,4,5],[0,1,2,3,4,5,6,7]])] [] [] [] [(26,⟨137438947168,[],[(4,.lvs [.d (.sl 100),.d (.bool),.d (.sl 3),.d (.sl 3),.d (.bool)])],[(5,.k (.d (.int .i64))),(6,.k (.d (.bool))),(13,.k (.d (.int .i64)))],[((.exit 0),[(5,.k (.d (.int .i64))),(6,.k (.d (.bool)))])],bnd tb (.slot 12) 1⟩)] [] [] []
def b0W:Row I:=⟨181,[.lnt [.map 166 (.sl 193),.map 106 (.int .i64)],.d (.sl 224)],[.k (.d (.dat 224)),.k (.d (.int .i64)),.k (.d (.bool))],a7N⟩
theorem b2c:RK (b0W) :=
 okR [eR a9O,eR a3s] 40 b2B [.cell 4 224,.tmp 5,.tmp 6] Go.Proofs.Tryz.func181 (by kernel_rfl)
def b0K:Hints I:=mkH [] [] [] [] [(122,⟨4398012960560,[],[],[(5,.k (.d (.int .i64))),(25,.k (.d (.int .i64)))],[((.exit 0),[(5,.k (.d (.int .i64)))]),(.ret,[(4,.k (.d (.int .i64)))])],bnd tb (.slot 24) 1⟩)] [] [] []
def a8T:Row I:=⟨163,[.lnt [.map 166 (.sl 193),.map 106 (.int .i64)],.d (.dat 193)],[.k (.d (.int .i64))],a5H⟩
theorem a95:RK (a8T) :=
 okR [eR a3s,eR b2c] 44 b0K [.tmp 4] Go.Proofs.Tryz.func163 (by kernel_rfl)
def a9a:En:=⟨⟨162,b07 tb 168 166 106 (.sl 193) (.int .i64) (.dat 193) [.bool] (fun ma mb q=>a42 q (ma,mb))⟩,c51 (nt:=8) (cd:=a56 Go.Proofs.Tryz.f162) (rl:=[.tmp 3]) (H:=Y2) a2p (a2h (a64 [eR a95]) 3) mixed Go.Proofs.Tryz.func162 (by kernel_rfl) (by kernel_rfl) (by kernel_rfl) (by kernel_rfl) (by kernel_rfl) (by kernel_rfl) (by kernel_rfl)⟩
def b2k:Hints I:=mkH [] [] [(9,[7])] [] [(58,⟨17179853440,[],[],[(7,.k (.row 9 false)),(14,.k (.d (.int .i64)))],[((.exit 0),[(7,.k (.row 9 false))])],bnd tb (.slot 13) 1⟩)] [(122,⟨35115652614144,0,.map 106 (.int .i64),[(36,.k (.d (.int .i64)))],[((.exit 2),[])],bnd tb (.slot 35) 1,1⟩)] [] []
def b03:En:=⟨⟨145,b1g tb 166 106 (.sl 193) (.int .i64) [.sl 9,.int .i64] [.bool] (fun ma mb q=>a6r (ma,mb) q.1 q.2.1)⟩,c6b (nt:=48) (cd:=a56 Go.Proofs.Tryz.f145) (rl:=[.tmp 6]) (H:=b2k) a2p (a2h (a64 [eR a10,a9a]) 3) mixed Go.Proofs.Tryz.func145 (by kernel_rfl) (by kernel_rfl) (by kernel_rfl) (by kernel_rfl) (by kernel_rfl) (by kernel_rfl) (by kernel_rfl)⟩
def b7e (n:Nat):Hints I:=mkH [] [] [] [] [(124,⟨147573952589674340288,[],[(5,.lvs [.map 166 (.sl 193),.map 106 (.int .i64)])],[(6,.k (.row 100 false)),(7,.k (.row 9 false))],[((.exit 0),[(7,.k (.row 9 false))])],fun _=>some n⟩),
 (506,⟨9297159013149614047232,[7],[(5,.lvs [.map 166 (.sl 193),.map 106 (.int .i64)])],[(15,.k (.d (.int .i64)))],[((.exit 4),[])],fun _=>some n⟩),
 (509438,⟨147285722213524717632,[],[],[(6,.k (.row 100 false)),(58,.k (.d (.int .i64)))],[((.exit 2),[(6,.k (.row 100 false))])],bnd tb (.slot 57) 1⟩)] [] [] []
noncomputable def b4i (n:Nat):Row I:=⟨126,[.d (.dat 27),.d (.dat 100)],[.lvs [.map 166 (.sl 193),.map 106 (.int .i64)]],b1A n⟩
theorem b5E (n:Nat):RK (b4i n) :=
 okR [eR b6m,eR (b8Z n),eR b4v,b03] 74 (b7e n) [.cell 4 168] Go.Proofs.Tryz.func126 (by kernel_rfl)
def b1T (_:Nat):Hints I:=mkH [(3,[[],[],[0,1],[0,1,2],[],[0,1,2,4],[0,1,2,3,4,5],[0,1,2,3,4,5,6]])] [] [] [] [] [] [] []
noncomputable def a9s (n:Nat):Row I:=⟨96,[.d (.dat 27),.d (.dat 100)],[.k (.d (.int .i64))],a6l n⟩
theorem b0w (n:Nat):RK (a9s n) :=
 okR [eR (X9 n),eR b0p,eR (b5E n),eR b6m] 21 (b1T n) [.tmp 4] Go.Proofs.Tryz.func96 (by kernel_rfl)
noncomputable def b2e (n:Nat):Row I:=⟨61,[.d (.dat 27),.d (.dat 100)],[.k (.d (.bool))],a8g n⟩
theorem b2t (n:Nat):RK (b2e n) :=
 okR [eR (b0w n)] 9 Y2 [.tmp 4] Go.Proofs.Tryz.func61 (by kernel_rfl)
noncomputable def b0n (n:Nat):Row I:=⟨38,[.d (.dat 27),.d (.dat 27)],[.k (.d (.bool))],a6s n⟩
theorem b1k (n:Nat):RK (b0n n) :=
 okR [eR (b1Q n),eR (b2t n)] 17 Y2 [.tmp 4] Go.Proofs.Tryz.func38 (by kernel_rfl)
def b2l (_:Nat):Hints I:=mkH [(1,[[],[0],[],[0,1,2],[],[4],[],[0,1,2,3,4,5,6],[0,1,2,3,4,5,6,7],[0,1,2,3,4,5,6,7,8],[0,1,2,3,4,5,6,7,8,9]])] [] [] [] [] [] [] []
noncomputable def b0o (n:Nat):Row I:=⟨37,[.d (.dat 51),.var 62 (.k (.d (.sl 61))) false],[.k (.d (.bool))],a6u n⟩
theorem b0G (n:Nat):RK (b0o n) :=
 okR [eR (a9f n),eR (b1k n)] 14 (b2l n) [.tmp 3] Go.Proofs.Tryz.func37 (by kernel_rfl)
noncomputable def b1N (n:Nat):Row I:=⟨19,[.d (.sl 51),.d (.sl 61)],[.k (.d (.bool))],a2L n⟩
theorem a5K (n:Nat):RK (b1N n) :=
 okR [eR a0P,eR (b0G n)] 9 Y2 [.tmp 4] Go.Proofs.Tryz.func19 (by kernel_rfl)
def b81 (_:Nat):Hints I:=mkH [(26,[[],[],[],[1,2],[1,2,3],[],[],[5,6],[5,6,7],[1,2,3,4,5,6,7,8],[1,2,3,4,5,6,7,8,9],[0,1,2,3,4,5,6,7,8,9,10],[0,1,2,3,4,5,6,7,8,9,10,11]])] [] [(23,[12])] [] [(122,⟨17146315456,[],[],[(9,.k (.d (.int .i64))),(25,.k (.d (.int .i64)))],[((.exit 0),[(9,.k (.d (.int .i64)))]),(.ret,[(6,.k (.row 36 false)),(7,.k (.d (.int .i64)))])],bnd tb (.slot 24) 1⟩),
 (506,⟨309485009821345034365303808,[],[],[(10,.k (.row 36 false)),(35,.k (.d (.int .i64)))],[((.exit 2),[(10,.k (.row 36 false))])],bnd tb (.slot 34) 1⟩),
 (1037114,⟨1152886320234782720,[],[],[(12,.k (.row 3 false)),(13,.k (.d (.int .i64))),(14,.k (.d (.int .i64)))],[((.exit 4),[(12,.k (.row 3 false))])],bnd tb (.slot 14) 2⟩),
 (4148474,⟨1208921207928610747547648,[],[],[(15,.k (.row 61 false)),(62,.k (.d (.int .i64)))],[((.exit 6),[(15,.k (.row 61 false))])],bnd tb (.slot 61) 1⟩)] [] [] []
noncomputable def b6T (n:Nat):Row I:=⟨7,[.d (.sl 51),.d (.sl 9),.d (.sl 27)],[.k (.row 36 false),.k (.d (.int .i64))],a09 n⟩
theorem a97 (n:Nat):RK (b6T n) :=
 okR [eR b1M,eR (a5K n)] 89 (b81 n) [.tmp 6,.tmp 7] Go.Proofs.Tryz.func7 (by kernel_rfl)
def b1r (_:Nat):Hints I:=mkH [(2,[[],[],[0,1],[0,1,2],[0,1,2,3]]),(3,[[],[],[],[2],[],[2,3,4],[0,1,2,3,4,5],[0,1,2,3,4,5,6],[0,1,2,3,4,5,6,7],[0,1,2,3,4,5,6,7],[0,1,2,3,4,5,6,7,8],[0,1,2,3,4,5,6,7,8,9,10]])] [(4,[45])] [] [] [] [] [] []
noncomputable def a9m (n:Nat):Row I:=⟨5,[],[.k (.d (.bool))],a1D n⟩
theorem a9B (n:Nat):RK (a9m n) :=
 okR [eR (b5n n),eR b1e,eR a1m,eR b6k,eR (a97 n),eR (a5K n)] 52 (b1r n) [.tmp 0] Go.Proofs.Tryz.func5 (by kernel_rfl)
def a96:Row I:=⟨22,[.d (.int .u8)],[.k (.d (.bool))],a0R⟩
theorem b1h:RK (a96) :=
 okR [] 9 Y2 [.tmp 2] Go.Proofs.Tryz.func22 (by kernel_rfl)
def b0f:Row I:=⟨23,[.d (.int .u8)],[.k (.d (.bool))],a1W⟩
theorem b0Y:RK (b0f) :=
 okR [] 9 Y2 [.tmp 2] Go.Proofs.Tryz.func23 (by kernel_rfl)
def a9H:Row I:=⟨24,[.d (.int .u8)],[.k (.d (.bool))],a1V⟩
theorem b1a:RK (a9H) :=
 okR [] 9 Y2 [.tmp 2] Go.Proofs.Tryz.func24 (by kernel_rfl)
def a7m:Hints I:=mkH [] [] [] [] [(58,⟨562949953159180,[],[],[(3,.k (.d (.int .i64)))],[((.exit 0),[]),(.ret,[(2,.k (.d (.bool)))])],bnd tb (.len (.slot 0)) 1⟩)] [] [] []
def a6d:Row I:=⟨8,[.d (.str)],[.k (.d (.bool))],a0z⟩
theorem a6I:RK (a6d) :=
 okR [eR b1h,eR b0Y,eR b1a] 49 a7m [.tmp 2] Go.Proofs.Tryz.func8 (by kernel_rfl)
def b1m:Hints I:=mkH [(6,[[],[],[1],[0,1,2],[0,1,2,3],[0,1,2,3,4],[0,1,2,3,4],[0,1,2,3,4,5,6],[0,1,2,3,4,5,6,7],[0,1,2,3,4],[0,1,2,3,4],[0,1,2,3,4,9,10],[0,1,2,3,4,9,10,11],[0,1,2,3,4,5,6,7,8,9,10,11,12],[0,1,2,3,4,5,6,7,8,9,10,11,12,13]]),(8,[[],[],[1],[0,1,2],[0,1,2,3],[0,1,2,3,4],[0,1,2,3,4],[0,1,2,3,4,5,6],[0,1,2,3,4,5,6,7],[0,1,2,3,4],[0,1,2,3,4],[0,1,2,3,4,9,10],[0,1,2,3,4,9,10,11],[0,1,2,3,4,5,6,7,8,9,10,11,12],[0,1,2,3,4,5,6,7,8,9,10,11,12,13]]),(10,[[],[],[],[1,2],[1,2,3],[1,2,3,4],[0,1,2,3,4,5],[],[],[7,8],[0,1,2,3,4,5,6,7,8,9],[0,1,2,3,4,5,6,7,8,9,10]])] [] [] [(466,⟨1152921504606838888,[],[],[(.normal,[(3,.k (.d (.sl 9)))])]⟩)] [(58,⟨1152921504606846968,[],[],[(3,.k (.d (.sl 9))),(4,.k (.d (.int .i64)))],[((.exit 0),[(3,.k (.d (.sl 9)))])],bnd tb (.len (.slot 0)) 1⟩),
 (7460,⟨1073733664,[3],[],[(5,.k (.d (.int .i64)))],[((.exit 2),[(5,.k (.d (.int .i64)))])],bnd tb (.len (.slot 3)) 1⟩)] [] [] []
def a87:Row I:=⟨9,[.d (.sl 9)],[.k (.d (.sl 9))],a1F⟩
theorem b0s:RK (a87) :=
 okR [] 61 b1m [.tmp 2] Go.Proofs.Tryz.func9 (by kernel_rfl)
def a54 (n:Nat):Hints I:=mkH [] [] [] [(4094,⟨9443580044234683580928,[],[],[(.normal,[(9,.k (.d (.int .i64)))])]⟩)] [(122,⟨536608864,[],[],[(5,.k (.row 27 false)),(6,.k (.d (.int .i64)))],[((.exit 0),[(5,.k (.row 27 false))])],fun _=>some n⟩),
 (2042,⟨70334384442368,[],[],[(10,.k (.d (.int .i64))),(11,.k (.d (.int .i64)))],[((.exit 2),[(10,.k (.d (.int .i64)))])],bnd tb (.len (.slot 0)) 1⟩),
 (8186,⟨1152851135862681600,[],[],[(12,.k (.d (.bool))),(13,.k (.d (.int .i64)))],[((.exit 4),[(12,.k (.d (.bool)))])],bnd tb (.len (.slot 0)) 1⟩)] [] [] []
noncomputable def a5s (n:Nat):Row I:=⟨3,[.d (.sl 9),.d (.int .u8)],[.k (.d (.bool))],a0g n⟩
theorem a5G (n:Nat):RK (a5s n) :=
 okR [eR (a9B n),eR a1m,eR (a97 n),eR a6I,eR b0s] 79 (a54 n) [.tmp 4] Go.Proofs.Tryz.func3 (by kernel_rfl)
end Go.Qx
end
section
namespace Go.Pl
open Go Go.RowKit Go.Sx Go.Qx Go.Proofs.YtmjdpaeioidmeaaGreatDoor
def a5p (w:World):S:=⟨w,fun b=>match w.heap[b]? with | some (.cells c _ _)=>(c.size,0) | _=>(0,0)⟩
theorem c2q {w:World}{b o:Nat}{cs:List Value}(hn:cs≠[])(h:w.rangeAt b o cs)(hf:∀ j,j<cs.length->w.frozen? ⟨b,o+j,none⟩=false):a0S (a5p w) b o cs:=by
 refine ⟨⟨?_,hf⟩,h⟩
 have hl:0<cs.length:=List.length_pos_iff.2 hn
 have hj:=h (cs.length-1) _ (List.getElem?_eq_getElem (by omega))
 unfold World.cell? at hj
 simp only at hj
 split at hj
 ·rename_i c e f hb
  have h2:o+(cs.length-1)<c.size:=by
   simp only [Option.isSome_none,Bool.false_eq_true,if_false] at hj
   exact (Array.getElem?_eq_some_iff.1 hj).1
  show o+cs.length<=(match w.heap[b]? with | some (.cells c _ _)=>(c.size,0) | _=>(0,0)).1
  rw [hb]
  show o+cs.length<=c.size
  omega
 ·cases hj
theorem c28 {w:World}{base:Nat}{a:Addr}{n:Nat}{cs:List Value}(h:w.cells? base a n=some cs) :
 cs.length=n/\∀ (i:Nat) (v:Value),cs[i]?=some v->w.cell? (a.add i)=some v:=by
 unfold World.cells? at h
 split at h
 ·have hl:cs.length=n:=by simpa using mapM_some_length h
  refine ⟨hl,fun i v hv=>?_⟩
  have hi:i<n:=by have:=(List.getElem?_eq_some_iff.1 hv).1; omega
  have:=mapM_some_get h i i (by simp [hi])
  rw [this,hv]
 ·cases h
theorem c52 (a:Addr)(x j:Nat):(a.add x).add j=a.add (x+j):=by
 unfold Addr.add
 by_cases hx:x=0
 ·subst hx; simp
 ·by_cases hj:j=0
  ·subst hj; simp [hx]
  ·rw [if_neg hj,if_neg hx,if_neg (by omega),Nat.add_assoc]
theorem c3F {w:World}{a:Addr}{v:Value}(h:w.cell? a=some v):a.spot=none:=by
 unfold World.cell? at h
 split at h
 ·split at h
  ·cases h
  ·rename_i hs; simpa using hs
 ·cases h
section
variable {H:Type}{enc:TypeId×Value->H}{P:Program}{w:World}{base:Nat}{spare:Nat->Bool}{held:Bool}
theorem c22 {α:Type} [Rp α] {fuel:Nat}{t e:TypeId}{cs:List Value}{x:DataW H×List MemPlace}(ht:P.underlying t=some (.slice e))(hc:P.cellsOf e=Rp.sz α)(bk:α->Nat)
 (hrd:∀ (n:Nat) (cs:List Value) (x:DataW H×List MemPlace),n<fuel->w.noneFrozen x.2->DataW.trod enc P w base spare held n e cs=some x->∃ d:α,Rp.cells (a5p w) d cs/\bk d<=Rows.uptoBulk x.1) (hz:w.noneFrozen x.2)
 (h:DataW.trod enc P w base spare held fuel t cs=some x) :
 ∃ (ds:List α) (A:Option Addr) (c:Nat),cs=[.slice A ds.length c]/\Sl (a5p w) ds A c/\(ds.map bk).sum+1<=Rows.uptoBulk x.1:=by
 rcases DataW.trod_slice ht h with ⟨rfl,rfl⟩ | ⟨a,len,cap,elems,rest,n,rfl,rfl,rfl,hb,hl,hm,hle,hget,-,-⟩
 ·exact ⟨[],none,0,rfl,Sl.nil_ _ _ _ (Nat.zero_le _),by simp [Rows.uptoBulk]⟩
 have hze:∀ y∈elems,w.noneFrozen y.2:=fun y hy b off hm'=>hz b off (List.mem_append_right _ (List.mem_flatMap.2 ⟨y,List.mem_append_left _ hy,hm'⟩))
 have hzr:∀ i,i<(elems.length+rest.length)*P.cellsOf e->w.frozen? ⟨a.block,a.off+i,none⟩=false:=fun i hi=>hz _ _ (List.mem_append_left _ (List.mem_map.2 ⟨i,List.mem_range.2 hi,rfl⟩))
 have key:∀ (m i:Nat),i+m=len->∃ (ds:List α) (cs:List Value),ds.length=m/\Y0 (a5p w) ds cs /\
  (∀ (j:Nat) (v:Value),cs[j]?=some v->w.cell? (a.add (i*Rp.sz α+j))=some v)/\(ds.map bk).sum<=Rows.uptoBulkAll ((elems.drop i).map (·.1)):=by
  intro m
  induction m with
  | zero=>intro i _; exact ⟨[],[],rfl,rfl,fun j v hv=>by simp at hv,by simp⟩
  | succ m ih =>
    intro i hi
    obtain ⟨ds,cs,h1,h2,h3,h4⟩:=ih (i+1) (by omega)
    have hlt:i<elems.length:=by omega
    have hg:=hget i (by omega)
    rw [List.getElem?_eq_getElem hlt,Option.bind_eq_some_iff] at hg
    obtain ⟨cs0,hcs,htr⟩:=hg
    obtain ⟨d,hd,hbk⟩:=hrd n cs0 _ (by omega) (hze _ (List.getElem_mem hlt)) htr
    obtain ⟨hcl,hci⟩:=c28 hcs
    rw [hc] at hcl hci
    refine ⟨d::ds,cs0++cs,by simp [h1],⟨cs0,cs,rfl,hd,h2⟩,?_,?_⟩
    ·intro j v hv
     by_cases hj:j<Rp.sz α
     ·rw [List.getElem?_append_left (by omega)] at hv
      rw [<- c52]
      exact hci j v hv
     ·rw [List.getElem?_append_right (by omega)] at hv
      have:=h3 _ v hv
      rw [hcl,Nat.add_mul,Nat.one_mul] at this
      have e:i*Rp.sz α+Rp.sz α+(j-Rp.sz α)=i*Rp.sz α+j:=by omega
      rw [e] at this
      exact this
    ·rw [List.drop_eq_getElem_cons hlt]
     simp only [List.map_cons,List.sum_cons,Rows.uptoBulkAll]
     omega
 obtain ⟨ds,cs,h1,h2,h3,h4⟩:=key len 0 (by omega)
 simp only [Nat.zero_mul,Nat.zero_add,List.drop_zero] at h3 h4
 refine ⟨ds,some a,cap,by rw [h1],⟨by omega,hm,cs,h2,fun hn=>?_⟩,by simp only [Rows.uptoBulk]; omega⟩
 have hne:=h2.ne_nil hn
 cases cs with
 | nil=>exact absurd rfl hne
 | cons v0 r =>
   have h0:=h3 0 v0 rfl
   have hs:a.spot=none:=c3F (by simpa [Addr.add] using h0)
   obtain ⟨b,o,sp⟩:=a
   simp only at hs
   subst hs
   refine ⟨b,o,rfl,c2q (by simp) ?_ (fun j hj=>hzr j (by
    have h5:=h2.len
    rw [h5,h1] at hj
    rw [hc,hle]
    exact Nat.lt_of_lt_of_le hj (Nat.mul_le_mul_right _ (Nat.le_add_right _ _))))⟩
   intro j v hv
   have:=h3 j v hv
   unfold Addr.add at this
   by_cases hj:j=0
   ·subst hj; simpa using this
   ·rw [if_neg hj] at this
    exact this
end
theorem c6o (s:ByteArray):s.data.toList.length=s.size:=Array.length_toList
end Go.Pl
end
section
namespace Go.Pl
open Go Go.RowKit Go.Sx Go.Qx
def c43 (l:List ByteArray):Nat:=(l.map a6R).sum+1
end Go.Pl
end
section
namespace Go.Pl
open Go Go.RowKit Go.Sx Go.Qx Go.Proofs.YtmjdpaeioidmeaaGreatDoor
theorem c9:Go.Proofs.Tryz.prog.cellsOf 9=1:=by kernel_rfl
theorem c5:Go.Proofs.Tryz.prog.cellsOf 5=1:=by kernel_rfl
section
variable {H:Type}{enc:TypeId×Value->H}{w:World}{base:Nat}{spare:Nat->Bool}{held:Bool}
theorem c8z {n:Nat}{cs:List Value}{x:DataW H×List MemPlace}(hz:w.noneFrozen x.2)(h:DataW.trod enc Go.Proofs.Tryz.prog w base spare held n 9 cs=some x):∃ d:ByteArray,(rpStr).cells (a5p w) d cs/\a6R d<=Rows.uptoBulk x.1:=by
 obtain ⟨s,rfl,rfl,_⟩:=DataW.trod_string Go.Proofs.Tryz.underlying9 h
 refine ⟨s,rfl,?_⟩
 simp only [Rows.uptoBulk,a6R]
 have:s.data.toList.length=s.size:=c6o s
 omega
end
end Go.Pl
end

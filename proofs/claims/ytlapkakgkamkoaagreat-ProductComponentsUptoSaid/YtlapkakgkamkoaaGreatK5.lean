/- Part 5. -/
import Derived.Test.YtlapkakgkamkoaaGreatK3
import Derived.Test.YtlapkakgkamkoaaGreatK4
import Derived.ChangeArms
import Derived.KernelRfl
import Derived.OpenShut
import Derived.Test.YtlapkakgkamkoaaGreatRows
section
namespace Go.Qx
open Go Go.RowKit Go.Sx
structure Flip (J:Nat->Prop)(w0 w:World):Prop where
 size:w.heap.size=w0.heap.size
 far:∀ b,¬ J b->w.heap[b]?=w0.heap[b]?
 off:∀ b o,¬ (J b/\o=5)->w.cell? ⟨b,o,none⟩=w0.cell? ⟨b,o,none⟩
 on:∀ b,J b->w.cell? ⟨b,5,none⟩=some (.bool true)
 fz:∀ a,w.frozen? a=w0.frozen? a
 os:w.os=w0.os
 tape:w.tape=w0.tape
 output:w.output=w0.output
 drawn:w.drawn=w0.drawn
theorem Flip.refl {J:Nat->Prop}(w:World)(h:∀ b,¬ J b):Flip J w w:=⟨rfl,fun _ _=>rfl,fun _ _ _=>rfl,fun b hb=>absurd hb (h b),fun _=>rfl,rfl,rfl,rfl,rfl⟩
theorem Flip.store {J J':Nat->Prop}{w0 w:World}(h:Flip J w0 w){g:Nat}{u:Value}(hc:w.cell? ⟨g,5,none⟩=some u)(hJ:∀ b,J' b↔J b\/b=g):Flip J' w0 (w.setCell ⟨g,5,none⟩ (.bool true)):=by
 refine ⟨?_,fun b hb=>?_,fun b o hb=>?_,fun b hb=>?_,fun a=>(b4I _ _ _ _).trans (h.fz a),h.os,h.tape,h.output,h.drawn⟩
 ·exact (b0x g [.bool true] 5 w).trans h.size
 ·have hn:¬ (J b\/b=g):=fun k=>hb ((hJ b).2 k)
  exact (a6V g [.bool true] 5 w b fun e=>hn (.inr e)).trans (h.far b fun e=>hn (.inl e))
 ·rw [World.cell?_setCell_other _ _ _ _ (fun e=>hb (by cases e; exact ⟨(hJ _).2 (.inr rfl),rfl⟩))]
  exact h.off b o fun k=>hb ⟨(hJ b).2 (.inl k.1),k.2⟩
 ·by_cases e:b=g
  ·subst e
   exact World.cell?_setCell_same _ _ _ hc
  ·rw [World.cell?_setCell_other _ _ _ _ (fun e'=>e (by cases e'; rfl))]
   exact h.on b (((hJ b).1 hb).resolve_right e)
section
variable {P:Program}{ops:Array Oper}{Q:Exit->Act->World->Prop}{n:Nat}{F:Fr}{rest:List Oper}{d:Option Nat}{ty:TypeId}{pos:String}{aft:Array Edge}
theorem c3X {T:TypeId}{x y:Operand}{b o:Nat}{v v0:Value}{w:World}(hx:ev F x=.pointer (some ⟨b,o,none⟩))(hkx:Q0 n x=true)(hky:Q0 n y=true)(hv:(ev F y).cells.toList=[v])
 (hT:(P.info? T).map (·.size)=some 1) (h1:v.oneCell'=true) (hc:w.cell? ⟨b,o,none⟩=some v0) (hf:w.frozen? ⟨b,o,none⟩=false) (h:wpList P ops Q rest (fr n (K2 F d undef)) (w.setCell ⟨b,o,none⟩ v)) :
 wpList P ops Q (⟨d,.store T x y,ty,pos,aft,none⟩::rest) (fr n F) w:=by
 have hsz:(ev F y).cells.size=1:=by rw [<- Array.length_toList,hv]; rfl
 refine b7j rfl (w.setCell ⟨b,o,none⟩ v) ?_ h
 show Sem.run P (do Instr.storeAt T ((fr n F).eval x) ((fr n F).eval y); pure Next.skip) w=_
 rw [w7 hkx,w7 hky,hx]
 have hst:=run_storeCells_cells (P:=P) b o [v] 0 w (fun j hj=>by
  obtain rfl:j=0:=by simpa using hj
  simp [hc]) (fun j hj=>by
  obtain rfl:j=0:=by simpa using hj
  simpa using hf) (fun u hu=>by rw [List.mem_singleton.1 hu]; exact h1)
 simp only [Nat.add_zero,World.setCells] at hst
 simp only [Instr.storeAt,Instr.sureAddr,storeVar,Sem.run_bind,Sem.run_pure,Result.andThen_ok,Sx.run_sizeOf hT,hsz,ne_eq,not_true_eq_false,if_false,hv,hst]
end
structure FlipTy {γ δ:Type} [Rp γ] [Rp δ] (B:Nat)(to:γ->List δ)(ps ng:δ->List Int)(bt:δ->Bool):Prop where
 szγ:Rp.sz γ=1
 szδ:Rp.sz δ=3
 cγ:∀ {σ:S} {x:γ} {cs:List Value},Rp.cells σ x cs↔∃ A c,cs=[.slice A (to x).length c]/\Sl σ (to x) A c/\(to x≠[]->∃ g,A=some ⟨g,0,none⟩/\B<=g)
 cδ:∀ {σ:S} {d:δ} {cs:List Value},Rp.cells σ d cs↔∃ A1 c1 A2 c2,cs=[.slice A1 (ps d).length c1,.slice A2 (ng d).length c2,.bool (bt d)]/\Sl σ (ps d) A1 c1/\Sl σ (ng d) A2 c2
section
variable {γ δ:Type} [Rp γ] [Rp δ] {B:Nat}{to:γ->List δ}{ps ng:δ->List Int}{bt:δ->Bool}
def JB (w:World)(A:Option Addr)(i b:Nat):Prop:=∃ ob oo j l c,A=some ⟨ob,oo,none⟩/\j<i/\w.cell? ⟨ob,oo+j,none⟩=some (.slice (some ⟨b,0,none⟩) l c)
theorem b7K (hT:FlipTy B to ps ng bt){τ:S}{bs:List γ}{A:Option Addr}{k:Nat}(hs:Sl τ bs A k){i:Nat}{x:γ}(hx:bs[i]?=some x)(h2:2<=(to x).length) :
 ∃ ob oo g c d0 d1 r,A=some ⟨ob,oo,none⟩/\τ.w.cell? ⟨ob,oo+i,none⟩=some (.slice (some ⟨g,0,none⟩) (to x).length c)/\B<=g/\to x=d0::d1::r/\Sl τ (to x) (some ⟨g,0,none⟩) c /\
  τ.w.cell? ⟨g,5,none⟩=some (.bool (bt d1))/\τ.w.frozen? ⟨g,5,none⟩=false:=by
 obtain ⟨ob,oo,cs,e1,h1,h3⟩:=hs.at_ hx
 obtain ⟨A',c,rfl,h4,h5⟩:=hT.cγ.1 h1
 obtain ⟨g,rfl,hg⟩:=h5 (by intro e; rw [e] at h2; simp at h2)
 rw [hT.szγ,Nat.mul_one] at h3
 have hc0:=h3.2 0 _ rfl
 rw [Nat.add_zero] at hc0
 match e:to x,h2 with
 | d0::d1::r,_ =>
   have h4':=h4
   rw [e] at h4'
   obtain ⟨b,o,cs,e2,k1,k2⟩:=h4'.at_ (i:=1) (x:=d1) rfl
   cases e2
   obtain ⟨A1,c1,A2,c2,rfl,_,_⟩:=hT.cδ.1 k1
   rw [hT.szδ] at k2
   have k3:=k2.2 2 _ rfl
   have k4:=k2.1.2 2 (by simp)
   refine ⟨ob,oo,g,c,d0,d1,r,e1,by rw [<- e]; exact hc0,hg,rfl,by rw [<- e]; exact h4,?_,?_⟩
   ·simpa using k3
   ·simpa using k4
theorem b6y (hT:FlipTy B to ps ng bt){τ:S}{bs:List γ}{A:Option Addr}{k:Nat}(hs:Sl τ bs A k)(h2:∀ x∈bs,2<=(to x).length){i b:Nat}(hi:i<=bs.length)(hJ:JB τ.w A i b) :
 B<=b/\∃ v,τ.w.cell? ⟨b,5,none⟩=some (.bool v):=by
 obtain ⟨ob,oo,j,l,c,e1,hj,hc⟩:=hJ
 have hjl:j<bs.length:=by omega
 obtain ⟨ob',oo',g,c',d0,d1,r,e2,k1,k2,k3,k4,k5,k6⟩:=b7K hT hs (List.getElem?_eq_getElem hjl) (h2 _ (List.getElem_mem hjl))
 rw [e1] at e2
 cases e2
 rw [hc] at k1
 cases k1
 exact ⟨k2,_,k5⟩
theorem d1u (i:Nat)(h:i<9223372036854775807):IntKind.wrap .i64 ((i:Int)+1)=((i+1:Nat):Int):=by
 rw [IntKind.wrap_i64]
 omega
theorem b9G {m:Nat}:∀ (q i:Nat),i+q=m->y4 (fun i=>if i<m then some (Fl.next (i+1)) else some (Fl.done ())) (q+1) i=some ()
 | 0,i,h=>by
   have:¬ i<m:=by omega
   simp [y4,this]
 | q+1,i,h=>by
   have:i<m:=by omega
   simp only [y4,this,if_true,Option.bind_some]
   exact b9G q (i+1) (by omega)
set_option maxHeartbeats 1000000 in
theorem c7l (hT:FlipTy B to ps ng bt){P:Program}{Q:Exit->Act->World->Prop}{F:Fr}{τ:S}{bs:List γ}{A:Option Addr}{k:Nat}(hs:Sl τ bs A k)(h2:∀ x∈bs,2<=(to x).length)
 {Ti Tb To Tx Tr Tg:TypeId} {i1 i2 i16 i17 i18 i19:Nat} {t0 t1 t2 t3 t4 t5 t6 t7 t8 t9 ta tb tc u1 u2:TypeId} {p0 p1 p2 p3 p4 p5 p6 p7 p8 p9 pa pb pc:String} {a0 a1 a2 a3 a4 a5 a6 a7 a8 a9 aa ab ac:Array Edge}
 (hTo:P.underlying To=some (.slice Tx)) (hTx:(P.info? Tx).map (·.size)=some 1) (hfx:a7U P Tx 0 0) (hr1:a3k P Tr) (hTr:P.underlying Tr=some (.slice Tg)) (hTg:(P.info? Tg).map (·.size)=some 3) (hfg:a7U P Tg 2 2) (hTb:(P.info? Tb).map (·.size)=some 1)
 (h12:F 12=.slice A bs.length k) (h58:F 58=.int .i64 (bs.length:Int)) (h59:F 59=.int .i64 0)
 (hk:∀ F' w,Flip (JB τ.w A bs.length) τ.w w->F' 12=F 12->Q .normal (fr 71 F') w) :
 (Code.block i1 (.loop (.seq (.region i16 #[⟨some 60,.binOp .lss Ti (.tmp 59) (.tmp 58) u1,t0,p0,a0,none⟩] false) (.seq (.cond (.tmp 60) .skip (.exit i1)) (.seq (.block i2 (.seq
   (.region i17 #[⟨some 61,.move (.tmp 59),t1,p1,a1,none⟩,⟨some 13,.assign (.tmp 61),t2,p2,a2,none⟩] false)
   (.region i18 #[⟨some 62,.move (.tmp 12),t3,p3,a3,none⟩,⟨some 63,.move (.tmp 13),t4,p4,a4,none⟩,⟨some 64,.indexAddr To (.tmp 62) (.tmp 63),t5,p5,a5,none⟩,⟨some 65,.fieldAddr Tx (.tmp 64) 0,t6,p6,a6,none⟩,⟨some 66,.load Tr (.tmp 65),t7,p7,a7,none⟩,
     ⟨some 67,.indexAddr Tr (.tmp 66) (.const (.int .i64 1)),t8,p8,a8,none⟩,⟨some 68,.fieldAddr Tg (.tmp 67) 2,t9,p9,a9,none⟩,⟨none,.store Tb (.tmp 68) (.const (.bool true)),ta,pa,aa,none⟩] false)))
   (.region i19 #[⟨some 69,.binOp .add Ti (.tmp 59) (.const (.int .i64 1)) u2,tb,pb,ab,none⟩,⟨some 59,.move (.tmp 69),tc,pc,ac,none⟩] false)))))).wp P Q (fr 71 F) τ.w:=by
 let Inv:Nat->Act->World->Prop:=fun i a w=>i<=bs.length/\∃ F',a=fr 71 F'/\F' 12=.slice A bs.length k/\F' 58=.int .i64 (bs.length:Int)/\F' 59=.int .i64 (i:Int)/\Flip (JB τ.w A i) τ.w w
 let Post:Unit->Exit->Act->World->Prop:=fun _ e a w=>e=.exit i1/\∃ F',a=fr 71 F'/\F' 12=.slice A bs.length k/\Flip (JB τ.w A bs.length) τ.w w
 refine wp_block (wp_mono (b7B (P:=P) (step:=fun i=>if i<bs.length then some (Fl.next (i+1)) else some (Fl.done ())) Inv Post (fun b a w h=>by cases h.1) (fun i fl a w hst hI=>?_) (bs.length+1) 0 () (fr 71 F) τ.w (b9G bs.length 0 (by omega)) ⟨Nat.zero_le _,F,rfl,h12,h58,h59,Flip.refl _ fun b ⟨_,_,j,_,_,_,hj,_⟩=>by omega⟩) fun e a w hp=>?_)
 ·obtain ⟨hi,F',rfl,f12,f58,f59,hfl⟩:=hI
  refine wp_seq (wp_region_lit ?_)
  refine c1N (.int .i64 (i:Int)) (.int .i64 (bs.length:Int)) (.bool (decide ((i:Int)<(bs.length:Int)))) f59 f58 rfl rfl c8P ?_
  refine wpList_nil (a5q ?_)
  by_cases hlt:i<bs.length
  ·rw [if_pos hlt] at hst
   cases hst
   have hd:decide ((i:Int)<(bs.length:Int))=true:=by simpa using hlt
   refine wp_seq (c6b rfl hd rfl (wp_skip (a5q ?_)))
   refine wp_seq (wp_block (wp_seq (wp_region_lit ?_)))
   refine b0a (.int .i64 (i:Int)) f59 rfl ?_
   refine b5C (.int .i64 (i:Int)) rfl rfl ?_
   refine wpList_nil (a5q (wp_region_lit ?_))
   obtain ⟨ob,oo,g,c,d0,d1,r,rfl,k1,k2,k3,k4,k5,k6⟩:=b7K hT hs (List.getElem?_eq_getElem hlt) (h2 _ (List.getElem_mem hlt))
   have hw1:w.cell? ⟨ob,oo+i,none⟩=some (.slice (some ⟨g,0,none⟩) (to bs[i]).length c):=by
    rw [hfl.off ob (oo+i) fun hJ=>?_]
    ·exact k1
    ·obtain ⟨_,v,hv⟩:=b6y hT hs h2 hi hJ.1
     rw [hJ.2,hv] at k1
     cases k1
   have hw2:∃ u,w.cell? ⟨g,5,none⟩=some u:=by
    by_cases hJ:JB τ.w (some ⟨ob,oo,none⟩) i g
    ·exact ⟨_,hfl.on g hJ⟩
    ·exact ⟨_,(hfl.off g 5 fun h=>hJ h.1).trans k5⟩
   obtain ⟨u,hu⟩:=hw2
   have hfz:w.frozen? ⟨g,5,none⟩=false:=(hfl.fz _).trans k6
   have hl2:2<=(to bs[i]).length:=h2 _ (List.getElem_mem hlt)
   refine b0a (.slice (some ⟨ob,oo,none⟩) bs.length k) f12 rfl ?_
   refine b0a (.int .i64 (i:Int)) rfl rfl ?_
   refine a8l (g:=ob) (o:=oo) (len:=bs.length) (k:=k) (sz:=1) (j:=(i:Int)) (by omega) (by omega) rfl rfl rfl rfl hTo hTx ?_
   refine a7j ob (oo+(i:Int).toNat*1) 0 (oo+i) rfl rfl hfx (by simp) ?_
   refine b1K ob (oo+i) (.slice (some ⟨g,0,none⟩) (to bs[i]).length c) rfl rfl (b67 hr1 hw1) ?_
   refine a8l (g:=g) (o:=0) (len:=(to bs[i]).length) (k:=c) (sz:=3) (j:=1) (by omega) (by omega) rfl rfl rfl rfl hTr hTg ?_
   refine a7j g (0+(1:Int).toNat*3) 2 5 rfl rfl hfg rfl ?_
   refine c3X (v:=.bool true) rfl rfl rfl rfl hTb rfl hu hfz ?_
   refine wpList_nil (d2g (a5q (wp_region_lit ?_)))
   refine c1N (.int .i64 (i:Int)) (.int .i64 1) (.int .i64 ((i+1:Nat):Int)) f59 rfl rfl rfl (by have:=c8W (P:=P) (w:=w.setCell ⟨g,5,none⟩ (.bool true)) (T:=Ti) (x:=.tmp 59) (y:=.const (.int .i64 1)) (k:=.i64) (a:=(i:Int)) (b:=1); rw [d1u i (Nat.lt_of_lt_of_le hlt hs.le_max)] at this; exact this) ?_
   refine b0a (.int .i64 ((i+1:Nat):Int)) rfl rfl ?_
   refine wpList_nil ⟨rfl,by omega,_,rfl,f12,f58,rfl,hfl.store hu fun b=>⟨fun ⟨ob',oo',j,l,c',e,hj,hc⟩=>?_,fun h=>?_⟩⟩
   ·cases e
    by_cases ej:j<i
    ·exact .inl ⟨ob,oo,j,l,c',rfl,ej,hc⟩
    ·obtain rfl:j=i:=by omega
     rw [k1] at hc
     cases hc
     exact .inr rfl
   ·rcases h with ⟨ob',oo',j,l,c',e,hj,hc⟩ | rfl
    ·exact ⟨ob',oo',j,l,c',e,by omega,hc⟩
    ·exact ⟨ob,oo,i,_,_,rfl,by omega,k1⟩
  ·rw [if_neg hlt] at hst
   cases hst
   have hd:decide ((i:Int)<(bs.length:Int))=false:=by simpa using hlt
   obtain rfl:i=bs.length:=by omega
   exact wp_seq (c4q rfl hd rfl (wp_exit (c9o ⟨rfl,_,rfl,f12,hfl⟩)))
 ·obtain ⟨rfl,F',rfl,f12,hfl⟩:=hp
  exact d2d (hk F' w hfl (f12.trans h12.symm))
theorem c1p (hT:FlipTy B to ps ng bt){τ:S}{bs:List γ}{A:Option Addr}{k:Nat}(hs:Sl τ bs A k)(h2:∀ x∈bs,2<=(to x).length){w:World}(hfl:Flip (JB τ.w A bs.length) τ.w w)
 {b o:Nat} {v:Value} (hc:τ.w.cell? ⟨b,o,none⟩=some v) (hv:∀ x,v≠.bool x):w.cell? ⟨b,o,none⟩=some v:=by
 rw [hfl.off b o fun hJ=>?_]
 ·exact hc
 ·obtain ⟨_,x,hx⟩:=b6y hT hs h2 (Nat.le_refl _) hJ.1
  rw [hJ.2,hx] at hc
  exact hv x (Option.some.inj hc).symm
theorem c81 {σ τ:S}:∀ {xs:List Int} {cs:List Value},J1 σ xs cs->J1 τ xs cs/\∀ v∈cs,∀ x,v≠.bool x
 | [],_,h=>by cases h; exact ⟨rfl,fun v hv=>by cases hv⟩
 | n::xs,_,⟨c,r,e,hc,hr⟩=>by
   obtain ⟨h1,h2⟩:=c81 (τ:=τ) hr
   have hc':c=[.int .i64 n]:=hc
   refine ⟨⟨c,r,e,hc,h1⟩,fun v hv x=>?_⟩
   subst e
   subst hc'
   rcases List.mem_append.1 hv with hv | hv
   ·rw [List.mem_singleton.1 hv]; intro h; cases h
   ·exact h2 v hv x
theorem b2w (hT:FlipTy B to ps ng bt){τ:S}{bs:List γ}{A:Option Addr}{k:Nat}(hs:Sl τ bs A k)(h2:∀ x∈bs,2<=(to x).length){w:World}(hfl:Flip (JB τ.w A bs.length) τ.w w)
 {xs:List Int} {A1:Option Addr} {c1:Nat} (h:Sl τ xs A1 c1):Sl (⟨w,τ.L⟩:S) xs A1 c1:=by
 obtain ⟨h1,h3,cs,h4,h5⟩:=h
 obtain ⟨k1,k2⟩:=c81 (τ:=⟨w,τ.L⟩) h4
 refine ⟨h1,h3,cs,k1,fun hn=>?_⟩
 obtain ⟨b,o,e,h6⟩:=h5 hn
 exact ⟨b,o,e,⟨h6.1.1,fun j hj=>(hfl.fz _).trans (h6.1.2 j hj)⟩,fun j v hv=>c1p hT hs h2 hfl (h6.2 j v hv) (k2 v (List.mem_of_getElem? hv))⟩
theorem c2w (hT:FlipTy B to ps ng bt){τ:S}{bs:List γ}{A:Option Addr}{k:Nat}(hs:Sl τ bs A k)(h2:∀ x∈bs,2<=(to x).length){w:World}(hfl:Flip (JB τ.w A bs.length) τ.w w)
 {d:δ} {cs:List Value} (h:Rp.cells τ d cs):Rp.cells (⟨w,τ.L⟩:S) d cs:=by
 obtain ⟨A1,c1,A2,c2,e,k1,k2⟩:=hT.cδ.1 h
 exact hT.cδ.2 ⟨A1,c1,A2,c2,e,b2w hT hs h2 hfl k1,b2w hT hs h2 hfl k2⟩
theorem c1m (hT:FlipTy B to ps ng bt){τ:S}{bs:List γ}{A:Option Addr}{k:Nat}(hs:Sl τ bs A k)(h2:∀ x∈bs,2<=(to x).length){w:World}(hfl:Flip (JB τ.w A bs.length) τ.w w) :
 ∀ {ds:List δ} {cs:List Value},J1 τ ds cs->J1 (⟨w,τ.L⟩:S) ds cs
 | [],_,h=>h
 | _::_,_,⟨c,r,e,hc,hr⟩=>⟨c,r,e,c2w hT hs h2 hfl hc,c1m hT hs h2 hfl hr⟩
theorem c3A {σ:S}{f:γ->γ}:∀ {xs:List γ} {cs:List Value},cs.length=xs.length->(∀ (i:Nat) (x:γ) (v:Value),xs[i]?=some x->cs[i]?=some v->Rp.cells σ (f x) [v])->J1 σ (xs.map f) cs
 | [],[],_,_=>rfl
 | x::xs,v::cs,h,hk=>⟨[v],cs,rfl,hk 0 x v rfl rfl,c3A (by simpa using h) fun i x' v' h1 h2=>hk (i+1) x' v' h1 h2⟩
theorem c8C (hT:FlipTy B to ps ng bt){setL:δ->δ}{setB:γ->γ}(hset:∀ x d0 d1 r,to x=d0::d1::r->to (setB x)=d0::setL d1::r)(hL:∀ d,ps (setL d)=ps d/\ng (setL d)=ng d/\bt (setL d)=true)
 {τ:S} {bs:List γ} {A:Option Addr} {k:Nat} (hs:Sl τ bs A k) (h2:∀ x∈bs,2<=(to x).length) {w:World} (hfl:Flip (JB τ.w A bs.length) τ.w w):Sl (⟨w,τ.L⟩:S) (bs.map setB) A k:=by
 have hs0:=hs
 obtain ⟨h1,h3,cs,h4,h5⟩:=hs
 have hlen:cs.length=bs.length:=by rw [h4.len,hT.szγ,Nat.mul_one]
 refine ⟨by rw [List.length_map]; exact h1,h3,cs,c3A hlen fun i x v hx hv=>?_,fun hn=>?_⟩
 ·have hi:i<bs.length:=(List.getElem?_eq_some_iff.1 hx).1
  obtain ⟨ob,oo,g,c,d0,d1,r,eA,k1,k2,k3,k4,k5,k6⟩:=b7K hT hs0 hx (h2 x (List.mem_of_getElem? hx))
  obtain ⟨b,o,eA',h6⟩:=h5 (by intro e; rw [e] at hi; simp at hi)
  rw [eA] at eA'
  cases eA'
  have hv':=h6.2 i v hv
  rw [k1] at hv'
  cases hv'
  have hJ:JB τ.w A bs.length g:=⟨ob,oo,i,_,_,eA,hi,k1⟩
  have hto:=hset x d0 d1 r k3
  have hl:(to (setB x)).length=(to x).length:=by rw [hto,k3]; rfl
  refine hT.cγ.2 ⟨some ⟨g,0,none⟩,c,by rw [hl],?_,fun _=>⟨g,rfl,k2⟩⟩
  obtain ⟨m1,m2,cs2,m3,m4⟩:=k4
  refine ⟨by rw [hl]; exact m1,m2,?_⟩
  rw [k3] at m3
  obtain ⟨q0,r0,rfl,f0,q1,r1,rfl,f1,f2⟩:=m3
  obtain ⟨b',o',eg,m5⟩:=m4 (by rw [k3]; exact List.cons_ne_nil _ _)
  cases eg
  obtain ⟨A1,c1,A2,c2,rfl,s1,s2⟩:=hT.cδ.1 f1
  have hq0:q0.length=3:=(Rp.len f0).trans hT.szδ
  match q0,hq0 with
  | [x0,x1,x2],_ =>
    refine ⟨[x0,x1,x2]++([.slice A1 (ps d1).length c1,.slice A2 (ng d1).length c2,.bool true]++r1),?_,fun _=>⟨g,0,rfl,⟨?_,fun j hj=>(hfl.fz _).trans (m5.1.2 j (by simpa using hj))⟩,fun j v hv=>?_⟩⟩
    ·rw [hto]
     obtain ⟨l1,l2,l3⟩:=hL d1
     exact ⟨_,_,rfl,c2w hT hs0 h2 hfl f0,_,_,rfl,hT.cδ.2 ⟨A1,c1,A2,c2,by rw [l1,l2,l3],by rw [l1]; exact b2w hT hs0 h2 hfl s1,by rw [l2]; exact b2w hT hs0 h2 hfl s2⟩,c1m hT hs0 h2 hfl f2⟩
    ·simpa using m5.1.1
    ·by_cases ej:j=5
     ·subst ej
      have hv2:some (Value.bool true)=some v:=hv
      cases hv2
      rw [Nat.zero_add]
      exact hfl.on g hJ
     ·show w.cell? ⟨g,0+j,none⟩=some v
      rw [hfl.off g (0+j) fun h=>ej (by omega)]
      refine m5.2 j v ?_
      match j,ej,hv with
      | 0,_,hv=>exact hv
      | 1,_,hv=>exact hv
      | 2,_,hv=>exact hv
      | 3,_,hv=>exact hv
      | 4,_,hv=>exact hv
      | j+6,_,hv=>exact hv
 ·have hn':bs≠[]:=fun e=>hn (by rw [e]; rfl)
  obtain ⟨b,o,eA,h6⟩:=h5 hn'
  refine ⟨b,o,eA,⟨h6.1.1,fun j hj=>(hfl.fz _).trans (h6.1.2 j hj)⟩,fun j v hv=>?_⟩
  refine c1p hT hs0 h2 hfl (h6.2 j v hv) fun x e=>?_
  have hj:j<bs.length:=by rw [<- hlen]; exact (List.getElem?_eq_some_iff.1 hv).1
  obtain ⟨ob,oo,g,c,d0,d1,r,eA',k1,_⟩:=b7K hT hs0 (List.getElem?_eq_getElem hj) (h2 _ (List.getElem_mem hj))
  rw [eA] at eA'
  cases eA'
  have:=h6.2 j v hv
  rw [k1] at this
  cases this
  cases e
theorem c7v {J:Nat->Prop}{M:Nat->Prop}{σ τ:S}{w:World}(hst:Stp M σ τ)(hJ:∀ b,J b->σ.N<=b)(hfl:Flip J τ.w w):Stp M σ (⟨w,τ.L⟩:S):=by
 have hno:∀ b,b<σ.w.heap.size->¬ J b:=fun b hb h=>by
  have h':σ.w.heap.size<=b:=hJ b h
  omega
 refine ⟨⟨?_,hst.wext.len,fun b o v ho hc=>?_,?_,fun b o hb hf=>(hfl.fz _).trans (hst.wext.nf b o hb hf)⟩,hfl.os.trans hst.os,hfl.tape.trans hst.tape,hfl.output.trans hst.output,fun b hb hn=>?_⟩
 ·show σ.w.heap.size<=w.heap.size
  rw [hfl.size]
  exact hst.wext.size
 ·show w.cell? ⟨b,o,none⟩=some v
  rw [hfl.off b o fun h=>hno b (a4B hc) h.1]
  exact hst.wext.cell b o v ho hc
 ·show σ.w.drawn<=w.drawn
  rw [hfl.drawn]
  exact hst.wext.drawn
 ·obtain ⟨h1,h2⟩:=hst.block b hb hn
  exact ⟨(hfl.far b (hno b hb)).trans h1,h2⟩
end
end Go.Qx
end
section
namespace Go.Qx
open Go Go.RowKit Go.Sx
def c0Y:Nat->Code->List Code
 | m+1,.seq a b=>a::c0Y m b
 | _,_=>[]
def c5w:Nat->Code->Code
 | m+1,.seq _ b=>c5w m b
 | _,c=>c
theorem c2c:∀ (m:Nat) (c:Code),b2M (c0Y m c) (c5w m c)=c
 | 0,c=>by cases c<;>rfl
 | m+1,c=>by
   cases c with
   | seq a b=>exact congrArg (Code.seq a) (c2c m b)
   | _=>rfl
section
variable {I:TypeId->Type} [∀ E,Rp (I E)] {P:Program}{ρ:Type}
def c5J (s:St I)(E:TypeId)(xs:List (I E)):St I:=⟨71,fun i=>bif Nat.beq i 12 then some (.sl E xs false) else none,fun l=>match s.O l with
 | some _=>some none
 | none=>none,s.nx⟩
def c5Q (tb:Tab I)(disp:a0H I)(H:Hints I)(E:TypeId)(setB:I E->I E)(ok:I E->Bool)(c20:Code)(fin:Ex->St I->Option ρ)(s:St I):Option ρ:=match s.F 12 with
 | some (.vw l)=>match s.O l with
   | some (some (.row E' xs false))=>Option.bind (a2f E E' xs) fun bs=>bif bs.all ok then a3U tb disp H c20 1023 ρ (c5J s E (bs.map setB)) fin else none
   | _=>none
 | _=>none
def c8Z (tb:Tab I)(disp:a0H I)(H:Hints I)(E:TypeId)(setB:I E->I E)(ok:I E->Bool)(r14 c20:Code)(fin:Ex->St I->Option ρ):Ex->St I->Option ρ
 | .normal,s=>a3U tb disp H r14 2044 ρ s fun e s1=>match e with
   | .normal=>Option.bind (evP s1.n s1.F (.tmp 56)) fun q=>match q with
     | .bool b=>bif b then c5Q tb disp H E setB ok c20 fin s1 else a3U tb disp H c20 1023 ρ s1 fin
     | _=>none
   | _=>none
 | .ret,s=>fin .ret s
 | .exit _,_=>none
set_option maxHeartbeats 1000000 in
theorem c93 {tb:Tab I}{disp:a0H I}{H:Hints I}(ht:TabOk P tb)(hd:DispOk P disp)(hmx:P.follows .mixedOrders=true){B f:Nat}{T1 T2 E G:TypeId}{to:I E->List (I G)}{ps ng:I G->List Int}{bt:I G->Bool}
 (hT:FlipTy B to ps ng bt) {setL:I G->I G} {setB:I E->I E} (hset:∀ x d0 d1 r,to x=d0::d1::r->to (setB x)=d0::setL d1::r) (hL:∀ d,ps (setL d)=ps d/\ng (setL d)=ng d/\bt (setL d)=true) {ok:I E->Bool} (hok:∀ x,ok x=true->2<=(to x).length)
 {run:b8s I [.d (.dat T1),.d (.dat T2)] (TyT I [.k (.d (.sl E)),.k (.d (.int .i64))])} {fn:Func} {cd r14 c20:Code}
 {Ti Tb To Tx Tr Tg Tl:TypeId} {i1 i2 i15 i16 i17 i18 i19:Nat} {t0 t1 t2 t3 t4 t5 t6 t7 t8 t9 ta tb' tc u1 u2 l1 l2 l3:TypeId} {p0 p1 p2 p3 p4 p5 p6 p7 p8 p9 pa pb pc q1 q2 q3:String} {a0 a1 a2 a3 a4 a5 a6 a7 a8 a9 aa ab ac b1 b2 b3:Array Edge}
 (hf : P.funcs[f]? = some fn) (hb : fn.body = some cd) (hname : (fn.name == "runtime.NumGoroutine") = false) (hn : fn.ntmps = 71) {rl : List ResultVar} (hres : fn.results.toList = rl)
 (hrest:c5w 8 cd=.seq (.seq r14 (.cond (.tmp 56) (.seq (.region i15 #[⟨some 57,.move (.tmp 12),l1,q1,b1,none⟩,⟨some 58,.call ⟨.builtin .len,#[.tmp 57],#[Tl]⟩,l2,q2,b2,none⟩,⟨some 59,.move (.const (.int .i64 0)),l3,q3,b3,none⟩] false)
   (.block i1 (.loop (.seq (.region i16 #[⟨some 60,.binOp .lss Ti (.tmp 59) (.tmp 58) u1,t0,p0,a0,none⟩] false) (.seq (.cond (.tmp 60) .skip (.exit i1)) (.seq (.block i2 (.seq
   (.region i17 #[⟨some 61,.move (.tmp 59),t1,p1,a1,none⟩,⟨some 13,.assign (.tmp 61),t2,p2,a2,none⟩] false)
   (.region i18 #[⟨some 62,.move (.tmp 12),t3,p3,a3,none⟩,⟨some 63,.move (.tmp 13),t4,p4,a4,none⟩,⟨some 64,.indexAddr To (.tmp 62) (.tmp 63),t5,p5,a5,none⟩,⟨some 65,.fieldAddr Tx (.tmp 64) 0,t6,p6,a6,none⟩,⟨some 66,.load Tr (.tmp 65),t7,p7,a7,none⟩,
     ⟨some 67,.indexAddr Tr (.tmp 66) (.const (.int .i64 1)),t8,p8,a8,none⟩,⟨some 68,.fieldAddr Tg (.tmp 67) 2,t9,p9,a9,none⟩,⟨none,.store Tb (.tmp 68) (.const (.bool true)),ta,pa,aa,none⟩] false)))
   (.region i19 #[⟨some 69,.binOp .add Ti (.tmp 59) (.const (.int .i64 1)) u2,tb',pb,ab,none⟩,⟨some 59,.move (.tmp 69),tc,pc,ac,none⟩] false))))))) .skip)) c20)
 (hTo:P.underlying To=some (.slice Tx)) (hTx:(P.info? Tx).map (·.size)=some 1) (hfx:a7U P Tx 0 0) (hr1:a3k P Tr) (hTr:P.underlying Tr=some (.slice Tg)) (hTg:(P.info? Tg).map (·.size)=some 3) (hfg:a7U P Tg 2 2) (hTb:(P.info? Tb).map (·.size)=some 1) (hTl:P.underlying Tl=some (.slice Tx))
 (hctx:c1Q H (c0Y 8 cd) 1=true) (hc14:a1Q H r14 2044=true) (hc20:a1Q H c20 1023=true) (hlo:tb.lo=B)
 (hrun:run=fun x1 x2=>a3U tb disp H (b2M (c0Y 8 cd) .skip) 1 _ (a6x tb 71 [.d (.dat T1),.d (.dat T2)] (x1,x2,())) (c8Z tb disp H E setB ok r14 c20 (fin tb [.d (.dat T1),.d (.dat T2)] [.k (.d (.sl E)),.k (.d (.int .i64))] rl))) :
 a4N P (⟨f,[.d (.dat T1),.d (.dat T2)],[.k (.d (.sl E)),.k (.d (.int .i64))],run⟩:Row I) (fun w _=>w.heap.size=B):=by
 refine c0G (s0:=a6x tb 71 [.d (.dat T1),.d (.dat T2)]) ht 71 (fun _ _ _ _ _ _ h _ _ _=>h) hf hb hname hn hres rfl (hlo:=.inr fun w vs h=>by rw [hlo,h]; exact Nat.le_refl _) fun X c σ F Q a res hX hC hrel happ hk=>?_
 obtain ⟨vs0,hC⟩:=hC
 have hB:σ.w.heap.size=B:=hC
 have happ':a3U tb disp H (b2M (c0Y 8 cd) .skip) 1 _ (a6x tb 71 [.d (.dat T1),.d (.dat T2)] (a.1,a.2.1,())) (c8Z tb disp H E setB ok r14 c20 (fin tb [.d (.dat T1),.d (.dat T2)] [.k (.d (.sl E)),.k (.d (.int .i64))] rl))=some res:=by
  rw [hrun] at happ
  exact happ
 have hcd:=c2c 8 cd
 rw [<- hcd,hrest]
 refine c2U ht hd hmx (c0Y 8 cd) 1 hctx _ _ _ res X c σ F Q hX happ' hrel (fun e s' c' τ F' hne h1 h2 h3 h4=>?_) (fun s' c' τ F' h1 h2 h3 h4=>?_)
 ·cases e with
  | normal=>exact absurd rfl hne
  | exit i=>cases h1
  | ret=>exact hk .ret s' c' τ F' h1 h2 h3 h4
 ·refine wp_seq (wp_seq (a2a ht hd hmx r14 2044 hc14 _ s' _ res X c' τ F' _ hX h1 h3 fun e s1 c1 υ F1 g1 g2 g3 g4 _=>?_))
  cases e with
  | exit i=>cases g1
  | ret=>cases g1
  | normal =>
    obtain ⟨q,hq,g1⟩:=bind_some g1
    rw [g3.len] at hq
    obtain ⟨e1,e2⟩:=b1H g3.frame hq
    split at g1
    ·rename_i bb
     simp only [RV] at e2
     cases bb with
     | false =>
       refine a5q (wp_cond_false ((w7 e1).trans e2) (wp_skip (a5q ?_)))
       exact a2a ht hd hmx c20 1023 hc20 _ s1 _ res X c1 υ F1 Q hX g1 g3 fun e s2 c2 υ2 F2 m1 m2 m3 m4 _=>hk e s2 c2 υ2 F2 m1 (Cx.le_trans h2 (Cx.le_trans g2 m2)) m3 ((h4.trans g4).trans m4)
     | true =>
       refine a5q (wp_cond_true ((w7 e1).trans e2) ?_)
       have g1':c5Q tb disp H E setB ok c20 (fin tb [.d (.dat T1),.d (.dat T2)] [.k (.d (.sl E)),.k (.d (.int .i64))] rl) s1=some res:=g1
       unfold c5Q at g1'
       split at g1'
       ·rename_i l hl12
        split at g1'
        ·rename_i E' xs hol
         obtain ⟨bs,hbs,g1'⟩:=bind_some g1'
         obtain ⟨eE,rfl⟩:=a0m hbs
         subst eE
         obtain ⟨hall,hex⟩:=j7 g1'
         have h2':∀ x∈xs,2<=(to x).length:=fun x hx=>hok x (List.all_eq_true.1 hall x hx)
         obtain ⟨υ3,w3,st3,r3⟩:=g3.pub l
         have hv:=r3.frame 12 (.vw l) (by unfold Qx.pub; rw [hol]; exact hl12)
         simp only [RV] at hv
         obtain ⟨p,hp,hF12⟩:=hv
         have ho:=r3.objs l (.row E' xs true) (by unfold Qx.pub; rw [hol]; exact Q6 _ _ _)
         obtain ⟨A,k,ow,k1,k2⟩:=ho
         rw [k1] at hp
         cases hp
         have hs:Sl υ3 xs A k:=k2.sl
         have hF12':F1 12=.slice A xs.length k:=hF12
         rw [<- w3]
         refine wp_seq (wp_region_lit ?_)
         refine b0a (.slice A xs.length k) hF12' rfl ?_
         refine b2G A xs.length k rfl rfl hTl ?_
         refine b0a (.int .i64 0) rfl rfl ?_
         refine wpList_nil (a5q (c7l hT hs h2' hTo hTx hfx hr1 hTr hTg hfg hTb hF12' rfl rfl fun F' w hfl hF'=>a5q ?_))
         have hst4:Stp X.M σ (⟨w,υ3.L⟩:S):=c7v ((h4.trans g4).trans st3) (fun b hJ=>by
          have:=(b6y hT hs h2' (Nat.le_refl _) hJ).1
          show σ.w.heap.size<=b
          omega) hfl
         have hsl:=c8C hT hset hL hs h2' hfl
         have hr4:Rel X c1 (⟨w,υ3.L⟩:S) (c5J s1 E' (xs.map setB)) 71 F':=by
          refine ⟨rfl,fun i p hp=>?_,fun l' o ho=>?_,fun l1 l2 p1 p2 b ⟨o,ho⟩=>?_,fun l' p b ⟨o,ho⟩=>?_,fun l' hl'=>?_,⟨?_,r3.base.2⟩,noN.nests fun l' E0 E0' u ys q e=>?_⟩
          ·have hp':(bif Nat.beq i 12 then some (PV.sl E' (xs.map setB) false) else none)=some p:=hp
           obtain ⟨hi,hp'⟩:=j7 hp'
           cases hp'
           have:=Nat.eq_of_beq_eq_true hi
           subst this
           simp only [RV]
           exact ⟨A,k,by rw [List.length_map]; exact hF'.trans hF12',hsl,fun h=>by cases h⟩
          all_goals
           simp only [c5J] at *
          ·split at ho<;>cases ho
          ·split at ho<;>cases ho
          ·split at ho<;>cases ho
          ·split at hl'
           ·cases hl'
           ·rename_i hn; exact g3.nom l' hn
          ·show X.N<=w.heap.size
           rw [hfl.size]
           exact r3.base.1
          ·split at e<;>cases e
         exact a2a ht hd hmx c20 1023 hc20 _ _ _ res X c1 (⟨w,υ3.L⟩:S) F' Q hX hex hr4 fun e s2 c2 υ2 F2 m1 m2 m3 m4 _=>hk e s2 c2 υ2 F2 m1 (Cx.le_trans h2 (Cx.le_trans g2 m2)) m3 (hst4.trans m4)
        ·cases g1'
       ·cases g1'
    ·cases g1
end
end Go.Qx
end
section
namespace Go.Qx
open Go Go.RowKit Go.Sx
set_option maxHeartbeats 1600000
set_option maxRecDepth 100000
abbrev RK (r:Row I):Prop:=y9 Go.Proofs.Tryz.prog r
abbrev RO (r:Rio I):Prop:=b5g Go.Proofs.Tryz.prog r
def mkH (a:List (Nat×List (List Nat)))(b c:List (Nat×List Nat))(j:List (Nat×JH))(l:List (Nat×LH I))(k:List (Nat×KH I))(ns:List (Nat×NH I))(u:List (Nat×Nat)):Hints I :=
 ⟨fun i=>(asc a i).getD [],fun i=>(asc b i).getD [],fun i=>(asc c i).getD [],asc j,asc l,asc k,asc ns,fun i=>(asc u i).getD 0⟩
def Y5:Hints I:=mkH [] [] [] [] [] [] [] []
structure En where
 ans:Ans I
 ok:EntOk Go.Proofs.Tryz.prog ans
def enL:List En->List (Ans I)
 | []=>[]
 | e::r=>e.ans::enL r
theorem b9P:∀ l:List En,c0T Go.Proofs.Tryz.prog (enL l)
 | []=>trivial
 | e::r=>⟨e.ok,b9P r⟩
def eR {r:Row I}(h:RK r):En:=⟨c0k tb r,b4D b2x h⟩
def eO {r:Rio I}(h:RO r):En:=⟨c7X tb r,c4h b2x h⟩
def eS {r:Row I}(T f j:Nat)(is:List Nat)(h:a4N Go.Proofs.Tryz.prog r (b7J T f j is)):En:=⟨b9p tb r (c0K T f j is),b8Z b2x h (fun _ _ _ _ _ _ _ _ _ hO h hc hv=>c5r hO h hc hv)⟩
theorem okR {r:Row I}(l:List En){fn:Func}(nt:Nat)(H:Hints I)(rl:List ResultVar)(hf:(Go.Proofs.Tryz.prog).funcs[r.f]?=some fn)
 (h : (fn.body, fn.name == "runtime.NumGoroutine", fn.ntmps, fn.results.toList, Nat.ble r.ps.length nt, a1Q H (b44 fn) 1, r.run) = (some (b44 fn), false, nt, rl, true, true, b43 r.ps (c8M tb (b7U (enL l) 3) H (b44 fn) nt r.ps r.rs rl))) : RK r := by
 simp only [Prod.mk.injEq] at h
 obtain ⟨h1,h2,h3,h4,h5,h6,h7⟩:=h
 exact d0f b2x (a9u (b9P l) 3) mixed nt hf h1 h2 h3 h4 h5 h6 h7
theorem okO {r:Rio I}(l:List En){fn:Func}(nt:Nat)(H:Hints I)(rl:List ResultVar)(hf:(Go.Proofs.Tryz.prog).funcs[r.f]?=some fn)
 (h : (fn.body, fn.name == "runtime.NumGoroutine", fn.ntmps, fn.results.toList, Nat.ble (r.ps.length + 1) nt, a1Q H (b44 fn) 1, r.run) = (some (b44 fn), false, nt, rl, true, true, fun xs => b43 r.ps (c8O tb (b7U (enL l) 3) H (b44 fn) nt r.E r.ps r.rs rl xs))) : RO r := by
 simp only [Prod.mk.injEq] at h
 obtain ⟨h1,h2,h3,h4,h5,h6,h7⟩:=h
 exact d1d b2x (a9u (b9P l) 3) mixed nt hf h1 h2 h3 h4 h5 h6 h7
def d1v:Row I:=⟨66,[.d (.sl 3)],[.k (.row 3 false)],a4E 8⟩
theorem c5W:y9 Go.Proofs.Tryz.prog d1v:=c2n b2x mixed Go.Proofs.Tryz.func66 (by kernel_rfl) (by kernel_rfl) (by kernel_rfl) Go.Proofs.Tryz.underlying22 rfl (by kernel_rfl) (fun _=>by kernel_rfl)
def c9M:Rio I:=⟨130,3,[],[],c0y⟩
theorem d1q:b5g Go.Proofs.Tryz.prog c9M:=c54 (I:=I) (E:=3) Go.Proofs.Tryz.lay130 130 (by kernel_rfl) (fun x=>x) Iff.rfl ⟨_,_,Go.Proofs.Tryz.func130,rfl,by kernel_rfl⟩
def c9X:Row I:=⟨153,[.d (.str),.d (.str)],[.k (.d (.int .i64))],c3e⟩
theorem d0h:y9 Go.Proofs.Tryz.prog c9X:=d0v Go.Proofs.Tryz.func153 (by kernel_rfl) rfl (by kernel_rfl) (by kernel_rfl)
def c9O:Row I:=⟨137,[.d (.sl 33)],[.k (.row 33 false)],a4E 128⟩
theorem d1p:y9 Go.Proofs.Tryz.prog c9O:=c2n b2x mixed Go.Proofs.Tryz.func137 (by kernel_rfl) (by kernel_rfl) (by kernel_rfl) Go.Proofs.Tryz.underlying28 rfl (by kernel_rfl) (fun _=>by kernel_rfl)
def b5U:Hints I:=mkH [] [] [] [] [(26,⟨65532,[],[],[(3,.k (.d (.int .i64)))],[((.exit 0),[]),(.ret,[(2,.k (.d (.bool)))])],bnd tb (.len (.slot 0)) 1⟩)] [] [] []
def b3e:Row I:=⟨5,[.d (.sl 22)],[.k (.d (.bool))],a4G⟩
theorem b4p:RK (b3e) :=
 okR [] 16 b5U [.tmp 2] Go.Proofs.Tryz.func5 (by kernel_rfl)
def a9J:Hints I:=mkH [] [] [] [] [(26,⟨524080,[],[],[(8,.k (.d (.int .i64)))],[((.exit 0),[]),(.ret,[(4,.k (.d (.int .i64)))])],bnd tb (.slot 7) 1⟩)] [] [] []
def a8Q:Row I:=⟨100,[.d (.sl 22),.fn [.sl 3] [.k (.d (.bool))]],[.k (.d (.int .i64))],a3R⟩
theorem a9w:RK (a8Q) :=
 okR [] 19 a9J [.tmp 4] Go.Proofs.Tryz.func100 (by kernel_rfl)
def a7D:Row I:=⟨69,[.d (.sl 22),.fn [.sl 3] [.k (.d (.bool))]],[.k (.d (.bool))],a1A⟩
theorem a74:RK (a7D) :=
 okR [eR a9w] 9 Y5 [.tmp 4] Go.Proofs.Tryz.func69 (by kernel_rfl)
def b6O:Row I:=⟨70,[.d (.sl 3),.var 3 (.k (.d (.int .i64))) false],[.k (.d (.bool))],a9e⟩
theorem b8b:RK (b6O) :=
 okR [] 8 Y5 [.tmp 3] Go.Proofs.Tryz.func70 (by kernel_rfl)
def b84:Row I:=⟨36,[.d (.int .i64),.d (.sl 22)],[.k (.d (.bool))],a5o⟩
theorem b9V:RK (b84) :=
 okR [eR a74,eR b8b] 9 Y5 [.tmp 4] Go.Proofs.Tryz.func36 (by kernel_rfl)
def b0b:Hints I:=mkH [] [] [] [] [(26,⟨524080,[],[],[(8,.k (.d (.int .i64)))],[((.exit 0),[]),(.ret,[(4,.k (.d (.int .i64)))])],bnd tb (.slot 7) 1⟩)] [] [] []
def a81:Row I:=⟨106,[.d (.sl 3),.fn [.int .i64] [.k (.d (.bool))]],[.k (.d (.int .i64))],a4f⟩
theorem a97:RK (a81) :=
 okR [] 19 b0b [.tmp 4] Go.Proofs.Tryz.func106 (by kernel_rfl)
def a75:Row I:=⟨74,[.d (.sl 3),.fn [.int .i64] [.k (.d (.bool))]],[.k (.d (.bool))],Y9⟩
theorem a2w:RK (a75) :=
 okR [eR a97] 9 Y5 [.tmp 4] Go.Proofs.Tryz.func74 (by kernel_rfl)
def b3t:Hints I:=mkH [] [] [] [] [(26,⟨524080,[],[],[(8,.k (.d (.int .i64)))],[((.exit 0),[]),(.ret,[(4,.k (.d (.int .i64)))])],bnd tb (.slot 7) 1⟩)] [] [] []
def b1q:Row I:=⟨129,[.d (.sl 3),.d (.int .i64)],[.k (.d (.int .i64))],a5P⟩
theorem b2l:RK (b1q) :=
 okR [] 19 b3t [.tmp 4] Go.Proofs.Tryz.func129 (by kernel_rfl)
def a9Z:Row I:=⟨102,[.d (.sl 3),.d (.int .i64)],[.k (.d (.bool))],a2O⟩
theorem b0g:RK (a9Z) :=
 okR [eR b2l] 9 Y5 [.tmp 4] Go.Proofs.Tryz.func102 (by kernel_rfl)
def b6g:Row I:=⟨101,[.d (.int .i64),.var 22 (.k (.d (.sl 3))) false],[.k (.d (.bool))],a8s⟩
theorem b69:RK (b6g) :=
 okR [eR b0g] 7 Y5 [.tmp 3] Go.Proofs.Tryz.func101 (by kernel_rfl)
def b7Y:Row I:=⟨71,[.d (.sl 3),.d (.sl 3)],[.k (.d (.bool))],a7w⟩
theorem b8E:RK (b7Y) :=
 okR [eR a2w,eR b69] 8 Y5 [.tmp 4] Go.Proofs.Tryz.func71 (by kernel_rfl)
def b1Z:Hints I:=mkH [(6,[[],[],[0,1],[0,1,2],[],[],[5],[4,5,6],[4,5,6,7],[0,1,2,3,4,5,6,7,8]]),(11,[[],[],[0,1],[0,1,2],[],[],[5],[4,5,6],[4,5,6,7],[0,1,2,3,4,5,6,7,8]])] [] [] [] [(58,⟨1152921504606846012,[],[],[(0,.k (.row 3 false)),(3,.k (.d (.int .i64)))],[((.exit 0),[(0,.k (.row 3 false))]),(.ret,[(2,.k (.row 3 false))])],bnd tb (.len (.slot 0)) 1⟩)] [(59690,⟨18014397972611112,0,.row 3,[(3,.k (.d (.int .i64))),(5,.k (.d (.int .i64)))],[((.exit 2),[(3,.k (.d (.int .i64)))])],bnd tb (.len (.slot 4)) 1,0⟩)] [] []
def b0p:Row I:=⟨132,[.row 3 false],[.k (.row 3 false)],a20⟩
theorem b0T:RK (b0p) :=
 okR [] 61 b1Z [.tmp 2] Go.Proofs.Tryz.func132 (by kernel_rfl)
def b2j:Row I:=⟨131,[.d (.sl 3)],[.k (.row 3 true)],a6d⟩
theorem b3J:RK (b2j) :=
 okR [] 9 Y5 [.tmp 2] Go.Proofs.Tryz.func131 (by kernel_rfl)
def b97:Row I:=⟨103,[.d (.sl 3)],[.k (.row 3 true)],a7g⟩
theorem c0V:RK (b97) :=
 okR [eR c5W,eO d1q,eR b0T,eR b3J] 11 Y5 [.tmp 2] Go.Proofs.Tryz.func103 (by kernel_rfl)
def c1B:Hints I:=mkH [(1,[[],[0],[0,1],[],[3],[0,1,2,3,4],[],[6],[0,1,2,3,4,5,6,7],[0,1,2,3,4,5,6,7,8]])] [] [] [] [] [] [] []
def b9D:Row I:=⟨72,[.d (.dat 56)],[.k (.d (.dat 56))],a9B⟩
theorem c0R:RK (b9D) :=
 okR [eR c0V] 12 c1B [.cell 2 56] Go.Proofs.Tryz.func72 (by kernel_rfl)
def c1G:Hints I:=mkH [(9,[[],[0],[],[],[2,3],[2,3,4],[2,3,4,5],[0,1,2,3,4,5,6],[0,1,2,3,4,5,6,7],[0,1,2,3,4,5,6,7,8]]),(14,[[],[],[0,1],[0,1,2],[],[],[4,5],[4,5,6],[0,1,2,3,4,5,6,7],[0,1,2,3,4,5,6,7,8],[],[0,1,2,3,4,5,6,7,8,9,10]]),(15,[[],[0],[],[],[2,3],[2,3,4],[2,3,4,5],[0,1,2,3,4,5,6],[0,1,2,3,4,5,6,7],[0,1,2,3,4,5,6,7,8]]),(19,[[],[0],[],[2],[2,3],[0,1,2,3,4],[0,1,2,3,4,5],[0,1,2,3,4,5,6]])] [] [] [] [(58,⟨4835703278458516698261504,[],[(10,.lvs [.row 56 false]),(12,.lvs [.row 56 false])],[(20,.k (.d (.int .i64)))],[((.exit 0),[]),(.ret,[(11,.k (.d (.bool))),(1000012,.lvs [.d (.any)])])],bnd tb (.slot 19) 1⟩),
 (59802,⟨549722324992,[],[(14,.lvs [.row 3 false,.row 3 false,.d (.bool)])],[(25,.k (.d (.int .i64)))],[((.exit 2),[])],bnd tb (.slot 24) 1⟩),
 (119610,⟨295147902980329963520,[],[(14,.lvs [.row 3 false,.row 3 false,.d (.bool)])],[(41,.k (.d (.int .i64)))],[((.exit 4),[])],bnd tb (.slot 40) 1⟩)] [] [] []
def b99:Row I:=⟨37,[.d (.int .i64),.d (.sl 22),.d (.sl 22),.d (.sl 22),.bor 3],[.lvs [.row 56 false],.k (.d (.bool))],a9I⟩
theorem c0E:RK (b99) :=
 okR [eR b8E,eR c0R] 83 c1G [.cell 10 52,.tmp 11] Go.Proofs.Tryz.func37 (by kernel_rfl)
def b8e:Hints I:=mkH [(5,[[],[],[0,1],[0,1,2],[],[],[4,5],[4,5,6],[4,5,6,7],[0,1,2,3,4,5,6,7,8]])] [] [] [] [] [(26,⟨2147483440,0,.row 3,[(8,.k (.d (.int .i64)))],[((.exit 0),[]),(.ret,[(4,.k (.d (.bool)))])],bnd tb (.slot 7) 1,0⟩)] [] []
def b6r:Rio I:=⟨38,3,[.d (.sl 22)],[.k (.d (.bool))],a4H⟩
theorem b6V:RO (b6r) :=
 okO [] 31 b8e [.tmp 4] Go.Proofs.Tryz.func38 (by kernel_rfl)
def tyM (B:Nat):List TE:=[⟨2,Int,rpK .i64⟩,
 ⟨3,Int,rpK .i64⟩,
 ⟨4,Bool,rpBool⟩,
 ⟨9,ByteArray,rpStr⟩,
 ⟨22,List Int,@rpList _ (rpK .i64)⟩,
 ⟨25,List Api_TypeNode,@rpList _ (a0j)⟩,
 ⟨27,Api_Type,a54⟩,
 ⟨28,List Val,@rpList _ (rpVal)⟩,
 ⟨29,List Key,@rpList _ (rpKey)⟩,
 ⟨30,List Ent,@rpList _ (rpEnt)⟩,
 ⟨31,List ByteArray,@rpList _ (rpStr)⟩,
 ⟨33,Val,rpVal⟩,
 ⟨36,List Api_Range,@rpList _ (a1n)⟩,
 ⟨38,Api_Names,a2p⟩,
 ⟨40,Api_Line,a58⟩,
 ⟨44,Semtypebase_Source,a1e⟩,
 ⟨50,List Api_Goal,@rpList _ (a0o)⟩,
 ⟨52,Api_Box,@b5v Api_Box Api_Goal a0o B a21⟩,
 ⟨56,Api_Goal,a0o⟩,
 ⟨62,List Api_Field,@rpList _ (a1m)⟩,
 ⟨63,Int×Int,J0 (rpK .i64) (rpK .i64)⟩,
 ⟨65,Api_TypeNode,a0j⟩,
 ⟨88,Ent,rpEnt⟩,
 ⟨109,Key,rpKey⟩,
 ⟨111,Api_Field,a1m⟩,
 ⟨149,Value_used,a4C⟩,
 ⟨206,Api_Range,a1n⟩]
abbrev J (B:Nat)(E:TypeId):Type:=(a8v (tyM B) E).α
instance rJ (B:Nat) (E:TypeId):Rp (J B E):=(a8v (tyM B) E).rp
def c3H (B:Nat):Fd (J B) (J B 27) inferInstance:=(a11 (rg:=a54) (Z1 (K9 65:Fd (J B) (List Api_TypeNode) (@rpList _ (a0j))) ((a0q .i64:Fd (J B) Int (rpK .i64)))) b3v b8i (fun _=>rfl) (fun _ _ _=>Iff.rfl):Fd (J B) Api_Type a54)
def c4G (B:Nat):Fd (J B) (J B 33) inferInstance:=(a11 (rg:=rpVal) (Z1 (a0q .i64:Fd (J B) Int (rpK .i64)) (Z1 (a0q .i64:Fd (J B) Int (rpK .i64)) (Z1 (b2E:Fd (J B) ByteArray (rpStr)) (Z1 (K9 33:Fd (J B) (List Val) (@rpList _ (rpVal))) (Z1 (K9 109:Fd (J B) (List Key) (@rpList _ (rpKey))) (Z1 (K9 88:Fd (J B) (List Ent) (@rpList _ (rpEnt))) ((K9 9:Fd (J B) (List ByteArray) (@rpList _ (rpStr)))))))))) Val.to Val.of (fun _=>rfl) Val.cells_to:Fd (J B) Val rpVal)
def b54 (B:Nat):Fd (J B) (J B 38) inferInstance:=(a11 (rg:=a2p) (Z1 (a2b:Fd (J B) Bool (rpBool)) ((K9 9:Fd (J B) (List ByteArray) (@rpList _ (rpStr))))) b1o b6Q (fun _=>rfl) (fun _ _ _=>Iff.rfl):Fd (J B) Api_Names a2p)
def c3l (B:Nat):Fd (J B) (J B 40) inferInstance:=(a11 (rg:=a58) (Z1 (a0q .i64:Fd (J B) Int (rpK .i64)) (Z1 (a0q .i64:Fd (J B) Int (rpK .i64)) (Z1 (K9 206:Fd (J B) (List Api_Range) (@rpList _ (a1n))) (Z1 (b2u 38 (b54 B):Fd (J B) Api_Names (a2p)) (Z1 (K9 3:Fd (J B) (List Int) (@rpList _ (rpK .i64))) (Z1 (K9 3:Fd (J B) (List Int) (@rpList _ (rpK .i64))) (Z1 (K9 9:Fd (J B) (List ByteArray) (@rpList _ (rpStr))) ((K9 9:Fd (J B) (List ByteArray) (@rpList _ (rpStr))))))))))) b3d b8n (fun _=>rfl) (fun _ _ _=>Iff.rfl):Fd (J B) Api_Line a58)
def b3h (B:Nat):Fd (J B) (J B 44) inferInstance:=(a11 (rg:=a1e) (Z1 (K9 3:Fd (J B) (List Int) (@rpList _ (rpK .i64))) ((a0q .i64:Fd (J B) Int (rpK .i64)))) a5k a7Z (fun _=>rfl) (fun _ _ _=>Iff.rfl):Fd (J B) Semtypebase_Source a1e)
def c3S (B:Nat):Fd (J B) (J B 52) inferInstance:=(d1X (I:=J B) (G:=56) B a21:Fd (J B) Api_Box (@b5v Api_Box Api_Goal a0o B a21))
def c26 (B:Nat):Fd (J B) (J B 56) inferInstance:=(a11 (rg:=a0o) (Z1 (K9 3:Fd (J B) (List Int) (@rpList _ (rpK .i64))) (Z1 (K9 3:Fd (J B) (List Int) (@rpList _ (rpK .i64))) ((a2b:Fd (J B) Bool (rpBool))))) b3Q b8j (fun _=>rfl) (fun _ _ _=>Iff.rfl):Fd (J B) Api_Goal a0o)
def c4g (B:Nat):Fd (J B) (J B 63) inferInstance:=(Z1 (a0q .i64:Fd (J B) Int (rpK .i64)) ((a0q .i64:Fd (J B) Int (rpK .i64))):Fd (J B) (Int×Int) (J0 (rpK .i64) (rpK .i64)))
def b8V (B:Nat):Fd (J B) (J B 65) inferInstance:=(a11 (rg:=a0j) (Z1 (a0q .i64:Fd (J B) Int (rpK .i64)) (Z1 (a0q .i64:Fd (J B) Int (rpK .i64)) (Z1 (a0q .i64:Fd (J B) Int (rpK .i64)) (Z1 (b2E:Fd (J B) ByteArray (rpStr)) (Z1 (K9 3:Fd (J B) (List Int) (@rpList _ (rpK .i64))) (Z1 (K9 111:Fd (J B) (List Api_Field) (@rpList _ (a1m))) ((b2u 63 (c4g B):Fd (J B) (Int×Int) (J0 (rpK .i64) (rpK .i64)))))))))) a8I b2R (fun _=>rfl) (fun _ _ _=>Iff.rfl):Fd (J B) Api_TypeNode a0j)
def c9z (B:Nat):Fd (J B) (J B 88) inferInstance:=(a11 (rg:=rpEnt) (Z1 (K9 33:Fd (J B) (List Val) (@rpList _ (rpVal))) (Z1 (a2b:Fd (J B) Bool (rpBool)) ((b2u 33 (c4G B):Fd (J B) Val (rpVal))))) Ent.to Ent.of (fun _=>rfl) Ent.cells_to:Fd (J B) Ent rpEnt)
def c4i (B:Nat):Fd (J B) (J B 109) inferInstance:=(a11 (rg:=rpKey) (Z1 (a0q .i64:Fd (J B) Int (rpK .i64)) ((b2E:Fd (J B) ByteArray (rpStr)))) Key.to Key.of (fun _=>rfl) Key.cells_to:Fd (J B) Key rpKey)
def c1H (B:Nat):Fd (J B) (J B 111) inferInstance:=(a11 (rg:=a1m) (Z1 (b2u 109 (c4i B):Fd (J B) Key (rpKey)) (Z1 (a0q .i64:Fd (J B) Int (rpK .i64)) ((a2b:Fd (J B) Bool (rpBool))))) b2a b7p (fun _=>rfl) (fun _ _ _=>Iff.rfl):Fd (J B) Api_Field a1m)
def c0P (B:Nat):Fd (J B) (J B 149) inferInstance:=(a11 (rg:=a4C) (Z1 (a2b:Fd (J B) Bool (rpBool)) (Z1 (a2b:Fd (J B) Bool (rpBool)) (Z1 (a2b:Fd (J B) Bool (rpBool)) (Z1 (a2b:Fd (J B) Bool (rpBool)) ((a2b:Fd (J B) Bool (rpBool))))))) b0o b53 (fun _=>rfl) (fun _ _ _=>Iff.rfl):Fd (J B) Value_used a4C)
def c1E (B:Nat):Fd (J B) (J B 206) inferInstance:=(a11 (rg:=a1n) (Z1 (a0q .i64:Fd (J B) Int (rpK .i64)) ((a0q .i64:Fd (J B) Int (rpK .i64)))) b1e b6N (fun _=>rfl) (fun _ _ _=>Iff.rfl):Fd (J B) Api_Range a1n)
def feM (B:Nat):List (FE (J B)):=[⟨2,a0q .i64⟩,
 ⟨3,a0q .i64⟩,
 ⟨4,a2b⟩,
 ⟨9,b2E⟩,
 ⟨22,K9 3⟩,
 ⟨25,K9 65⟩,
 ⟨27,(c3H B)⟩,
 ⟨28,K9 33⟩,
 ⟨29,K9 109⟩,
 ⟨30,K9 88⟩,
 ⟨31,K9 9⟩,
 ⟨33,(c4G B)⟩,
 ⟨36,K9 206⟩,
 ⟨38,(b54 B)⟩,
 ⟨40,(c3l B)⟩,
 ⟨44,(b3h B)⟩,
 ⟨50,K9 56⟩,
 ⟨52,(c3S B)⟩,
 ⟨56,(c26 B)⟩,
 ⟨62,K9 111⟩,
 ⟨63,(c4g B)⟩,
 ⟨65,(b8V B)⟩,
 ⟨88,(c9z B)⟩,
 ⟨109,(c4i B)⟩,
 ⟨111,(c1H B)⟩,
 ⟨149,(c0P B)⟩,
 ⟨206,(c1E B)⟩]
def d1g (B:Nat):TabL (J B) where
 lo:=B
 sz:=[(27,2),(33,7),(40,9),(52,1),(56,3),(63,2),(65,8),(88,9),(109,2),(111,4),(149,5)]
 one:=[(2,()),(3,()),(4,()),(9,()),(22,()),(25,()),(28,()),(29,()),(30,()),(31,()),(50,()),(62,()),(74,())]
 fld:=[(27,[(0,25),(1,3)]),(33,[(0,3),(1,2),(2,9),(3,28),(4,29),(5,30),(6,31)]),(40,[(0,3),(1,3),(2,36),(3,38),(5,22),(6,22),(7,31),(8,31)]),(44,[(0,22),(1,3)]),(52,[(0,50)]),(56,[(0,22),(1,22),(2,4)]),(65,[(0,3),(1,2),(2,2),(3,9),(4,22),(5,62),(6,63)]),(88,[(0,28),(1,4),(2,33)]),(109,[(0,3),(1,9)]),(111,[(0,109),(2,3),(3,4)]),(149,[(0,4),(1,4),(2,4),(3,4),(4,4)])]
 el:=[(22,3),(25,65),(28,33),(29,109),(30,88),(31,9),(45,52),(50,56),(60,22),(62,111),(91,4),(93,2)]
 str:=[(9,())]
 bool:=[(4,())]
 ik:=[]
 fe:=(feM B)
 inf:=[(2,1,8,[.int .i64 0]),(3,1,8,[.int .i64 0]),(4,1,1,[.bool false]),(9,1,16,[.str ⟨#[]⟩]),(22,1,24,[.nl 3]),(25,1,24,[.nl 65]),(27,2,32,[.nl 65,.int .i64 0]),(28,1,24,[.nl 33]),(29,1,24,[.nl 109]),(31,1,24,[.nl 9]),(33,7,128,[.int .i64 0,.int .i64 0,.str ⟨#[]⟩,.nl 33,.nl 109,.nl 88,.nl 9]),(40,9,168,[.int .i64 0,.int .i64 0,.nl 206,.bool false,.nl 9,.nl 3,.nl 3,.nl 9,.nl 9]),(44,2,32,[.nl 3,.int .i64 0]),(50,1,24,[.nl 56]),(52,1,24,[.nl 56]),(56,3,56,[.nl 3,.nl 3,.bool false]),(62,1,24,[.nl 111]),(63,2,16,[.int .i64 0,.int .i64 0]),(65,8,104,[.int .i64 0,.int .i64 0,.int .i64 0,.str ⟨#[]⟩,.nl 3,.nl 111,.int .i64 0,.int .i64 0]),(74,1,8,[.any]),(88,9,160,[.nl 33,.bool false,.int .i64 0,.int .i64 0,.str ⟨#[]⟩,.nl 33,.nl 109,.nl 88,.nl 9]),(109,2,24,[.int .i64 0,.str ⟨#[]⟩]),(111,4,40,[.int .i64 0,.str ⟨#[]⟩,.int .i64 0,.bool false]),(149,5,5,[.bool false,.bool false,.bool false,.bool false,.bool false])]
 st:=[(27,[(0,1),(1,1)]),(33,[(0,1),(1,1),(2,1),(3,1),(4,1),(5,1),(6,1)]),(40,[(0,1),(1,1),(2,1),(3,2),(5,1),(6,1),(7,1),(8,1)]),(44,[(0,1),(1,1)]),(52,[(0,1)]),(56,[(0,1),(1,1),(2,1)]),(63,[(0,1),(1,1)]),(65,[(0,1),(1,1),(2,1),(3,1),(4,1),(5,1),(6,2)]),(109,[(0,1),(1,1)]),(111,[(0,2),(2,1),(3,1)]),(149,[(0,1),(1,1),(2,1),(3,1),(4,1)])]
 eq:=[(63,b7o (feM B) 63 a7k),(109,b7o (feM B) 109 a3n)]
 nest:=[(22,3,0)]
 arr:=[(63,3,2,1)]
 fb:=[(22,()),(28,()),(70,()),(75,()),(77,()),(93,()),(94,()),(96,()),(97,()),(99,()),(101,()),(111,()),(112,()),(128,()),(150,()),(166,())]
abbrev tbJ (B:Nat):Tab (J B):=c5x (d1g B)
theorem d1y (B:Nat){σ:S}{x y:Int×Int}{cs ds:List Value}(h:(rJ B 63).cells σ x cs)(k:(rJ B 63).cells σ y ds):Sx.EqAt Go.Proofs.Tryz.prog 2 63 (.agg cs.toArray) (.agg ds.toArray) (a7k x y):=by
 obtain ⟨_,_,rfl,rfl,rfl⟩:=h
 obtain ⟨_,_,rfl,rfl,rfl⟩:=k
 exact c18 Go.Proofs.Tryz.underlying63 ti3 (b2B (a1p to3 rfl) (a1p to3 rfl) (a9a Go.Proofs.Tryz.underlying3) (b2B (a1p to3 rfl) (a1p to3 rfl) (a9a Go.Proofs.Tryz.underlying3) c3B))
theorem c98 (B:Nat){σ:S}{x y:Key}{cs ds:List Value}(h:(rJ B 109).cells σ x cs)(k:(rJ B 109).cells σ y ds):Sx.EqAt Go.Proofs.Tryz.prog 2 109 (.agg cs.toArray) (.agg ds.toArray) (a3n x y):=by
 obtain ⟨_,_,rfl,rfl,rfl⟩:=h
 obtain ⟨_,_,rfl,rfl,rfl⟩:=k
 exact b8o Go.Proofs.Tryz.underlying109 (by kernel_rfl) (b2z (by decide) (a1p to3 rfl) (a1p to3 rfl) (a9a Go.Proofs.Tryz.underlying3) (b2z (by decide) (a1p to9 rfl) (a1p to9 rfl) (c3d Go.Proofs.Tryz.underlying9) c2j))
theorem d0B (B:Nat)(T:TypeId)(g:J B T->J B T->Bool){K:Nat}(h:∀ {σ:S} {x y:J B T} {cs ds:List Value},Rp.cells σ x cs->Rp.cells σ y ds->Sx.EqAt Go.Proofs.Tryz.prog K T (.agg cs.toArray) (.agg ds.toArray) (g x y))(hg:Go.Proofs.Tryz.prog.eqGuardType (Go.Proofs.Tryz.prog).depth T=false)(hK:Nat.ble K 10000=true)
 {X:Cxt} {c:Cx} {σ:S} {ls ms:List (PV (J B))} {r:Bool} {cs ds:List Value} (h1:b7o (feM B) T g ls ms=some r) (h2:RG X c σ ls cs) (h3:RG X c σ ms ds) :
 Go.Proofs.Tryz.prog.eqGuardType (Go.Proofs.Tryz.prog).depth T=false/\∃ j,Nat.ble j 10000=true/\Sx.EqAt Go.Proofs.Tryz.prog j T (.agg cs.toArray) (.agg ds.toArray) r:=by
 obtain ⟨x,y,k1,k2,rfl⟩:=c4m h1 h2 h3
 exact ⟨hg,K,hK,h k1 k2⟩
theorem d0Q (B:Nat):TabLOk Go.Proofs.Tryz.prog (d1g B) where
 low:=fun E=>c1a (l:=tyM B) (n:=B) ⟨Nat.zero_le _,⟨Nat.zero_le _,⟨Nat.zero_le _,⟨Nat.zero_le _,⟨Nat.zero_le _,⟨Nat.zero_le _,⟨Nat.zero_le _,⟨Nat.zero_le _,⟨Nat.zero_le _,⟨Nat.zero_le _,⟨Nat.zero_le _,⟨Nat.zero_le _,⟨Nat.zero_le _,⟨Nat.zero_le _,⟨Nat.zero_le _,⟨Nat.zero_le _,⟨Nat.zero_le _,⟨Nat.le_refl _,⟨Nat.zero_le _,⟨Nat.zero_le _,⟨Nat.zero_le _,⟨Nat.zero_le _,⟨Nat.zero_le _,⟨Nat.zero_le _,⟨Nat.zero_le _,⟨Nat.zero_le _,⟨Nat.zero_le _,trivial⟩⟩⟩⟩⟩⟩⟩⟩⟩⟩⟩⟩⟩⟩⟩⟩⟩⟩⟩⟩⟩⟩⟩⟩⟩⟩⟩ E
 sz:=⟨⟨_,Go.Proofs.Tryz.underlying27,rfl,by kernel_rfl⟩,⟨⟨_,Go.Proofs.Tryz.underlying33,rfl,by kernel_rfl⟩,⟨⟨_,Go.Proofs.Tryz.underlying40,rfl,by kernel_rfl⟩,⟨⟨_,Go.Proofs.Tryz.underlying52,rfl,by kernel_rfl⟩,⟨⟨_,Go.Proofs.Tryz.underlying56,rfl,by kernel_rfl⟩,⟨⟨_,Go.Proofs.Tryz.underlying63,rfl,by kernel_rfl⟩,⟨⟨_,Go.Proofs.Tryz.underlying65,rfl,by kernel_rfl⟩,⟨⟨_,Go.Proofs.Tryz.underlying88,rfl,by kernel_rfl⟩,⟨⟨_,Go.Proofs.Tryz.underlying109,rfl,by kernel_rfl⟩,⟨⟨_,Go.Proofs.Tryz.underlying111,rfl,by kernel_rfl⟩,⟨⟨_,Go.Proofs.Tryz.underlying149,rfl,by kernel_rfl⟩,trivial⟩⟩⟩⟩⟩⟩⟩⟩⟩⟩⟩
 one:=⟨to2,⟨to3,⟨to4,⟨to9,⟨d0u,⟨d0w,⟨d0L,⟨d1e,⟨d0G,⟨d1r,⟨c7V,⟨d0X,⟨d0D,trivial⟩⟩⟩⟩⟩⟩⟩⟩⟩⟩⟩⟩⟩
 fld:=⟨⟨⟨_,_,Go.Proofs.Tryz.underlying27,rfl,rfl,by kernel_rfl⟩,⟨⟨_,_,Go.Proofs.Tryz.underlying27,rfl,rfl⟩,⟨⟨_,_,Go.Proofs.Tryz.underlying27,rfl,rfl,by kernel_rfl⟩,⟨⟨_,_,Go.Proofs.Tryz.underlying27,rfl,rfl⟩,trivial⟩⟩⟩⟩,⟨⟨⟨_,_,Go.Proofs.Tryz.underlying33,rfl,rfl,by kernel_rfl⟩,⟨⟨_,_,Go.Proofs.Tryz.underlying33,rfl,rfl⟩,⟨⟨_,_,Go.Proofs.Tryz.underlying33,rfl,rfl,by kernel_rfl⟩,⟨⟨_,_,Go.Proofs.Tryz.underlying33,rfl,rfl⟩,⟨⟨_,_,Go.Proofs.Tryz.underlying33,rfl,rfl,by kernel_rfl⟩,⟨⟨_,_,Go.Proofs.Tryz.underlying33,rfl,rfl⟩,⟨⟨_,_,Go.Proofs.Tryz.underlying33,rfl,rfl,by kernel_rfl⟩,⟨⟨_,_,Go.Proofs.Tryz.underlying33,rfl,rfl⟩,⟨⟨_,_,Go.Proofs.Tryz.underlying33,rfl,rfl,by kernel_rfl⟩,⟨⟨_,_,Go.Proofs.Tryz.underlying33,rfl,rfl⟩,⟨⟨_,_,Go.Proofs.Tryz.underlying33,rfl,rfl,by kernel_rfl⟩,⟨⟨_,_,Go.Proofs.Tryz.underlying33,rfl,rfl⟩,⟨⟨_,_,Go.Proofs.Tryz.underlying33,rfl,rfl,by kernel_rfl⟩,⟨⟨_,_,Go.Proofs.Tryz.underlying33,rfl,rfl⟩,trivial⟩⟩⟩⟩⟩⟩⟩⟩⟩⟩⟩⟩⟩⟩,⟨⟨⟨_,_,Go.Proofs.Tryz.underlying40,rfl,rfl,by kernel_rfl⟩,⟨⟨_,_,Go.Proofs.Tryz.underlying40,rfl,rfl⟩,⟨⟨_,_,Go.Proofs.Tryz.underlying40,rfl,rfl,by kernel_rfl⟩,⟨⟨_,_,Go.Proofs.Tryz.underlying40,rfl,rfl⟩,⟨⟨_,_,Go.Proofs.Tryz.underlying40,rfl,rfl,by kernel_rfl⟩,⟨⟨_,_,Go.Proofs.Tryz.underlying40,rfl,rfl⟩,⟨⟨_,_,Go.Proofs.Tryz.underlying40,rfl,rfl,by kernel_rfl⟩,⟨⟨_,_,Go.Proofs.Tryz.underlying40,rfl,rfl⟩,⟨⟨_,_,Go.Proofs.Tryz.underlying40,rfl,rfl,by kernel_rfl⟩,⟨⟨_,_,Go.Proofs.Tryz.underlying40,rfl,rfl⟩,⟨⟨_,_,Go.Proofs.Tryz.underlying40,rfl,rfl,by kernel_rfl⟩,⟨⟨_,_,Go.Proofs.Tryz.underlying40,rfl,rfl⟩,⟨⟨_,_,Go.Proofs.Tryz.underlying40,rfl,rfl,by kernel_rfl⟩,⟨⟨_,_,Go.Proofs.Tryz.underlying40,rfl,rfl⟩,⟨⟨_,_,Go.Proofs.Tryz.underlying40,rfl,rfl,by kernel_rfl⟩,⟨⟨_,_,Go.Proofs.Tryz.underlying40,rfl,rfl⟩,trivial⟩⟩⟩⟩⟩⟩⟩⟩⟩⟩⟩⟩⟩⟩⟩⟩,⟨⟨⟨_,_,Go.Proofs.Tryz.underlying44,rfl,rfl,by kernel_rfl⟩,⟨⟨_,_,Go.Proofs.Tryz.underlying44,rfl,rfl⟩,⟨⟨_,_,Go.Proofs.Tryz.underlying44,rfl,rfl,by kernel_rfl⟩,⟨⟨_,_,Go.Proofs.Tryz.underlying44,rfl,rfl⟩,trivial⟩⟩⟩⟩,⟨⟨⟨_,_,Go.Proofs.Tryz.underlying52,rfl,rfl,by kernel_rfl⟩,⟨⟨_,_,Go.Proofs.Tryz.underlying52,rfl,rfl⟩,trivial⟩⟩,⟨⟨⟨_,_,Go.Proofs.Tryz.underlying56,rfl,rfl,by kernel_rfl⟩,⟨⟨_,_,Go.Proofs.Tryz.underlying56,rfl,rfl⟩,⟨⟨_,_,Go.Proofs.Tryz.underlying56,rfl,rfl,by kernel_rfl⟩,⟨⟨_,_,Go.Proofs.Tryz.underlying56,rfl,rfl⟩,⟨⟨_,_,Go.Proofs.Tryz.underlying56,rfl,rfl,by kernel_rfl⟩,⟨⟨_,_,Go.Proofs.Tryz.underlying56,rfl,rfl⟩,trivial⟩⟩⟩⟩⟩⟩,⟨⟨⟨_,_,Go.Proofs.Tryz.underlying65,rfl,rfl,by kernel_rfl⟩,⟨⟨_,_,Go.Proofs.Tryz.underlying65,rfl,rfl⟩,⟨⟨_,_,Go.Proofs.Tryz.underlying65,rfl,rfl,by kernel_rfl⟩,⟨⟨_,_,Go.Proofs.Tryz.underlying65,rfl,rfl⟩,⟨⟨_,_,Go.Proofs.Tryz.underlying65,rfl,rfl,by kernel_rfl⟩,⟨⟨_,_,Go.Proofs.Tryz.underlying65,rfl,rfl⟩,⟨⟨_,_,Go.Proofs.Tryz.underlying65,rfl,rfl,by kernel_rfl⟩,⟨⟨_,_,Go.Proofs.Tryz.underlying65,rfl,rfl⟩,⟨⟨_,_,Go.Proofs.Tryz.underlying65,rfl,rfl,by kernel_rfl⟩,⟨⟨_,_,Go.Proofs.Tryz.underlying65,rfl,rfl⟩,⟨⟨_,_,Go.Proofs.Tryz.underlying65,rfl,rfl,by kernel_rfl⟩,⟨⟨_,_,Go.Proofs.Tryz.underlying65,rfl,rfl⟩,⟨⟨_,_,Go.Proofs.Tryz.underlying65,rfl,rfl,by kernel_rfl⟩,⟨⟨_,_,Go.Proofs.Tryz.underlying65,rfl,rfl⟩,trivial⟩⟩⟩⟩⟩⟩⟩⟩⟩⟩⟩⟩⟩⟩,⟨⟨⟨_,_,Go.Proofs.Tryz.underlying88,rfl,rfl,by kernel_rfl⟩,⟨⟨_,_,Go.Proofs.Tryz.underlying88,rfl,rfl⟩,⟨⟨_,_,Go.Proofs.Tryz.underlying88,rfl,rfl,by kernel_rfl⟩,⟨⟨_,_,Go.Proofs.Tryz.underlying88,rfl,rfl⟩,⟨⟨_,_,Go.Proofs.Tryz.underlying88,rfl,rfl,by kernel_rfl⟩,⟨⟨_,_,Go.Proofs.Tryz.underlying88,rfl,rfl⟩,trivial⟩⟩⟩⟩⟩⟩,⟨⟨⟨_,_,Go.Proofs.Tryz.underlying109,rfl,rfl,by kernel_rfl⟩,⟨⟨_,_,Go.Proofs.Tryz.underlying109,rfl,rfl⟩,⟨⟨_,_,Go.Proofs.Tryz.underlying109,rfl,rfl,by kernel_rfl⟩,⟨⟨_,_,Go.Proofs.Tryz.underlying109,rfl,rfl⟩,trivial⟩⟩⟩⟩,⟨⟨⟨_,_,Go.Proofs.Tryz.underlying111,rfl,rfl,by kernel_rfl⟩,⟨⟨_,_,Go.Proofs.Tryz.underlying111,rfl,rfl⟩,⟨⟨_,_,Go.Proofs.Tryz.underlying111,rfl,rfl,by kernel_rfl⟩,⟨⟨_,_,Go.Proofs.Tryz.underlying111,rfl,rfl⟩,⟨⟨_,_,Go.Proofs.Tryz.underlying111,rfl,rfl,by kernel_rfl⟩,⟨⟨_,_,Go.Proofs.Tryz.underlying111,rfl,rfl⟩,trivial⟩⟩⟩⟩⟩⟩,⟨⟨⟨_,_,Go.Proofs.Tryz.underlying149,rfl,rfl,by kernel_rfl⟩,⟨⟨_,_,Go.Proofs.Tryz.underlying149,rfl,rfl⟩,⟨⟨_,_,Go.Proofs.Tryz.underlying149,rfl,rfl,by kernel_rfl⟩,⟨⟨_,_,Go.Proofs.Tryz.underlying149,rfl,rfl⟩,⟨⟨_,_,Go.Proofs.Tryz.underlying149,rfl,rfl,by kernel_rfl⟩,⟨⟨_,_,Go.Proofs.Tryz.underlying149,rfl,rfl⟩,⟨⟨_,_,Go.Proofs.Tryz.underlying149,rfl,rfl,by kernel_rfl⟩,⟨⟨_,_,Go.Proofs.Tryz.underlying149,rfl,rfl⟩,⟨⟨_,_,Go.Proofs.Tryz.underlying149,rfl,rfl,by kernel_rfl⟩,⟨⟨_,_,Go.Proofs.Tryz.underlying149,rfl,rfl⟩,trivial⟩⟩⟩⟩⟩⟩⟩⟩⟩⟩,trivial⟩⟩⟩⟩⟩⟩⟩⟩⟩⟩⟩
 el:=⟨⟨Go.Proofs.Tryz.underlying22,_,_,ti3,rfl,by decide⟩,⟨⟨Go.Proofs.Tryz.underlying25,_,_,c5b,rfl,by decide⟩,⟨⟨Go.Proofs.Tryz.underlying28,_,_,c5C,rfl,by decide⟩,⟨⟨Go.Proofs.Tryz.underlying29,_,_,c1U,rfl,by decide⟩,⟨⟨Go.Proofs.Tryz.underlying30,_,_,c4P,rfl,by decide⟩,⟨⟨Go.Proofs.Tryz.underlying31,_,_,ti9,rfl,by decide⟩,⟨⟨Go.Proofs.Tryz.underlying45,_,_,c5L,rfl,by decide⟩,⟨⟨Go.Proofs.Tryz.underlying50,_,_,c5D,rfl,by decide⟩,⟨⟨Go.Proofs.Tryz.underlying60,_,_,c5c,rfl,by decide⟩,⟨⟨Go.Proofs.Tryz.underlying62,_,_,c1O,rfl,by decide⟩,⟨⟨Go.Proofs.Tryz.underlying91,_,_,ti4,rfl,by decide⟩,⟨⟨Go.Proofs.Tryz.underlying93,_,_,ti2,rfl,by decide⟩,trivial⟩⟩⟩⟩⟩⟩⟩⟩⟩⟩⟩⟩
 str:=⟨Go.Proofs.Tryz.underlying9,trivial⟩
 bool:=⟨Go.Proofs.Tryz.underlying4,trivial⟩
 ik:=trivial
 inf:=⟨⟨_,ti2,fun X c σ=>RG.cns rfl V8 (RG.nl)⟩,⟨⟨_,ti3,fun X c σ=>RG.cns rfl V8 (RG.nl)⟩,⟨⟨_,ti4,fun X c σ=>RG.cns rfl a15 (RG.nl)⟩,⟨⟨_,ti9,fun X c σ=>RG.cns rfl a7A (RG.nl)⟩,⟨⟨_,c5c,fun X c σ=>RG.cns rfl J8 (RG.nl)⟩,⟨⟨_,d1b,fun X c σ=>RG.cns rfl J8 (RG.nl)⟩,⟨⟨_,d0T,fun X c σ=>RG.cns rfl J8 (RG.cns rfl V8 (RG.nl))⟩,⟨⟨_,d0k,fun X c σ=>RG.cns rfl J8 (RG.nl)⟩,⟨⟨_,d1k,fun X c σ=>RG.cns rfl J8 (RG.nl)⟩,⟨⟨_,d0K,fun X c σ=>RG.cns rfl J8 (RG.nl)⟩,⟨⟨_,c5C,fun X c σ=>RG.cns rfl V8 (RG.cns rfl V8 (RG.cns rfl a7A (RG.cns rfl J8 (RG.cns rfl J8 (RG.cns rfl J8 (RG.cns rfl J8 (RG.nl)))))))⟩,⟨⟨_,d03,fun X c σ=>RG.cns rfl V8 (RG.cns rfl V8 (RG.cns rfl J8 (RG.cns rfl a15 (RG.cns rfl J8 (RG.cns rfl J8 (RG.cns rfl J8 (RG.cns rfl J8 (RG.cns rfl J8 (RG.nl)))))))))⟩,⟨⟨_,d0R,fun X c σ=>RG.cns rfl J8 (RG.cns rfl V8 (RG.nl))⟩,⟨⟨_,d0F,fun X c σ=>RG.cns rfl J8 (RG.nl)⟩,⟨⟨_,c5L,fun X c σ=>RG.cns rfl J8 (RG.nl)⟩,⟨⟨_,c5D,fun X c σ=>RG.cns rfl J8 (RG.cns rfl J8 (RG.cns rfl a15 (RG.nl)))⟩,⟨⟨_,d1o,fun X c σ=>RG.cns rfl J8 (RG.nl)⟩,⟨⟨_,d0C,fun X c σ=>RG.cns rfl V8 (RG.cns rfl V8 (RG.nl))⟩,⟨⟨_,c5b,fun X c σ=>RG.cns rfl V8 (RG.cns rfl V8 (RG.cns rfl V8 (RG.cns rfl a7A (RG.cns rfl J8 (RG.cns rfl J8 (RG.cns rfl V8 (RG.cns rfl V8 (RG.nl))))))))⟩,⟨⟨_,d0H,fun X c σ=>RG.cns rfl c82 (RG.nl)⟩,⟨⟨_,c4P,fun X c σ=>RG.cns rfl J8 (RG.cns rfl a15 (RG.cns rfl V8 (RG.cns rfl V8 (RG.cns rfl a7A (RG.cns rfl J8 (RG.cns rfl J8 (RG.cns rfl J8 (RG.cns rfl J8 (RG.nl)))))))))⟩,⟨⟨_,c1U,fun X c σ=>RG.cns rfl V8 (RG.cns rfl a7A (RG.nl))⟩,⟨⟨_,c1O,fun X c σ=>RG.cns rfl V8 (RG.cns rfl a7A (RG.cns rfl V8 (RG.cns rfl a15 (RG.nl))))⟩,⟨⟨_,c80,fun X c σ=>RG.cns rfl a15 (RG.cns rfl a15 (RG.cns rfl a15 (RG.cns rfl a15 (RG.cns rfl a15 (RG.nl)))))⟩,trivial⟩⟩⟩⟩⟩⟩⟩⟩⟩⟩⟩⟩⟩⟩⟩⟩⟩⟩⟩⟩⟩⟩⟩⟩
 st:=⟨.inl ⟨_,Go.Proofs.Tryz.underlying27,by kernel_rfl⟩,⟨.inl ⟨_,Go.Proofs.Tryz.underlying33,by kernel_rfl⟩,⟨.inl ⟨_,Go.Proofs.Tryz.underlying40,by kernel_rfl⟩,⟨.inl ⟨_,Go.Proofs.Tryz.underlying44,by kernel_rfl⟩,⟨.inl ⟨_,Go.Proofs.Tryz.underlying52,by kernel_rfl⟩,⟨.inl ⟨_,Go.Proofs.Tryz.underlying56,by kernel_rfl⟩,⟨.inr (c64 Go.Proofs.Tryz.underlying63 ti3 rfl),⟨.inl ⟨_,Go.Proofs.Tryz.underlying65,by kernel_rfl⟩,⟨.inl ⟨_,Go.Proofs.Tryz.underlying109,by kernel_rfl⟩,⟨.inl ⟨_,Go.Proofs.Tryz.underlying111,by kernel_rfl⟩,⟨.inl ⟨_,Go.Proofs.Tryz.underlying149,by kernel_rfl⟩,trivial⟩⟩⟩⟩⟩⟩⟩⟩⟩⟩⟩
 eq:=⟨fun X c σ ls ms r cs ds h1 h2 h3=>d0B B 63 a7k (fun h k=>d1y B h k) (by kernel_rfl) (by decide) h1 h2 h3,⟨fun X c σ ls ms r cs ds h1 h2 h3=>d0B B 109 a3n (fun h k=>c98 B h k) (by kernel_rfl) (by decide) h1 h2 h3,trivial⟩⟩
 arr:=⟨⟨Go.Proofs.Tryz.underlying63,by kernel_rfl⟩,trivial⟩
 fb:=⟨⟨_,_,Go.Proofs.Tryz.func22,rfl,by kernel_rfl⟩,⟨⟨_,_,Go.Proofs.Tryz.func28,rfl,by kernel_rfl⟩,⟨⟨_,_,Go.Proofs.Tryz.func70,rfl,by kernel_rfl⟩,⟨⟨_,_,Go.Proofs.Tryz.func75,rfl,by kernel_rfl⟩,⟨⟨_,_,Go.Proofs.Tryz.func77,rfl,by kernel_rfl⟩,⟨⟨_,_,Go.Proofs.Tryz.func93,rfl,by kernel_rfl⟩,⟨⟨_,_,Go.Proofs.Tryz.func94,rfl,by kernel_rfl⟩,⟨⟨_,_,Go.Proofs.Tryz.func96,rfl,by kernel_rfl⟩,⟨⟨_,_,Go.Proofs.Tryz.func97,rfl,by kernel_rfl⟩,⟨⟨_,_,Go.Proofs.Tryz.func99,rfl,by kernel_rfl⟩,⟨⟨_,_,Go.Proofs.Tryz.func101,rfl,by kernel_rfl⟩,⟨⟨_,_,Go.Proofs.Tryz.func111,rfl,by kernel_rfl⟩,⟨⟨_,_,Go.Proofs.Tryz.func112,rfl,by kernel_rfl⟩,⟨⟨_,_,Go.Proofs.Tryz.func128,rfl,by kernel_rfl⟩,⟨⟨_,_,Go.Proofs.Tryz.func150,rfl,by kernel_rfl⟩,⟨⟨_,_,Go.Proofs.Tryz.func166,rfl,by kernel_rfl⟩,trivial⟩⟩⟩⟩⟩⟩⟩⟩⟩⟩⟩⟩⟩⟩⟩⟩
theorem b2S (B:Nat):TabOk Go.Proofs.Tryz.prog (tbJ B):=c14 (d0Q B)
def d1a (B:Nat)(a:List (Nat×List (List Nat)))(b c:List (Nat×List Nat))(j:List (Nat×JH))(l:List (Nat×LH (J B)))(k:List (Nat×KH (J B)))(ns:List (Nat×NH (J B)))(u:List (Nat×Nat)):Hints (J B) :=
 ⟨fun i=>(asc a i).getD [],fun i=>(asc b i).getD [],fun i=>(asc c i).getD [],asc j,asc l,asc k,asc ns,fun i=>(asc u i).getD 0⟩
def b0F (B:Nat):Row (J B):=⟨36,[.d (.int .i64),.d (.sl 22)],[.k (.d (.bool))],a5o⟩
theorem b9b (B:Nat):y9 Go.Proofs.Tryz.prog (b0F B):=fun σ a vs pls res hA hd hr =>
 a2v.mono (b9V σ a vs pls res hA hd hr) rfl fun _ τ hE ⟨ws,us,pls',hp⟩=>⟨τ,rfl,hE,ws,us,pls',⟨hp.ret,hp.len,hp.tt,hp.out,hp.nodup,hp.own⟩⟩
def b8F (B:Nat):Row (J B):=⟨37,[.d (.int .i64),.d (.sl 22),.d (.sl 22),.d (.sl 22),.bor 3],[.lvs [.row 56 false],.k (.d (.bool))],a9I⟩
theorem b9L (B:Nat):y9 Go.Proofs.Tryz.prog (b8F B):=fun σ a vs pls res hA hd hr =>
 a2v.mono (c0E σ a vs pls res hA hd hr) rfl fun _ τ hE ⟨ws,us,pls',hp⟩=>⟨τ,rfl,hE,ws,us,pls',⟨hp.ret,hp.len,hp.tt,hp.out,hp.nodup,hp.own⟩⟩
def a8H (B:Nat):Rio (J B):=⟨38,3,[.d (.sl 22)],[.k (.d (.bool))],a4H⟩
theorem b6o (B:Nat):b5g Go.Proofs.Tryz.prog (a8H B):=fun σ xs a vs pls res ys hA hd hr =>
 a2v.mono (b6V σ xs a vs pls res ys hA hd hr) rfl fun _ τ hE ⟨ws,us,pls',hp,A,k,ow,h1,h2,h3,h4⟩=>⟨τ,rfl,hE,ws,us,pls',⟨hp.ret,hp.len,hp.tt,hp.out,hp.nodup,hp.own⟩,A,k,ow,h1,h2,h3,h4⟩
def b0C (B:Nat):Row (J B):=⟨37,[.d (.int .i64),.d (.sl 22),.d (.sl 22),.d (.sl 22),.bor 3],[.k (.d (.dat 52)),.k (.d .bool)],a8a⟩
theorem b8w (B:Nat):a4N Go.Proofs.Tryz.prog (b0C B) (fun w _=>B<=w.heap.size):=d0g (I:=J B) (T1:=22) (T2:=3) (G:=56) (E:=52) B a21 (fun l=>Api_Box.mk l) (fun _=>rfl) (fun σ x A c h1 h2=>@c68 Api_Box Api_Goal a0o B a21 σ x A c h1 h2) (b9L B)
theorem d0j (B:Nat){r:Row (J B)}(h:a4N Go.Proofs.Tryz.prog r (fun w _=>B<=w.heap.size)):EntOk Go.Proofs.Tryz.prog (b9p (tbJ B) r (fun _ _=>true)):=b8Z (b2S B) h (fun _ _ _ _ _ _ _ _ _ _ h _ _=>Nat.le_trans (h.base.2 52) h.base.1)
def esB (B:Nat):List (Ans (J B)):=[c0k (tbJ B) (b0F B),b9p (tbJ B) (b0C B) (fun _ _=>true),c7X (tbJ B) (a8H B)]
theorem c99 (B:Nat):c0T Go.Proofs.Tryz.prog (esB B):=⟨b4D (b2S B) (b9b B),d0j B (b8w B),c4h (b2S B) (b6o B),trivial⟩
def b8M (B:Nat)(n:Nat):Hints (J B):=d1a B [] [] [(11,[1000009]),(17,[9])] [(8131,⟨2321137573660088015435890688,[],[],[(.normal,[(15,.k (.row 52 false))])]⟩)] [(254,⟨79228011398536885764897341696,[],[],[(14,.k (.row 3 false)),(15,.k (.row 52 false))],[(.ret,[(8,.k (.row 52 false)),(14,.k (.row 3 false))])],fun _=>some n⟩)] [] [(122,⟨⟨18889465929279557614848,[],[],[(41,.k (.d (.int .i64)))],[((.exit 0),[]),(.ret,[(8,.k (.row 52 false))])],bnd (tbJ B) (.slot 40) 1⟩,9,22⟩),
 (62666,⟨⟨147573671114699714560,[],[],[(48,.k (.d (.int .i64)))],[((.exit 2),[])],bnd (tbJ B) (.slot 47) 1⟩,9,22⟩)] []
def a9O (B n:Nat):Row (J B):=⟨21,[.d (.int .i64),.d (.sl 22),.d (.sl 22),.fn [.int .i64] [.k (.d (.bool))]],[.k (.row 52 false)],a2C n⟩
theorem b0E (B n:Nat):a4N Go.Proofs.Tryz.prog (a9O B n) (fun w _=>B<=w.heap.size) :=
 c4c (b2S B) (a9u (c99 B) 3) mixed 96 (s0:=fun a=>a6x (tbJ B) 96 [.d (.int .i64),.d (.sl 22),.d (.sl 22),.fn [.int .i64] [.k (.d (.bool))]] a) (fn:=Go.Proofs.Tryz.f21) (cd:=b44 Go.Proofs.Tryz.f21) (H:=b8M B n) (rl:=[.tmp 8]) (fun X c σ a vs F h _ _ _=>h) Go.Proofs.Tryz.func21 (by kernel_rfl) (by kernel_rfl) (by kernel_rfl) (by kernel_rfl) (by kernel_rfl) (by kernel_rfl) (by kernel_rfl) (hlo:=.inr fun w vs h=>h)
def b70 (n:Nat):Row I:=⟨21,[.d (.int .i64),.d (.sl 22),.d (.sl 22),.fn [.int .i64] [.k (.d (.bool))]],[.k (.row 52 false)],a2C n⟩
theorem b82 (n:Nat):RK (b70 n):=fun σ a vs pls res hA hd hr =>
 a2v.mono (b0E 0 n σ a vs pls res hA (Nat.zero_le _) hd hr) rfl fun v τ hE ⟨ws,us,pls',hp⟩=>by
  obtain ⟨v1,e1,A,c,ow,e2,e3,ho⟩:=hp.tt
  exact ⟨τ,rfl,hE,ws,us,pls',hp.ret,hp.len,⟨v1,e1,A,c,ow,e2,e3,c9f (a:=a0o) (to:=a21) ho⟩,hp.out,hp.nodup,hp.own⟩
def b6s:Row I:=⟨28,[.d (.int .i64)],[.k (.d (.bool))],b2v⟩
theorem b7u:RK (b6s) :=
 okR [] 3 Y5 [.tmp 2] Go.Proofs.Tryz.func28 (by kernel_rfl)
def b74 (n:Nat):Row I:=⟨14,[.d (.int .i64),.d (.sl 22),.d (.sl 22)],[.k (.row 52 false)],b56 n⟩
theorem b8z (n:Nat):RK (b74 n) :=
 okR [eR (b82 n),eR b7u] 11 Y5 [.tmp 6] Go.Proofs.Tryz.func14 (by kernel_rfl)
def b6u:Row I:=⟨15,[],[.k (.d (.dat 33))],X3⟩
theorem a2c:RK (b6u) :=
 okR [] 2 Y5 [.cell 0 33] Go.Proofs.Tryz.func15 (by kernel_rfl)
def c2f:Hints I:=mkH [] [] [] [(105,⟨160,[],[],[(.normal,[(5,.k (.d (.bool)))])]⟩),
 (429,⟨2560,[],[],[(.normal,[(9,.k (.d (.bool)))])]⟩),
 (6909,⟨327680,[],[],[(.normal,[(16,.k (.d (.bool)))])]⟩)] [] [] [] []
def c0r:Row I:=⟨133,[.d (.int .i64)],[.k (.d (.dat 149)),.k (.d (.bool))],a6U⟩
theorem c1D:RK (c0r) :=
 okR [] 27 c2f [.cell 2 149,.tmp 3] Go.Proofs.Tryz.func133 (by kernel_rfl)
def b1C:Hints I:=mkH [(4,[[],[],[],[2],[1,2,3],[1,2,3,4],[],[],[6,7],[6,7,8],[0,1,2,3,4,5,6,7,8,9],[0,1,2,3,4,5,6,7,8,9,10]])] [] [] [] [(26,⟨16777200,[],[],[(5,.k (.d (.int .i64)))],[((.exit 0),[]),(.ret,[(4,.k (.d (.bool)))])],bnd tb (.len (.slot 0)) 1⟩)] [] [] []
def b0u:Row I:=⟨147,[.d (.sl 9),.fn [.str,.str] [.k (.d (.int .i64))]],[.k (.d (.bool))],a4W⟩
theorem b0L:RK (b0u) :=
 okR [] 24 b1C [.tmp 4] Go.Proofs.Tryz.func147 (by kernel_rfl)
def a7b:Row I:=⟨144,[.d (.str),.d (.str)],[.k (.d (.int .i64))],a2u⟩
theorem a7t:RK (a7b) :=
 okR [eR d0h] 8 Y5 [.tmp 4] Go.Proofs.Tryz.func144 (by kernel_rfl)
def b6p:Row I:=⟨128,[.d (.str),.d (.str)],[.k (.d (.int .i64))],a0i⟩
theorem a6P:RK (b6p) :=
 okR [eR a7t] 8 Y5 [.tmp 4] Go.Proofs.Tryz.func128 (by kernel_rfl)
def c0Z:Hints I:=mkH [] [] [] [] [(58,⟨34351349952,[],[],[(7,.k (.d (.int .i64)))],[((.exit 0),[]),(.ret,[(6,.k (.d (.bool)))])],bnd tb (.len (.slot 0)) 1⟩)] [] [] []
def b8y:Row I:=⟨92,[.d (.str),.fn [.int .u8] [.k (.d (.bool))],.fn [.int .u8] [.k (.d (.bool))]],[.k (.d (.bool))],a6J⟩
theorem b2A:RK (b8y) :=
 okR [] 35 c0Z [.tmp 6] Go.Proofs.Tryz.func92 (by kernel_rfl)
def b72:Row I:=⟨96,[.d (.int .u8)],[.k (.d (.bool))],a5U⟩
theorem b1x:RK (b72) :=
 okR [] 9 Y5 [.tmp 2] Go.Proofs.Tryz.func96 (by kernel_rfl)
def b77:Row I:=⟨93,[.d (.int .u8)],[.k (.d (.bool))],a4D⟩
theorem a7K:RK (b77) :=
 okR [] 9 Y5 [.tmp 2] Go.Proofs.Tryz.func93 (by kernel_rfl)
def b8a:Row I:=⟨95,[.d (.int .u8)],[.k (.d (.bool))],a5X⟩
theorem b1Q:RK (b8a) :=
 okR [] 9 Y5 [.tmp 2] Go.Proofs.Tryz.func95 (by kernel_rfl)
def b3m:Row I:=⟨97,[.d (.int .u8)],[.k (.d (.bool))],a6K⟩
theorem b4E:RK (b3m) :=
 okR [eR a7K,eR b1x,eR b1Q] 17 Y5 [.tmp 2] Go.Proofs.Tryz.func97 (by kernel_rfl)
def b5p:Row I:=⟨64,[.d (.str)],[.k (.d (.bool))],a2V⟩
theorem a8W:RK (b5p) :=
 okR [eR b2A,eR b1x,eR b4E] 5 Y5 [.tmp 2] Go.Proofs.Tryz.func64 (by kernel_rfl)
def b6j:Hints I:=mkH [] [] [] [] [(58,⟨261140,[],[],[(10,.k (.d (.int .i64)))],[((.exit 0),[]),(.ret,[(2,.k (.d (.bool)))])],bnd tb (.slot 9) 1⟩)] [] [] []
def b38:Row I:=⟨134,[.d (.sl 9)],[.k (.d (.bool))],a48⟩
theorem b5Q:RK (b38) :=
 okR [eR b0L,eR a6P,eR a8W] 18 b6j [.tmp 2] Go.Proofs.Tryz.func134 (by kernel_rfl)
def b6U:Row I:=⟨94,[.d (.int .u8)],[.k (.d (.bool))],a84⟩
theorem b8d:RK (b6U) :=
 okR [eR a7K,eR b1Q] 13 Y5 [.tmp 2] Go.Proofs.Tryz.func94 (by kernel_rfl)
def b88:Row I:=⟨63,[.d (.str)],[.k (.d (.bool))],a5l⟩
theorem a8d:RK (b88) :=
 okR [eR b2A,eR a7K,eR b8d] 5 Y5 [.tmp 2] Go.Proofs.Tryz.func63 (by kernel_rfl)
def b00:Hints I:=mkH [(4,[[],[],[],[2],[1,2,3],[1,2,3,4],[],[],[6,7],[6,7,8],[0,1,2,3,4,5,6,7,8,9],[0,1,2,3,4,5,6,7,8,9,10]])] [] [] [] [(26,⟨16777200,[],[],[(5,.k (.d (.int .i64)))],[((.exit 0),[]),(.ret,[(4,.k (.d (.bool)))])],bnd tb (.len (.slot 0)) 1⟩)] [] [] []
def a90:Row I:=⟨148,[.d (.sl 109),.fn [.dat 109,.dat 109] [.k (.d (.int .i64))]],[.k (.d (.bool))],a4z⟩
theorem b0c:RK (a90) :=
 okR [] 24 b00 [.tmp 4] Go.Proofs.Tryz.func148 (by kernel_rfl)
def b76:Row I:=⟨143,[.d (.int .i64)],[.k (.d (.bool))],a7B⟩
theorem b8J:RK (b76) :=
 okR [] 6 Y5 [.tmp 2] Go.Proofs.Tryz.func143 (by kernel_rfl)
def b6k:Row I:=⟨127,[.d (.int .i64),.d (.int .i64)],[.k (.d (.int .i64))],a0G⟩
theorem a18:RK (b6k) :=
 okR [eR b8J] 20 Y5 [.tmp 4] Go.Proofs.Tryz.func127 (by kernel_rfl)
def b4g:Row I:=⟨99,[.d (.dat 109),.d (.dat 109)],[.k (.d (.int .i64))],X9⟩
theorem a5S:RK (b4g) :=
 okR [eR a18,eR a6P] 19 Y5 [.tmp 4] Go.Proofs.Tryz.func99 (by kernel_rfl)
def b6P:Row I:=⟨98,[.d (.dat 109)],[.k (.d (.bool))],a31⟩
theorem b0D:RK (b6P) :=
 okR [eR a8d] 16 Y5 [.tmp 2] Go.Proofs.Tryz.func98 (by kernel_rfl)
def b8x:Hints I:=mkH [] [] [] [] [(58,⟨534773780,[],[],[(21,.k (.d (.int .i64)))],[((.exit 0),[]),(.ret,[(2,.k (.d (.bool)))])],bnd tb (.slot 20) 1⟩)] [] [] []
def b7d:Row I:=⟨135,[.d (.dat 33)],[.k (.d (.bool))],a6R⟩
theorem b7Z:RK (b7d) :=
 okR [eR b0c,eR a5S,eR b0D] 29 b8x [.tmp 2] Go.Proofs.Tryz.func135 (by kernel_rfl)
def a91:Hints I:=mkH [(4,[[],[],[],[2],[1,2,3],[1,2,3,4],[],[],[6,7],[6,7,8],[0,1,2,3,4,5,6,7,8,9],[0,1,2,3,4,5,6,7,8,9,10]])] [] [] [] [(26,⟨16777200,[],[],[(5,.k (.d (.int .i64)))],[((.exit 0),[]),(.ret,[(4,.k (.d (.bool)))])],bnd tb (.len (.slot 0)) 1⟩)] [] [] []
def a8R:Row I:=⟨149,[.d (.sl 88),.fn [.dat 88,.dat 88] [.k (.d (.int .i64))]],[.k (.d (.bool))],a3O⟩
theorem a89:RK (a8R) :=
 okR [] 24 a91 [.tmp 4] Go.Proofs.Tryz.func149 (by kernel_rfl)
def a8f:Hints I:=mkH [(7,[[],[],[],[1,2],[1,2,3],[],[],[5,6],[5,6,7],[0,1,2,3,4,5,6,7,8],[0,1,2,3,4,5,6,7,8,9]])] [] [] [] [(58,⟨137437905728,[],[],[(20,.k (.d (.int .i64)))],[((.exit 0),[]),(.ret,[(6,.k (.d (.int .i64)))])],bnd tb (.slot 19) 1⟩)] [] [] []
def a7G:Row I:=⟨173,[.d (.sl 33),.d (.sl 33),.fn [.dat 33,.dat 33] [.k (.d (.int .i64))]],[.k (.d (.int .i64))],a2W⟩
theorem a76:RK (a7G) :=
 okR [eR a18] 37 a8f [.tmp 6] Go.Proofs.Tryz.func173 (by kernel_rfl)
def b58:Row I:=⟨180,[.d (.int .i64)],[.k (.d (.bool))],a6i⟩
theorem b7h:RK (b58) :=
 okR [] 6 Y5 [.tmp 2] Go.Proofs.Tryz.func180 (by kernel_rfl)
def b3Z:Row I:=⟨174,[.d (.int .i64),.d (.int .i64)],[.k (.d (.int .i64))],a44⟩
theorem b46:RK (b3Z) :=
 okR [eR b7h] 20 Y5 [.tmp 4] Go.Proofs.Tryz.func174 (by kernel_rfl)
def a9f:Hints I:=mkH [(7,[[],[],[],[1,2],[1,2,3],[],[],[5,6],[5,6,7],[0,1,2,3,4,5,6,7,8],[0,1,2,3,4,5,6,7,8,9]])] [] [] [] [(58,⟨137437905728,[],[],[(20,.k (.d (.int .i64)))],[((.exit 0),[]),(.ret,[(6,.k (.d (.int .i64)))])],bnd tb (.slot 19) 1⟩)] [] [] []
def a8t:Row I:=⟨175,[.d (.sl 109),.d (.sl 109),.fn [.dat 109,.dat 109] [.k (.d (.int .i64))]],[.k (.d (.int .i64))],a3t⟩
theorem a8S:RK (a8t) :=
 okR [eR a18] 37 a9f [.tmp 6] Go.Proofs.Tryz.func175 (by kernel_rfl)
def a8i:Hints I:=mkH [(7,[[],[],[],[1,2],[1,2,3],[],[],[5,6],[5,6,7],[0,1,2,3,4,5,6,7,8],[0,1,2,3,4,5,6,7,8,9]])] [] [] [] [(58,⟨137437905728,[],[],[(20,.k (.d (.int .i64)))],[((.exit 0),[]),(.ret,[(6,.k (.d (.int .i64)))])],bnd tb (.slot 19) 1⟩)] [] [] []
def a7F:Row I:=⟨176,[.d (.sl 88),.d (.sl 88),.fn [.dat 88,.dat 88] [.k (.d (.int .i64))]],[.k (.d (.int .i64))],a2X⟩
theorem a71:RK (a7F) :=
 okR [eR a18] 37 a8i [.tmp 6] Go.Proofs.Tryz.func176 (by kernel_rfl)
def a96:Hints I:=mkH [(7,[[],[],[],[1,2],[1,2,3],[],[],[5,6],[5,6,7],[0,1,2,3,4,5,6,7,8],[0,1,2,3,4,5,6,7,8,9]])] [] [] [] [(58,⟨137437905728,[],[],[(20,.k (.d (.int .i64)))],[((.exit 0),[]),(.ret,[(6,.k (.d (.int .i64)))])],bnd tb (.slot 19) 1⟩)] [] [] []
def a8N:Row I:=⟨177,[.d (.sl 9),.d (.sl 9),.fn [.str,.str] [.k (.d (.int .i64))]],[.k (.d (.int .i64))],a3G⟩
theorem a9i:RK (a8N) :=
 okR [eR a18] 37 a96 [.tmp 6] Go.Proofs.Tryz.func177 (by kernel_rfl)
def a2B (n:Nat):Row I:=⟨166,[.d (.dat 33),.d (.dat 33)],[.k (.d (.int .i64))],a2E n⟩
def a0D (n:Nat):Row I:=⟨150,[.d (.dat 88),.d (.dat 88)],[.k (.d (.int .i64))],K5 n⟩
def a1E (n:Nat):Row I:=⟨165,[.d (.sl 33),.d (.sl 33)],[.k (.d (.int .i64))],a2Q n⟩
theorem b79 (n:Nat)(_:y9 Go.Proofs.Tryz.prog (a2B n))(h_value_compareEntries:y9 Go.Proofs.Tryz.prog (a0D n))(h_value_compareValues:y9 Go.Proofs.Tryz.prog (a1E n)):RK (a2B (n+1)) :=
 okR [eR a18,eR b46,eR a6P,eR a8S,eR a5S,eR h_value_compareValues,eR a71,eR h_value_compareEntries,eR a9i] 64 Y5 [.tmp 4] Go.Proofs.Tryz.func166 (by kernel_rfl)
theorem b1y (n:Nat)(h_value_Compare:y9 Go.Proofs.Tryz.prog (a2B n))(_:y9 Go.Proofs.Tryz.prog (a0D n))(h_value_compareValues:y9 Go.Proofs.Tryz.prog (a1E n)):RK (a0D (n+1)) :=
 okR [eR h_value_compareValues,eR h_value_Compare] 26 Y5 [.tmp 4] Go.Proofs.Tryz.func150 (by kernel_rfl)
theorem b2d (n:Nat)(h_value_Compare:y9 Go.Proofs.Tryz.prog (a2B n))(_:y9 Go.Proofs.Tryz.prog (a0D n))(_:y9 Go.Proofs.Tryz.prog (a1E n)):RK (a1E (n+1)) :=
 okR [eR a76,eR h_value_Compare] 8 Y5 [.tmp 4] Go.Proofs.Tryz.func165 (by kernel_rfl)
theorem a5L:∀ n:Nat,y9 Go.Proofs.Tryz.prog (a2B n)/\y9 Go.Proofs.Tryz.prog (a0D n)/\y9 Go.Proofs.Tryz.prog (a1E n)
 | 0=>⟨Q5 (by kernel_rfl),Q5 (by kernel_rfl),Q5 (by kernel_rfl)⟩
 | n+1=>by
   obtain ⟨h0,h1,h2⟩:=a5L n
   exact ⟨b79 n h0 h1 h2,b1y n h0 h1 h2,b2d n h0 h1 h2⟩
theorem b9h (n:Nat):y9 Go.Proofs.Tryz.prog (a2B n):=(a5L n).1
theorem b2e (n:Nat):y9 Go.Proofs.Tryz.prog (a0D n):=(a5L n).2.1
def b9s (n:Nat):Row I:=⟨178,[.d (.dat 33),.d (.dat 33)],[.k (.d (.bool))],b24 n⟩
theorem c0g (n:Nat):RK (b9s n) :=
 okR [eR (b9h n)] 9 Y5 [.tmp 4] Go.Proofs.Tryz.func178 (by kernel_rfl)
def b89 (n:Nat):Row I:=⟨167,[.d (.dat 33)],[.k (.d (.bool))],b1u n⟩
theorem b9X (n:Nat):RK (b89 n) :=
 okR [eR (c0g n)] 6 Y5 [.tmp 2] Go.Proofs.Tryz.func167 (by kernel_rfl)
def b4W (n:Nat):Row I:=⟨151,[.d (.dat 88),.d (.int .i64)],[.k (.d (.bool))],a34 n⟩
theorem b6c (n:Nat):RK (b4W n) :=
 okR [eR (b9X n)] 20 Y5 [.tmp 4] Go.Proofs.Tryz.func151 (by kernel_rfl)
def b4i (_:Nat):Hints I:=mkH [] [] [] [] [(58,⟨4290773012,[],[],[(22,.k (.d (.int .i64)))],[((.exit 0),[]),(.ret,[(2,.k (.d (.bool)))])],bnd tb (.slot 21) 1⟩)] [] [] []
def b2m (n:Nat):Row I:=⟨136,[.d (.dat 33)],[.k (.d (.bool))],a4j n⟩
theorem b3C (n:Nat):RK (b2m n) :=
 okR [eR a89,eR (b2e n),eR (b6c n)] 32 (b4i n) [.tmp 2] Go.Proofs.Tryz.func136 (by kernel_rfl)
def b6a (n:Nat):Row I:=⟨104,[.d (.dat 33)],[.k (.d (.bool))],a6k n⟩
theorem b6x (n:Nat):RK (b6a n) :=
 okR [eR c1D,eR b5Q,eR a8d,eR b7Z,eR (b3C n)] 124 Y5 [.tmp 2] Go.Proofs.Tryz.func104 (by kernel_rfl)
def c1x:Hints I:=mkH [] [] [] [] [(58,⟨536866856,[],[],[(3,.k (.row 33 false)),(12,.k (.d (.int .i64)))],[((.exit 0),[(3,.k (.row 33 false))])],bnd tb (.slot 11) 1⟩)] [] [] []
def c0e:Row I:=⟨105,[.d (.dat 33)],[.k (.row 33 false)],a9F⟩
theorem c0f:RK (c0e) :=
 okR [eR d1p] 30 c1x [.tmp 2] Go.Proofs.Tryz.func105 (by kernel_rfl)
def b78 (_:Nat):Hints I:=mkH [] [] [] [] [(58,⟨522260,[9],[],[(11,.k (.d (.int .i64)))],[((.exit 0),[]),(.ret,[(2,.k (.d (.bool)))])],bnd tb (.slot 10) 1⟩)] [] [] []
def a6a (n:Nat):Row I:=⟨73,[.d (.dat 33)],[.k (.d (.bool))],a2r n⟩
theorem b6d (n:Nat)(h_value_validTree:y9 Go.Proofs.Tryz.prog (a6a n)):RK (a6a (n+1)) :=
 okR [eR (b6x n),eR c0f,eR h_value_validTree] 19 (b78 n) [.tmp 2] Go.Proofs.Tryz.func73 (by kernel_rfl)
theorem a9T:∀ n:Nat,y9 Go.Proofs.Tryz.prog (a6a n)
 | 0=>Q5 (by kernel_rfl)
 | n+1=>b6d n (a9T n)
def b7c (n:Nat):Row I:=⟨39,[.d (.dat 33)],[.k (.d (.int .i64))],a6X n⟩
theorem b8c (n:Nat):RK (b7c n) :=
 okR [eR (a9T n)] 6 Y5 [.tmp 2] Go.Proofs.Tryz.func39 (by kernel_rfl)
def b5x:Hints I:=mkH [] [] [] [(29,⟨16776824,[],[],[(.normal,[(3,.k (.d (.bool))),(4,.k (.d (.bool))),(5,.k (.d (.bool))),(6,.k (.d (.bool)))])]⟩),
 (941,⟨26624,[],[],[(.normal,[(11,.k (.d (.bool)))])]⟩),
 (3773,⟨4096000,[],[],[(.normal,[(15,.k (.d (.bool)))])]⟩)] [] [] [] []
def b3O:Row I:=⟨32,[.d (.dat 65)],[.k (.d (.bool))],a4Q⟩
theorem b4S:RK (b3O) :=
 okR [] 67 b5x [.tmp 2] Go.Proofs.Tryz.func32 (by kernel_rfl)
def b3a:Hints I:=mkH [(4,[[],[0],[0,1],[0,1,2],[0,1,2,3],[0,1,2,3,4],[0,1,2,3,4,5],[0,1,2,3,4,5,6],[0,1,2,3,4,5,6,7],[0,1,2,3,4,5,6,7],[0,1,2,3,4,5,6,7,9],[0,1,2,3,4,5,6,7,8,9,10],[0,1,2,3,4,5,6,7,8,9,10,11],[0,1,2,3,4,5,6,7,8,9,10,11,12],[0,1,2,3,4,5,6,7],[0,1,2,3,4,5,6,7,14],[0,1,2,3,4,5,6,7,8,9,10,11,12,13,14,15],[0,1,2,3,4,5,6,7,8,9,10,11,12,13,14,15,16],[0,1,2,3,4,5,6,7,8,9,10,11,12,13,14,15,16,17],[0,1,2,3,4,5,6,7,8,9,10,11,12,13,14,15,16,17,18]])] [] [] [] [(26,⟨8589934492,[],[],[(7,.k (.d (.int .i64)))],[((.exit 0),[]),(.ret,[(2,.k (.d (.bool)))])],bnd tb (.slot 6) 1⟩)] [] [] []
def b1w:Row I:=⟨65,[.d (.sl 111)],[.k (.d (.bool))],a3W⟩
theorem b2s:RK (b1w) :=
 okR [eR b0D,eR a5S] 33 b3a [.tmp 2] Go.Proofs.Tryz.func65 (by kernel_rfl)
def b5j:Hints I:=mkH [] [] [] [(105,⟨16288,[],[],[(.normal,[(5,.k (.d (.bool)))])]⟩),
 (28311549,⟨368934881474191032320,[],[],[(.normal,[(66,.k (.d (.bool)))])]⟩)] [] [] [] []
def b3i:Row I:=⟨33,[.d (.dat 65)],[.k (.d (.bool))],a4K⟩
theorem b4J:RK (b3i) :=
 okR [eR a8d,eR a8W,eR b2s] 79 b5j [.tmp 2] Go.Proofs.Tryz.func33 (by kernel_rfl)
def b8T:Hints I:=mkH [] [] [] [] [(58,⟨4190248,[],[],[(3,.k (.row 3 false)),(12,.k (.d (.int .i64)))],[((.exit 0),[(3,.k (.row 3 false))])],bnd tb (.slot 11) 1⟩)] [] [] []
def b7s:Row I:=⟨34,[.d (.dat 65)],[.k (.row 3 false)],a6Y⟩
theorem b73:RK (b7s) :=
 okR [eR c5W] 35 b8T [.tmp 2] Go.Proofs.Tryz.func34 (by kernel_rfl)
def b3f:Row I:=⟨68,[.d (.int .i64)],[.k (.d (.bool))],a4P⟩
theorem b4n:RK (b3f) :=
 okR [] 13 Y5 [.tmp 2] Go.Proofs.Tryz.func68 (by kernel_rfl)
def b1v (_:Nat):Hints I:=mkH [] [] [] [] [(122,⟨140462610448544,[],[(1,.k (.row 3 false))],[(38,.k (.d (.int .i64)))],[((.exit 0),[]),(.ret,[(5,.k (.d (.bool)))])],bnd tb (.slot 37) 1⟩)] [] [] []
def a3y (n:Nat):Row I:=⟨67,[.d (.int .i64),.var 22 (.k (.row 3 false)) true,.var 27 (.k (.d (.dat 27))) false,.var 74 (.k (.d .any)) false],[.k (.d (.bool))],Q3 n⟩
theorem b0h (n:Nat)(h_typeexpr_contractive_1:a4N Go.Proofs.Tryz.prog (a3y n) (b7J 74 67 3 [1,2,3])):a4N Go.Proofs.Tryz.prog (a3y (n+1)) (b7J 74 67 3 [1,2,3]) :=
 c4c b2x (a9u (b9P [eR b4n,eS 74 67 3 [1,2,3] h_typeexpr_contractive_1]) 3) mixed 50 (s0:=fun a=>c8Q 74 67 3 3 [1,2,3] (a6x tb 50 [.d (.int .i64),.var 22 (.k (.row 3 false)) true,.var 27 (.k (.d (.dat 27))) false,.var 74 (.k (.d .any)) false] a)) (fn:=Go.Proofs.Tryz.f67) (cd:=b44 Go.Proofs.Tryz.f67) (H:=(b1v n)) (rl:=[.tmp 5]) (fun X c σ a vs F h hv _ hC=>c7B rfl rfl rfl h hv hC) Go.Proofs.Tryz.func67 (by kernel_rfl) (by kernel_rfl) (by kernel_rfl) (by kernel_rfl) (by kernel_rfl) (by kernel_rfl) (by kernel_rfl)
theorem a6l:∀ n:Nat,a4N Go.Proofs.Tryz.prog (a3y n) (b7J 74 67 3 [1,2,3])
 | 0=>c6i (Q5 (by kernel_rfl))
 | n+1=>b0h n (a6l n)
def b3A (_:Nat):Hints I:=mkH [] [] [] [] [(250,⟨4177956,[],[(3,.k (.row 3 false))],[(14,.k (.d (.int .i64)))],[((.exit 0),[]),(.ret,[(2,.k (.d (.bool)))])],bnd tb (.slot 13) 1⟩)] [] [] []
def b1t (n:Nat):Row I:=⟨35,[.d (.dat 27)],[.k (.d (.bool))],a3T n⟩
theorem b2k (n:Nat):RK (b1t n) :=
 okR [eS 74 67 3 [1,2,3] (a6l n)] 22 (b3A n) [.tmp 2] Go.Proofs.Tryz.func35 (by kernel_rfl)
def b4K (_:Nat):Hints I:=mkH [] [] [] [] [(58,⟨2251799811588180,[],[],[(21,.k (.d (.int .i64)))],[((.exit 0),[]),(.ret,[(2,.k (.d (.int .i64)))])],bnd tb (.slot 20) 1⟩),
 (29902,⟨1125831187365956,[34],[],[(36,.k (.d (.int .i64)))],[((.exit 2),[]),(.ret,[(2,.k (.d (.int .i64)))])],bnd tb (.slot 35) 1⟩)] [] [] []
def b2t (n:Nat):Row I:=⟨19,[.d (.dat 27)],[.k (.d (.int .i64))],X7 n⟩
theorem a7n (n:Nat):RK (b2t n) :=
 okR [eR b4S,eR b4J,eR b73,eR (b2k n)] 54 (b4K n) [.tmp 2] Go.Proofs.Tryz.func19 (by kernel_rfl)
def c1C:Hints I:=mkH [(1,[[],[0],[0,1],[],[3],[0,1,2,3,4],[0,1,2,3,4,5],[]])] [] [] [] [(26,⟨268419152,[12],[],[(14,.k (.d (.int .i64)))],[((.exit 0),[]),(.ret,[(4,.k (.d (.bool)))])],bnd tb (.slot 13) 1⟩)] [] [] []
def b9M:Row I:=⟨40,[.d (.dat 27),.d (.dat 56)],[.k (.d (.bool))],a9E⟩
theorem c0S:RK (b9M) :=
 okR [eR c5W] 28 c1C [.tmp 4] Go.Proofs.Tryz.func40 (by kernel_rfl)
def b9H:Row I:=⟨107,[.d (.int .i64)],[.k (.d (.int .i64))],b8k⟩
theorem c01:RK (b9H) :=
 okR [] 14 Y5 [.tmp 2] Go.Proofs.Tryz.func107 (by kernel_rfl)
def a8D:Hints I:=mkH [(4,[[],[],[],[1,2],[1,2,3],[0,1,2,3,4]])] [] [] [] [(26,⟨524080,[],[],[(8,.k (.d (.int .i64)))],[((.exit 0),[]),(.ret,[(4,.k (.d (.int .i64)))])],bnd tb (.slot 7) 1⟩)] [] [] []
def a7P:Row I:=⟨152,[.d (.sl 109),.d (.dat 109)],[.k (.d (.int .i64))],a2R⟩
theorem a72:RK (a7P) :=
 okR [] 19 a8D [.tmp 4] Go.Proofs.Tryz.func152 (by kernel_rfl)
def a6Q:Row I:=⟨138,[.d (.sl 109),.d (.dat 109)],[.k (.d (.bool))],a0V⟩
theorem a7c:RK (a6Q) :=
 okR [eR a72] 9 Y5 [.tmp 4] Go.Proofs.Tryz.func138 (by kernel_rfl)
def c6f:Hints I:=mkH [] [] [] [] [(26,⟨2096208,[],[],[(10,.k (.d (.int .i64)))],[((.exit 0),[]),(.ret,[(4,.k (.d (.int .i64)))])],bnd tb (.slot 9) 1⟩)] [] [] []
def c36:Row I:=⟨139,[.d (.dat 65),.d (.dat 109)],[.k (.d (.int .i64))],b7I⟩
theorem c5N:RK (c36) :=
 okR [] 26 c6f [.tmp 4] Go.Proofs.Tryz.func139 (by kernel_rfl)
def a87:Hints I:=mkH [] [] [] [] [(26,⟨524080,[],[],[(8,.k (.d (.int .i64)))],[((.exit 0),[]),(.ret,[(4,.k (.d (.int .i64)))])],bnd tb (.slot 7) 1⟩)] [] [] []
def a78:Row I:=⟨141,[.d (.sl 9),.d (.str)],[.k (.d (.int .i64))],a3s⟩
theorem a8T:RK (a78) :=
 okR [] 19 a87 [.tmp 4] Go.Proofs.Tryz.func141 (by kernel_rfl)
def a7l:Row I:=⟨113,[.d (.sl 9),.d (.str)],[.k (.d (.bool))],a1g⟩
theorem a7H:RK (a7l) :=
 okR [eR a8T] 9 Y5 [.tmp 4] Go.Proofs.Tryz.func113 (by kernel_rfl)
def c5K (_:Nat):Hints I:=mkH [(6,[[],[],[],[],[2,3],[2,3,4],[0,1,2,3,4,5],[0,1,2,3,4,5,6]])] [] [] [] [(58,⟨1073676736,[],[],[(16,.k (.d (.int .i64)))],[((.exit 0),[]),(.ret,[(6,.k (.d (.bool)))])],bnd tb (.slot 15) 1⟩)] [] [] []
def a2m (n:Nat):Row I:=⟨108,[.d (.sl 33),.d (.dat 27),.d (.sl 3)],[.k (.d (.bool))],a4S n⟩
def b6m (_:Nat):Hints I:=mkH [(2,[[],[0],[],[],[3],[],[3,4,5],[0,1,2,3,4,5,6],[0,1,2,3,4,5,6,7],[0,1,2,3,4,5,6,7,8],[0,1,2,3,4,5,6,7,8,9],[0,1,2,3,4,5,6,7,8,9,10],[0,1,2,3,4,5,6,7,8,9,10,11],[0,1,2,3,4,5,6,7,8,9,10,11,12],[0,1,2,3,4,5,6,7,8,9,10,11,12,13],[0,1,2,3,4,5,6,7,8,9,10,11,12,13,14],[0,1,2,3,4,5,6,7,8,9,10,11,12,13],[0,1,2,3,4,5,6,7,8,9,10,11,12,13],[0,1,2,3,4,5,6,7,8,9,10,11,12,13,17],[0,1,2,3,4,5,6,7,8,9,10,11,12,13],[0,1,2,3,4,5,6,7,8,9,10,11,12,13,17,18,19],[0,1,2,3,4,5,6,7,8,9,10,11,12,13,17,18,19,20],[0,1,2,3,4,5,6,7,8,9,10,11,12,13,14,15,16,17,18,19,20,21],[0,1,2,3,4,5,6,7,8,9,10,11,12,13,14,15,16,17,18,19,20,21,22],[0,1,2,3,4,5,6,7,8,9,10,11,12,13,14,15,16,17,18,19,20,21,22,23],[0,1,2,3,4,5,6,7,8,9,10,11,12,13,14,15,16,17,18,19,20,21,22,23,24]])] [] [] [] [] [] [] []
def V4 (n:Nat):Row I:=⟨140,[.d (.dat 88),.d (.dat 27),.d (.dat 65)],[.k (.d (.bool))],W1 n⟩
def b7n (_:Nat):Hints I:=mkH [] [] [] [] [(58,⟨536346944,[],[],[(19,.k (.d (.int .i64)))],[((.exit 0),[]),(.ret,[(6,.k (.d (.bool)))])],bnd tb (.slot 18) 1⟩)] [] [] []
def W3 (n:Nat):Row I:=⟨110,[.d (.dat 33),.d (.dat 27),.d (.dat 65)],[.k (.d (.bool))],a0p n⟩
def c5t (_:Nat):Hints I:=mkH [(17,[[],[0],[],[2],[2,3],[0,1,2,3,4],[0,1,2,3,4,5]]),(31,[[],[],[],[2],[2,3],[2,3,4],[0,1,2,3,4,5],[0,1,2,3,4,5,6],[0,1,2,3,4,5,6,7]])] [] [] [(60413,⟨144115188075855872000,[],[],[(.normal,[(60,.k (.d (.bool)))])]⟩)] [] [] [] []
def a1V (n:Nat):Row I:=⟨76,[.d (.dat 33),.d (.dat 27),.d (.int .i64)],[.k (.d (.bool))],X5 n⟩
def a1x (n:Nat):Row I:=⟨111,[.d (.int .i64),.var 33 (.k (.d (.dat 33))) false,.var 27 (.k (.d (.dat 27))) false],[.k (.d (.bool))],a22 n⟩
def a1C (n:Nat):Row I:=⟨112,[.d (.int .i64),.var 33 (.k (.d (.dat 33))) false,.var 27 (.k (.d (.dat 27))) false],[.k (.d (.bool))],a24 n⟩
def c1A (_:Nat):Hints I:=mkH [(10,[[],[0],[],[0,1,2],[0,1,2,3],[],[],[],[6,7],[0,1,2,3,4,5,6,7,8],[0,1,2,3,4,5,6,7,8,9]])] [] [] [] [(26,⟨1073725760,[],[],[(14,.k (.d (.int .i64)))],[((.exit 0),[]),(.ret,[(6,.k (.d (.bool)))])],bnd tb (.slot 13) 1⟩),
 (58,⟨1125891316909632,[],[],[(33,.k (.d (.int .i64)))],[((.exit 2),[]),(.ret,[(6,.k (.d (.bool)))])],bnd tb (.slot 32) 1⟩)] [] [] []
def a04 (n:Nat):Row I:=⟨109,[.d (.dat 33),.d (.dat 27),.d (.dat 65)],[.k (.d (.bool))],a2j n⟩
theorem c3x (n:Nat)(_:y9 Go.Proofs.Tryz.prog (a2m n))(_:y9 Go.Proofs.Tryz.prog (V4 n))(_:y9 Go.Proofs.Tryz.prog (W3 n))(h_core_Has:y9 Go.Proofs.Tryz.prog (a1V n))(_:y9 Go.Proofs.Tryz.prog (a1x n))(_:y9 Go.Proofs.Tryz.prog (a1C n))(_:y9 Go.Proofs.Tryz.prog (a04 n)):RK (a2m (n+1)) :=
 okR [eR h_core_Has] 30 (c5K n) [.tmp 6] Go.Proofs.Tryz.func108 (by kernel_rfl)
theorem b4y (n:Nat)(h_core_all:y9 Go.Proofs.Tryz.prog (a2m n))(_:y9 Go.Proofs.Tryz.prog (V4 n))(_:y9 Go.Proofs.Tryz.prog (W3 n))(h_core_Has:y9 Go.Proofs.Tryz.prog (a1V n))(_:y9 Go.Proofs.Tryz.prog (a1x n))(_:y9 Go.Proofs.Tryz.prog (a1C n))(_:y9 Go.Proofs.Tryz.prog (a04 n)):RK (V4 (n+1)) :=
 okR [eR h_core_all,eR h_core_Has] 37 (b6m n) [.tmp 6] Go.Proofs.Tryz.func140 (by kernel_rfl)
theorem b5I (n:Nat)(_:y9 Go.Proofs.Tryz.prog (a2m n))(h_core_EntryAllowed:y9 Go.Proofs.Tryz.prog (V4 n))(_:y9 Go.Proofs.Tryz.prog (W3 n))(_:y9 Go.Proofs.Tryz.prog (a1V n))(_:y9 Go.Proofs.Tryz.prog (a1x n))(_:y9 Go.Proofs.Tryz.prog (a1C n))(_:y9 Go.Proofs.Tryz.prog (a04 n)):RK (W3 (n+1)) :=
 okR [eR h_core_EntryAllowed] 29 (b7n n) [.tmp 6] Go.Proofs.Tryz.func110 (by kernel_rfl)
theorem c2O (n:Nat)(h_core_all:y9 Go.Proofs.Tryz.prog (a2m n))(_:y9 Go.Proofs.Tryz.prog (V4 n))(h_core_functionHas:y9 Go.Proofs.Tryz.prog (W3 n))(h_core_Has:y9 Go.Proofs.Tryz.prog (a1V n))(h_core_Has_1:y9 Go.Proofs.Tryz.prog (a1x n))(h_core_Has_2:y9 Go.Proofs.Tryz.prog (a1C n))(h_core_mapHas:y9 Go.Proofs.Tryz.prog (a04 n)):RK (a1V (n+1)) :=
 okR [eR c01,eR h_core_all,eR h_core_mapHas,eR h_core_functionHas,eR a2w,eR h_core_Has_1,eR h_core_Has_2,eR h_core_Has,eR a7H] 151 (c5t n) [.tmp 6] Go.Proofs.Tryz.func76 (by kernel_rfl)
theorem c0w (n:Nat)(_:y9 Go.Proofs.Tryz.prog (a2m n))(_:y9 Go.Proofs.Tryz.prog (V4 n))(_:y9 Go.Proofs.Tryz.prog (W3 n))(h_core_Has:y9 Go.Proofs.Tryz.prog (a1V n))(_:y9 Go.Proofs.Tryz.prog (a1x n))(_:y9 Go.Proofs.Tryz.prog (a1C n))(_:y9 Go.Proofs.Tryz.prog (a04 n)):RK (a1x (n+1)) :=
 okR [eR h_core_Has] 9 Y5 [.tmp 4] Go.Proofs.Tryz.func111 (by kernel_rfl)
theorem c0X (n:Nat)(_:y9 Go.Proofs.Tryz.prog (a2m n))(_:y9 Go.Proofs.Tryz.prog (V4 n))(_:y9 Go.Proofs.Tryz.prog (W3 n))(h_core_Has:y9 Go.Proofs.Tryz.prog (a1V n))(_:y9 Go.Proofs.Tryz.prog (a1x n))(_:y9 Go.Proofs.Tryz.prog (a1C n))(_:y9 Go.Proofs.Tryz.prog (a04 n)):RK (a1C (n+1)) :=
 okR [eR h_core_Has] 10 Y5 [.tmp 4] Go.Proofs.Tryz.func112 (by kernel_rfl)
theorem b9t (n:Nat)(_:y9 Go.Proofs.Tryz.prog (a2m n))(_:y9 Go.Proofs.Tryz.prog (V4 n))(_:y9 Go.Proofs.Tryz.prog (W3 n))(h_core_Has:y9 Go.Proofs.Tryz.prog (a1V n))(_:y9 Go.Proofs.Tryz.prog (a1x n))(_:y9 Go.Proofs.Tryz.prog (a1C n))(_:y9 Go.Proofs.Tryz.prog (a04 n)):RK (a04 (n+1)) :=
 okR [eR a7c,eR c5N,eR h_core_Has] 50 (c1A n) [.tmp 6] Go.Proofs.Tryz.func109 (by kernel_rfl)
theorem b2J:∀ n:Nat,y9 Go.Proofs.Tryz.prog (a2m n)/\y9 Go.Proofs.Tryz.prog (V4 n)/\y9 Go.Proofs.Tryz.prog (W3 n)/\y9 Go.Proofs.Tryz.prog (a1V n)/\y9 Go.Proofs.Tryz.prog (a1x n)/\y9 Go.Proofs.Tryz.prog (a1C n)/\y9 Go.Proofs.Tryz.prog (a04 n)
 | 0=>⟨Q5 (by kernel_rfl),Q5 (by kernel_rfl),Q5 (by kernel_rfl),Q5 (by kernel_rfl),Q5 (by kernel_rfl),Q5 (by kernel_rfl),Q5 (by kernel_rfl)⟩
 | n+1=>by
   obtain ⟨h0,h1,h2,h3,h4,h5,h6⟩:=b2J n
   exact ⟨c3x n h0 h1 h2 h3 h4 h5 h6,b4y n h0 h1 h2 h3 h4 h5 h6,b5I n h0 h1 h2 h3 h4 h5 h6,c2O n h0 h1 h2 h3 h4 h5 h6,c0w n h0 h1 h2 h3 h4 h5 h6,c0X n h0 h1 h2 h3 h4 h5 h6,b9t n h0 h1 h2 h3 h4 h5 h6⟩
theorem b8p (n:Nat):y9 Go.Proofs.Tryz.prog (a1V n):=(b2J n).2.2.2.1
def b8g (n:Nat):Row I:=⟨75,[.d (.int .i64),.var 33 (.k (.d (.dat 33))) false,.var 27 (.k (.d (.dat 27))) false],[.k (.d (.bool))],b0t n⟩
theorem b8U (n:Nat):RK (b8g n) :=
 okR [eR (b8p n)] 10 Y5 [.tmp 4] Go.Proofs.Tryz.func75 (by kernel_rfl)
def b7X (n:Nat):Row I:=⟨77,[.d (.int .i64),.var 33 (.k (.d (.dat 33))) false,.var 27 (.k (.d (.dat 27))) false],[.k (.d (.bool))],b0s n⟩
theorem b8N (n:Nat):RK (b7X n) :=
 okR [eR (b8p n)] 9 Y5 [.tmp 4] Go.Proofs.Tryz.func77 (by kernel_rfl)
def b9l (n:Nat):Row I:=⟨41,[.d (.dat 33),.d (.dat 27),.d (.sl 3),.d (.sl 3)],[.k (.d (.bool))],a9C n⟩
theorem c0O (n:Nat):RK (b9l n) :=
 okR [eR a2w,eR (b8U n),eR (b8N n)] 19 Y5 [.tmp 8] Go.Proofs.Tryz.func41 (by kernel_rfl)
def b9i (n:Nat):Row I:=⟨23,[.d (.dat 33),.d (.dat 27),.d (.dat 56)],[.k (.d (.bool))],a6M n⟩
theorem b98 (n:Nat):RK (b9i n) :=
 okR [eR (b8c n),eR (a7n n),eR c0S,eR (c0O n)] 40 Y5 [.tmp 6] Go.Proofs.Tryz.func23 (by kernel_rfl)
def b9q (_:Nat):Hints I:=mkH [(6,[[],[],[0,1],[0,1,2],[],[],[5],[],[5,6,7],[5,6,7,8],[0,1,2,3,4,5,6,7,8,9],[0,1,2,3,4,5,6,7,8,9,10]])] [] [] [] [(58,⟨4294901952,[],[],[(16,.k (.d (.int .i64)))],[((.exit 0),[]),(.ret,[(6,.k (.d (.bool)))])],bnd tb (.slot 15) 1⟩)] [] [] []
def b75 (n:Nat):Row I:=⟨11,[.d (.sl 33),.d (.dat 27),.d (.dat 52)],[.k (.d (.bool))],a5V n⟩
theorem b1U (n:Nat):RK (b75 n) :=
 okR [eR (b98 n)] 32 (b9q n) [.tmp 6] Go.Proofs.Tryz.func11 (by kernel_rfl)
def b5e (_:Nat):Hints I:=mkH [(3,[[],[0],[0,1],[0,1,2],[0,1,2,3],[0,1,2,3,4],[0,1,2,3,4,5],[0,1,2,3,4,5,6],[0,1,2,3,4,5,6,7],[0,1,2,3,4,5,6,7,8],[0,1,2,3,4,5,6,7,8,9],[0,1,2,3,4,5,6,7,8,9,10],[0,1,2,3,4,5,6,7,8,9,10,11],[0,1,2,3,4,5,6,7,8,9,10,11,12],[0,1,2,3,4,5,6,7,8,9,10,11],[0,1,2,3,4,5,6,7,8,9,10,11],[0,1,2,3,4,5,6,7,8,9,10,11,15],[0,1,2,3,4,5,6,7,8,9,10,11,15,16],[0,1,2,3,4,5,6,7,8,9,10,11,15,16,17],[0,1,2,3,4,5,6,7,8,9,10,11,12,13,14,15,16,17,18],[0,1,2,3,4,5,6,7,8,9,10,11,12,13,14,15,16,17,18,19],[0,1,2,3,4,5,6,7,8,9,10,11,12,13,14,15,16,17,18,19,20]])] [(3,[22])] [] [] [] [] [] []
def b2X (n:Nat):Row I:=⟨6,[],[.k (.d (.bool))],a1k n⟩
theorem b3S (n:Nat):RK (b2X n) :=
 okR [eR (b8z n),eR a2c,eR (b1U n)] 32 (b5e n) [.tmp 0] Go.Proofs.Tryz.func6 (by kernel_rfl)
def b0Y:Hints I:=mkH [(1,[[],[0],[0,1],[0,1,2],[0,1,2,3],[0,1,2,3,4],[0,1,2,3,4,5],[0,1,2],[0,1,2,7],[0,1,2,7,8],[0,1,2,7,8,9],[0,1,2,7,8,9,10],[0,1,2,3,4,5,6,7,8,9,10,11],[0,1,2,3,4,5,6,7,8,9,10,11,12]]),(3,[[],[0],[0,1],[0,1,2],[],[4],[4,5],[4,5,6],[0,1,2,3,4,5,6,7],[0,1,2,3,4,5,6,7,8],[],[0,1,2,3,4,5,6,7,8,9,10],[0,1,2,3,4,5,6,7,8,9,10,11]])] [] [] [] [] [] [] []
def a9U:Row I:=⟨17,[.var 44 (.k (.d (.dat 44))) true,.d (.int .i64)],[.k (.d (.int .i64))],y2⟩
theorem w6:RK (a9U) :=
 okR [] 46 b0Y [.tmp 4] Go.Proofs.Tryz.func17 (by kernel_rfl)
def a73:Row I:=⟨47,[.var 44 (.k (.d (.dat 44))) true],[.k (.d (.str))],K7⟩
theorem a1a:RK (a73) :=
 okR [eR w6] 8 Y5 [.tmp 2] Go.Proofs.Tryz.func47 (by kernel_rfl)
def a9N:Row I:=⟨48,[.var 44 (.k (.d (.dat 44))) true],[.k (.d (.str))],a0c⟩
theorem a1Y:RK (a9N) :=
 okR [eR w6] 8 Y5 [.tmp 2] Go.Proofs.Tryz.func48 (by kernel_rfl)
def a9p:Row I:=⟨49,[.var 44 (.k (.d (.dat 44))) true],[.k (.d (.str))],a0x⟩
theorem a5z:RK (a9p) :=
 okR [eR w6] 8 Y5 [.tmp 2] Go.Proofs.Tryz.func49 (by kernel_rfl)
def a9n:Hints I:=mkH [] [] [] [] [(28,⟨16776706,[],[(0,.k (.d (.dat 44)))],[(1,.k (.d (.int .i64))),(9,.k (.row 3 false))],[((.exit 0),[(9,.k (.row 3 false))])],bnd tb (.slot 1) 2⟩)] [] [] []
def a8e:Row I:=⟨50,[.var 44 (.k (.d (.dat 44))) true,.d (.int .i64),.d (.int .i64),.d (.int .i64)],[.k (.row 3 false)],v7⟩
theorem a8U:RK (a8e) :=
 okR [eR w6] 25 a9n [.tmp 8] Go.Proofs.Tryz.func50 (by kernel_rfl)
def a9q:Hints I:=mkH [(7,[[],[0],[],[],[2,3],[2,3,4],[],[],[6,7],[],[6,7,8,9],[6,7,8,9,10],[2,3,4,5,6,7,8,9,10,11],[2,3,4,5,6,7,8,9,10,11,12],[0,1,2,3,4,5,6,7,8,9,10,11,12,13],[0,1,2,3,4,5,6,7,8,9,10,11,12,13,14],[0,1,2,3,4,5,6,7,8,9,10,11,12,13,14,15]])] [] [] [(978,⟨8796076244992,[],[(0,.k (.d (.dat 44))),(5,.lvs [.d (.int .i64),.d (.int .i64),.d (.int .i64),.d (.str),.row 3 false,.row 111 false,.d (.int .i64),.d (.int .i64)])],[(.normal,[])]⟩)] [(122,⟨8796091973760,[6],[(0,.k (.d (.dat 44))),(5,.lvs [.d (.int .i64),.d (.int .i64),.d (.int .i64),.d (.str),.row 3 false,.row 111 false,.d (.int .i64),.d (.int .i64)])],[(7,.k (.d (.int .i64)))],[((.exit 0),[])],bnd tb (.cst 3) 1⟩)] [] [] []
def a8q:Row I:=⟨51,[.var 44 (.k (.d (.dat 44))) true,.d (.int .i64)],[.k (.d (.dat 65))],a10⟩
theorem a8M:RK (a8q) :=
 okR [eR w6] 44 a9q [.cell 4 65] Go.Proofs.Tryz.func51 (by kernel_rfl)
def b0R:Hints I:=mkH [(8,[[],[],[0,1],[0,1,2],[],[],[],[],[7],[6,7,8],[5,6,7,8,9],[4,5,6,7,8,9,10],[4,5,6,7,8,9,10,11],[0,1,2,3,4,5,6,7,8,9,10,11,12],[0,1,2,3,4,5,6,7,8,9,10,11,12,13]])] [] [] [(29,⟨128,[],[],[(.normal,[(7,.k (.d (.int .i64)))])]⟩),
 (32243709,⟨47223664828696452136960,[],[],[(.normal,[(73,.k (.d (.bool)))])]⟩),
 (2063597565,⟨49517601571415210995964968960,[],[],[(.normal,[(93,.k (.d (.bool)))])]⟩)] [] [] [] []
def a9V:Row I:=⟨29,[.var 44 (.k (.d (.dat 44))) true,.d (.int .i64),.d (.int .i64)],[.k (.d (.dat 65))],a2M⟩
theorem b0n:RK (a9V) :=
 okR [eR w6,eR a1a,eR a1Y,eR a5z,eR a8U,eR a8M] 128 b0R [.cell 6 65] Go.Proofs.Tryz.func29 (by kernel_rfl)
def b0H:Hints I:=mkH [(6,[[],[0],[],[],[],[2,3,4],[2,3,4,5],[0,1,2,3,4,5,6],[0,1,2,3,4,5,6,7],[0,1,2,3,4,5,6,7,8]])] [] [] [] [(122,⟨16776256,[],[(0,.k (.d (.dat 44))),(5,.lvs [.row 65 false,.d (.int .i64)])],[(6,.k (.d (.int .i64)))],[((.exit 0),[])],bnd tb (.slot 1) 1⟩)] [] [] []
def a98:Row I:=⟨16,[.var 44 (.k (.d (.dat 44))) true,.d (.int .i64)],[.k (.d (.dat 27))],a1D⟩
theorem b0w:RK (a98) :=
 okR [eR b0n] 25 b0H [.cell 4 27] Go.Proofs.Tryz.func16 (by kernel_rfl)
def a8P:Row I:=⟨61,[.var 44 (.k (.d (.dat 44))) true],[.k (.d (.int .i64))],a2i⟩
theorem a9m:RK (a8P) :=
 okR [eR w6] 8 Y5 [.tmp 2] Go.Proofs.Tryz.func61 (by kernel_rfl)
def b57:Row I:=⟨52,[.d (.int .i64)],[.k (.d (.dat 33))],a79⟩
theorem a99:RK (b57) :=
 okR [] 5 Y5 [.cell 2 33] Go.Proofs.Tryz.func52 (by kernel_rfl)
def b4X:Row I:=⟨54,[.d (.str)],[.k (.d (.dat 33))],a5F⟩
theorem a8X:RK (b4X) :=
 okR [] 5 Y5 [.cell 2 33] Go.Proofs.Tryz.func54 (by kernel_rfl)
def b3x:Row I:=⟨53,[.d (.str)],[.k (.d (.dat 33))],a4O⟩
theorem a7R:RK (b3x) :=
 okR [] 5 Y5 [.cell 2 33] Go.Proofs.Tryz.func53 (by kernel_rfl)
def b6b:Row I:=⟨55,[.d (.int .i64)],[.k (.d (.dat 33))],a8G⟩
theorem a9W:RK (b6b) :=
 okR [] 5 Y5 [.cell 2 33] Go.Proofs.Tryz.func55 (by kernel_rfl)
def b2Y:Row I:=⟨91,[.d (.sl 33)],[.k (.row 33 false)],a1j⟩
theorem a7T:RK (b2Y) :=
 okR [] 5 Y5 [.tmp 2] Go.Proofs.Tryz.func91 (by kernel_rfl)
def b4C:Row I:=⟨62,[.d (.sl 33)],[.k (.d (.dat 33))],a3B⟩
theorem a8F:RK (b4C) :=
 okR [eR a7T] 6 Y5 [.cell 2 33] Go.Proofs.Tryz.func62 (by kernel_rfl)
def a95:Row I:=⟨31,[.var 44 (.k (.d (.dat 44))) true],[.k (.d (.dat 33))],J9⟩
theorem a3z:RK (a95) :=
 okR [eR w6,eR a9m,eR a99,eR a1a,eR a8X,eR a1Y,eR a7R,eR a9W,eR a2c,eR a8F] 29 Y5 [.cell 2 33] Go.Proofs.Tryz.func31 (by kernel_rfl)
def b4w:Row I:=⟨115,[.d (.int .u8)],[.k (.d (.bool))],a2x⟩
theorem a8u:RK (b4w) :=
 okR [] 9 Y5 [.tmp 2] Go.Proofs.Tryz.func115 (by kernel_rfl)
def b37:Row I:=⟨116,[.d (.int .u8)],[.k (.d (.bool))],a3C⟩
theorem a8z:RK (b37) :=
 okR [] 9 Y5 [.tmp 2] Go.Proofs.Tryz.func116 (by kernel_rfl)
def b5G:Hints I:=mkH [] [] [] [] [(58,⟨4398046248972,[],[],[(3,.k (.d (.int .i64)))],[((.exit 0),[]),(.ret,[(2,.k (.d (.bool)))])],bnd tb (.len (.slot 0)) 1⟩)] [] [] []
def b3j:Row I:=⟨79,[.d (.str)],[.k (.d (.bool))],a13⟩
theorem a5t:RK (b3j) :=
 okR [eR a8u,eR a8z] 42 b5G [.tmp 2] Go.Proofs.Tryz.func79 (by kernel_rfl)
def b1k:Row I:=⟨80,[.d (.dat 109)],[.k (.d (.bool))],a1r⟩
theorem a4y:RK (b1k) :=
 okR [eR a5t] 22 Y5 [.tmp 2] Go.Proofs.Tryz.func80 (by kernel_rfl)
def b36:Row I:=⟨117,[.d (.int .i64),.d (.int .i64)],[.k (.d (.int .i64))],a2y⟩
theorem a5N:RK (b36) :=
 okR [] 11 Y5 [.tmp 4] Go.Proofs.Tryz.func117 (by kernel_rfl)
def b5H:Row I:=⟨118,[.d (.str),.d (.str)],[.k (.d (.int .i64))],a1i⟩
theorem a8V:RK (b5H) :=
 okR [] 11 Y5 [.tmp 4] Go.Proofs.Tryz.func118 (by kernel_rfl)
def a92:Row I:=⟨81,[.d (.dat 109),.d (.dat 109)],[.k (.d (.int .i64))],V7⟩
theorem a1X:RK (a92) :=
 okR [eR a5N,eR a8V] 20 Y5 [.tmp 4] Go.Proofs.Tryz.func81 (by kernel_rfl)
def b8f:Hints I:=mkH [(13,[[],[],[1],[1,2],[0,1,2,3],[0,1,2,3,4],[0,1,2,3,4,5],[0,1,2,3,4,5,6],[0,1,2,3,4,5],[0,1,2,3,4,5,6,7,8],[0,1,2,3,4,5,6,7,8,9],[0,1,2,3,4,5],[0,1,2,3,4,5],[0,1,2,3,4,5,11,12],[0,1,2,3,4,5,11,12,13],[0,1,2,3,4,5,6,7,8,9,10,11,12,13,14],[0,1,2,3,4,5,6,7,8,9,10,11,12,13,14,15],[0,1,2,3,4,5,6,7,8,9,10,11,12,13,14,15,16]]),(15,[[],[],[1],[1,2],[0,1,2,3],[0,1,2,3,4],[0,1,2,3,4,5],[0,1,2,3,4,5,6],[0,1,2,3,4,5],[0,1,2,3,4,5,6,7,8],[0,1,2,3,4,5,6,7,8,9],[0,1,2,3,4,5],[0,1,2,3,4,5],[0,1,2,3,4,5,11,12],[0,1,2,3,4,5,11,12,13],[0,1,2,3,4,5,6,7,8,9,10,11,12,13,14],[0,1,2,3,4,5,6,7,8,9,10,11,12,13,14,15]]),(17,[[],[0],[],[0,1,2],[0,1,2,3],[],[5],[],[5,6,7],[0,1,2,3,4,5,6,7,8],[0,1,2,3,4,5,6,7,8,9],[0,1,2,3,4,5,6,7,8,9,10]]),(18,[[],[],[],[1,2],[1,2,3],[1,2,3,4],[0,1,2,3,4,5],[],[7],[],[7,8,9],[0,1,2,3,4,5,6,7,8,9,10],[0,1,2,3,4,5,6,7,8,9,10,11],[0,1,2,3,4,5,6,7,8,9,10,11,12]]),(19,[[],[],[],[1,2],[1,2,3],[1,2,3,4],[0,1,2,3,4,5],[],[7],[],[7,8,9],[0,1,2,3,4,5,6,7,8,9,10],[0,1,2,3,4,5,6,7,8,9,10,11],[0,1,2,3,4,5,6,7,8,9,10,11,12]])] [] [] [] [(58,⟨2147221600,[],[(4,.lvs [.d (.int .i64),.d (.int .i64),.d (.str),.row 33 false,.row 109 false,.row 88 false,.row 9 false])],[(6,.k (.d (.int .i64)))],[((.exit 0),[]),(.ret,[(5,.k (.d (.int .i64)))])],bnd tb (.len (.slot 0)) 1⟩),
 (250,⟨5192296858534827628530492034256672,[7],[(4,.lvs [.d (.int .i64),.d (.int .i64),.d (.str),.row 33 false,.row 109 false,.row 88 false,.row 9 false]),(7,.lvs [.d (.int .i64),.d (.int .i64),.d (.str),.d (.sl 33),.d (.sl 109),.row 88 true,.row 9 true])],[(8,.k (.d (.int .i64)))],[((.exit 2),[]),(.ret,[(5,.k (.d (.int .i64)))])],bnd tb (.len (.slot 0)) 1⟩),
 (32036,⟨288230101273805312,[7],[],[(9,.k (.d (.int .i64)))],[((.exit 4),[(9,.k (.d (.int .i64)))])],bnd tb (.len (.ld 29 (.fld 33 4 (.slot 7)))) 1⟩)] [] [] []
def b6q:Row I:=⟨87,[.d (.sl 109),.d (.sl 33)],[.k (.d (.dat 33)),.k (.d (.int .i64))],a2k⟩
theorem a94:RK (b6q) :=
 okR [eR a4y,eR a1X,eR a7T] 113 b8f [.cell 4 33,.tmp 5] Go.Proofs.Tryz.func87 (by kernel_rfl)
def b4r:Row I:=⟨142,[.d (.int .i64),.d (.int .i64)],[.k (.d (.int .i64))],a0w⟩
theorem a8g:RK (b4r) :=
 okR [eR a5N] 8 Y5 [.tmp 4] Go.Proofs.Tryz.func142 (by kernel_rfl)
def b4G (_:Nat):Hints I:=mkH [(12,[[],[0],[],[0,1,2],[0,1,2,3],[],[5],[],[5,6,7],[5,6,7,8],[0,1,2,3,4,5,6,7,8,9],[0,1,2,3,4,5,6,7,8,9,10]]),(23,[[],[0],[],[0,1,2],[0,1,2,3],[],[5],[],[5,6,7],[5,6,7,8],[0,1,2,3,4,5,6,7,8,9],[0,1,2,3,4,5,6,7,8,9,10]]),(31,[[],[0],[],[0,1,2],[0,1,2,3],[],[5],[],[5,6,7],[5,6,7,8],[0,1,2,3,4,5,6,7,8,9],[0,1,2,3,4,5,6,7,8,9,10]])] [] [] [] [(506,⟨151115655394234608910448,[],[],[(5,.k (.d (.int .i64)))],[((.exit 0),[]),(.ret,[(4,.k (.d (.int .i64)))])],bnd tb (.len (.ld 29 (.fld 33 4 (.slot 2)))) 1⟩),
 (8186,⟨1329227361959615758789106311928742672,[],[],[(8,.k (.d (.int .i64)))],[((.exit 2),[]),(.ret,[(4,.k (.d (.int .i64)))])],bnd tb (.len (.ld 30 (.fld 33 5 (.slot 2)))) 1⟩),
 (32762,⟨45671904388519233253803489366408968731082361872,[],[],[(10,.k (.d (.int .i64)))],[((.exit 4),[]),(.ret,[(4,.k (.d (.int .i64)))])],bnd tb (.len (.ld 31 (.fld 33 6 (.slot 2)))) 1⟩)] [] [] []
def a0J (n:Nat):Row I:=⟨119,[.d (.dat 33),.d (.dat 33)],[.k (.d (.int .i64))],a0t n⟩
def b45 (_:Nat):Hints I:=mkH [(6,[[],[],[0,1],[0,1,2],[],[],[4,5],[4,5,6],[0,1,2,3,4,5,6,7],[0,1,2,3,4,5,6,7,8]])] [] [] [] [(58,⟨34359607408,[],[],[(5,.k (.d (.int .i64)))],[((.exit 0),[]),(.ret,[(4,.k (.d (.int .i64)))])],bnd tb (.len (.slot 0)) 1⟩)] [] [] []
def a1S (n:Nat):Row I:=⟨120,[.d (.sl 33),.d (.sl 33)],[.k (.d (.int .i64))],a3d n⟩
def V1 (n:Nat):Row I:=⟨83,[.d (.dat 88),.d (.dat 88)],[.k (.d (.int .i64))],Z9 n⟩
theorem b2g (n:Nat)(_:y9 Go.Proofs.Tryz.prog (a0J n))(h_semtyperef1_values:y9 Go.Proofs.Tryz.prog (a1S n))(h_semtyperef1_CompareEntries:y9 Go.Proofs.Tryz.prog (V1 n)):RK (a0J (n+1)) :=
 okR [eR a8g,eR a5N,eR a8V,eR a1X,eR h_semtyperef1_values,eR h_semtyperef1_CompareEntries] 155 (b4G n) [.tmp 4] Go.Proofs.Tryz.func119 (by kernel_rfl)
theorem b3r (n:Nat)(h_semtyperef1_Compare:y9 Go.Proofs.Tryz.prog (a0J n))(_:y9 Go.Proofs.Tryz.prog (a1S n))(_:y9 Go.Proofs.Tryz.prog (V1 n)):RK (a1S (n+1)) :=
 okR [eR a8g,eR h_semtyperef1_Compare] 35 (b45 n) [.tmp 4] Go.Proofs.Tryz.func120 (by kernel_rfl)
theorem a8k (n:Nat)(h_semtyperef1_Compare:y9 Go.Proofs.Tryz.prog (a0J n))(h_semtyperef1_values:y9 Go.Proofs.Tryz.prog (a1S n))(_:y9 Go.Proofs.Tryz.prog (V1 n)):RK (V1 (n+1)) :=
 okR [eR h_semtyperef1_values,eR h_semtyperef1_Compare] 26 Y5 [.tmp 4] Go.Proofs.Tryz.func83 (by kernel_rfl)
theorem a3u:∀ n:Nat,y9 Go.Proofs.Tryz.prog (a0J n)/\y9 Go.Proofs.Tryz.prog (a1S n)/\y9 Go.Proofs.Tryz.prog (V1 n)
 | 0=>⟨Q5 (by kernel_rfl),Q5 (by kernel_rfl),Q5 (by kernel_rfl)⟩
 | n+1=>by
   obtain ⟨h0,h1,h2⟩:=a3u n
   exact ⟨b2g n h0 h1 h2,b3r n h0 h1 h2,a8k n h0 h1 h2⟩
theorem b3B (n:Nat):y9 Go.Proofs.Tryz.prog (a0J n):=(a3u n).1
theorem a41 (n:Nat):y9 Go.Proofs.Tryz.prog (V1 n):=(a3u n).2.2
def b4j (n:Nat):Row I:=⟨82,[.d (.dat 33),.d (.dat 33)],[.k (.d (.bool))],a3F n⟩
theorem a8b (n:Nat):RK (b4j n) :=
 okR [eR (b3B n)] 9 Y5 [.tmp 4] Go.Proofs.Tryz.func82 (by kernel_rfl)
def b4H (_:Nat):Hints I:=mkH [(6,[[],[],[1],[0,1,2],[0,1,2,3],[0,1,2,3,4],[0,1,2,3,4],[0,1,2,3,4,5,6],[0,1,2,3,4,5,6,7],[0,1,2,3,4],[0,1,2,3,4],[0,1,2,3,4,9,10],[0,1,2,3,4,9,10,11],[0,1,2,3,4,5,6,7,8,9,10,11,12],[0,1,2,3,4,5,6,7,8,9,10,11,12,13],[0,1,2,3,4,5,6,7,8,9,10,11,12,13,14]]),(8,[[],[],[1],[0,1,2],[0,1,2,3],[0,1,2,3,4],[0,1,2,3,4],[0,1,2,3,4,5,6],[0,1,2,3,4,5,6,7],[0,1,2,3,4],[0,1,2,3,4],[0,1,2,3,4,9,10],[0,1,2,3,4,9,10,11],[0,1,2,3,4,5,6,7,8,9,10,11,12],[0,1,2,3,4,5,6,7,8,9,10,11,12,13],[0,1,2,3,4,5,6,7,8,9,10,11,12,13,14]]),(10,[[],[],[],[1,2],[1,2,3],[1,2,3,4],[0,1,2,3,4,5],[],[],[7,8],[0,1,2,3,4,5,6,7,8,9],[0,1,2,3,4,5,6,7,8,9,10]])] [] [] [(466,⟨4611686018427379816,[],[],[(.normal,[(3,.k (.d (.sl 88)))])]⟩)] [(58,⟨4611686018427387896,[],[],[(3,.k (.d (.sl 88))),(4,.k (.d (.int .i64)))],[((.exit 0),[(3,.k (.d (.sl 88)))])],bnd tb (.len (.slot 0)) 1⟩),
 (7460,⟨2147475488,[3],[],[(5,.k (.d (.int .i64)))],[((.exit 2),[(5,.k (.d (.int .i64)))])],bnd tb (.len (.slot 3)) 1⟩)] [] [] []
def b2f (n:Nat):Row I:=⟨123,[.bor 88],[.k (.d (.sl 88))],a4s n⟩
theorem b3q (n:Nat):RK (b2f n) :=
 okR [eR (a41 n)] 63 (b4H n) [.tmp 2] Go.Proofs.Tryz.func123 (by kernel_rfl)
def b2W (_:Nat):Hints I:=mkH [] [] [] [] [(58,⟨70368744161376,[],[(4,.lvs [.d (.int .i64),.d (.int .i64),.d (.str),.row 33 false,.row 109 false,.row 88 false,.row 9 false])],[(6,.k (.d (.int .i64)))],[((.exit 0),[]),(.ret,[(5,.k (.d (.int .i64)))])],bnd tb (.len (.slot 1)) 1⟩)] [] [] []
def b1J (n:Nat):Row I:=⟨88,[.d (.int .i64),.bor 88],[.k (.d (.dat 33)),.k (.d (.int .i64))],a2s n⟩
theorem a67 (n:Nat):RK (b1J n) :=
 okR [eR (a8b n),eR (b3q n)] 50 (b2W n) [.cell 4 33,.tmp 5] Go.Proofs.Tryz.func88 (by kernel_rfl)
def b40:Hints I:=mkH [(6,[[],[],[1],[0,1,2],[0,1,2,3],[0,1,2,3,4],[0,1,2,3,4],[0,1,2,3,4,5,6],[0,1,2,3,4,5,6,7],[0,1,2,3,4],[0,1,2,3,4],[0,1,2,3,4,9,10],[0,1,2,3,4,9,10,11],[0,1,2,3,4,5,6,7,8,9,10,11,12],[0,1,2,3,4,5,6,7,8,9,10,11,12,13]]),(8,[[],[],[1],[0,1,2],[0,1,2,3],[0,1,2,3,4],[0,1,2,3,4],[0,1,2,3,4,5,6],[0,1,2,3,4,5,6,7],[0,1,2,3,4],[0,1,2,3,4],[0,1,2,3,4,9,10],[0,1,2,3,4,9,10,11],[0,1,2,3,4,5,6,7,8,9,10,11,12],[0,1,2,3,4,5,6,7,8,9,10,11,12,13]]),(10,[[],[],[],[1,2],[1,2,3],[1,2,3,4],[0,1,2,3,4,5],[],[],[7,8],[0,1,2,3,4,5,6,7,8,9],[0,1,2,3,4,5,6,7,8,9,10]])] [] [] [(466,⟨1152921504606838888,[],[],[(.normal,[(3,.k (.d (.sl 9)))])]⟩)] [(58,⟨1152921504606846968,[],[],[(3,.k (.d (.sl 9))),(4,.k (.d (.int .i64)))],[((.exit 0),[(3,.k (.d (.sl 9)))])],bnd tb (.len (.slot 0)) 1⟩),
 (7460,⟨1073733664,[3],[],[(5,.k (.d (.int .i64)))],[((.exit 2),[(5,.k (.d (.int .i64)))])],bnd tb (.len (.slot 3)) 1⟩)] [] [] []
def b3b:Row I:=⟨58,[.d (.sl 9)],[.k (.d (.sl 9))],a0h⟩
theorem a5y:RK (b3b) :=
 okR [] 61 b40 [.tmp 2] Go.Proofs.Tryz.func58 (by kernel_rfl)
def b0q:Row I:=⟨59,[.d (.dat 33),.d (.sl 9)],[.k (.d (.dat 33))],a4Z⟩
theorem b0O:RK (b0q) :=
 okR [eR a5y] 9 Y5 [.cell 4 33] Go.Proofs.Tryz.func59 (by kernel_rfl)
def b5D:Row I:=⟨124,[.d (.dat 33),.d (.dat 33)],[.k (.d (.dat 33))],a5Q⟩
theorem b6t:RK (b5D) :=
 okR [] 9 Y5 [.cell 4 33] Go.Proofs.Tryz.func124 (by kernel_rfl)
def a9L:Hints I:=mkH [] [] [] [(29,⟨1048456,[],[(0,.k (.d (.dat 44)))],[(.normal,[(3,.k (.row 9 false))])]⟩)] [] [] [] []
def a8O:Row I:=⟨90,[.var 44 (.k (.d (.dat 44))) true],[.k (.d (.sl 9))],a07⟩
theorem a5r:RK (a8O) :=
 okR [eR w6,eR a5z,eR a5y] 22 a9L [.tmp 2] Go.Proofs.Tryz.func90 (by kernel_rfl)
def b0z:Row I:=⟨125,[.var 44 (.k (.d (.dat 44))) true],[.k (.d (.dat 109))],a27⟩
theorem b0W:RK (b0z) :=
 okR [eR w6,eR a1a,eR a1Y] 12 Y5 [.cell 2 109] Go.Proofs.Tryz.func125 (by kernel_rfl)
def X2 (n:Nat):Row I:=⟨60,[.var 44 (.k (.d (.dat 44))) true,.d (.int .i64)],[.k (.d (.dat 33))],a2q n⟩
def b0e (_:Nat):Hints I:=mkH [(16,[[],[],[1],[0,1,2],[],[0,1,2,3,4],[0,1,2,3,4,5]])] [(13,[46])] [] [(29,⟨5316911983139663491615228241104863200,[],[(0,.k (.d (.dat 44))),(4,.lvs [.d (.int .i64),.d (.int .i64),.d (.str),.d (.sl 33),.d (.sl 109),.d (.sl 88),.d (.sl 9)])],[(.normal,[]),(.ret,[])]⟩),
 (7540,⟨2234207627640832,[],[(0,.k (.d (.dat 44)))],[(.normal,[(50,.k (.d (.bool)))])]⟩),
 (7541,⟨141863388262170624,[],[(0,.k (.d (.dat 44))),(7,.k (.d (.dat 33)))],[(.normal,[])]⟩)] [(3754,⟨549487378528,[],[(0,.k (.d (.dat 44)))],[(5,.k (.row 33 false)),(6,.k (.d (.int .i64)))],[((.exit 1),[(5,.k (.row 33 false))])],bnd tb (.slot 6) 2⟩),
 (120794,⟨77370071863715549769893632,[],[(0,.k (.d (.dat 44)))],[(8,.k (.row 109 false)),(9,.k (.row 33 false)),(10,.k (.d (.int .i64)))],[((.exit 3),[(8,.k (.row 109 false)),(9,.k (.row 33 false))])],bnd tb (.slot 10) 2⟩),
 (483290,⟨10382058415869198798257999252078592,[],[(0,.k (.d (.dat 44)))],[(14,.k (.row 88 false)),(15,.k (.d (.int .i64)))],[((.exit 5),[(14,.k (.row 88 false))])],bnd tb (.slot 15) 2⟩)] [] [] []
def a0C (n:Nat):Row I:=⟨89,[.var 44 (.k (.d (.dat 44))) true,.d (.int .i64)],[.k (.d (.dat 33))],b1N n⟩
def b0k (_:Nat):Hints I:=mkH [(4,[[],[0],[],[],[2,3],[2,3,4],[0,1,2,3,4,5],[0,1,2,3,4,5,6],[0,1,2,3,4,5,6,7]])] [] [] [] [(28,⟨1048322,[],[(0,.k (.d (.dat 44))),(7,.lvs [.row 33 false,.d (.bool),.d (.int .i64),.d (.int .i64),.d (.str),.row 33 false,.row 109 false,.row 88 false,.row 9 false])],[(1,.k (.d (.int .i64)))],[((.exit 0),[])],bnd tb (.slot 1) 2⟩)] [] [] []
def a0A (n:Nat):Row I:=⟨126,[.var 44 (.k (.d (.dat 44))) true,.d (.int .i64),.d (.int .i64)],[.k (.d (.dat 88))],b1B n⟩
theorem a9v (n:Nat)(_:y9 Go.Proofs.Tryz.prog (X2 n))(h_semtypebase_Source_value:y9 Go.Proofs.Tryz.prog (a0C n))(_:y9 Go.Proofs.Tryz.prog (a0A n)):RK (X2 (n+1)) :=
 okR [eR h_semtypebase_Source_value,eR a5r] 13 Y5 [.cell 4 33] Go.Proofs.Tryz.func60 (by kernel_rfl)
theorem a8Y (n:Nat)(h_semtypebase_Source_Value:y9 Go.Proofs.Tryz.prog (X2 n))(_:y9 Go.Proofs.Tryz.prog (a0C n))(h_semtypebase_Source_entry:y9 Go.Proofs.Tryz.prog (a0A n)):RK (a0C (n+1)) :=
 okR [eR a3z,eR w6,eR h_semtypebase_Source_Value,eR a8F,eR a2c,eR b6t,eR a5r,eR b0W,eR a94,eR h_semtypebase_Source_entry,eR (a67 n)] 124 (b0e n) [.cell 4 33] Go.Proofs.Tryz.func89 (by kernel_rfl)
theorem a9s (n:Nat)(h_semtypebase_Source_Value:y9 Go.Proofs.Tryz.prog (X2 n))(_:y9 Go.Proofs.Tryz.prog (a0C n))(_:y9 Go.Proofs.Tryz.prog (a0A n)):RK (a0A (n+1)) :=
 okR [eR h_semtypebase_Source_Value,eR w6] 30 (b0k n) [.cell 6 88] Go.Proofs.Tryz.func126 (by kernel_rfl)
theorem a4v:∀ n:Nat,y9 Go.Proofs.Tryz.prog (X2 n)/\y9 Go.Proofs.Tryz.prog (a0C n)/\y9 Go.Proofs.Tryz.prog (a0A n)
 | 0=>⟨Q5 (by kernel_rfl),Q5 (by kernel_rfl),Q5 (by kernel_rfl)⟩
 | n+1=>by
   obtain ⟨h0,h1,h2⟩:=a4v n
   exact ⟨a9v n h0 h1 h2,a8Y n h0 h1 h2,a9s n h0 h1 h2⟩
theorem a9S (n:Nat):y9 Go.Proofs.Tryz.prog (X2 n):=(a4v n).1
def b4s:Row I:=⟨114,[.d (.int .u8)],[.k (.d (.bool))],a3E⟩
theorem b5s:RK (b4s) :=
 okR [] 9 Y5 [.tmp 2] Go.Proofs.Tryz.func114 (by kernel_rfl)
def b1i:Hints I:=mkH [] [] [] [] [(58,⟨562949953159180,[],[],[(3,.k (.d (.int .i64)))],[((.exit 0),[]),(.ret,[(2,.k (.d (.bool)))])],bnd tb (.len (.slot 0)) 1⟩)] [] [] []
def b0m:Row I:=⟨78,[.d (.str)],[.k (.d (.bool))],a1O⟩
theorem a6p:RK (b0m) :=
 okR [eR b5s,eR a8u,eR a8z] 49 b1i [.tmp 2] Go.Proofs.Tryz.func78 (by kernel_rfl)
def b6Y (_:Nat):Hints I:=mkH [(4,[[],[0],[],[0,1,2],[0,1,2,3],[0,1,2,3,4],[0,1,2,3,4,5],[0,1,2,3,4,5,6],[0,1,2,3,4,5,6,7],[0,1,2,3,4,5,6,7,8],[0,1,2,3,4,5,6,7,8,9],[0,1,2,3,4,5,6,7,8,9,10],[0,1,2,3,4,5,6,7,8,9,10,11],[0,1,2,3,4,5,6,7,8,9,10],[0,1,2,3,4,5,6,7,8,9,10,13],[0,1,2,3,4,5,6,7,8,9,10,11,12,13,14],[0,1,2,3,4,5,6,7,8,9,10,11,12,13,14,15],[0,1,2,3,4,5,6,7,8,9,10],[0,1,2,3,4,5,6,7,8,9,10,17],[0,1,2,3,4,5,6,7,8,9,10],[0,1,2,3,4,5,6,7,8,9,10,17,18,19],[0,1,2,3,4,5,6,7,8,9,10,17,18,19,20],[0,1,2,3,4,5,6,7,8,9,10,11,12,13,14,15,16,17,18,19,20,21],[0,1,2,3,4,5,6,7,8,9,10,11,12,13,14,15,16,17,18,19,20,21,22],[0,1,2,3,4,5,6,7,8,9,10,11,12,13,14,15,16,17,18,19,20,21,22,23]]),(29,[[],[0],[],[0,1,2],[0,1,2,3],[0,1,2,3,4],[0,1,2,3,4,5],[0,1,2,3,4,5,6],[0,1,2,3,4,5,6,7],[0,1,2,3,4,5,6,7,8],[0,1,2,3,4,5,6,7,8,9],[0,1,2,3,4,5,6,7,8,9,10],[0,1,2,3,4,5,6,7,8,9,10,11],[0,1,2,3,4,5,6,7,8,9,10],[0,1,2,3,4,5,6,7,8,9,10,13],[0,1,2,3,4,5,6,7,8,9,10,11,12,13,14],[0,1,2,3,4,5,6,7,8,9,10,11,12,13,14,15],[0,1,2,3,4,5,6,7,8,9,10],[0,1,2,3,4,5,6,7,8,9,10,17],[0,1,2,3,4,5,6,7,8,9,10],[0,1,2,3,4,5,6,7,8,9,10,17,18,19],[0,1,2,3,4,5,6,7,8,9,10,17,18,19,20],[0,1,2,3,4,5,6,7,8,9,10,11,12,13,14,15,16,17,18,19,20,21],[0,1,2,3,4,5,6,7,8,9,10,11,12,13,14,15,16,17,18,19,20,21,22],[0,1,2,3,4,5,6,7,8,9,10,11,12,13,14,15,16,17,18,19,20,21,22,23],[0,1,2,3,4,5,6,7,8,9,10,11,12,13,14,15,16,17,18,19,20,21,22,23,24]]),(39,[[],[0],[0,1],[],[3],[0,1,2,3,4],[0,1,2,3,4,5],[0,1,2,3,4,5,6],[0,1,2,3,4,5,6,7],[0,1,2,3,4,5,6,7,8],[0,1,2,3,4,5,6,7,8,9],[0,1,2,3,4,5,6,7,8,9,10],[0,1,2,3,4,5,6,7,8,9],[0,1,2,3,4,5,6,7,8,9,10,11,12],[0,1,2,3,4,5,6,7,8,9,10,11,12,13],[0,1,2,3,4,5,6,7,8,9,10,11,12,13,14],[0,1,2,3,4,5,6,7,8,9,10,11,12,13,14,15],[0,1,2,3,4,5,6,7,8,9,10,11,12,13,14,15,16],[0,1,2,3,4,5,6,7,8,9,10,11,12,13,14,15,16,17],[0,1,2,3,4,5,6,7,8,9,10,11,12,13,14,15,16,17,18],[0,1,2,3,4,5,6,7,8,9,10,11,12,13,14,15,16,17,18,19],[0,1,2,3,4,5,6,7,8,9,10,11,12,13,14,15,16,17,18,19,20],[0,1,2,3,4,5,6,7,8,9,10,11,12,13,14,15,16,17,18,19,20,21],[0,1,2,3,4,5,6,7,8,9,10,11,12,13,14,15,16,17,18,19,20],[0,1,2,3,4,5,6,7,8,9,10,11,12,13,14,15,16,17,18,19,20,23],[0,1,2,3,4,5,6,7,8,9,10,11,12,13,14,15,16,17,18,19,20,21,22,23,24],[0,1,2,3,4,5,6,7,8,9,10,11,12,13,14,15,16,17,18,19,20,21,22,23,24,25],[0,1,2,3,4,5,6,7,8,9,10,11,12,13,14,15,16,17,18,19,20],[0,1,2,3,4,5,6,7,8,9,10,11,12,13,14,15,16,17,18,19,20,21,22,23,24,25,26,27],[0,1,2,3,4,5,6,7,8,9,10,11,12,13,14,15,16,17,18,19,20,21,22,23,24,25,26,27,28],[0,1,2,3,4,5,6,7,8,9,10,11,12,13,14,15,16,17,18,19,20,21,22,23,24,25,26,27,28,29],[0,1,2,3,4,5,6,7,8,9,10,11,12,13,14,15,16,17,18,19,20,21,22,23,24,25,26,27,28,29,30]])] [] [] [(4073,⟨425352958651173079329218259289710264320,[],[],[(.normal,[(126,.k (.d (.bool)))])]⟩)] [(26,⟨4398046510092,[],[],[(3,.k (.d (.int .i64)))],[((.exit 0),[]),(.ret,[(2,.k (.d (.bool)))])],bnd tb (.len (.ld 31 (.fld 33 6 (.slot 1)))) 1⟩),
 (133562354,⟨411376139282411024886683268815639281647236804420309368268914820,[],[],[(7,.k (.d (.int .i64)))],[((.exit 3),[]),(.ret,[(2,.k (.d (.bool)))])],bnd tb (.len (.ld 29 (.fld 33 4 (.slot 1)))) 1⟩),
 (1068498922,⟨948568795032040353016559207911582007103813675119580226322391447047862150789858052,[],[],[(8,.k (.d (.int .i64)))],[((.exit 5),[]),(.ret,[(2,.k (.d (.bool)))])],bnd tb (.len (.ld 30 (.fld 33 5 (.slot 1)))) 1⟩)] [] [] []
def b5d (n:Nat):Row I:=⟨42,[.d (.dat 33)],[.k (.d (.bool))],a5K n⟩
theorem b6h (n:Nat):RK (b5d n) :=
 okR [eR a6p,eR a5t,eR a4y,eR a1X,eR (a8b n),eR (a41 n)] 269 (b6Y n) [.tmp 2] Go.Proofs.Tryz.func42 (by kernel_rfl)
def b6e (_:Nat):Hints I:=mkH [] [] [] [] [(58,⟨16776204,[],[],[(3,.k (.d (.int .i64)))],[((.exit 0),[]),(.ret,[(2,.k (.d (.bool)))])],bnd tb (.len (.ld 28 (.fld 33 3 (.slot 1)))) 1⟩),
 (122,⟨576460752286646388,[],[],[(4,.k (.d (.int .i64)))],[((.exit 2),[]),(.ret,[(2,.k (.d (.bool)))])],bnd tb (.len (.ld 30 (.fld 33 5 (.slot 1)))) 1⟩),
 (31306,⟨1125831187365956,[],[],[(6,.k (.d (.int .i64)))],[((.exit 4),[]),(.ret,[(2,.k (.d (.bool)))])],bnd tb (.len (.ld 28 (.fld 88 0 (.slot 5)))) 1⟩)] [] [] []
def a5i (n:Nat):Row I:=⟨24,[.d (.dat 33)],[.k (.d (.bool))],a0a n⟩
theorem b3X (n:Nat)(h_semtyperef1_Valid:y9 Go.Proofs.Tryz.prog (a5i n)):RK (a5i (n+1)) :=
 okR [eR (b6h n),eR h_semtyperef1_Valid] 59 (b6e n) [.tmp 2] Go.Proofs.Tryz.func24 (by kernel_rfl)
theorem a5E:∀ n:Nat,y9 Go.Proofs.Tryz.prog (a5i n)
 | 0=>Q5 (by kernel_rfl)
 | n+1=>b3X n (a5E n)
def K8 (n:Nat):Row I:=⟨18,[.var 44 (.k (.d (.dat 44))) true,.d (.dat 27),.d (.int .i64),.d (.int .i64)],[.k (.d (.dat 33))],a2K n⟩
def b0Q (_:Nat):Hints I:=mkH [(7,[[],[0],[],[2],[],[4],[],[6],[6,7],[],[9],[9,10],[6,7,8,9,10,11],[4,5,6,7,8,9,10,11,12],[0,1,2,3,4,5,6,7,8,9,10,11,12,13],[],[15],[0,1,2,3,4,5,6,7,8,9,10,11,12,13,14,15,16],[0,1,2,3,4,5,6,7,8,9,10,11,12,13,14,15,16,17],[0,1,2,3,4,5,6,7,8,9,10,11,12,13,14,15,16,17,18],[0,1,2,3,4,5,6,7,8,9,10,11,12,13,14,15,16,17,18,19]]),(25,[[],[0],[],[],[],[4],[],[4,5,6],[4,5,6,7],[],[9],[2,3,4,5,6,7,8,9,10],[2,3,4,5,6,7,8,9,10,11],[0,1,2,3,4,5,6,7,8,9,10,11,12],[0,1,2,3,4,5,6,7,8,9,10,11,12,13],[0,1,2,3,4,5,6,7,8,9,10,11,12,13,14]]),(30,[[],[0],[],[0,1,2],[0,1,2,3]]),(37,[[],[],[],[2],[],[],[5],[5,6],[4,5,6,7],[2,3,4,5,6,7,8],[2,3,4,5,6,7,8,9],[],[0,1,2,3,4,5,6,7,8,9,10,11],[0,1,2,3,4,5,6,7,8,9,10,11,12]]),(39,[[],[],[],[2],[],[],[5],[5,6],[4,5,6,7],[2,3,4,5,6,7,8],[2,3,4,5,6,7,8,9],[],[0,1,2,3,4,5,6,7,8,9,10,11],[0,1,2,3,4,5,6,7,8,9,10,11,12]]),(43,[[],[0],[],[2],[],[2,3,4],[2,3,4,5],[0,1,2,3,4,5,6],[0,1,2,3,4,5,6,7],[0,1,2,3,4,5,6,7,8],[0,1,2,3,4,5,6,7,8,9]]),(44,[[],[0],[0,1],[],[3],[],[5],[],[5,6,7],[5,6,7,8],[3,4,5,6,7,8,9],[3,4,5,6,7,8,9,10],[3,4,5,6,7,8,9,10,11],[3,4,5,6,7,8,9,10,11,12],[0,1,2,3,4,5,6,7,8,9,10,11,12,13],[0,1,2,3,4,5,6,7,8,9,10,11,12,13,14],[0,1,2,3,4,5,6,7,8,9,10,11,12,13,14,15],[0,1,2,3,4,5,6,7,8,9,10,11,12,13,14,15,16]]),(47,[[],[0],[],[2],[2,3],[0,1,2,3,4],[0,1,2,3,4,5]])] [] [] [(16449533,⟨386856262276681335905976320,[],[],[(.normal,[(86,.k (.d (.bool)))])]⟩),
 (263192557,⟨85029053355366337244815407887308292096,[],[(10,.lvs [.d (.int .i64),.d (.int .i64),.d (.str),.row 33 false,.row 109 false,.row 88 false,.row 9 false])],[(.normal,[])]⟩),
 (539018395474,⟨102844034449451492418213359320247649773843695697413960913387520,[],[(10,.k (.d (.dat 33)))],[(.normal,[])]⟩)] [(131596274,⟨2596147810297394171575110715049984,[],[(0,.k (.d (.dat 44))),(10,.lvs [.d (.int .i64),.d (.int .i64),.d (.str),.row 33 false,.row 109 false,.row 88 false,.row 9 false])],[(11,.k (.d (.int .i64)))],[((.exit 1),[])],bnd tb (.len (.ld 22 (.fld 65 4 (.slot 9)))) 1⟩),
 (67377299434,⟨102844034829582222281431884733353260024018043977843391611277312,[],[(10,.k (.d (.dat 33)))],[(12,.k (.d (.int .i64)))],[((.exit 3),[])],bnd tb (.len (.ld 22 (.fld 65 4 (.slot 9)))) 1⟩)] [] [] []
def X8 (n:Nat):Row I:=⟨30,[.var 44 (.k (.d (.dat 44))) true,.d (.dat 27),.d (.int .i64),.d (.int .i64)],[.k (.d (.dat 33))],b2o n⟩
def a7u (_:Nat):Hints I:=mkH [(10,[[],[0],[],[],[],[4],[],[4,5,6],[4,5,6,7],[],[9],[2,3,4,5,6,7,8,9,10],[2,3,4,5,6,7,8,9,10,11],[0,1,2,3,4,5,6,7,8,9,10,11,12],[0,1,2,3,4,5,6,7,8,9,10,11,12,13],[0,1,2,3,4,5,6,7,8,9,10,11,12,13,14]]),(13,[[],[],[],[2],[],[2,3,4],[2,3,4,5],[],[7],[0,1,2,3,4,5,6,7,8],[0,1,2,3,4,5,6,7,8,9],[0,1,2,3,4,5,6,7,8,9,10]])] [] [] [(31309,⟨2305280059260272640,[],[(0,.k (.d (.dat 44))),(12,.lvs [.row 33 false,.d (.bool),.d (.int .i64),.d (.int .i64),.d (.str),.d (.sl 33),.d (.sl 109),.d (.sl 88),.d (.sl 9)])],[(.normal,[])]⟩)] [(122,⟨36893488147414923776,[],[(0,.k (.d (.dat 44)))],[(9,.k (.row 88 false)),(11,.k (.d (.int .i64)))],[((.exit 0),[(9,.k (.row 88 false))])],bnd tb (.slot 11) 2⟩),
 (31306,⟨70368677076992,[],[(0,.k (.d (.dat 44))),(12,.lvs [.row 33 false,.d (.bool),.d (.int .i64),.d (.int .i64),.d (.str),.row 33 false,.row 109 false,.row 88 false,.row 9 false])],[(13,.k (.d (.int .i64)))],[((.exit 2),[])],bnd tb (.slot 10) 1⟩)] [] [] []
def J5 (n:Nat):Row I:=⟨57,[.var 44 (.k (.d (.dat 44))) true,.d (.dat 27),.d (.dat 65),.d (.int .i64)],[.k (.d (.dat 33))],a70 n⟩
def a9l (_:Nat):Hints I:=mkH [(8,[[],[],[],[],[3],[],[3,4,5],[3,4,5,6],[3,4,5,6,7],[],[9],[1,2,3,4,5,6,7,8,9,10],[1,2,3,4,5,6,7,8,9,10,11],[0,1,2,3,4,5,6,7,8,9,10,11,12],[0,1,2,3,4,5,6,7,8,9,10,11,12,13]]),(12,[[],[],[],[],[3],[],[3,4,5],[3,4,5,6],[],[8],[1,2,3,4,5,6,7,8,9],[1,2,3,4,5,6,7,8,9,10],[0,1,2,3,4,5,6,7,8,9,10,11],[0,1,2,3,4,5,6,7,8,9,10,11,12]])] [(6,[28])] [] [(125,⟨604462333346562283935232,[],[(0,.k (.d (.dat 44)))],[(.normal,[(9,.k (.row 109 false)),(10,.k (.row 33 false))])]⟩),
 (978,⟨72057594033735168,[],[(0,.k (.d (.dat 44)))],[(.normal,[(9,.k (.row 109 false)),(10,.k (.row 33 false))])]⟩),
 (7824,⟨8585740288,[],[(0,.k (.d (.dat 44)))],[(.normal,[(32,.k (.d (.bool)))])]⟩)] [(122,⟨72057594037898752,[],[(0,.k (.d (.dat 44)))],[(9,.k (.row 109 false)),(10,.k (.row 33 false)),(11,.k (.d (.int .i64)))],[((.exit 0),[(9,.k (.row 109 false)),(10,.k (.row 33 false))])],bnd tb (.len (.ld 62 (.fld 65 5 (.slot 6)))) 1⟩)] [] [] []
def V2 (n:Nat):Row I:=⟨56,[.var 44 (.k (.d (.dat 44))) true,.d (.dat 27),.d (.dat 65),.d (.int .i64)],[.k (.d (.dat 33))],b0f n⟩
theorem a9K (n:Nat)(_:y9 Go.Proofs.Tryz.prog (K8 n))(h_semtypebase_Source_near:y9 Go.Proofs.Tryz.prog (X8 n))(_:y9 Go.Proofs.Tryz.prog (J5 n))(_:y9 Go.Proofs.Tryz.prog (V2 n)):RK (K8 (n+1)) :=
 okR [eR h_semtypebase_Source_near,eR (a5E n),eR a3z] 21 Y5 [.cell 8 33] Go.Proofs.Tryz.func18 (by kernel_rfl)
theorem a9R (n:Nat)(h_semtypebase_Source_Near:y9 Go.Proofs.Tryz.prog (K8 n))(h_semtypebase_Source_near:y9 Go.Proofs.Tryz.prog (X8 n))(h_semtypebase_Source_nearFunction:y9 Go.Proofs.Tryz.prog (J5 n))(h_semtypebase_Source_nearMap:y9 Go.Proofs.Tryz.prog (V2 n)):RK (X8 (n+1)) :=
 okR [eR a3z,eR w6,eR a99,eR a7R,eR a1Y,eR a8X,eR a1a,eR a9W,eR a2c,eR h_semtypebase_Source_Near,eR h_semtypebase_Source_nearMap,eR h_semtypebase_Source_nearFunction,eR h_semtypebase_Source_near,eR a5y,eR b0O,eR (a9S n)] 217 (b0Q n) [.cell 8 33] Go.Proofs.Tryz.func30 (by kernel_rfl)
theorem a6Z (n:Nat)(h_semtypebase_Source_Near:y9 Go.Proofs.Tryz.prog (K8 n))(_:y9 Go.Proofs.Tryz.prog (X8 n))(_:y9 Go.Proofs.Tryz.prog (J5 n))(_:y9 Go.Proofs.Tryz.prog (V2 n)):RK (J5 (n+1)) :=
 okR [eR w6,eR h_semtypebase_Source_Near,eR (a67 n),eR a2c] 75 (a7u n) [.cell 8 33] Go.Proofs.Tryz.func57 (by kernel_rfl)
theorem a8n (n:Nat)(h_semtypebase_Source_Near:y9 Go.Proofs.Tryz.prog (K8 n))(_:y9 Go.Proofs.Tryz.prog (X8 n))(_:y9 Go.Proofs.Tryz.prog (J5 n))(_:y9 Go.Proofs.Tryz.prog (V2 n)):RK (V2 (n+1)) :=
 okR [eR w6,eR h_semtypebase_Source_Near,eR a94,eR a2c] 89 (a9l n) [.cell 8 33] Go.Proofs.Tryz.func56 (by kernel_rfl)
theorem a4J:∀ n:Nat,y9 Go.Proofs.Tryz.prog (K8 n)/\y9 Go.Proofs.Tryz.prog (X8 n)/\y9 Go.Proofs.Tryz.prog (J5 n)/\y9 Go.Proofs.Tryz.prog (V2 n)
 | 0=>⟨Q5 (by kernel_rfl),Q5 (by kernel_rfl),Q5 (by kernel_rfl),Q5 (by kernel_rfl)⟩
 | n+1=>by
   obtain ⟨h0,h1,h2,h3⟩:=a4J n
   exact ⟨a9K n h0 h1 h2 h3,a9R n h0 h1 h2 h3,a6Z n h0 h1 h2 h3,a8n n h0 h1 h2 h3⟩
theorem b0i (n:Nat):y9 Go.Proofs.Tryz.prog (K8 n):=(a4J n).1
def b41 (_:Nat):Hints I:=mkH [(5,[[],[],[],[],[1,2,3],[0,1,2,3,4],[0,1,2,3,4,5]])] [] [] [] [] [] [] []
def b3w (n:Nat):Row I:=⟨7,[.d (.sl 3),.d (.sl 3)],[.k (.d (.dat 27)),.k (.d (.dat 33))],a4M n⟩
theorem b4R (n:Nat):RK (b3w n) :=
 okR [eR w6,eR b0w,eR (b0i n)] 31 (b41 n) [.cell 4 27,.cell 5 33] Go.Proofs.Tryz.func7 (by kernel_rfl)
def c0x:Hints I:=mkH [] [] [] [] [(58,⟨576460752303396608,[],[],[(10,.k (.row 22 false)),(15,.k (.d (.int .i64)))],[((.exit 0),[(10,.k (.row 22 false))]),(.ret,[(8,.k (.row 22 false)),(9,.k (.d (.bool)))])],bnd tb (.slot 14) 1⟩)] [] [] []
def b8I:Row I:=⟨20,[.d (.dat 27),.d (.sl 3),.d (.int .i64),.d (.int .i64)],[.k (.row 22 false),.k (.d (.bool))],a3c⟩
theorem b9Y:RK (b8I) :=
 okR [] 60 c0x [.tmp 8,.tmp 9] Go.Proofs.Tryz.func20 (by kernel_rfl)
def b1z:Row I:=⟨22,[.d (.int .i64),.var 27 (.k (.d (.dat 27))) false],[.k (.d (.bool))],a0N⟩
theorem b2n:RK (b1z) :=
 okR [] 11 Y5 [.tmp 3] Go.Proofs.Tryz.func22 (by kernel_rfl)
def a6v (B:Nat)(n:Nat):Row (J B):=⟨19,[.d (.dat 27)],[.k (.d (.int .i64))],X7 n⟩
theorem b2p (B:Nat)(n:Nat):y9 Go.Proofs.Tryz.prog (a6v B n):=fun σ a vs pls res hA hd hr =>
 a2v.mono (a7n n σ a vs pls res hA hd hr) rfl fun _ τ hE ⟨ws,us,pls',hp⟩=>⟨τ,rfl,hE,ws,us,pls',⟨hp.ret,hp.len,hp.tt,hp.out,hp.nodup,hp.own⟩⟩
def b0G (B:Nat):Row (J B):=⟨20,[.d (.dat 27),.d (.sl 3),.d (.int .i64),.d (.int .i64)],[.k (.row 22 false),.k (.d (.bool))],a3c⟩
theorem b9g (B:Nat):y9 Go.Proofs.Tryz.prog (b0G B):=fun σ a vs pls res hA hd hr =>
 a2v.mono (b9Y σ a vs pls res hA hd hr) rfl fun _ τ hE ⟨ws,us,pls',hp⟩=>⟨τ,rfl,hE,ws,us,pls',⟨hp.ret,hp.len,hp.tt,hp.out,hp.nodup,hp.own⟩⟩
def a6s (B:Nat):Row (J B):=⟨22,[.d (.int .i64),.var 27 (.k (.d (.dat 27))) false],[.k (.d (.bool))],a0N⟩
theorem b1d (B:Nat):y9 Go.Proofs.Tryz.prog (a6s B):=fun σ a vs pls res hA hd hr =>
 a2v.mono (b2n σ a vs pls res hA hd hr) rfl fun _ τ hE ⟨ws,us,pls',hp⟩=>⟨τ,rfl,hE,ws,us,pls',⟨hp.ret,hp.len,hp.tt,hp.out,hp.nodup,hp.own⟩⟩
def esC (B n:Nat):List (Ans (J B)):=[c0k (tbJ B) (a6v B n),c0k (tbJ B) (b0G B),b9p (tbJ B) (a9O B n) (fun _ _=>true),c0k (tbJ B) (a6s B)]
theorem d0O (B n:Nat):c0T Go.Proofs.Tryz.prog (esC B n):=⟨b4D (b2S B) (b2p B n),b4D (b2S B) (b9g B),d0j B (b0E B n),b4D (b2S B) (b1d B),trivial⟩
def b4M (B:Nat)(_:Nat):Hints (J B):=d1a B [(1,[[],[0],[],[0,1,2]])] [] [] [(29,⟨3932400,[],[],[(.normal,[(6,.k (.d (.int .i64))),(7,.k (.d (.int .i64)))]),(.ret,[(4,.k (.row 52 false)),(5,.k (.d (.int .i64)))])]⟩)] [] [] [] []
def b2r (B n:Nat):Row (J B):=⟨9,[.d (.dat 27),.d (.dat 40)],[.k (.d (.sl 52)),.k (.d (.int .i64))],a3g n⟩
theorem d1H (B:Nat):FlipTy (γ:=J B 52) (δ:=J B 56) B a21 (fun g:Api_Goal=>g.Pos) (fun g:Api_Goal=>g.Neg) (fun g:Api_Goal=>g.Lists):=⟨rfl,rfl,Iff.rfl,by
 intro σ d cs
 constructor
 ·rintro ⟨_,_,rfl,⟨A1,c1,rfl,h1⟩,_,_,rfl,⟨A2,c2,rfl,h2⟩,rfl⟩
  exact ⟨A1,c1,A2,c2,rfl,h1,h2⟩
 ·rintro ⟨A1,c1,A2,c2,rfl,h1,h2⟩
  exact ⟨_,_,rfl,⟨A1,c1,rfl,h1⟩,_,_,rfl,⟨A2,c2,rfl,h2⟩,rfl⟩⟩
theorem c9F (x:Api_Box)(d0 d1:Api_Goal)(r:List Api_Goal)(h:x.Parts=d0::d1::r):(a1M x).Parts=d0::a3e d1::r:=by
 unfold a1M
 rw [h]
theorem b3p (B n:Nat):a4N Go.Proofs.Tryz.prog (b2r B n) (fun w _=>w.heap.size=B) :=
 c93 (I:=J B) (B:=B) (E:=52) (G:=56) (H:=b4M B n) (b2S B) (a9u (d0O B n) 3) mixed (d1H B) (setL:=a3e) (setB:=a1M) c9F (fun _=>⟨rfl,rfl,rfl⟩) (ok:=a57) (fun x h=>Nat.le_of_ble_eq_true h) (cd:=b44 Go.Proofs.Tryz.f9) (rl:=[.tmp 4,.tmp 5]) Go.Proofs.Tryz.func9 (by kernel_rfl) (by kernel_rfl) (by kernel_rfl) (by kernel_rfl) rfl Go.Proofs.Tryz.underlying45 (by kernel_rfl) ⟨_,_,Go.Proofs.Tryz.underlying52,rfl,rfl,by kernel_rfl⟩ c7V Go.Proofs.Tryz.underlying50 (by kernel_rfl) ⟨_,_,Go.Proofs.Tryz.underlying56,rfl,rfl,by kernel_rfl⟩ (by kernel_rfl) Go.Proofs.Tryz.underlying45 (by kernel_rfl) (by kernel_rfl) (by kernel_rfl) rfl (by kernel_rfl)
def b3s (n:Nat):Row I:=⟨9,[.d (.dat 27),.d (.dat 40)],[.k (.d (.sl 52)),.k (.d (.int .i64))],a3g n⟩
theorem b4c (n:Nat):RK (b3s n):=fun σ a vs pls res hA hd hr =>
 a2v.mono (b3p σ.w.heap.size n σ a vs pls res hA rfl hd hr) rfl fun v τ hE ⟨ws,us,pls',hp⟩=>by
  obtain ⟨v1,r,p1,p2,e1,e2,⟨⟨A,c,e3,hs⟩,e4⟩,h2⟩:=hp.tt
  exact ⟨τ,rfl,hE,ws,us,pls',hp.ret,hp.len,⟨v1,r,p1,p2,e1,e2,⟨⟨A,c,e3,c7i (a:=a0o) (to:=a21) hs⟩,e4⟩,h2⟩,hp.out,hp.nodup,hp.own⟩
def b4q:Row I:=⟨43,[.d (.dat 27),.d (.int .i64)],[.k (.d (.bool))],a0v⟩
theorem a5G:RK (b4q) :=
 okR [] 14 Y5 [.tmp 4] Go.Proofs.Tryz.func43 (by kernel_rfl)
def b62:Hints I:=mkH [(4,[[],[],[1],[],[1,2,3],[1,2,3,4],[0,1,2,3,4,5],[0,1,2,3,4,5,6]]),(47,[[],[],[1],[0,1,2],[0,1,2,3],[0,1,2,3,4],[0,1,2,3,4,5],[0,1,2,3,4,5,6],[0,1,2,3,4,5,6,7],[0,1,2,3,4,5,6,7,8],[0,1,2,3,4,5,6,7,8,9],[0,1,2,3,4,5,6,7,8,9,10],[0,1,2,3,4,5,6,7,8,9,10,11],[0,1,2,3,4,5,6,7,8,9,10,11,12],[0,1,2,3,4,5,6,7,8,9,10,11,12,13],[0,1,2,3,4,5,6,7,8,9,10,11,12,13,14],[0,1,2,3,4,5,6,7,8,9,10,11,12,13,14,15],[0,1,2,3,4,5,6,7,8,9,10,11,12,13,14],[0,1,2,3,4,5,6,7,8,9,10,11,12,13,14,17],[0,1,2,3,4,5,6,7,8,9,10,11,12,13,14,15,16,17,18],[0,1,2,3,4,5,6,7,8,9,10,11,12,13,14,15,16,17,18,19],[0,1,2,3,4,5,6,7,8,9,10,11,12,13,14,15,16,17,18,19,20],[0,1,2,3,4,5,6,7,8,9,10,11,12,13,14],[0,1,2,3,4,5,6,7,8,9,10,11,12,13,14,22],[0,1,2,3,4,5,6,7,8,9,10,11,12,13,14,15,16,17,18,19,20,21,22,23],[0,1,2,3,4,5,6,7,8,9,10,11,12,13,14,15,16,17,18,19,20,21,22,23,24],[0,1,2,3,4,5,6,7,8,9,10,11,12,13,14,15,16,17,18,19,20,21,22,23,24,25],[0,1,2,3,4,5,6,7,8,9,10,11,12,13,14,15,16,17,18,19,20,21,22,23,24,25,26]])] [] [] [(2092029,⟨2706308199418088717232151174730781556736,[],[],[(.normal,[(122,.k (.d (.bool)))])]⟩),
 (535560189,⟨3568119231764899702645714923623737840956866560,[],[],[(.normal,[(149,.k (.d (.bool)))])]⟩)] [(26,⟨67106864,[],[],[(5,.k (.d (.int .i64)))],[((.exit 0),[]),(.ret,[(4,.k (.d (.bool)))])],bnd tb (.len (.ld 22 (.fld 65 4 (.slot 3)))) 1⟩),
 (68551704562,⟨1606938044257528773904631189422958917689486710763136902759952,[],[],[(9,.k (.d (.int .i64)))],[((.exit 3),[]),(.ret,[(4,.k (.d (.bool)))])],bnd tb (.len (.ld 62 (.fld 65 5 (.slot 3)))) 1⟩)] [] [] []
def b5M:Row I:=⟨44,[.d (.dat 27),.d (.dat 65)],[.k (.d (.bool))],a5D⟩
theorem b59:RK (b5M) :=
 okR [eR a5G,eR a5t,eR a6p,eR a4y,eR a1X] 216 b62 [.tmp 4] Go.Proofs.Tryz.func44 (by kernel_rfl)
def b2i:Row I:=⟨45,[.d (.dat 65)],[.k (.d (.bool))],a4q⟩
theorem b3D:RK (b2i) :=
 okR [] 16 Y5 [.tmp 2] Go.Proofs.Tryz.func45 (by kernel_rfl)
def b1M (n:Nat):Hints I:=mkH [(6,[[],[],[1],[],[1,2,3],[1,2,3,4],[0,1,2,3,4,5],[0,1,2,3,4,5,6]])] [] [] [] [(58,⟨1073709068,[],[],[(3,.k (.d (.int .i64)))],[((.exit 0),[]),(.ret,[(2,.k (.d (.int .i64)))])],bnd tb (.len (.ld 25 (.fld 27 0 (.slot 1)))) 1⟩),
 (250,⟨4951760157141521082416628192,[],[],[(4,.k (.row 4 false)),(5,.k (.d (.int .i64)))],[((.exit 2),[(4,.k (.row 4 false))])],bnd tb (.len (.ld 25 (.fld 27 0 (.slot 1)))) 1⟩),
 (506,⟨10136253041668693690874029146628,[],[],[(4,.k (.row 4 false)),(9,.k (.d (.int .i64)))],[((.exit 8),[(4,.k (.row 4 false))]),(.ret,[(2,.k (.d (.int .i64))),(4,.k (.row 4 false))])],bnd tb (.len (.slot 4)) 1⟩),
 (16018,⟨4951760157141518900573241792,[],[],[(4,.k (.row 4 false)),(6,.k (.d (.int .i64)))],[((.exit 4),[(4,.k (.row 4 false))])],bnd tb (.len (.ld 25 (.fld 27 0 (.slot 1)))) 1⟩),
 (4100682,⟨4835703278177041722114432,[],[],[(4,.k (.row 4 false)),(7,.k (.d (.bool))),(8,.k (.d (.int .i64)))],[((.exit 6),[(4,.k (.row 4 false)),(7,.k (.d (.bool)))])],fun _=>some n⟩)] [] [] []
def b0l (n:Nat):Row I:=⟨25,[.d (.dat 27)],[.k (.d (.int .i64))],a0X n⟩
theorem b0U (n:Nat):RK (b0l n) :=
 okR [eR a5G,eR b59,eR b3D] 103 (b1M n) [.tmp 2] Go.Proofs.Tryz.func25 (by kernel_rfl)
def b4o:Hints I:=mkH [(1,[[],[0],[0,1],[],[3],[0,1,2,3,4],[0,1,2,3,4,5]]),(5,[[],[],[],[1,2],[1,2,3],[0,1,2,3,4],[0,1,2,3,4,5]])] [] [] [] [(58,⟨67100752,[5],[],[(6,.k (.d (.int .i64)))],[((.exit 0),[]),(.ret,[(4,.k (.d (.bool)))])],bnd tb (.len (.slot 5)) 1⟩)] [] [] []
def b2h:Row I:=⟨26,[.d (.dat 27),.d (.dat 56)],[.k (.d (.bool))],a4p⟩
theorem b3c:RK (b2h) :=
 okR [eR a5G] 26 b4o [.tmp 4] Go.Proofs.Tryz.func26 (by kernel_rfl)
def b6i:Hints I:=mkH [(1,[[],[],[1],[0,1,2],[0,1,2,3],[],[1,2,5],[0,1,2,3,4,5,6],[],[0,1,2,3,4,5,6,7,8]]),(8,[[],[0],[],[0,1,2],[0,1,2,3],[0,1,2,3,4],[],[0,1,2,3,4,5,6],[0,1,2,3,4,5,6,7],[0,1,2,3,4,5,6,7,8],[0,1,2,3,4,5,6,7,8,9],[0,1,2,3,4,5,6,7,8,9,10],[0,1,2,3,4,5,6,7,8,9,10,11],[0,1,2,3,4,5,6,7,8,9,10,11,12],[0,1,2,3,4,5,6,7,8,9,10,11,12,13],[0,1,2,3,4,5,6,7,8,9,10,11,12],[0,1,2,3,4,5,6,7,8,9,10,11,12,13,14,15],[0,1,2,3,4,5,6,7,8,9,10,11,12,13,14,15,16],[0,1,2,3,4,5,6,7,8,9,10,11,12,13,14,15,16,17],[0,1,2,3,4,5,6,7,8,9,10,11,12,13,14,15,16,17,18],[0,1,2,3,4,5,6,7,8,9,10,11,12],[0,1,2,3,4,5,6,7,8,9,10,11,12,20],[0,1,2,3,4,5,6,7,8,9,10,11,12,13,14,15,16,17,18,19,20,21],[0,1,2,3,4,5,6,7,8,9,10,11,12,13,14,15,16,17,18,19,20,21,22],[0,1,2,3,4,5,6,7,8,9,10,11,12,13,14,15,16,17,18,19,20,21,22,23]])] [] [] [(61,⟨1048640,[],[(5,.lvs [.d (.int .i64),.d (.int .i64),.row 206 false,.d (.bool),.row 9 false,.row 3 false,.row 3 false,.row 9 false,.row 9 false])],[(.normal,[(6,.k (.d (.int .i64)))])]⟩),
 (2002,⟨2361183241434554171648,[],[(1,.k (.d (.dat 44))),(5,.lvs [.d (.int .i64),.d (.int .i64),.row 206 false,.d (.bool),.row 9 false,.row 3 false,.row 3 false,.row 9 false,.row 9 false])],[(.normal,[])]⟩),
 (64077,⟨9079256848778919936,[],[(5,.lvs [.d (.int .i64),.d (.int .i64),.row 206 false,.d (.bool),.row 9 false,.row 3 false,.row 3 false,.row 9 false,.row 9 false])],[(.normal,[])]⟩)] [(250,⟨2361183241434820510080,[],[(1,.k (.d (.dat 44))),(5,.lvs [.d (.int .i64),.d (.int .i64),.row 206 false,.d (.bool),.row 9 false,.row 3 false,.row 3 false,.row 9 false,.row 9 false])],[(7,.k (.d (.int .i64)))],[((.exit 0),[])],bnd tb (.len (.ld 25 (.fld 27 0 (.slot 2)))) 1⟩)] [] [] []
def b4a:Row I:=⟨8,[.d (.dat 27),.var 44 (.k (.d (.dat 44))) true],[.k (.d (.dat 40))],a43⟩
theorem b5q:RK (b4a) :=
 okR [eR w6] 72 b6i [.cell 4 40] Go.Proofs.Tryz.func8 (by kernel_rfl)
def b71:Hints I:=mkH [(4,[[],[0],[],[0,1,2],[0,1,2,3],[],[0,1,2,3,4,5]])] [] [] [] [(26,⟨2097136,[],[],[(5,.k (.d (.int .i64)))],[((.exit 0),[]),(.ret,[(4,.k (.d (.int .i64)))])],bnd tb (.len (.ld 29 (.fld 33 4 (.slot 2)))) 1⟩)] [] [] []
def b6f:Row I:=⟨121,[.d (.dat 33),.d (.dat 109)],[.k (.d (.int .i64))],a6j⟩
theorem b6v:RK (b6f) :=
 okR [] 21 b71 [.tmp 4] Go.Proofs.Tryz.func121 (by kernel_rfl)
def b6n:Hints I:=mkH [(4,[[],[0],[],[0,1,2],[0,1,2,3],[0,1,2,3,4],[],[0,1,2,3,4,5,6]])] [] [] [] [(26,⟨4194288,[],[],[(5,.k (.d (.int .i64)))],[((.exit 0),[]),(.ret,[(4,.k (.d (.int .i64)))])],bnd tb (.len (.ld 62 (.fld 65 5 (.slot 2)))) 1⟩)] [] [] []
def b4l:Row I:=⟨122,[.d (.dat 65),.d (.dat 109)],[.k (.d (.int .i64))],a2A⟩
theorem b4Y:RK (b4l) :=
 okR [] 22 b6n [.tmp 4] Go.Proofs.Tryz.func122 (by kernel_rfl)
def b3N (_:Nat):Hints I:=mkH [(8,[[],[0],[],[],[3],[],[3,4,5],[0,1,2,3,4,5,6],[0,1,2,3,4,5,6,7],[0,1,2,3,4,5,6,7,8],[0,1,2,3,4,5,6,7,8,9],[0,1,2,3,4,5,6,7,8,9,10],[0,1,2,3,4,5,6,7,8,9,10,11],[0,1,2,3,4,5,6,7,8,9,10,11,12],[0,1,2,3,4,5,6,7,8,9,10,11],[0,1,2,3,4,5,6,7,8,9,10,11],[0,1,2,3,4,5,6,7,8,9,10,11,15],[0,1,2,3,4,5,6,7,8,9,10,11],[0,1,2,3,4,5,6,7,8,9,10,11,15,16,17],[0,1,2,3,4,5,6,7,8,9,10,11,15,16,17,18],[0,1,2,3,4,5,6,7,8,9,10,11,12,13,14,15,16,17,18,19],[0,1,2,3,4,5,6,7,8,9,10,11,12,13,14,15,16,17,18,19,20],[0,1,2,3,4,5,6,7,8,9,10,11,12,13,14,15,16,17,18,19,20,21],[0,1,2,3,4,5,6,7,8,9,10,11,12,13,14,15,16,17,18,19,20,21,22]])] [] [] [] [(122,⟨18014398509220672,[],[],[(8,.k (.d (.int .i64)))],[((.exit 0),[]),(.ret,[(6,.k (.d (.bool)))])],bnd tb (.len (.ld 30 (.fld 33 5 (.slot 3)))) 1⟩)] [] [] []
def a0F (n:Nat):Row I:=⟨86,[.d (.dat 33),.d (.dat 27),.d (.dat 65)],[.k (.d (.bool))],a0P n⟩
def b4v (_:Nat):Hints I:=mkH [(4,[[],[0],[],[0,1,2],[0,1,2,3],[0,1,2,3,4],[0,1,2,3,4,5],[0,1,2,3,4,5,6],[0,1,2,3,4,5,6,7],[0,1,2,3,4,5,6,7],[0,1,2,3,4,5,6,7,9],[0,1,2,3,4,5,6,7],[0,1,2,3,4,5,6,7,9,10,11],[0,1,2,3,4,5,6,7,9,10,11,12],[0,1,2,3,4,5,6,7,9,10,11,12,13],[0,1,2,3,4,5,6,7,8,9,10,11,12,13,14],[0,1,2,3,4,5,6,7,8,9,10,11,12,13,14,15],[0,1,2,3,4,5,6,7,8,9,10,11,12,13,14,15,16]]),(9,[[],[],[1],[],[1,2,3],[1,2,3,4],[0,1,2,3,4,5],[0,1,2,3,4,5,6]]),(13,[[],[0],[],[0,1,2],[0,1,2,3],[],[],[0,1,2,3,4,5,6],[0,1,2,3,4,5,6,7]])] [] [] [(3730,⟨575334852396581888,[],[],[(.normal,[(10,.k (.d (.int .i64)))])]⟩),
 (14925,⟨145268109580462720000,[],[],[(.normal,[(10,.k (.d (.int .i64)))])]⟩)] [(26,⟨68719474880,[],[],[(7,.k (.d (.int .i64)))],[((.exit 0),[]),(.ret,[(6,.k (.d (.bool)))])],bnd tb (.len (.ld 62 (.fld 65 5 (.slot 5)))) 1⟩),
 (58,⟨75557863725845603944256,[],[],[(8,.k (.d (.int .i64)))],[((.exit 2),[]),(.ret,[(6,.k (.d (.bool)))])],bnd tb (.len (.ld 29 (.fld 33 4 (.slot 3)))) 1⟩)] [] [] []
def a0I (n:Nat):Row I:=⟨85,[.d (.dat 33),.d (.dat 27),.d (.dat 65)],[.k (.d (.bool))],a00 n⟩
def b5t (_:Nat):Hints I:=mkH [(35,[[],[],[],[2],[],[2,3,4],[2,3,4,5],[0,1,2,3,4,5,6]]),(42,[[],[],[],[2],[],[2,3,4],[2,3,4,5],[0,1,2,3,4,5,6],[0,1,2,3,4,5,6,7]]),(46,[[],[],[],[2],[2,3],[2,3,4],[0,1,2,3,4,5],[0,1,2,3,4,5,6],[0,1,2,3,4,5,6,7]]),(51,[[],[0],[],[0,1,2],[0,1,2,3],[],[5],[0,1,2,3,4,5,6]])] [] [] [] [(506806140914,⟨365364258960126464239350440319934430733230145856,[],[],[(8,.k (.d (.int .i64)))],[((.exit 1),[]),(.ret,[(6,.k (.d (.bool)))])],bnd tb (.len (.ld 22 (.fld 65 4 (.slot 7)))) 1⟩),
 (2027224563698,⟨95779509802480722744478485512061607693151539203932736,[],[],[(9,.k (.d (.int .i64)))],[((.exit 3),[]),(.ret,[(6,.k (.d (.bool)))])],bnd tb (.len (.ld 22 (.fld 65 4 (.slot 7)))) 1⟩),
 (16217796509690,⟨12855112035213460536787957001890350341026617553047063680255040,[],[],[(10,.k (.d (.int .i64)))],[((.exit 5),[]),(.ret,[(6,.k (.d (.bool)))])],bnd tb (.len (.ld 31 (.fld 33 6 (.slot 3)))) 1⟩)] [] [] []
def a0k (n:Nat):Row I:=⟨46,[.d (.dat 33),.d (.dat 27),.d (.int .i64)],[.k (.d (.bool))],w4 n⟩
def b3U (_:Nat):Hints I:=mkH [(6,[[],[],[0,1],[0,1,2],[],[],[],[5,6],[5,6,7],[0,1,2,3,4,5,6,7,8],[0,1,2,3,4,5,6,7,8,9]])] [] [] [] [(58,⟨1073733824,[],[],[(7,.k (.d (.int .i64)))],[((.exit 0),[]),(.ret,[(6,.k (.d (.bool)))])],bnd tb (.len (.slot 0)) 1⟩)] [] [] []
def a0L (n:Nat):Row I:=⟨84,[.d (.sl 33),.d (.dat 27),.d (.sl 3)],[.k (.d (.bool))],a0u n⟩
theorem b1s (n:Nat)(_:y9 Go.Proofs.Tryz.prog (a0F n))(_:y9 Go.Proofs.Tryz.prog (a0I n))(h_semtyperef7_member:y9 Go.Proofs.Tryz.prog (a0k n))(h_semtyperef7_members:y9 Go.Proofs.Tryz.prog (a0L n)):RK (a0F (n+1)) :=
 okR [eR h_semtyperef7_members,eR h_semtyperef7_member] 54 (b3N n) [.tmp 6] Go.Proofs.Tryz.func86 (by kernel_rfl)
theorem b2c (n:Nat)(_:y9 Go.Proofs.Tryz.prog (a0F n))(_:y9 Go.Proofs.Tryz.prog (a0I n))(h_semtyperef7_member:y9 Go.Proofs.Tryz.prog (a0k n))(_:y9 Go.Proofs.Tryz.prog (a0L n)):RK (a0I (n+1)) :=
 okR [eR b6v,eR b4Y,eR h_semtyperef7_member] 76 (b4v n) [.tmp 6] Go.Proofs.Tryz.func85 (by kernel_rfl)
theorem b3I (n:Nat)(h_semtyperef7_function:y9 Go.Proofs.Tryz.prog (a0F n))(h_semtyperef7_mapping:y9 Go.Proofs.Tryz.prog (a0I n))(h_semtyperef7_member:y9 Go.Proofs.Tryz.prog (a0k n))(h_semtyperef7_members:y9 Go.Proofs.Tryz.prog (a0L n)):RK (a0k (n+1)) :=
 okR [eR h_semtyperef7_members,eR h_semtyperef7_mapping,eR h_semtyperef7_function,eR h_semtyperef7_member] 203 (b5t n) [.tmp 6] Go.Proofs.Tryz.func46 (by kernel_rfl)
theorem b2q (n:Nat)(_:y9 Go.Proofs.Tryz.prog (a0F n))(_:y9 Go.Proofs.Tryz.prog (a0I n))(h_semtyperef7_member:y9 Go.Proofs.Tryz.prog (a0k n))(_:y9 Go.Proofs.Tryz.prog (a0L n)):RK (a0L (n+1)) :=
 okR [eR h_semtyperef7_member] 30 (b3U n) [.tmp 6] Go.Proofs.Tryz.func84 (by kernel_rfl)
theorem a5B:∀ n:Nat,y9 Go.Proofs.Tryz.prog (a0F n)/\y9 Go.Proofs.Tryz.prog (a0I n)/\y9 Go.Proofs.Tryz.prog (a0k n)/\y9 Go.Proofs.Tryz.prog (a0L n)
 | 0=>⟨Q5 (by kernel_rfl),Q5 (by kernel_rfl),Q5 (by kernel_rfl),Q5 (by kernel_rfl)⟩
 | n+1=>by
   obtain ⟨h0,h1,h2,h3⟩:=a5B n
   exact ⟨b1s n h0 h1 h2 h3,b2c n h0 h1 h2 h3,b3I n h0 h1 h2 h3,b2q n h0 h1 h2 h3⟩
theorem b4F (n:Nat):y9 Go.Proofs.Tryz.prog (a0k n):=(a5B n).2.2.1
def b5m (_:Nat):Hints I:=mkH [(4,[[],[],[],[2],[],[2,3,4],[2,3,4,5],[0,1,2,3,4,5,6],[0,1,2,3,4,5,6,7]]),(9,[[],[],[],[2],[],[2,3,4],[2,3,4,5],[0,1,2,3,4,5,6]])] [] [] [] [(26,⟨33554112,[],[],[(7,.k (.d (.int .i64)))],[((.exit 0),[]),(.ret,[(6,.k (.d (.bool)))])],bnd tb (.len (.ld 22 (.fld 56 0 (.slot 5)))) 1⟩),
 (58,⟨1099478073664,[],[],[(8,.k (.d (.int .i64)))],[((.exit 2),[]),(.ret,[(6,.k (.d (.bool)))])],bnd tb (.len (.ld 22 (.fld 56 1 (.slot 5)))) 1⟩)] [] [] []
def b3l (n:Nat):Row I:=⟨27,[.d (.dat 33),.d (.dat 27),.d (.dat 56)],[.k (.d (.bool))],a6y n⟩
theorem b4U (n:Nat):RK (b3l n) :=
 okR [eR (b4F n)] 53 (b5m n) [.tmp 6] Go.Proofs.Tryz.func27 (by kernel_rfl)
def b3E (n:Nat):Row I:=⟨12,[.d (.dat 33),.d (.dat 27),.d (.dat 56)],[.k (.d (.bool))],a14 n⟩
theorem a7W (n:Nat):RK (b3E n) :=
 okR [eR (a5E n),eR (b0U n),eR b3c,eR (b4U n)] 25 Y5 [.tmp 6] Go.Proofs.Tryz.func12 (by kernel_rfl)
def b6l (_:Nat):Hints I:=mkH [(6,[[],[],[0,1],[0,1,2],[],[],[],[5,6],[5,6,7],[0,1,2,3,4,5,6,7,8],[0,1,2,3,4,5,6,7,8,9]])] [] [] [] [(58,⟨1073733824,[],[],[(7,.k (.d (.int .i64)))],[((.exit 0),[]),(.ret,[(6,.k (.d (.bool)))])],bnd tb (.len (.slot 0)) 1⟩)] [] [] []
def b4T (n:Nat):Row I:=⟨10,[.d (.sl 33),.d (.dat 27),.d (.sl 56)],[.k (.d (.bool))],a45 n⟩
theorem b5Z (n:Nat):RK (b4T n) :=
 okR [eR (a7W n)] 30 (b6l n) [.tmp 6] Go.Proofs.Tryz.func10 (by kernel_rfl)
def a7Q (_:Nat):Hints I:=mkH [(14,[[],[0],[],[],[],[3,4],[3,4,5],[3,4,5,6],[0,1,2,3,4,5,6,7],[0,1,2,3,4,5,6,7,8]]),(15,[[],[0],[],[],[],[3,4],[3,4,5],[0,1,2,3,4,5,6],[],[0,1,2,3,4,5,6,7,8]])] [] [] [] [(4090,⟨633825298933523080030940328000,[],[],[(12,.k (.d (.bool))),(13,.k (.d (.int .i64)))],[((.exit 0),[(12,.k (.d (.bool)))]),(.ret,[(6,.k (.d (.bool)))])],bnd tb (.len (.slot 10)) 1⟩)] [] [] []
def a7e (n:Nat):Row I:=⟨3,[.d (.sl 3),.d (.sl 3),.d (.sl 3)],[.k (.d (.bool))],a06 n⟩
end Go.Qx
end
section
namespace Go.Qx
open Go Go.RowKit Go.Sx
set_option maxHeartbeats 1600000
set_option maxRecDepth 100000
theorem a7v (n:Nat):RK (a7e n) :=
 okR [eR b4p,eR (b3S n),eR (b4R n),eR b5q,eR (b4c n),eR (b5Z n),eR (b1U n),eR (a7W n)] 112 (a7Q n) [.tmp 6] Go.Proofs.Tryz.func3 (by kernel_rfl)
end Go.Qx
end
section
namespace Go.Pl
open Go Go.RowKit Go.Sx Go.Qx Go.Proofs.YtlapkakgkamkoaaGreat
def a9t (w:World):S:=⟨w,fun b=>match w.heap[b]? with | some (.cells c _ _)=>(c.size,0) | _=>(0,0)⟩
theorem c5H {w:World}{b o:Nat}{cs:List Value}(hn:cs≠[])(h:w.rangeAt b o cs)(hf:∀ j,j<cs.length->w.frozen? ⟨b,o+j,none⟩=false):a3D (a9t w) b o cs:=by
 refine ⟨⟨?_,hf⟩,h⟩
 have hl:0<cs.length:=List.length_pos_iff.2 hn
 have hj:=h (cs.length-1) _ (List.getElem?_eq_getElem (by omega))
 unfold World.cell? at hj
 simp only at hj
 split at hj
 ·rename_i c e f hb
  have h2:o+(cs.length-1)<c.size:=by
   simp only [Option.isSome_none,Bool.false_eq_true,if_false] at hj
   exact (Array.getElem?_eq_some_iff.1 hj).1
  show o+cs.length<=(match w.heap[b]? with | some (.cells c _ _)=>(c.size,0) | _=>(0,0)).1
  rw [hb]
  show o+cs.length<=c.size
  omega
 ·cases hj
theorem c5i {w:World}{base:Nat}{a:Addr}{n:Nat}{cs:List Value}(h:w.cells? base a n=some cs) :
 cs.length=n/\∀ (i:Nat) (v:Value),cs[i]?=some v->w.cell? (a.add i)=some v:=by
 unfold World.cells? at h
 split at h
 ·have hl:cs.length=n:=by simpa using mapM_some_length h
  refine ⟨hl,fun i v hv=>?_⟩
  have hi:i<n:=by have:=(List.getElem?_eq_some_iff.1 hv).1; omega
  have:=mapM_some_get h i i (by simp [hi])
  rw [this,hv]
 ·cases h
theorem c9q (a:Addr)(x j:Nat):(a.add x).add j=a.add (x+j):=by
 unfold Addr.add
 by_cases hx:x=0
 ·subst hx; simp
 ·by_cases hj:j=0
  ·subst hj; simp [hx]
  ·rw [if_neg hj,if_neg hx,if_neg (by omega),Nat.add_assoc]
theorem c52 {w:World}{a:Addr}{v:Value}(h:w.cell? a=some v):a.spot=none:=by
 unfold World.cell? at h
 split at h
 ·split at h
  ·cases h
  ·rename_i hs; simpa using hs
 ·cases h
section
variable {H:Type}{enc:TypeId×Value->H}{P:Program}{w:World}{base:Nat}{spare:Nat->Bool}{held:Bool}
theorem b42 {α:Type} [Rp α] {fuel:Nat}{t e:TypeId}{cs:List Value}{x:DataW H×List MemPlace}(ht:P.underlying t=some (.slice e))(hc:P.cellsOf e=Rp.sz α)(bk:α->Nat)
 (hrd:∀ (n:Nat) (cs:List Value) (x:DataW H×List MemPlace),n<fuel->w.noneFrozen x.2->DataW.trod enc P w base spare held n e cs=some x->∃ d:α,Rp.cells (a9t w) d cs/\bk d<=Rows.uptoBulk x.1) (hz:w.noneFrozen x.2)
 (h:DataW.trod enc P w base spare held fuel t cs=some x) :
 ∃ (ds:List α) (A:Option Addr) (c:Nat),cs=[.slice A ds.length c]/\Sl (a9t w) ds A c/\(ds.map bk).sum+1<=Rows.uptoBulk x.1:=by
 rcases DataW.trod_slice ht h with ⟨rfl,rfl⟩ | ⟨a,len,cap,elems,rest,n,rfl,rfl,rfl,hb,hl,hm,hle,hget,-,-⟩
 ·exact ⟨[],none,0,rfl,Sl.nil_ _ _ _ (Nat.zero_le _),by simp [Rows.uptoBulk]⟩
 have hze:∀ y∈elems,w.noneFrozen y.2:=fun y hy b off hm'=>hz b off (List.mem_append_right _ (List.mem_flatMap.2 ⟨y,List.mem_append_left _ hy,hm'⟩))
 have hzr:∀ i,i<(elems.length+rest.length)*P.cellsOf e->w.frozen? ⟨a.block,a.off+i,none⟩=false:=fun i hi=>hz _ _ (List.mem_append_left _ (List.mem_map.2 ⟨i,List.mem_range.2 hi,rfl⟩))
 have key:∀ (m i:Nat),i+m=len->∃ (ds:List α) (cs:List Value),ds.length=m/\J1 (a9t w) ds cs /\
  (∀ (j:Nat) (v:Value),cs[j]?=some v->w.cell? (a.add (i*Rp.sz α+j))=some v)/\(ds.map bk).sum<=Rows.uptoBulkAll ((elems.drop i).map (·.1)):=by
  intro m
  induction m with
  | zero=>intro i _; exact ⟨[],[],rfl,rfl,fun j v hv=>by simp at hv,by simp⟩
  | succ m ih =>
    intro i hi
    obtain ⟨ds,cs,h1,h2,h3,h4⟩:=ih (i+1) (by omega)
    have hlt:i<elems.length:=by omega
    have hg:=hget i (by omega)
    rw [List.getElem?_eq_getElem hlt,Option.bind_eq_some_iff] at hg
    obtain ⟨cs0,hcs,htr⟩:=hg
    obtain ⟨d,hd,hbk⟩:=hrd n cs0 _ (by omega) (hze _ (List.getElem_mem hlt)) htr
    obtain ⟨hcl,hci⟩:=c5i hcs
    rw [hc] at hcl hci
    refine ⟨d::ds,cs0++cs,by simp [h1],⟨cs0,cs,rfl,hd,h2⟩,?_,?_⟩
    ·intro j v hv
     by_cases hj:j<Rp.sz α
     ·rw [List.getElem?_append_left (by omega)] at hv
      rw [<- c9q]
      exact hci j v hv
     ·rw [List.getElem?_append_right (by omega)] at hv
      have:=h3 _ v hv
      rw [hcl,Nat.add_mul,Nat.one_mul] at this
      have e:i*Rp.sz α+Rp.sz α+(j-Rp.sz α)=i*Rp.sz α+j:=by omega
      rw [e] at this
      exact this
    ·rw [List.drop_eq_getElem_cons hlt]
     simp only [List.map_cons,List.sum_cons,Rows.uptoBulkAll]
     omega
 obtain ⟨ds,cs,h1,h2,h3,h4⟩:=key len 0 (by omega)
 simp only [Nat.zero_mul,Nat.zero_add,List.drop_zero] at h3 h4
 refine ⟨ds,some a,cap,by rw [h1],⟨by omega,hm,cs,h2,fun hn=>?_⟩,by simp only [Rows.uptoBulk]; omega⟩
 have hne:=h2.ne_nil hn
 cases cs with
 | nil=>exact absurd rfl hne
 | cons v0 r =>
   have h0:=h3 0 v0 rfl
   have hs:a.spot=none:=c52 (by simpa [Addr.add] using h0)
   obtain ⟨b,o,sp⟩:=a
   simp only at hs
   subst hs
   refine ⟨b,o,rfl,c5H (by simp) ?_ (fun j hj=>hzr j (by
    have h5:=h2.len
    rw [h5,h1] at hj
    rw [hc,hle]
    exact Nat.lt_of_lt_of_le hj (Nat.mul_le_mul_right _ (Nat.le_add_right _ _))))⟩
   intro j v hv
   have:=h3 j v hv
   unfold Addr.add at this
   by_cases hj:j=0
   ·subst hj; simpa using this
   ·rw [if_neg hj] at this
    exact this
end
theorem c8L {α:Type}{l:List α}(h:l.length=2):∃ a b,l=[a,b]:=by
 match l,h with
 | [a,b],_=>exact ⟨a,b,rfl⟩
end Go.Pl
end
section
namespace Go.Pl
open Go Go.RowKit Go.Sx Go.Qx
def b4O (_:Int):Nat:=1
def b8B (l:List Int):Nat:=(l.map b4O).sum+1
end Go.Pl
end
section
namespace Go.Pl
open Go Go.RowKit Go.Sx Go.Qx Go.Proofs.YtlapkakgkamkoaaGreat
theorem c3:Go.Proofs.Tryz.prog.cellsOf 3=1:=by kernel_rfl
section
variable {H:Type}{enc:TypeId×Value->H}{w:World}{base:Nat}{spare:Nat->Bool}{held:Bool}
theorem c7y {n:Nat}{cs:List Value}{x:DataW H×List MemPlace}(hz:w.noneFrozen x.2)(h:DataW.trod enc Go.Proofs.Tryz.prog w base spare held n 3 cs=some x):∃ d:Int,(rpK .i64).cells (a9t w) d cs/\b4O d<=Rows.uptoBulk x.1:=by
 obtain ⟨k,e0,rfl,_⟩:=DataW.trod_int Go.Proofs.Tryz.underlying3 h
 exact ⟨k,e0,by simp [b4O,Rows.uptoBulk]⟩
end
end Go.Pl
end

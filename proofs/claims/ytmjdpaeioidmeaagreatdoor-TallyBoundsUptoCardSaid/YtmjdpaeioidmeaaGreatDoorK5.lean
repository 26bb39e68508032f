/- Part 5. -/
import Derived.Test.YtmjdpaeioidmeaaGreatDoorK2
import Derived.Test.YtmjdpaeioidmeaaGreatDoorK3
import Derived.Test.YtmjdpaeioidmeaaGreatDoorK4
import Derived.ChangeArms
import Derived.KernelRfl
import Derived.OpenShut
import Derived.Test.YtmjdpaeioidmeaaGreatDoorRows
section
open List renaming all_eq_true->d8q,length_map->d8L
open Nat renaming beq->d8u,eq_of_beq_eq_true->d8s,le_refl->d8r
namespace Go.Qx
open Go Go.RowKit Go.Sx
def c5h:Nat->Code->List Code
 | m+1,.seq a b=>a::c5h m b
 | _,_=>[]
def d00:Nat->Code->Code
 | m+1,.seq _ b=>d00 m b
 | _,c=>c
theorem c7P:∀ (m:Nat) (c:Code),b4i (c5h m c) (d00 m c)=c
 | 0,c=>by cases c<;>rfl
 | m+1,c=>by
   cases c with
   | seq a b=>exact congrArg (Code.seq a) (c7P m b)
   | _=>rfl
section
variable {I:TypeId->Type} [∀ E,Rp (I E)] {P:Program}{ρ:Type}
def d0X (s:St I)(E:TypeId)(xs:List (I E)):St I:=⟨71,fun i=>bif d8u i 12 then some (.sl E xs false) else none,fun l=>match s.O l with
 | some _=>some none
 | none=>none,s.nx⟩
def d05 (tb:Tab I)(disp:a0f I)(H:Hints I)(E:TypeId)(setB:I E->I E)(ok:I E->Bool)(c20:Code)(fin:Ex->St I->Option ρ)(s:St I):Option ρ:=match s.F 12 with
 | some (.vw l)=>match s.O l with
   | some (some (.row E' xs false))=>(a13 E E' xs).bind fun bs=>bif bs.all ok then a21 tb disp H c20 1023 ρ (d0X s E (bs.map setB)) fin else none
   | _=>none
 | _=>none
def d4g (tb:Tab I)(disp:a0f I)(H:Hints I)(E:TypeId)(setB:I E->I E)(ok:I E->Bool)(r14 c20:Code)(fin:Ex->St I->Option ρ):Ex->St I->Option ρ
 | .normal,s=>a21 tb disp H r14 2044 ρ s fun e s1=>match e with
   | .normal=>(evP s1.n s1.F (.tmp 56)).bind fun q=>match q with
     | .bool b=>bif b then d05 tb disp H E setB ok c20 fin s1 else a21 tb disp H c20 1023 ρ s1 fin
     | _=>none
   | _=>none
 | .ret,s=>fin .ret s
 | .exit _,_=>none
set_option maxHeartbeats 1000000 in
theorem d5x {tb:Tab I}{disp:a0f I}{H:Hints I}(ht:TabOk P tb)(hd:DispOk P disp)(hmx:P.follows .mixedOrders=true){B f:Nat}{T1 T2 E G:TypeId}{to:I E->List (I G)}{ps ng:I G->List Int}{bt:I G->Bool}
 (hT:FlipTy B to ps ng bt) {setL:I G->I G} {setB:I E->I E} (hset:∀ x d0 d1 r,to x=d0::d1::r->to (setB x)=d0::setL d1::r) (hL:∀ d,ps (setL d)=ps d/\ng (setL d)=ng d/\bt (setL d)=true) {ok:I E->Bool} (hok:∀ x,ok x=true->2<=(to x).length)
 {run:c2K I [.d (.dat T1),.d (.dat T2)] (TyT I [.k (.d (.sl E)),.k (.d (.int .i64))])} {fn:Func} {cd r14 c20:Code}
 {Ti Tb To Tx Tr Tg Tl:TypeId} {i1 i2 i15 i16 i17 i18 i19:Nat} {t0 t1 t2 t3 t4 t5 t6 t7 t8 t9 ta tb' tc u1 u2 l1 l2 l3:TypeId} {p0 p1 p2 p3 p4 p5 p6 p7 p8 p9 pa pb pc q1 q2 q3:String} {a0 a1 a2 a3 a4 a5 a6 a7 a8 a9 aa ab ac b1 b2 b3:Array Edge}
 (hf : P.funcs[f]? = some fn) (hb : fn.body = some cd) (hname : (fn.name == "runtime.NumGoroutine") = false) (hn : fn.ntmps = 71) {rl : List ResultVar} (hres : fn.results.toList = rl)
 (hrest:d00 8 cd=.seq (.seq r14 (.cond (.tmp 56) (.seq (.region i15 #[⟨some 57,.move (.tmp 12),l1,q1,b1,none⟩,⟨some 58,.call ⟨.builtin .len,#[.tmp 57],#[Tl]⟩,l2,q2,b2,none⟩,⟨some 59,.move (.const (.int .i64 0)),l3,q3,b3,none⟩] false)
   (.block i1 (.loop (.seq (.region i16 #[⟨some 60,.binOp .lss Ti (.tmp 59) (.tmp 58) u1,t0,p0,a0,none⟩] false) (.seq (.cond (.tmp 60) .skip (.exit i1)) (.seq (.block i2 (.seq
   (.region i17 #[⟨some 61,.move (.tmp 59),t1,p1,a1,none⟩,⟨some 13,.assign (.tmp 61),t2,p2,a2,none⟩] false)
   (.region i18 #[⟨some 62,.move (.tmp 12),t3,p3,a3,none⟩,⟨some 63,.move (.tmp 13),t4,p4,a4,none⟩,⟨some 64,.indexAddr To (.tmp 62) (.tmp 63),t5,p5,a5,none⟩,⟨some 65,.fieldAddr Tx (.tmp 64) 0,t6,p6,a6,none⟩,⟨some 66,.load Tr (.tmp 65),t7,p7,a7,none⟩,
     ⟨some 67,.indexAddr Tr (.tmp 66) (.const (.int .i64 1)),t8,p8,a8,none⟩,⟨some 68,.fieldAddr Tg (.tmp 67) 2,t9,p9,a9,none⟩,⟨none,.store Tb (.tmp 68) (.const (.bool true)),ta,pa,aa,none⟩] false)))
   (.region i19 #[⟨some 69,.binOp .add Ti (.tmp 59) (.const (.int .i64 1)) u2,tb',pb,ab,none⟩,⟨some 59,.move (.tmp 69),tc,pc,ac,none⟩] false))))))) .skip)) c20)
 (hTo:P.underlying To=some (.slice Tx)) (hTx:(P.info? Tx).map (·.size)=some 1) (hfx:a6r P Tx 0 0) (hr1:X8 P Tr) (hTr:P.underlying Tr=some (.slice Tg)) (hTg:(P.info? Tg).map (·.size)=some 3) (hfg:a6r P Tg 2 2) (hTb:(P.info? Tb).map (·.size)=some 1) (hTl:P.underlying Tl=some (.slice Tx))
 (hctx:c7c H (c5h 8 cd) 1=true) (hc14:a1m H r14 2044=true) (hc20:a1m H c20 1023=true) (hlo:tb.lo=B)
 (hrun:run=fun x1 x2=>a21 tb disp H (b4i (c5h 8 cd) .skip) 1 _ (a6A tb 71 [.d (.dat T1),.d (.dat T2)] (x1,x2,())) (d4g tb disp H E setB ok r14 c20 (fin tb [.d (.dat T1),.d (.dat T2)] [.k (.d (.sl E)),.k (.d (.int .i64))] rl))) :
 a26 P (⟨f,[.d (.dat T1),.d (.dat T2)],[.k (.d (.sl E)),.k (.d (.int .i64))],run⟩:Row I) (fun w _=>w.heap.size=B):=by
 refine c51 (s0:=a6A tb 71 [.d (.dat T1),.d (.dat T2)]) ht 71 (fun _ _ _ _ _ _ h _ _ _=>h) hf hb hname hn hres rfl (hlo:=.inr fun w vs h=>by rw [hlo,h]; exact d8r _) fun X c σ F Q a res hX hC hrel happ hk=>?_
 obtain ⟨vs0,hC⟩:=hC
 have hB:σ.w.heap.size=B:=hC
 have happ':a21 tb disp H (b4i (c5h 8 cd) .skip) 1 _ (a6A tb 71 [.d (.dat T1),.d (.dat T2)] (a.1,a.2.1,())) (d4g tb disp H E setB ok r14 c20 (fin tb [.d (.dat T1),.d (.dat T2)] [.k (.d (.sl E)),.k (.d (.int .i64))] rl))=some res:=by
  rw [hrun] at happ
  exact happ
 have hcd:=c7P 8 cd
 rw [<- hcd,hrest]
 refine c80 ht hd hmx (c5h 8 cd) 1 hctx _ _ _ res X c σ F Q hX happ' hrel (fun e s' c' τ F' hne h1 h2 h3 h4=>?_) (fun s' c' τ F' h1 h2 h3 h4=>?_)
 ·cases e with
  | normal=>exact absurd rfl hne
  | exit i=>cases h1
  | ret=>exact hk .ret s' c' τ F' h1 h2 h3 h4
 ·refine wp_seq (wp_seq (a1r ht hd hmx r14 2044 hc14 _ s' _ res X c' τ F' _ hX h1 h3 fun e s1 c1 υ F1 g1 g2 g3 g4 _=>?_))
  cases e with
  | exit i=>cases g1
  | ret=>cases g1
  | normal =>
    obtain ⟨q,hq,g1⟩:=bind_some g1
    rw [g3.len] at hq
    obtain ⟨e1,e2⟩:=b2Z g3.frame hq
    split at g1
    ·rename_i bb
     simp only [RV] at e2
     cases bb with
     | false =>
       refine K8 (wp_cond_false ((w8 e1).trans e2) (wp_skip (K8 ?_)))
       exact a1r ht hd hmx c20 1023 hc20 _ s1 _ res X c1 υ F1 Q hX g1 g3 fun e s2 c2 υ2 F2 m1 m2 m3 m4 _=>hk e s2 c2 υ2 F2 m1 (Cx.le_trans h2 (Cx.le_trans g2 m2)) m3 ((h4.trans g4).trans m4)
     | true =>
       refine K8 (wp_cond_true ((w8 e1).trans e2) ?_)
       have g1':d05 tb disp H E setB ok c20 (fin tb [.d (.dat T1),.d (.dat T2)] [.k (.d (.sl E)),.k (.d (.int .i64))] rl) s1=some res:=g1
       unfold d05 at g1'
       split at g1'
       ·rename_i l hl12
        split at g1'
        ·rename_i E' xs hol
         obtain ⟨bs,hbs,g1'⟩:=bind_some g1'
         obtain ⟨eE,rfl⟩:=a0l hbs
         subst eE
         obtain ⟨hall,hex⟩:=j8 g1'
         have h2':∀ x∈xs,2<=(to x).length:=fun x hx=>hok x (d8q.1 hall x hx)
         obtain ⟨υ3,w3,st3,r3⟩:=g3.pub l
         have hv:=r3.frame 12 (.vw l) (by unfold Qx.pub; rw [hol]; exact hl12)
         simp only [RV] at hv
         obtain ⟨p,hp,hF12⟩:=hv
         have ho:=r3.objs l (.row E' xs true) (by unfold Qx.pub; rw [hol]; exact J3 _ _ _)
         obtain ⟨A,k,ow,k1,k2⟩:=ho
         rw [k1] at hp
         cases hp
         have hs:Sl υ3 xs A k:=k2.sl
         have hF12':F1 12=.slice A xs.length k:=hF12
         rw [<- w3]
         refine wp_seq (wp_region_lit ?_)
         refine a0p (.slice A xs.length k) hF12' rfl ?_
         refine b0q A xs.length k rfl rfl hTl ?_
         refine a0p (.int .i64 0) rfl rfl ?_
         refine wpList_nil (K8 (d2w hT hs h2' hTo hTx hfx hr1 hTr hTg hfg hTb hF12' rfl rfl fun F' w hfl hF'=>K8 ?_))
         have hst4:Stp X.M σ (⟨w,υ3.L⟩:S):=d27 ((h4.trans g4).trans st3) (fun b hJ=>by
          have:=(c0n hT hs h2' (d8r _) hJ).1
          show σ.w.heap.size<=b
          omega) hfl
         have hsl:=d3H hT hset hL hs h2' hfl
         have hr4:Rel X c1 (⟨w,υ3.L⟩:S) (d0X s1 E' (xs.map setB)) 71 F':=by
          refine ⟨rfl,fun i p hp=>?_,fun l' o ho=>?_,fun l1 l2 p1 p2 b ⟨o,ho⟩=>?_,fun l' p b ⟨o,ho⟩=>?_,fun l' hl'=>?_,⟨?_,r3.base.2⟩,noN.nests fun l' E0 E0' u ys q e=>?_⟩
          ·have hp':(bif d8u i 12 then some (PV.sl E' (xs.map setB) false) else none)=some p:=hp
           obtain ⟨hi,hp'⟩:=j8 hp'
           cases hp'
           have:=d8s hi
           subst this
           simp only [RV]
           exact ⟨A,k,by rw [d8L]; exact hF'.trans hF12',hsl,fun h=>by cases h⟩
          all_goals
           simp only [d0X] at *
          ·split at ho<;>cases ho
          ·split at ho<;>cases ho
          ·split at ho<;>cases ho
          ·split at hl'
           ·cases hl'
           ·rename_i hn; exact g3.nom l' hn
          ·show X.N<=w.heap.size
           rw [hfl.size]
           exact r3.base.1
          ·split at e<;>cases e
         exact a1r ht hd hmx c20 1023 hc20 _ _ _ res X c1 (⟨w,υ3.L⟩:S) F' Q hX hex hr4 fun e s2 c2 υ2 F2 m1 m2 m3 m4 _=>hk e s2 c2 υ2 F2 m1 (Cx.le_trans h2 (Cx.le_trans g2 m2)) m3 (hst4.trans m4)
        ·cases g1'
       ·cases g1'
    ·cases g1
end
end Go.Qx
end
section
open Array renaming getElem_append->d9Y,getElem_ofFn->d9D,replicate->d94
open List renaming getD->d9r,getElem?_eq_getElem->d8n,getElem?_eq_none->d8U,length_cons->d8v,map_cons->d8O,mem_cons->d8A
open Nat renaming beq->d8u,eq_of_beq_eq_true->d8s,le_of_ble_eq_true->d8N,le_refl->d8r,le_trans->d8C
open Option renaming bind_assoc->d86,bind_some->d8l
namespace Go.Qx
open Go Go.RowKit Go.Sx
section
variable {I:TypeId->Type} [∀ E,Rp (I E)] {P:Program}{tb:Tab I}{X X':Cxt}{c c':Cx}{σ τ:S}{s:St I}{n:Nat}{F:Fr}
abbrev MpT (I:TypeId->Type)(k:Kd):Type:=List (ByteArray×Ty I k)
def d2b (tb:Tab I)(TA TB:TypeId)(ka kb:Kd)(rs:List Kd)(rl:List ResultVar):Ex->St I->Option (Tys I rs×MpT I ka×MpT I kb):=fun e s=>match e with
 | .exit _=>none
 | _=>(a9N tb s rl).bind fun a=>(a7T tb s.O rs a).bind fun x=>bif a4j x.2 then (match s.O 0,s.O 1 with
   | some (some (.map TA' ka' ma)),some (some (.map TB' kb' mb))=>(a5T (T:=TA) (T':=TA') (kd:=ka) ma).bind fun ya=>(a5T (T:=TB) (T':=TB') (kd:=kb) mb).bind fun yb=>some (x.1,ya,yb)
   | _,_=>none) else none
def d3t (tb:Tab I)(TA TB:TypeId)(ka kb:Kd)(ks:List Kd)(nt:Nat)(ma:MpT I ka)(mb:MpT I kb)(q:Tys I ks):St I :=
 ⟨nt,fun i=>(PV.agg [.mp 0,.mp 1]::a9P tb ks q)[i]?,fun l=>bif d8u l 0 then some (some (.map TA ka ma)) else bif d8u l 1 then some (some (.map TB kb mb)) else none,2⟩
def b8o (tb:Tab I)(TA TB:TypeId)(ka kb:Kd)(ks rs:List Kd)(run:MpT I ka->MpT I kb->Tys I ks->Option (Tys I rs×MpT I ka×MpT I kb))(_:a0f I)(ρ:Type)(O:Obs I)(nb:Nat)(ps:List (PV I))(k:Ef I->Option ρ):Option ρ:=match ps with
 | .agg [.mp la,.mp lb]::r=>match O la,O lb with
   | some (some (.map TA' ka' ma)),some (some (.map TB' kb' mb))=>bif d8u la lb then none else (a5T (T:=TA) (T':=TA') (kd:=ka) ma).bind fun ya=>(a5T (T:=TB) (T':=TB') (kd:=kb) mb).bind fun yb =>
      (a7T tb O ks r).bind fun q=>(run ya yb q.1).bind fun x=>k ⟨a8o (a9P tb rs x.1),Q3 O q.2++[(la,some (.map TA ka x.2.1)),(lb,some (.map TB kb x.2.2))],[]⟩
   | _,_=>none
 | _=>none
theorem d5p (ht:TabOk P tb){disp0:a0f I}(hd0:DispOk P disp0)(hmx:P.follows .mixedOrders=true){f:FuncId}{fn:Func}{TA TB:TypeId}{ka kb:Kd}{ks rs:List Kd}{nt:Nat}{cd:Code}{rl:List ResultVar}{H:Hints I}
 {run:MpT I ka->MpT I kb->Tys I ks->Option (Tys I rs×MpT I ka×MpT I kb)}
 (hf : P.funcs[f]? = some fn) (hb : fn.body = some cd) (hname : (fn.name == "runtime.NumGoroutine") = false) (hn : fn.ntmps = nt) (hres : fn.results.toList = rl) (hle : Nat.ble (ks.length + 1) nt = true) (hcode : a1m H cd 1 = true)
 (hex:run=fun ma mb q=>a21 tb disp0 H cd 1 (Tys I rs×MpT I ka×MpT I kb) (d3t tb TA TB ka kb ks nt ma mb q) (d2b tb TA TB ka kb rs rl)) :
 EntOk P (⟨f,b8o tb TA TB ka kb ks rs run⟩:Ans I):=by
 refine ⟨fun disp ρ O nb ps k=>?_,fun disp hd O nb ps ef he=>?_⟩
 ·show b8o tb TA TB ka kb ks rs run disp ρ O nb ps k=(b8o tb TA TB ka kb ks rs run disp (Ef I) O nb ps some).bind k
  unfold b8o
  split
  ·rename_i la lb r
   split
   ·cases d8u la lb
    ·simp only [cond_false,d86,d8l]
    ·rfl
   ·rfl
  ·rfl
 ·intro X c σ s n F vs hX hO h hvs hfree
  have he':b8o tb TA TB ka kb ks rs run disp (Ef I) O nb ps some=some ef:=he
  unfold b8o at he'
  split at he'
  ·rename_i la lb r
   split at he'
   ·rename_i TA' ka' ma TB' kb' mb hoa hob
    cases hab:d8u la lb with
    | true=>rw [hab] at he'; cases he'
    | false =>
    rw [hab] at he'
    simp only [cond_false] at he'
    have hne:la≠lb:=fun e=>by subst e; simp at hab
    obtain ⟨ya,hya,he'⟩:=bind_some he'
    obtain ⟨yb,hyb,he'⟩:=bind_some he'
    obtain ⟨q,hq,he'⟩:=bind_some he'
    obtain ⟨x,hx,he'⟩:=bind_some he'
    cases he'
    obtain ⟨ea,eTa,rfl⟩:=a4W hya
    subst ea
    subst eTa
    obtain ⟨eb,eTb,rfl⟩:=a4W hyb
    subst eb
    subst eTb
    obtain ⟨σ1,p1,p2,p3,p4,p5,p6⟩:=h.pubs hO q.2
    have hpub:∀ {l:Nat} {T:TypeId} {kd:Kd} {m:MpT I kd},O l=some (some (.map T kd m))->(Z8 s O q.2).O l=some (some (.map T kd m)):=fun {l T kd m} ho=>by
     have:(Z8 s O q.2).O l=s.O l:=by
      show apU s.O (Q3 O q.2) l=s.O l
      apply a3d
      intro hm
      have hp:∀ {ls:List Nat},l∈a0S (Q3 O ls)->∃ E,∃ xs:List (I E),O l=some (some (.row E xs false)):=by
       intro ls
       induction ls with
       | nil=>intro h; simp [Q3,a0S] at h
       | cons a r ih =>
         intro h
         simp only [Q3] at h
         split at h
         ·rename_i E xs e
          simp only [a0S,d8O,d8A] at h
          rcases h with rfl | h
          ·exact ⟨E,xs,e⟩
          ·exact ih h
         ·exact ih h
      obtain ⟨E,xs,e⟩:=hp hm
      rw [ho] at e
      cases e
     rw [this]; exact hO l _ ho
    have hsa:=hpub hoa
    have hsb:=hpub hob
    have hvs1:=RVs.step p2 _ _ hvs
    simp only [RVs] at hvs1
    obtain ⟨v0,vs',rfl,hv0,hvs'⟩:=hvs1
    have hdv:=b0J ht p4 hq (fun l hl=>hl) hvs'
    obtain ⟨ba,ka1,ka2⟩:=p3.objs la _ hsa
    obtain ⟨bb,kb1,kb2⟩:=p3.objs lb _ hsb
    have hbne:ba≠bb:=fun e=>hne (p3.inj la lb _ _ ba ⟨_,hsa⟩ ⟨_,hsb⟩ ka1 kb1 rfl (by rw [e]))
    have hv0':v0=.agg [Value.map (some ba),Value.map (some bb)].toArray:=by
     simp only [RV,RG] at hv0
     obtain ⟨cs,e,a1,r1,e1,h1,a2,r2,e2,h2,h3⟩:=hv0
     rcases h1 with h1 | ⟨_,w1,f1,g1⟩
     ·exact absurd h1 (by simp [b3p])
     rcases h2 with h2 | ⟨_,w2,f2,g2⟩
     ·exact absurd h2 (by simp [b3p])
     obtain ⟨b1,u1,m1,n1⟩:=g1
     obtain ⟨b2,u2,m2,n2⟩:=g2
     rw [ka1] at m1
     cases m1
     rw [kb1] at m2
     cases m2
     rw [e,e1,f1,e2,f2,h3,n1,n2]
     rfl
    let X0:Cxt:=⟨P,σ1.N,fun b=>b=ba\/b=bb⟩
    let c0:Cx:=fun l=>bif d8u l 0 then some ⟨some ⟨ba,0,none⟩,0,0,some ba⟩ else bif d8u l 1 then some ⟨some ⟨bb,0,none⟩,0,0,some bb⟩ else none
    have hO0:∀ {l:Nat} {o:Ob I},(d3t tb TA' TB' ka' kb' ks nt ma mb q.1).O l=some (some o)->(l=0/\o=.map TA' ka' ma)\/(l=1/\o=.map TB' kb' mb):=fun {l o} ho=>by
     have ho':(bif d8u l 0 then some (some (Ob.map TA' ka' ma)) else bif d8u l 1 then some (some (.map TB' kb' mb)) else none)=some (some o):=ho
     cases h0:d8u l 0 with
     | true=>rw [h0] at ho'; cases ho'; exact .inl ⟨d8s h0,rfl⟩
     | false =>
       rw [h0] at ho'
       cases h1:d8u l 1 with
       | true=>rw [h1] at ho'; cases ho'; exact .inr ⟨d8s h1,rfl⟩
       | false=>rw [h1] at ho'; cases ho'
    have hvd:RVs X0 c0 σ1 (a9P tb ks q.1) vs':=b65 ht hdv
    have hini:Rel X0 c0 σ1 (d3t tb TA' TB' ka' kb' ks nt ma mb q.1) nt (a04 (v0::vs')):=by
     refine ⟨rfl,fun i p hp=>?_,fun l o ho=>?_,fun l l' p p' b ⟨o,ho⟩ ⟨o',ho'⟩ hc hc' hw hw'=>?_,fun l p b ⟨o,ho⟩ hc hw=>?_,fun l hl=>?_,⟨d8r _,fun E=>d8C (p3.base.2 E) p3.base.1⟩,noN.nests fun l E E' u xs q e=>?_⟩
     ·have hrv:RVs X0 c0 σ1 (.agg [.mp 0,.mp 1]::a9P tb ks q.1) (v0::vs'):=by
       simp only [RVs]
       refine ⟨v0,vs',rfl,?_,hvd⟩
       simp only [RV]
       refine ⟨_,hv0',?_⟩
       simp only [RG]
       exact ⟨[.map (some ba)],[.map (some bb)],rfl,.inr ⟨rfl,_,rfl,by simp only [RV]; exact ⟨ba,_,rfl,rfl⟩⟩,[.map (some bb)],[],rfl,.inr ⟨rfl,_,rfl,by simp only [RV]; exact ⟨bb,_,rfl,rfl⟩⟩,rfl⟩
      obtain ⟨v,hv,hr⟩:=RVs.at_ _ _ hrv i p hp
      have:a04 (v0::vs') i=v:=by simp [a04,d9r,hv]
      rw [this]; exact hr
     ·rcases hO0 ho with ⟨rfl,rfl⟩ | ⟨rfl,rfl⟩
      ·exact ⟨ba,rfl,ka2⟩
      ·exact ⟨bb,rfl,kb2⟩
     ·rcases hO0 ho with ⟨rfl,rfl⟩ | ⟨rfl,rfl⟩<;>rcases hO0 ho' with ⟨rfl,rfl⟩ | ⟨rfl,rfl⟩
      ·rfl
      ·cases hc; cases hc'; cases hw; cases hw'; exact absurd rfl hbne
      ·cases hc; cases hc'; cases hw; cases hw'; exact absurd rfl hbne
      ·rfl
     ·rcases hO0 ho with ⟨rfl,rfl⟩ | ⟨rfl,rfl⟩
      ·cases hc; cases hw; exact .inr (.inl rfl)
      ·cases hc; cases hw; exact .inr (.inr rfl)
     ·have hl':(bif d8u l 0 then some (some (Ob.map TA' ka' ma)) else bif d8u l 1 then some (some (.map TB' kb' mb)) else none)=(none:Option (Option (Ob I))):=hl
      show (bif d8u l 0 then some _ else bif d8u l 1 then some _ else none)=none
      cases h0:d8u l 0 with
      | true=>rw [h0] at hl'; cases hl'
      | false =>
        rw [h0] at hl'
        cases h1:d8u l 1 with
        | true=>rw [h1] at hl'; cases hl'
        | false=>rfl
     ·rcases hO0 e with ⟨_,e⟩ | ⟨_,e⟩<;>cases e
    have hle':=d8N hle
    have hlen:vs'.length=ks.length:=by
     have h1:=RVs.len _ _ hvd
     have h2:∀ (ks:List Kd) (q:Tys I ks),(a9P tb ks q).length=ks.length:=by
      intro ks
      induction ks with
      | nil=>intro q; rfl
      | cons k r ih=>intro q; simp only [a9P,d8v]; rw [ih]
     rw [h1,h2]
    have hcall:a0Z P f (v0::vs') σ1 (Stp X0.M σ1) fun v τ=>∃ (s':St I) (c2:Cx) (F':Fr) (ws:List Value) (zs:List (PV I)),Rel X0 c2 τ s' nt F'/\Cx.le c0 c2/\s'.O 0=some (some (.map TA' ka' x.2.1))/\s'.O 1=some (some (.map TB' kb' x.2.2))/\v=a4Y ws/\DVs τ rs x.1 ws:=by
     refine .inl ⟨⟨fn,_,hf,hb,hname⟩,calls_of_wp hf hb ?_⟩
     have e:(⟨(v0::vs').toArray++d94 (fn.ntmps-(v0::vs').toArray.size) undef,[]⟩:Act)=fr nt (a04 (v0::vs')):=by
      rw [hn]
      simp only [fr]
      congr 1
      apply Array.ext
      ·simp; omega
      ·intro i h1 h2
       simp only [d9D,a04,d9Y]
       split
       ·rename_i hi; simp at hi; simp [d9r,d8n (show i<(v0::vs').length by simp; omega)]
       ·rename_i hi; simp at hi; simp [d9r,d8U (l:=v0::vs') (show (v0::vs').length<=i by simp; omega)]
     rw [e]
     rw [hex] at hx
     refine a1r ht hd0 hmx cd 1 hcode _ _ _ _ X0 _ σ1 _ _ rfl hx hini fun ex s' c2 τ F' hfin hle2 hr st _=>?_
     have key:d2b tb TA' TB' ka' kb' rs rl .normal s'=some x->∃ v,(results fn (fr nt F').tmps).run P τ.w=.ok v τ.w/\∃ v' τ',Ending.returned v=.returned v'/\τ'.w=τ.w/\Stp X0.M σ1 τ'/\∃ (s':St I) (c2:Cx) (F':Fr) (ws:List Value) (zs:List (PV I)),Rel X0 c2 τ' s' nt F'/\Cx.le c0 c2/\s'.O 0=some (some (.map TA' ka' x.2.1))/\s'.O 1=some (some (.map TB' kb' x.2.2))/\v'=a4Y ws/\DVs τ' rs x.1 ws:=by
      intro hh
      have hh':((a9N tb s' rl).bind fun a=>(a7T tb s'.O rs a).bind fun x=>bif a4j x.2 then (match s'.O 0,s'.O 1 with
       | some (some (.map TA0 ka0 ma0)),some (some (.map TB0 kb0 mb0))=>(a5T (T:=TA') (T':=TA0) (kd:=ka') ma0).bind fun ya=>(a5T (T:=TB') (T':=TB0) (kd:=kb') mb0).bind fun yb=>some (x.1,ya,yb)
       | _,_=>none) else none)=some x:=hh
      obtain ⟨zs,z1,hh'⟩:=bind_some hh'
      obtain ⟨y,z2,hh'⟩:=bind_some hh'
      obtain ⟨z3,hh'⟩:=j8 hh'
      obtain ⟨ws,w1,w2⟩:=b2r ht hr z1
      have hnil:y.2=[]:=by
       revert z3
       cases y.2 with
       | nil=>intro _; rfl
       | cons a r=>intro h; cases h
      obtain ⟨τ2,t1,t2,t3,t4,_,t6⟩:=hr.pubs (O:=s'.O) (fun _ _ h=>h) []
      have hdvs:=b0J ht t4 z2 (fun l hl=>by rw [hnil] at hl; cases hl) (RVs.step t2 _ _ w1)
      split at hh'
      ·rename_i TA0 ka0 ma0 TB0 kb0 mb0 o1 o2
       obtain ⟨yy,u1,hh'⟩:=bind_some hh'
       obtain ⟨yz,u2,hh'⟩:=bind_some hh'
       cases hh'
       obtain ⟨g1,g2,rfl⟩:=a4W u1
       subst g1
       subst g2
       obtain ⟨g1,g2,rfl⟩:=a4W u2
       subst g1
       subst g2
       exact ⟨a4Y ws,b0o (by rw [hres]; exact w2),a4Y ws,τ2,rfl,t1,st.trans t2,Z8 s' s'.O [],c2,F',ws,zs,t3,hle2,(t6 0 (by simp)).trans o1,(t6 1 (by simp)).trans o2,rfl,hdvs⟩
      ·cases hh'
     cases ex with
     | exit i=>cases hfin
     | normal =>
       obtain ⟨v,h1,v',τ',h2,h3⟩:=key hfin
       exact ⟨rfl,v,h1,v',τ',h2,h3⟩
     | ret =>
       obtain ⟨v,h1,v',τ',h2,h3⟩:=key hfin
       exact ⟨rfl,v,h1,v',τ',h2,h3⟩
    refine hcall.mono p1.symm fun v τ st ⟨s',c2,F',ws,zs,hr,hle2,o1,o2,hv,hds⟩=>?_
    subst hv
    have hMa:X.M ba:=p3.mine la _ ba ⟨_,hsa⟩ ka1 rfl
    have hMb:X.M bb:=p3.mine lb _ bb ⟨_,hsb⟩ kb1 rfl
    have q1:=p3.kill (l:=la) ⟨_,hsa⟩
    have hsb':(Y5 (Z8 s O q.2) la none).O lb=some (some (.map TB' kb' mb)):=(J2 (fun e=>hne e.symm)).trans hsb
    have q2:=q1.kill (l:=lb) ⟨_,hsb'⟩
    have hlive:∀ {l':Nat},Y7 (Y5 (Y5 (Z8 s O q.2) la none) lb none) l'->l'≠la/\l'≠lb/\Y7 (Z8 s O q.2) l':=fun {l'} ⟨o,ho⟩=>by
     rcases Z2 ho with ⟨_,e⟩ | ⟨e1,ho⟩
     ·cases e
     ·rcases Z2 ho with ⟨_,e⟩ | ⟨e2,ho⟩
      ·cases e
      ·exact ⟨e2,e1,o,ho⟩
    have hMX:∀ b,X0.M b->X.M b:=fun b hb=>by
     rcases hb with hb | rfl | rfl
     ·exact .inl (d8C p3.base.1 hb)
     ·exact hMa
     ·exact hMb
    have hn:∀ l p g,Y7 (Y5 (Y5 (Z8 s O q.2) la none) lb none) l->c l=some p->p.w=some g->¬ X0.M g:=fun l p g hl hc hw hg=>by
     obtain ⟨e1,e2,o,ho⟩:=hlive hl
     rcases hg with hg | rfl | rfl
     ·have:=(p3.objs l o ho).lt hc hw
      have hg':σ1.N<=g:=hg
      omega
     ·exact e1 (p3.inj l la p _ g ⟨o,ho⟩ ⟨_,hsa⟩ hc ka1 hw rfl)
     ·exact e2 (p3.inj l lb p _ g ⟨o,ho⟩ ⟨_,hsb⟩ hc kb1 hw rfl)
    have hi:∀ g,X0.M g->notIn c σ1 (Y5 (Y5 (Z8 s O q.2) la none) lb none) g:=fun g hg=>by
     have hni:notIn c σ1 (Z8 s O q.2) g:=by
      rcases hg with hg | rfl | rfl
      ·exact p3.fresh hg
      ·exact p3.owned ⟨_,hsa⟩ ka1 rfl
      ·exact p3.owned ⟨_,hsb⟩ kb1 rfl
     exact (hni.set (l:=la) (o:=none)).set
    have q3:Rel X c τ (Y5 (Y5 (Z8 s O q.2) la none) lb none) n F:=q2.stepG st hMX hn hi
    have hi3:∀ g,X0.M g->notIn c τ (Y5 (Y5 (Z8 s O q.2) la none) lb none) g:=fun g hg=>(hi g hg).step q2 st hn hi
    obtain ⟨ba',j1,j2⟩:=hr.objs 0 _ o1
    have j3:c2 0=some ⟨some ⟨ba,0,none⟩,0,0,some ba⟩:=hle2 0 _ rfl
    rw [j3] at j1
    cases j1
    obtain ⟨bb',i1,i2⟩:=hr.objs 1 _ o2
    have i3:c2 1=some ⟨some ⟨bb,0,none⟩,0,0,some bb⟩:=hle2 1 _ rfl
    rw [i3] at i1
    cases i1
    have q4:=q3.revive (l:=la) (o:=.map TA' ka' x.2.1) ⟨ba,ka1,j2⟩ fun p g hc hw=>by
     rw [ka1] at hc
     cases hc
     cases hw
     exact ⟨hMa,hi3 ba (.inr (.inl rfl)),fun l' p' _ hl' hc' hw'=>hn l' p' ba hl' hc' hw' (.inr (.inl rfl))⟩
    have q5:=q4.revive (l:=lb) (o:=.map TB' kb' x.2.2) ⟨bb,kb1,i2⟩ fun p g hc hw=>by
     rw [kb1] at hc
     cases hc
     cases hw
     refine ⟨hMb,(hi3 bb (.inr (.inr rfl))).set,fun l' p' _ ⟨o',hl'⟩ hc' hw'=>?_⟩
     rcases Z2 hl' with ⟨e,_⟩ | ⟨_,hl'⟩
     ·subst e
      rw [ka1] at hc'
      cases hc'
      cases hw'
      exact hbne rfl
     ·exact hn l' p' bb ⟨o',hl'⟩ hc' hw' (.inr (.inr rfl))
    have hend:apE s nb ⟨a8o (a9P tb rs x.1),Q3 O q.2++[(la,some (.map TA' ka' x.2.1)),(lb,some (.map TB' kb' x.2.2))],[]⟩=Y5 (Y5 (Y5 (Y5 (Z8 s O q.2) la none) lb none) la (some (.map TA' ka' x.2.1))) lb (some (.map TB' kb' x.2.2)):=by
     have hO':apU s.O (Q3 O q.2++[(la,some (.map TA' ka' x.2.1)),(lb,some (.map TB' kb' x.2.2))])=upF (upF (upF (upF (apU s.O (Q3 O q.2)) la none) lb none) la (some (.map TA' ka' x.2.1))) lb (some (.map TB' kb' x.2.2)):=by
      rw [a2O]
      simp only [apU]
      funext i
      simp only [upF]
      cases d8u i lb<;>cases d8u i la<;>rfl
     show (⟨s.n,s.F,apU s.O (Q3 O q.2++[(la,some (.map TA' ka' x.2.1)),(lb,some (.map TB' kb' x.2.2))]),s.nx⟩:St I)=_
     rw [hO']
     rfl
    refine ⟨τ,rfl,p2.trans (st.mono fun b _ hb=>hMX b hb),c,Cx.le_refl c,by rw [hend]; exact q5,?_⟩
    exact b6h (b65 ht hds)
   ·cases he'
  ·cases he'
def d4d (tb:Tab I)(rs:List Kd)(rl:List ResultVar):Ex->St I->Option (Tys I rs):=fun e s=>match e with
 | .exit _=>none
 | _=>(a9N tb s rl).bind fun a=>(a7T tb s.O rs a).bind fun x=>bif a4j x.2 then some x.1 else none
def d34 (tb:Tab I)(TV TA TB:TypeId)(ka kb k1:Kd)(nt:Nat)(ma:MpT I ka)(mb:MpT I kb)(q:Ty I k1):St I :=
 ⟨nt,fun i=>[a7B tb k1 q,.ptr 0 0][i]?,fun l=>bif d8u l 0 then some (some (.var TV [.mp 1,.mp 2] false)) else bif d8u l 1 then some (some (.rom TA ka ma)) else bif d8u l 2 then some (some (.rom TB kb mb)) else none,3⟩
def c38 (O:Obs I)(l:Nat)(T:TypeId)(kd:Kd):Option (MpT I kd):=match O l with
 | some (some (.map T' kd' m))=>a5T (T:=T) (T':=T') (kd:=kd) m
 | some (some (.rom T' kd' m))=>a5T (T:=T) (T':=T') (kd:=kd) m
 | _=>none
omit [∀ E,Rp (I E)] in
theorem d3E {O:Obs I}{l:Nat}{T:TypeId}{kd:Kd}{m:MpT I kd}(h:c38 O l T kd=some m):O l=some (some (.map T kd m))\/O l=some (some (.rom T kd m)):=by
 unfold c38 at h
 split at h
 ·rename_i T' kd' m' e
  obtain ⟨e1,e2,rfl⟩:=a4W h
  subst e1
  subst e2
  exact .inl e
 ·rename_i T' kd' m' e
  obtain ⟨e1,e2,rfl⟩:=a4W h
  subst e1
  subst e2
  exact .inr e
 ·cases h
theorem c7E {l:Nat}{T:TypeId}{kd:Kd}{m:MpT I kd}(hr:Rel X c σ s n F)(h:s.O l=some (some (.map T kd m))\/s.O l=some (some (.rom T kd m))):∃ b w,c l=some ⟨some ⟨b,0,none⟩,0,0,w⟩/\a8I σ kd m b:=by
 rcases h with h | h
 ·obtain ⟨b,h1,h2⟩:=hr.objs l _ h
  exact ⟨b,_,h1,h2⟩
 ·obtain ⟨b,h1,h2,_⟩:=hr.objs l _ h
  exact ⟨b,_,h1,h2⟩
def b8p (tb:Tab I)(TV TA TB:TypeId)(ka kb k1:Kd)(rs:List Kd)(run:MpT I ka->MpT I kb->Ty I k1->Option (Tys I rs))(_:a0f I)(ρ:Type)(O:Obs I)(_:Nat)(ps:List (PV I))(k:Ef I->Option ρ):Option ρ:=match ps with
 | [p,.ptr l 0]=>match O l with
   | some (some (.var T [.mp la,.mp lb] _))=>bif d8u T TV then (c38 O la TA ka).bind fun ya=>(c38 O lb TB kb).bind fun yb =>
      (a9c tb O k1 p).bind fun q=>bif a4j q.2 then (run ya yb q.1).bind fun x=>k ⟨a8o (a9P tb rs x),[],[]⟩ else none else none
   | _=>none
 | _=>none
theorem d41 (ht:TabOk P tb){disp0:a0f I}(hd0:DispOk P disp0)(hmx:P.follows .mixedOrders=true){f:FuncId}{fn:Func}{TV TA TB:TypeId}{ka kb k1:Kd}{rs:List Kd}{nt:Nat}{cd:Code}{rl:List ResultVar}{H:Hints I}
 {run:MpT I ka->MpT I kb->Ty I k1->Option (Tys I rs)}
 (hf : P.funcs[f]? = some fn) (hb : fn.body = some cd) (hname : (fn.name == "runtime.NumGoroutine") = false) (hn : fn.ntmps = nt) (hres : fn.results.toList = rl) (hle : Nat.ble 2 nt = true) (hcode : a1m H cd 1 = true)
 (hex:run=fun ma mb q=>a21 tb disp0 H cd 1 (Tys I rs) (d34 tb TV TA TB ka kb k1 nt ma mb q) (d4d tb rs rl)) :
 EntOk P (⟨f,b8p tb TV TA TB ka kb k1 rs run⟩:Ans I):=by
 refine ⟨fun disp ρ O nb ps k=>?_,fun disp hd O nb ps ef he=>?_⟩
 ·show b8p tb TV TA TB ka kb k1 rs run disp ρ O nb ps k=(b8p tb TV TA TB ka kb k1 rs run disp (Ef I) O nb ps some).bind k
  unfold b8p
  split
  ·split
   ·rename_i T la lb w e
    cases d8u T TV
    ·rfl
    ·simp only [cond_true,d86]
     congr 1
     funext ya
     congr 1
     funext yb
     congr 1
     funext q
     cases a4j q.2
     ·rfl
     ·simp only [cond_true,d86,d8l]
   ·rfl
  ·rfl
 ·intro X c σ s n F vs hX hO h hvs hfree
  have he':b8p tb TV TA TB ka kb k1 rs run disp (Ef I) O nb ps some=some ef:=he
  unfold b8p at he'
  split at he'
  ·rename_i p l
   split at he'
   ·rename_i T la lb w hol
    obtain ⟨hT,hf'⟩:=j8 he'
    clear he'
    have he':=hf'
    clear hf'
    have hT':=d8s hT
    clear hT he
    subst hT'
    obtain ⟨ya,hya,he'⟩:=bind_some he'
    obtain ⟨yb,hyb,he'⟩:=bind_some he'
    obtain ⟨q,hq,he'⟩:=bind_some he'
    obtain ⟨hnl,he'⟩:=j8 he'
    obtain ⟨x,hx,he'⟩:=bind_some he'
    cases he'
    have hnl:=a4e hnl
    obtain ⟨σ1,p1,p2,p3',p4,p5,p6⟩:=h.pubs hO []
    have p3:Rel X c σ1 s n F:=p3'
    have hvs1:=RVs.step p2 _ _ hvs
    simp only [RVs] at hvs1
    obtain ⟨v0,vs',rfl,hv0,v1,vs'',rfl,hv1,rfl⟩:=hvs1
    have hdv:DV σ1 k1 q.1 v0:=a5Q ht p4 (ls:=q.2) hq (fun l hl=>by rw [hnl] at hl; exact hl) hv0
    have hsO:∀ {l:Nat} {T:TypeId} {kd:Kd} {m:MpT I kd},c38 O l T kd=some m->s.O l=some (some (.map T kd m))\/s.O l=some (some (.rom T kd m)):=fun h=>(d3E h).imp (hO _ _) (hO _ _)
    obtain ⟨ba,wa,ka1,ka2⟩:=c7E p3 (hsO hya)
    obtain ⟨bb,wb,kb1,kb2⟩:=c7E p3 (hsO hyb)
    obtain ⟨bv,cs,l1,l2,l3,_,_⟩:=p3.objs l _ (hO l _ hol)
    have hv1':v1=.pointer (some ⟨bv,0,none⟩):=by
     simp only [RV] at hv1
     obtain ⟨b,w,e1,e2⟩:=hv1
     rw [l1] at e1
     cases e1
     exact e2
    have hcs:cs=[Value.map (some ba),Value.map (some bb)]:=by
     simp only [RG] at l2
     obtain ⟨a1,r1,e1,h1,a2,r2,e2,h2,h3⟩:=l2
     rcases h1 with h1 | ⟨_,w1,f1,g1⟩
     ·exact absurd h1 (by simp [b3p])
     rcases h2 with h2 | ⟨_,w2,f2,g2⟩
     ·exact absurd h2 (by simp [b3p])
     simp only [RV] at g1 g2
     obtain ⟨b1,u1,m1,n1⟩:=g1
     obtain ⟨b2,u2,m2,n2⟩:=g2
     rw [ka1] at m1
     cases m1
     rw [kb1] at m2
     cases m2
     rw [e1,f1,e2,f2,h3,n1,n2]
     rfl
    let X0:Cxt:=⟨P,σ1.N,fun _=>False⟩
    let c0:Cx:=fun l=>bif d8u l 0 then some ⟨some ⟨bv,0,none⟩,0,0,none⟩ else bif d8u l 1 then some ⟨some ⟨ba,0,none⟩,0,0,none⟩ else bif d8u l 2 then some ⟨some ⟨bb,0,none⟩,0,0,none⟩ else none
    have hM0:∀ {b:Nat},b<σ1.N->¬ X0.M b:=fun {b} hlt hm=>by
     rcases hm with hm | hm
     ·have:σ1.N<=b:=hm
      omega
     ·exact hm
    have hO0:∀ {l:Nat} {o:Ob I},(d34 tb T TA TB ka kb k1 nt ya yb q.1).O l=some (some o)->(l=0/\o=.var T [.mp 1,.mp 2] false)\/(l=1/\o=.rom TA ka ya)\/(l=2/\o=.rom TB kb yb):=fun {l o} ho=>by
     have ho':(bif d8u l 0 then some (some (Ob.var T [.mp 1,.mp 2] false)) else bif d8u l 1 then some (some (Ob.rom TA ka ya)) else bif d8u l 2 then some (some (.rom TB kb yb)) else none)=some (some o):=ho
     cases h0:d8u l 0 with
     | true=>rw [h0] at ho'; cases ho'; exact .inl ⟨d8s h0,rfl⟩
     | false =>
       rw [h0] at ho'
       cases h1:d8u l 1 with
       | true=>rw [h1] at ho'; cases ho'; exact .inr (.inl ⟨d8s h1,rfl⟩)
       | false =>
         rw [h1] at ho'
         cases h2:d8u l 2 with
         | true=>rw [h2] at ho'; cases ho'; exact .inr (.inr ⟨d8s h2,rfl⟩)
         | false=>rw [h2] at ho'; cases ho'
    have hcn:∀ {l:Nat} {p:Pl} {g:Nat},c0 l=some p->p.w=some g->False:=fun {l p g} hc hw=>by
     have hc':(bif d8u l 0 then some (⟨some ⟨bv,0,none⟩,0,0,none⟩:Pl) else bif d8u l 1 then some ⟨some ⟨ba,0,none⟩,0,0,none⟩ else bif d8u l 2 then some ⟨some ⟨bb,0,none⟩,0,0,none⟩ else none)=some p:=hc
     cases h0:d8u l 0 with
     | true=>rw [h0] at hc'; cases hc'; cases hw
     | false =>
       rw [h0] at hc'
       cases h1:d8u l 1 with
       | true=>rw [h1] at hc'; cases hc'; cases hw
       | false =>
         rw [h1] at hc'
         cases h2:d8u l 2 with
         | true=>rw [h2] at hc'; cases hc'; cases hw
         | false=>rw [h2] at hc'; cases hc'
    have hini:Rel X0 c0 σ1 (d34 tb T TA TB ka kb k1 nt ya yb q.1) nt (a04 [v0,v1]):=by
     refine ⟨rfl,fun i p hp=>?_,fun l o ho=>?_,fun l l' p p' b _ _ hc _ hw _=>(hcn hc hw).elim,fun l p b _ hc hw=>(hcn hc hw).elim,fun l hl=>?_,⟨d8r _,fun E=>d8C (p3.base.2 E) p3.base.1⟩,noN.nests fun l E E' u xs q e=>?_⟩
     ·have hrv:RVs X0 c0 σ1 [a7B tb k1 q.1,.ptr 0 0] [v0,v1]:=by
       simp only [RVs]
       refine ⟨v0,[v1],rfl,a97 ht hdv,v1,[],rfl,?_,rfl⟩
       simp only [RV]
       exact ⟨bv,none,rfl,hv1'⟩
      obtain ⟨v,hv,hr⟩:=RVs.at_ _ _ hrv i p hp
      have:a04 [v0,v1] i=v:=by simp [a04,d9r,hv]
      rw [this]; exact hr
     ·rcases hO0 ho with ⟨rfl,rfl⟩ | ⟨rfl,rfl⟩ | ⟨rfl,rfl⟩
      ·refine ⟨bv,cs,rfl,?_,l3,fun e=>(by cases e),fun _=>hM0 (a0E l3)⟩
       rw [hcs]
       simp only [RG]
       exact ⟨[.map (some ba)],[.map (some bb)],rfl,.inr ⟨rfl,_,rfl,by simp only [RV]; exact ⟨ba,_,rfl,rfl⟩⟩,[.map (some bb)],[],rfl,.inr ⟨rfl,_,rfl,by simp only [RV]; exact ⟨bb,_,rfl,rfl⟩⟩,rfl⟩
      ·exact ⟨ba,rfl,ka2,hM0 ka2.lt⟩
      ·exact ⟨bb,rfl,kb2,hM0 kb2.lt⟩
     ·have hl':(bif d8u l 0 then some (some (Ob.var T [.mp 1,.mp 2] false)) else bif d8u l 1 then some (some (Ob.rom TA ka ya)) else bif d8u l 2 then some (some (.rom TB kb yb)) else none)=(none:Option (Option (Ob I))):=hl
      show (bif d8u l 0 then some _ else bif d8u l 1 then some _ else bif d8u l 2 then some _ else none)=none
      cases h0:d8u l 0 with
      | true=>rw [h0] at hl'; cases hl'
      | false =>
        rw [h0] at hl'
        cases h1:d8u l 1 with
        | true=>rw [h1] at hl'; cases hl'
        | false =>
          rw [h1] at hl'
          cases h2:d8u l 2 with
          | true=>rw [h2] at hl'; cases hl'
          | false=>rfl
     ·rcases hO0 e with ⟨_,e⟩ | ⟨_,e⟩ | ⟨_,e⟩<;>cases e
    have hle':=d8N hle
    have hcall:a0Z P f [v0,v1] σ1 (Stp X0.M σ1) fun v τ=>∃ ws,v=a4Y ws/\DVs τ rs x ws:=by
     refine .inl ⟨⟨fn,_,hf,hb,hname⟩,calls_of_wp hf hb ?_⟩
     have e:(⟨([v0,v1]:List Value).toArray++d94 (fn.ntmps-([v0,v1]:List Value).toArray.size) undef,[]⟩:Act)=fr nt (a04 [v0,v1]):=by
      rw [hn]
      simp only [fr]
      congr 1
      apply Array.ext
      ·simp; omega
      ·intro i h1 h2
       simp only [d9D,a04,d9Y]
       split
       ·rename_i hi; simp at hi; simp [d9r,d8n (show i<([v0,v1]:List Value).length by simp; omega)]
       ·rename_i hi; simp at hi; simp [d9r,d8U (l:=[v0,v1]) (show ([v0,v1]:List Value).length<=i by simp; omega)]
     rw [e]
     rw [hex] at hx
     refine a1r ht hd0 hmx cd 1 hcode _ _ _ _ X0 _ σ1 _ _ rfl hx hini fun ex s' c2 τ F' hfin hle2 hr st _=>?_
     have key:d4d tb rs rl .normal s'=some x->∃ v,(results fn (fr nt F').tmps).run P τ.w=.ok v τ.w/\∃ v' τ',Ending.returned v=.returned v'/\τ'.w=τ.w/\Stp X0.M σ1 τ'/\∃ ws,v'=a4Y ws/\DVs τ' rs x ws:=by
      intro hh
      have hh':((a9N tb s' rl).bind fun a=>(a7T tb s'.O rs a).bind fun x=>bif a4j x.2 then some x.1 else none)=some x:=hh
      obtain ⟨zs,z1,hh'⟩:=bind_some hh'
      obtain ⟨y,z2,hh'⟩:=bind_some hh'
      obtain ⟨z3,hh'⟩:=j8 hh'
      cases hh'
      obtain ⟨ws,w1,w2⟩:=b2r ht hr z1
      have hnil:y.2=[]:=by
       revert z3
       cases y.2 with
       | nil=>intro _; rfl
       | cons a r=>intro h; cases h
      obtain ⟨τ2,t1,t2,t3,t4,_,t6⟩:=hr.pubs (O:=s'.O) (fun _ _ h=>h) []
      have hdvs:=b0J ht t4 z2 (fun l hl=>by rw [hnil] at hl; cases hl) (RVs.step t2 _ _ w1)
      exact ⟨a4Y ws,b0o (by rw [hres]; exact w2),a4Y ws,τ2,rfl,t1,st.trans t2,ws,rfl,hdvs⟩
     cases ex with
     | exit i=>cases hfin
     | normal =>
       obtain ⟨v,h1,v',τ',h2,h3⟩:=key hfin
       exact ⟨rfl,v,h1,v',τ',h2,h3⟩
     | ret =>
       obtain ⟨v,h1,v',τ',h2,h3⟩:=key hfin
       exact ⟨rfl,v,h1,v',τ',h2,h3⟩
    refine hcall.mono p1.symm fun v τ st ⟨ws,hv,hds⟩=>?_
    subst hv
    have hMX:∀ b,X0.M b->X.M b:=fun b hb=>by
     rcases hb with hb | hb
     ·exact .inl (d8C p3.base.1 hb)
     ·exact hb.elim
    have hn:∀ l p g,Y7 s l->c l=some p->p.w=some g->¬ X0.M g:=fun l p g ⟨o,ho⟩ hc hw=>hM0 ((p3.objs l o ho).lt hc hw)
    have hi:∀ g,X0.M g->notIn c σ1 s g:=fun g hg=>by
     rcases hg with hg | hg
     ·exact p3.fresh hg
     ·exact hg.elim
    have q3:Rel X c τ s n F:=p3.stepG st hMX hn hi
    exact ⟨τ,rfl,p2.trans (st.mono fun b _ hb=>hMX b hb),c,Cx.le_refl c,q3,b6h (b65 ht hds)⟩
   ·cases he'
  ·cases he'
end
end Go.Qx
end
section
open Array renaming getElem?_toList->d8F
open Bool renaming and_eq_true->d8p
open Go.Proofs.Tryz renaming prog->d8m
open List renaming all_eq_true->d8q,drop_eq_getElem_cons->d8S,getElem?_eq_getElem->d8n,getElem?_eq_none_iff->d9H,getElem?_eq_some_iff->d8o,map_cons->d8O
open Nat renaming beq->d8u,ble->d89,blt->d8V,eq_of_beq_eq_true->d8s,le_of_ble_eq_true->d8N,le_refl->d8r,le_trans->d8C,lt_of_lt_of_le->d9n,zero_add->d8Q,zero_le->d8w
open Option renaming map_eq_some_iff->d9f,map_some->d85,some->d8Y
namespace Go.Qx
open Go Go.RowKit Go.Sx
set_option maxHeartbeats 1600000
set_option maxRecDepth 100000
abbrev RK (r:Row I):Prop:=Z3 d8m r
abbrev RO (r:Rio I):Prop:=a75 d8m r
def mkH (a:List (Nat×List (List Nat)))(b c:List (Nat×List Nat))(j:List (Nat×JH))(l:List (Nat×LH I))(k:List (Nat×KH I))(ns:List (Nat×NH I))(u:List (Nat×Nat)):Hints I :=
 ⟨fun i=>(asc a i).getD [],fun i=>(asc b i).getD [],fun i=>(asc c i).getD [],asc j,asc l,asc k,asc ns,fun i=>(asc u i).getD 0⟩
def Y4:Hints I:=mkH [] [] [] [] [] [] [] []
structure En where
 ans:Ans I
 ok:EntOk d8m ans
def enL:List En->List (Ans I)
 | []=>[]
 | e::r=>e.ans::enL r
theorem b3N:∀ l:List En,c5V d8m (enL l)
 | []=>trivial
 | e::r=>⟨e.ok,b3N r⟩
def eR {r:Row I}(h:RK r):En:=⟨c54 tb r,b6O a5I h⟩
def eO {r:Rio I}(h:RO r):En:=⟨d3k tb r,d0h a5I h⟩
def eS {r:Row I}(T f j:Nat)(is:List Nat)(h:a26 d8m r (b2d T f j is)):En:=⟨c4T tb r (c5r T f j is),c2r a5I h (fun _ _ _ _ _ _ _ _ _ hO h hc hv=>d03 hO h hc hv)⟩
theorem okR {r:Row I}(l:List En){fn:Func}(nt:Nat)(H:Hints I)(rl:List ResultVar)(hf:(d8m).funcs[r.f]?=some fn)
 (h : (fn.body, fn.name == "runtime.NumGoroutine", fn.ntmps, fn.results.toList, Nat.ble r.ps.length nt, a1m H (b1d fn) 1, r.run) = (some (b1d fn), false, nt, rl, true, true, b7j r.ps (d4B tb (c07 (enL l) 3) H (b1d fn) nt r.ps r.rs rl))) : RK r := by
 simp only [Prod.mk.injEq] at h
 obtain ⟨h1,h2,h3,h4,h5,h6,h7⟩:=h
 exact d7f a5I (a5L (b3N l) 3) mixed nt hf h1 h2 h3 h4 h5 h6 h7
theorem okO {r:Rio I}(l:List En){fn:Func}(nt:Nat)(H:Hints I)(rl:List ResultVar)(hf:(d8m).funcs[r.f]?=some fn)
 (h : (fn.body, fn.name == "runtime.NumGoroutine", fn.ntmps, fn.results.toList, Nat.ble (r.ps.length + 1) nt, a1m H (b1d fn) 1, r.run) = (some (b1d fn), false, nt, rl, true, true, fun xs => b7j r.ps (d4T tb (c07 (enL l) 3) H (b1d fn) nt r.E r.ps r.rs rl xs))) : RO r := by
 simp only [Prod.mk.injEq] at h
 obtain ⟨h1,h2,h3,h4,h5,h6,h7⟩:=h
 exact d6y a5I (a5L (b3N l) 3) mixed nt hf h1 h2 h3 h4 h5 h6 h7
noncomputable def d6e:Rio I:=⟨51,56,[.fn [.dat 56,.dat 56] [.k (.d (.int .i64))]],[],b76⟩
theorem d7D:a75 d8m d6e:=c6t Go.Proofs.Tryz.lay51 51 (by kernel_rfl) (by kernel_rfl) Go.Proofs.Tryz.underlying56 (by kernel_rfl)
def d5Z:Row I:=⟨187,[.d (.str),.d (.str)],[.k (.d (.int .i64))],c9o⟩
theorem d6P:Z3 d8m d5Z:=d6B Go.Proofs.Tryz.func187 (by kernel_rfl) rfl (by kernel_rfl) (by kernel_rfl)
def d5n:Row I:=⟨108,[.d (.sl 3)],[.k (.row 3 false)],V7 8⟩
theorem b3u:Z3 d8m d5n:=b3J a5I mixed Go.Proofs.Tryz.func108 (by kernel_rfl) (by kernel_rfl) (by kernel_rfl) Go.Proofs.Tryz.underlying36 rfl (by kernel_rfl) (fun _=>by kernel_rfl)
def d5a:Row I:=⟨128,[.d (.sl 128)],[.k (.row 128 false)],V7 40⟩
theorem d7n:Z3 d8m d5a:=b3J a5I mixed Go.Proofs.Tryz.func128 (by kernel_rfl) (by kernel_rfl) (by kernel_rfl) Go.Proofs.Tryz.underlying64 rfl (by kernel_rfl) (fun _=>by kernel_rfl)
def d50:Rio I:=⟨182,3,[],[],d0t⟩
theorem d60:a75 d8m d50:=d2u (I:=I) (E:=3) Go.Proofs.Tryz.lay182 182 (by kernel_rfl) (fun x=>x) Iff.rfl ⟨_,_,Go.Proofs.Tryz.func182,rfl,by kernel_rfl⟩
def d5K:Rio I:=⟨190,9,[],[],c5G⟩
theorem d1Q:a75 d8m d5K:=d1K (I:=I) (E:=9) Go.Proofs.Tryz.lay190 190 (by kernel_rfl) (fun x=>x) Iff.rfl ⟨_,_,Go.Proofs.Tryz.func190,rfl,by kernel_rfl⟩
def d5y:Row I:=⟨157,[.d (.sl 9)],[.k (.row 9 false)],V7 16⟩
theorem c0D:Z3 d8m d5y:=b3J a5I mixed Go.Proofs.Tryz.func157 (by kernel_rfl) (by kernel_rfl) (by kernel_rfl) Go.Proofs.Tryz.underlying22 rfl (by kernel_rfl) (fun _=>by kernel_rfl)
noncomputable def d5U:Rio I:=⟨287,126,[.fn [.dat 126,.dat 126] [.k (.d (.int .i64))]],[],b76⟩
theorem d63:a75 d8m d5U:=c6t Go.Proofs.Tryz.lay287 287 (by kernel_rfl) (by kernel_rfl) Go.Proofs.Tryz.underlying126 (by kernel_rfl)
def d49:Row I:=⟨235,[.d (.sl 126)],[.k (.row 126 false)],V7 24⟩
theorem d1F:Z3 d8m d49:=b3J a5I mixed Go.Proofs.Tryz.func235 (by kernel_rfl) (by kernel_rfl) (by kernel_rfl) Go.Proofs.Tryz.underlying39 rfl (by kernel_rfl) (fun _=>by kernel_rfl)
def d5L:Row I:=⟨159,[.d (.sl 100)],[.k (.row 100 false)],V7 56⟩
theorem d2r:Z3 d8m d5L:=b3J a5I mixed Go.Proofs.Tryz.func159 (by kernel_rfl) (by kernel_rfl) (by kernel_rfl) Go.Proofs.Tryz.underlying184 rfl (by kernel_rfl) (fun _=>by kernel_rfl)
def b7S:Hints I:=mkH [] [] [] [] [(26,⟨65532,[],[],[(3,.k (.d (.int .i64)))],[((.exit 0),[]),(.ret,[(2,.k (.d (.bool)))])],bnd tb (.len (.slot 0)) 1⟩)] [] [] []
def b40:Row I:=⟨10,[.d (.sl 36)],[.k (.d (.bool))],a4B⟩
theorem b6e:RK (b40) :=
 okR [] 16 b7S [.tmp 2] Go.Proofs.Tryz.func10 (by kernel_rfl)
def b85:Row I:=⟨94,[.d (.int .i64)],[.k (.d (.bool))],a9m⟩
theorem c0l:RK (b85) :=
 okR [] 6 Y4 [.tmp 2] Go.Proofs.Tryz.func94 (by kernel_rfl)
def b6C:Row I:=⟨53,[.d (.int .i64),.d (.int .i64)],[.k (.d (.int .i64))],b1C⟩
theorem b7G:RK (b6C) :=
 okR [eR c0l] 20 Y4 [.tmp 4] Go.Proofs.Tryz.func53 (by kernel_rfl)
def b3L:Row I:=⟨52,[.d (.dat 56),.d (.dat 56)],[.k (.d (.int .i64))],a9j⟩
theorem b3T:RK (b3L) :=
 okR [eR b7G] 10 Y4 [.tmp 4] Go.Proofs.Tryz.func52 (by kernel_rfl)
def b7Z:Hints I:=mkH [(14,[[],[0],[0,1],[0,1,2],[0,1,2],[0,1,2,3,4],[0,1,2,3,4,5],[0,1,2,3,4,5,6],[0,1,2,3,4,5,6,7],[0,1,2,3,4,5,6,7,8],[0,1,2,3,4,5,6,7,8,9],[0,1,2,3,4,5,6,7,8,9,10],[0,1,2,3,4,5,6,7,8,9],[0,1,2,3,4,5,6,7,8,9],[0,1,2,3,4,5,6,7,8,9,12,13],[0,1,2,3,4,5,6,7,8,9,12,13,14],[0,1,2,3,4,5,6,7,8,9,12,13,14,15],[0,1,2,3,4,5,6,7,8,9,12,13,14,15,16],[0,1,2,3,4,5,6,7,8,9,10,11,12,13,14,15,16,17],[0,1,2,3,4,5,6,7,8,9,10,11,12,13,14,15,16,17,18],[0,1,2,3,4,5,6,7,8,9,10,11,12,13,14,15,16,17,18,19]]),(15,[[],[],[],[],[2,3],[2,3,4],[2,3,4,5],[],[7],[2,3,4,5,6,7,8],[0,1,2,3,4,5,6,7,8,9],[0,1,2,3,4,5,6,7,8,9,10],[0,1,2,3,4,5,6,7,8,9,10,11]])] [] [] [] [(58,⟨67104808,[],[],[(3,.k (.row 56 false)),(12,.k (.d (.int .i64)))],[((.exit 0),[(3,.k (.row 56 false))])],bnd tb (.slot 11) 1⟩),
 (506,⟨37778931862956087968576,[],[],[(6,.k (.row 56 false)),(28,.k (.row 56 false)),(30,.k (.d (.int .i64)))],[((.exit 2),[(6,.k (.row 56 false)),(28,.k (.row 56 false))])],bnd tb (.slot 29) 1⟩)] [] [] []
noncomputable def b5I:Row I:=⟨34,[.d (.sl 56)],[.k (.row 56 false)],a1W⟩
theorem a5h:RK (b5I) :=
 okR [eO d7D,eR b3T] 76 b7Z [.tmp 2] Go.Proofs.Tryz.func34 (by kernel_rfl)
def b9e:Row I:=⟨20,[.d (.dat 67)],[.k (.d (.dat 27))],a4Q⟩
theorem a4z:RK (b9e) :=
 okR [] 6 Y4 [.cell 2 27] Go.Proofs.Tryz.func20 (by kernel_rfl)
def c1V:Row I:=⟨6,[],[.k (.d (.dat 27))],a6a⟩
theorem a5K:RK (c1V) :=
 okR [eR a4z] 3 Y4 [.cell 0 27] Go.Proofs.Tryz.func6 (by kernel_rfl)
def b8a:Hints I:=mkH [] [] [] [(29,⟨16776824,[],[],[(.normal,[(3,.k (.d (.bool))),(4,.k (.d (.bool))),(5,.k (.d (.bool))),(6,.k (.d (.bool)))])]⟩),
 (941,⟨26624,[],[],[(.normal,[(11,.k (.d (.bool)))])]⟩),
 (3773,⟨4096000,[],[],[(.normal,[(15,.k (.d (.bool)))])]⟩)] [] [] [] []
def b5F:Row I:=⟨82,[.d (.dat 67)],[.k (.d (.bool))],a4C⟩
theorem b6d:RK (b5F) :=
 okR [] 67 b8a [.tmp 2] Go.Proofs.Tryz.func82 (by kernel_rfl)
def c5F:Hints I:=mkH [] [] [] [] [(58,⟨34351349952,[],[],[(7,.k (.d (.int .i64)))],[((.exit 0),[]),(.ret,[(6,.k (.d (.bool)))])],bnd tb (.len (.slot 0)) 1⟩)] [] [] []
def c2x:Row I:=⟨54,[.d (.str),.fn [.int .u8] [.k (.d (.bool))],.fn [.int .u8] [.k (.d (.bool))]],[.k (.d (.bool))],a67⟩
theorem b4p:RK (c2x) :=
 okR [] 35 c5F [.tmp 6] Go.Proofs.Tryz.func54 (by kernel_rfl)
def c1y:Row I:=⟨57,[.d (.int .u8)],[.k (.d (.bool))],a4y⟩
theorem a8g:RK (c1y) :=
 okR [] 9 Y4 [.tmp 2] Go.Proofs.Tryz.func57 (by kernel_rfl)
def c1E:Row I:=⟨58,[.d (.int .u8)],[.k (.d (.bool))],a6c⟩
theorem b3E:RK (c1E) :=
 okR [] 9 Y4 [.tmp 2] Go.Proofs.Tryz.func58 (by kernel_rfl)
def b95:Row I:=⟨135,[.d (.int .u8)],[.k (.d (.bool))],b0c⟩
theorem c1p:RK (b95) :=
 okR [eR a8g,eR b3E] 13 Y4 [.tmp 2] Go.Proofs.Tryz.func135 (by kernel_rfl)
def c2F:Row I:=⟨106,[.d (.str)],[.k (.d (.bool))],a6W⟩
theorem b4o:RK (c2F) :=
 okR [eR b4p,eR a8g,eR c1p] 5 Y4 [.tmp 2] Go.Proofs.Tryz.func106 (by kernel_rfl)
def c1s:Row I:=⟨55,[.d (.int .u8)],[.k (.d (.bool))],a6e⟩
theorem b2U:RK (c1s) :=
 okR [] 9 Y4 [.tmp 2] Go.Proofs.Tryz.func55 (by kernel_rfl)
def b5A:Row I:=⟨56,[.d (.int .u8)],[.k (.d (.bool))],a69⟩
theorem b6G:RK (b5A) :=
 okR [eR a8g,eR b2U,eR b3E] 17 Y4 [.tmp 2] Go.Proofs.Tryz.func56 (by kernel_rfl)
def b7P:Row I:=⟨35,[.d (.str)],[.k (.d (.bool))],a2K⟩
theorem a6y:RK (b7P) :=
 okR [eR b4p,eR b2U,eR b6G] 5 Y4 [.tmp 2] Go.Proofs.Tryz.func35 (by kernel_rfl)
def c0a:Row I:=⟨136,[.d (.dat 126)],[.k (.d (.bool))],a30⟩
theorem b1u:RK (c0a) :=
 okR [eR b4o] 16 Y4 [.tmp 2] Go.Proofs.Tryz.func136 (by kernel_rfl)
def c1D:Row I:=⟨167,[.d (.int .i64)],[.k (.d (.bool))],a78⟩
theorem c2Y:RK (c1D) :=
 okR [] 6 Y4 [.tmp 2] Go.Proofs.Tryz.func167 (by kernel_rfl)
def b86:Row I:=⟨152,[.d (.int .i64),.d (.int .i64)],[.k (.d (.int .i64))],a4A⟩
theorem b0K:RK (b86) :=
 okR [eR c2Y] 20 Y4 [.tmp 4] Go.Proofs.Tryz.func152 (by kernel_rfl)
def a7z:Row I:=⟨168,[.d (.str),.d (.str)],[.k (.d (.int .i64))],a17⟩
theorem a7R:RK (a7z) :=
 okR [eR d6P] 8 Y4 [.tmp 4] Go.Proofs.Tryz.func168 (by kernel_rfl)
def b88:Row I:=⟨153,[.d (.str),.d (.str)],[.k (.d (.int .i64))],a4H⟩
theorem b0S:RK (b88) :=
 okR [eR a7R] 8 Y4 [.tmp 4] Go.Proofs.Tryz.func153 (by kernel_rfl)
def b6V:Row I:=⟨137,[.d (.dat 126),.d (.dat 126)],[.k (.d (.int .i64))],a3w⟩
theorem a89:RK (b6V) :=
 okR [eR b0K,eR b0S] 19 Y4 [.tmp 4] Go.Proofs.Tryz.func137 (by kernel_rfl)
def b5b:Hints I:=mkH [(4,[[],[0],[0,1],[0,1,2],[0,1,2,3],[0,1,2,3,4],[0,1,2,3,4,5],[0,1,2,3,4,5,6],[0,1,2,3,4,5,6,7],[0,1,2,3,4,5,6,7],[0,1,2,3,4,5,6,7,9],[0,1,2,3,4,5,6,7,8,9,10],[0,1,2,3,4,5,6,7,8,9,10,11],[0,1,2,3,4,5,6,7,8,9,10,11,12],[0,1,2,3,4,5,6,7],[0,1,2,3,4,5,6,7,14],[0,1,2,3,4,5,6,7,8,9,10,11,12,13,14,15],[0,1,2,3,4,5,6,7,8,9,10,11,12,13,14,15,16],[0,1,2,3,4,5,6,7,8,9,10,11,12,13,14,15,16,17],[0,1,2,3,4,5,6,7,8,9,10,11,12,13,14,15,16,17,18]])] [] [] [] [(26,⟨8589934492,[],[],[(7,.k (.d (.int .i64)))],[((.exit 0),[]),(.ret,[(2,.k (.d (.bool)))])],bnd tb (.slot 6) 1⟩)] [] [] []
def b3b:Row I:=⟨107,[.d (.sl 128)],[.k (.d (.bool))],a3N⟩
theorem b3W:RK (b3b) :=
 okR [eR b1u,eR a89] 33 b5b [.tmp 2] Go.Proofs.Tryz.func107 (by kernel_rfl)
def b73:Hints I:=mkH [] [] [] [(105,⟨16288,[],[],[(.normal,[(5,.k (.d (.bool)))])]⟩),
 (28311549,⟨368934881474191032320,[],[],[(.normal,[(66,.k (.d (.bool)))])]⟩)] [] [] [] []
def b5a:Row I:=⟨83,[.d (.dat 67)],[.k (.d (.bool))],a4K⟩
theorem b56:RK (b5a) :=
 okR [eR b4o,eR a6y,eR b3W] 79 b73 [.tmp 2] Go.Proofs.Tryz.func83 (by kernel_rfl)
def c2H:Hints I:=mkH [] [] [] [] [(58,⟨4190248,[],[],[(3,.k (.row 3 false)),(12,.k (.d (.int .i64)))],[((.exit 0),[(3,.k (.row 3 false))])],bnd tb (.slot 11) 1⟩)] [] [] []
def c0L:Row I:=⟨84,[.d (.dat 67)],[.k (.row 3 false)],a7n⟩
theorem c1u:RK (c0L) :=
 okR [eR b3u] 35 c2H [.tmp 2] Go.Proofs.Tryz.func84 (by kernel_rfl)
def b5K:Row I:=⟨110,[.d (.int .i64)],[.k (.d (.bool))],a4M⟩
theorem b6U:RK (b5K) :=
 okR [] 13 Y4 [.tmp 2] Go.Proofs.Tryz.func110 (by kernel_rfl)
def b2V (_:Nat):Hints I:=mkH [] [] [] [] [(122,⟨140462610448544,[],[(1,.k (.row 3 false))],[(38,.k (.d (.int .i64)))],[((.exit 0),[]),(.ret,[(5,.k (.d (.bool)))])],bnd tb (.slot 37) 1⟩)] [] [] []
def a3g (n:Nat):Row I:=⟨109,[.d (.int .i64),.var 36 (.k (.row 3 false)) true,.var 27 (.k (.d (.dat 27))) false,.var 151 (.k (.d .any)) false],[.k (.d (.bool))],J1 n⟩
theorem b1i (n:Nat)(h_typeexpr_contractive_1:a26 d8m (a3g n) (b2d 151 109 3 [1,2,3])):a26 d8m (a3g (n+1)) (b2d 151 109 3 [1,2,3]) :=
 c5L a5I (a5L (b3N [eR b6U,eS 151 109 3 [1,2,3] h_typeexpr_contractive_1]) 3) mixed 50 (s0:=fun a=>d0J 151 109 3 3 [1,2,3] (a6A tb 50 [.d (.int .i64),.var 36 (.k (.row 3 false)) true,.var 27 (.k (.d (.dat 27))) false,.var 151 (.k (.d .any)) false] a)) (fn:=Go.Proofs.Tryz.f109) (cd:=b1d Go.Proofs.Tryz.f109) (H:=(b2V n)) (rl:=[.tmp 5]) (fun X c σ a vs F h hv _ hC=>c8z rfl rfl rfl h hv hC) Go.Proofs.Tryz.func109 (by kernel_rfl) (by kernel_rfl) (by kernel_rfl) (by kernel_rfl) (by kernel_rfl) (by kernel_rfl) (by kernel_rfl)
theorem a6K:∀ n:Nat,a26 d8m (a3g n) (b2d 151 109 3 [1,2,3])
 | 0=>c6m (a0h (by kernel_rfl))
 | n+1=>b1i n (a6K n)
def b5u (_:Nat):Hints I:=mkH [] [] [] [] [(250,⟨4177956,[],[(3,.k (.row 3 false))],[(14,.k (.d (.int .i64)))],[((.exit 0),[]),(.ret,[(2,.k (.d (.bool)))])],bnd tb (.slot 13) 1⟩)] [] [] []
def b3a (n:Nat):Row I:=⟨85,[.d (.dat 27)],[.k (.d (.bool))],a3F n⟩
theorem b3X (n:Nat):RK (b3a n) :=
 okR [eS 151 109 3 [1,2,3] (a6K n)] 22 (b5u n) [.tmp 2] Go.Proofs.Tryz.func85 (by kernel_rfl)
def b7c (_:Nat):Hints I:=mkH [] [] [] [] [(58,⟨2251799811588180,[],[],[(21,.k (.d (.int .i64)))],[((.exit 0),[]),(.ret,[(2,.k (.d (.int .i64)))])],bnd tb (.slot 20) 1⟩),
 (29902,⟨1125831187365956,[34],[],[(36,.k (.d (.int .i64)))],[((.exit 2),[]),(.ret,[(2,.k (.d (.int .i64)))])],bnd tb (.slot 35) 1⟩)] [] [] []
def b4b (n:Nat):Row I:=⟨45,[.d (.dat 27)],[.k (.d (.int .i64))],K4 n⟩
theorem a0U (n:Nat):RK (b4b n) :=
 okR [eR b6d,eR b56,eR c1u,eR (b3X n)] 54 (b7c n) [.tmp 2] Go.Proofs.Tryz.func45 (by kernel_rfl)
def b9x (n:Nat):Row I:=⟨97,[.d (.dat 27)],[.k (.d (.dat 27))],a9X n⟩
theorem c1U (n:Nat):RK (b9x n) :=
 okR [eR (a0U n),eR a5K] 8 Y4 [.cell 2 27] Go.Proofs.Tryz.func97 (by kernel_rfl)
def b9E:Hints I:=mkH [] [] [] [] [(58,⟨67092512,[],[(2,.lvs [.d (.int .i64),.d (.int .i64),.d (.int .i64),.d (.str),.row 3 false,.d (.sl 128),.d (.int .i64),.d (.int .i64)])],[(14,.k (.d (.int .i64)))],[((.exit 0),[])],bnd tb (.slot 13) 1⟩),
 (250,⟨140728898420800,[],[(2,.lvs [.d (.int .i64),.d (.int .i64),.d (.int .i64),.d (.str),.row 3 false,.row 128 false,.d (.int .i64),.d (.int .i64)])],[(33,.k (.d (.int .i64)))],[((.exit 2),[])],bnd tb (.slot 32) 1⟩)] [] [] []
def b7K:Row I:=⟨98,[.d (.dat 67),.d (.int .i64)],[.k (.d (.dat 67))],a52⟩
theorem b8K:RK (b7K) :=
 okR [eR b3u,eR d7n] 65 b9E [.cell 4 67] Go.Proofs.Tryz.func98 (by kernel_rfl)
def c29 (_:Nat):Hints I:=mkH [(8,[[],[],[1],[],[1,2,3],[0],[0,1,2,3,4,5]])] [] [] [] [(122,⟨134152449,[],[],[(0,.k (.row 67 false)),(16,.k (.d (.int .i64)))],[((.exit 0),[(0,.k (.row 67 false))])],bnd tb (.slot 15) 1⟩)] [] [] []
def c0A (n:Nat):Row I:=⟨62,[.row 67 false,.d (.dat 27)],[.k (.row 67 false),.k (.d (.int .i64))],a1Z n⟩
theorem a7C (n:Nat):RK (c0A n) :=
 okR [eR (c1U n),eR b8K] 32 (c29 n) [.tmp 4,.tmp 5] Go.Proofs.Tryz.func62 (by kernel_rfl)
def c4N (_:Nat):Hints I:=mkH [] [] [] [] [(122,⟨1073709920,[],[],[(5,.k (.row 67 false)),(6,.k (.row 3 false)),(15,.k (.d (.int .i64)))],[((.exit 0),[(5,.k (.row 67 false)),(6,.k (.row 3 false))])],bnd tb (.slot 14) 1⟩)] [] [] []
def c1C (n:Nat):Row I:=⟨46,[.d (.int .i64),.d (.sl 27)],[.k (.d (.dat 27))],a6f n⟩
theorem b2L (n:Nat):RK (c1C n) :=
 okR [eR (a7C n)] 36 (c4N n) [.cell 4 27] Go.Proofs.Tryz.func46 (by kernel_rfl)
def b94 (n:Nat):Row I:=⟨30,[.d (.sl 27)],[.k (.d (.dat 27))],a5s n⟩
theorem b1y (n:Nat):RK (b94 n) :=
 okR [eR a5K,eR (b2L n)] 9 Y4 [.cell 2 27] Go.Proofs.Tryz.func30 (by kernel_rfl)
def c3K (_:Nat):Hints I:=mkH [] [] [] [] [(58,⟨8388136,[7],[],[(3,.k (.row 27 false)),(9,.k (.d (.int .i64)))],[((.exit 0),[(3,.k (.row 27 false))])],bnd tb (.slot 8) 1⟩)] [] [] []
noncomputable def c1T (n:Nat):Row I:=⟨16,[.d (.sl 56)],[.k (.d (.dat 27))],b8s n⟩
theorem c27 (n:Nat):RK (c1T n) :=
 okR [eR a5h,eR a4z,eR (b1y n)] 25 (c3K n) [.cell 2 27] Go.Proofs.Tryz.func16 (by kernel_rfl)
def b6R:Row I:=⟨17,[.d (.str)],[.k (.d (.dat 27))],a1y⟩
theorem a9k:RK (b6R) :=
 okR [eR a6y,eR a5K,eR a4z] 10 Y4 [.cell 2 27] Go.Proofs.Tryz.func17 (by kernel_rfl)
def c26:Row I:=⟨18,[],[.k (.d (.dat 27))],b2A⟩
theorem b4u:RK (c26) :=
 okR [eR a4z] 3 Y4 [.cell 0 27] Go.Proofs.Tryz.func18 (by kernel_rfl)
def a9Q:Hints I:=mkH [] [] [] [] [(26,⟨524080,[],[],[(8,.k (.d (.int .i64)))],[((.exit 0),[]),(.ret,[(4,.k (.d (.int .i64)))])],bnd tb (.slot 7) 1⟩)] [] [] []
def a81:Row I:=⟨65,[.d (.sl 9),.d (.str)],[.k (.d (.int .i64))],a59⟩
theorem a9A:RK (a81) :=
 okR [] 19 a9Q [.tmp 4] Go.Proofs.Tryz.func65 (by kernel_rfl)
def a73:Row I:=⟨40,[.d (.sl 9),.d (.str)],[.k (.d (.bool))],a2v⟩
theorem a4g:RK (a73) :=
 okR [eR a9A] 9 Y4 [.tmp 4] Go.Proofs.Tryz.func40 (by kernel_rfl)
def c0N:Hints I:=mkH [] [] [] [] [(26,⟨130580,[],[],[(9,.k (.d (.int .i64)))],[((.exit 0),[]),(.ret,[(2,.k (.d (.int .i64)))])],bnd tb (.slot 8) 1⟩),
 (58,⟨1073217636,[],[],[(19,.k (.d (.int .i64)))],[((.exit 2),[]),(.ret,[(2,.k (.d (.int .i64)))])],bnd tb (.slot 18) 1⟩)] [] [] []
def b8m:Row I:=⟨21,[.d (.sl 9)],[.k (.d (.int .i64))],b2G⟩
theorem b9i:RK (b8m) :=
 okR [eR a6y,eR a4g] 30 c0N [.tmp 2] Go.Proofs.Tryz.func21 (by kernel_rfl)
def a38:Hints I:=mkH [] [] [] [] [(26,⟨524080,[],[],[(8,.k (.d (.int .i64)))],[((.exit 0),[]),(.ret,[(4,.k (.d (.int .i64)))])],bnd tb (.slot 7) 1⟩)] [] [] []
def a3K:Row I:=⟨59,[.d (.sl 51),.fn [.dat 51] [.k (.d (.bool))]],[.k (.d (.int .i64))],a1w⟩
theorem a3Y:RK (a3K) :=
 okR [] 19 a38 [.tmp 4] Go.Proofs.Tryz.func59 (by kernel_rfl)
def a3a:Row I:=⟨36,[.d (.sl 51),.fn [.dat 51] [.k (.d (.bool))]],[.k (.d (.bool))],a08⟩
theorem a3k:RK (a3a) :=
 okR [eR a3Y] 9 Y4 [.tmp 4] Go.Proofs.Tryz.func36 (by kernel_rfl)
def a5d:Hints I:=mkH [] [] [] [] [(26,⟨524080,[],[],[(8,.k (.d (.int .i64)))],[((.exit 0),[]),(.ret,[(4,.k (.d (.int .i64)))])],bnd tb (.slot 7) 1⟩)] [] [] []
def a41:Row I:=⟨63,[.d (.sl 61),.fn [.dat 61] [.k (.d (.bool))]],[.k (.d (.int .i64))],a18⟩
theorem a47:RK (a41) :=
 okR [] 19 a5d [.tmp 4] Go.Proofs.Tryz.func63 (by kernel_rfl)
def b2b:Row I:=⟨64,[.d (.dat 61),.var 9 (.k (.d (.str))) false],[.k (.d (.bool))],a8t⟩
theorem b3H:RK (b2b) :=
 okR [] 8 Y4 [.tmp 3] Go.Proofs.Tryz.func64 (by kernel_rfl)
def b54 (_:Nat):Hints I:=mkH [] [] [] [(2051323,⟨18444492273895882784,[],[],[(.normal,[(5,.k (.row 67 false)),(8,.k (.map 106 (.int .i64)))])]⟩)] [(250,⟨9444732965739273682464,[],[],[(5,.k (.row 67 false)),(8,.k (.map 106 (.int .i64))),(24,.k (.d (.int .i64)))],[((.exit 0),[(5,.k (.row 67 false)),(8,.k (.map 106 (.int .i64)))])],bnd tb (.slot 23) 1⟩)] [] [] []
def b4e (n:Nat):Row I:=⟨39,[.d (.dat 27),.d (.sl 61)],[.k (.d (.dat 27))],a6v n⟩
theorem b5M (n:Nat):RK (b4e n) :=
 okR [eR (a7C n),eR a47,eR b3H] 76 (b54 n) [.cell 4 27] Go.Proofs.Tryz.func39 (by kernel_rfl)
def c1m (n:Nat):Row I:=⟨95,[.d (.dat 27),.d (.dat 27)],[.k (.d (.dat 27)),.k (.d (.int .i64))],b8r n⟩
theorem c2B (n:Nat):RK (c1m n) :=
 okR [eR (a7C n)] 24 Y4 [.cell 4 27,.tmp 5] Go.Proofs.Tryz.func95 (by kernel_rfl)
def b9o (_:Nat):Hints I:=mkH [(2,[[],[],[1],[1,2],[],[4],[1,2,3,4,5],[0],[0,1,2,3,4,5,6,7]])] [] [] [] [] [] [] []
def b74 (n:Nat):Row I:=⟨60,[.d (.dat 27),.d (.dat 27)],[.k (.d (.dat 27)),.k (.d (.dat 100))],b2N n⟩
theorem b9a (n:Nat):RK (b74 n) :=
 okR [eR (c2B n)] 21 (b9o n) [.cell 4 27,.cell 5 100] Go.Proofs.Tryz.func60 (by kernel_rfl)
def c6U:Hints I:=mkH [(1,[[],[0],[0,1],[],[3],[0,1,2,3,4],[0,1,2,3,4,5],[]])] [] [] [] [(26,⟨268419152,[12],[],[(14,.k (.d (.int .i64)))],[((.exit 0),[]),(.ret,[(4,.k (.d (.bool)))])],bnd tb (.slot 13) 1⟩)] [] [] []
def c4C:Row I:=⟨125,[.d (.dat 27),.d (.dat 100)],[.k (.d (.bool))],b5f⟩
theorem b66:RK (c4C) :=
 okR [eR b3u] 28 c6U [.tmp 4] Go.Proofs.Tryz.func125 (by kernel_rfl)
def b3B:Hints I:=mkH [(6,[[],[],[0,1],[0,1,2],[],[],[5],[4,5,6],[4,5,6,7],[0,1,2,3,4,5,6,7,8]]),(11,[[],[],[0,1],[0,1,2],[],[],[5],[4,5,6],[4,5,6,7],[0,1,2,3,4,5,6,7,8]])] [] [] [] [(58,⟨1152921504606846012,[],[],[(0,.k (.row 3 false)),(3,.k (.d (.int .i64)))],[((.exit 0),[(0,.k (.row 3 false))]),(.ret,[(2,.k (.row 3 false))])],bnd tb (.len (.slot 0)) 1⟩)] [(59690,⟨18014397972611112,0,.row 3,[(3,.k (.d (.int .i64))),(5,.k (.d (.int .i64)))],[((.exit 2),[(3,.k (.d (.int .i64)))])],bnd tb (.len (.slot 4)) 1,0⟩)] [] []
def b1g:Row I:=⟨184,[.row 3 false],[.k (.row 3 false)],a7N⟩
theorem b1Y:RK (b1g) :=
 okR [] 61 b3B [.tmp 2] Go.Proofs.Tryz.func184 (by kernel_rfl)
def b4c:Row I:=⟨183,[.d (.sl 3)],[.k (.row 3 true)],a9H⟩
theorem b5o:RK (b4c) :=
 okR [] 9 Y4 [.tmp 2] Go.Proofs.Tryz.func183 (by kernel_rfl)
def c4u:Row I:=⟨164,[.d (.sl 3)],[.k (.row 3 true)],a7M⟩
theorem b50:RK (c4u) :=
 okR [eR b3u,eO d60,eR b1Y,eR b5o] 11 Y4 [.tmp 2] Go.Proofs.Tryz.func164 (by kernel_rfl)
def c6Q:Hints I:=mkH [(1,[[],[0],[0,1],[],[3],[0,1,2,3,4],[],[6],[0,1,2,3,4,5,6,7],[0,1,2,3,4,5,6,7,8]])] [] [] [] [] [] [] []
def c4G:Row I:=⟨146,[.d (.dat 100)],[.k (.d (.dat 100))],a3S⟩
theorem a32:RK (c4G) :=
 okR [eR b50] 12 c6Q [.cell 2 100] Go.Proofs.Tryz.func146 (by kernel_rfl)
def d0x:Row I:=⟨127,[.d (.dat 100)],[.k (.d (.str))],b2i⟩
def b1I (c:UInt8)(xs:List Int)(q:Nat×List UInt8):Option (Fl (Nat×List UInt8) (List UInt8)):=match xs[q.1]? with
 | some n=>(b2o c q.2 n).map fun b=>.next (q.1+1,b)
 | none=>some (.done q.2)
theorem b7w {c:UInt8}{xs:List Int}:∀ (m i:Nat) {b r:List UInt8},xs.length-i=m->i<=xs.length->b3z c (xs.drop i) b=some r->j7 (b1I c xs) (m+1) (i,b)=some r
 | 0,i,b,r,hm,hi,h=>by
   have e:i=xs.length:=by omega
   subst e
   rw [List.drop_length] at h
   cases h
   simp [j7,b1I]
 | m+1,i,b,r,hm,hi,h=>by
   have hlt:i<xs.length:=by omega
   rw [d8S hlt] at h
   obtain ⟨b',h1,h2⟩:=bind_some h
   have:=b7w m (i+1) (by omega) (by omega) h2
   simp only [j7,b1I,d8n hlt,h1,d85]
   exact this
theorem d56 {P:Program}{w:World}{T:TypeId}{x y:Operand}{s t:ByteArray}(h:s.size+t.size<=1000000) :
 Z7 P w (do eqGuard .add T x y (.string s) (.string t); binOp .add T (.string s) (.string t)) (.string (s++t)):=by
 simp [Z7,eqGuard_at_string,binOp,Op.stringOp]
 omega
theorem d7J:a1F d8m 147:=⟨_,_,Go.Proofs.Tryz.func147,rfl,by kernel_rfl⟩
theorem d4O:a1F d8m 148:=⟨_,_,Go.Proofs.Tryz.func148,rfl,by kernel_rfl⟩
theorem d4P:a1F d8m 149:=⟨_,_,Go.Proofs.Tryz.func149,rfl,by kernel_rfl⟩
theorem d7P:a1F d8m 150:=⟨_,_,Go.Proofs.Tryz.func150,rfl,by kernel_rfl⟩
theorem d0i {n:Nat}(h:n<100)(w:World):Calls d8m 149 [Value.int .i64 (n:Int)].toArray w fun e w'=>e=.returned (.string ⟨(a3o n).toArray⟩)/\w'=w:=by
 have:=Go.Proofs.Any.strconv_Itoa_small Go.Proofs.Tryz.lay149 n h w
 rw [<- d1L h] at this
 exact this
def c03 (σ:S):Nat->Nat×Nat:=fun b=>if b<σ.N then σ.L b else (0,0)
theorem b9D {σ:S}{w:World}(h:Bw σ.N σ.w w):Wext σ ⟨w,c03 σ⟩ :=
 ⟨h.below.size,fun b hb=>by simp [c03,hb],fun b o v ho hc=>(a1n (h.below.block b (a3Z hc)) o).trans hc,h.drawn,fun b o hb hf=>(a2l (h.below.block b hb) o).trans hf⟩
theorem c6b (l m:List UInt8):Lib.byteCells (l++m)=Lib.byteCells l++Lib.byteCells m:=by simp [Lib.byteCells]
theorem c13 (l:List UInt8):Lib.strCells ⟨l.toArray⟩=Lib.byteCells l:=by simp [Lib.strCells,Lib.byteCells]
theorem b7O (n:Nat):(a3o n).length<=2:=by
 unfold a3o
 cases d8V n 10<;>simp
theorem d4N {P:Program}{w:World}{T:TypeId}{x y:Operand}{c:UInt8}{l:List UInt8}(h:l.length<=2) :
 Z7 P w (do eqGuard .add T x y (.string ⟨#[c]⟩) (.string ⟨l.toArray⟩); binOp .add T (.string ⟨#[c]⟩) (.string ⟨l.toArray⟩)) (.string ⟨(c::l).toArray⟩):=by
 have:=d56 (P:=P) (w:=w) (T:=T) (x:=x) (y:=y) (s:=⟨#[c]⟩) (t:=⟨l.toArray⟩) (by simp [ByteArray.size]; omega)
 have e:(⟨#[c]⟩++⟨l.toArray⟩:ByteArray)=⟨(c::l).toArray⟩:=by
  apply ByteArray.ext
  simp
 rw [e] at this
 exact this
theorem c9B {c:UInt8}{b r:List UInt8}{n:Int}(h:b2o c b n=some r):r.length<=1000003/\b.length<=r.length:=by
 unfold b2o at h
 obtain ⟨hc,h⟩:=j8 h
 cases h
 simp only [d8p] at hc
 have:=d8N hc.2
 have:=b7O n.toNat
 simp
 omega
theorem b3C {c:UInt8}:∀ {xs:List Int} {b r:List UInt8},b3z c xs b=some r->b.length<=1000003->r.length<=1000003
 | [],b,r,h,hb=>by cases h; exact hb
 | n::xs,b,r,h,hb=>by
   obtain ⟨b',h1,h2⟩:=bind_some h
   exact b3C h2 (c9B h1).1
theorem c8g (w:World)(a:Addr)(n:Nat):(w.freeze a n).drawn=w.drawn:=by unfold World.freeze; split<;>rfl
theorem d8a {b B:Nat}{l:List UInt8}{w:World}(h:Lib.IsBuilder 200 5 B b (Lib.byteCells l) w)(hn:l=[]->w.heap[b]?=some (.cells #[.pointer none,.slice none 0 0] 200 (0,0)))(hl:l.length<=1000003) :
 Calls d8m 150 [K0 b].toArray w fun e w'=>e=.returned (.string ⟨l.toArray⟩)/\Bw B w w':=by
 have hdrew:Bw B w w.drew:=⟨(Below.refl B w).drew,Nat.le_succ _⟩
 by_cases h0:l=[]
 ·subst h0
  exact (Go.Proofs.Tryz.bstr0 (hn rfl)).mono fun e w' ⟨h1,h2⟩=>⟨h1,by subst h2; exact hdrew⟩
 ·obtain ⟨p,_,hB,v,hb,hown,hne⟩:=d1l h
  rw [Lib.byteCells_length] at hown
  rcases hown.2 with ⟨_,hz⟩ | ⟨g,cap,cur,rfl,hbg,hg,hnc,hcm,hcs,htake⟩
  ·exact absurd (List.length_eq_zero_iff.1 hz) h0
  ·refine (Go.Proofs.Tryz.bstr1 (l:=l) hb hg h0 hnc (by simpa using hcs) (by omega) fun j x hx=>?_).mono fun e w' ⟨h1,h2⟩=>⟨h1,?_⟩
   ·have h3:(Lib.byteCells l)[j]?=some (.int .u8 x.toNat):=by simp [Lib.byteCells,hx]
    rw [<- htake,List.getElem?_take] at h3
    split at h3
    ·rw [<- d8F]; exact h3
    ·cases h3
   ·subst h2
    exact hdrew.trans ⟨Lib.below_freeze (Below.refl B w.drew) (p:=⟨g,0,none⟩) hbg _,Nat.le_of_eq (c8g _ _ _).symm⟩
theorem c9m {i:Nat}(h:i<9223372036854775807):wr .i64 ((i:Int)+1)=((i+1:Nat):Int):=by
 show IntKind.i64.wrap ((i:Int)+1)=_
 rw [IntKind.wrap_i64]
 omega
theorem c9u:Z3 d8m d0x:=by
 refine c7O a5I 38 Go.Proofs.Tryz.func127 rfl (by kernel_rfl) rfl rfl rfl fun X c σ F Q a res hX hrel happ hk=>?_
 have happ:b2i a.1=some res:=happ
 obtain ⟨g,hg,happ⟩:=bind_some happ
 obtain ⟨b1,hb1,happ⟩:=bind_some happ
 obtain ⟨b2,hb2,happ⟩:=bind_some happ
 have h0:=hrel.frame 0 (.dat 100 a.1) rfl
 simp only [RV] at h0
 obtain ⟨cs,hF0,hcs⟩:=h0
 refine wp_seq (wp_region_lit ?_)
 refine d4F (B:=σ.N) 0 (d8r _) (.agg cs.toArray) cs hF0 rfl rfl fun τ1 bx hx1 hblk=>?_
 refine a19 (.string ⟨#[]⟩) rfl rfl ?_
 refine wpList_nil (K8 (wp_seq (wp_region_lit ?_)))
 have hcs1:Rp.cells τ1 a.1 cs:=Rp.mono hx1.wext hcs
 have hl3:cs.length=3:=Rp.len (self:=rI 100) hcs
 have t100:c0S d8m 100 3:=⟨_,Go.Proofs.Tryz.underlying100,rfl,by kernel_rfl⟩
 refine a2X bx 0 (.agg cs.toArray) rfl rfl (c6p (hl3▸t100) (fun j v hv=>by rw [d8Q,hblk.cell]; exact hv)) ?_
 have hcall:=a32 τ1 (a.1,()) [.agg cs.toArray] [] g ⟨_,_,[],[],rfl,rfl,⟨⟨cs,rfl,hcs1⟩,rfl⟩,rfl,rfl⟩ List.nodup_nil hg
 refine a8z (o := ⟨some 9, .call ⟨.value (.func 146), #[.tmp 8], #[100]⟩, 100, "core.go:142", #[⟨0, .data⟩], none⟩) rfl hcall (c2S (xs := [.tmp 8]) rfl τ1.w) fun v9 τ2 st2 hpost => ?_
 obtain ⟨ws,us,pls',hpost⟩:=hpost
 obtain ⟨v,hws,⟨cs',hv,hcs2⟩,-⟩:=hpost.tt
 have hlen:=hpost.len
 have hret:=hpost.ret
 obtain ⟨rfl,rfl⟩:ws=[v]/\us=[]:=by
  rcases ws with _ | ⟨u,ws⟩
  ·cases hlen
  ·rcases ws with _ | ⟨u',ws⟩
   ·simp at hws; exact ⟨by rw [hws.1],hws.2⟩
   ·cases hlen
 have hret:v9=v:=hret
 subst hret
 subst hv
 have hl3':cs'.length=3:=Rp.len (self:=rI 100) hcs2
 have hne1:¬ bx∈ows ([]:List Pl):=fun h=>by cases h
 obtain ⟨k1,k2⟩:=st2.block bx hblk.lt hne1
 have hbl:(τ1.L bx)=(0,0):=hblk.2.2
 have hblk2:Blk σ.N 0 ⟨τ2.w,fun k=>if k=bx then (0,0) else τ2.L k⟩ bx 100 cs:=⟨hblk.1,k1.trans hblk.2.1,by simp⟩
 have hw2:Wext τ2 ⟨τ2.w,fun k=>if k=bx then (0,0) else τ2.L k⟩:=⟨d8r _,fun k _=>by
  by_cases e:k=bx
  ·subst e; rw [k2,hbl]; exact d8w _
  ·simp [e],fun _ _ _ _ h=>h,d8r _,fun _ _ _ h=>h⟩
 have hall:cs'.all (·.oneCell')=true:=d8q.2 fun u hu=>Rp.one (self:=rI 100) hcs2 u hu
 refine c1d (σ:=⟨τ2.w,fun k=>if k=bx then (0,0) else τ2.L k⟩) hblk2 0 (.agg cs'.toArray) cs' cs' rfl rfl rfl rfl rfl (by rw [hl3']; kernel_rfl) hall (by rw [hl3',hl3]; rfl) (by rw [List.take_zero,d8Q,hl3',<- hl3,List.drop_length]; simp) fun τ3 hm3 hblk3=>?_
 have hcs3:=Rp.mono (self:=rI 100) (hw2.trans hm3.wext) hcs2
 refine wpList_nil (K8 (wp_seq (wp_region_lit ?_)))
 refine c9Y (B:=τ3.N) 0 (d8r _) (.agg #[.pointer none,.slice none 0 0]) [.pointer none,.slice none 0 0] (Y0 (T:=200) (size:=2) (bytes:=32) (by kernel_rfl)) rfl fun τ4 b hx4 hb4=>?_
 have h4:Bw τ3.N τ3.w τ4.w:=⟨hx4.below,hx4.drawn⟩
 have hbuild:Lib.IsBuilder 200 5 τ3.N b [] τ4.w:=.inl ⟨hb4.1,.slice none 0 0,hb4.2.1,World.ownsRow_nil _ _ _ _,by simp [Value.ownBlock]⟩
 obtain ⟨cc1,cr1,e1,⟨A1,k1c,ec1,hs1⟩,cc2,cr2,e2,⟨A2,k2c,ec2,hs2⟩,hc3⟩:=hcs3
 have hcs':cs'=[.slice A1 g.Pos.length k1c,.slice A2 g.Neg.length k2c,.bool g.Lists]:=by
  have hc3:cr2=[.bool g.Lists]:=hc3
  rw [e1,e2,ec1,ec2,hc3]; rfl
 have hbxw:∀ w,Bw τ3.N τ3.w w->∀ i,w.cell? ⟨bx,i,none⟩=cs'[i]?:=fun w h i=>by rw [a1n (h.below.block bx hblk3.lt)]; exact hblk3.cell i
 have t22:X8 d8m 36:=⟨_,Go.Proofs.Tryz.underlying36,rfl,by kernel_rfl⟩
 have t3:X8 d8m 3:=⟨_,Go.Proofs.Tryz.underlying3,rfl,by kernel_rfl⟩
 have t4:X8 d8m 4:=⟨_,Go.Proofs.Tryz.underlying4,rfl,by kernel_rfl⟩
 refine wpList_nil (K8 (c2A (fun a w=>∃ F',a=fr 38 F'/\F' 1=.pointer (some ⟨bx,0,none⟩)/\F' 3=K0 b/\Bw τ3.N τ3.w w/\Lib.IsBuilder 200 5 τ3.N b (Lib.byteCells (bif g.Lists then [108] else []:List UInt8)) w/\((bif g.Lists then [108] else []:List UInt8)=[]->w.heap[b]?=some (.cells #[.pointer none,.slice none 0 0] 200 (0,0)))) ?_ ?_))
 ·refine wp_seq (wp_region_lit ?_)
  refine a0m bx 0 2 2 rfl rfl (⟨_,_,Go.Proofs.Tryz.underlying100,rfl,rfl,by kernel_rfl⟩) rfl ?_
  refine a2X bx 2 (.bool g.Lists) rfl rfl (a2u t4 ((hbxw τ4.w h4 2).trans (by rw [hcs']; rfl))) ?_
  refine wpList_nil (K8 ?_)
  rcases hL:g.Lists with _ | _
  ·refine a9K (c:=false) (by rw [<- hL]; rfl) rfl rfl (wp_skip ?_)
   exact ⟨rfl,_,rfl,rfl,rfl,h4,hbuild,fun _=>hb4.2.1⟩
  ·refine b6r (c:=true) (by rw [<- hL]; rfl) rfl rfl (wp_region_lit ?_)
   refine a8u [K0 b,.int .u8 108] rfl rfl d7J (bwb hbuild (by decide) h4.below.size) ?_
   rintro e w5 ⟨⟨v,rfl⟩,hat,hbw5⟩
   exact ⟨_,rfl,wpList_nil ⟨rfl,_,rfl,rfl,rfl,h4.trans hbw5,.inr hat,fun h=>by simp at h⟩⟩
 rintro a0 w0 h0
 refine c2A (fun a w=>∃ F',a=fr 38 F'/\F' 1=.pointer (some ⟨bx,0,none⟩)/\F' 3=K0 b/\Bw τ3.N τ3.w w/\Lib.IsBuilder 200 5 τ3.N b (Lib.byteCells b1) w/\(b1=[]->w.heap[b]?=some (.cells #[.pointer none,.slice none 0 0] 200 (0,0)))) ?_ ?_
 ·revert a0 w0 h0
  rintro a1 w1 ⟨F1,rfl,f1,f3,hbw1,hbd1,hn1⟩
  refine wp_seq (wp_region_lit ?_)
  refine a0m bx 0 0 0 f1 rfl (⟨_,_,Go.Proofs.Tryz.underlying100,rfl,rfl,by kernel_rfl⟩) rfl ?_
  refine a2X bx 0 (.slice A1 g.Pos.length k1c) rfl rfl (a2u t22 ((hbxw w1 hbw1 0).trans (by rw [hcs']; rfl))) ?_
  refine b0q A1 g.Pos.length k1c rfl rfl Go.Proofs.Tryz.underlying36 ?_
  refine a0p (.int .i64 0) rfl rfl ?_
  refine wpList_nil (K8 (wp_block ?_))
  refine wp_mono (b2m (step:=b1I 43 g.Pos) (fun q a w=>∃ F',a=fr 38 F'/\F' 1=.pointer (some ⟨bx,0,none⟩)/\F' 3=K0 b/\F' 14=.slice A1 g.Pos.length k1c/\F' 15=.int .i64 (g.Pos.length:Int)/\F' 16=.int .i64 (q.1:Int)/\Bw τ3.N τ3.w w/\Lib.IsBuilder 200 5 τ3.N b (Lib.byteCells q.2) w/\(q.2=[]->w.heap[b]?=some (.cells #[.pointer none,.slice none 0 0] 200 (0,0)))/\q.1<=g.Pos.length) (fun r e a w=>e=.exit 0/\∃ F',a=fr 38 F'/\F' 1=.pointer (some ⟨bx,0,none⟩)/\F' 3=K0 b/\Bw τ3.N τ3.w w/\Lib.IsBuilder 200 5 τ3.N b (Lib.byteCells r) w/\(r=[]->w.heap[b]?=some (.cells #[.pointer none,.slice none 0 0] 200 (0,0)))) (by rintro _ _ _ ⟨h,_⟩; cases h) ?_ _ (0,(bif g.Lists then [108] else [])) b1 _ _ (b7w (g.Pos.length-0) 0 rfl (d8w _) hb1) ⟨_,rfl,f1,f3,rfl,rfl,rfl,hbw1,hbd1,fun h=>hn1 h,d8w _⟩) ?_
  ·rintro ⟨i,bs⟩ fl a2 w2 hst ⟨F2,rfl,g1,g3,g14,g15,g16,hbw2,hbd2,hn2,hi⟩
   refine wp_seq (wp_region_lit ?_)
   refine a7t (.int .i64 (i:Int)) (.int .i64 (g.Pos.length:Int)) (.bool (decide ((i:Int)<(g.Pos.length:Int)))) g16 g15 rfl rfl c7k ?_
   refine wpList_nil (K8 (wp_seq ?_))
   rcases hx:(g.Pos)[i]? with _ | n
   ·simp only [b1I,hx] at hst
    cases hst
    have hge:(g.Pos).length<=i:=d9H.1 hx
    refine a9K rfl (decide_eq_false (by omega)) rfl (wp_exit ?_)
    exact c49 ⟨rfl,_,rfl,g1,g3,hbw2,hbd2,hn2⟩
   ·simp only [b1I,hx,d9f] at hst
    obtain ⟨bs',hit,rfl⟩:=hst
    have hlt:i<(g.Pos).length:=(d8o.1 hx).1
    unfold b2o at hit
    obtain ⟨hcond,hit⟩:=j8 hit
    cases hit
    simp only [d8p,decide_eq_true_eq] at hcond
    obtain ⟨⟨n0,n1⟩,nl⟩:=hcond
    have nl:bs.length<=1000000:=d8N nl
    refine b6r rfl (decide_eq_true (by omega)) rfl (wp_skip (K8 (wp_seq (wp_block (wp_seq (wp_region_lit ?_))))))
    refine b4O (σ:=⟨w2,c03 τ3⟩) (hs1.mono (b9D hbw2)) (show idx g.Pos (i:Int)=some n by simp [idx,hx]) g14 g16 rfl rfl Go.Proofs.Tryz.underlying36 (by kernel_rfl) fun bb o ccs hc hse=>?_
    have hc:ccs=[.int .i64 n]:=hc
    subst hc
    refine a2X bb o (.int .i64 n) rfl rfl (a2u t3 (hse.2 0 _ rfl)) ?_
    refine a19 (.int .i64 n) rfl rfl ?_
    refine wpList_nil (K8 (wp_region_lit ?_))
    refine a0p (.int .i64 n) rfl rfl ?_
    have hn:((n.toNat:Nat):Int)=n:=by omega
    refine a8u [.int .i64 n] rfl rfl d4P (by have:=d0i (n:=n.toNat) (by omega) w2; rw [hn] at this; exact this) ?_
    rintro e w3 ⟨rfl,rfl⟩
    refine ⟨_,rfl,?_⟩
    have hdl:(a3o n.toNat).length<=2:=b7O _
    refine a7t (.string ⟨#[43]⟩) (.string ⟨(a3o n.toNat).toArray⟩) (.string ⟨(43::a3o n.toNat).toArray⟩) rfl rfl rfl rfl (d4N hdl) ?_
    have hsz:(⟨(43::a3o n.toNat).toArray⟩:ByteArray).size<=3:=by simp [ByteArray.size]; omega
    refine a8u [K0 b,.string ⟨(43::a3o n.toNat).toArray⟩] (by rw [d8O,d8O,List.map_nil]; exact congrArg (·::_) g3) rfl d4O (bws hbd2 (by show (Lib.byteCells bs).length+_<=_; rw [Lib.byteCells_length]; omega) hbw2.below.size) ?_
    rintro e w4 ⟨⟨v,rfl⟩,hat,hbw4⟩
    refine ⟨_,rfl,?_⟩
    refine wpList_nil (d3c (K8 (wp_region_lit ?_)))
    refine a7t (.int .i64 (i:Int)) (.int .i64 1) (.int .i64 (wr .i64 ((i:Int)+1))) g16 rfl rfl rfl c7b ?_
    refine a0p (.int .i64 (wr .i64 ((i:Int)+1))) rfl rfl ?_
    have hwr:wr .i64 ((i:Int)+1)=((i+1:Nat):Int):=c9m (by have l1:(g.Pos).length<=k1c:=hs1.1; have l2:k1c<=maxLen:=hs1.2.1; unfold maxLen at l2; omega)
    refine wpList_nil ⟨rfl,_,rfl,g1,g3,g14,g15,congrArg _ hwr,hbw2.trans hbw4,.inr ?_,fun h=>by simp at h,hlt⟩
    rw [c13,<- c6b] at hat
    exact hat
  ·rintro r e a2 ⟨rfl,F2,rfl,g1,g3,hbw2,hbd2,hn2⟩
   exact d3r ⟨rfl,F2,rfl,g1,g3,hbw2,hbd2,hn2⟩
 rintro a5 w5 h5
 refine c2A (fun a w=>∃ F',a=fr 38 F'/\F' 1=.pointer (some ⟨bx,0,none⟩)/\F' 3=K0 b/\Bw τ3.N τ3.w w/\Lib.IsBuilder 200 5 τ3.N b (Lib.byteCells b2) w/\(b2=[]->w.heap[b]?=some (.cells #[.pointer none,.slice none 0 0] 200 (0,0)))) ?_ ?_
 ·revert a5 w5 h5
  rintro a1 w1 ⟨F1,rfl,f1,f3,hbw1,hbd1,hn1⟩
  refine wp_seq (wp_region_lit ?_)
  refine a0m bx 0 1 1 f1 rfl (⟨_,_,Go.Proofs.Tryz.underlying100,rfl,rfl,by kernel_rfl⟩) rfl ?_
  refine a2X bx 1 (.slice A2 g.Neg.length k2c) rfl rfl (a2u t22 ((hbxw w1 hbw1 1).trans (by rw [hcs']; rfl))) ?_
  refine b0q A2 g.Neg.length k2c rfl rfl Go.Proofs.Tryz.underlying36 ?_
  refine a0p (.int .i64 0) rfl rfl ?_
  refine wpList_nil (K8 (wp_block ?_))
  refine wp_mono (b2m (step:=b1I 45 g.Neg) (fun q a w=>∃ F',a=fr 38 F'/\F' 1=.pointer (some ⟨bx,0,none⟩)/\F' 3=K0 b/\F' 26=.slice A2 g.Neg.length k2c/\F' 27=.int .i64 (g.Neg.length:Int)/\F' 28=.int .i64 (q.1:Int)/\Bw τ3.N τ3.w w/\Lib.IsBuilder 200 5 τ3.N b (Lib.byteCells q.2) w/\(q.2=[]->w.heap[b]?=some (.cells #[.pointer none,.slice none 0 0] 200 (0,0)))/\q.1<=g.Neg.length) (fun r e a w=>e=.exit 2/\∃ F',a=fr 38 F'/\F' 1=.pointer (some ⟨bx,0,none⟩)/\F' 3=K0 b/\Bw τ3.N τ3.w w/\Lib.IsBuilder 200 5 τ3.N b (Lib.byteCells r) w/\(r=[]->w.heap[b]?=some (.cells #[.pointer none,.slice none 0 0] 200 (0,0)))) (by rintro _ _ _ ⟨h,_⟩; cases h) ?_ _ (0,b1) b2 _ _ (b7w (g.Neg.length-0) 0 rfl (d8w _) hb2) ⟨_,rfl,f1,f3,rfl,rfl,rfl,hbw1,hbd1,fun h=>hn1 h,d8w _⟩) ?_
  ·rintro ⟨i,bs⟩ fl a2 w2 hst ⟨F2,rfl,g1,g3,g14,g15,g16,hbw2,hbd2,hn2,hi⟩
   refine wp_seq (wp_region_lit ?_)
   refine a7t (.int .i64 (i:Int)) (.int .i64 (g.Neg.length:Int)) (.bool (decide ((i:Int)<(g.Neg.length:Int)))) g16 g15 rfl rfl c7k ?_
   refine wpList_nil (K8 (wp_seq ?_))
   rcases hx:(g.Neg)[i]? with _ | n
   ·simp only [b1I,hx] at hst
    cases hst
    have hge:(g.Neg).length<=i:=d9H.1 hx
    refine a9K rfl (decide_eq_false (by omega)) rfl (wp_exit ?_)
    exact c49 ⟨rfl,_,rfl,g1,g3,hbw2,hbd2,hn2⟩
   ·simp only [b1I,hx,d9f] at hst
    obtain ⟨bs',hit,rfl⟩:=hst
    have hlt:i<(g.Neg).length:=(d8o.1 hx).1
    unfold b2o at hit
    obtain ⟨hcond,hit⟩:=j8 hit
    cases hit
    simp only [d8p,decide_eq_true_eq] at hcond
    obtain ⟨⟨n0,n1⟩,nl⟩:=hcond
    have nl:bs.length<=1000000:=d8N nl
    refine b6r rfl (decide_eq_true (by omega)) rfl (wp_skip (K8 (wp_seq (wp_block (wp_seq (wp_region_lit ?_))))))
    refine b4O (σ:=⟨w2,c03 τ3⟩) (hs2.mono (b9D hbw2)) (show idx g.Neg (i:Int)=some n by simp [idx,hx]) g14 g16 rfl rfl Go.Proofs.Tryz.underlying36 (by kernel_rfl) fun bb o ccs hc hse=>?_
    have hc:ccs=[.int .i64 n]:=hc
    subst hc
    refine a2X bb o (.int .i64 n) rfl rfl (a2u t3 (hse.2 0 _ rfl)) ?_
    refine a19 (.int .i64 n) rfl rfl ?_
    refine wpList_nil (K8 (wp_region_lit ?_))
    refine a0p (.int .i64 n) rfl rfl ?_
    have hn:((n.toNat:Nat):Int)=n:=by omega
    refine a8u [.int .i64 n] rfl rfl d4P (by have:=d0i (n:=n.toNat) (by omega) w2; rw [hn] at this; exact this) ?_
    rintro e w3 ⟨rfl,rfl⟩
    refine ⟨_,rfl,?_⟩
    have hdl:(a3o n.toNat).length<=2:=b7O _
    refine a7t (.string ⟨#[45]⟩) (.string ⟨(a3o n.toNat).toArray⟩) (.string ⟨(45::a3o n.toNat).toArray⟩) rfl rfl rfl rfl (d4N hdl) ?_
    have hsz:(⟨(45::a3o n.toNat).toArray⟩:ByteArray).size<=3:=by simp [ByteArray.size]; omega
    refine a8u [K0 b,.string ⟨(45::a3o n.toNat).toArray⟩] (by rw [d8O,d8O,List.map_nil]; exact congrArg (·::_) g3) rfl d4O (bws hbd2 (by show (Lib.byteCells bs).length+_<=_; rw [Lib.byteCells_length]; omega) hbw2.below.size) ?_
    rintro e w4 ⟨⟨v,rfl⟩,hat,hbw4⟩
    refine ⟨_,rfl,?_⟩
    refine wpList_nil (d3c (K8 (wp_region_lit ?_)))
    refine a7t (.int .i64 (i:Int)) (.int .i64 1) (.int .i64 (wr .i64 ((i:Int)+1))) g16 rfl rfl rfl c7b ?_
    refine a0p (.int .i64 (wr .i64 ((i:Int)+1))) rfl rfl ?_
    have hwr:wr .i64 ((i:Int)+1)=((i+1:Nat):Int):=c9m (by have l1:(g.Neg).length<=k2c:=hs2.1; have l2:k2c<=maxLen:=hs2.2.1; unfold maxLen at l2; omega)
    refine wpList_nil ⟨rfl,_,rfl,g1,g3,g14,g15,congrArg _ hwr,hbw2.trans hbw4,.inr ?_,fun h=>by simp at h,hlt⟩
    rw [c13,<- c6b] at hat
    exact hat
  ·rintro r e a2 ⟨rfl,F2,rfl,g1,g3,hbw2,hbd2,hn2⟩
   exact d3r ⟨rfl,F2,rfl,g1,g3,hbw2,hbd2,hn2⟩
 rintro a6 w6 ⟨F6,rfl,f1,f3,hbw6,hbd6,hn6⟩
 refine wp_seq (wp_region_lit ?_)
 refine a8u [K0 b] (congrArg (·::_) f3) rfl d7P (d8a hbd6 hn6 (b3C hb2 (b3C hb1 (by cases g.Lists<;>decide)))) ?_
 rintro e w7 ⟨rfl,hbw7⟩
 refine ⟨_,rfl,?_⟩
 refine a19 (.string ⟨b2.toArray⟩) rfl rfl ?_
 refine wpList_nil (K8 (wp_ret ?_))
 have hb7:Bw τ3.N τ3.w w7:=hbw6.trans hbw7
 have hr:(⟨b2.toArray⟩:ByteArray)=res:=d8Y.inj happ
 have hA:Bw σ.N σ.w τ1.w:=⟨hx1.below,hx1.drawn⟩
 have hB:Bw σ.N τ1.w τ2.w:=⟨⟨st2.os,st2.tape,st2.output,st2.wext.size,fun k hk=>(st2.block k (d9n hk hx1.below.size) (fun h=>by cases h)).1⟩,st2.wext.drawn⟩
 have hC:Bw σ.N τ2.w τ3.w:=⟨⟨hm3.os,hm3.tape,hm3.output,hm3.wext.size,fun k hk=>(hm3.block k (d9n hk (hA.trans hB).below.size) (.inl hk)).1⟩,hm3.wext.drawn⟩
 have hD:Bw σ.N τ3.w w7:=⟨hb7.below.mono ((hA.trans hB).trans hC).below.size,hb7.drawn⟩
 have hE:=((hA.trans hB).trans hC).trans hD
 subst hr
 refine hk .ret ⟨38,fun i=>bif d8u i 2 then some (.str ⟨b2.toArray⟩) else none,fun _=>none,0⟩ c ⟨w7,c03 σ⟩ _ ?_ (Cx.le_refl c) ⟨rfl,(fun i p hp=>?_),(fun l o ho=>by cases ho),(fun _ _ _ _ _ ⟨_,h⟩=>by cases h),(fun _ _ _ ⟨_,h⟩=>by cases h),(fun l _=>hrel.nom l rfl),⟨d8C hrel.base.1 hE.below.size,hrel.base.2⟩,noN.nests fun _ _ _ _ _ _ h=>by cases h⟩
  ⟨b9D hE,hE.below.os,hE.below.tape,hE.below.output,fun k hk _=>⟨hE.below.block k hk,by simp [c03,hk]⟩⟩
 ·rfl
 ·have hp:(bif d8u i 2 then some (PV.str ⟨b2.toArray⟩) else none)=some p:=hp
  obtain ⟨hi,hp⟩:=j8 hp
  cases hp
  have:=d8s hi
  subst this
  simp only [RV]
  rfl
theorem c3I:Z3 d8m d0x:=c9u
def c1J:Hints I:=mkH [(1,[[],[0],[0,1],[],[3],[0,1,2,3,4],[],[6],[0,1,2,3,4,5,6,7],[],[9],[0,1,2,3,4,5,6,7,8,9,10],[0,1,2,3,4,5,6,7,8,9,10,11],[0,1,2,3,4,5,6,7,8,9,10,11,12]])] [] [] [] [] [] [] []
def b8X:Row I:=⟨188,[.d (.dat 252)],[.lvs [.row 3 false,.row 3 false,.row 3 false,.row 3 false]],a9o⟩
theorem b0W:RK (b8X) :=
 okR [eR b3u] 16 c1J [.cell 2 252] Go.Proofs.Tryz.func188 (by kernel_rfl)
def b8T:Hints I:=mkH [] [] [] [(29901,⟨4293918720,[],[(10,.lvs [.row 3 false,.row 3 false,.row 3 false,.row 3 false])],[(.normal,[])]⟩)] [(58,⟨137438946944,[],[],[(7,.k (.row 252 false)),(13,.k (.d (.int .i64)))],[((.exit 0),[(7,.k (.row 252 false))])],bnd tb (.slot 12) 1⟩)] [] [] []
def b6M:Row I:=⟨214,[.d (.dat 252),.d (.sl 3),.d (.bool)],[.k (.row 252 false)],a7G⟩
theorem b7Y:RK (b6M) :=
 okR [eR b0W] 38 b8T [.tmp 6] Go.Proofs.Tryz.func214 (by kernel_rfl)
def b8C:Hints I:=mkH [(14,[[],[0],[],[2],[2,3],[2,3,4],[2,3,4,5],[0,1,2,3,4,5,6],[0,1,2,3,4,5,6,7],[0,1,2,3,4,5,6,7,8]]),(30,[[],[0],[],[2],[2,3],[2,3,4],[2,3,4,5],[0,1,2,3,4,5,6],[0,1,2,3,4,5,6,7],[0,1,2,3,4,5,6,7,8]])] [] [] [(509,⟨170141183455517471574545782616287608848,[],[(2,.lvs [.d (.sl 3),.d (.sl 3),.d (.sl 3),.d (.sl 3)])],[(.normal,[]),(.ret,[(4,.k (.row 252 false))])]⟩),
 (1757,⟨590295810341525782544,[],[(2,.lvs [.d (.sl 3),.d (.sl 3),.d (.sl 3),.d (.sl 3)])],[(.normal,[]),(.ret,[(4,.k (.row 252 false))])]⟩)] [] [] [] []
def b61:Row I:=⟨189,[.val (.lvs [.row 3 false,.row 3 false,.row 3 false,.row 3 false]),.d (.dat 27)],[.k (.row 252 false)],b1w⟩
theorem b7H:RK (b61) :=
 okR [eR b7Y] 129 b8C [.tmp 4] Go.Proofs.Tryz.func189 (by kernel_rfl)
def c1S (n:Nat):Hints I:=mkH [(1,[[],[0],[0,1],[],[3],[0,1,2,3,4],[0,1,2,3,4,5],[0,1,2,3,4,5,6],[0,1,2,3,4,5,6,7]])] [] [] [] [(124,⟨295147905179351779232,[],[],[(5,.k (.row 252 false)),(6,.k (.map 254 (.bool))),(7,.k (.row 100 false))],[((.exit 0),[(6,.k (.map 254 (.bool))),(7,.k (.row 100 false))])],fun _=>some n⟩)] [] [] []
def b8W (n:Nat):Row I:=⟨169,[.d (.dat 27),.d (.dat 100)],[.k (.row 100 false)],b4E n⟩
theorem c0g (n:Nat):RK (b8W n) :=
 okR [eR b50,eR b0W,eR b7H,eR a32,eR c3I] 69 (c1S n) [.tmp 4] Go.Proofs.Tryz.func169 (by kernel_rfl)
def a8K:Hints I:=mkH [(6,[[],[],[0,1],[0,1,2],[],[],[5],[4,5,6],[4,5,6,7],[0,1,2,3,4,5,6,7,8]]),(11,[[],[],[0,1],[0,1,2],[],[],[5],[4,5,6],[4,5,6,7],[0,1,2,3,4,5,6,7,8]])] [] [] [] [(58,⟨1152921504606846012,[],[],[(0,.k (.row 9 false)),(3,.k (.d (.int .i64)))],[((.exit 0),[(0,.k (.row 9 false))]),(.ret,[(2,.k (.row 9 false))])],bnd tb (.len (.slot 0)) 1⟩)] [(59690,⟨18014397972611112,0,.row 9,[(3,.k (.d (.int .i64))),(5,.k (.d (.int .i64)))],[((.exit 2),[(3,.k (.d (.int .i64)))])],bnd tb (.len (.slot 4)) 1,0⟩)] [] []
def a8d:Row I:=⟨192,[.row 9 false],[.k (.row 9 false)],a2H⟩
theorem a4u:RK (a8d) :=
 okR [] 61 a8K [.tmp 2] Go.Proofs.Tryz.func192 (by kernel_rfl)
def a9x:Row I:=⟨191,[.d (.sl 9)],[.k (.row 9 true)],a3P⟩
theorem a5v:RK (a9x) :=
 okR [] 9 Y4 [.tmp 2] Go.Proofs.Tryz.func191 (by kernel_rfl)
def c8t:Hints I:=mkH [] [] [] [] [(58,⟨2147482784,[],[],[(5,.k (.row 9 false)),(10,.k (.d (.int .i64)))],[((.exit 0),[(5,.k (.row 9 false))])],bnd tb (.slot 9) 1⟩)] [] [] []
def c5p:Row I:=⟨170,[.d (.dat 27),.d (.sl 3)],[.k (.row 9 true)],b7q⟩
theorem c6S:RK (c5p) :=
 okR [eO d1Q,eR a4u,eR a5v] 36 c8t [.tmp 4] Go.Proofs.Tryz.func170 (by kernel_rfl)
def b05:Hints I:=mkH [] [] [] [] [(26,⟨524080,[],[],[(8,.k (.d (.int .i64)))],[((.exit 0),[]),(.ret,[(4,.k (.d (.int .i64)))])],bnd tb (.slot 7) 1⟩)] [] [] []
def b0g:Row I:=⟨216,[.d (.sl 3),.fn [.int .i64] [.k (.d (.bool))]],[.k (.d (.int .i64))],a6P⟩
theorem b0C:RK (b0g) :=
 okR [] 19 b05 [.tmp 4] Go.Proofs.Tryz.func216 (by kernel_rfl)
def a8H:Row I:=⟨193,[.d (.sl 3),.fn [.int .i64] [.k (.d (.bool))]],[.k (.d (.bool))],a0F⟩
theorem a00:RK (a8H) :=
 okR [eR b0C] 9 Y4 [.tmp 4] Go.Proofs.Tryz.func193 (by kernel_rfl)
def b5e:Hints I:=mkH [] [] [] [] [(26,⟨524080,[],[],[(8,.k (.d (.int .i64)))],[((.exit 0),[]),(.ret,[(4,.k (.d (.int .i64)))])],bnd tb (.slot 7) 1⟩)] [] [] []
def b3o:Row I:=⟨217,[.d (.sl 3),.d (.int .i64)],[.k (.d (.int .i64))],a9v⟩
theorem b4g:RK (b3o) :=
 okR [] 19 b5e [.tmp 4] Go.Proofs.Tryz.func217 (by kernel_rfl)
def b0P:Row I:=⟨195,[.d (.sl 3),.d (.int .i64)],[.k (.d (.bool))],a2C⟩
theorem a6h:RK (b0P) :=
 okR [eR b4g] 9 Y4 [.tmp 4] Go.Proofs.Tryz.func195 (by kernel_rfl)
def b8O:Row I:=⟨194,[.d (.int .i64),.var 36 (.k (.d (.sl 3))) false],[.k (.d (.bool))],b4A⟩
theorem b9Z:RK (b8O) :=
 okR [eR a6h] 7 Y4 [.tmp 3] Go.Proofs.Tryz.func194 (by kernel_rfl)
def c1P:Row I:=⟨171,[.d (.sl 3),.d (.sl 3)],[.k (.d (.bool))],a8a⟩
theorem a8h:RK (c1P) :=
 okR [eR a00,eR b9Z] 8 Y4 [.tmp 4] Go.Proofs.Tryz.func171 (by kernel_rfl)
def a8f:Hints I:=mkH [] [] [] [] [(26,⟨524080,[],[],[(8,.k (.d (.int .i64)))],[((.exit 0),[]),(.ret,[(4,.k (.d (.int .i64)))])],bnd tb (.slot 7) 1⟩)] [] [] []
def a7A:Row I:=⟨218,[.d (.sl 9),.fn [.str] [.k (.d (.bool))]],[.k (.d (.int .i64))],a4I⟩
theorem a7I:RK (a7A) :=
 okR [] 19 a8f [.tmp 4] Go.Proofs.Tryz.func218 (by kernel_rfl)
def a6M:Row I:=⟨196,[.d (.sl 9),.fn [.str] [.k (.d (.bool))]],[.k (.d (.bool))],a3R⟩
theorem a65:RK (a6M) :=
 okR [eR a7I] 9 Y4 [.tmp 4] Go.Proofs.Tryz.func196 (by kernel_rfl)
def b5z:Row I:=⟨197,[.d (.str),.var 22 (.k (.d (.sl 9))) false],[.k (.d (.bool))],b01⟩
theorem b6m:RK (b5z) :=
 okR [eR a4g] 7 Y4 [.tmp 3] Go.Proofs.Tryz.func197 (by kernel_rfl)
def b7C:Row I:=⟨172,[.d (.sl 9),.d (.sl 9)],[.k (.d (.bool))],b2y⟩
theorem b8P:RK (b7C) :=
 okR [eR a65,eR b6m] 8 Y4 [.tmp 4] Go.Proofs.Tryz.func172 (by kernel_rfl)
def c8E:Hints I:=mkH [] [] [] [] [(58,⟨4192262,[],[],[(1,.k (.row 237 false)),(2,.k (.d (.int .i64)))],[((.exit 0),[(1,.k (.row 237 false))])],bnd tb (.cst 4) 2⟩)] [] [] []
def c5P:Row I:=⟨173,[],[.k (.row 237 false)],c3Y⟩
theorem c6F:RK (c5P) :=
 okR [] 23 c8E [.tmp 0] Go.Proofs.Tryz.func173 (by kernel_rfl)
def c3e:Hints I:=mkH [] [] [] [(429,⟨20480,[],[],[(.normal,[(12,.k (.d (.bool)))])]⟩),
 (1725,⟨1310720,[],[],[(.normal,[(18,.k (.d (.bool)))])]⟩)] [] [] [] []
def b9M:Row I:=⟨220,[.d (.dat 237),.d (.dat 67)],[.k (.d (.bool))],b0k⟩
theorem b1v:RK (b9M) :=
 okR [] 81 c3e [.tmp 4] Go.Proofs.Tryz.func220 (by kernel_rfl)
def b9r:Hints I:=mkH [(1,[[],[0],[],[0,1,2],[0,1,2,3],[0,1,2,3,4],[0,1,2,3,4,5],[0,1,2,3,4,5,6],[0,1,2,3,4,5,6,7],[0,1,2,3,4,5,6,7],[0,1,2,3,4,5,6,7,9],[0,1,2,3,4,5,6,7],[0,1,2,3,4,5,6,7,9,10,11],[0,1,2,3,4,5,6,7,9,10,11,12],[0,1,2,3,4,5,6,7,8,9,10,11,12,13],[0,1,2,3,4,5,6,7,8,9,10,11,12,13,14],[0,1,2,3,4,5,6,7,8,9,10,11,12,13,14,15],[0,1,2,3,4,5,6,7,8,9,10,11,12,13,14,15,16]])] [] [] [] [] [] [] []
def b8b:Row I:=⟨219,[.d (.int .i64),.var 27 (.k (.d (.dat 27))) false,.var 237 (.k (.d (.dat 237))) false],[.k (.d (.bool))],b3v⟩
theorem b8R:RK (b8b) :=
 okR [eR b1v] 22 b9r [.tmp 4] Go.Proofs.Tryz.func219 (by kernel_rfl)
def c0E:Row I:=⟨198,[.d (.dat 237),.d (.dat 27),.d (.dat 100)],[.k (.d (.bool))],b58⟩
theorem c1k:RK (c0E) :=
 okR [eR a00,eR b8R] 24 Y4 [.tmp 6] Go.Proofs.Tryz.func198 (by kernel_rfl)
def c1n:Row I:=⟨221,[],[.k (.row 56 false)],b8A⟩
theorem c2y:RK (c1n) :=
 okR [] 3 Y4 [.tmp 0] Go.Proofs.Tryz.func221 (by kernel_rfl)
def b7A:Hints I:=mkH [] [] [] [] [(58,⟨1099511620256,[11],[],[(5,.k (.row 56 false)),(13,.k (.d (.int .i64)))],[((.exit 0),[(5,.k (.row 56 false))])],bnd tb (.slot 12) 1⟩),
 (14950,⟨549754765856,[18],[],[(5,.k (.row 56 false)),(20,.k (.d (.int .i64)))],[((.exit 2),[(5,.k (.row 56 false))])],bnd tb (.slot 19) 1⟩)] [] [] []
noncomputable def b44:Row I:=⟨222,[.d (.sl 56),.d (.sl 56)],[.k (.row 56 false)],a61⟩
theorem b59:RK (b44) :=
 okR [eR a5h] 42 b7A [.tmp 4] Go.Proofs.Tryz.func222 (by kernel_rfl)
def b6Y:Hints I:=mkH [] [] [] [(31333,⟨66846728,[],[],[(.normal,[(3,.k (.row 56 false))])]⟩)] [(122,⟨17179868252,[8],[],[(3,.k (.row 56 false)),(4,.k (.d (.int .i64))),(10,.k (.d (.int .i64)))],[((.exit 0),[(3,.k (.row 56 false)),(4,.k (.d (.int .i64)))]),(.ret,[(2,.k (.row 56 false))])],bnd tb (.slot 9) 1⟩)] [] [] []
noncomputable def b3S:Row I:=⟨223,[.d (.sl 56)],[.k (.row 56 false)],a9G⟩
theorem b5q:RK (b3S) :=
 okR [eR a5h] 39 b6Y [.tmp 2] Go.Proofs.Tryz.func223 (by kernel_rfl)
def c9e:Hints I:=mkH [] [] [] [] [(58,⟨137438888352,[],[],[(5,.k (.row 56 false)),(16,.k (.d (.int .i64)))],[((.exit 0),[(5,.k (.row 56 false))])],bnd tb (.slot 15) 1⟩),
 (122,⟨4611684918915763232,[],[],[(5,.k (.row 56 false)),(40,.k (.d (.int .i64)))],[((.exit 2),[(5,.k (.row 56 false))])],bnd tb (.slot 39) 1⟩)] [] [] []
noncomputable def c48:Row I:=⟨199,[.d (.dat 27),.d (.dat 100)],[.k (.row 56 false)],c4d⟩
theorem c6T:RK (c48) :=
 okR [eR c2y,eR b59,eR b5q] 63 c9e [.tmp 4] Go.Proofs.Tryz.func199 (by kernel_rfl)
def b7D:Hints I:=mkH [(3,[[],[0],[],[2],[2,3],[0,1,2,3,4],[0,1,2,3,4,5],[0,1,2,3,4,5,6]])] [] [] [] [] [] [] []
def b5d:Row I:=⟨259,[.d (.dat 214)],[.k (.d (.dat 320))],a24⟩
theorem a5m:RK (b5d) :=
 okR [eR c0D,eO d1Q,eR a4u,eR a5v] 16 b7D [.cell 2 320] Go.Proofs.Tryz.func259 (by kernel_rfl)
def b6i:Row I:=⟨224,[.d (.sl 9)],[.k (.d (.dat 214))],a49⟩
theorem a9e:RK (b6i) :=
 okR [eR a5m] 7 Y4 [.cell 2 214] Go.Proofs.Tryz.func224 (by kernel_rfl)
def b8Y:Row I:=⟨226,[.d (.sl 9)],[.k (.d (.dat 214))],a4D⟩
theorem b0v:RK (b8Y) :=
 okR [eR a5m] 7 Y4 [.cell 2 214] Go.Proofs.Tryz.func226 (by kernel_rfl)
def b5B:Hints I:=mkH [(1,[[],[0],[0,1],[0,1,2],[],[4],[4,5],[0,1,2,3,4,5,6],[0,1,2,3,4,5,6,7]])] [] [] [] [] [] [] []
def b3d:Row I:=⟨260,[.d (.dat 320),.d (.dat 320)],[.k (.row 9 false)],a8P⟩
theorem b4a:RK (b3d) :=
 okR [eR c0D] 13 b5B [.tmp 4] Go.Proofs.Tryz.func260 (by kernel_rfl)
def b8e:Row I:=⟨281,[.d (.str)],[.k (.d (.bool))],a8c⟩
theorem b9g:RK (b8e) :=
 okR [] 6 Y4 [.tmp 2] Go.Proofs.Tryz.func281 (by kernel_rfl)
def b82:Row I:=⟨256,[.d (.str),.d (.str)],[.k (.d (.bool))],b4z⟩
theorem c0z:RK (b82) :=
 okR [eR b9g] 17 Y4 [.tmp 4] Go.Proofs.Tryz.func256 (by kernel_rfl)
def b35:Row I:=⟨296,[.d (.str)],[.k (.d (.bool))],a6x⟩
theorem b5C:RK (b35) :=
 okR [] 6 Y4 [.tmp 2] Go.Proofs.Tryz.func296 (by kernel_rfl)
def a7p (n:Nat):Hints I:=mkH [] [] [] [] [(60,⟨2147476352,[],[],[(7,.k (.d (.int .i64))),(8,.k (.d (.int .i64)))],[((.exit 0),[(7,.k (.d (.int .i64)))])],fun _=>some n⟩)] [] [] []
def a6N (n:Nat):Row I:=⟨282,[.d (.sl 9),.d (.str)],[.k (.d (.int .i64)),.k (.d (.bool))],a3T n⟩
theorem a7i (n:Nat):RK (a6N n) :=
 okR [eR c0z,eR b5C] 54 (a7p n) [.tmp 4,.tmp 5] Go.Proofs.Tryz.func282 (by kernel_rfl)
def b4f (n:Nat):Row I:=⟨262,[.d (.dat 320),.d (.str)],[.k (.d (.bool))],a6C n⟩
theorem a7P (n:Nat):RK (b4f n) :=
 okR [eR (a7i n)] 16 Y4 [.tmp 4] Go.Proofs.Tryz.func262 (by kernel_rfl)
def b37 (_:Nat):Hints I:=mkH [] [] [] [] [(58,⟨33550496,[],[],[(5,.k (.row 9 false)),(12,.k (.d (.int .i64)))],[((.exit 0),[(5,.k (.row 9 false))])],bnd tb (.slot 11) 1⟩)] [] [] []
def b1O (n:Nat):Row I:=⟨261,[.d (.dat 320),.d (.dat 320)],[.k (.row 9 false)],a5a n⟩
theorem b3k (n:Nat):RK (b1O n) :=
 okR [eR (a7P n)] 26 (b37 n) [.tmp 4] Go.Proofs.Tryz.func261 (by kernel_rfl)
def b7t (_:Nat):Hints I:=mkH [(1,[[],[0],[],[0,1,2],[],[],[0,1,2,3,4,5],[0,1,2,3,4,5,6]])] [] [] [] [(250,⟨576320014815068800,[],[],[(7,.k (.row 9 false)),(47,.k (.d (.int .i64)))],[((.exit 1),[(7,.k (.row 9 false))])],bnd tb (.slot 46) 1⟩)] [] [] []
def b5P (n:Nat):Row I:=⟨225,[.d (.dat 214),.d (.dat 214)],[.k (.d (.dat 214))],a63 n⟩
theorem b5Y (n:Nat):RK (b5P n) :=
 okR [eR a5m,eR b4a,eR a9e,eR (b3k n),eR b0v,eR (a7P n)] 61 (b7t n) [.cell 4 214] Go.Proofs.Tryz.func225 (by kernel_rfl)
def c6Z (_:Nat):Hints I:=mkH [(7,[[],[],[1],[1,2],[1,2,3],[0,1,2,3,4],[0,1,2,3,4,5]]),(14,[[],[],[1],[1,2],[1,2,3],[0,1,2,3,4],[0,1,2,3,4,5]])] [] [] [] [(58,⟨274877646336,[],[(7,.k (.d (.dat 214)))],[(18,.k (.d (.int .i64)))],[((.exit 0),[])],bnd tb (.slot 17) 1⟩),
 (122,⟨2305840810190450688,[],[(7,.k (.d (.dat 214)))],[(41,.k (.d (.int .i64)))],[((.exit 2),[])],bnd tb (.slot 40) 1⟩)] [] [] []
def c4x (n:Nat):Row I:=⟨200,[.d (.dat 27),.d (.dat 100),.d (.int .i64)],[.k (.d (.dat 214))],b5x n⟩
theorem c5l (n:Nat):RK (c4x n) :=
 okR [eR a9e,eR b0v,eR (b5Y n)] 62 (c6Z n) [.cell 6 214] Go.Proofs.Tryz.func200 (by kernel_rfl)
def c6R:Hints I:=mkH [(1,[[],[0],[],[0,1,2],[0,1,2,3],[0,1,2,3,4],[],[0,1,2,3,4,5,6],[0,1,2,3,4,5,6,7]])] [] [] [] [] [] [] []
def c4l:Row I:=⟨227,[.d (.int .i64),.var 27 (.k (.d (.dat 27))) false,.var 3 (.k (.d (.int .i64))) false],[.k (.d (.bool))],c12⟩
theorem c5i:RK (c4l) :=
 okR [] 13 c6R [.tmp 4] Go.Proofs.Tryz.func227 (by kernel_rfl)
def c60:Row I:=⟨201,[.d (.dat 27),.d (.sl 3),.d (.int .i64)],[.k (.d (.bool))],a8A⟩
theorem c9t:RK (c60) :=
 okR [eR a00,eR c5i] 10 Y4 [.tmp 6] Go.Proofs.Tryz.func201 (by kernel_rfl)
def c5W:Hints I:=mkH [(5,[[],[0],[],[0,1,2],[0,1,2,3],[0,1,2,3,4],[],[0,1,2,3,4,5,6],[0,1,2,3,4,5,6,7],[0,1,2,3,4,5,6,7,8],[0,1,2,3,4,5,6,7,8],[0,1,2,3,4,5,6,7,8,10],[0,1,2,3,4,5,6,7,8],[0,1,2,3,4,5,6,7,8,10,11,12],[0,1,2,3,4,5,6,7,8,10,11,12,13],[0,1,2,3,4,5,6,7,8,9,10,11,12,13,14],[0,1,2,3,4,5,6,7,8,9,10,11,12,13,14,15]])] [] [] [] [(58,⟨1099511613952,[],[],[(9,.k (.row 3 false)),(14,.k (.d (.int .i64)))],[((.exit 0),[(9,.k (.row 3 false))])],bnd tb (.slot 13) 1⟩)] [] [] []
def c25:Row I:=⟨202,[.d (.dat 237),.d (.dat 27),.d (.sl 3),.d (.int .i64)],[.k (.row 3 false)],b3D⟩
theorem c3z:RK (c25) :=
 okR [eR b1v] 41 c5W [.tmp 8] Go.Proofs.Tryz.func202 (by kernel_rfl)
def c9q (_:Nat):Hints I:=mkH [(8,[[],[],[1],[1,2],[1,2,3],[0],[0,1,2,3,4,5]]),(11,[[],[],[],[2],[1,2,3],[1,2,3,4],[1,2,3,4,5],[1,2,3,4,5,6],[1,2,3,4,5,6,7],[1,2,3,4,5,6,7,8],[1,2,3,4,5,6,7,8,9],[1,2,3,4,5,6,7,8,9,10],[1,2,3,4,5,6,7,8,9,10,11],[1,2,3,4,5,6,7,8,9,10,11,12],[1,2,3,4,5,6,7,8,9,10,11,12,13],[1,2,3,4,5,6,7,8,9,10,11,12,13,14],[1,2,3,4,5,6,7,8,9,10,11,12,13,14,15],[1,2,3,4,5,6,7,8,9,10,11,12,13,14,15,16],[0,1,2,3,4,5,6,7,8,9,10],[0,1,2,3,4,5,6,7,8,9,10,11,12,13,14,15,16,17,18]]),(14,[[],[],[],[2],[1,2,3],[1,2,3,4],[1,2,3,4,5],[1,2,3,4,5,6],[1,2,3,4,5,6,7],[1,2,3,4,5,6,7,8],[1,2,3,4,5,6,7,8,9],[1,2,3,4,5,6,7,8,9,10],[1,2,3,4,5,6,7,8,9,10,11],[1,2,3,4,5,6,7,8,9,10,11,12],[1,2,3,4,5,6,7,8,9,10,11,12,13],[1,2,3,4,5,6,7,8,9,10,11,12,13,14],[1,2,3,4,5,6,7,8,9,10,11,12,13,14,15],[1,2,3,4,5,6,7,8,9,10,11,12,13,14,15,16],[0,1,2,3,4,5,6,7,8,9,10],[0,1,2,3,4,5,6,7,8,9,10,11,12,13,14,15,16,17,18]]),(16,[[],[],[],[2],[1,2,3],[1,2,3,4],[0,1,2,3,4],[0,1,2,3,4,5,6]]),(18,[[],[],[],[2],[1,2,3],[1,2,3,4],[0,1,2,3,4],[0,1,2,3,4,5,6]]),(27,[[],[],[],[2],[],[0,1,2,3,4],[],[],[],[8],[],[0,1,2,3,4,5,6,7,8,9,10],[0,1,2,3,4,5],[0,1,2,3,4,5,6,7,8,9,10,11,12],[0,1,2,3,4,5,6,7,8,9,10,11,12,13],[0,1,2,3,4,5,6,7,8,9,10,11,12,13,14]]),(28,[[],[],[1],[1,2],[1,2,3],[1,2,3],[1,2,3,5],[1,2,3],[1,2,3,4,5,6,7],[1,2,3,4,5,6,7,8],[1,2,3,4,5,6,7,8,9],[0,1,2,3,4,5,6,7,8],[0,1,2,3,4,5,6,7,8,9,10,11]])] [(11,[47,51]),(14,[71,75]),(28,[124])] [] [(125,⟨162259276829213363391577993512576,[],[(6,.lvs [.d (.int .i64),.d (.int .i64),.d (.sl 56),.d (.bool),.d (.sl 9),.d (.sl 3),.d (.sl 3),.d (.sl 9),.d (.sl 9)]),(8,.lvs [.d (.int .i64),.d (.int .i64),.d (.sl 56),.d (.bool),.d (.sl 9),.d (.sl 3),.d (.sl 3),.d (.sl 9),.d (.sl 9)])],[(.normal,[(9,.k (.d (.int .i64))),(10,.k (.d (.int .i64)))]),(.ret,[(7,.k (.d (.bool)))])]⟩)] [] [] [] []
noncomputable def c5o (n:Nat):Row I:=⟨174,[.d (.dat 27),.d (.dat 100),.d (.dat 237)],[.k (.d (.dat 216)),.k (.d (.bool))],c4i n⟩
theorem c64 (n:Nat):RK (c5o n) :=
 okR [eR c1k,eR c6T,eR (c5l n),eR c9t,eR c3z] 132 (c9q n) [.cell 6 216,.tmp 7] Go.Proofs.Tryz.func174 (by kernel_rfl)
def c6O (_:Nat):Hints I:=mkH [(7,[[],[],[1],[0,1,2],[],[],[5],[0,1,2,3,4,5,6],[0,1,2,3,4,5,6,7],[0,1,2,3,4,5,6,7,8]])] [] [] [] [(122,⟨37778931862957027507104,[25],[],[(5,.k (.row 216 false)),(27,.k (.d (.int .i64)))],[((.exit 0),[(5,.k (.row 216 false))])],bnd tb (.slot 26) 1⟩),
 (125342,⟨18889463679678767183904,[49],[],[(5,.k (.row 216 false)),(51,.k (.d (.int .i64)))],[((.exit 2),[(5,.k (.row 216 false))])],bnd tb (.slot 50) 1⟩)] [] [] []
noncomputable def c3B (n:Nat):Row I:=⟨155,[.d (.dat 27),.d (.dat 100)],[.k (.row 216 false)],c19 n⟩
theorem c4Y (n:Nat):RK (c3B n) :=
 okR [eR (a0U n),eR b66,eR (c0g n),eR c6S,eR a8h,eR b8P,eR c6F,eR (c64 n),eR c0D] 76 (c6O n) [.tmp 4] Go.Proofs.Tryz.func155 (by kernel_rfl)
def b6a:Row I:=⟨228,[.d (.int .i64)],[.k (.d (.int .u64))],a3s⟩
theorem b7X:RK (b6a) :=
 okR [] 10 Y4 [.tmp 2] Go.Proofs.Tryz.func228 (by kernel_rfl)
def c3q:Hints I:=mkH [] [] [] [] [(58,⟨562949953419696,[],[],[(4,.k (.d (.int .i64))),(5,.k (.d (.bool))),(11,.k (.d (.int .i64)))],[((.exit 0),[(4,.k (.d (.int .i64))),(5,.k (.d (.bool)))])],bnd tb (.slot 10) 1⟩)] [] [] []
def c0M:Row I:=⟨203,[.d (.sl 56)],[.k (.d (.int .i64)),.k (.d (.bool))],b6P⟩
theorem c1r:RK (c0M) :=
 okR [eR b7X] 51 c3q [.tmp 2,.tmp 3] Go.Proofs.Tryz.func203 (by kernel_rfl)
def c5K:Hints I:=mkH [] [] [] [] [(58,⟨1073739840,[],[],[(5,.k (.row 5 false)),(11,.k (.d (.int .i64)))],[((.exit 0),[(5,.k (.row 5 false))])],bnd tb (.slot 10) 1⟩)] [] [] []
def c2m:Row I:=⟨263,[.d (.int .i64),.d (.int .i64)],[.k (.row 5 false)],a7f⟩
theorem b4L:RK (c2m) :=
 okR [] 31 c5K [.tmp 4] Go.Proofs.Tryz.func263 (by kernel_rfl)
def b9b:Row I:=⟨283,[.d (.int .i64),.d (.int .i64),.d (.int .u8)],[.k (.d (.int .u8)),.k (.d (.bool))],b4H⟩
theorem b9J:RK (b9b) :=
 okR [] 33 Y4 [.tmp 6,.tmp 7] Go.Proofs.Tryz.func283 (by kernel_rfl)
def c78:Hints I:=mkH [] [] [] [] [(58,⟨8796092957136,[],[],[(1,.k (.row 5 false)),(5,.k (.row 5 false)),(6,.k (.d (.int .i64)))],[((.exit 0),[(1,.k (.row 5 false)),(5,.k (.row 5 false))]),(.ret,[(4,.k (.row 5 false))])],bnd tb (.slot 6) 2⟩)] [] [] []
def c52:Row I:=⟨264,[.d (.int .i64),.row 5 false],[.k (.row 5 false)],c3N⟩
theorem c6G:RK (c52) :=
 okR [eR b4L,eR b9J] 48 c78 [.tmp 4] Go.Proofs.Tryz.func264 (by kernel_rfl)
def c3f (n:Nat):Hints I:=mkH [] [] [] [(253,⟨103079215360,[],[],[(.normal,[(8,.k (.row 5 false))])]⟩)] [(122,⟨2146959488,[],[],[(5,.k (.map 254 (.bool))),(19,.k (.d (.int .i64)))],[((.exit 0),[(5,.k (.map 254 (.bool)))])],bnd tb (.slot 18) 1⟩),
 (508,⟨17454747091200,[],[],[(8,.k (.row 5 false))],[((.exit 2),[(8,.k (.row 5 false))])],fun _=>some n⟩)] [] [] []
def c0h (n:Nat):Row I:=⟨229,[.d (.int .i64),.d (.sl 126)],[.k (.d (.dat 126))],a9Y n⟩
theorem b1A (n:Nat):RK (c0h n) :=
 okR [eR b4L,eR c6G] 48 (c3f n) [.cell 4 126] Go.Proofs.Tryz.func229 (by kernel_rfl)
def b7V:Row I:=⟨230,[.d (.str),.d (.str)],[.k (.d (.int .i64))],b3g⟩
theorem b84:RK (b7V) :=
 okR [eR b0K,eR b0S] 17 Y4 [.tmp 4] Go.Proofs.Tryz.func230 (by kernel_rfl)
def c3b (_:Nat):Hints I:=mkH [] [] [] [] [(122,⟨17171480896,[],[],[(6,.k (.row 126 false)),(23,.k (.d (.int .i64)))],[((.exit 0),[(6,.k (.row 126 false))])],bnd tb (.slot 22) 1⟩),
 (1018,⟨73786905926094040064,[44],[],[(10,.k (.d (.str))),(11,.k (.d (.bool))),(46,.k (.d (.int .i64)))],[((.exit 2),[(10,.k (.d (.str))),(11,.k (.d (.bool)))])],bnd tb (.slot 45) 1⟩)] [] [] []
def b9l (n:Nat):Row I:=⟨204,[.d (.dat 214),.d (.int .i64)],[.k (.d (.str)),.k (.d (.bool))],b6A n⟩
theorem c1F (n:Nat):RK (b9l n) :=
 okR [eR (b1A n),eR b1u,eR b84] 68 (c3b n) [.tmp 4,.tmp 5] Go.Proofs.Tryz.func204 (by kernel_rfl)
def c5O:Hints I:=mkH [] [] [] [] [(58,⟨576460752303396608,[],[],[(10,.k (.row 36 false)),(15,.k (.d (.int .i64)))],[((.exit 0),[(10,.k (.row 36 false))]),(.ret,[(8,.k (.row 36 false)),(9,.k (.d (.bool)))])],bnd tb (.slot 14) 1⟩)] [] [] []
def c2v:Row I:=⟨231,[.d (.dat 27),.d (.sl 3),.d (.int .i64),.d (.int .i64)],[.k (.row 36 false),.k (.d (.bool))],a85⟩
theorem c3V:RK (c2v) :=
 okR [] 60 c5O [.tmp 8,.tmp 9] Go.Proofs.Tryz.func231 (by kernel_rfl)
def b04:Hints I:=mkH [] [] [] [] [(26,⟨524080,[],[],[(8,.k (.d (.int .i64)))],[((.exit 0),[]),(.ret,[(4,.k (.d (.int .i64)))])],bnd tb (.slot 7) 1⟩)] [] [] []
def a9z:Row I:=⟨297,[.d (.sl 36),.fn [.sl 3] [.k (.d (.bool))]],[.k (.d (.int .i64))],a6D⟩
theorem a9M:RK (a9z) :=
 okR [] 19 b04 [.tmp 4] Go.Proofs.Tryz.func297 (by kernel_rfl)
def a8k:Row I:=⟨284,[.d (.sl 36),.fn [.sl 3] [.k (.d (.bool))]],[.k (.d (.bool))],a5x⟩
theorem a8E:RK (a8k) :=
 okR [eR a9M] 9 Y4 [.tmp 4] Go.Proofs.Tryz.func284 (by kernel_rfl)
def c0s:Row I:=⟨285,[.d (.sl 3),.var 3 (.k (.d (.int .i64))) false],[.k (.d (.bool))],b7a⟩
theorem c1L:RK (c0s) :=
 okR [] 8 Y4 [.tmp 3] Go.Proofs.Tryz.func285 (by kernel_rfl)
def c3s:Row I:=⟨265,[.d (.int .i64),.d (.sl 36)],[.k (.d (.bool))],a8Z⟩
theorem c3L:RK (c3s) :=
 okR [eR a8E,eR c1L] 9 Y4 [.tmp 4] Go.Proofs.Tryz.func265 (by kernel_rfl)
def c6Y:Hints I:=mkH [(9,[[],[0],[],[],[2,3],[2,3,4],[2,3,4,5],[0,1,2,3,4,5,6],[0,1,2,3,4,5,6,7],[0,1,2,3,4,5,6,7,8]]),(14,[[],[],[0,1],[0,1,2],[],[],[4,5],[4,5,6],[0,1,2,3,4,5,6,7],[0,1,2,3,4,5,6,7,8],[],[0,1,2,3,4,5,6,7,8,9,10]]),(15,[[],[0],[],[],[2,3],[2,3,4],[2,3,4,5],[0,1,2,3,4,5,6],[0,1,2,3,4,5,6,7],[0,1,2,3,4,5,6,7,8]]),(19,[[],[0],[],[2],[2,3],[0,1,2,3,4],[0,1,2,3,4,5],[0,1,2,3,4,5,6]])] [] [] [] [(58,⟨4835703278458516698261504,[],[(10,.lvs [.row 100 false]),(12,.lvs [.row 100 false])],[(20,.k (.d (.int .i64)))],[((.exit 0),[]),(.ret,[(11,.k (.d (.bool))),(1000012,.lvs [.d (.any)])])],bnd tb (.slot 19) 1⟩),
 (59802,⟨549722324992,[],[(14,.lvs [.row 3 false,.row 3 false,.d (.bool)])],[(25,.k (.d (.int .i64)))],[((.exit 2),[])],bnd tb (.slot 24) 1⟩),
 (119610,⟨295147902980329963520,[],[(14,.lvs [.row 3 false,.row 3 false,.d (.bool)])],[(41,.k (.d (.int .i64)))],[((.exit 4),[])],bnd tb (.slot 40) 1⟩)] [] [] []
def c3M:Row I:=⟨266,[.d (.int .i64),.d (.sl 36),.d (.sl 36),.d (.sl 36),.bor 3],[.lvs [.row 100 false],.k (.d (.bool))],b4W⟩
theorem c5A:RK (c3M) :=
 okR [eR a8h,eR a32] 83 c6Y [.cell 10 273,.tmp 11] Go.Proofs.Tryz.func266 (by kernel_rfl)
def c1l:Hints I:=mkH [(5,[[],[],[0,1],[0,1,2],[],[],[4,5],[4,5,6],[4,5,6,7],[0,1,2,3,4,5,6,7,8]])] [] [] [] [] [(26,⟨2147483440,0,.row 3,[(8,.k (.d (.int .i64)))],[((.exit 0),[]),(.ret,[(4,.k (.d (.bool)))])],bnd tb (.slot 7) 1,0⟩)] [] []
def b8Q:Rio I:=⟨267,3,[.d (.sl 36)],[.k (.d (.bool))],a9f⟩
theorem b9y:RO (b8Q) :=
 okO [] 31 c1l [.tmp 4] Go.Proofs.Tryz.func267 (by kernel_rfl)
def tyM (B:Nat):List TE:=[⟨2,Int,rpK .i64⟩,
 ⟨3,Int,rpK .i64⟩,
 ⟨4,Bool,rpBool⟩,
 ⟨5,Int,rpK .u8⟩,
 ⟨9,ByteArray,rpStr⟩,
 ⟨22,List ByteArray,@rpList _ (rpStr)⟩,
 ⟨25,List Api_TypeNode,@rpList _ (a0b)⟩,
 ⟨27,Api_Type,a0j⟩,
 ⟨36,List Int,@rpList _ (rpK .i64)⟩,
 ⟨38,List Val,@rpList _ (rpVal)⟩,
 ⟨39,List Key,@rpList _ (rpKey)⟩,
 ⟨40,List Ent,@rpList _ (rpEnt)⟩,
 ⟨42,Val,rpVal⟩,
 ⟨51,Api_Constraint,a2q⟩,
 ⟨56,Api_Range,a1g⟩,
 ⟨57,List Api_Range,@rpList _ (a1g)⟩,
 ⟨61,Api_Binding,a3W⟩,
 ⟨64,List Api_Field,@rpList _ (a1f)⟩,
 ⟨65,Int×Int,Y2 (rpK .i64) (rpK .i64)⟩,
 ⟨67,Api_TypeNode,a0b⟩,
 ⟨72,Semtypebase_Source,a06⟩,
 ⟨100,Api_Goal,v6⟩,
 ⟨120,Ent,rpEnt⟩,
 ⟨126,Key,rpKey⟩,
 ⟨128,Api_Field,a1f⟩,
 ⟨184,List Api_Goal,@rpList _ (v6)⟩,
 ⟨188,List Api_Form,@rpList _ (a1G)⟩,
 ⟨190,Api_Alternative,a0g⟩,
 ⟨191,List (List Api_EntryForm),@rpList _ (@rpList _ (V5))⟩,
 ⟨193,Solve_Way,a5f⟩,
 ⟨214,Api_Names,a0P⟩,
 ⟨216,Api_Line,a6q⟩,
 ⟨219,List Api_EntryForm,@rpList _ (V5)⟩,
 ⟨224,Api_EntryForm,V5⟩,
 ⟨237,Core_Sort,a5l⟩,
 ⟨252,Core_pair,a5g⟩,
 ⟨273,Api_Box,@c0T Api_Box Api_Goal v6 B a3O⟩,
 ⟨296,Api_Goal×Api_Goal,Y2 (v6) (v6)⟩,
 ⟨297,List Api_SomeKey,@rpList _ (a0y)⟩,
 ⟨299,Api_Shape,a5c⟩,
 ⟨302,Api_SomeKey,a0y⟩,
 ⟨320,Literals_normal,a10⟩,
 ⟨336,Record_place,a3b⟩,
 ⟨338,Api_Form,a1G⟩]
abbrev J (B:Nat)(E:TypeId):Type:=(a82 (tyM B) E).α
instance rJ (B:Nat) (E:TypeId):Rp (J B E):=(a82 (tyM B) E).rp
def a9n (B:Nat):Fd (J B) (J B 27) inferInstance:=(V1 (rg:=a0j) (k7 (Y6 67:Fd (J B) (List Api_TypeNode) (@rpList _ (a0b))) ((K7 .i64:Fd (J B) Int (rpK .i64)))) b4Y c2d (fun _=>rfl) (fun _ _ _=>Iff.rfl):Fd (J B) Api_Type a0j)
def c5y (B:Nat):Fd (J B) (J B 42) inferInstance:=(V1 (rg:=rpVal) (k7 (K7 .i64:Fd (J B) Int (rpK .i64)) (k7 (K7 .i64:Fd (J B) Int (rpK .i64)) (k7 (b0r:Fd (J B) ByteArray (rpStr)) (k7 (Y6 42:Fd (J B) (List Val) (@rpList _ (rpVal))) (k7 (Y6 126:Fd (J B) (List Key) (@rpList _ (rpKey))) (k7 (Y6 120:Fd (J B) (List Ent) (@rpList _ (rpEnt))) ((Y6 9:Fd (J B) (List ByteArray) (@rpList _ (rpStr)))))))))) Val.to Val.of (fun _=>rfl) Val.cells_to:Fd (J B) Val rpVal)
def b9Y (B:Nat):Fd (J B) (J B 51) inferInstance:=(V1 (rg:=a2q) (k7 (a0T 27 (a9n B):Fd (J B) Api_Type (a0j)) ((a0T 27 (a9n B):Fd (J B) Api_Type (a0j)))) a7y b1F (fun _=>rfl) (fun _ _ _=>Iff.rfl):Fd (J B) Api_Constraint a2q)
def c61 (B:Nat):Fd (J B) (J B 56) inferInstance:=(V1 (rg:=a1g) (k7 (K7 .i64:Fd (J B) Int (rpK .i64)) ((K7 .i64:Fd (J B) Int (rpK .i64)))) b3G b9S (fun _=>rfl) (fun _ _ _=>Iff.rfl):Fd (J B) Api_Range a1g)
def c39 (B:Nat):Fd (J B) (J B 61) inferInstance:=(V1 (rg:=a3W) (k7 (b0r:Fd (J B) ByteArray (rpStr)) ((a0T 27 (a9n B):Fd (J B) Api_Type (a0j)))) a9L b6j (fun _=>rfl) (fun _ _ _=>Iff.rfl):Fd (J B) Api_Binding a3W)
def d0w (B:Nat):Fd (J B) (J B 65) inferInstance:=(k7 (K7 .i64:Fd (J B) Int (rpK .i64)) ((K7 .i64:Fd (J B) Int (rpK .i64))):Fd (J B) (Int×Int) (Y2 (rpK .i64) (rpK .i64)))
def c3n (B:Nat):Fd (J B) (J B 67) inferInstance:=(V1 (rg:=a0b) (k7 (K7 .i64:Fd (J B) Int (rpK .i64)) (k7 (K7 .i64:Fd (J B) Int (rpK .i64)) (k7 (K7 .i64:Fd (J B) Int (rpK .i64)) (k7 (b0r:Fd (J B) ByteArray (rpStr)) (k7 (Y6 3:Fd (J B) (List Int) (@rpList _ (rpK .i64))) (k7 (Y6 128:Fd (J B) (List Api_Field) (@rpList _ (a1f))) ((a0T 65 (d0w B):Fd (J B) (Int×Int) (Y2 (rpK .i64) (rpK .i64)))))))))) a9t b4r (fun _=>rfl) (fun _ _ _=>Iff.rfl):Fd (J B) Api_TypeNode a0b)
def b4R (B:Nat):Fd (J B) (J B 72) inferInstance:=(V1 (rg:=a06) (k7 (Y6 3:Fd (J B) (List Int) (@rpList _ (rpK .i64))) ((K7 .i64:Fd (J B) Int (rpK .i64)))) a5n a8v (fun _=>rfl) (fun _ _ _=>Iff.rfl):Fd (J B) Semtypebase_Source a06)
def a6S (B:Nat):Fd (J B) (J B 100) inferInstance:=(V1 (rg:=v6) (k7 (Y6 3:Fd (J B) (List Int) (@rpList _ (rpK .i64))) (k7 (Y6 3:Fd (J B) (List Int) (@rpList _ (rpK .i64))) ((a3q:Fd (J B) Bool (rpBool))))) b4N c11 (fun _=>rfl) (fun _ _ _=>Iff.rfl):Fd (J B) Api_Goal v6)
def d5D (B:Nat):Fd (J B) (J B 120) inferInstance:=(V1 (rg:=rpEnt) (k7 (Y6 42:Fd (J B) (List Val) (@rpList _ (rpVal))) (k7 (a3q:Fd (J B) Bool (rpBool)) ((a0T 42 (c5y B):Fd (J B) Val (rpVal))))) Ent.to Ent.of (fun _=>rfl) Ent.cells_to:Fd (J B) Ent rpEnt)
def d0b (B:Nat):Fd (J B) (J B 126) inferInstance:=(V1 (rg:=rpKey) (k7 (K7 .i64:Fd (J B) Int (rpK .i64)) ((b0r:Fd (J B) ByteArray (rpStr)))) Key.to Key.of (fun _=>rfl) Key.cells_to:Fd (J B) Key rpKey)
def c67 (B:Nat):Fd (J B) (J B 128) inferInstance:=(V1 (rg:=a1f) (k7 (a0T 126 (d0b B):Fd (J B) Key (rpKey)) (k7 (K7 .i64:Fd (J B) Int (rpK .i64)) ((a3q:Fd (J B) Bool (rpBool))))) b2Q b9W (fun _=>rfl) (fun _ _ _=>Iff.rfl):Fd (J B) Api_Field a1f)
def a9E (B:Nat):Fd (J B) (J B 190) inferInstance:=(V1 (rg:=a0g) (k7 (a0T 42 (c5y B):Fd (J B) Val (rpVal)) (k7 (Y6 126:Fd (J B) (List Key) (@rpList _ (rpKey))) (k7 (Y6 338:Fd (J B) (List Api_Form) (@rpList _ (a1G))) ((Y6 100:Fd (J B) (List Api_Goal) (@rpList _ (v6))))))) a7a b0G (fun _=>rfl) (fun _ _ _=>Iff.rfl):Fd (J B) Api_Alternative a0g)
def c6D (B:Nat):Fd (J B) (J B 193) inferInstance:=(V1 (rg:=a5f) (k7 (a0T 190 (a9E B):Fd (J B) Api_Alternative (a0g)) ((Y6 219:Fd (J B) (List (List Api_EntryForm)) (@rpList _ (@rpList _ (V5)))))) b2T b9V (fun _=>rfl) (fun _ _ _=>Iff.rfl):Fd (J B) Solve_Way a5f)
def b06 (B:Nat):Fd (J B) (J B 214) inferInstance:=(V1 (rg:=a0P) (k7 (a3q:Fd (J B) Bool (rpBool)) ((Y6 9:Fd (J B) (List ByteArray) (@rpList _ (rpStr))))) b3y b9H (fun _=>rfl) (fun _ _ _=>Iff.rfl):Fd (J B) Api_Names a0P)
def c8O (B:Nat):Fd (J B) (J B 216) inferInstance:=(V1 (rg:=a6q) (k7 (K7 .i64:Fd (J B) Int (rpK .i64)) (k7 (K7 .i64:Fd (J B) Int (rpK .i64)) (k7 (Y6 56:Fd (J B) (List Api_Range) (@rpList _ (a1g))) (k7 (a0T 214 (b06 B):Fd (J B) Api_Names (a0P)) (k7 (Y6 3:Fd (J B) (List Int) (@rpList _ (rpK .i64))) (k7 (Y6 3:Fd (J B) (List Int) (@rpList _ (rpK .i64))) (k7 (Y6 9:Fd (J B) (List ByteArray) (@rpList _ (rpStr))) ((Y6 9:Fd (J B) (List ByteArray) (@rpList _ (rpStr))))))))))) b4Q c17 (fun _=>rfl) (fun _ _ _=>Iff.rfl):Fd (J B) Api_Line a6q)
def c1K (B:Nat):Fd (J B) (J B 224) inferInstance:=(V1 (rg:=V5) (k7 (Y6 100:Fd (J B) (List Api_Goal) (@rpList _ (v6))) (k7 (a3q:Fd (J B) Bool (rpBool)) ((a0T 100 (a6S B):Fd (J B) Api_Goal (v6))))) a8l b2z (fun _=>rfl) (fun _ _ _=>Iff.rfl):Fd (J B) Api_EntryForm V5)
def c66 (B:Nat):Fd (J B) (J B 237) inferInstance:=(V1 (rg:=a5l) (k7 (K7 .i64:Fd (J B) Int (rpK .i64)) ((K7 .i64:Fd (J B) Int (rpK .i64)))) b2F c0o (fun _=>rfl) (fun _ _ _=>Iff.rfl):Fd (J B) Core_Sort a5l)
def c6X (B:Nat):Fd (J B) (J B 252) inferInstance:=(V1 (rg:=a5g) (k7 (Y6 3:Fd (J B) (List Int) (@rpList _ (rpK .i64))) (k7 (Y6 3:Fd (J B) (List Int) (@rpList _ (rpK .i64))) (k7 (Y6 3:Fd (J B) (List Int) (@rpList _ (rpK .i64))) ((Y6 3:Fd (J B) (List Int) (@rpList _ (rpK .i64))))))) b2X c0b (fun _=>rfl) (fun _ _ _=>Iff.rfl):Fd (J B) Core_pair a5g)
def c9G (B:Nat):Fd (J B) (J B 273) inferInstance:=(d7x (I:=J B) (G:=100) B a3O:Fd (J B) Api_Box (@c0T Api_Box Api_Goal v6 B a3O))
def c8v (B:Nat):Fd (J B) (J B 296) inferInstance:=(k7 (a0T 100 (a6S B):Fd (J B) Api_Goal (v6)) ((a0T 100 (a6S B):Fd (J B) Api_Goal (v6))):Fd (J B) (Api_Goal×Api_Goal) (Y2 (v6) (v6)))
def c65 (B:Nat):Fd (J B) (J B 299) inferInstance:=(V1 (rg:=a5c) (k7 (Y6 126:Fd (J B) (List Key) (@rpList _ (rpKey))) (k7 (Y6 3:Fd (J B) (List Int) (@rpList _ (rpK .i64))) (k7 (Y6 100:Fd (J B) (List Api_Goal) (@rpList _ (v6))) (k7 (a0T 296 (c8v B):Fd (J B) (Api_Goal×Api_Goal) (Y2 (v6) (v6))) ((Y6 302:Fd (J B) (List Api_SomeKey) (@rpList _ (a0y)))))))) b2s b9T (fun _=>rfl) (fun _ _ _=>Iff.rfl):Fd (J B) Api_Shape a5c)
def c3w (B:Nat):Fd (J B) (J B 302) inferInstance:=(V1 (rg:=a0y) (k7 (K7 .i64:Fd (J B) Int (rpK .i64)) ((a0T 100 (a6S B):Fd (J B) Api_Goal (v6)))) b0b b5W (fun _=>rfl) (fun _ _ _=>Iff.rfl):Fd (J B) Api_SomeKey a0y)
def b8E (B:Nat):Fd (J B) (J B 320) inferInstance:=(V1 (rg:=a10) ((a0T 214 (b06 B):Fd (J B) Api_Names (a0P))) a60 b0Z (fun _=>rfl) (fun _ _ _=>Iff.rfl):Fd (J B) Literals_normal a10)
def c2X (B:Nat):Fd (J B) (J B 336) inferInstance:=(V1 (rg:=a3b) (k7 (K7 .i64:Fd (J B) Int (rpK .i64)) (k7 (a3q:Fd (J B) Bool (rpBool)) ((K7 .i64:Fd (J B) Int (rpK .i64))))) a8L b4M (fun _=>rfl) (fun _ _ _=>Iff.rfl):Fd (J B) Record_place a3b)
def c8b (B:Nat):Fd (J B) (J B 338) inferInstance:=(V1 (rg:=a1G) (k7 (Y6 3:Fd (J B) (List Int) (@rpList _ (rpK .i64))) (k7 (a3q:Fd (J B) Bool (rpBool)) ((K7 .i64:Fd (J B) Int (rpK .i64))))) b5g c2c (fun _=>rfl) (fun _ _ _=>Iff.rfl):Fd (J B) Api_Form a1G)
def feM (B:Nat):List (FE (J B)):=[⟨2,K7 .i64⟩,
 ⟨3,K7 .i64⟩,
 ⟨4,a3q⟩,
 ⟨5,K7 .u8⟩,
 ⟨9,b0r⟩,
 ⟨22,Y6 9⟩,
 ⟨25,Y6 67⟩,
 ⟨27,(a9n B)⟩,
 ⟨36,Y6 3⟩,
 ⟨38,Y6 42⟩,
 ⟨39,Y6 126⟩,
 ⟨40,Y6 120⟩,
 ⟨42,(c5y B)⟩,
 ⟨51,(b9Y B)⟩,
 ⟨56,(c61 B)⟩,
 ⟨57,Y6 56⟩,
 ⟨61,(c39 B)⟩,
 ⟨64,Y6 128⟩,
 ⟨65,(d0w B)⟩,
 ⟨67,(c3n B)⟩,
 ⟨72,(b4R B)⟩,
 ⟨100,(a6S B)⟩,
 ⟨120,(d5D B)⟩,
 ⟨126,(d0b B)⟩,
 ⟨128,(c67 B)⟩,
 ⟨184,Y6 100⟩,
 ⟨188,Y6 338⟩,
 ⟨190,(a9E B)⟩,
 ⟨191,Y6 219⟩,
 ⟨193,(c6D B)⟩,
 ⟨214,(b06 B)⟩,
 ⟨216,(c8O B)⟩,
 ⟨219,Y6 224⟩,
 ⟨224,(c1K B)⟩,
 ⟨237,(c66 B)⟩,
 ⟨252,(c6X B)⟩,
 ⟨273,(c9G B)⟩,
 ⟨296,(c8v B)⟩,
 ⟨297,Y6 302⟩,
 ⟨299,(c65 B)⟩,
 ⟨302,(c3w B)⟩,
 ⟨320,(b8E B)⟩,
 ⟨336,(c2X B)⟩,
 ⟨338,(c8b B)⟩]
def d7i (B:Nat):TabL (J B) where
 lo:=B
 sz:=[(27,2),(42,7),(51,4),(56,2),(61,3),(65,2),(67,8),(100,3),(120,9),(126,2),(128,4),(168,2),(190,10),(193,11),(214,2),(216,9),(224,5),(237,2),(252,4),(273,1),(299,10),(302,4),(320,2),(336,3)]
 one:=[(2,()),(3,()),(4,()),(5,()),(9,()),(22,()),(25,()),(36,()),(38,()),(39,()),(40,()),(57,()),(62,()),(64,()),(106,()),(151,()),(166,()),(184,()),(191,()),(219,()),(293,()),(297,()),(330,()),(331,())]
 fld:=[(27,[(0,25),(1,3)]),(42,[(0,3),(1,2),(2,9),(3,38),(4,39),(5,40),(6,22)]),(51,[(0,27),(2,27)]),(56,[(0,2),(1,2)]),(61,[(0,9),(1,27)]),(67,[(0,3),(1,2),(2,2),(3,9),(4,36),(5,64),(6,65)]),(72,[(0,36),(1,3)]),(100,[(0,36),(1,36),(2,4)]),(120,[(0,38),(1,4),(2,42)]),(126,[(0,3),(1,9)]),(128,[(0,126),(2,3),(3,4)]),(168,[(0,166),(1,106)]),(190,[(0,42),(7,39),(8,188),(9,184)]),(193,[(0,190),(10,191)]),(214,[(0,4),(1,22)]),(216,[(0,3),(1,3),(2,57),(3,214),(5,36),(6,36),(7,22),(8,22)]),(224,[(0,184),(1,4),(2,100)]),(237,[(0,3),(1,3)]),(252,[(0,36),(1,36),(2,36),(3,36)]),(273,[(0,184)]),(299,[(0,39),(1,36),(2,184),(3,296),(9,297)]),(302,[(0,3),(1,100)]),(320,[(0,214)]),(336,[(0,3),(1,4),(2,3)])]
 el:=[(22,9),(24,27),(25,67),(29,36),(36,3),(38,42),(39,126),(40,120),(45,51),(57,56),(62,61),(64,128),(92,4),(111,2),(184,100),(185,193),(191,219),(198,5),(211,216),(217,190),(219,224),(234,237),(253,252),(269,273),(293,299),(297,302),(330,336)]
 str:=[(9,())]
 bool:=[(4,())]
 ik:=[(2,.i64),(3,.i64),(5,.u8),(135,.u64),(165,.u64)]
 fe:=(feM B)
 inf:=[(2,1,8,[.int .i64 0]),(3,1,8,[.int .i64 0]),(4,1,1,[.bool false]),(5,1,1,[.int .u8 0]),(9,1,16,[.str ⟨#[]⟩]),(22,1,24,[.nl 9]),(25,1,24,[.nl 67]),(27,2,32,[.nl 67,.int .i64 0]),(36,1,24,[.nl 3]),(38,1,24,[.nl 42]),(39,1,24,[.nl 126]),(42,7,128,[.int .i64 0,.int .i64 0,.str ⟨#[]⟩,.nl 42,.nl 126,.nl 120,.nl 9]),(51,4,64,[.nl 67,.int .i64 0,.nl 67,.int .i64 0]),(56,2,16,[.int .i64 0,.int .i64 0]),(57,1,24,[.nl 56]),(61,3,48,[.str ⟨#[]⟩,.nl 67,.int .i64 0]),(64,1,24,[.nl 128]),(65,2,16,[.int .i64 0,.int .i64 0]),(67,8,104,[.int .i64 0,.int .i64 0,.int .i64 0,.str ⟨#[]⟩,.nl 3,.nl 128,.int .i64 0,.int .i64 0]),(72,2,32,[.nl 3,.int .i64 0]),(100,3,56,[.nl 3,.nl 3,.bool false]),(120,9,160,[.nl 42,.bool false,.int .i64 0,.int .i64 0,.str ⟨#[]⟩,.nl 42,.nl 126,.nl 120,.nl 9]),(126,2,24,[.int .i64 0,.str ⟨#[]⟩]),(128,4,40,[.int .i64 0,.str ⟨#[]⟩,.int .i64 0,.bool false]),(151,1,8,[.any]),(168,2,16,[.any,.any]),(184,1,24,[.nl 100]),(185,1,24,[.nl 193]),(190,10,200,[.int .i64 0,.int .i64 0,.str ⟨#[]⟩,.nl 42,.nl 126,.nl 120,.nl 9,.nl 126,.nl 338,.nl 100]),(193,11,224,[.int .i64 0,.int .i64 0,.str ⟨#[]⟩,.nl 42,.nl 126,.nl 120,.nl 9,.nl 126,.nl 338,.nl 100,.nl 219]),(214,2,32,[.bool false,.nl 9]),(216,9,168,[.int .i64 0,.int .i64 0,.nl 56,.bool false,.nl 9,.nl 3,.nl 3,.nl 9,.nl 9]),(219,1,24,[.nl 224]),(224,5,88,[.nl 100,.bool false,.nl 3,.nl 3,.bool false]),(237,2,16,[.int .i64 0,.int .i64 0]),(252,4,96,[.nl 3,.nl 3,.nl 3,.nl 3]),(273,1,24,[.nl 100]),(293,1,24,[.nl 299]),(297,1,24,[.nl 302]),(299,10,208,[.nl 126,.nl 3,.nl 100,.nl 3,.nl 3,.bool false,.nl 3,.nl 3,.bool false,.nl 302]),(302,4,64,[.int .i64 0,.nl 3,.nl 3,.bool false]),(320,2,32,[.bool false,.nl 9]),(330,1,24,[.nl 336]),(331,1,8,[.any]),(336,3,24,[.int .i64 0,.bool false,.int .i64 0])]
 st:=[(27,[(0,1),(1,1)]),(42,[(0,1),(1,1),(2,1),(3,1),(4,1),(5,1),(6,1)]),(51,[(0,2),(2,2)]),(56,[(0,1),(1,1)]),(61,[(0,1),(1,2)]),(65,[(0,1),(1,1)]),(67,[(0,1),(1,1),(2,1),(3,1),(4,1),(5,1),(6,2)]),(72,[(0,1),(1,1)]),(100,[(0,1),(1,1),(2,1)]),(126,[(0,1),(1,1)]),(128,[(0,2),(2,1),(3,1)]),(168,[(0,1),(1,1)]),(190,[(0,7),(7,1),(8,1),(9,1)]),(193,[(0,10),(10,1)]),(214,[(0,1),(1,1)]),(216,[(0,1),(1,1),(2,1),(3,2),(5,1),(6,1),(7,1),(8,1)]),(237,[(0,1),(1,1)]),(252,[(0,1),(1,1),(2,1),(3,1)]),(299,[(0,1),(1,1),(2,1),(3,6),(9,1)]),(302,[(0,1),(1,3)]),(320,[(0,2)]),(336,[(0,1),(1,1),(2,1)])]
 eq:=[(65,c0c (feM B) 65 a7W),(126,c0c (feM B) 126 a2p)]
 nest:=[(36,3,0),(100,3,1)]
 arr:=[(65,3,2,1),(296,100,2,3)]
 u8:=[(5,())]
 mp:=[(106,.int .i64),(166,.sl 193),(254,.bool)]
 fb:=[(37,()),(52,()),(55,()),(56,()),(57,()),(64,()),(135,()),(137,()),(162,()),(194,()),(197,()),(219,()),(227,()),(233,()),(285,()),(286,())]
abbrev tbJ (B:Nat):Tab (J B):=d1t (d7i B)
theorem d75 (B:Nat){σ:S}{x y:Int×Int}{cs ds:List Value}(h:(rJ B 65).cells σ x cs)(k:(rJ B 65).cells σ y ds):Sx.EqAt d8m 2 65 (.agg cs.toArray) (.agg ds.toArray) (a7W x y):=by
 obtain ⟨_,_,rfl,rfl,rfl⟩:=h
 obtain ⟨_,_,rfl,rfl,rfl⟩:=k
 exact c8Q Go.Proofs.Tryz.underlying65 ti3 (b4B (a1e to3 rfl) (a1e to3 rfl) (b0i Go.Proofs.Tryz.underlying3) (b4B (a1e to3 rfl) (a1e to3 rfl) (b0i Go.Proofs.Tryz.underlying3) c9n))
theorem d6J (B:Nat){σ:S}{x y:Key}{cs ds:List Value}(h:(rJ B 126).cells σ x cs)(k:(rJ B 126).cells σ y ds):Sx.EqAt d8m 2 126 (.agg cs.toArray) (.agg ds.toArray) (a2p x y):=by
 obtain ⟨_,_,rfl,rfl,rfl⟩:=h
 obtain ⟨_,_,rfl,rfl,rfl⟩:=k
 exact c2f Go.Proofs.Tryz.underlying126 (by kernel_rfl) (b4w (by decide) (a1e to3 rfl) (a1e to3 rfl) (b0i Go.Proofs.Tryz.underlying3) (b4w (by decide) (a1e to9 rfl) (a1e to9 rfl) (c9f Go.Proofs.Tryz.underlying9) c9v))
theorem d6d (B:Nat)(T:TypeId)(g:J B T->J B T->Bool){K:Nat}(h:∀ {σ:S} {x y:J B T} {cs ds:List Value},Rp.cells σ x cs->Rp.cells σ y ds->Sx.EqAt d8m K T (.agg cs.toArray) (.agg ds.toArray) (g x y))(hg:d8m.eqGuardType (d8m).depth T=false)(hK:d89 K 10000=true)
 {X:Cxt} {c:Cx} {σ:S} {ls ms:List (PV (J B))} {r:Bool} {cs ds:List Value} (h1:c0c (feM B) T g ls ms=some r) (h2:RG X c σ ls cs) (h3:RG X c σ ms ds) :
 d8m.eqGuardType (d8m).depth T=false/\∃ j,d89 j 10000=true/\Sx.EqAt d8m j T (.agg cs.toArray) (.agg ds.toArray) r:=by
 obtain ⟨x,y,k1,k2,rfl⟩:=d0c h1 h2 h3
 exact ⟨hg,K,hK,h k1 k2⟩
theorem d6I (B:Nat):TabLOk d8m (d7i B) where
 low:=fun E=>c6l (l:=tyM B) (n:=B) ⟨d8w _,⟨d8w _,⟨d8w _,⟨d8w _,⟨d8w _,⟨d8w _,⟨d8w _,⟨d8w _,⟨d8w _,⟨d8w _,⟨d8w _,⟨d8w _,⟨d8w _,⟨d8w _,⟨d8w _,⟨d8w _,⟨d8w _,⟨d8w _,⟨d8w _,⟨d8w _,⟨d8w _,⟨d8w _,⟨d8w _,⟨d8w _,⟨d8w _,⟨d8w _,⟨d8w _,⟨d8w _,⟨d8w _,⟨d8w _,⟨d8w _,⟨d8w _,⟨d8w _,⟨d8w _,⟨d8w _,⟨d8w _,⟨d8r _,⟨d8w _,⟨d8w _,⟨d8w _,⟨d8w _,⟨d8w _,⟨d8w _,⟨d8w _,trivial⟩⟩⟩⟩⟩⟩⟩⟩⟩⟩⟩⟩⟩⟩⟩⟩⟩⟩⟩⟩⟩⟩⟩⟩⟩⟩⟩⟩⟩⟩⟩⟩⟩⟩⟩⟩⟩⟩⟩⟩⟩⟩⟩⟩ E
 sz:=⟨⟨_,Go.Proofs.Tryz.underlying27,rfl,by kernel_rfl⟩,⟨⟨_,Go.Proofs.Tryz.underlying42,rfl,by kernel_rfl⟩,⟨⟨_,Go.Proofs.Tryz.underlying51,rfl,by kernel_rfl⟩,⟨⟨_,Go.Proofs.Tryz.underlying56,rfl,by kernel_rfl⟩,⟨⟨_,Go.Proofs.Tryz.underlying61,rfl,by kernel_rfl⟩,⟨⟨_,Go.Proofs.Tryz.underlying65,rfl,by kernel_rfl⟩,⟨⟨_,Go.Proofs.Tryz.underlying67,rfl,by kernel_rfl⟩,⟨⟨_,Go.Proofs.Tryz.underlying100,rfl,by kernel_rfl⟩,⟨⟨_,Go.Proofs.Tryz.underlying120,rfl,by kernel_rfl⟩,⟨⟨_,Go.Proofs.Tryz.underlying126,rfl,by kernel_rfl⟩,⟨⟨_,Go.Proofs.Tryz.underlying128,rfl,by kernel_rfl⟩,⟨⟨_,Go.Proofs.Tryz.underlying168,rfl,by kernel_rfl⟩,⟨⟨_,Go.Proofs.Tryz.underlying190,rfl,by kernel_rfl⟩,⟨⟨_,Go.Proofs.Tryz.underlying193,rfl,by kernel_rfl⟩,⟨⟨_,Go.Proofs.Tryz.underlying214,rfl,by kernel_rfl⟩,⟨⟨_,Go.Proofs.Tryz.underlying216,rfl,by kernel_rfl⟩,⟨⟨_,Go.Proofs.Tryz.underlying224,rfl,by kernel_rfl⟩,⟨⟨_,Go.Proofs.Tryz.underlying237,rfl,by kernel_rfl⟩,⟨⟨_,Go.Proofs.Tryz.underlying252,rfl,by kernel_rfl⟩,⟨⟨_,Go.Proofs.Tryz.underlying273,rfl,by kernel_rfl⟩,⟨⟨_,Go.Proofs.Tryz.underlying299,rfl,by kernel_rfl⟩,⟨⟨_,Go.Proofs.Tryz.underlying302,rfl,by kernel_rfl⟩,⟨⟨_,Go.Proofs.Tryz.underlying320,rfl,by kernel_rfl⟩,⟨⟨_,Go.Proofs.Tryz.underlying336,rfl,by kernel_rfl⟩,trivial⟩⟩⟩⟩⟩⟩⟩⟩⟩⟩⟩⟩⟩⟩⟩⟩⟩⟩⟩⟩⟩⟩⟩⟩
 one:=⟨to2,⟨to3,⟨to4,⟨to5,⟨to9,⟨d6g,⟨d57,⟨d69,⟨d6i,⟨d7a,⟨d6w,⟨d6k,⟨d6b,⟨d6U,⟨d4x,⟨d4p,⟨d4b,⟨d1m,⟨d4z,⟨d4C,⟨d4M,⟨d4I,⟨d4E,⟨d4Q,trivial⟩⟩⟩⟩⟩⟩⟩⟩⟩⟩⟩⟩⟩⟩⟩⟩⟩⟩⟩⟩⟩⟩⟩⟩
 fld:=⟨⟨⟨_,_,Go.Proofs.Tryz.underlying27,rfl,rfl,by kernel_rfl⟩,⟨⟨_,_,Go.Proofs.Tryz.underlying27,rfl,rfl⟩,⟨⟨_,_,Go.Proofs.Tryz.underlying27,rfl,rfl,by kernel_rfl⟩,⟨⟨_,_,Go.Proofs.Tryz.underlying27,rfl,rfl⟩,trivial⟩⟩⟩⟩,⟨⟨⟨_,_,Go.Proofs.Tryz.underlying42,rfl,rfl,by kernel_rfl⟩,⟨⟨_,_,Go.Proofs.Tryz.underlying42,rfl,rfl⟩,⟨⟨_,_,Go.Proofs.Tryz.underlying42,rfl,rfl,by kernel_rfl⟩,⟨⟨_,_,Go.Proofs.Tryz.underlying42,rfl,rfl⟩,⟨⟨_,_,Go.Proofs.Tryz.underlying42,rfl,rfl,by kernel_rfl⟩,⟨⟨_,_,Go.Proofs.Tryz.underlying42,rfl,rfl⟩,⟨⟨_,_,Go.Proofs.Tryz.underlying42,rfl,rfl,by kernel_rfl⟩,⟨⟨_,_,Go.Proofs.Tryz.underlying42,rfl,rfl⟩,⟨⟨_,_,Go.Proofs.Tryz.underlying42,rfl,rfl,by kernel_rfl⟩,⟨⟨_,_,Go.Proofs.Tryz.underlying42,rfl,rfl⟩,⟨⟨_,_,Go.Proofs.Tryz.underlying42,rfl,rfl,by kernel_rfl⟩,⟨⟨_,_,Go.Proofs.Tryz.underlying42,rfl,rfl⟩,⟨⟨_,_,Go.Proofs.Tryz.underlying42,rfl,rfl,by kernel_rfl⟩,⟨⟨_,_,Go.Proofs.Tryz.underlying42,rfl,rfl⟩,trivial⟩⟩⟩⟩⟩⟩⟩⟩⟩⟩⟩⟩⟩⟩,⟨⟨⟨_,_,Go.Proofs.Tryz.underlying51,rfl,rfl,by kernel_rfl⟩,⟨⟨_,_,Go.Proofs.Tryz.underlying51,rfl,rfl⟩,⟨⟨_,_,Go.Proofs.Tryz.underlying51,rfl,rfl,by kernel_rfl⟩,⟨⟨_,_,Go.Proofs.Tryz.underlying51,rfl,rfl⟩,trivial⟩⟩⟩⟩,⟨⟨⟨_,_,Go.Proofs.Tryz.underlying56,rfl,rfl,by kernel_rfl⟩,⟨⟨_,_,Go.Proofs.Tryz.underlying56,rfl,rfl⟩,⟨⟨_,_,Go.Proofs.Tryz.underlying56,rfl,rfl,by kernel_rfl⟩,⟨⟨_,_,Go.Proofs.Tryz.underlying56,rfl,rfl⟩,trivial⟩⟩⟩⟩,⟨⟨⟨_,_,Go.Proofs.Tryz.underlying61,rfl,rfl,by kernel_rfl⟩,⟨⟨_,_,Go.Proofs.Tryz.underlying61,rfl,rfl⟩,⟨⟨_,_,Go.Proofs.Tryz.underlying61,rfl,rfl,by kernel_rfl⟩,⟨⟨_,_,Go.Proofs.Tryz.underlying61,rfl,rfl⟩,trivial⟩⟩⟩⟩,⟨⟨⟨_,_,Go.Proofs.Tryz.underlying67,rfl,rfl,by kernel_rfl⟩,⟨⟨_,_,Go.Proofs.Tryz.underlying67,rfl,rfl⟩,⟨⟨_,_,Go.Proofs.Tryz.underlying67,rfl,rfl,by kernel_rfl⟩,⟨⟨_,_,Go.Proofs.Tryz.underlying67,rfl,rfl⟩,⟨⟨_,_,Go.Proofs.Tryz.underlying67,rfl,rfl,by kernel_rfl⟩,⟨⟨_,_,Go.Proofs.Tryz.underlying67,rfl,rfl⟩,⟨⟨_,_,Go.Proofs.Tryz.underlying67,rfl,rfl,by kernel_rfl⟩,⟨⟨_,_,Go.Proofs.Tryz.underlying67,rfl,rfl⟩,⟨⟨_,_,Go.Proofs.Tryz.underlying67,rfl,rfl,by kernel_rfl⟩,⟨⟨_,_,Go.Proofs.Tryz.underlying67,rfl,rfl⟩,⟨⟨_,_,Go.Proofs.Tryz.underlying67,rfl,rfl,by kernel_rfl⟩,⟨⟨_,_,Go.Proofs.Tryz.underlying67,rfl,rfl⟩,⟨⟨_,_,Go.Proofs.Tryz.underlying67,rfl,rfl,by kernel_rfl⟩,⟨⟨_,_,Go.Proofs.Tryz.underlying67,rfl,rfl⟩,trivial⟩⟩⟩⟩⟩⟩⟩⟩⟩⟩⟩⟩⟩⟩,⟨⟨⟨_,_,Go.Proofs.Tryz.underlying72,rfl,rfl,by kernel_rfl⟩,⟨⟨_,_,Go.Proofs.Tryz.underlying72,rfl,rfl⟩,⟨⟨_,_,Go.Proofs.Tryz.underlying72,rfl,rfl,by kernel_rfl⟩,⟨⟨_,_,Go.Proofs.Tryz.underlying72,rfl,rfl⟩,trivial⟩⟩⟩⟩,⟨⟨⟨_,_,Go.Proofs.Tryz.underlying100,rfl,rfl,by kernel_rfl⟩,⟨⟨_,_,Go.Proofs.Tryz.underlying100,rfl,rfl⟩,⟨⟨_,_,Go.Proofs.Tryz.underlying100,rfl,rfl,by kernel_rfl⟩,⟨⟨_,_,Go.Proofs.Tryz.underlying100,rfl,rfl⟩,⟨⟨_,_,Go.Proofs.Tryz.underlying100,rfl,rfl,by kernel_rfl⟩,⟨⟨_,_,Go.Proofs.Tryz.underlying100,rfl,rfl⟩,trivial⟩⟩⟩⟩⟩⟩,⟨⟨⟨_,_,Go.Proofs.Tryz.underlying120,rfl,rfl,by kernel_rfl⟩,⟨⟨_,_,Go.Proofs.Tryz.underlying120,rfl,rfl⟩,⟨⟨_,_,Go.Proofs.Tryz.underlying120,rfl,rfl,by kernel_rfl⟩,⟨⟨_,_,Go.Proofs.Tryz.underlying120,rfl,rfl⟩,⟨⟨_,_,Go.Proofs.Tryz.underlying120,rfl,rfl,by kernel_rfl⟩,⟨⟨_,_,Go.Proofs.Tryz.underlying120,rfl,rfl⟩,trivial⟩⟩⟩⟩⟩⟩,⟨⟨⟨_,_,Go.Proofs.Tryz.underlying126,rfl,rfl,by kernel_rfl⟩,⟨⟨_,_,Go.Proofs.Tryz.underlying126,rfl,rfl⟩,⟨⟨_,_,Go.Proofs.Tryz.underlying126,rfl,rfl,by kernel_rfl⟩,⟨⟨_,_,Go.Proofs.Tryz.underlying126,rfl,rfl⟩,trivial⟩⟩⟩⟩,⟨⟨⟨_,_,Go.Proofs.Tryz.underlying128,rfl,rfl,by kernel_rfl⟩,⟨⟨_,_,Go.Proofs.Tryz.underlying128,rfl,rfl⟩,⟨⟨_,_,Go.Proofs.Tryz.underlying128,rfl,rfl,by kernel_rfl⟩,⟨⟨_,_,Go.Proofs.Tryz.underlying128,rfl,rfl⟩,⟨⟨_,_,Go.Proofs.Tryz.underlying128,rfl,rfl,by kernel_rfl⟩,⟨⟨_,_,Go.Proofs.Tryz.underlying128,rfl,rfl⟩,trivial⟩⟩⟩⟩⟩⟩,⟨⟨⟨_,_,Go.Proofs.Tryz.underlying168,rfl,rfl,by kernel_rfl⟩,⟨⟨_,_,Go.Proofs.Tryz.underlying168,rfl,rfl⟩,⟨⟨_,_,Go.Proofs.Tryz.underlying168,rfl,rfl,by kernel_rfl⟩,⟨⟨_,_,Go.Proofs.Tryz.underlying168,rfl,rfl⟩,trivial⟩⟩⟩⟩,⟨⟨⟨_,_,Go.Proofs.Tryz.underlying190,rfl,rfl,by kernel_rfl⟩,⟨⟨_,_,Go.Proofs.Tryz.underlying190,rfl,rfl⟩,⟨⟨_,_,Go.Proofs.Tryz.underlying190,rfl,rfl,by kernel_rfl⟩,⟨⟨_,_,Go.Proofs.Tryz.underlying190,rfl,rfl⟩,⟨⟨_,_,Go.Proofs.Tryz.underlying190,rfl,rfl,by kernel_rfl⟩,⟨⟨_,_,Go.Proofs.Tryz.underlying190,rfl,rfl⟩,⟨⟨_,_,Go.Proofs.Tryz.underlying190,rfl,rfl,by kernel_rfl⟩,⟨⟨_,_,Go.Proofs.Tryz.underlying190,rfl,rfl⟩,trivial⟩⟩⟩⟩⟩⟩⟩⟩,⟨⟨⟨_,_,Go.Proofs.Tryz.underlying193,rfl,rfl,by kernel_rfl⟩,⟨⟨_,_,Go.Proofs.Tryz.underlying193,rfl,rfl⟩,⟨⟨_,_,Go.Proofs.Tryz.underlying193,rfl,rfl,by kernel_rfl⟩,⟨⟨_,_,Go.Proofs.Tryz.underlying193,rfl,rfl⟩,trivial⟩⟩⟩⟩,⟨⟨⟨_,_,Go.Proofs.Tryz.underlying214,rfl,rfl,by kernel_rfl⟩,⟨⟨_,_,Go.Proofs.Tryz.underlying214,rfl,rfl⟩,⟨⟨_,_,Go.Proofs.Tryz.underlying214,rfl,rfl,by kernel_rfl⟩,⟨⟨_,_,Go.Proofs.Tryz.underlying214,rfl,rfl⟩,trivial⟩⟩⟩⟩,⟨⟨⟨_,_,Go.Proofs.Tryz.underlying216,rfl,rfl,by kernel_rfl⟩,⟨⟨_,_,Go.Proofs.Tryz.underlying216,rfl,rfl⟩,⟨⟨_,_,Go.Proofs.Tryz.underlying216,rfl,rfl,by kernel_rfl⟩,⟨⟨_,_,Go.Proofs.Tryz.underlying216,rfl,rfl⟩,⟨⟨_,_,Go.Proofs.Tryz.underlying216,rfl,rfl,by kernel_rfl⟩,⟨⟨_,_,Go.Proofs.Tryz.underlying216,rfl,rfl⟩,⟨⟨_,_,Go.Proofs.Tryz.underlying216,rfl,rfl,by kernel_rfl⟩,⟨⟨_,_,Go.Proofs.Tryz.underlying216,rfl,rfl⟩,⟨⟨_,_,Go.Proofs.Tryz.underlying216,rfl,rfl,by kernel_rfl⟩,⟨⟨_,_,Go.Proofs.Tryz.underlying216,rfl,rfl⟩,⟨⟨_,_,Go.Proofs.Tryz.underlying216,rfl,rfl,by kernel_rfl⟩,⟨⟨_,_,Go.Proofs.Tryz.underlying216,rfl,rfl⟩,⟨⟨_,_,Go.Proofs.Tryz.underlying216,rfl,rfl,by kernel_rfl⟩,⟨⟨_,_,Go.Proofs.Tryz.underlying216,rfl,rfl⟩,⟨⟨_,_,Go.Proofs.Tryz.underlying216,rfl,rfl,by kernel_rfl⟩,⟨⟨_,_,Go.Proofs.Tryz.underlying216,rfl,rfl⟩,trivial⟩⟩⟩⟩⟩⟩⟩⟩⟩⟩⟩⟩⟩⟩⟩⟩,⟨⟨⟨_,_,Go.Proofs.Tryz.underlying224,rfl,rfl,by kernel_rfl⟩,⟨⟨_,_,Go.Proofs.Tryz.underlying224,rfl,rfl⟩,⟨⟨_,_,Go.Proofs.Tryz.underlying224,rfl,rfl,by kernel_rfl⟩,⟨⟨_,_,Go.Proofs.Tryz.underlying224,rfl,rfl⟩,⟨⟨_,_,Go.Proofs.Tryz.underlying224,rfl,rfl,by kernel_rfl⟩,⟨⟨_,_,Go.Proofs.Tryz.underlying224,rfl,rfl⟩,trivial⟩⟩⟩⟩⟩⟩,⟨⟨⟨_,_,Go.Proofs.Tryz.underlying237,rfl,rfl,by kernel_rfl⟩,⟨⟨_,_,Go.Proofs.Tryz.underlying237,rfl,rfl⟩,⟨⟨_,_,Go.Proofs.Tryz.underlying237,rfl,rfl,by kernel_rfl⟩,⟨⟨_,_,Go.Proofs.Tryz.underlying237,rfl,rfl⟩,trivial⟩⟩⟩⟩,⟨⟨⟨_,_,Go.Proofs.Tryz.underlying252,rfl,rfl,by kernel_rfl⟩,⟨⟨_,_,Go.Proofs.Tryz.underlying252,rfl,rfl⟩,⟨⟨_,_,Go.Proofs.Tryz.underlying252,rfl,rfl,by kernel_rfl⟩,⟨⟨_,_,Go.Proofs.Tryz.underlying252,rfl,rfl⟩,⟨⟨_,_,Go.Proofs.Tryz.underlying252,rfl,rfl,by kernel_rfl⟩,⟨⟨_,_,Go.Proofs.Tryz.underlying252,rfl,rfl⟩,⟨⟨_,_,Go.Proofs.Tryz.underlying252,rfl,rfl,by kernel_rfl⟩,⟨⟨_,_,Go.Proofs.Tryz.underlying252,rfl,rfl⟩,trivial⟩⟩⟩⟩⟩⟩⟩⟩,⟨⟨⟨_,_,Go.Proofs.Tryz.underlying273,rfl,rfl,by kernel_rfl⟩,⟨⟨_,_,Go.Proofs.Tryz.underlying273,rfl,rfl⟩,trivial⟩⟩,⟨⟨⟨_,_,Go.Proofs.Tryz.underlying299,rfl,rfl,by kernel_rfl⟩,⟨⟨_,_,Go.Proofs.Tryz.underlying299,rfl,rfl⟩,⟨⟨_,_,Go.Proofs.Tryz.underlying299,rfl,rfl,by kernel_rfl⟩,⟨⟨_,_,Go.Proofs.Tryz.underlying299,rfl,rfl⟩,⟨⟨_,_,Go.Proofs.Tryz.underlying299,rfl,rfl,by kernel_rfl⟩,⟨⟨_,_,Go.Proofs.Tryz.underlying299,rfl,rfl⟩,⟨⟨_,_,Go.Proofs.Tryz.underlying299,rfl,rfl,by kernel_rfl⟩,⟨⟨_,_,Go.Proofs.Tryz.underlying299,rfl,rfl⟩,⟨⟨_,_,Go.Proofs.Tryz.underlying299,rfl,rfl,by kernel_rfl⟩,⟨⟨_,_,Go.Proofs.Tryz.underlying299,rfl,rfl⟩,trivial⟩⟩⟩⟩⟩⟩⟩⟩⟩⟩,⟨⟨⟨_,_,Go.Proofs.Tryz.underlying302,rfl,rfl,by kernel_rfl⟩,⟨⟨_,_,Go.Proofs.Tryz.underlying302,rfl,rfl⟩,⟨⟨_,_,Go.Proofs.Tryz.underlying302,rfl,rfl,by kernel_rfl⟩,⟨⟨_,_,Go.Proofs.Tryz.underlying302,rfl,rfl⟩,trivial⟩⟩⟩⟩,⟨⟨⟨_,_,Go.Proofs.Tryz.underlying320,rfl,rfl,by kernel_rfl⟩,⟨⟨_,_,Go.Proofs.Tryz.underlying320,rfl,rfl⟩,trivial⟩⟩,⟨⟨⟨_,_,Go.Proofs.Tryz.underlying336,rfl,rfl,by kernel_rfl⟩,⟨⟨_,_,Go.Proofs.Tryz.underlying336,rfl,rfl⟩,⟨⟨_,_,Go.Proofs.Tryz.underlying336,rfl,rfl,by kernel_rfl⟩,⟨⟨_,_,Go.Proofs.Tryz.underlying336,rfl,rfl⟩,⟨⟨_,_,Go.Proofs.Tryz.underlying336,rfl,rfl,by kernel_rfl⟩,⟨⟨_,_,Go.Proofs.Tryz.underlying336,rfl,rfl⟩,trivial⟩⟩⟩⟩⟩⟩,trivial⟩⟩⟩⟩⟩⟩⟩⟩⟩⟩⟩⟩⟩⟩⟩⟩⟩⟩⟩⟩⟩⟩⟩⟩
 el:=⟨⟨Go.Proofs.Tryz.underlying22,_,_,ti9,rfl,by decide⟩,⟨⟨Go.Proofs.Tryz.underlying24,_,_,d1k,rfl,by decide⟩,⟨⟨Go.Proofs.Tryz.underlying25,_,_,d1p,rfl,by decide⟩,⟨⟨Go.Proofs.Tryz.underlying29,_,_,d1w,rfl,by decide⟩,⟨⟨Go.Proofs.Tryz.underlying36,_,_,ti3,rfl,by decide⟩,⟨⟨Go.Proofs.Tryz.underlying38,_,_,d1i,rfl,by decide⟩,⟨⟨Go.Proofs.Tryz.underlying39,_,_,c7s,rfl,by decide⟩,⟨⟨Go.Proofs.Tryz.underlying40,_,_,c7e,rfl,by decide⟩,⟨⟨Go.Proofs.Tryz.underlying45,_,_,d0Q,rfl,by decide⟩,⟨⟨Go.Proofs.Tryz.underlying57,_,_,d0U,rfl,by decide⟩,⟨⟨Go.Proofs.Tryz.underlying62,_,_,d0S,rfl,by decide⟩,⟨⟨Go.Proofs.Tryz.underlying64,_,_,c7B,rfl,by decide⟩,⟨⟨Go.Proofs.Tryz.underlying92,_,_,ti4,rfl,by decide⟩,⟨⟨Go.Proofs.Tryz.underlying111,_,_,ti2,rfl,by decide⟩,⟨⟨Go.Proofs.Tryz.underlying184,_,_,c7i,rfl,by decide⟩,⟨⟨Go.Proofs.Tryz.underlying185,_,_,c7C,rfl,by decide⟩,⟨⟨Go.Proofs.Tryz.underlying191,_,_,c7f,rfl,by decide⟩,⟨⟨Go.Proofs.Tryz.underlying198,_,_,ti5,rfl,by decide⟩,⟨⟨Go.Proofs.Tryz.underlying211,_,_,c7D,rfl,by decide⟩,⟨⟨Go.Proofs.Tryz.underlying217,_,_,c7o,rfl,by decide⟩,⟨⟨Go.Proofs.Tryz.underlying219,_,_,c7x,rfl,by decide⟩,⟨⟨Go.Proofs.Tryz.underlying234,_,_,c7a,rfl,by decide⟩,⟨⟨Go.Proofs.Tryz.underlying253,_,_,c7y,rfl,by decide⟩,⟨⟨Go.Proofs.Tryz.underlying269,_,_,c7p,rfl,by decide⟩,⟨⟨Go.Proofs.Tryz.underlying293,_,_,c7d,rfl,by decide⟩,⟨⟨Go.Proofs.Tryz.underlying297,_,_,c7t,rfl,by decide⟩,⟨⟨Go.Proofs.Tryz.underlying330,_,_,c7w,rfl,by decide⟩,trivial⟩⟩⟩⟩⟩⟩⟩⟩⟩⟩⟩⟩⟩⟩⟩⟩⟩⟩⟩⟩⟩⟩⟩⟩⟩⟩⟩
 str:=⟨Go.Proofs.Tryz.underlying9,trivial⟩
 bool:=⟨Go.Proofs.Tryz.underlying4,trivial⟩
 ik:=⟨Go.Proofs.Tryz.underlying2,⟨Go.Proofs.Tryz.underlying3,⟨Go.Proofs.Tryz.underlying5,⟨Go.Proofs.Tryz.underlying135,⟨Go.Proofs.Tryz.underlying165,trivial⟩⟩⟩⟩⟩
 inf:=⟨⟨_,ti2,fun X c σ=>RG.cns rfl Y8 (RG.nl)⟩,⟨⟨_,ti3,fun X c σ=>RG.cns rfl Y8 (RG.nl)⟩,⟨⟨_,ti4,fun X c σ=>RG.cns rfl a0H (RG.nl)⟩,⟨⟨_,ti5,fun X c σ=>RG.cns rfl Y8 (RG.nl)⟩,⟨⟨_,ti9,fun X c σ=>RG.cns rfl a4n (RG.nl)⟩,⟨⟨_,d6o,fun X c σ=>RG.cns rfl k8 (RG.nl)⟩,⟨⟨_,d7l,fun X c σ=>RG.cns rfl k8 (RG.nl)⟩,⟨⟨_,d1k,fun X c σ=>RG.cns rfl k8 (RG.cns rfl Y8 (RG.nl))⟩,⟨⟨_,d1w,fun X c σ=>RG.cns rfl k8 (RG.nl)⟩,⟨⟨_,d6S,fun X c σ=>RG.cns rfl k8 (RG.nl)⟩,⟨⟨_,d6q,fun X c σ=>RG.cns rfl k8 (RG.nl)⟩,⟨⟨_,d1i,fun X c σ=>RG.cns rfl Y8 (RG.cns rfl Y8 (RG.cns rfl a4n (RG.cns rfl k8 (RG.cns rfl k8 (RG.cns rfl k8 (RG.cns rfl k8 (RG.nl)))))))⟩,⟨⟨_,d0Q,fun X c σ=>RG.cns rfl k8 (RG.cns rfl Y8 (RG.cns rfl k8 (RG.cns rfl Y8 (RG.nl))))⟩,⟨⟨_,d0U,fun X c σ=>RG.cns rfl Y8 (RG.cns rfl Y8 (RG.nl))⟩,⟨⟨_,d7b,fun X c σ=>RG.cns rfl k8 (RG.nl)⟩,⟨⟨_,d0S,fun X c σ=>RG.cns rfl a4n (RG.cns rfl k8 (RG.cns rfl Y8 (RG.nl)))⟩,⟨⟨_,d6Q,fun X c σ=>RG.cns rfl k8 (RG.nl)⟩,⟨⟨_,d64,fun X c σ=>RG.cns rfl Y8 (RG.cns rfl Y8 (RG.nl))⟩,⟨⟨_,d1p,fun X c σ=>RG.cns rfl Y8 (RG.cns rfl Y8 (RG.cns rfl Y8 (RG.cns rfl a4n (RG.cns rfl k8 (RG.cns rfl k8 (RG.cns rfl Y8 (RG.cns rfl Y8 (RG.nl))))))))⟩,⟨⟨_,d65,fun X c σ=>RG.cns rfl k8 (RG.cns rfl Y8 (RG.nl))⟩,⟨⟨_,c7i,fun X c σ=>RG.cns rfl k8 (RG.cns rfl k8 (RG.cns rfl a0H (RG.nl)))⟩,⟨⟨_,c7e,fun X c σ=>RG.cns rfl k8 (RG.cns rfl a0H (RG.cns rfl Y8 (RG.cns rfl Y8 (RG.cns rfl a4n (RG.cns rfl k8 (RG.cns rfl k8 (RG.cns rfl k8 (RG.cns rfl k8 (RG.nl)))))))))⟩,⟨⟨_,c7s,fun X c σ=>RG.cns rfl Y8 (RG.cns rfl a4n (RG.nl))⟩,⟨⟨_,c7B,fun X c σ=>RG.cns rfl Y8 (RG.cns rfl a4n (RG.cns rfl Y8 (RG.cns rfl a0H (RG.nl))))⟩,⟨⟨_,d4o,fun X c σ=>RG.cns rfl b4m (RG.nl)⟩,⟨⟨_,d4K,fun X c σ=>RG.cns rfl b4m (RG.cns rfl b4m (RG.nl))⟩,⟨⟨_,d4X,fun X c σ=>RG.cns rfl k8 (RG.nl)⟩,⟨⟨_,c7m,fun X c σ=>RG.cns rfl k8 (RG.nl)⟩,⟨⟨_,c7o,fun X c σ=>RG.cns rfl Y8 (RG.cns rfl Y8 (RG.cns rfl a4n (RG.cns rfl k8 (RG.cns rfl k8 (RG.cns rfl k8 (RG.cns rfl k8 (RG.cns rfl k8 (RG.cns rfl k8 (RG.cns rfl k8 (RG.nl))))))))))⟩,⟨⟨_,c7C,fun X c σ=>RG.cns rfl Y8 (RG.cns rfl Y8 (RG.cns rfl a4n (RG.cns rfl k8 (RG.cns rfl k8 (RG.cns rfl k8 (RG.cns rfl k8 (RG.cns rfl k8 (RG.cns rfl k8 (RG.cns rfl k8 (RG.cns rfl k8 (RG.nl)))))))))))⟩,⟨⟨_,d4j,fun X c σ=>RG.cns rfl a0H (RG.cns rfl k8 (RG.nl))⟩,⟨⟨_,c7D,fun X c σ=>RG.cns rfl Y8 (RG.cns rfl Y8 (RG.cns rfl k8 (RG.cns rfl a0H (RG.cns rfl k8 (RG.cns rfl k8 (RG.cns rfl k8 (RG.cns rfl k8 (RG.cns rfl k8 (RG.nl)))))))))⟩,⟨⟨_,c7f,fun X c σ=>RG.cns rfl k8 (RG.nl)⟩,⟨⟨_,c7x,fun X c σ=>RG.cns rfl k8 (RG.cns rfl a0H (RG.cns rfl k8 (RG.cns rfl k8 (RG.cns rfl a0H (RG.nl)))))⟩,⟨⟨_,c7a,fun X c σ=>RG.cns rfl Y8 (RG.cns rfl Y8 (RG.nl))⟩,⟨⟨_,c7y,fun X c σ=>RG.cns rfl k8 (RG.cns rfl k8 (RG.cns rfl k8 (RG.cns rfl k8 (RG.nl))))⟩,⟨⟨_,c7p,fun X c σ=>RG.cns rfl k8 (RG.nl)⟩,⟨⟨_,d4r,fun X c σ=>RG.cns rfl k8 (RG.nl)⟩,⟨⟨_,d4m,fun X c σ=>RG.cns rfl k8 (RG.nl)⟩,⟨⟨_,c7d,fun X c σ=>RG.cns rfl k8 (RG.cns rfl k8 (RG.cns rfl k8 (RG.cns rfl k8 (RG.cns rfl k8 (RG.cns rfl a0H (RG.cns rfl k8 (RG.cns rfl k8 (RG.cns rfl a0H (RG.cns rfl k8 (RG.nl))))))))))⟩,⟨⟨_,c7t,fun X c σ=>RG.cns rfl Y8 (RG.cns rfl k8 (RG.cns rfl k8 (RG.cns rfl a0H (RG.nl))))⟩,⟨⟨_,d4h,fun X c σ=>RG.cns rfl a0H (RG.cns rfl k8 (RG.nl))⟩,⟨⟨_,d4Y,fun X c σ=>RG.cns rfl k8 (RG.nl)⟩,⟨⟨_,d4l,fun X c σ=>RG.cns rfl b4m (RG.nl)⟩,⟨⟨_,c7w,fun X c σ=>RG.cns rfl Y8 (RG.cns rfl a0H (RG.cns rfl Y8 (RG.nl)))⟩,trivial⟩⟩⟩⟩⟩⟩⟩⟩⟩⟩⟩⟩⟩⟩⟩⟩⟩⟩⟩⟩⟩⟩⟩⟩⟩⟩⟩⟩⟩⟩⟩⟩⟩⟩⟩⟩⟩⟩⟩⟩⟩⟩⟩⟩⟩
 st:=⟨.inl ⟨_,Go.Proofs.Tryz.underlying27,by kernel_rfl⟩,⟨.inl ⟨_,Go.Proofs.Tryz.underlying42,by kernel_rfl⟩,⟨.inl ⟨_,Go.Proofs.Tryz.underlying51,by kernel_rfl⟩,⟨.inl ⟨_,Go.Proofs.Tryz.underlying56,by kernel_rfl⟩,⟨.inl ⟨_,Go.Proofs.Tryz.underlying61,by kernel_rfl⟩,⟨.inr (d11 Go.Proofs.Tryz.underlying65 ti3 rfl),⟨.inl ⟨_,Go.Proofs.Tryz.underlying67,by kernel_rfl⟩,⟨.inl ⟨_,Go.Proofs.Tryz.underlying72,by kernel_rfl⟩,⟨.inl ⟨_,Go.Proofs.Tryz.underlying100,by kernel_rfl⟩,⟨.inl ⟨_,Go.Proofs.Tryz.underlying126,by kernel_rfl⟩,⟨.inl ⟨_,Go.Proofs.Tryz.underlying128,by kernel_rfl⟩,⟨.inl ⟨_,Go.Proofs.Tryz.underlying168,by kernel_rfl⟩,⟨.inl ⟨_,Go.Proofs.Tryz.underlying190,by kernel_rfl⟩,⟨.inl ⟨_,Go.Proofs.Tryz.underlying193,by kernel_rfl⟩,⟨.inl ⟨_,Go.Proofs.Tryz.underlying214,by kernel_rfl⟩,⟨.inl ⟨_,Go.Proofs.Tryz.underlying216,by kernel_rfl⟩,⟨.inl ⟨_,Go.Proofs.Tryz.underlying237,by kernel_rfl⟩,⟨.inl ⟨_,Go.Proofs.Tryz.underlying252,by kernel_rfl⟩,⟨.inl ⟨_,Go.Proofs.Tryz.underlying299,by kernel_rfl⟩,⟨.inl ⟨_,Go.Proofs.Tryz.underlying302,by kernel_rfl⟩,⟨.inl ⟨_,Go.Proofs.Tryz.underlying320,by kernel_rfl⟩,⟨.inl ⟨_,Go.Proofs.Tryz.underlying336,by kernel_rfl⟩,trivial⟩⟩⟩⟩⟩⟩⟩⟩⟩⟩⟩⟩⟩⟩⟩⟩⟩⟩⟩⟩⟩⟩
 eq:=⟨fun X c σ ls ms r cs ds h1 h2 h3=>d6d B 65 a7W (fun h k=>d75 B h k) (by kernel_rfl) (by decide) h1 h2 h3,⟨fun X c σ ls ms r cs ds h1 h2 h3=>d6d B 126 a2p (fun h k=>d6J B h k) (by kernel_rfl) (by decide) h1 h2 h3,trivial⟩⟩
 arr:=⟨⟨Go.Proofs.Tryz.underlying65,by kernel_rfl⟩,⟨⟨Go.Proofs.Tryz.underlying296,by kernel_rfl⟩,trivial⟩⟩
 u8:=⟨⟨Go.Proofs.Tryz.underlying5,fun y=>⟨y,rfl⟩⟩,trivial⟩
 mp:=⟨⟨_,_,_,_,_,Go.Proofs.Tryz.underlying106,Go.Proofs.Tryz.underlying9,ti3,fun x h σ=>by cases h; exact rfl⟩,⟨⟨_,_,_,_,_,Go.Proofs.Tryz.underlying166,Go.Proofs.Tryz.underlying9,c7m,fun x h σ=>by cases h; exact ⟨none,0,rfl,Sl.nil_ _ _ _ (d8w _)⟩⟩,⟨⟨_,_,_,_,_,Go.Proofs.Tryz.underlying254,Go.Proofs.Tryz.underlying9,ti4,fun x h σ=>by cases h; exact rfl⟩,trivial⟩⟩⟩
 fb:=⟨⟨_,_,Go.Proofs.Tryz.func37,rfl,by kernel_rfl⟩,⟨⟨_,_,Go.Proofs.Tryz.func52,rfl,by kernel_rfl⟩,⟨⟨_,_,Go.Proofs.Tryz.func55,rfl,by kernel_rfl⟩,⟨⟨_,_,Go.Proofs.Tryz.func56,rfl,by kernel_rfl⟩,⟨⟨_,_,Go.Proofs.Tryz.func57,rfl,by kernel_rfl⟩,⟨⟨_,_,Go.Proofs.Tryz.func64,rfl,by kernel_rfl⟩,⟨⟨_,_,Go.Proofs.Tryz.func135,rfl,by kernel_rfl⟩,⟨⟨_,_,Go.Proofs.Tryz.func137,rfl,by kernel_rfl⟩,⟨⟨_,_,Go.Proofs.Tryz.func162,rfl,by kernel_rfl⟩,⟨⟨_,_,Go.Proofs.Tryz.func194,rfl,by kernel_rfl⟩,⟨⟨_,_,Go.Proofs.Tryz.func197,rfl,by kernel_rfl⟩,⟨⟨_,_,Go.Proofs.Tryz.func219,rfl,by kernel_rfl⟩,⟨⟨_,_,Go.Proofs.Tryz.func227,rfl,by kernel_rfl⟩,⟨⟨_,_,Go.Proofs.Tryz.func233,rfl,by kernel_rfl⟩,⟨⟨_,_,Go.Proofs.Tryz.func285,rfl,by kernel_rfl⟩,⟨⟨_,_,Go.Proofs.Tryz.func286,rfl,by kernel_rfl⟩,trivial⟩⟩⟩⟩⟩⟩⟩⟩⟩⟩⟩⟩⟩⟩⟩⟩
theorem b4k (B:Nat):TabOk d8m (tbJ B):=c7U (d6I B)
def d6R (B:Nat)(a:List (Nat×List (List Nat)))(b c:List (Nat×List Nat))(j:List (Nat×JH))(l:List (Nat×LH (J B)))(k:List (Nat×KH (J B)))(ns:List (Nat×NH (J B)))(u:List (Nat×Nat)):Hints (J B) :=
 ⟨fun i=>(asc a i).getD [],fun i=>(asc b i).getD [],fun i=>(asc c i).getD [],asc j,asc l,asc k,asc ns,fun i=>(asc u i).getD 0⟩
def b1x (B:Nat):Row (J B):=⟨265,[.d (.int .i64),.d (.sl 36)],[.k (.d (.bool))],a8Z⟩
theorem c2p (B:Nat):Z3 d8m (b1x B):=fun σ a vs pls res hA hd hr =>
 a0Z.mono (c3L σ a vs pls res hA hd hr) rfl fun _ τ hE ⟨ws,us,pls',hp⟩=>⟨τ,rfl,hE,ws,us,pls',⟨hp.ret,hp.len,hp.tt,hp.out,hp.nodup,hp.own⟩⟩
def c2D (B:Nat):Row (J B):=⟨266,[.d (.int .i64),.d (.sl 36),.d (.sl 36),.d (.sl 36),.bor 3],[.lvs [.row 100 false],.k (.d (.bool))],b4W⟩
theorem c4y (B:Nat):Z3 d8m (c2D B):=fun σ a vs pls res hA hd hr =>
 a0Z.mono (c5A σ a vs pls res hA hd hr) rfl fun _ τ hE ⟨ws,us,pls',hp⟩=>⟨τ,rfl,hE,ws,us,pls',⟨hp.ret,hp.len,hp.tt,hp.out,hp.nodup,hp.own⟩⟩
def a9s (B:Nat):Rio (J B):=⟨267,3,[.d (.sl 36)],[.k (.d (.bool))],a9f⟩
theorem b9c (B:Nat):a75 d8m (a9s B):=fun σ xs a vs pls res ys hA hd hr =>
 a0Z.mono (b9y σ xs a vs pls res ys hA hd hr) rfl fun _ τ hE ⟨ws,us,pls',hp,A,k,ow,h1,h2,h3,h4⟩=>⟨τ,rfl,hE,ws,us,pls',⟨hp.ret,hp.len,hp.tt,hp.out,hp.nodup,hp.own⟩,A,k,ow,h1,h2,h3,h4⟩
def b1B (B:Nat):Row (J B):=⟨266,[.d (.int .i64),.d (.sl 36),.d (.sl 36),.d (.sl 36),.bor 3],[.k (.d (.dat 273)),.k (.d .bool)],b9A⟩
theorem c2N (B:Nat):a26 d8m (b1B B) (fun w _=>B<=w.heap.size):=d7u (I:=J B) (T1:=36) (T2:=3) (G:=100) (E:=273) B a3O (fun l=>Api_Box.mk l) (fun _=>rfl) (fun σ x A c h1 h2=>@d16 Api_Box Api_Goal v6 B a3O σ x A c h1 h2) (c4y B)
theorem d67 (B:Nat){r:Row (J B)}(h:a26 d8m r (fun w _=>B<=w.heap.size)):EntOk d8m (c4T (tbJ B) r (fun _ _=>true)):=c2r (b4k B) h (fun _ _ _ _ _ _ _ _ _ _ h _ _=>d8C (h.base.2 273) h.base.1)
def esB (B:Nat):List (Ans (J B)):=[c54 (tbJ B) (b1x B),c4T (tbJ B) (b1B B) (fun _ _=>true),d3k (tbJ B) (a9s B)]
theorem d6Z (B:Nat):c5V d8m (esB B):=⟨b6O (b4k B) (c2p B),d67 B (c2N B),d0h (b4k B) (b9c B),trivial⟩
def c3g (B:Nat)(n:Nat):Hints (J B):=d6R B [] [] [(11,[1000009]),(17,[9])] [(8131,⟨2321137573660088015435890688,[],[],[(.normal,[(15,.k (.row 273 false))])]⟩)] [(254,⟨79228011398536885764897341696,[],[],[(14,.k (.row 3 false)),(15,.k (.row 273 false))],[(.ret,[(8,.k (.row 273 false)),(14,.k (.row 3 false))])],fun _=>some n⟩)] [] [(122,⟨⟨18889465929279557614848,[],[],[(41,.k (.d (.int .i64)))],[((.exit 0),[]),(.ret,[(8,.k (.row 273 false))])],bnd (tbJ B) (.slot 40) 1⟩,9,36⟩),
 (62666,⟨⟨147573671114699714560,[],[],[(48,.k (.d (.int .i64)))],[((.exit 2),[])],bnd (tbJ B) (.slot 47) 1⟩,9,36⟩)] []
def b0M (B n:Nat):Row (J B):=⟨232,[.d (.int .i64),.d (.sl 36),.d (.sl 36),.fn [.int .i64] [.k (.d (.bool))]],[.k (.row 273 false)],b8y n⟩
theorem c1W (B n:Nat):a26 d8m (b0M B n) (fun w _=>B<=w.heap.size) :=
 c5L (b4k B) (a5L (d6Z B) 3) mixed 96 (s0:=fun a=>a6A (tbJ B) 96 [.d (.int .i64),.d (.sl 36),.d (.sl 36),.fn [.int .i64] [.k (.d (.bool))]] a) (fn:=Go.Proofs.Tryz.f232) (cd:=b1d Go.Proofs.Tryz.f232) (H:=c3g B n) (rl:=[.tmp 8]) (fun X c σ a vs F h _ _ _=>h) Go.Proofs.Tryz.func232 (by kernel_rfl) (by kernel_rfl) (by kernel_rfl) (by kernel_rfl) (by kernel_rfl) (by kernel_rfl) (by kernel_rfl) (hlo:=.inr fun w vs h=>h)
def b3s:Row I:=⟨233,[.d (.int .i64),.var 27 (.k (.d (.dat 27))) false],[.k (.d (.bool))],a57⟩
theorem b3Z:RK (b3s) :=
 okR [] 11 Y4 [.tmp 3] Go.Proofs.Tryz.func233 (by kernel_rfl)
def a68 (B:Nat)(n:Nat):Row (J B):=⟨45,[.d (.dat 27)],[.k (.d (.int .i64))],K4 n⟩
theorem b3Y (B:Nat)(n:Nat):Z3 d8m (a68 B n):=fun σ a vs pls res hA hd hr =>
 a0Z.mono (a0U n σ a vs pls res hA hd hr) rfl fun _ τ hE ⟨ws,us,pls',hp⟩=>⟨τ,rfl,hE,ws,us,pls',⟨hp.ret,hp.len,hp.tt,hp.out,hp.nodup,hp.own⟩⟩
def b1E (B:Nat):Row (J B):=⟨231,[.d (.dat 27),.d (.sl 3),.d (.int .i64),.d (.int .i64)],[.k (.row 36 false),.k (.d (.bool))],a85⟩
theorem c23 (B:Nat):Z3 d8m (b1E B):=fun σ a vs pls res hA hd hr =>
 a0Z.mono (c3V σ a vs pls res hA hd hr) rfl fun _ τ hE ⟨ws,us,pls',hp⟩=>⟨τ,rfl,hE,ws,us,pls',⟨hp.ret,hp.len,hp.tt,hp.out,hp.nodup,hp.own⟩⟩
def a6L (B:Nat):Row (J B):=⟨233,[.d (.int .i64),.var 27 (.k (.d (.dat 27))) false],[.k (.d (.bool))],a57⟩
theorem b2v (B:Nat):Z3 d8m (a6L B):=fun σ a vs pls res hA hd hr =>
 a0Z.mono (b3Z σ a vs pls res hA hd hr) rfl fun _ τ hE ⟨ws,us,pls',hp⟩=>⟨τ,rfl,hE,ws,us,pls',⟨hp.ret,hp.len,hp.tt,hp.out,hp.nodup,hp.own⟩⟩
def esC (B n:Nat):List (Ans (J B)):=[c54 (tbJ B) (a68 B n),c54 (tbJ B) (b1E B),c4T (tbJ B) (b0M B n) (fun _ _=>true),c54 (tbJ B) (a6L B)]
theorem d7h (B n:Nat):c5V d8m (esC B n):=⟨b6O (b4k B) (b3Y B n),b6O (b4k B) (c23 B),d67 B (c1W B n),b6O (b4k B) (b2v B),trivial⟩
def b7b (B:Nat)(_:Nat):Hints (J B):=d6R B [(1,[[],[0],[],[0,1,2]])] [] [] [(29,⟨3932400,[],[],[(.normal,[(6,.k (.d (.int .i64))),(7,.k (.d (.int .i64)))]),(.ret,[(4,.k (.row 273 false)),(5,.k (.d (.int .i64)))])]⟩)] [] [] [] []
def b3O (B n:Nat):Row (J B):=⟨205,[.d (.dat 27),.d (.dat 216)],[.k (.d (.sl 273)),.k (.d (.int .i64))],a62 n⟩
theorem d7Z (B:Nat):FlipTy (γ:=J B 273) (δ:=J B 100) B a3O (fun g:Api_Goal=>g.Pos) (fun g:Api_Goal=>g.Neg) (fun g:Api_Goal=>g.Lists):=⟨rfl,rfl,Iff.rfl,by
 intro σ d cs
 constructor
 ·rintro ⟨_,_,rfl,⟨A1,c1,rfl,h1⟩,_,_,rfl,⟨A2,c2,rfl,h2⟩,rfl⟩
  exact ⟨A1,c1,A2,c2,rfl,h1,h2⟩
 ·rintro ⟨A1,c1,A2,c2,rfl,h1,h2⟩
  exact ⟨_,_,rfl,⟨A1,c1,rfl,h1⟩,_,_,rfl,⟨A2,c2,rfl,h2⟩,rfl⟩⟩
theorem d5s (x:Api_Box)(d0 d1:Api_Goal)(r:List Api_Goal)(h:x.Parts=d0::d1::r):(a9i x).Parts=d0::b3x d1::r:=by
 unfold a9i
 rw [h]
theorem b5H (B n:Nat):a26 d8m (b3O B n) (fun w _=>w.heap.size=B) :=
 d5x (I:=J B) (B:=B) (E:=273) (G:=100) (H:=b7b B n) (b4k B) (a5L (d7h B n) 3) mixed (d7Z B) (setL:=b3x) (setB:=a9i) d5s (fun _=>⟨rfl,rfl,rfl⟩) (ok:=c2b) (fun x h=>d8N h) (cd:=b1d Go.Proofs.Tryz.f205) (rl:=[.tmp 4,.tmp 5]) Go.Proofs.Tryz.func205 (by kernel_rfl) (by kernel_rfl) (by kernel_rfl) (by kernel_rfl) rfl Go.Proofs.Tryz.underlying269 (by kernel_rfl) ⟨_,_,Go.Proofs.Tryz.underlying273,rfl,rfl,by kernel_rfl⟩ d1m Go.Proofs.Tryz.underlying184 (by kernel_rfl) ⟨_,_,Go.Proofs.Tryz.underlying100,rfl,rfl,by kernel_rfl⟩ (by kernel_rfl) Go.Proofs.Tryz.underlying269 (by kernel_rfl) (by kernel_rfl) (by kernel_rfl) rfl (by kernel_rfl)
def b5w (n:Nat):Row I:=⟨205,[.d (.dat 27),.d (.dat 216)],[.k (.d (.sl 273)),.k (.d (.int .i64))],a62 n⟩
theorem b67 (n:Nat):RK (b5w n):=fun σ a vs pls res hA hd hr =>
 a0Z.mono (b5H σ.w.heap.size n σ a vs pls res hA rfl hd hr) rfl fun v τ hE ⟨ws,us,pls',hp⟩=>by
  obtain ⟨v1,r,p1,p2,e1,e2,⟨⟨A,c,e3,hs⟩,e4⟩,h2⟩:=hp.tt
  exact ⟨τ,rfl,hE,ws,us,pls',hp.ret,hp.len,⟨v1,r,p1,p2,e1,e2,⟨⟨A,c,e3,d66 (a:=v6) (to:=a3O) hs⟩,e4⟩,h2⟩,hp.out,hp.nodup,hp.own⟩
def c1t:Row I:=⟨286,[.d (.int .i64),.var 27 (.k (.d (.dat 27))) false],[.k (.d (.bool))],b8u⟩
theorem c2l:RK (c1t) :=
 okR [] 22 Y4 [.tmp 3] Go.Proofs.Tryz.func286 (by kernel_rfl)
def c3G:Row I:=⟨268,[.d (.dat 27),.d (.sl 3)],[.k (.d (.bool))],b47⟩
theorem c5m:RK (c3G) :=
 okR [eR a00,eR c2l] 9 Y4 [.tmp 4] Go.Proofs.Tryz.func268 (by kernel_rfl)
def a8e:Hints I:=mkH [(6,[[],[],[0,1],[0,1,2],[],[],[5],[4,5,6],[4,5,6,7],[0,1,2,3,4,5,6,7,8]]),(11,[[],[],[0,1],[0,1,2],[],[],[5],[4,5,6],[4,5,6,7],[0,1,2,3,4,5,6,7,8]])] [] [] [] [(58,⟨1152921504606846012,[],[],[(0,.k (.row 126 false)),(3,.k (.d (.int .i64)))],[((.exit 0),[(0,.k (.row 126 false))]),(.ret,[(2,.k (.row 126 false))])],bnd tb (.len (.slot 0)) 1⟩)] [(59690,⟨18014397972611112,0,.row 126,[(3,.k (.d (.int .i64))),(5,.k (.d (.int .i64)))],[((.exit 2),[(3,.k (.d (.int .i64)))])],bnd tb (.len (.slot 4)) 1,0⟩)] [] []
def a7F:Row I:=⟨289,[.row 126 false],[.k (.row 126 false)],a4R⟩
theorem a7S:RK (a7F) :=
 okR [] 61 a8e [.tmp 2] Go.Proofs.Tryz.func289 (by kernel_rfl)
def a8B:Row I:=⟨288,[.d (.sl 126)],[.k (.row 126 true)],a5B⟩
theorem a9l:RK (a8B) :=
 okR [] 9 Y4 [.tmp 2] Go.Proofs.Tryz.func288 (by kernel_rfl)
def c4o:Hints I:=mkH [] [] [] [] [(58,⟨17179865760,[],[],[(5,.k (.row 126 false)),(12,.k (.d (.int .i64)))],[((.exit 0),[(5,.k (.row 126 false))])],bnd tb (.slot 11) 1⟩),
 (14950,⟨8581546528,[],[],[(5,.k (.row 126 false)),(23,.k (.d (.int .i64)))],[((.exit 2),[(5,.k (.row 126 false))])],bnd tb (.slot 22) 1⟩)] [] [] []
noncomputable def c1w:Row I:=⟨269,[.d (.dat 27),.d (.sl 3)],[.k (.row 126 true)],b8w⟩
theorem c28:RK (c1w) :=
 okR [eO d63,eR a89,eR a7S,eR a9l] 39 c4o [.tmp 4] Go.Proofs.Tryz.func269 (by kernel_rfl)
def d2m:Hints I:=mkH [] [] [] [] [(26,⟨2096208,[],[],[(10,.k (.d (.int .i64)))],[((.exit 0),[]),(.ret,[(4,.k (.d (.int .i64)))])],bnd tb (.slot 9) 1⟩)] [] [] []
def c9U:Row I:=⟨292,[.d (.dat 67),.d (.dat 126)],[.k (.d (.int .i64))],c1e⟩
theorem c4W:RK (c9U) :=
 okR [] 26 d2m [.tmp 4] Go.Proofs.Tryz.func292 (by kernel_rfl)
def c3S:Hints I:=mkH [] [] [] [] [(26,⟨4193360,[],[],[(10,.k (.d (.int .i64)))],[((.exit 0),[]),(.ret,[(4,.k (.d (.bool)))])],bnd tb (.slot 9) 1⟩)] [] [] []
def c1z:Row I:=⟨293,[.d (.dat 67),.d (.dat 126)],[.k (.d (.bool))],b1s⟩
theorem b3l:RK (c1z) :=
 okR [] 22 c3S [.tmp 4] Go.Proofs.Tryz.func293 (by kernel_rfl)
def c3d:Hints I:=mkH [(6,[[],[0],[],[2],[],[2,3,4],[2,3,4,5],[],[2,3,4,5,6,7],[2,3,4,5,6,7,8],[0,1,2,3,4,5,6,7,8,9],[0,1,2,3,4,5,6,7,8,9,10],[0,1,2,3,4,5,6,7,8,9,10,11]]),(7,[[],[0],[],[0,1,2],[0,1,2,3],[],[0,1,2,3,4,5]]),(15,[[],[0],[],[2],[],[4],[],[4,5,6],[4,5,6,7],[2,3,4,5,6,7,8],[2,3,4,5,6,7,8,9],[],[2,3,4,5,6,7,8,9,10,11],[2,3,4,5,6,7,8,9,10,11,12],[0,1,2,3,4,5,6,7,8,9,10,11,12,13],[0,1,2,3,4,5,6,7,8,9,10,11,12,13,14],[0,1,2,3,4,5,6,7,8,9,10,11,12,13,14,15]]),(22,[[],[],[1],[],[3],[],[5],[1,2,3,4,5,6],[1,2,3,4,5,6,7],[0,1,2,3,4,5,6,7],[0,1,2,3,4,5,6,7,9],[0,1,2,3,4,5,6,7,8,9,10]])] [] [(22,[13])] [] [(122,⟨140737480048640,[],[(13,.lvs [.row 3 false,.row 3 false,.d (.bool)])],[(14,.k (.d (.int .i64))),(23,.k (.d (.int .i64)))],[((.exit 0),[(14,.k (.d (.int .i64)))])],bnd tb (.slot 22) 1⟩),
 (506,⟨604462909244364634865664,[],[(13,.lvs [.row 3 false,.row 3 false,.d (.bool)])],[(14,.k (.d (.int .i64))),(17,.k (.d (.bool))),(49,.k (.d (.int .i64)))],[((.exit 2),[(14,.k (.d (.int .i64))),(17,.k (.d (.bool)))])],bnd tb (.slot 48) 1⟩)] [] [] []
def b9k:Row I:=⟨290,[.d (.dat 27),.d (.dat 216),.d (.int .i64),.d (.dat 126),.bor 336],[.k (.d (.int .i64)),.k (.d (.dat 100)),.k (.d (.bool))],b6x⟩
theorem c1O:RK (b9k) :=
 okR [eR c4W,eR b3l,eR a32,eR a8h] 92 c3d [.tmp 10,.cell 11 100,.tmp 12] Go.Proofs.Tryz.func290 (by kernel_rfl)
def c41:Hints I:=mkH [(17,[[],[],[],[1,2],[1,2,3],[1,2,3,4],[],[6],[],[],[6,7,8],[6,7,8,10],[6,7,8,9,10,11],[6,7,8,9,10,11,12],[6,7,8,9,10,11,12,13],[1,2,3,4,5,6,7,8,9,10,11,12,13,14],[],[0,1,2,3,4,5,6,7,8,9,10,11,12,13,14,15,16],[0,1,2,3,4,5,6,7,8,9,10,11,12,13,14,15,16,17],[0,1,2,3,4,5,6,7,8,9,10,11,12,13,14,15,16,17,18]]),(29,[[],[0],[],[2],[],[2,3,4],[2,3,4,5],[],[7],[0,1,2,3,4,5,6],[0,1,2,3,4,5,6,9],[0,1,2,3,4,5,6,7,8,9,10],[0,1,2,3,4,5,6,7,8,9,10,11],[0,1,2,3,4,5,6,7,8,9,10,11,12]])] [] [(7,[10]),(8,[10]),(9,[10]),(10,[10])] [(129638,⟨42530103568258773105293295432646000640,[],[],[(.normal,[(22,.k (.d (.int .i64)))])]⟩),
 (518556,⟨10846500445604913522895065611887611740160,[],[],[(.normal,[(132,.k (.d (.bool)))])]⟩)] [(58,⟨576460752035052032,[10],[(8,.lvs [.d (.sl 126),.d (.sl 3),.d (.sl 100),.d (.sl 3),.d (.sl 3),.d (.bool),.d (.sl 3),.d (.sl 3),.d (.bool),.d (.sl 302)]),(10,.lvs [.row 126 true,.row 3 true,.row 100 true,.row 3 true,.row 3 true,.d (.bool),.row 3 true,.row 3 true,.d (.bool),.row 302 true])],[(28,.k (.d (.int .i64)))],[((.exit 0),[]),(.ret,[(9,.k (.d (.bool)))])],bnd tb (.slot 27) 1⟩),
 (122,⟨1237940034673694256472129536,[],[(10,.lvs [.row 126 true,.row 3 true,.row 100 true,.row 3 true,.row 3 true,.d (.bool),.row 3 true,.row 3 true,.d (.bool),.row 302 true])],[(62,.k (.d (.int .i64)))],[((.exit 2),[])],bnd tb (.slot 61) 1⟩),
 (506,⟨89202980794102210156539221420169498779976192,[],[(8,.k (.d (.dat 299))),(10,.lvs [.row 126 true,.row 3 true,.row 100 true,.d (.sl 3),.d (.sl 3),.d (.bool),.d (.sl 3),.d (.sl 3),.d (.bool),.row 302 true])],[(104,.k (.d (.int .i64)))],[((.exit 8),[]),(.ret,[(9,.k (.d (.bool)))])],bnd tb (.slot 103) 1⟩)] [] [] [(250,3),(31334,3)]
def c2g:Row I:=⟨271,[.d (.dat 27),.d (.dat 216),.d (.sl 126),.bor 336],[.k (.d (.dat 299)),.k (.d (.bool))],b9z⟩
theorem c34:RK (c2g) :=
 okR [eR d1F,eR c1O,eR a32,eR a6h] 147 c41 [.cell 8 299,.tmp 9] Go.Proofs.Tryz.func271 (by kernel_rfl)
def b8G:Row I:=⟨291,[.d (.int .i64),.var 27 (.k (.d (.dat 27))) false],[.k (.d (.bool))],a8N⟩
theorem c0k:RK (b8G) :=
 okR [] 11 Y4 [.tmp 3] Go.Proofs.Tryz.func291 (by kernel_rfl)
def c4w:Hints I:=mkH [] [] [] [(16024,⟨105553116272640,[],[],[(.normal,[(11,.k (.d (.int .i64))),(12,.k (.d (.int .i64)))])]⟩),
 (31333,⟨4160749824,[],[],[(.normal,[(8,.k (.row 336 false))])]⟩)] [(122,⟨2199023191808,[],[],[(8,.k (.row 336 false)),(16,.k (.d (.int .i64)))],[((.exit 0),[(8,.k (.row 336 false))])],bnd tb (.slot 15) 1⟩),
 (250,⟨144106391982840064,[],[],[(8,.k (.row 336 false)),(43,.k (.d (.int .i64)))],[((.exit 2),[(8,.k (.row 336 false))])],bnd tb (.cst 2) 1⟩)] [] [] []
def c1I:Row I:=⟨272,[.d (.dat 27),.d (.dat 67),.d (.sl 126)],[.k (.row 336 false)],b8t⟩
theorem c2w:RK (c1I) :=
 okR [eR c4W,eR c0k,eR b3l] 58 c4w [.tmp 6] Go.Proofs.Tryz.func272 (by kernel_rfl)
def c1q (_:Nat):Hints I:=mkH [(4,[[],[],[1],[],[3],[],[3,4,5],[3,4,5,6],[1,2,3,4,5,6,7],[1,2,3,4,5,6,7,8],[],[0,1,2,3,4,5,6,7,8,9,10],[0,1,2,3,4,5,6,7,8,9,10,11],[]])] [] [] [(83,⟨1006632960,[],[(5,.k (.row 299 false))],[(.normal,[])]⟩)] [(14,⟨72048797944907776,[],[(4,.k (.row 336 false)),(5,.k (.row 299 false))],[(41,.k (.row 336 false)),(43,.k (.d (.int .i64)))],[((.exit 0),[(41,.k (.row 336 false))])],bnd tb (.slot 42) 1⟩)] [] [] []
def a6B (n:Nat):Row I:=⟨270,[.d (.int .i64),.var 216 (.k (.d (.dat 216))) false,.var 27 (.k (.d (.dat 27))) false,.var 39 (.k (.d (.sl 126))) false,.var 330 (.k (.row 336 false)) true,.var 293 (.k (.row 299 false)) true,.var 331 (.k (.d .any)) false],[],a8R n⟩
theorem b8U (n:Nat)(h_record_Shapes_1:a26 d8m (a6B n) (b2d 331 270 6 [1,2,3,4,5,6])):a26 d8m (a6B (n+1)) (b2d 331 270 6 [1,2,3,4,5,6]) :=
 c5L a5I (a5L (b3N [eR c34,eR c2w,eS 331 270 6 [1,2,3,4,5,6] h_record_Shapes_1]) 3) mixed 56 (s0:=fun a=>d0J 331 270 7 6 [1,2,3,4,5,6] (a6A tb 56 [.d (.int .i64),.var 216 (.k (.d (.dat 216))) false,.var 27 (.k (.d (.dat 27))) false,.var 39 (.k (.d (.sl 126))) false,.var 330 (.k (.row 336 false)) true,.var 293 (.k (.row 299 false)) true,.var 331 (.k (.d .any)) false] a)) (fn:=Go.Proofs.Tryz.f270) (cd:=b1d Go.Proofs.Tryz.f270) (H:=(c1q n)) (rl:=[]) (fun X c σ a vs F h hv _ hC=>c8z rfl rfl rfl h hv hC) Go.Proofs.Tryz.func270 (by kernel_rfl) (by kernel_rfl) (by kernel_rfl) (by kernel_rfl) (by kernel_rfl) (by kernel_rfl) (by kernel_rfl)
theorem b00:∀ n:Nat,a26 d8m (a6B n) (b2d 331 270 6 [1,2,3,4,5,6])
 | 0=>c6m (a0h (by kernel_rfl))
 | n+1=>b8U n (b00 n)
def c3v (_:Nat):Hints I:=mkH [(5,[[],[],[1],[1,2],[],[4],[1,2,3,4,5],[0,1,2,3,4,5,6],[],[0,1,2,3,4,5,6,7,8]])] [] [] [] [] [] [] []
noncomputable def c1Z (n:Nat):Row I:=⟨234,[.d (.dat 27),.d (.dat 216)],[.k (.row 299 false),.k (.d (.int .i64))],b8v n⟩
theorem c2W (n:Nat):RK (c1Z n) :=
 okR [eR (a0U n),eR c5m,eR b3u,eR c28,eS 331 270 6 [1,2,3,4,5,6] (b00 n)] 46 (c3v n) [.tmp 4,.tmp 5] Go.Proofs.Tryz.func234 (by kernel_rfl)
def c6B (_:Nat):Hints I:=mkH [(12,[[],[0],[],[2],[],[2,3,4],[2,3,4,5],[2,3,4,5,6],[0,1,2,3,4,5,6,7],[0,1,2,3,4,5,6,7,8],[0,1,2,3,4,5,6,7,8,9]]),(20,[[],[0],[0,1],[0,1,2],[],[4],[],[4,5,6],[4,5,6,7],[4,5,6,7,8],[0,1,2,3,4,5,6,7,8,9],[],[11],[11,12],[0,1,2,3,4,5,6,7,8,9,10,11,12,13],[],[15],[],[15,16,17],[15,16,17,18],[15,16,17,18,19],[0,1,2,3,4,5,6,7,8,9,10,11,12,13,14,15,16,17,18,19,20],[0,1,2,3,4,5,6,7,8,9,10,11,12,13,14,15,16,17,18,19,20,21],[],[0,1,2,3,4,5,6,7,8,9,10,11,12,13,14,15,16,17,18,19,20,21,22,23]]),(22,[[],[0],[],[2],[2,3],[0,1,2,3,4],[0,1,2,3,4,5],[0,1,2,3,4,5,6]])] [] [] [(256701646,⟨5070601796450007798672225599488,[],[],[(.normal,[(17,.k (.pv 100))])]⟩)] [(122,⟨2658455991569831745807614120493825664,[24],[],[(7,.k (.row 190 false)),(26,.k (.d (.int .i64)))],[((.exit 0),[(7,.k (.row 190 false))])],bnd tb (.slot 25) 1⟩),
 (125338,⟨2305843000623765504,[],[(10,.lvs [.d (.int .i64),.d (.int .i64),.d (.str),.row 42 false,.row 126 false,.row 120 false,.row 9 false,.row 126 false,.row 338 false,.row 100 false])],[(33,.k (.d (.int .i64)))],[((.exit 2),[])],bnd tb (.slot 32) 1⟩),
 (501370,⟨83076749736557094482535351591346176,[13],[(10,.lvs [.d (.int .i64),.d (.int .i64),.d (.str),.row 42 false,.row 126 false,.row 120 false,.row 9 false,.row 126 false,.row 338 false,.row 100 false])],[(13,.k (.row 126 true)),(67,.k (.d (.int .i64)))],[((.exit 4),[])],bnd tb (.slot 66) 1⟩)] [] [] []
noncomputable def c4c (n:Nat):Row I:=⟨206,[.d (.dat 27),.d (.dat 216)],[.k (.row 190 false)],c18 n⟩
theorem c5B (n:Nat):RK (c4c n) :=
 okR [eR (c2W n),eR d1F,eR (b1A n),eR b3u,eR a32] 122 (c6B n) [.tmp 4] Go.Proofs.Tryz.func206 (by kernel_rfl)
def c6K (_:Nat):Hints I:=mkH [] [] [] [(429,⟨2684354560,[],[],[(.normal,[(29,.k (.d (.bool)))])]⟩),
 (1725,⟨1407374883553280,[],[],[(.normal,[(48,.k (.d (.bool)))])]⟩),
 (3445,⟨128,[],[],[(.normal,[(7,.k (.d (.int .i64)))])]⟩)] [(55258,⟨1180015159965107900416,[],[],[(12,.k (.row 190 false)),(59,.k (.d (.int .i64)))],[((.exit 1),[(12,.k (.row 190 false))])],bnd tb (.slot 58) 1⟩)] [] [] []
end Go.Qx
end
section
open Go.Proofs.Tryz renaming prog->d8m
namespace Go.Qx
open Go Go.RowKit Go.Sx
set_option maxHeartbeats 1600000
set_option maxRecDepth 100000
noncomputable def c4m (n:Nat):Row I:=⟨175,[.d (.dat 27),.d (.dat 216)],[.k (.row 190 false)],c2a n⟩
theorem c5v (n:Nat):RK (c4m n) :=
 okR [eR c1r,eR (c1F n),eR (b67 n),eR (c5B n)] 83 (c6K n) [.tmp 4] Go.Proofs.Tryz.func175 (by kernel_rfl)
def c6J (_:Nat):Hints I:=mkH [] [] [] [] [(58,⟨1073737888,[10],[],[(5,.k (.row 190 false)),(12,.k (.d (.int .i64)))],[((.exit 0),[(5,.k (.row 190 false))])],bnd tb (.slot 11) 1⟩)] [] [] []
noncomputable def c4K (n:Nat):Row I:=⟨156,[.d (.dat 27),.d (.dat 216)],[.k (.row 190 false)],c16 n⟩
theorem c5q (n:Nat):RK (c4K n) :=
 okR [eR (c5v n),eR c0D] 31 (c6J n) [.tmp 4] Go.Proofs.Tryz.func156 (by kernel_rfl)
def c8U (_:Nat):Hints I:=mkH [(11,[[],[0],[],[2],[2,3],[0,1,2,3,4],[0,1,2,3,4,5],[0,1,2,3,4,5,6],[],[0,1,2,3,4,5,6,7,8]])] [] [] [] [(58,⟨37778931862957161215648,[17],[],[(5,.k (.row 193 false)),(19,.k (.d (.int .i64)))],[((.exit 0),[(5,.k (.row 193 false))])],bnd tb (.slot 18) 1⟩),
 (119610,⟨1180589368917597646848,[],[],[(51,.k (.d (.int .i64)))],[((.exit 4),[])],bnd tb (.slot 50) 1⟩),
 (239186,⟨1098437886496,[28],[],[(5,.k (.row 193 false)),(30,.k (.d (.int .i64)))],[((.exit 2),[(5,.k (.row 193 false))])],bnd tb (.slot 29) 1⟩)] [] [] []
noncomputable def c5t (n:Nat):Row I:=⟨143,[.d (.dat 27),.d (.dat 100)],[.k (.row 193 false)],c4Q n⟩
theorem c6C (n:Nat):RK (c5t n) :=
 okR [eR (c4Y n),eR (c5q n),eR c0D] 76 (c8U n) [.tmp 4] Go.Proofs.Tryz.func143 (by kernel_rfl)
def c63:Hints I:=mkH [(3,[[],[0],[0,1],[],[3],[3,4],[0,1,2,3,4,5],[0,1,2,3,4,5,6]])] [] [] [] [] [] [] []
def c4U:Row I:=⟨160,[.d (.dat 224)],[.k (.d (.sl 100))],b4S⟩
theorem b69:RK (c4U) :=
 okR [eR d2r] 14 c63 [.tmp 2] Go.Proofs.Tryz.func160 (by kernel_rfl)
def c3i:Hints I:=mkH [] [] [] [] [(58,⟨2147451048,[],[],[(3,.k (.row 100 false)),(15,.k (.d (.int .i64)))],[((.exit 0),[(3,.k (.row 100 false))])],bnd tb (.slot 14) 1⟩),
 (14950,⟨1071644808,[],[],[(3,.k (.row 100 false)),(21,.k (.d (.int .i64)))],[((.exit 2),[(3,.k (.row 100 false))])],bnd tb (.slot 20) 1⟩)] [] [] []
def b9N:Row I:=⟨144,[.d (.dat 193)],[.k (.row 100 false)],b68⟩
theorem c1A:RK (b9N) :=
 okR [eR d2r,eR b69] 32 c3i [.tmp 2] Go.Proofs.Tryz.func144 (by kernel_rfl)
def a6t:Hints I:=mkH [] [] [] [] [(26,⟨524080,[],[],[(8,.k (.d (.int .i64)))],[((.exit 0),[]),(.ret,[(4,.k (.d (.int .i64)))])],bnd tb (.slot 7) 1⟩)] [] [] []
def a5S:Row I:=⟨179,[.d (.sl 193),.fn [.dat 193] [.k (.d (.bool))]],[.k (.d (.int .i64))],a27⟩
theorem a6g:RK (a5S) :=
 okR [] 19 a6t [.tmp 4] Go.Proofs.Tryz.func179 (by kernel_rfl)
def a44:Row I:=⟨161,[.d (.sl 193),.fn [.dat 193] [.k (.d (.bool))]],[.k (.d (.bool))],a2s⟩
theorem a5y:RK (a44) :=
 okR [eR a6g] 9 Y4 [.tmp 4] Go.Proofs.Tryz.func161 (by kernel_rfl)
def b5i:Hints I:=mkH [(5,[[],[0],[],[2],[0,1,2,3],[0,1,2,3,4]])] [] [] [] [(58,⟨134214512,[],[],[(6,.k (.d (.int .i64))),(12,.k (.d (.int .i64)))],[((.exit 0),[(6,.k (.d (.int .i64)))]),(.ret,[(4,.k (.d (.int .i64))),(5,.k (.d (.bool)))])],bnd tb (.slot 11) 1⟩)] [] [] []
def b3t:Row I:=⟨180,[.lnt [.map 166 (.sl 193),.map 106 (.int .i64)],.d (.sl 100)],[.k (.d (.int .i64)),.k (.d (.bool))],a5X⟩
theorem a7x:RK (b3t) :=
 okR [eR c3I] 28 b5i [.tmp 4,.tmp 5] Go.Proofs.Tryz.func180 (by kernel_rfl)
def b99:Hints I:=mkH [(4,[[],[],[1],[0,1,2],[0,1,2,3],[0,1,2,3,4],[0,1,2,3,4],[0,1,2,3,4,5],[0,1,2,3,4,5,6,7]])] [] [] [] [(26,⟨137438947168,[],[(4,.lvs [.d (.sl 100),.d (.bool),.d (.sl 3),.d (.sl 3),.d (.bool)])],[(5,.k (.d (.int .i64))),(6,.k (.d (.bool))),(13,.k (.d (.int .i64)))],[((.exit 0),[(5,.k (.d (.int .i64))),(6,.k (.d (.bool)))])],bnd tb (.slot 12) 1⟩)] [] [] []
def b7R:Row I:=⟨181,[.lnt [.map 166 (.sl 193),.map 106 (.int .i64)],.d (.sl 224)],[.k (.d (.dat 224)),.k (.d (.int .i64)),.k (.d (.bool))],b3i⟩
theorem b8L:RK (b7R) :=
 okR [eR b69,eR a7x] 40 b99 [.cell 4 224,.tmp 5,.tmp 6] Go.Proofs.Tryz.func181 (by kernel_rfl)
def b7Q:Hints I:=mkH [] [] [] [] [(122,⟨4398012960560,[],[],[(5,.k (.d (.int .i64))),(25,.k (.d (.int .i64)))],[((.exit 0),[(5,.k (.d (.int .i64)))]),(.ret,[(4,.k (.d (.int .i64)))])],bnd tb (.slot 24) 1⟩)] [] [] []
def b5k:Row I:=⟨163,[.lnt [.map 166 (.sl 193),.map 106 (.int .i64)],.d (.dat 193)],[.k (.d (.int .i64))],b0E⟩
theorem b6T:RK (b5k) :=
 okR [eR a7x,eR b8L] 44 b7Q [.tmp 4] Go.Proofs.Tryz.func163 (by kernel_rfl)
def b5h:En:=⟨⟨162,b8p tb 168 166 106 (.sl 193) (.int .i64) (.dat 193) [.bool] (fun ma mb q=>a9J q (ma,mb))⟩,d41 (nt:=8) (cd:=b1d Go.Proofs.Tryz.f162) (rl:=[.tmp 3]) (H:=Y4) a5I (a5L (b3N [eR b6T]) 3) mixed Go.Proofs.Tryz.func162 (by kernel_rfl) (by kernel_rfl) (by kernel_rfl) (by kernel_rfl) (by kernel_rfl) (by kernel_rfl) (by kernel_rfl)⟩
def b8B:Hints I:=mkH [] [] [(9,[7])] [] [(58,⟨17179853440,[],[],[(7,.k (.row 9 false)),(14,.k (.d (.int .i64)))],[((.exit 0),[(7,.k (.row 9 false))])],bnd tb (.slot 13) 1⟩)] [(122,⟨35115652614144,0,.map 106 (.int .i64),[(36,.k (.d (.int .i64)))],[((.exit 2),[])],bnd tb (.slot 35) 1,1⟩)] [] []
def b7l:En:=⟨⟨145,b8o tb 166 106 (.sl 193) (.int .i64) [.sl 9,.int .i64] [.bool] (fun ma mb q=>b1G (ma,mb) q.1 q.2.1)⟩,d5p (nt:=48) (cd:=b1d Go.Proofs.Tryz.f145) (rl:=[.tmp 6]) (H:=b8B) a5I (a5L (b3N [eR a5y,b5h]) 3) mixed Go.Proofs.Tryz.func145 (by kernel_rfl) (by kernel_rfl) (by kernel_rfl) (by kernel_rfl) (by kernel_rfl) (by kernel_rfl) (by kernel_rfl)⟩
def c32 (n:Nat):Hints I:=mkH [] [] [] [] [(124,⟨147573952589674340288,[],[(5,.lvs [.map 166 (.sl 193),.map 106 (.int .i64)])],[(6,.k (.row 100 false)),(7,.k (.row 9 false))],[((.exit 0),[(7,.k (.row 9 false))])],fun _=>some n⟩),
 (506,⟨9297159013149614047232,[7],[(5,.lvs [.map 166 (.sl 193),.map 106 (.int .i64)])],[(15,.k (.d (.int .i64)))],[((.exit 4),[])],fun _=>some n⟩),
 (509438,⟨147285722213524717632,[],[],[(6,.k (.row 100 false)),(58,.k (.d (.int .i64)))],[((.exit 2),[(6,.k (.row 100 false))])],bnd tb (.slot 57) 1⟩)] [] [] []
noncomputable def c1j (n:Nat):Row I:=⟨126,[.d (.dat 27),.d (.dat 100)],[.lvs [.map 166 (.sl 193),.map 106 (.int .i64)]],b8x n⟩
theorem c24 (n:Nat):RK (c1j n) :=
 okR [eR c3I,eR (c6C n),eR c1A,b7l] 74 (c32 n) [.cell 4 168] Go.Proofs.Tryz.func126 (by kernel_rfl)
def b8F (_:Nat):Hints I:=mkH [(3,[[],[],[0,1],[0,1,2],[],[0,1,2,4],[0,1,2,3,4,5],[0,1,2,3,4,5,6]])] [] [] [] [] [] [] []
noncomputable def b5X (n:Nat):Row I:=⟨96,[.d (.dat 27),.d (.dat 100)],[.k (.d (.int .i64))],b1t n⟩
theorem b7F (n:Nat):RK (b5X n) :=
 okR [eR (a0U n),eR b66,eR (c24 n),eR c3I] 21 (b8F n) [.tmp 4] Go.Proofs.Tryz.func96 (by kernel_rfl)
noncomputable def b81 (n:Nat):Row I:=⟨61,[.d (.dat 27),.d (.dat 100)],[.k (.d (.bool))],b4s n⟩
theorem c0j (n:Nat):RK (b81 n) :=
 okR [eR (b7F n)] 9 Y4 [.tmp 4] Go.Proofs.Tryz.func61 (by kernel_rfl)
noncomputable def b6Z (n:Nat):Row I:=⟨38,[.d (.dat 27),.d (.dat 27)],[.k (.d (.bool))],b1D n⟩
theorem b7h (n:Nat):RK (b6Z n) :=
 okR [eR (b9a n),eR (c0j n)] 17 Y4 [.tmp 4] Go.Proofs.Tryz.func38 (by kernel_rfl)
def b8J (_:Nat):Hints I:=mkH [(1,[[],[0],[],[0,1,2],[],[4],[],[0,1,2,3,4,5,6],[0,1,2,3,4,5,6,7],[0,1,2,3,4,5,6,7,8],[0,1,2,3,4,5,6,7,8,9]])] [] [] [] [] [] [] []
noncomputable def b62 (n:Nat):Row I:=⟨37,[.d (.dat 51),.var 62 (.k (.d (.sl 61))) false],[.k (.d (.bool))],b1z n⟩
theorem b7x (n:Nat):RK (b62 n) :=
 okR [eR (b5M n),eR (b7h n)] 14 (b8J n) [.tmp 3] Go.Proofs.Tryz.func37 (by kernel_rfl)
noncomputable def b9h (n:Nat):Row I:=⟨19,[.d (.sl 51),.d (.sl 61)],[.k (.d (.bool))],a9d n⟩
theorem b0z (n:Nat):RK (b9h n) :=
 okR [eR a3k,eR (b7x n)] 9 Y4 [.tmp 4] Go.Proofs.Tryz.func19 (by kernel_rfl)
def c6L (_:Nat):Hints I:=mkH [(26,[[],[],[],[1,2],[1,2,3],[],[],[5,6],[5,6,7],[1,2,3,4,5,6,7,8],[1,2,3,4,5,6,7,8,9],[0,1,2,3,4,5,6,7,8,9,10],[0,1,2,3,4,5,6,7,8,9,10,11]])] [] [(23,[12])] [] [(122,⟨17146315456,[],[],[(9,.k (.d (.int .i64))),(25,.k (.d (.int .i64)))],[((.exit 0),[(9,.k (.d (.int .i64)))]),(.ret,[(6,.k (.row 36 false)),(7,.k (.d (.int .i64)))])],bnd tb (.slot 24) 1⟩),
 (506,⟨309485009821345034365303808,[],[],[(10,.k (.row 36 false)),(35,.k (.d (.int .i64)))],[((.exit 2),[(10,.k (.row 36 false))])],bnd tb (.slot 34) 1⟩),
 (1037114,⟨1152886320234782720,[],[],[(12,.k (.row 3 false)),(13,.k (.d (.int .i64))),(14,.k (.d (.int .i64)))],[((.exit 4),[(12,.k (.row 3 false))])],bnd tb (.slot 14) 2⟩),
 (4148474,⟨1208921207928610747547648,[],[],[(15,.k (.row 61 false)),(62,.k (.d (.int .i64)))],[((.exit 6),[(15,.k (.row 61 false))])],bnd tb (.slot 61) 1⟩)] [] [] []
noncomputable def c4f (n:Nat):Row I:=⟨7,[.d (.sl 51),.d (.sl 9),.d (.sl 27)],[.k (.row 36 false),.k (.d (.int .i64))],c15 n⟩
theorem c5c (n:Nat):RK (c4f n) :=
 okR [eR b9i,eR (b0z n)] 89 (c6L n) [.tmp 6,.tmp 7] Go.Proofs.Tryz.func7 (by kernel_rfl)
def b79 (_:Nat):Hints I:=mkH [(2,[[],[],[0,1],[0,1,2],[0,1,2,3]]),(3,[[],[],[],[2],[],[2,3,4],[0,1,2,3,4,5],[0,1,2,3,4,5,6],[0,1,2,3,4,5,6,7],[0,1,2,3,4,5,6,7],[0,1,2,3,4,5,6,7,8],[0,1,2,3,4,5,6,7,8,9,10]])] [(4,[45])] [] [] [] [] [] []
noncomputable def b5c (n:Nat):Row I:=⟨5,[],[.k (.d (.bool))],a4O n⟩
theorem b7e (n:Nat):RK (b5c n) :=
 okR [eR (c27 n),eR a9k,eR a5K,eR b4u,eR (c5c n),eR (b0z n)] 52 (b79 n) [.tmp 0] Go.Proofs.Tryz.func5 (by kernel_rfl)
def b1R:Hints I:=mkH [(1,[[],[0],[0,1],[0,1,2],[0,1,2,3],[0,1,2,3,4],[0,1,2,3,4,5],[0,1,2],[0,1,2,7],[0,1,2,7,8],[0,1,2,7,8,9],[0,1,2,7,8,9,10],[0,1,2,3,4,5,6,7,8,9,10,11],[0,1,2,3,4,5,6,7,8,9,10,11,12]]),(3,[[],[0],[0,1],[0,1,2],[],[4],[4,5],[4,5,6],[0,1,2,3,4,5,6,7],[0,1,2,3,4,5,6,7,8],[],[0,1,2,3,4,5,6,7,8,9,10],[0,1,2,3,4,5,6,7,8,9,10,11]])] [] [] [] [] [] [] []
def b0y:Row I:=⟨26,[.var 72 (.k (.d (.dat 72))) true,.d (.int .i64)],[.k (.d (.int .i64))],j5⟩
theorem Z6:RK (b0y) :=
 okR [] 46 b1R [.tmp 4] Go.Proofs.Tryz.func26 (by kernel_rfl)
def a8D:Row I:=⟨66,[.var 72 (.k (.d (.dat 72))) true],[.k (.d (.str))],V8⟩
theorem a02:RK (a8D) :=
 okR [eR Z6] 8 Y4 [.tmp 2] Go.Proofs.Tryz.func66 (by kernel_rfl)
def b0D:Row I:=⟨67,[.var 72 (.k (.d (.dat 72))) true],[.k (.d (.str))],X9⟩
theorem a1Q:RK (b0D) :=
 okR [eR Z6] 8 Y4 [.tmp 2] Go.Proofs.Tryz.func67 (by kernel_rfl)
def a9W:Row I:=⟨28,[.var 72 (.k (.d (.dat 72))) true],[.k (.d (.str))],K9⟩
theorem a2Z:RK (a9W) :=
 okR [eR Z6] 8 Y4 [.tmp 2] Go.Proofs.Tryz.func28 (by kernel_rfl)
def b0l:Hints I:=mkH [] [] [] [] [(28,⟨16776706,[],[(0,.k (.d (.dat 72)))],[(1,.k (.d (.int .i64))),(9,.k (.row 3 false))],[((.exit 0),[(9,.k (.row 3 false))])],bnd tb (.slot 1) 2⟩)] [] [] []
def a8X:Row I:=⟨68,[.var 72 (.k (.d (.dat 72))) true,.d (.int .i64),.d (.int .i64),.d (.int .i64)],[.k (.row 3 false)],v7⟩
theorem a9D:RK (a8X) :=
 okR [eR Z6] 25 b0l [.tmp 8] Go.Proofs.Tryz.func68 (by kernel_rfl)
def a99:Hints I:=mkH [(7,[[],[0],[],[],[2,3],[2,3,4],[],[],[6,7],[],[6,7,8,9],[6,7,8,9,10],[2,3,4,5,6,7,8,9,10,11],[2,3,4,5,6,7,8,9,10,11,12],[0,1,2,3,4,5,6,7,8,9,10,11,12,13],[0,1,2,3,4,5,6,7,8,9,10,11,12,13,14],[0,1,2,3,4,5,6,7,8,9,10,11,12,13,14,15]])] [] [] [(978,⟨8796076244992,[],[(0,.k (.d (.dat 72))),(5,.lvs [.d (.int .i64),.d (.int .i64),.d (.int .i64),.d (.str),.row 3 false,.row 128 false,.d (.int .i64),.d (.int .i64)])],[(.normal,[])]⟩)] [(122,⟨8796091973760,[6],[(0,.k (.d (.dat 72))),(5,.lvs [.d (.int .i64),.d (.int .i64),.d (.int .i64),.d (.str),.row 3 false,.row 128 false,.d (.int .i64),.d (.int .i64)])],[(7,.k (.d (.int .i64)))],[((.exit 0),[])],bnd tb (.cst 3) 1⟩)] [] [] []
def a87:Row I:=⟨69,[.var 72 (.k (.d (.dat 72))) true,.d (.int .i64)],[.k (.d (.dat 67))],a1R⟩
theorem a9C:RK (a87) :=
 okR [eR Z6] 44 a99 [.cell 4 67] Go.Proofs.Tryz.func69 (by kernel_rfl)
def b1K:Hints I:=mkH [(8,[[],[],[0,1],[0,1,2],[],[],[],[],[7],[6,7,8],[5,6,7,8,9],[4,5,6,7,8,9,10],[4,5,6,7,8,9,10,11],[0,1,2,3,4,5,6,7,8,9,10,11,12],[0,1,2,3,4,5,6,7,8,9,10,11,12,13]])] [] [] [(29,⟨128,[],[],[(.normal,[(7,.k (.d (.int .i64)))])]⟩),
 (32243709,⟨47223664828696452136960,[],[],[(.normal,[(73,.k (.d (.bool)))])]⟩),
 (2063597565,⟨49517601571415210995964968960,[],[],[(.normal,[(93,.k (.d (.bool)))])]⟩)] [] [] [] []
def b0x:Row I:=⟨41,[.var 72 (.k (.d (.dat 72))) true,.d (.int .i64),.d (.int .i64)],[.k (.d (.dat 67))],a2B⟩
theorem b1b:RK (b0x) :=
 okR [eR Z6,eR a02,eR a1Q,eR a2Z,eR a9D,eR a9C] 128 b1K [.cell 6 67] Go.Proofs.Tryz.func41 (by kernel_rfl)
def b1Z:Hints I:=mkH [(6,[[],[0],[],[],[],[2,3,4],[2,3,4,5],[0,1,2,3,4,5,6],[0,1,2,3,4,5,6,7],[0,1,2,3,4,5,6,7,8]])] [] [] [] [(122,⟨16776256,[],[(0,.k (.d (.dat 72))),(5,.lvs [.row 67 false,.d (.int .i64)])],[(6,.k (.d (.int .i64)))],[((.exit 0),[])],bnd tb (.slot 1) 1⟩)] [] [] []
def b0Y:Row I:=⟨25,[.var 72 (.k (.d (.dat 72))) true,.d (.int .i64)],[.k (.d (.dat 27))],a1x⟩
theorem b09:RK (b0Y) :=
 okR [eR b1b] 25 b1Z [.cell 4 27] Go.Proofs.Tryz.func25 (by kernel_rfl)
def a9y:Row I:=⟨80,[.var 72 (.k (.d (.dat 72))) true],[.k (.d (.int .i64))],a14⟩
theorem a90:RK (a9y) :=
 okR [eR Z6] 8 Y4 [.tmp 2] Go.Proofs.Tryz.func80 (by kernel_rfl)
def b8D:Row I:=⟨70,[.d (.int .i64)],[.k (.d (.dat 42))],a80⟩
theorem b0L:RK (b8D) :=
 okR [] 5 Y4 [.cell 2 42] Go.Proofs.Tryz.func70 (by kernel_rfl)
def b8q:Row I:=⟨72,[.d (.str)],[.k (.d (.dat 42))],a5W⟩
theorem a9I:RK (b8q) :=
 okR [] 5 Y4 [.cell 2 42] Go.Proofs.Tryz.func72 (by kernel_rfl)
def b5J:Row I:=⟨71,[.d (.str)],[.k (.d (.dat 42))],a4U⟩
theorem a8s:RK (b5J) :=
 okR [] 5 Y4 [.cell 2 42] Go.Proofs.Tryz.func71 (by kernel_rfl)
def b8N:Row I:=⟨73,[.d (.int .i64)],[.k (.d (.dat 42))],a9b⟩
theorem b0H:RK (b8N) :=
 okR [] 5 Y4 [.cell 2 42] Go.Proofs.Tryz.func73 (by kernel_rfl)
def b8I:Row I:=⟨74,[],[.k (.d (.dat 42))],a0c⟩
theorem a23:RK (b8I) :=
 okR [] 2 Y4 [.cell 0 42] Go.Proofs.Tryz.func74 (by kernel_rfl)
def b5n:Row I:=⟨105,[.d (.sl 42)],[.k (.row 42 false)],a1k⟩
theorem a8y:RK (b5n) :=
 okR [] 5 Y4 [.tmp 2] Go.Proofs.Tryz.func105 (by kernel_rfl)
def b60:Row I:=⟨81,[.d (.sl 42)],[.k (.d (.dat 42))],a3v⟩
theorem a8O:RK (b60) :=
 okR [eR a8y] 6 Y4 [.cell 2 42] Go.Proofs.Tryz.func81 (by kernel_rfl)
def b0I:Row I:=⟨44,[.var 72 (.k (.d (.dat 72))) true],[.k (.d (.dat 42))],V4⟩
theorem a3l:RK (b0I) :=
 okR [eR Z6,eR a90,eR b0L,eR a02,eR a9I,eR a1Q,eR a8s,eR b0H,eR a23,eR a8O] 29 Y4 [.cell 2 42] Go.Proofs.Tryz.func44 (by kernel_rfl)
def b6c:Row I:=⟨23,[.d (.int .u8)],[.k (.d (.bool))],a2r⟩
theorem a8U:RK (b6c) :=
 okR [] 9 Y4 [.tmp 2] Go.Proofs.Tryz.func23 (by kernel_rfl)
def b6k:Row I:=⟨24,[.d (.int .u8)],[.k (.d (.bool))],a3p⟩
theorem a88:RK (b6k) :=
 okR [] 9 Y4 [.tmp 2] Go.Proofs.Tryz.func24 (by kernel_rfl)
def b8c:Hints I:=mkH [] [] [] [] [(58,⟨4398046248972,[],[],[(3,.k (.d (.int .i64)))],[((.exit 0),[]),(.ret,[(2,.k (.d (.bool)))])],bnd tb (.len (.slot 0)) 1⟩)] [] [] []
def b5p:Row I:=⟨86,[.d (.str)],[.k (.d (.bool))],a1V⟩
theorem a5u:RK (b5p) :=
 okR [eR a8U,eR a88] 42 b8c [.tmp 2] Go.Proofs.Tryz.func86 (by kernel_rfl)
def b3f:Row I:=⟨87,[.d (.dat 126)],[.k (.d (.bool))],a1s⟩
theorem a4v:RK (b3f) :=
 okR [eR a5u] 22 Y4 [.tmp 2] Go.Proofs.Tryz.func87 (by kernel_rfl)
def b6W:Row I:=⟨111,[.d (.int .i64),.d (.int .i64)],[.k (.d (.int .i64))],a2o⟩
theorem a5J:RK (b6W) :=
 okR [] 11 Y4 [.tmp 4] Go.Proofs.Tryz.func111 (by kernel_rfl)
def b8f:Row I:=⟨112,[.d (.str),.d (.str)],[.k (.d (.int .i64))],a1i⟩
theorem a9F:RK (b8f) :=
 okR [] 11 Y4 [.tmp 4] Go.Proofs.Tryz.func112 (by kernel_rfl)
def b0w:Row I:=⟨88,[.d (.dat 126),.d (.dat 126)],[.k (.d (.int .i64))],W6⟩
theorem a1O:RK (b0w) :=
 okR [eR a5J,eR a9F] 20 Y4 [.tmp 4] Go.Proofs.Tryz.func88 (by kernel_rfl)
def c10:Hints I:=mkH [(13,[[],[],[1],[1,2],[0,1,2,3],[0,1,2,3,4],[0,1,2,3,4,5],[0,1,2,3,4,5,6],[0,1,2,3,4,5],[0,1,2,3,4,5,6,7,8],[0,1,2,3,4,5,6,7,8,9],[0,1,2,3,4,5],[0,1,2,3,4,5],[0,1,2,3,4,5,11,12],[0,1,2,3,4,5,11,12,13],[0,1,2,3,4,5,6,7,8,9,10,11,12,13,14],[0,1,2,3,4,5,6,7,8,9,10,11,12,13,14,15],[0,1,2,3,4,5,6,7,8,9,10,11,12,13,14,15,16]]),(15,[[],[],[1],[1,2],[0,1,2,3],[0,1,2,3,4],[0,1,2,3,4,5],[0,1,2,3,4,5,6],[0,1,2,3,4,5],[0,1,2,3,4,5,6,7,8],[0,1,2,3,4,5,6,7,8,9],[0,1,2,3,4,5],[0,1,2,3,4,5],[0,1,2,3,4,5,11,12],[0,1,2,3,4,5,11,12,13],[0,1,2,3,4,5,6,7,8,9,10,11,12,13,14],[0,1,2,3,4,5,6,7,8,9,10,11,12,13,14,15]]),(17,[[],[0],[],[0,1,2],[0,1,2,3],[],[5],[],[5,6,7],[0,1,2,3,4,5,6,7,8],[0,1,2,3,4,5,6,7,8,9],[0,1,2,3,4,5,6,7,8,9,10]]),(18,[[],[],[],[1,2],[1,2,3],[1,2,3,4],[0,1,2,3,4,5],[],[7],[],[7,8,9],[0,1,2,3,4,5,6,7,8,9,10],[0,1,2,3,4,5,6,7,8,9,10,11],[0,1,2,3,4,5,6,7,8,9,10,11,12]]),(19,[[],[],[],[1,2],[1,2,3],[1,2,3,4],[0,1,2,3,4,5],[],[7],[],[7,8,9],[0,1,2,3,4,5,6,7,8,9,10],[0,1,2,3,4,5,6,7,8,9,10,11],[0,1,2,3,4,5,6,7,8,9,10,11,12]])] [] [] [] [(58,⟨2147221600,[],[(4,.lvs [.d (.int .i64),.d (.int .i64),.d (.str),.row 42 false,.row 126 false,.row 120 false,.row 9 false])],[(6,.k (.d (.int .i64)))],[((.exit 0),[]),(.ret,[(5,.k (.d (.int .i64)))])],bnd tb (.len (.slot 0)) 1⟩),
 (250,⟨5192296858534827628530492034256672,[7],[(4,.lvs [.d (.int .i64),.d (.int .i64),.d (.str),.row 42 false,.row 126 false,.row 120 false,.row 9 false]),(7,.lvs [.d (.int .i64),.d (.int .i64),.d (.str),.d (.sl 42),.d (.sl 126),.row 120 true,.row 9 true])],[(8,.k (.d (.int .i64)))],[((.exit 2),[]),(.ret,[(5,.k (.d (.int .i64)))])],bnd tb (.len (.slot 0)) 1⟩),
 (32036,⟨288230101273805312,[7],[],[(9,.k (.d (.int .i64)))],[((.exit 4),[(9,.k (.d (.int .i64)))])],bnd tb (.len (.ld 39 (.fld 42 4 (.slot 7)))) 1⟩)] [] [] []
def b83:Row I:=⟨99,[.d (.sl 126),.d (.sl 42)],[.k (.d (.dat 42)),.k (.d (.int .i64))],a2b⟩
theorem b02:RK (b83) :=
 okR [eR a4v,eR a1O,eR a8y] 113 c10 [.cell 4 42,.tmp 5] Go.Proofs.Tryz.func99 (by kernel_rfl)
def b6s:Row I:=⟨151,[.d (.int .i64),.d (.int .i64)],[.k (.d (.int .i64))],a0u⟩
theorem a9r:RK (b6s) :=
 okR [eR a5J] 8 Y4 [.tmp 4] Go.Proofs.Tryz.func151 (by kernel_rfl)
def b5T (_:Nat):Hints I:=mkH [(12,[[],[0],[],[0,1,2],[0,1,2,3],[],[5],[],[5,6,7],[5,6,7,8],[0,1,2,3,4,5,6,7,8,9],[0,1,2,3,4,5,6,7,8,9,10]]),(23,[[],[0],[],[0,1,2],[0,1,2,3],[],[5],[],[5,6,7],[5,6,7,8],[0,1,2,3,4,5,6,7,8,9],[0,1,2,3,4,5,6,7,8,9,10]]),(31,[[],[0],[],[0,1,2],[0,1,2,3],[],[5],[],[5,6,7],[5,6,7,8],[0,1,2,3,4,5,6,7,8,9],[0,1,2,3,4,5,6,7,8,9,10]])] [] [] [] [(506,⟨151115655394234608910448,[],[],[(5,.k (.d (.int .i64)))],[((.exit 0),[]),(.ret,[(4,.k (.d (.int .i64)))])],bnd tb (.len (.ld 39 (.fld 42 4 (.slot 2)))) 1⟩),
 (8186,⟨1329227361959615758789106311928742672,[],[],[(8,.k (.d (.int .i64)))],[((.exit 2),[]),(.ret,[(4,.k (.d (.int .i64)))])],bnd tb (.len (.ld 40 (.fld 42 5 (.slot 2)))) 1⟩),
 (32762,⟨45671904388519233253803489366408968731082361872,[],[],[(10,.k (.d (.int .i64)))],[((.exit 4),[]),(.ret,[(4,.k (.d (.int .i64)))])],bnd tb (.len (.ld 22 (.fld 42 6 (.slot 2)))) 1⟩)] [] [] []
def a0L (n:Nat):Row I:=⟨133,[.d (.dat 42),.d (.dat 42)],[.k (.d (.int .i64))],a0r n⟩
def b78 (_:Nat):Hints I:=mkH [(6,[[],[],[0,1],[0,1,2],[],[],[4,5],[4,5,6],[0,1,2,3,4,5,6,7],[0,1,2,3,4,5,6,7,8]])] [] [] [] [(58,⟨34359607408,[],[],[(5,.k (.d (.int .i64)))],[((.exit 0),[]),(.ret,[(4,.k (.d (.int .i64)))])],bnd tb (.len (.slot 0)) 1⟩)] [] [] []
def a1J (n:Nat):Row I:=⟨134,[.d (.sl 42),.d (.sl 42)],[.k (.d (.int .i64))],a2Y n⟩
def W1 (n:Nat):Row I:=⟨104,[.d (.dat 120),.d (.dat 120)],[.k (.d (.int .i64))],Q1 n⟩
theorem b3V (n:Nat)(_:Z3 d8m (a0L n))(h_semtyperef1_values:Z3 d8m (a1J n))(h_semtyperef1_CompareEntries:Z3 d8m (W1 n)):RK (a0L (n+1)) :=
 okR [eR a9r,eR a5J,eR a9F,eR a1O,eR h_semtyperef1_values,eR h_semtyperef1_CompareEntries] 155 (b5T n) [.tmp 4] Go.Proofs.Tryz.func133 (by kernel_rfl)
theorem b5v (n:Nat)(h_semtyperef1_Compare:Z3 d8m (a0L n))(_:Z3 d8m (a1J n))(_:Z3 d8m (W1 n)):RK (a1J (n+1)) :=
 okR [eR a9r,eR h_semtyperef1_Compare] 35 (b78 n) [.tmp 4] Go.Proofs.Tryz.func134 (by kernel_rfl)
theorem a8Y (n:Nat)(h_semtyperef1_Compare:Z3 d8m (a0L n))(h_semtyperef1_values:Z3 d8m (a1J n))(_:Z3 d8m (W1 n)):RK (W1 (n+1)) :=
 okR [eR h_semtyperef1_values,eR h_semtyperef1_Compare] 26 Y4 [.tmp 4] Go.Proofs.Tryz.func104 (by kernel_rfl)
theorem a3h:∀ n:Nat,Z3 d8m (a0L n)/\Z3 d8m (a1J n)/\Z3 d8m (W1 n)
 | 0=>⟨a0h (by kernel_rfl),a0h (by kernel_rfl),a0h (by kernel_rfl)⟩
 | n+1=>by
   obtain ⟨h0,h1,h2⟩:=a3h n
   exact ⟨b3V n h0 h1 h2,b5v n h0 h1 h2,a8Y n h0 h1 h2⟩
theorem b5l (n:Nat):Z3 d8m (a0L n):=(a3h n).1
theorem a43 (n:Nat):Z3 d8m (W1 n):=(a3h n).2.2
def b6X (n:Nat):Row I:=⟨103,[.d (.dat 42),.d (.dat 42)],[.k (.d (.bool))],a3r n⟩
theorem a8V (n:Nat):RK (b6X n) :=
 okR [eR (b5l n)] 9 Y4 [.tmp 4] Go.Proofs.Tryz.func103 (by kernel_rfl)
def b6N (_:Nat):Hints I:=mkH [(6,[[],[],[1],[0,1,2],[0,1,2,3],[0,1,2,3,4],[0,1,2,3,4],[0,1,2,3,4,5,6],[0,1,2,3,4,5,6,7],[0,1,2,3,4],[0,1,2,3,4],[0,1,2,3,4,9,10],[0,1,2,3,4,9,10,11],[0,1,2,3,4,5,6,7,8,9,10,11,12],[0,1,2,3,4,5,6,7,8,9,10,11,12,13],[0,1,2,3,4,5,6,7,8,9,10,11,12,13,14]]),(8,[[],[],[1],[0,1,2],[0,1,2,3],[0,1,2,3,4],[0,1,2,3,4],[0,1,2,3,4,5,6],[0,1,2,3,4,5,6,7],[0,1,2,3,4],[0,1,2,3,4],[0,1,2,3,4,9,10],[0,1,2,3,4,9,10,11],[0,1,2,3,4,5,6,7,8,9,10,11,12],[0,1,2,3,4,5,6,7,8,9,10,11,12,13],[0,1,2,3,4,5,6,7,8,9,10,11,12,13,14]]),(10,[[],[],[],[1,2],[1,2,3],[1,2,3,4],[0,1,2,3,4,5],[],[],[7,8],[0,1,2,3,4,5,6,7,8,9],[0,1,2,3,4,5,6,7,8,9,10]])] [] [] [(466,⟨4611686018427379816,[],[],[(.normal,[(3,.k (.d (.sl 120)))])]⟩)] [(58,⟨4611686018427387896,[],[],[(3,.k (.d (.sl 120))),(4,.k (.d (.int .i64)))],[((.exit 0),[(3,.k (.d (.sl 120)))])],bnd tb (.len (.slot 0)) 1⟩),
 (7460,⟨2147475488,[3],[],[(5,.k (.d (.int .i64)))],[((.exit 2),[(5,.k (.d (.int .i64)))])],bnd tb (.len (.slot 3)) 1⟩)] [] [] []
def b36 (n:Nat):Row I:=⟨129,[.bor 120],[.k (.d (.sl 120))],a4p n⟩
theorem b5O (n:Nat):RK (b36 n) :=
 okR [eR (a43 n)] 63 (b6N n) [.tmp 2] Go.Proofs.Tryz.func129 (by kernel_rfl)
def b5t (_:Nat):Hints I:=mkH [] [] [] [] [(58,⟨70368744161376,[],[(4,.lvs [.d (.int .i64),.d (.int .i64),.d (.str),.row 42 false,.row 126 false,.row 120 false,.row 9 false])],[(6,.k (.d (.int .i64)))],[((.exit 0),[]),(.ret,[(5,.k (.d (.int .i64)))])],bnd tb (.len (.slot 1)) 1⟩)] [] [] []
def b2Y (n:Nat):Row I:=⟨100,[.d (.int .i64),.bor 120],[.k (.d (.dat 42)),.k (.d (.int .i64))],a2e n⟩
theorem a7w (n:Nat):RK (b2Y n) :=
 okR [eR (a8V n),eR (b5O n)] 50 (b5t n) [.cell 4 42,.tmp 5] Go.Proofs.Tryz.func100 (by kernel_rfl)
def b8h:Hints I:=mkH [(6,[[],[],[1],[0,1,2],[0,1,2,3],[0,1,2,3,4],[0,1,2,3,4],[0,1,2,3,4,5,6],[0,1,2,3,4,5,6,7],[0,1,2,3,4],[0,1,2,3,4],[0,1,2,3,4,9,10],[0,1,2,3,4,9,10,11],[0,1,2,3,4,5,6,7,8,9,10,11,12],[0,1,2,3,4,5,6,7,8,9,10,11,12,13]]),(8,[[],[],[1],[0,1,2],[0,1,2,3],[0,1,2,3,4],[0,1,2,3,4],[0,1,2,3,4,5,6],[0,1,2,3,4,5,6,7],[0,1,2,3,4],[0,1,2,3,4],[0,1,2,3,4,9,10],[0,1,2,3,4,9,10,11],[0,1,2,3,4,5,6,7,8,9,10,11,12],[0,1,2,3,4,5,6,7,8,9,10,11,12,13]]),(10,[[],[],[],[1,2],[1,2,3],[1,2,3,4],[0,1,2,3,4,5],[],[],[7,8],[0,1,2,3,4,5,6,7,8,9],[0,1,2,3,4,5,6,7,8,9,10]])] [] [] [(466,⟨1152921504606838888,[],[],[(.normal,[(3,.k (.d (.sl 9)))])]⟩)] [(58,⟨1152921504606846968,[],[],[(3,.k (.d (.sl 9))),(4,.k (.d (.int .i64)))],[((.exit 0),[(3,.k (.d (.sl 9)))])],bnd tb (.len (.slot 0)) 1⟩),
 (7460,⟨1073733664,[3],[],[(5,.k (.d (.int .i64)))],[((.exit 2),[(5,.k (.d (.int .i64)))])],bnd tb (.len (.slot 3)) 1⟩)] [] [] []
def b42:Row I:=⟨9,[.d (.sl 9)],[.k (.d (.sl 9))],a0e⟩
theorem a5t:RK (b42) :=
 okR [] 61 b8h [.tmp 2] Go.Proofs.Tryz.func9 (by kernel_rfl)
def b1a:Row I:=⟨77,[.d (.dat 42),.d (.sl 9)],[.k (.d (.dat 42))],a42⟩
theorem b1V:RK (b1a) :=
 okR [eR a5t] 9 Y4 [.cell 4 42] Go.Proofs.Tryz.func77 (by kernel_rfl)
def b8j:Row I:=⟨130,[.d (.dat 42),.d (.dat 42)],[.k (.d (.dat 42))],a5P⟩
theorem b9d:RK (b8j) :=
 okR [] 9 Y4 [.cell 4 42] Go.Proofs.Tryz.func130 (by kernel_rfl)
def b0N:Hints I:=mkH [] [] [] [(29,⟨1048456,[],[(0,.k (.d (.dat 72)))],[(.normal,[(3,.k (.row 9 false))])]⟩)] [] [] [] []
def a9w:Row I:=⟨102,[.var 72 (.k (.d (.dat 72))) true],[.k (.d (.sl 9))],a05⟩
theorem a5r:RK (a9w) :=
 okR [eR Z6,eR a2Z,eR a5t] 22 b0N [.tmp 2] Go.Proofs.Tryz.func102 (by kernel_rfl)
def b1h:Row I:=⟨131,[.var 72 (.k (.d (.dat 72))) true],[.k (.d (.dat 126))],a2S⟩
theorem b1X:RK (b1h) :=
 okR [eR Z6,eR a02,eR a1Q] 12 Y4 [.cell 2 126] Go.Proofs.Tryz.func131 (by kernel_rfl)
def X3 (n:Nat):Row I:=⟨78,[.var 72 (.k (.d (.dat 72))) true,.d (.int .i64)],[.k (.d (.dat 42))],a2h n⟩
def b1l (_:Nat):Hints I:=mkH [(16,[[],[],[1],[0,1,2],[],[0,1,2,3,4],[0,1,2,3,4,5]])] [(13,[46])] [] [(29,⟨5316911983139663491615228241104863200,[],[(0,.k (.d (.dat 72))),(4,.lvs [.d (.int .i64),.d (.int .i64),.d (.str),.d (.sl 42),.d (.sl 126),.d (.sl 120),.d (.sl 9)])],[(.normal,[]),(.ret,[])]⟩),
 (7540,⟨2234207627640832,[],[(0,.k (.d (.dat 72)))],[(.normal,[(50,.k (.d (.bool)))])]⟩),
 (7541,⟨141863388262170624,[],[(0,.k (.d (.dat 72))),(7,.k (.d (.dat 42)))],[(.normal,[])]⟩)] [(3754,⟨549487378528,[],[(0,.k (.d (.dat 72)))],[(5,.k (.row 42 false)),(6,.k (.d (.int .i64)))],[((.exit 1),[(5,.k (.row 42 false))])],bnd tb (.slot 6) 2⟩),
 (120794,⟨77370071863715549769893632,[],[(0,.k (.d (.dat 72)))],[(8,.k (.row 126 false)),(9,.k (.row 42 false)),(10,.k (.d (.int .i64)))],[((.exit 3),[(8,.k (.row 126 false)),(9,.k (.row 42 false))])],bnd tb (.slot 10) 2⟩),
 (483290,⟨10382058415869198798257999252078592,[],[(0,.k (.d (.dat 72)))],[(14,.k (.row 120 false)),(15,.k (.d (.int .i64)))],[((.exit 5),[(14,.k (.row 120 false))])],bnd tb (.slot 15) 2⟩)] [] [] []
def a0B (n:Nat):Row I:=⟨101,[.var 72 (.k (.d (.dat 72))) true,.d (.int .i64)],[.k (.d (.dat 42))],b2u n⟩
def b1o (_:Nat):Hints I:=mkH [(4,[[],[0],[],[],[2,3],[2,3,4],[0,1,2,3,4,5],[0,1,2,3,4,5,6],[0,1,2,3,4,5,6,7]])] [] [] [] [(28,⟨1048322,[],[(0,.k (.d (.dat 72))),(7,.lvs [.row 42 false,.d (.bool),.d (.int .i64),.d (.int .i64),.d (.str),.row 42 false,.row 126 false,.row 120 false,.row 9 false])],[(1,.k (.d (.int .i64)))],[((.exit 0),[])],bnd tb (.slot 1) 2⟩)] [] [] []
def a0z (n:Nat):Row I:=⟨132,[.var 72 (.k (.d (.dat 72))) true,.d (.int .i64),.d (.int .i64)],[.k (.d (.dat 120))],b3n n⟩
theorem a95 (n:Nat)(_:Z3 d8m (X3 n))(h_semtypebase_Source_value:Z3 d8m (a0B n))(_:Z3 d8m (a0z n)):RK (X3 (n+1)) :=
 okR [eR h_semtypebase_Source_value,eR a5r] 13 Y4 [.cell 4 42] Go.Proofs.Tryz.func78 (by kernel_rfl)
theorem a93 (n:Nat)(h_semtypebase_Source_Value:Z3 d8m (X3 n))(_:Z3 d8m (a0B n))(h_semtypebase_Source_entry:Z3 d8m (a0z n)):RK (a0B (n+1)) :=
 okR [eR a3l,eR Z6,eR h_semtypebase_Source_Value,eR a8O,eR a23,eR b9d,eR a5r,eR b1X,eR b02,eR h_semtypebase_Source_entry,eR (a7w n)] 124 (b1l n) [.cell 4 42] Go.Proofs.Tryz.func101 (by kernel_rfl)
theorem a94 (n:Nat)(h_semtypebase_Source_Value:Z3 d8m (X3 n))(_:Z3 d8m (a0B n))(_:Z3 d8m (a0z n)):RK (a0z (n+1)) :=
 okR [eR h_semtypebase_Source_Value,eR Z6] 30 (b1o n) [.cell 6 120] Go.Proofs.Tryz.func132 (by kernel_rfl)
theorem a4t:∀ n:Nat,Z3 d8m (X3 n)/\Z3 d8m (a0B n)/\Z3 d8m (a0z n)
 | 0=>⟨a0h (by kernel_rfl),a0h (by kernel_rfl),a0h (by kernel_rfl)⟩
 | n+1=>by
   obtain ⟨h0,h1,h2⟩:=a4t n
   exact ⟨a95 n h0 h1 h2,a93 n h0 h1 h2,a94 n h0 h1 h2⟩
theorem b0X (n:Nat):Z3 d8m (X3 n):=(a4t n).1
def b6L:Row I:=⟨22,[.d (.int .u8)],[.k (.d (.bool))],a3x⟩
theorem b7L:RK (b6L) :=
 okR [] 9 Y4 [.tmp 2] Go.Proofs.Tryz.func22 (by kernel_rfl)
def b2x:Hints I:=mkH [] [] [] [] [(58,⟨562949953159180,[],[],[(3,.k (.d (.int .i64)))],[((.exit 0),[]),(.ret,[(2,.k (.d (.bool)))])],bnd tb (.len (.slot 0)) 1⟩)] [] [] []
def b1r:Row I:=⟨8,[.d (.str)],[.k (.d (.bool))],a1K⟩
theorem a6F:RK (b1r) :=
 okR [eR b7L,eR a8U,eR a88] 49 b2x [.tmp 2] Go.Proofs.Tryz.func8 (by kernel_rfl)
def b9K (_:Nat):Hints I:=mkH [(4,[[],[0],[],[0,1,2],[0,1,2,3],[0,1,2,3,4],[0,1,2,3,4,5],[0,1,2,3,4,5,6],[0,1,2,3,4,5,6,7],[0,1,2,3,4,5,6,7,8],[0,1,2,3,4,5,6,7,8,9],[0,1,2,3,4,5,6,7,8,9,10],[0,1,2,3,4,5,6,7,8,9,10,11],[0,1,2,3,4,5,6,7,8,9,10],[0,1,2,3,4,5,6,7,8,9,10,13],[0,1,2,3,4,5,6,7,8,9,10,11,12,13,14],[0,1,2,3,4,5,6,7,8,9,10,11,12,13,14,15],[0,1,2,3,4,5,6,7,8,9,10],[0,1,2,3,4,5,6,7,8,9,10,17],[0,1,2,3,4,5,6,7,8,9,10],[0,1,2,3,4,5,6,7,8,9,10,17,18,19],[0,1,2,3,4,5,6,7,8,9,10,17,18,19,20],[0,1,2,3,4,5,6,7,8,9,10,11,12,13,14,15,16,17,18,19,20,21],[0,1,2,3,4,5,6,7,8,9,10,11,12,13,14,15,16,17,18,19,20,21,22],[0,1,2,3,4,5,6,7,8,9,10,11,12,13,14,15,16,17,18,19,20,21,22,23]]),(29,[[],[0],[],[0,1,2],[0,1,2,3],[0,1,2,3,4],[0,1,2,3,4,5],[0,1,2,3,4,5,6],[0,1,2,3,4,5,6,7],[0,1,2,3,4,5,6,7,8],[0,1,2,3,4,5,6,7,8,9],[0,1,2,3,4,5,6,7,8,9,10],[0,1,2,3,4,5,6,7,8,9,10,11],[0,1,2,3,4,5,6,7,8,9,10],[0,1,2,3,4,5,6,7,8,9,10,13],[0,1,2,3,4,5,6,7,8,9,10,11,12,13,14],[0,1,2,3,4,5,6,7,8,9,10,11,12,13,14,15],[0,1,2,3,4,5,6,7,8,9,10],[0,1,2,3,4,5,6,7,8,9,10,17],[0,1,2,3,4,5,6,7,8,9,10],[0,1,2,3,4,5,6,7,8,9,10,17,18,19],[0,1,2,3,4,5,6,7,8,9,10,17,18,19,20],[0,1,2,3,4,5,6,7,8,9,10,11,12,13,14,15,16,17,18,19,20,21],[0,1,2,3,4,5,6,7,8,9,10,11,12,13,14,15,16,17,18,19,20,21,22],[0,1,2,3,4,5,6,7,8,9,10,11,12,13,14,15,16,17,18,19,20,21,22,23],[0,1,2,3,4,5,6,7,8,9,10,11,12,13,14,15,16,17,18,19,20,21,22,23,24]]),(39,[[],[0],[0,1],[],[3],[0,1,2,3,4],[0,1,2,3,4,5],[0,1,2,3,4,5,6],[0,1,2,3,4,5,6,7],[0,1,2,3,4,5,6,7,8],[0,1,2,3,4,5,6,7,8,9],[0,1,2,3,4,5,6,7,8,9,10],[0,1,2,3,4,5,6,7,8,9],[0,1,2,3,4,5,6,7,8,9,10,11,12],[0,1,2,3,4,5,6,7,8,9,10,11,12,13],[0,1,2,3,4,5,6,7,8,9,10,11,12,13,14],[0,1,2,3,4,5,6,7,8,9,10,11,12,13,14,15],[0,1,2,3,4,5,6,7,8,9,10,11,12,13,14,15,16],[0,1,2,3,4,5,6,7,8,9,10,11,12,13,14,15,16,17],[0,1,2,3,4,5,6,7,8,9,10,11,12,13,14,15,16,17,18],[0,1,2,3,4,5,6,7,8,9,10,11,12,13,14,15,16,17,18,19],[0,1,2,3,4,5,6,7,8,9,10,11,12,13,14,15,16,17,18,19,20],[0,1,2,3,4,5,6,7,8,9,10,11,12,13,14,15,16,17,18,19,20,21],[0,1,2,3,4,5,6,7,8,9,10,11,12,13,14,15,16,17,18,19,20],[0,1,2,3,4,5,6,7,8,9,10,11,12,13,14,15,16,17,18,19,20,23],[0,1,2,3,4,5,6,7,8,9,10,11,12,13,14,15,16,17,18,19,20,21,22,23,24],[0,1,2,3,4,5,6,7,8,9,10,11,12,13,14,15,16,17,18,19,20,21,22,23,24,25],[0,1,2,3,4,5,6,7,8,9,10,11,12,13,14,15,16,17,18,19,20],[0,1,2,3,4,5,6,7,8,9,10,11,12,13,14,15,16,17,18,19,20,21,22,23,24,25,26,27],[0,1,2,3,4,5,6,7,8,9,10,11,12,13,14,15,16,17,18,19,20,21,22,23,24,25,26,27,28],[0,1,2,3,4,5,6,7,8,9,10,11,12,13,14,15,16,17,18,19,20,21,22,23,24,25,26,27,28,29],[0,1,2,3,4,5,6,7,8,9,10,11,12,13,14,15,16,17,18,19,20,21,22,23,24,25,26,27,28,29,30]])] [] [] [(4073,⟨425352958651173079329218259289710264320,[],[],[(.normal,[(126,.k (.d (.bool)))])]⟩)] [(26,⟨4398046510092,[],[],[(3,.k (.d (.int .i64)))],[((.exit 0),[]),(.ret,[(2,.k (.d (.bool)))])],bnd tb (.len (.ld 22 (.fld 42 6 (.slot 1)))) 1⟩),
 (133562354,⟨411376139282411024886683268815639281647236804420309368268914820,[],[],[(7,.k (.d (.int .i64)))],[((.exit 3),[]),(.ret,[(2,.k (.d (.bool)))])],bnd tb (.len (.ld 39 (.fld 42 4 (.slot 1)))) 1⟩),
 (1068498922,⟨948568795032040353016559207911582007103813675119580226322391447047862150789858052,[],[],[(8,.k (.d (.int .i64)))],[((.exit 5),[]),(.ret,[(2,.k (.d (.bool)))])],bnd tb (.len (.ld 40 (.fld 42 5 (.slot 1)))) 1⟩)] [] [] []
def b72 (n:Nat):Row I:=⟨79,[.d (.dat 42)],[.k (.d (.bool))],a5N n⟩
theorem b8S (n:Nat):RK (b72 n) :=
 okR [eR a6F,eR a5u,eR a4v,eR a1O,eR (a8V n),eR (a43 n)] 269 (b9K n) [.tmp 2] Go.Proofs.Tryz.func79 (by kernel_rfl)
def b80 (_:Nat):Hints I:=mkH [] [] [] [] [(58,⟨16776204,[],[],[(3,.k (.d (.int .i64)))],[((.exit 0),[]),(.ret,[(2,.k (.d (.bool)))])],bnd tb (.len (.ld 38 (.fld 42 3 (.slot 1)))) 1⟩),
 (122,⟨576460752286646388,[],[],[(4,.k (.d (.int .i64)))],[((.exit 2),[]),(.ret,[(2,.k (.d (.bool)))])],bnd tb (.len (.ld 40 (.fld 42 5 (.slot 1)))) 1⟩),
 (31306,⟨1125831187365956,[],[],[(6,.k (.d (.int .i64)))],[((.exit 4),[]),(.ret,[(2,.k (.d (.bool)))])],bnd tb (.len (.ld 38 (.fld 120 0 (.slot 5)))) 1⟩)] [] [] []
def a5i (n:Nat):Row I:=⟨43,[.d (.dat 42)],[.k (.d (.bool))],X5 n⟩
theorem b6Q (n:Nat)(h_semtyperef1_Valid:Z3 d8m (a5i n)):RK (a5i (n+1)) :=
 okR [eR (b8S n),eR h_semtyperef1_Valid] 59 (b80 n) [.tmp 2] Go.Proofs.Tryz.func43 (by kernel_rfl)
theorem a5Y:∀ n:Nat,Z3 d8m (a5i n)
 | 0=>a0h (by kernel_rfl)
 | n+1=>b6Q n (a5Y n)
def V9 (n:Nat):Row I:=⟨27,[.var 72 (.k (.d (.dat 72))) true,.d (.dat 27),.d (.int .i64),.d (.int .i64)],[.k (.d (.dat 42))],a2D n⟩
def b2f (_:Nat):Hints I:=mkH [(7,[[],[0],[],[2],[],[4],[],[6],[6,7],[],[9],[9,10],[6,7,8,9,10,11],[4,5,6,7,8,9,10,11,12],[0,1,2,3,4,5,6,7,8,9,10,11,12,13],[],[15],[0,1,2,3,4,5,6,7,8,9,10,11,12,13,14,15,16],[0,1,2,3,4,5,6,7,8,9,10,11,12,13,14,15,16,17],[0,1,2,3,4,5,6,7,8,9,10,11,12,13,14,15,16,17,18],[0,1,2,3,4,5,6,7,8,9,10,11,12,13,14,15,16,17,18,19]]),(25,[[],[0],[],[],[],[4],[],[4,5,6],[4,5,6,7],[],[9],[2,3,4,5,6,7,8,9,10],[2,3,4,5,6,7,8,9,10,11],[0,1,2,3,4,5,6,7,8,9,10,11,12],[0,1,2,3,4,5,6,7,8,9,10,11,12,13],[0,1,2,3,4,5,6,7,8,9,10,11,12,13,14]]),(30,[[],[0],[],[0,1,2],[0,1,2,3]]),(37,[[],[],[],[2],[],[],[5],[5,6],[4,5,6,7],[2,3,4,5,6,7,8],[2,3,4,5,6,7,8,9],[],[0,1,2,3,4,5,6,7,8,9,10,11],[0,1,2,3,4,5,6,7,8,9,10,11,12]]),(39,[[],[],[],[2],[],[],[5],[5,6],[4,5,6,7],[2,3,4,5,6,7,8],[2,3,4,5,6,7,8,9],[],[0,1,2,3,4,5,6,7,8,9,10,11],[0,1,2,3,4,5,6,7,8,9,10,11,12]]),(43,[[],[0],[],[2],[],[2,3,4],[2,3,4,5],[0,1,2,3,4,5,6],[0,1,2,3,4,5,6,7],[0,1,2,3,4,5,6,7,8],[0,1,2,3,4,5,6,7,8,9]]),(44,[[],[0],[0,1],[],[3],[],[5],[],[5,6,7],[5,6,7,8],[3,4,5,6,7,8,9],[3,4,5,6,7,8,9,10],[3,4,5,6,7,8,9,10,11],[3,4,5,6,7,8,9,10,11,12],[0,1,2,3,4,5,6,7,8,9,10,11,12,13],[0,1,2,3,4,5,6,7,8,9,10,11,12,13,14],[0,1,2,3,4,5,6,7,8,9,10,11,12,13,14,15],[0,1,2,3,4,5,6,7,8,9,10,11,12,13,14,15,16]]),(47,[[],[0],[],[2],[2,3],[0,1,2,3,4],[0,1,2,3,4,5]])] [] [] [(16449533,⟨386856262276681335905976320,[],[],[(.normal,[(86,.k (.d (.bool)))])]⟩),
 (263192557,⟨85029053355366337244815407887308292096,[],[(10,.lvs [.d (.int .i64),.d (.int .i64),.d (.str),.row 42 false,.row 126 false,.row 120 false,.row 9 false])],[(.normal,[])]⟩),
 (539018395474,⟨102844034449451492418213359320247649773843695697413960913387520,[],[(10,.k (.d (.dat 42)))],[(.normal,[])]⟩)] [(131596274,⟨2596147810297394171575110715049984,[],[(0,.k (.d (.dat 72))),(10,.lvs [.d (.int .i64),.d (.int .i64),.d (.str),.row 42 false,.row 126 false,.row 120 false,.row 9 false])],[(11,.k (.d (.int .i64)))],[((.exit 1),[])],bnd tb (.len (.ld 36 (.fld 67 4 (.slot 9)))) 1⟩),
 (67377299434,⟨102844034829582222281431884733353260024018043977843391611277312,[],[(10,.k (.d (.dat 42)))],[(12,.k (.d (.int .i64)))],[((.exit 3),[])],bnd tb (.len (.ld 36 (.fld 67 4 (.slot 9)))) 1⟩)] [] [] []
def X4 (n:Nat):Row I:=⟨42,[.var 72 (.k (.d (.dat 72))) true,.d (.dat 27),.d (.int .i64),.d (.int .i64)],[.k (.d (.dat 42))],b3Q n⟩
def a7Z (_:Nat):Hints I:=mkH [(10,[[],[0],[],[],[],[4],[],[4,5,6],[4,5,6,7],[],[9],[2,3,4,5,6,7,8,9,10],[2,3,4,5,6,7,8,9,10,11],[0,1,2,3,4,5,6,7,8,9,10,11,12],[0,1,2,3,4,5,6,7,8,9,10,11,12,13],[0,1,2,3,4,5,6,7,8,9,10,11,12,13,14]]),(13,[[],[],[],[2],[],[2,3,4],[2,3,4,5],[],[7],[0,1,2,3,4,5,6,7,8],[0,1,2,3,4,5,6,7,8,9],[0,1,2,3,4,5,6,7,8,9,10]])] [] [] [(31309,⟨2305280059260272640,[],[(0,.k (.d (.dat 72))),(12,.lvs [.row 42 false,.d (.bool),.d (.int .i64),.d (.int .i64),.d (.str),.d (.sl 42),.d (.sl 126),.d (.sl 120),.d (.sl 9)])],[(.normal,[])]⟩)] [(122,⟨36893488147414923776,[],[(0,.k (.d (.dat 72)))],[(9,.k (.row 120 false)),(11,.k (.d (.int .i64)))],[((.exit 0),[(9,.k (.row 120 false))])],bnd tb (.slot 11) 2⟩),
 (31306,⟨70368677076992,[],[(0,.k (.d (.dat 72))),(12,.lvs [.row 42 false,.d (.bool),.d (.int .i64),.d (.int .i64),.d (.str),.row 42 false,.row 126 false,.row 120 false,.row 9 false])],[(13,.k (.d (.int .i64)))],[((.exit 2),[])],bnd tb (.slot 10) 1⟩)] [] [] []
def K6 (n:Nat):Row I:=⟨76,[.var 72 (.k (.d (.dat 72))) true,.d (.dat 27),.d (.dat 67),.d (.int .i64)],[.k (.d (.dat 42))],a8C n⟩
def b0f (_:Nat):Hints I:=mkH [(8,[[],[],[],[],[3],[],[3,4,5],[3,4,5,6],[3,4,5,6,7],[],[9],[1,2,3,4,5,6,7,8,9,10],[1,2,3,4,5,6,7,8,9,10,11],[0,1,2,3,4,5,6,7,8,9,10,11,12],[0,1,2,3,4,5,6,7,8,9,10,11,12,13]]),(12,[[],[],[],[],[3],[],[3,4,5],[3,4,5,6],[],[8],[1,2,3,4,5,6,7,8,9],[1,2,3,4,5,6,7,8,9,10],[0,1,2,3,4,5,6,7,8,9,10,11],[0,1,2,3,4,5,6,7,8,9,10,11,12]])] [(6,[28])] [] [(125,⟨604462333346562283935232,[],[(0,.k (.d (.dat 72)))],[(.normal,[(9,.k (.row 126 false)),(10,.k (.row 42 false))])]⟩),
 (978,⟨72057594033735168,[],[(0,.k (.d (.dat 72)))],[(.normal,[(9,.k (.row 126 false)),(10,.k (.row 42 false))])]⟩),
 (7824,⟨8585740288,[],[(0,.k (.d (.dat 72)))],[(.normal,[(32,.k (.d (.bool)))])]⟩)] [(122,⟨72057594037898752,[],[(0,.k (.d (.dat 72)))],[(9,.k (.row 126 false)),(10,.k (.row 42 false)),(11,.k (.d (.int .i64)))],[((.exit 0),[(9,.k (.row 126 false)),(10,.k (.row 42 false))])],bnd tb (.len (.ld 64 (.fld 67 5 (.slot 6)))) 1⟩)] [] [] []
def W0 (n:Nat):Row I:=⟨75,[.var 72 (.k (.d (.dat 72))) true,.d (.dat 27),.d (.dat 67),.d (.int .i64)],[.k (.d (.dat 42))],b1c n⟩
theorem b0B (n:Nat)(_:Z3 d8m (V9 n))(h_semtypebase_Source_near:Z3 d8m (X4 n))(_:Z3 d8m (K6 n))(_:Z3 d8m (W0 n)):RK (V9 (n+1)) :=
 okR [eR h_semtypebase_Source_near,eR (a5Y n),eR a3l] 21 Y4 [.cell 8 42] Go.Proofs.Tryz.func27 (by kernel_rfl)
theorem b03 (n:Nat)(h_semtypebase_Source_Near:Z3 d8m (V9 n))(h_semtypebase_Source_near:Z3 d8m (X4 n))(h_semtypebase_Source_nearFunction:Z3 d8m (K6 n))(h_semtypebase_Source_nearMap:Z3 d8m (W0 n)):RK (X4 (n+1)) :=
 okR [eR a3l,eR Z6,eR b0L,eR a8s,eR a1Q,eR a9I,eR a02,eR b0H,eR a23,eR h_semtypebase_Source_Near,eR h_semtypebase_Source_nearMap,eR h_semtypebase_Source_nearFunction,eR h_semtypebase_Source_near,eR a5t,eR b1V,eR (b0X n)] 217 (b2f n) [.cell 8 42] Go.Proofs.Tryz.func42 (by kernel_rfl)
theorem a7k (n:Nat)(h_semtypebase_Source_Near:Z3 d8m (V9 n))(_:Z3 d8m (X4 n))(_:Z3 d8m (K6 n))(_:Z3 d8m (W0 n)):RK (K6 (n+1)) :=
 okR [eR Z6,eR h_semtypebase_Source_Near,eR (a7w n),eR a23] 75 (a7Z n) [.cell 8 42] Go.Proofs.Tryz.func76 (by kernel_rfl)
theorem a8W (n:Nat)(h_semtypebase_Source_Near:Z3 d8m (V9 n))(_:Z3 d8m (X4 n))(_:Z3 d8m (K6 n))(_:Z3 d8m (W0 n)):RK (W0 (n+1)) :=
 okR [eR Z6,eR h_semtypebase_Source_Near,eR b02,eR a23] 89 (b0f n) [.cell 8 42] Go.Proofs.Tryz.func75 (by kernel_rfl)
theorem a4F:∀ n:Nat,Z3 d8m (V9 n)/\Z3 d8m (X4 n)/\Z3 d8m (K6 n)/\Z3 d8m (W0 n)
 | 0=>⟨a0h (by kernel_rfl),a0h (by kernel_rfl),a0h (by kernel_rfl),a0h (by kernel_rfl)⟩
 | n+1=>by
   obtain ⟨h0,h1,h2,h3⟩:=a4F n
   exact ⟨b0B n h0 h1 h2 h3,b03 n h0 h1 h2 h3,a7k n h0 h1 h2 h3,a8W n h0 h1 h2 h3⟩
theorem b1f (n:Nat):Z3 d8m (V9 n):=(a4F n).1
def b7r (_:Nat):Hints I:=mkH [(5,[[],[],[],[],[1,2,3],[0,1,2,3,4],[0,1,2,3,4,5]])] [] [] [] [] [] [] []
def b4Z (n:Nat):Row I:=⟨11,[.d (.sl 3),.d (.sl 3)],[.k (.d (.dat 27)),.k (.d (.dat 42))],a4G n⟩
theorem b6f (n:Nat):RK (b4Z n) :=
 okR [eR Z6,eR b09,eR (b1f n)] 31 (b7r n) [.cell 4 27,.cell 5 42] Go.Proofs.Tryz.func11 (by kernel_rfl)
def b1p:Hints I:=mkH [(6,[[],[0],[],[],[3],[3,4],[2,3,4,5],[0,1,2,3,4,5,6],[],[0,1,2,3,4,5,6,7,8]]),(7,[[],[0],[],[],[3],[3,4],[2,3,4,5],[0,1,2,3,4,5,6],[],[0,1,2,3,4,5,6,7,8]])] [] [] [(31309,⟨1924145348608,[],[(5,.k (.d (.dat 72))),(8,.k (.d (.dat 27)))],[(.normal,[])]⟩),
 (62621,⟨123145302310912,[],[(5,.k (.d (.dat 72))),(9,.k (.d (.dat 27)))],[(.normal,[])]⟩)] [(122,⟨9007199254709184,[],[(5,.k (.d (.dat 72)))],[(6,.k (.row 51 false)),(7,.k (.d (.int .i64)))],[((.exit 0),[(6,.k (.row 51 false))])],bnd tb (.slot 7) 2⟩)] [] [] []
def a9V:Row I:=⟨12,[.d (.dat 27),.d (.sl 3)],[.k (.row 51 false)],a2i⟩
theorem b0A:RK (a9V) :=
 okR [eR Z6,eR a2Z,eR a9k] 54 b1p [.tmp 4] Go.Proofs.Tryz.func12 (by kernel_rfl)
def b7J (n:Nat):Row I:=⟨29,[.d (.dat 27),.d (.str)],[.k (.d (.bool))],a34 n⟩
theorem b89 (n:Nat):RK (b7J n) :=
 okR [eR (a0U n)] 24 Y4 [.tmp 4] Go.Proofs.Tryz.func29 (by kernel_rfl)
def b5m (n:Nat):Row I:=⟨31,[.d (.sl 27)],[.k (.d (.dat 27))],a4L n⟩
theorem b6n (n:Nat):RK (b5m n) :=
 okR [eR b4u,eR (b2L n)] 9 Y4 [.cell 2 27] Go.Proofs.Tryz.func31 (by kernel_rfl)
def c5s (_:Nat):Hints I:=mkH [(5,[[],[0],[],[0,1,2],[],[4],[],[0,1,2,3,4,5,6],[0,1,2,3,4,5,6,7],[0,1,2,3,4,5,6,7,8]])] [] [] [] [(58,⟨70368744165056,[],[],[(6,.k (.row 27 false)),(7,.k (.row 27 false)),(14,.k (.d (.int .i64)))],[((.exit 0),[(6,.k (.row 27 false)),(7,.k (.row 27 false))])],bnd tb (.slot 13) 1⟩)] [] [] []
def c2J (n:Nat):Row I:=⟨13,[.d (.sl 51),.d (.str)],[.k (.d (.dat 27)),.k (.d (.dat 27))],a8Q n⟩
theorem c4F (n:Nat):RK (c2J n) :=
 okR [eR (b89 n),eR (b1y n),eR (b6n n)] 50 (c5s n) [.cell 4 27,.cell 5 27] Go.Proofs.Tryz.func13 (by kernel_rfl)
def b6K:Row I:=⟨47,[.d (.dat 27),.d (.int .i64)],[.k (.d (.bool))],a0v⟩
theorem a5O:RK (b6K) :=
 okR [] 14 Y4 [.tmp 4] Go.Proofs.Tryz.func47 (by kernel_rfl)
def c0J:Hints I:=mkH [(4,[[],[],[1],[],[1,2,3],[1,2,3,4],[0,1,2,3,4,5],[0,1,2,3,4,5,6]]),(47,[[],[],[1],[0,1,2],[0,1,2,3],[0,1,2,3,4],[0,1,2,3,4,5],[0,1,2,3,4,5,6],[0,1,2,3,4,5,6,7],[0,1,2,3,4,5,6,7,8],[0,1,2,3,4,5,6,7,8,9],[0,1,2,3,4,5,6,7,8,9,10],[0,1,2,3,4,5,6,7,8,9,10,11],[0,1,2,3,4,5,6,7,8,9,10,11,12],[0,1,2,3,4,5,6,7,8,9,10,11,12,13],[0,1,2,3,4,5,6,7,8,9,10,11,12,13,14],[0,1,2,3,4,5,6,7,8,9,10,11,12,13,14,15],[0,1,2,3,4,5,6,7,8,9,10,11,12,13,14],[0,1,2,3,4,5,6,7,8,9,10,11,12,13,14,17],[0,1,2,3,4,5,6,7,8,9,10,11,12,13,14,15,16,17,18],[0,1,2,3,4,5,6,7,8,9,10,11,12,13,14,15,16,17,18,19],[0,1,2,3,4,5,6,7,8,9,10,11,12,13,14,15,16,17,18,19,20],[0,1,2,3,4,5,6,7,8,9,10,11,12,13,14],[0,1,2,3,4,5,6,7,8,9,10,11,12,13,14,22],[0,1,2,3,4,5,6,7,8,9,10,11,12,13,14,15,16,17,18,19,20,21,22,23],[0,1,2,3,4,5,6,7,8,9,10,11,12,13,14,15,16,17,18,19,20,21,22,23,24],[0,1,2,3,4,5,6,7,8,9,10,11,12,13,14,15,16,17,18,19,20,21,22,23,24,25],[0,1,2,3,4,5,6,7,8,9,10,11,12,13,14,15,16,17,18,19,20,21,22,23,24,25,26]])] [] [] [(2092029,⟨2706308199418088717232151174730781556736,[],[],[(.normal,[(122,.k (.d (.bool)))])]⟩),
 (535560189,⟨3568119231764899702645714923623737840956866560,[],[],[(.normal,[(149,.k (.d (.bool)))])]⟩)] [(26,⟨67106864,[],[],[(5,.k (.d (.int .i64)))],[((.exit 0),[]),(.ret,[(4,.k (.d (.bool)))])],bnd tb (.len (.ld 36 (.fld 67 4 (.slot 3)))) 1⟩),
 (68551704562,⟨1606938044257528773904631189422958917689486710763136902759952,[],[],[(9,.k (.d (.int .i64)))],[((.exit 3),[]),(.ret,[(4,.k (.d (.bool)))])],bnd tb (.len (.ld 64 (.fld 67 5 (.slot 3)))) 1⟩)] [] [] []
def b7i:Row I:=⟨48,[.d (.dat 27),.d (.dat 67)],[.k (.d (.bool))],a5Z⟩
theorem b87:RK (b7i) :=
 okR [eR a5O,eR a5u,eR a6F,eR a4v,eR a1O] 216 c0J [.tmp 4] Go.Proofs.Tryz.func48 (by kernel_rfl)
def b38:Row I:=⟨49,[.d (.dat 67)],[.k (.d (.bool))],a4q⟩
theorem b5y:RK (b38) :=
 okR [] 16 Y4 [.tmp 2] Go.Proofs.Tryz.func49 (by kernel_rfl)
def b3m (n:Nat):Hints I:=mkH [(6,[[],[],[1],[],[1,2,3],[1,2,3,4],[0,1,2,3,4,5],[0,1,2,3,4,5,6]])] [] [] [] [(58,⟨1073709068,[],[],[(3,.k (.d (.int .i64)))],[((.exit 0),[]),(.ret,[(2,.k (.d (.int .i64)))])],bnd tb (.len (.ld 25 (.fld 27 0 (.slot 1)))) 1⟩),
 (250,⟨4951760157141521082416628192,[],[],[(4,.k (.row 4 false)),(5,.k (.d (.int .i64)))],[((.exit 2),[(4,.k (.row 4 false))])],bnd tb (.len (.ld 25 (.fld 27 0 (.slot 1)))) 1⟩),
 (506,⟨10136253041668693690874029146628,[],[],[(4,.k (.row 4 false)),(9,.k (.d (.int .i64)))],[((.exit 8),[(4,.k (.row 4 false))]),(.ret,[(2,.k (.d (.int .i64))),(4,.k (.row 4 false))])],bnd tb (.len (.slot 4)) 1⟩),
 (16018,⟨4951760157141518900573241792,[],[],[(4,.k (.row 4 false)),(6,.k (.d (.int .i64)))],[((.exit 4),[(4,.k (.row 4 false))])],bnd tb (.len (.ld 25 (.fld 27 0 (.slot 1)))) 1⟩),
 (4100682,⟨4835703278177041722114432,[],[],[(4,.k (.row 4 false)),(7,.k (.d (.bool))),(8,.k (.d (.int .i64)))],[((.exit 6),[(4,.k (.row 4 false)),(7,.k (.d (.bool)))])],fun _=>some n⟩)] [] [] []
def b07 (n:Nat):Row I:=⟨32,[.d (.dat 27)],[.k (.d (.int .i64))],a0o n⟩
theorem a6J (n:Nat):RK (b07 n) :=
 okR [eR a5O,eR b87,eR b5y] 103 (b3m n) [.tmp 2] Go.Proofs.Tryz.func32 (by kernel_rfl)
def b1S (n:Nat):Row I:=⟨14,[.d (.dat 27),.d (.str)],[.k (.d (.bool))],a1U n⟩
theorem b2E (n:Nat):RK (b1S n) :=
 okR [eR (a6J n)] 29 Y4 [.tmp 4] Go.Proofs.Tryz.func14 (by kernel_rfl)
def c1H:Hints I:=mkH [(4,[[],[0],[],[0,1,2],[0,1,2,3],[],[0,1,2,3,4,5]])] [] [] [] [(26,⟨2097136,[],[],[(5,.k (.d (.int .i64)))],[((.exit 0),[]),(.ret,[(4,.k (.d (.int .i64)))])],bnd tb (.len (.ld 39 (.fld 42 4 (.slot 2)))) 1⟩)] [] [] []
def b8H:Row I:=⟨113,[.d (.dat 42),.d (.dat 126)],[.k (.d (.int .i64))],a6I⟩
theorem c0e:RK (b8H) :=
 okR [] 21 c1H [.tmp 4] Go.Proofs.Tryz.func113 (by kernel_rfl)
def b8V:Hints I:=mkH [(4,[[],[0],[],[0,1,2],[0,1,2,3],[0,1,2,3,4],[],[0,1,2,3,4,5,6]])] [] [] [] [(26,⟨4194288,[],[],[(5,.k (.d (.int .i64)))],[((.exit 0),[]),(.ret,[(4,.k (.d (.int .i64)))])],bnd tb (.len (.ld 64 (.fld 67 5 (.slot 2)))) 1⟩)] [] [] []
def b6F:Row I:=⟨114,[.d (.dat 67),.d (.dat 126)],[.k (.d (.int .i64))],a2n⟩
theorem b8n:RK (b6F) :=
 okR [] 22 b8V [.tmp 4] Go.Proofs.Tryz.func114 (by kernel_rfl)
def b5R (_:Nat):Hints I:=mkH [(8,[[],[0],[],[],[3],[],[3,4,5],[0,1,2,3,4,5,6],[0,1,2,3,4,5,6,7],[0,1,2,3,4,5,6,7,8],[0,1,2,3,4,5,6,7,8,9],[0,1,2,3,4,5,6,7,8,9,10],[0,1,2,3,4,5,6,7,8,9,10,11],[0,1,2,3,4,5,6,7,8,9,10,11,12],[0,1,2,3,4,5,6,7,8,9,10,11],[0,1,2,3,4,5,6,7,8,9,10,11],[0,1,2,3,4,5,6,7,8,9,10,11,15],[0,1,2,3,4,5,6,7,8,9,10,11],[0,1,2,3,4,5,6,7,8,9,10,11,15,16,17],[0,1,2,3,4,5,6,7,8,9,10,11,15,16,17,18],[0,1,2,3,4,5,6,7,8,9,10,11,12,13,14,15,16,17,18,19],[0,1,2,3,4,5,6,7,8,9,10,11,12,13,14,15,16,17,18,19,20],[0,1,2,3,4,5,6,7,8,9,10,11,12,13,14,15,16,17,18,19,20,21],[0,1,2,3,4,5,6,7,8,9,10,11,12,13,14,15,16,17,18,19,20,21,22]])] [] [] [] [(122,⟨18014398509220672,[],[],[(8,.k (.d (.int .i64)))],[((.exit 0),[]),(.ret,[(6,.k (.d (.bool)))])],bnd tb (.len (.ld 40 (.fld 42 5 (.slot 3)))) 1⟩)] [] [] []
def a0x (n:Nat):Row I:=⟨91,[.d (.dat 42),.d (.dat 27),.d (.dat 67)],[.k (.d (.bool))],a0N n⟩
def b6S (_:Nat):Hints I:=mkH [(4,[[],[0],[],[0,1,2],[0,1,2,3],[0,1,2,3,4],[0,1,2,3,4,5],[0,1,2,3,4,5,6],[0,1,2,3,4,5,6,7],[0,1,2,3,4,5,6,7],[0,1,2,3,4,5,6,7,9],[0,1,2,3,4,5,6,7],[0,1,2,3,4,5,6,7,9,10,11],[0,1,2,3,4,5,6,7,9,10,11,12],[0,1,2,3,4,5,6,7,9,10,11,12,13],[0,1,2,3,4,5,6,7,8,9,10,11,12,13,14],[0,1,2,3,4,5,6,7,8,9,10,11,12,13,14,15],[0,1,2,3,4,5,6,7,8,9,10,11,12,13,14,15,16]]),(9,[[],[],[1],[],[1,2,3],[1,2,3,4],[0,1,2,3,4,5],[0,1,2,3,4,5,6]]),(13,[[],[0],[],[0,1,2],[0,1,2,3],[],[],[0,1,2,3,4,5,6],[0,1,2,3,4,5,6,7]])] [] [] [(3730,⟨575334852396581888,[],[],[(.normal,[(10,.k (.d (.int .i64)))])]⟩),
 (14925,⟨145268109580462720000,[],[],[(.normal,[(10,.k (.d (.int .i64)))])]⟩)] [(26,⟨68719474880,[],[],[(7,.k (.d (.int .i64)))],[((.exit 0),[]),(.ret,[(6,.k (.d (.bool)))])],bnd tb (.len (.ld 64 (.fld 67 5 (.slot 5)))) 1⟩),
 (58,⟨75557863725845603944256,[],[],[(8,.k (.d (.int .i64)))],[((.exit 2),[]),(.ret,[(6,.k (.d (.bool)))])],bnd tb (.len (.ld 39 (.fld 42 4 (.slot 3)))) 1⟩)] [] [] []
def a0K (n:Nat):Row I:=⟨90,[.d (.dat 42),.d (.dat 27),.d (.dat 67)],[.k (.d (.bool))],a0X n⟩
def b7y (_:Nat):Hints I:=mkH [(35,[[],[],[],[2],[],[2,3,4],[2,3,4,5],[0,1,2,3,4,5,6]]),(42,[[],[],[],[2],[],[2,3,4],[2,3,4,5],[0,1,2,3,4,5,6],[0,1,2,3,4,5,6,7]]),(46,[[],[],[],[2],[2,3],[2,3,4],[0,1,2,3,4,5],[0,1,2,3,4,5,6],[0,1,2,3,4,5,6,7]]),(51,[[],[0],[],[0,1,2],[0,1,2,3],[],[5],[0,1,2,3,4,5,6]])] [] [] [] [(506806140914,⟨365364258960126464239350440319934430733230145856,[],[],[(8,.k (.d (.int .i64)))],[((.exit 1),[]),(.ret,[(6,.k (.d (.bool)))])],bnd tb (.len (.ld 36 (.fld 67 4 (.slot 7)))) 1⟩),
 (2027224563698,⟨95779509802480722744478485512061607693151539203932736,[],[],[(9,.k (.d (.int .i64)))],[((.exit 3),[]),(.ret,[(6,.k (.d (.bool)))])],bnd tb (.len (.ld 36 (.fld 67 4 (.slot 7)))) 1⟩),
 (16217796509690,⟨12855112035213460536787957001890350341026617553047063680255040,[],[],[(10,.k (.d (.int .i64)))],[((.exit 5),[]),(.ret,[(6,.k (.d (.bool)))])],bnd tb (.len (.ld 22 (.fld 42 6 (.slot 3)))) 1⟩)] [] [] []
def a0n (n:Nat):Row I:=⟨50,[.d (.dat 42),.d (.dat 27),.d (.int .i64)],[.k (.d (.bool))],Z5 n⟩
def b63 (_:Nat):Hints I:=mkH [(6,[[],[],[0,1],[0,1,2],[],[],[],[5,6],[5,6,7],[0,1,2,3,4,5,6,7,8],[0,1,2,3,4,5,6,7,8,9]])] [] [] [] [(58,⟨1073733824,[],[],[(7,.k (.d (.int .i64)))],[((.exit 0),[]),(.ret,[(6,.k (.d (.bool)))])],bnd tb (.len (.slot 0)) 1⟩)] [] [] []
def a0J (n:Nat):Row I:=⟨89,[.d (.sl 42),.d (.dat 27),.d (.sl 3)],[.k (.d (.bool))],a0s n⟩
theorem b3A (n:Nat)(_:Z3 d8m (a0x n))(_:Z3 d8m (a0K n))(h_semtyperef7_member:Z3 d8m (a0n n))(h_semtyperef7_members:Z3 d8m (a0J n)):RK (a0x (n+1)) :=
 okR [eR h_semtyperef7_members,eR h_semtyperef7_member] 54 (b5R n) [.tmp 6] Go.Proofs.Tryz.func91 (by kernel_rfl)
theorem b3U (n:Nat)(_:Z3 d8m (a0x n))(_:Z3 d8m (a0K n))(h_semtyperef7_member:Z3 d8m (a0n n))(_:Z3 d8m (a0J n)):RK (a0K (n+1)) :=
 okR [eR c0e,eR b8n,eR h_semtyperef7_member] 76 (b6S n) [.tmp 6] Go.Proofs.Tryz.func90 (by kernel_rfl)
theorem b5N (n:Nat)(h_semtyperef7_function:Z3 d8m (a0x n))(h_semtyperef7_mapping:Z3 d8m (a0K n))(h_semtyperef7_member:Z3 d8m (a0n n))(h_semtyperef7_members:Z3 d8m (a0J n)):RK (a0n (n+1)) :=
 okR [eR h_semtyperef7_members,eR h_semtyperef7_mapping,eR h_semtyperef7_function,eR h_semtyperef7_member] 203 (b7y n) [.tmp 6] Go.Proofs.Tryz.func50 (by kernel_rfl)
theorem b3R (n:Nat)(_:Z3 d8m (a0x n))(_:Z3 d8m (a0K n))(h_semtyperef7_member:Z3 d8m (a0n n))(_:Z3 d8m (a0J n)):RK (a0J (n+1)) :=
 okR [eR h_semtyperef7_member] 30 (b63 n) [.tmp 6] Go.Proofs.Tryz.func89 (by kernel_rfl)
theorem a5C:∀ n:Nat,Z3 d8m (a0x n)/\Z3 d8m (a0K n)/\Z3 d8m (a0n n)/\Z3 d8m (a0J n)
 | 0=>⟨a0h (by kernel_rfl),a0h (by kernel_rfl),a0h (by kernel_rfl),a0h (by kernel_rfl)⟩
 | n+1=>by
   obtain ⟨h0,h1,h2,h3⟩:=a5C n
   exact ⟨b3A n h0 h1 h2 h3,b3U n h0 h1 h2 h3,b5N n h0 h1 h2 h3,b3R n h0 h1 h2 h3⟩
theorem b6g (n:Nat):Z3 d8m (a0n n):=(a5C n).2.2.1
def b3c (n:Nat):Row I:=⟨33,[.d (.dat 42),.d (.dat 27),.d (.int .i64)],[.k (.d (.bool))],a5F n⟩
theorem b4h (n:Nat):RK (b3c n) :=
 okR [eR (a5Y n),eR (a6J n),eR a5O,eR (b6g n)] 25 Y4 [.tmp 6] Go.Proofs.Tryz.func33 (by kernel_rfl)
def b5G (n:Nat):Row I:=⟨15,[.d (.dat 42),.d (.dat 27)],[.k (.d (.bool))],a1j n⟩
theorem b6D (n:Nat):RK (b5G n) :=
 okR [eR (b4h n)] 10 Y4 [.tmp 4] Go.Proofs.Tryz.func15 (by kernel_rfl)
def b1q (_:Nat):Hints I:=mkH [(11,[[],[],[0,1],[0,1,2],[0,1,2,3],[],[0,1,2,3,4,5],[],[],[7,8],[7,8,9],[7,8,9,10],[],[0,1,2,3,4,5,6,7,8,9,10,11,12],[0,1,2,3,4,5,6,7,8,9,10,11,12,13],[0,1,2,3,4,5,6,7,8,9,10,11,12,13,14]]),(13,[[],[0],[0,1],[0,1],[0,1],[0,1,3,4],[0,1,3,4,5],[0,1,3,4,5,6],[0,1,2,3,4,5,6,7],[0,1,2,3,4,5,6,7,8],[0,1,2,3,4,5,6,7,8,9]]),(15,[[],[0],[0,1],[0,1],[0,1],[0,1,3,4],[0,1,3,4,5],[0,1,3,4,5,6],[0,1,2,3,4,5,6,7],[0,1,2,3,4,5,6,7,8],[0,1,2,3,4,5,6,7,8,9]])] [(1,[21])] [] [(12,⟨133955584,[],[],[(.normal,[(26,.k (.d (.bool)))])]⟩),
 (16338,⟨633825300114078671951332859904,[],[],[(.normal,[(13,.k (.d (.bool))),(14,.k (.d (.bool)))])]⟩),
 (261413,⟨19323923647902588214460416,[],[],[(.normal,[(14,.k (.d (.bool)))])]⟩)] [(2042,⟨633825300114114137798398435328,[],[],[(13,.k (.d (.bool))),(14,.k (.d (.bool))),(15,.k (.d (.int .i64)))],[((.exit 0),[(13,.k (.d (.bool))),(14,.k (.d (.bool)))])],bnd tb (.len (.slot 9)) 1⟩)] [] [] []
noncomputable def b0a (n:Nat):Row I:=⟨4,[.d (.sl 3),.d (.sl 3),.d (.int .u8)],[.k (.d (.bool))],a2k n⟩
theorem b0T (n:Nat):RK (b0a n) :=
 okR [eR b6e,eR (b7e n),eR (b6f n),eR b0A,eR (c4F n),eR (b2E n),eR (b6D n)] 114 (b1q n) [.tmp 6] Go.Proofs.Tryz.func4 (by kernel_rfl)
end Go.Qx
end
section
open Array renaming getElem?_eq_some_iff->d9k
open Bool renaming false_eq_true->d81
open List renaming drop_eq_getElem_cons->d8S,getElem?_append_left->d8H,getElem?_append_right->d8z,getElem?_eq_getElem->d8n,getElem?_eq_some_iff->d8o,getElem_mem->d8B,length_pos_iff->e0d,map_cons->d8O,mem_append_left->d9M,mem_append_right->d9G,mem_map->d8T
open Nat renaming add_assoc->d9j,add_mul->d8W,lt_of_lt_of_le->d9n,mul_le_mul_right->d8J,one_mul->d90,zero_add->d8Q,zero_le->d8w
namespace Go.Pl
open Go Go.RowKit Go.Sx Go.Qx Go.Proofs.YtmjdpaeioidmeaaGreatDoor
def a9Z (w:World):S:=⟨w,fun b=>match w.heap[b]? with | some (.cells c _ _)=>(c.size,0) | _=>(0,0)⟩
theorem d1s {w:World}{b o:Nat}{cs:List Value}(hn:cs≠[])(h:w.rangeAt b o cs)(hf:∀ j,j<cs.length->w.frozen? ⟨b,o+j,none⟩=false):a3y (a9Z w) b o cs:=by
 refine ⟨⟨?_,hf⟩,h⟩
 have hl:0<cs.length:=e0d.2 hn
 have hj:=h (cs.length-1) _ (d8n (by omega))
 unfold World.cell? at hj
 simp only at hj
 split at hj
 ·rename_i c e f hb
  have h2:o+(cs.length-1)<c.size:=by
   simp only [Option.isSome_none,d81,if_false] at hj
   exact (d9k.1 hj).1
  show o+cs.length<=(match w.heap[b]? with | some (.cells c _ _)=>(c.size,0) | _=>(0,0)).1
  rw [hb]
  show o+cs.length<=c.size
  omega
 ·cases hj
theorem d06 {w:World}{base:Nat}{a:Addr}{n:Nat}{cs:List Value}(h:w.cells? base a n=some cs) :
 cs.length=n/\∀ (i:Nat) (v:Value),cs[i]?=some v->w.cell? (a.add i)=some v:=by
 unfold World.cells? at h
 split at h
 ·have hl:cs.length=n:=by simpa using mapM_some_length h
  refine ⟨hl,fun i v hv=>?_⟩
  have hi:i<n:=by have:=(d8o.1 hv).1; omega
  have:=mapM_some_get h i i (by simp [hi])
  rw [this,hv]
 ·cases h
theorem d5e (a:Addr)(x j:Nat):(a.add x).add j=a.add (x+j):=by
 unfold Addr.add
 by_cases hx:x=0
 ·subst hx; simp
 ·by_cases hj:j=0
  ·subst hj; simp [hx]
  ·rw [if_neg hj,if_neg hx,if_neg (by omega),d9j]
theorem d2y {w:World}{a:Addr}{v:Value}(h:w.cell? a=some v):a.spot=none:=by
 unfold World.cell? at h
 split at h
 ·split at h
  ·cases h
  ·rename_i hs; simpa using hs
 ·cases h
section
variable {H:Type}{enc:TypeId×Value->H}{P:Program}{w:World}{base:Nat}{spare:Nat->Bool}{held:Bool}
theorem c4g {α:Type} [Rp α] {fuel:Nat}{t e:TypeId}{cs:List Value}{x:DataW H×List MemPlace}(ht:P.underlying t=some (.slice e))(hc:P.cellsOf e=Rp.sz α)(bk:α->Nat)
 (hrd:∀ (n:Nat) (cs:List Value) (x:DataW H×List MemPlace),n<fuel->w.noneFrozen x.2->DataW.trod enc P w base spare held n e cs=some x->∃ d:α,Rp.cells (a9Z w) d cs/\bk d<=Rows.uptoBulk x.1) (hz:w.noneFrozen x.2)
 (h:DataW.trod enc P w base spare held fuel t cs=some x) :
 ∃ (ds:List α) (A:Option Addr) (c:Nat),cs=[.slice A ds.length c]/\Sl (a9Z w) ds A c/\(ds.map bk).sum+1<=Rows.uptoBulk x.1:=by
 rcases DataW.trod_slice ht h with ⟨rfl,rfl⟩ | ⟨a,len,cap,elems,rest,n,rfl,rfl,rfl,hb,hl,hm,hle,hget,-,-⟩
 ·exact ⟨[],none,0,rfl,Sl.nil_ _ _ _ (d8w _),by simp [Rows.uptoBulk]⟩
 have hze:∀ y∈elems,w.noneFrozen y.2:=fun y hy b off hm'=>hz b off (d9G _ (List.mem_flatMap.2 ⟨y,d9M _ hy,hm'⟩))
 have hzr:∀ i,i<(elems.length+rest.length)*P.cellsOf e->w.frozen? ⟨a.block,a.off+i,none⟩=false:=fun i hi=>hz _ _ (d9M _ (d8T.2 ⟨i,List.mem_range.2 hi,rfl⟩))
 have key:∀ (m i:Nat),i+m=len->∃ (ds:List α) (cs:List Value),ds.length=m/\J6 (a9Z w) ds cs /\
  (∀ (j:Nat) (v:Value),cs[j]?=some v->w.cell? (a.add (i*Rp.sz α+j))=some v)/\(ds.map bk).sum<=Rows.uptoBulkAll ((elems.drop i).map (·.1)):=by
  intro m
  induction m with
  | zero=>intro i _; exact ⟨[],[],rfl,rfl,fun j v hv=>by simp at hv,by simp⟩
  | succ m ih =>
    intro i hi
    obtain ⟨ds,cs,h1,h2,h3,h4⟩:=ih (i+1) (by omega)
    have hlt:i<elems.length:=by omega
    have hg:=hget i (by omega)
    rw [d8n hlt,Option.bind_eq_some_iff] at hg
    obtain ⟨cs0,hcs,htr⟩:=hg
    obtain ⟨d,hd,hbk⟩:=hrd n cs0 _ (by omega) (hze _ (d8B hlt)) htr
    obtain ⟨hcl,hci⟩:=d06 hcs
    rw [hc] at hcl hci
    refine ⟨d::ds,cs0++cs,by simp [h1],⟨cs0,cs,rfl,hd,h2⟩,?_,?_⟩
    ·intro j v hv
     by_cases hj:j<Rp.sz α
     ·rw [d8H (by omega)] at hv
      rw [<- d5e]
      exact hci j v hv
     ·rw [d8z (by omega)] at hv
      have:=h3 _ v hv
      rw [hcl,d8W,d90] at this
      have e:i*Rp.sz α+Rp.sz α+(j-Rp.sz α)=i*Rp.sz α+j:=by omega
      rw [e] at this
      exact this
    ·rw [d8S hlt]
     simp only [d8O,List.sum_cons,Rows.uptoBulkAll]
     omega
 obtain ⟨ds,cs,h1,h2,h3,h4⟩:=key len 0 (by omega)
 simp only [Nat.zero_mul,d8Q,List.drop_zero] at h3 h4
 refine ⟨ds,some a,cap,by rw [h1],⟨by omega,hm,cs,h2,fun hn=>?_⟩,by simp only [Rows.uptoBulk]; omega⟩
 have hne:=h2.ne_nil hn
 cases cs with
 | nil=>exact absurd rfl hne
 | cons v0 r =>
   have h0:=h3 0 v0 rfl
   have hs:a.spot=none:=d2y (by simpa [Addr.add] using h0)
   obtain ⟨b,o,sp⟩:=a
   simp only at hs
   subst hs
   refine ⟨b,o,rfl,d1s (by simp) ?_ (fun j hj=>hzr j (by
    have h5:=h2.len
    rw [h5,h1] at hj
    rw [hc,hle]
    exact d9n hj (d8J _ (Nat.le_add_right _ _))))⟩
   intro j v hv
   have:=h3 j v hv
   unfold Addr.add at this
   by_cases hj:j=0
   ·subst hj; simpa using this
   ·rw [if_neg hj] at this
    exact this
end
end Go.Pl
end
section
namespace Go.Pl
open Go Go.RowKit Go.Sx Go.Qx
def c0u (_:Int):Nat:=1
def c7M (l:List Int):Nat:=(l.map c0u).sum+1
end Go.Pl
end
section
open Go.Proofs.Tryz renaming prog->d8m
namespace Go.Pl
open Go Go.RowKit Go.Sx Go.Qx Go.Proofs.YtmjdpaeioidmeaaGreatDoor
theorem c3:d8m.cellsOf 3=1:=by kernel_rfl
theorem c5:d8m.cellsOf 5=1:=by kernel_rfl
section
variable {H:Type}{enc:TypeId×Value->H}{w:World}{base:Nat}{spare:Nat->Bool}{held:Bool}
theorem d59 {n:Nat}{cs:List Value}{x:DataW H×List MemPlace}(hz:w.noneFrozen x.2)(h:DataW.trod enc d8m w base spare held n 3 cs=some x):∃ d:Int,(rpK .i64).cells (a9Z w) d cs/\c0u d<=Rows.uptoBulk x.1:=by
 obtain ⟨k,e0,rfl,_⟩:=DataW.trod_int Go.Proofs.Tryz.underlying3 h
 exact ⟨k,e0,by simp [c0u,Rows.uptoBulk]⟩
end
end Go.Pl
end

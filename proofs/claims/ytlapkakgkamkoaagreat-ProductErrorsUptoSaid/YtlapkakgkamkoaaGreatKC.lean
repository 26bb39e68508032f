/- ProductErrors: for lists, lines and types of bulk at most 1048576 the law's function answers true. -/
import Derived.Test.YtlapkakgkamkoaaGreatK4
import Derived.Test.YtlapkakgkamkoaaGreatK5
import Derived.WalkKit
import Derived.ProofKit
import Derived.OpenShut
import Derived.Carry
import Derived.JoinedCond
namespace Go.Proofs.YtlapkakgkamkoaaGreat.productErrors
open Go Go.Sx Go.Pl Go.Qx Go.ChangeShapes Go.WideShapes Go.ChangeAt Go.RowKit
theorem own:ownKnob Go.Proofs.Tryz.prog.godebug=none:=by kernel_rfl
theorem laid:laidOutB Go.Proofs.Tryz.prog=true:=by kernel_rfl
theorem c9M:Go.Proofs.Tryz.prog.readableRec 22=true:=by kernel_rfl
theorem d0x:22<Go.Proofs.Tryz.prog.types.size:=of_decide_eq_true (by kernel_rfl)
theorem c95:Go.Proofs.Tryz.prog.readableRec 27=true:=by kernel_rfl
theorem d0B:27<Go.Proofs.Tryz.prog.types.size:=of_decide_eq_true (by kernel_rfl)
theorem c9U:Go.Proofs.Tryz.prog.readableRec 40=true:=by kernel_rfl
theorem d0D:40<Go.Proofs.Tryz.prog.types.size:=of_decide_eq_true (by kernel_rfl)
theorem d0E {fuel:Nat}{σ:S}{a0:List Int}{a1:Api_Line}{a2:Api_Type}{v0 v1 v2:Value}(h0:∃ A c,v0=.slice A a0.length c/\@Sl _ (rpK .i64) σ a0 A c)(h1:∃ cs:List Value,v1=.agg cs.toArray/\(a20).cells σ a1 cs)(h2:∃ cs:List Value,v2=.agg cs.toArray/\(a2Z).cells σ a2 cs)(hr:a1o fuel a0 a1 a2=some true) :
 Calls Go.Proofs.Tryz.prog 4 #[v0,v1,v2] σ.w fun e W'=>e=.returned (.bool true)/\Below σ.w.heap.size σ.w W':=by
 have hc:=a7m fuel σ (a0,a1,a2,()) [v0,v1,v2] [] true ⟨v0,[v1,v2],[],[],rfl,rfl,⟨h0,rfl⟩,v1,[v2],[],[],rfl,rfl,⟨h1,rfl⟩,v2,[],[],[],rfl,rfl,⟨h2,rfl⟩,rfl,rfl⟩ List.nodup_nil hr
 rcases hc with ⟨_,hc⟩ | ⟨v,τ,hc,_⟩
 ·refine hc.mono fun e w' ⟨v,τ,he,hw,hst,ws,us,pls,hp⟩=>?_
  subst hw
  refine ⟨?_,hst.os,hst.tape,hst.output,hst.wext.size,fun b hb=>(hst.block b hb (fun h=>by cases h)).1⟩
  obtain ⟨u,hu,ht⟩:=hp.tt
  have hu':ws++us=[u]:=hu
  have ho:us=[]:=hp.out
  subst ho
  rw [List.append_nil] at hu'
  rw [he,hp.ret,hu']
  have ht':u=.bool true/\pls=[]:=ht
  rw [ht'.1]
  rfl
 ·exact absurd hc (by
   have e:=enters_of Go.Proofs.Tryz.func4 (by kernel_rfl) rfl #[v0,v1,v2] σ.w
   intro hc
   have hc:(callFunc 4 #[v0,v1,v2]).run Go.Proofs.Tryz.prog σ.w=.ok (.value v) τ.w:=hc
   have:=hc.symm.trans e
   cases this)
set_option maxRecDepth 100000 in
theorem c5G (H:Type)(enc:TypeId×Value->H)(W:World)(base:Nat)(args:Array Value)(ds gs:List (DataW H))(before:List MemPlace)
 (hval:∀ (j:Nat) t v,Go.Proofs.Tryz.f4.params[j]?=some t->args[j]?=some v->Value.okWide Go.Proofs.Tryz.prog W .any base t v)
 (hW:DataW.Whole enc Go.Proofs.Tryz.prog Go.Proofs.Tryz.f4.params.toList Rows.productErrorsSpec.vars false W args.toList ds gs before)
 (hk:Rows.uptoSmall H (ds++gs)=true) :
 Calls Go.Proofs.Tryz.prog 4 args W fun e W'=>∃ v,e=.returned v/\Rows.productErrorsSpec.post enc Go.Proofs.Tryz.prog Go.Proofs.Tryz.f4 false true false false W args v W':=by
 have hW':=hW
 obtain ⟨p,q,hA0,hV,rfl,hfz,hnd⟩:=hW
 have hA:DataW.TrodAll enc Go.Proofs.Tryz.prog W 0 (fun _=>true) true Go.Proofs.Tryz.f4.params.toList args.toList ds p:=hA0
 rw [Go.Proofs.Tryz.params4] at hA hval
 obtain ⟨v0,vs0,d0,ds0,p0,q0,hargs,rfl,rfl,h0,r0⟩:=trodAll_cons hA
 obtain ⟨v1,vs1,d1,ds1,p1,q1,rfl,rfl,rfl,h1,r1⟩:=trodAll_cons r0
 obtain ⟨v2,vs2,d2,ds2,p2,q2,rfl,rfl,rfl,h2,r2⟩:=trodAll_cons r1
 obtain ⟨rfl,rfl,rfl⟩:=trodAll_nil r2
 obtain rfl:args=#[v0,v1,v2]:=by cases args; simp_all
 obtain ⟨rfl,rfl⟩:=trodVars_none hV
 have z0:W.noneFrozen p0:=fun b off hm=>hfz b off (by simp [hm])
 have z1:W.noneFrozen p1:=fun b off hm=>hfz b off (by simp [hm])
 have z2:W.noneFrozen p2:=fun b off hm=>hfz b off (by simp [hm])
 obtain ⟨A0,c0A,cap0,rfl⟩:=okWide_slice Go.Proofs.Tryz.underlying22 (hval 0 22 v0 rfl rfl)
 obtain ⟨n0,t0⟩:=id h0
 obtain ⟨a0,B0,c0,e0,k0,b0⟩:=@a5x _ _ _ _ _ _ _ Int (rpK .i64) _ _ _ _ _ Go.Proofs.Tryz.underlying22 c3 a1S (fun n cs x _ hz h=>b3s hz h) z0 t0
 have e0':[Value.slice A0 c0A cap0]=[Value.slice B0 a0.length c0]:=e0
 obtain ⟨rfl,rfl,rfl⟩:A0=B0/\c0A=a0.length/\cap0=c0:=by simpa using e0'
 have b0:a7H a0<=Rows.uptoBulk d0:=b0
 obtain ⟨c1,rfl,hc1⟩:=okWide_struct Go.Proofs.Tryz.underlying40 (hval 1 40 v1 rfl rfl)
 obtain ⟨n1,t1⟩:=id h1
 obtain ⟨a1,k1,b1⟩:=d0t z1 t1
 have b1:b1G a1<=Rows.uptoBulk d1:=b1
 obtain ⟨c2,rfl,hc2⟩:=okWide_struct Go.Proofs.Tryz.underlying27 (hval 2 27 v2 rfl rfl)
 obtain ⟨n2,t2⟩:=id h2
 obtain ⟨a2,k2,b2⟩:=d0o z2 t2
 have b2:a3U a2<=Rows.uptoBulk d2:=b2
 have hbulk:=of_decide_eq_true hk
 simp only [List.append_nil,Rows.uptoBulkAll] at hbulk
 have hb0:a3U a2<=1048576:=by omega
 obtain ⟨fuel,hfuel⟩:∃ n:Nat,300000000<=n:=⟨_,Nat.le_refl _⟩
 have ctr:=d0E (fuel:=fuel) (σ:=a1t W) ⟨A0,cap0,rfl,k0⟩ ⟨c1.toList,rfl,k1⟩ ⟨c2.toList,rfl,k2⟩ (b6j fuel hfuel a0 a1 a2 hb0)
 clear hA0
 have hlt:=hW'.lt
 refine ctr.mono fun e W' ⟨he,hbl⟩=>?_
 subst he
 have hbl:Below W.heap.size W W':=hbl
 refine ⟨_,rfl,[d0,d1,d2],[],_,[],p0++(p1++(p2++[])),[],hW',?_,?_,rfl,hbl.frame _,fun h=>by cases h⟩
 ·exact trodAll_cons_mk (shut_bool Go.Proofs.Tryz.underlying4 _) trodAll_mk0
 ·have s0:=Below.trod laid c9M d0x h0 hbl (fun x hx=>hlt x (by simp [hx]))
  have s1:=Below.trod laid c9U d0D h1 hbl (fun x hx=>hlt x (by simp [hx]))
  have s2:=Below.trod laid c95 d0B h2 hbl (fun x hx=>hlt x (by simp [hx]))
  exact trodAll_cons_mk s0 (trodAll_cons_mk s1 (trodAll_cons_mk s2 trodAll_mk0))
set_option maxRecDepth 100000 in
theorem c8V (os:Os)(started:os.Started)(H:Type)(enc:TypeId×Value->H)(F:Stop.Interp) :
 ReturnsInHanded {} Go.Proofs.Tryz.checked os 4 .any ((Rows.OpenSpec.upto Rows.productErrorsSpec).pre6 enc Go.Proofs.Tryz.prog Go.Proofs.Tryz.f4 Rows.productErrorsUptoRow.domain false) (((Rows.OpenSpec.upto Rows.productErrorsSpec).at F).post enc Go.Proofs.Tryz.prog Go.Proofs.Tryz.f4 false true false false):=by
 refine returnsInHanded_of_cond (C:=Go.Proofs.Tryz.checked) (s:=Rows.OpenSpec.upto Rows.productErrorsSpec) (k:=Rows.uptoSmall) rfl own started (by kernel_rfl) Go.Proofs.Tryz.func4
  (OpenSpec.witness (enc:=enc) (C:=Go.Proofs.Tryz.checked) (s:=Rows.OpenSpec.upto Rows.productErrorsSpec) (k:=Rows.uptoSmall) rfl false
    ⟨#[],#[.slice none 0 0,.agg #[.int .i64 0,.int .i64 0,.slice none 0 0,.bool false,.slice none 0 0,.slice none 0 0,.slice none 0 0,.slice none 0 0,.slice none 0 0],.agg #[.slice none 0 0,.int .i64 0]],[]⟩ 8
    (by kernel_rfl) (by kernel_rfl) (by kernel_rfl)
    (x:=([.nil,.agg [.lit (.int .i64 0),.lit (.int .i64 0),.nil,.agg [.lit (.bool false),.nil],.nil,.nil,.nil,.nil],.agg [.nil,.lit (.int .i64 0)]],[],[])) (by kernel_rfl) rfl (by kernel_rfl)) ?_
 intro W base args ds gs before hval hW _ hk _
 exact c5G H enc W base args ds gs before hval hW hk
theorem c7m:Go.Proofs.Tryz.prog.inPlace 4=Rows.productErrorsUptoRow.inPlace:=by kernel_rfl
theorem c7X:Go.Proofs.Tryz.prog.unfollowed 4=Rows.productErrorsUptoRow.unfollowed:=by kernel_rfl
theorem c7s:Go.Proofs.Tryz.prog.recurses 4=Rows.productErrorsUptoRow.recurses:=by kernel_rfl
theorem c72:Go.Proofs.Tryz.prog.varsNamed 4=Rows.productErrorsUptoRow.named:=by kernel_rfl
theorem c8C:joinedFacts Go.Proofs.Tryz.prog 4 Go.Proofs.Tryz.f4 (Rows.OpenSpec.upto Rows.productErrorsSpec).bare Rows.productErrorsUptoRow=true:=by
 unfold joinedFacts
 rw [c7m,c7X,c7s,c72]
 kernel_rfl
theorem over:Rows.productErrorsUptoRow.holds Tryz.pinned (Rows.OpenSpec.upto Rows.productErrorsSpec) :=
 OpenClaim.holds_of_cond 4 Go.Proofs.Tryz.f4 rfl rfl rfl rfl rfl rfl rfl ⟨rfl,rfl,rfl,rfl,rfl⟩ rfl rfl rfl rfl rfl (by kernel_rfl) Go.Proofs.Tryz.func4 c8C
  (of_decide_eq_true (by kernel_rfl)) (by unfold Func.isWrapper; first | (rw [if_pos (by decide +kernel)]; kernel_rfl) | (rw [if_neg (by decide +kernel)]; exact ⟨rfl,rfl⟩))
  (fun os started H enc _ F=>c8V os started H enc F)
theorem proved:Rows.ProductErrorsUptoSaid :=
 over
end Go.Proofs.YtlapkakgkamkoaaGreat.productErrors

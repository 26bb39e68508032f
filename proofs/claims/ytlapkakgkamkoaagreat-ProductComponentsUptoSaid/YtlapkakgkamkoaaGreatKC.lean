/- ProductComponents: for all lists of bulk at most 1048576 the law's function answers true. -/
import Derived.Test.YtlapkakgkamkoaaGreatK4
import Derived.Test.YtlapkakgkamkoaaGreatK5
import Derived.WalkKit
import Derived.ProofKit
import Derived.OpenShut
import Derived.Carry
import Derived.JoinedCond
namespace Go.Proofs.YtlapkakgkamkoaaGreat.productComponents
open Go Go.Sx Go.Pl Go.Qx Go.ChangeShapes Go.WideShapes Go.ChangeAt Go.RowKit
theorem own:ownKnob Go.Proofs.Tryz.prog.godebug=none:=by kernel_rfl
theorem laid:laidOutB Go.Proofs.Tryz.prog=true:=by kernel_rfl
theorem c5O:Go.Proofs.Tryz.prog.readableRec 22=true:=by kernel_rfl
theorem c7s:22<Go.Proofs.Tryz.prog.types.size:=of_decide_eq_true (by kernel_rfl)
theorem d2f {fuel:Nat}{σ:S}{a0:List Int}{a1:List Int}{a2:List Int}{v0 v1 v2:Value}(h0:∃ A c,v0=.slice A a0.length c/\@Sl _ (rpK .i64) σ a0 A c)(h1:∃ A c,v1=.slice A a1.length c/\@Sl _ (rpK .i64) σ a1 A c)(h2:∃ A c,v2=.slice A a2.length c/\@Sl _ (rpK .i64) σ a2 A c)(hr:a06 fuel a0 a1 a2=some true) :
 Calls Go.Proofs.Tryz.prog 3 #[v0,v1,v2] σ.w fun e W'=>e=.returned (.bool true)/\Below σ.w.heap.size σ.w W':=by
 have hc:=a7v fuel σ (a0,a1,a2,()) [v0,v1,v2] [] true ⟨v0,[v1,v2],[],[],rfl,rfl,⟨h0,rfl⟩,v1,[v2],[],[],rfl,rfl,⟨h1,rfl⟩,v2,[],[],[],rfl,rfl,⟨h2,rfl⟩,rfl,rfl⟩ List.nodup_nil hr
 rcases hc with ⟨_,hc⟩ | ⟨v,τ,hc,_⟩
 ·refine hc.mono fun e w' ⟨v,τ,he,hw,hst,ws,us,pls,hp⟩=>?_
  subst hw
  refine ⟨?_,hst.os,hst.tape,hst.output,hst.wext.size,fun b hb=>(hst.block b hb (fun h=>by cases h)).1⟩
  obtain ⟨u,hu,ht⟩:=hp.tt
  have hu':ws++us=[u]:=hu
  have ho:us=[]:=hp.out
  subst ho
  rw [List.append_nil] at hu'
  rw [he,hp.ret,hu']
  have ht':u=.bool true/\pls=[]:=ht
  rw [ht'.1]
  rfl
 ·exact absurd hc (by
   have e:=enters_of Go.Proofs.Tryz.func3 (by kernel_rfl) rfl #[v0,v1,v2] σ.w
   intro hc
   have hc:(callFunc 3 #[v0,v1,v2]).run Go.Proofs.Tryz.prog σ.w=.ok (.value v) τ.w:=hc
   have:=hc.symm.trans e
   cases this)
set_option maxRecDepth 100000 in
theorem c7P (H:Type)(enc:TypeId×Value->H)(W:World)(base:Nat)(args:Array Value)(ds gs:List (DataW H))(before:List MemPlace)
 (hval:∀ (j:Nat) t v,Go.Proofs.Tryz.f3.params[j]?=some t->args[j]?=some v->Value.okWide Go.Proofs.Tryz.prog W .any base t v)
 (hW:DataW.Whole enc Go.Proofs.Tryz.prog Go.Proofs.Tryz.f3.params.toList Rows.productComponentsSpec.vars false W args.toList ds gs before)
 (hk:Rows.uptoSmall H (ds++gs)=true) :
 Calls Go.Proofs.Tryz.prog 3 args W fun e W'=>∃ v,e=.returned v/\Rows.productComponentsSpec.post enc Go.Proofs.Tryz.prog Go.Proofs.Tryz.f3 false true false false W args v W':=by
 have hW':=hW
 obtain ⟨p,q,hA0,hV,rfl,hfz,hnd⟩:=hW
 have hA:DataW.TrodAll enc Go.Proofs.Tryz.prog W 0 (fun _=>true) true Go.Proofs.Tryz.f3.params.toList args.toList ds p:=hA0
 rw [Go.Proofs.Tryz.params3] at hA hval
 obtain ⟨v0,vs0,d0,ds0,p0,q0,hargs,rfl,rfl,h0,r0⟩:=trodAll_cons hA
 obtain ⟨v1,vs1,d1,ds1,p1,q1,rfl,rfl,rfl,h1,r1⟩:=trodAll_cons r0
 obtain ⟨v2,vs2,d2,ds2,p2,q2,rfl,rfl,rfl,h2,r2⟩:=trodAll_cons r1
 obtain ⟨rfl,rfl,rfl⟩:=trodAll_nil r2
 obtain rfl:args=#[v0,v1,v2]:=by cases args; simp_all
 obtain ⟨rfl,rfl⟩:=trodVars_none hV
 have z0:W.noneFrozen p0:=fun b off hm=>hfz b off (by simp [hm])
 have z1:W.noneFrozen p1:=fun b off hm=>hfz b off (by simp [hm])
 have z2:W.noneFrozen p2:=fun b off hm=>hfz b off (by simp [hm])
 obtain ⟨A0,c3s,cap0,rfl⟩:=okWide_slice Go.Proofs.Tryz.underlying22 (hval 0 22 v0 rfl rfl)
 obtain ⟨n0,t0⟩:=id h0
 obtain ⟨a0,B0,c0,e0,k0,b0⟩:=@b42 _ _ _ _ _ _ _ Int (rpK .i64) _ _ _ _ _ Go.Proofs.Tryz.underlying22 c3 b4O (fun n cs x _ hz h=>c7y hz h) z0 t0
 have e0':[Value.slice A0 c3s cap0]=[Value.slice B0 a0.length c0]:=e0
 obtain ⟨rfl,rfl,rfl⟩:A0=B0/\c3s=a0.length/\cap0=c0:=by simpa using e0'
 have b0:b8B a0<=Rows.uptoBulk d0:=b0
 obtain ⟨A1,len1,cap1,rfl⟩:=okWide_slice Go.Proofs.Tryz.underlying22 (hval 1 22 v1 rfl rfl)
 obtain ⟨n1,t1⟩:=id h1
 obtain ⟨a1,B1,c1,e1,k1,b1⟩:=@b42 _ _ _ _ _ _ _ Int (rpK .i64) _ _ _ _ _ Go.Proofs.Tryz.underlying22 c3 b4O (fun n cs x _ hz h=>c7y hz h) z1 t1
 have e1':[Value.slice A1 len1 cap1]=[Value.slice B1 a1.length c1]:=e1
 obtain ⟨rfl,rfl,rfl⟩:A1=B1/\len1=a1.length/\cap1=c1:=by simpa using e1'
 have b1:b8B a1<=Rows.uptoBulk d1:=b1
 obtain ⟨A2,c8L,cap2,rfl⟩:=okWide_slice Go.Proofs.Tryz.underlying22 (hval 2 22 v2 rfl rfl)
 obtain ⟨n2,t2⟩:=id h2
 obtain ⟨a2,B2,c2,e2,k2,b2⟩:=@b42 _ _ _ _ _ _ _ Int (rpK .i64) _ _ _ _ _ Go.Proofs.Tryz.underlying22 c3 b4O (fun n cs x _ hz h=>c7y hz h) z2 t2
 have e2':[Value.slice A2 c8L cap2]=[Value.slice B2 a2.length c2]:=e2
 obtain ⟨rfl,rfl,rfl⟩:A2=B2/\c8L=a2.length/\cap2=c2:=by simpa using e2'
 have b2:b8B a2<=Rows.uptoBulk d2:=b2
 obtain ⟨fuel,hfuel⟩:∃ n:Nat,300000000<=n:=⟨_,Nat.le_refl _⟩
 have ctr:=d2f (fuel:=fuel) (σ:=a9t W) ⟨A0,cap0,rfl,k0⟩ ⟨A1,cap1,rfl,k1⟩ ⟨A2,cap2,rfl,k2⟩ (b4e fuel hfuel a0 a1 a2)
 clear hA0
 have hlt:=hW'.lt
 refine ctr.mono fun e W' ⟨he,hbl⟩=>?_
 subst he
 have hbl:Below W.heap.size W W':=hbl
 refine ⟨_,rfl,[d0,d1,d2],[],_,[],p0++(p1++(p2++[])),[],hW',?_,?_,rfl,hbl.frame _,fun h=>by cases h⟩
 ·exact trodAll_cons_mk (shut_bool Go.Proofs.Tryz.underlying4 _) trodAll_mk0
 ·have s0:=Below.trod laid c5O c7s h0 hbl (fun x hx=>hlt x (by simp [hx]))
  have s1:=Below.trod laid c5O c7s h1 hbl (fun x hx=>hlt x (by simp [hx]))
  have s2:=Below.trod laid c5O c7s h2 hbl (fun x hx=>hlt x (by simp [hx]))
  exact trodAll_cons_mk s0 (trodAll_cons_mk s1 (trodAll_cons_mk s2 trodAll_mk0))
set_option maxRecDepth 100000 in
theorem d06 (os:Os)(started:os.Started)(H:Type)(enc:TypeId×Value->H)(F:Stop.Interp) :
 ReturnsInHanded {} Go.Proofs.Tryz.checked os 3 .any ((Rows.OpenSpec.upto Rows.productComponentsSpec).pre6 enc Go.Proofs.Tryz.prog Go.Proofs.Tryz.f3 Rows.productComponentsUptoRow.domain false) (((Rows.OpenSpec.upto Rows.productComponentsSpec).at F).post enc Go.Proofs.Tryz.prog Go.Proofs.Tryz.f3 false true false false):=by
 refine returnsInHanded_of_cond (C:=Go.Proofs.Tryz.checked) (s:=Rows.OpenSpec.upto Rows.productComponentsSpec) (k:=Rows.uptoSmall) rfl own started (by kernel_rfl) Go.Proofs.Tryz.func3
  (OpenSpec.witness (enc:=enc) (C:=Go.Proofs.Tryz.checked) (s:=Rows.OpenSpec.upto Rows.productComponentsSpec) (k:=Rows.uptoSmall) rfl false
    ⟨#[],#[.slice none 0 0,.slice none 0 0,.slice none 0 0],[]⟩ 8
    (by kernel_rfl) (by kernel_rfl) (by kernel_rfl)
    (x:=([.nil,.nil,.nil],[],[])) (by kernel_rfl) rfl (by kernel_rfl)) ?_
 intro W base args ds gs before hval hW _ hk _
 exact c7P H enc W base args ds gs before hval hW hk
theorem c9h:Go.Proofs.Tryz.prog.inPlace 3=Rows.productComponentsUptoRow.inPlace:=by kernel_rfl
theorem c9W:Go.Proofs.Tryz.prog.unfollowed 3=Rows.productComponentsUptoRow.unfollowed:=by kernel_rfl
theorem c9Q:Go.Proofs.Tryz.prog.recurses 3=Rows.productComponentsUptoRow.recurses:=by kernel_rfl
theorem c9j:Go.Proofs.Tryz.prog.varsNamed 3=Rows.productComponentsUptoRow.named:=by kernel_rfl
theorem d00:joinedFacts Go.Proofs.Tryz.prog 3 Go.Proofs.Tryz.f3 (Rows.OpenSpec.upto Rows.productComponentsSpec).bare Rows.productComponentsUptoRow=true:=by
 unfold joinedFacts
 rw [c9h,c9W,c9Q,c9j]
 kernel_rfl
theorem over:Rows.productComponentsUptoRow.holds Tryz.pinned (Rows.OpenSpec.upto Rows.productComponentsSpec) :=
 OpenClaim.holds_of_cond 3 Go.Proofs.Tryz.f3 rfl rfl rfl rfl rfl rfl rfl ⟨rfl,rfl,rfl,rfl,rfl⟩ rfl rfl rfl rfl rfl (by kernel_rfl) Go.Proofs.Tryz.func3 d00
  (of_decide_eq_true (by kernel_rfl)) (by unfold Func.isWrapper; first | (rw [if_pos (by decide +kernel)]; kernel_rfl) | (rw [if_neg (by decide +kernel)]; exact ⟨rfl,rfl⟩))
  (fun os started H enc _ F=>d06 os started H enc F)
theorem proved:Rows.ProductComponentsUptoSaid :=
 over
end Go.Proofs.YtlapkakgkamkoaaGreat.productComponents

/- States the law RecordSamples: Sample puts the given values at the present keys and at fresh keys; for all inputs of the statement. -/
import Derived.Test.YtmcfcgaiecgdhaaGreatK5
import Derived.WalkKit
import Derived.ProofKit
import Derived.OpenShut
import Derived.Carry
import Derived.JoinedCond
namespace Go.Proofs.YtmcfcgaiecgdhaaGreat.recordSamples
open Go Go.Sx Go.Pl Go.Qx Go.ChangeShapes Go.WideShapes Go.ChangeAt Go.RowKit
theorem own:ownKnob Go.Proofs.Tryz.prog.godebug=none:=by kernel_rfl
theorem laid:laidOutB Go.Proofs.Tryz.prog=true:=by kernel_rfl
theorem d4A:Go.Proofs.Tryz.prog.readableRec 3=true:=by kernel_rfl
theorem lt3:3<Go.Proofs.Tryz.prog.types.size:=of_decide_eq_true (by kernel_rfl)
theorem c73:Go.Proofs.Tryz.prog.readableRec 22=true:=by kernel_rfl
theorem c93:22<Go.Proofs.Tryz.prog.types.size:=of_decide_eq_true (by kernel_rfl)
theorem d4B {fuel:Nat}{σ:S}{a0:List Int}{a1:List Int}{a2:List Int}{a3:Int}{v0 v1 v2 v3:Value}(h0:∃ A c,v0=.slice A a0.length c/\@Sl _ (rpK .i64) σ a0 A c)(h1:∃ A c,v1=.slice A a1.length c/\@Sl _ (rpK .i64) σ a1 A c)(h2:∃ A c,v2=.slice A a2.length c/\@Sl _ (rpK .i64) σ a2 A c)(h3:v3=.int .i64 a3)(hr:a0V fuel a0 a1 a2 a3=some true) :
 Calls Go.Proofs.Tryz.prog 7 #[v0,v1,v2,v3] σ.w fun e W'=>e=.returned (.bool true)/\Below σ.w.heap.size σ.w W':=by
 have hc:=a9B fuel σ (a0,a1,a2,a3,()) [v0,v1,v2,v3] [] true ⟨v0,[v1,v2,v3],[],[],rfl,rfl,⟨h0,rfl⟩,v1,[v2,v3],[],[],rfl,rfl,⟨h1,rfl⟩,v2,[v3],[],[],rfl,rfl,⟨h2,rfl⟩,v3,[],[],[],rfl,rfl,⟨h3,rfl⟩,rfl,rfl⟩ List.nodup_nil hr
 rcases hc with ⟨_,hc⟩ | ⟨v,τ,hc,_⟩
 ·refine hc.mono fun e w' ⟨v,τ,he,hw,hst,ws,us,pls,hp⟩=>?_
  subst hw
  refine ⟨?_,hst.os,hst.tape,hst.output,hst.wext.size,fun b hb=>(hst.block b hb (fun h=>by cases h)).1⟩
  obtain ⟨u,hu,ht⟩:=hp.tt
  have hu':ws++us=[u]:=hu
  have ho:us=[]:=hp.out
  subst ho
  rw [List.append_nil] at hu'
  rw [he,hp.ret,hu']
  have ht':u=.bool true/\pls=[]:=ht
  rw [ht'.1]
  rfl
 ·exact absurd hc (by
   have e:=enters_of Go.Proofs.Tryz.func7 (by kernel_rfl) rfl #[v0,v1,v2,v3] σ.w
   intro hc
   have hc:(callFunc 7 #[v0,v1,v2,v3]).run Go.Proofs.Tryz.prog σ.w=.ok (.value v) τ.w:=hc
   have:=hc.symm.trans e
   cases this)
set_option maxRecDepth 100000 in
theorem d0y (H:Type)(enc:TypeId×Value->H)(W:World)(base:Nat)(args:Array Value)(ds gs:List (DataW H))(before:List MemPlace)
 (hval:∀ (j:Nat) t v,Go.Proofs.Tryz.f7.params[j]?=some t->args[j]?=some v->Value.okWide Go.Proofs.Tryz.prog W .any base t v)
 (hW:DataW.Whole enc Go.Proofs.Tryz.prog Go.Proofs.Tryz.f7.params.toList Rows.recordSamplesSpec.vars false W args.toList ds gs before)
 (hk:Rows.uptoSmall H (ds++gs)=true) :
 Calls Go.Proofs.Tryz.prog 7 args W fun e W'=>∃ v,e=.returned v/\Rows.recordSamplesSpec.post enc Go.Proofs.Tryz.prog Go.Proofs.Tryz.f7 false true false false W args v W':=by
 have hW':=hW
 obtain ⟨p,q,hA0,hV,rfl,hfz,hnd⟩:=hW
 have hA:DataW.TrodAll enc Go.Proofs.Tryz.prog W 0 (fun _=>true) true Go.Proofs.Tryz.f7.params.toList args.toList ds p:=hA0
 rw [Go.Proofs.Tryz.params7] at hA hval
 obtain ⟨v0,vs0,d0,ds0,p0,q0,hargs,rfl,rfl,h0,r0⟩:=trodAll_cons hA
 obtain ⟨v1,vs1,d1,ds1,p1,q1,rfl,rfl,rfl,h1,r1⟩:=trodAll_cons r0
 obtain ⟨v2,vs2,d2,ds2,p2,q2,rfl,rfl,rfl,h2,r2⟩:=trodAll_cons r1
 obtain ⟨v3,vs3,d3,ds3,p3,q3,rfl,rfl,rfl,h3,r3⟩:=trodAll_cons r2
 obtain ⟨rfl,rfl,rfl⟩:=trodAll_nil r3
 obtain rfl:args=#[v0,v1,v2,v3]:=by cases args; simp_all
 obtain ⟨rfl,rfl⟩:=trodVars_none hV
 obtain ⟨A0,c4G,cap0,rfl⟩:=okWide_slice Go.Proofs.Tryz.underlying22 (hval 0 22 v0 rfl rfl)
 obtain ⟨n0,t0⟩:=id h0
 obtain ⟨a0,B0,c0,e0,k0,b0⟩:=@b6r _ _ _ _ _ _ _ Int (rpK .i64) _ _ _ _ _ Go.Proofs.Tryz.underlying22 c3 b5w (fun n cs x _ h=>c9J h) t0
 have e0':[Value.slice A0 c4G cap0]=[Value.slice B0 a0.length c0]:=e0
 obtain ⟨rfl,rfl,rfl⟩:A0=B0/\c4G=a0.length/\cap0=c0:=by simpa using e0'
 have b0:c0G a0<=Rows.uptoBulk d0:=b0
 obtain ⟨A1,len1,cap1,rfl⟩:=okWide_slice Go.Proofs.Tryz.underlying22 (hval 1 22 v1 rfl rfl)
 obtain ⟨n1,t1⟩:=id h1
 obtain ⟨a1,B1,c1,e1,k1,b1⟩:=@b6r _ _ _ _ _ _ _ Int (rpK .i64) _ _ _ _ _ Go.Proofs.Tryz.underlying22 c3 b5w (fun n cs x _ h=>c9J h) t1
 have e1':[Value.slice A1 len1 cap1]=[Value.slice B1 a1.length c1]:=e1
 obtain ⟨rfl,rfl,rfl⟩:A1=B1/\len1=a1.length/\cap1=c1:=by simpa using e1'
 have b1:c0G a1<=Rows.uptoBulk d1:=b1
 obtain ⟨A2,c98,cap2,rfl⟩:=okWide_slice Go.Proofs.Tryz.underlying22 (hval 2 22 v2 rfl rfl)
 obtain ⟨n2,t2⟩:=id h2
 obtain ⟨a2,B2,c2,e2,k2,b2⟩:=@b6r _ _ _ _ _ _ _ Int (rpK .i64) _ _ _ _ _ Go.Proofs.Tryz.underlying22 c3 b5w (fun n cs x _ h=>c9J h) t2
 have e2':[Value.slice A2 c98 cap2]=[Value.slice B2 a2.length c2]:=e2
 obtain ⟨rfl,rfl,rfl⟩:A2=B2/\c98=a2.length/\cap2=c2:=by simpa using e2'
 have b2:c0G a2<=Rows.uptoBulk d2:=b2
 obtain ⟨a3,rfl⟩:=okWide_int Go.Proofs.Tryz.underlying3 (hval 3 3 v3 rfl rfl)
 obtain ⟨fuel,hfuel⟩:=b9W a0 a1 a2 a3
 have ctr:=d4B (fuel:=fuel) (σ:=a9U W) ⟨A0,cap0,rfl,k0⟩ ⟨A1,cap1,rfl,k1⟩ ⟨A2,cap2,rfl,k2⟩ rfl hfuel
 clear hA0
 have hlt:=hW'.lt
 refine ctr.mono fun e W' ⟨he,hbl⟩=>?_
 subst he
 have hbl:Below W.heap.size W W':=hbl
 refine ⟨_,rfl,[d0,d1,d2,d3],[],_,[],p0++(p1++(p2++(p3++[]))),[],hW',?_,?_,rfl,hbl.frame _,fun h=>by cases h⟩
 ·exact trodAll_cons_mk (shut_bool Go.Proofs.Tryz.underlying4 _) trodAll_mk0
 ·have s0:=Below.trod laid c73 c93 h0 hbl (fun x hx=>hlt x (by simp [hx]))
  have s1:=Below.trod laid c73 c93 h1 hbl (fun x hx=>hlt x (by simp [hx]))
  have s2:=Below.trod laid c73 c93 h2 hbl (fun x hx=>hlt x (by simp [hx]))
  have s3:=Below.trod laid d4A lt3 h3 hbl (fun x hx=>hlt x (by simp [hx]))
  exact trodAll_cons_mk s0 (trodAll_cons_mk s1 (trodAll_cons_mk s2 (trodAll_cons_mk s3 trodAll_mk0)))
set_option maxRecDepth 100000 in
theorem d2F (os:Os)(started:os.Started)(H:Type)(enc:TypeId×Value->H)(F:Stop.Interp) :
 ReturnsInHanded {} Go.Proofs.Tryz.checked os 7 .any ((Rows.OpenSpec.upto Rows.recordSamplesSpec).pre6 enc Go.Proofs.Tryz.prog Go.Proofs.Tryz.f7 Rows.recordSamplesUptoRow.domain false) (((Rows.OpenSpec.upto Rows.recordSamplesSpec).at F).post enc Go.Proofs.Tryz.prog Go.Proofs.Tryz.f7 false true false false):=by
 refine returnsInHanded_of_cond (C:=Go.Proofs.Tryz.checked) (s:=Rows.OpenSpec.upto Rows.recordSamplesSpec) (k:=Rows.uptoSmall) rfl own started (by kernel_rfl) Go.Proofs.Tryz.func7
  (OpenSpec.witness (enc:=enc) (C:=Go.Proofs.Tryz.checked) (s:=Rows.OpenSpec.upto Rows.recordSamplesSpec) (k:=Rows.uptoSmall) rfl false
    ⟨#[],#[.slice none 0 0,.slice none 0 0,.slice none 0 0,.int .i64 0],[]⟩ 8
    (by kernel_rfl) (by kernel_rfl) (by kernel_rfl)
    (x:=([.nil,.nil,.nil,.lit (.int .i64 0)],[],[])) (by kernel_rfl) rfl (by kernel_rfl)) ?_
 intro W base args ds gs before hval hW _ hk _
 exact d0y H enc W base args ds gs before hval hW hk
theorem d1O:Go.Proofs.Tryz.prog.inPlace 7=Rows.recordSamplesUptoRow.inPlace:=by kernel_rfl
theorem d1D:Go.Proofs.Tryz.prog.unfollowed 7=Rows.recordSamplesUptoRow.unfollowed:=by kernel_rfl
theorem d2u:Go.Proofs.Tryz.prog.recurses 7=Rows.recordSamplesUptoRow.recurses:=by kernel_rfl
theorem d18:Go.Proofs.Tryz.prog.varsNamed 7=Rows.recordSamplesUptoRow.named:=by kernel_rfl
theorem d2J:joinedFacts Go.Proofs.Tryz.prog 7 Go.Proofs.Tryz.f7 (Rows.OpenSpec.upto Rows.recordSamplesSpec).bare Rows.recordSamplesUptoRow=true:=by
 unfold joinedFacts
 rw [d1O,d1D,d2u,d18]
 kernel_rfl
theorem over:Rows.recordSamplesUptoRow.holds Tryz.pinned (Rows.OpenSpec.upto Rows.recordSamplesSpec) :=
 OpenClaim.holds_of_cond 7 Go.Proofs.Tryz.f7 rfl rfl rfl rfl rfl rfl rfl ⟨rfl,rfl,rfl,rfl,rfl⟩ rfl rfl rfl rfl rfl (by kernel_rfl) Go.Proofs.Tryz.func7 d2J
  (of_decide_eq_true (by kernel_rfl)) (by unfold Func.isWrapper; first | (rw [if_pos (by decide +kernel)]; kernel_rfl) | (rw [if_neg (by decide +kernel)]; exact ⟨rfl,rfl⟩))
  (fun os started H enc _ F=>d2F os started H enc F)
theorem proved:Rows.RecordSamplesUptoSaid :=
 over
end Go.Proofs.YtmcfcgaiecgdhaaGreat.recordSamples

/- States that Tally refuses names that are none, names that occur twice, and more choices than the limit, in this order (semtypelaw23.TallyErrors). -/
import Derived.Test.YtmjdpaeioidmeaaGreatDoorK3
import Derived.Test.YtmjdpaeioidmeaaGreatDoorK4
import Derived.Test.YtmjdpaeioidmeaaGreatDoorCards
import Derived.Test.YtmjdpaeioidmeaaGreatDoorTie
import Derived.Deep.DeepHandedRow
import Derived.SevenTiedAt
import Derived.WalkKit
import Derived.ProofKit
import Derived.OpenShut
import Derived.Carry
import Derived.JoinedCond
namespace Go.Proofs.YtmjdpaeioidmeaaGreatDoor.tallyErrors
open Go Go.Sx Go.Pl Go.Qx Go.ChangeShapes Go.WideShapes Go.ChangeAt Go.RowKit
theorem own:ownKnob Go.Proofs.Tryz.prog.godebug=none:=by kernel_rfl
theorem laid:laidOutB Go.Proofs.Tryz.prog=true:=by kernel_rfl
theorem c8L:Go.Proofs.Tryz.prog.readableRec 5=true:=by kernel_rfl
theorem lt5:5<Go.Proofs.Tryz.prog.types.size:=of_decide_eq_true (by kernel_rfl)
theorem c71:Go.Proofs.Tryz.prog.readableRec 22=true:=by kernel_rfl
theorem c8A:22<Go.Proofs.Tryz.prog.types.size:=of_decide_eq_true (by kernel_rfl)
theorem c8I {fuel:Nat}{σ:S}{a0:List ByteArray}{a1:Int}{v0 v1:Value}(h0:∃ A c,v0=.slice A a0.length c/\@Sl _ (rpStr) σ a0 A c)(h1:v1=.int .u8 a1)(hr:a0g fuel a0 a1=some true) :
 Calls Go.Proofs.Tryz.prog 3 #[v0,v1] σ.w fun e W'=>e=.returned (.bool true)/\Below σ.w.heap.size σ.w W':=by
 have hc:=a5G fuel σ (a0,a1,()) [v0,v1] [] true ⟨v0,[v1],[],[],rfl,rfl,⟨h0,rfl⟩,v1,[],[],[],rfl,rfl,⟨h1,rfl⟩,rfl,rfl⟩ List.nodup_nil hr
 rcases hc with ⟨_,hc⟩ | ⟨v,τ,hc,_⟩
 ·refine hc.mono fun e w' ⟨v,τ,he,hw,hst,ws,us,pls,hp⟩=>?_
  subst hw
  refine ⟨?_,hst.os,hst.tape,hst.output,hst.wext.size,fun b hb=>(hst.block b hb (fun h=>by cases h)).1⟩
  obtain ⟨u,hu,ht⟩:=hp.tt
  have hu':ws++us=[u]:=hu
  have ho:us=[]:=hp.out
  subst ho
  rw [List.append_nil] at hu'
  rw [he,hp.ret,hu']
  have ht':u=.bool true/\pls=[]:=ht
  rw [ht'.1]
  rfl
 ·exact absurd hc (by
   have e:=enters_of Go.Proofs.Tryz.func3 (by kernel_rfl) rfl #[v0,v1] σ.w
   intro hc
   have hc:(callFunc 3 #[v0,v1]).run Go.Proofs.Tryz.prog σ.w=.ok (.value v) τ.w:=hc
   have:=hc.symm.trans e
   cases this)
set_option maxRecDepth 100000 in
theorem c4c (H:Type)(enc:TypeId×Value->H)(W:World)(base:Nat)(args:Array Value)(ds gs:List (DataW H))(before:List MemPlace)
 (hval:∀ (j:Nat) t v,Go.Proofs.Tryz.f3.params[j]?=some t->args[j]?=some v->Value.okWide Go.Proofs.Tryz.prog W .any base t v)
 (hW:DataW.Whole enc Go.Proofs.Tryz.prog Go.Proofs.Tryz.f3.params.toList Rows.tallyErrorsSpec.vars false W args.toList ds gs before)
 (hk:Rows.uptoSmall H (ds++gs)=true) :
 Calls Go.Proofs.Tryz.prog 3 args W fun e W'=>∃ v,e=.returned v/\Rows.tallyErrorsSpec.post enc Go.Proofs.Tryz.prog Go.Proofs.Tryz.f3 false true false false W args v W':=by
 have hW':=hW
 obtain ⟨p,q,hA0,hV,rfl,hfz,hnd⟩:=hW
 have hA:DataW.TrodAll enc Go.Proofs.Tryz.prog W 0 (fun _=>true) true Go.Proofs.Tryz.f3.params.toList args.toList ds p:=hA0
 rw [Go.Proofs.Tryz.params3] at hA hval
 obtain ⟨v0,vs0,d0,ds0,p0,q0,hargs,rfl,rfl,h0,r0⟩:=trodAll_cons hA
 obtain ⟨v1,vs1,d1,ds1,p1,q1,rfl,rfl,rfl,h1,r1⟩:=trodAll_cons r0
 obtain ⟨rfl,rfl,rfl⟩:=trodAll_nil r1
 obtain rfl:args=#[v0,v1]:=by cases args; simp_all
 obtain ⟨rfl,rfl⟩:=trodVars_none hV
 have z0:W.noneFrozen p0:=fun b off hm=>hfz b off (by simp [hm])
 have z1:W.noneFrozen p1:=fun b off hm=>hfz b off (by simp [hm])
 obtain ⟨A0,c4G,cap0,rfl⟩:=okWide_slice Go.Proofs.Tryz.underlying22 (hval 0 22 v0 rfl rfl)
 obtain ⟨n0,t0⟩:=id h0
 obtain ⟨a0,B0,c0,e0,k0,b0⟩:=@c22 _ _ _ _ _ _ _ ByteArray (rpStr) _ _ _ _ _ Go.Proofs.Tryz.underlying22 c9 a6R (fun n cs x _ hz h=>c8z hz h) z0 t0
 have e0':[Value.slice A0 c4G cap0]=[Value.slice B0 a0.length c0]:=e0
 obtain ⟨rfl,rfl,rfl⟩:A0=B0/\c4G=a0.length/\cap0=c0:=by simpa using e0'
 have b0:c43 a0<=Rows.uptoBulk d0:=b0
 obtain ⟨a1,rfl⟩:=okWide_int Go.Proofs.Tryz.underlying5 (hval 1 5 v1 rfl rfl)
 obtain ⟨n1,t1⟩:=id h1
 obtain ⟨y1,e1,_,w1⟩:=DataW.trod_int Go.Proofs.Tryz.underlying5 t1
 have hr1:0<=a1/\a1<256:=by
  have f1:[Value.int .u8 a1]=[Value.int .u8 y1]:=e1
  obtain rfl:a1=y1:=by simpa using f1
  simp only [Lit.wf,Bool.and_eq_true,decide_eq_true_eq] at w1
  have lo1:(0:Int)<=a1:=w1.1
  have hi1:a1<=255:=w1.2
  omega
 obtain ⟨fuel,hfuel⟩:=b7q a0 a1 hr1
 have ctr:=c8I (fuel:=fuel) (σ:=a5p W) ⟨A0,cap0,rfl,k0⟩ rfl hfuel
 clear hA0
 have hlt:=hW'.lt
 refine ctr.mono fun e W' ⟨he,hbl⟩=>?_
 subst he
 have hbl:Below W.heap.size W W':=hbl
 refine ⟨_,rfl,[d0,d1],[],_,[],p0++(p1++[]),[],hW',?_,?_,rfl,hbl.frame _,fun h=>by cases h⟩
 ·exact trodAll_cons_mk (shut_bool Go.Proofs.Tryz.underlying4 _) trodAll_mk0
 ·have s0:=Below.trod laid c71 c8A h0 hbl (fun x hx=>hlt x (by simp [hx]))
  have s1:=Below.trod laid c8L lt5 h1 hbl (fun x hx=>hlt x (by simp [hx]))
  exact trodAll_cons_mk s0 (trodAll_cons_mk s1 trodAll_mk0)
noncomputable def b2M (os:Os):World :=
 { World.holding Go.Proofs.Tryz.prog os ⟨#[],#[],[]⟩ with heap:=((((World.holding Go.Proofs.Tryz.prog os ⟨#[],#[],[]⟩).heap.modify 2 fun | .cells _ t frozen=>.cells #[.int .u8 0,.int .u8 1,.int .u8 28,.int .u8 2,.int .u8 29,.int .u8 14,.int .u8 24,.int .u8 3,.int .u8 30,.int .u8 22,.int .u8 20,.int .u8 15,.int .u8 25,.int .u8 17,.int .u8 4,.int .u8 8,.int .u8 31,.int .u8 27,.int .u8 13,.int .u8 23,.int .u8 21,.int .u8 19,.int .u8 16,.int .u8 7,.int .u8 26,.int .u8 12,.int .u8 18,.int .u8 6,.int .u8 11,.int .u8 5,.int .u8 10,.int .u8 9] t frozen | o=>o).modify 3 fun | .cells _ t frozen=>.cells #[.int .u8 0,.int .u8 1,.int .u8 56,.int .u8 2,.int .u8 57,.int .u8 49,.int .u8 28,.int .u8 3,.int .u8 61,.int .u8 58,.int .u8 42,.int .u8 50,.int .u8 38,.int .u8 29,.int .u8 17,.int .u8 4,.int .u8 62,.int .u8 47,.int .u8 59,.int .u8 36,.int .u8 45,.int .u8 43,.int .u8 51,.int .u8 22,.int .u8 53,.int .u8 39,.int .u8 33,.int .u8 30,.int .u8 24,.int .u8 18,.int .u8 12,.int .u8 5,.int .u8 63,.int .u8 55,.int .u8 48,.int .u8 27,.int .u8 60,.int .u8 41,.int .u8 37,.int .u8 16,.int .u8 46,.int .u8 35,.int .u8 44,.int .u8 21,.int .u8 52,.int .u8 32,.int .u8 23,.int .u8 11,.int .u8 54,.int .u8 26,.int .u8 40,.int .u8 15,.int .u8 34,.int .u8 20,.int .u8 31,.int .u8 10,.int .u8 25,.int .u8 14,.int .u8 19,.int .u8 9,.int .u8 13,.int .u8 8,.int .u8 7,.int .u8 6] t frozen | o=>o).modify 1 fun | .cells _ t frozen=>.cells #[.int .u64 1,.int .u64 10,.int .u64 100,.int .u64 1000,.int .u64 10000,.int .u64 100000,.int .u64 1000000,.int .u64 10000000,.int .u64 100000000,.int .u64 1000000000,.int .u64 10000000000,.int .u64 100000000000,.int .u64 1000000000000,.int .u64 10000000000000,.int .u64 100000000000000,.int .u64 1000000000000000,.int .u64 10000000000000000,.int .u64 100000000000000000,.int .u64 1000000000000000000,.int .u64 10000000000000000000] t frozen | o=>o) }
theorem c47 (os:Os):laidMet Go.Proofs.Tryz.prog Rows.tallyErrorsUptoRow.laid ((b2M os).forCall (fun _ _=>0) ⟨#[],#[.slice none 0 0,.int .u8 0],[]⟩).memory :=
 laidMet_of_run' 8 (by kernel_rfl) (by kernel_rfl)
theorem reads (os:Os){H:Type}(enc:TypeId×Value->H):∃ places,DataW.whole enc Go.Proofs.Tryz.prog ((b2M os).forCall (fun _ _=>0) ⟨#[],#[.slice none 0 0,.int .u8 0],[]⟩).memory Go.Proofs.Tryz.f3.params.toList Rows.tallyErrorsSpec.vars false (#[.slice none 0 0,.int .u8 0]:Array Value).toList 8=some ([.nil,.lit (.int .u8 0)],[],places) :=
 ⟨[],by kernel_rfl⟩
set_option maxRecDepth 100000 in
theorem c7L (os:Os)(started:os.Started)(H:Type)(enc:TypeId×Value->H)(F:Stop.Interp) :
 ReturnsInHanded {} Go.Proofs.Tryz.checked os 3 .any ((Rows.OpenSpec.upto Rows.tallyErrorsSpec).preRow enc Go.Proofs.Tryz.prog Go.Proofs.Tryz.f3 Rows.tallyErrorsUptoRow.domain false Rows.tallyErrorsUptoRow.laid) (((Rows.OpenSpec.upto Rows.tallyErrorsSpec).at F).post enc Go.Proofs.Tryz.prog Go.Proofs.Tryz.f3 false true false false):=by
 obtain ⟨places,hx⟩:=reads os enc
 refine returnsInHanded_of_row (C:=Go.Proofs.Tryz.checked) (s:=Rows.OpenSpec.upto Rows.tallyErrorsSpec) own started (by kernel_rfl) Go.Proofs.Tryz.func3
  (witness_row_at (enc:=enc) (C:=Go.Proofs.Tryz.checked) false (b2M os) #[.slice none 0 0,.int .u8 0] rfl (by kernel_rfl) (by kernel_rfl) (by kernel_rfl)
    (OpenSpec.preRow_of_cond 8 hx (by kernel_rfl) (fun k hk=>by cases hk; kernel_rfl) (by kernel_rfl) (c47 os))) ?_
 intro W base args ds gs before hval hW _ hcond _ _ _ _
 exact c4c H enc W base args ds gs before hval hW (hcond _ rfl)
theorem c6s:Go.Proofs.Tryz.prog.inPlace 3=Rows.tallyErrorsUptoRow.inPlace:=by kernel_rfl
theorem c5Y:Go.Proofs.Tryz.prog.unfollowed 3=Rows.tallyErrorsUptoRow.unfollowed:=by kernel_rfl
theorem c50:Go.Proofs.Tryz.prog.recurses 3=Rows.tallyErrorsUptoRow.recurses:=by kernel_rfl
theorem c5R:Go.Proofs.Tryz.prog.varsNamed 3=Rows.tallyErrorsUptoRow.named:=by kernel_rfl
theorem c7f:joinedFacts Go.Proofs.Tryz.prog 3 Go.Proofs.Tryz.f3 (Rows.OpenSpec.upto Rows.tallyErrorsSpec).bare Rows.tallyErrorsUptoRow=true:=by
 unfold joinedFacts
 rw [c6s,c5Y,c50,c5R]
 kernel_rfl
theorem over:Rows.tallyErrorsUptoRow.holds Tryz.pinned (Rows.OpenSpec.upto Rows.tallyErrorsSpec) :=
 OpenClaim.holds_of_cond 3 Go.Proofs.Tryz.f3 rfl rfl rfl rfl rfl rfl rfl ⟨rfl,rfl,rfl,rfl,rfl⟩ rfl rfl rfl rfl rfl (by kernel_rfl) Go.Proofs.Tryz.func3 c7f
  (of_decide_eq_true (by kernel_rfl)) (by unfold Func.isWrapper; first | (rw [if_pos (by decide +kernel)]; kernel_rfl) | (rw [if_neg (by decide +kernel)]; exact ⟨rfl,rfl⟩))
  (fun os started H enc _ F=>by rw [OpenClaim.pre_eq_preRow]; exact c7L os started H enc F)
theorem plain (f:FuncId)(fn:Func)(hf:Tryz.pinned.checked.prog.funcNamed Rows.tallyErrorsUptoRow.func=some f)(hfn:Tryz.pinned.checked.prog.funcs[f]?=some fn) :
 false=Tryz.pinned.checked.prog.looks []/\∀ (j:Nat) t,fn.params[j]?=some t->Tryz.pinned.checked.prog.wantsStandIn t=false:=by
 obtain rfl:f=3:=Option.some.inj ((show Go.Proofs.Tryz.prog.funcNamed Rows.tallyErrorsUptoRow.func=some 3 by kernel_rfl).symm.trans hf) |>.symm
 obtain rfl:fn=Go.Proofs.Tryz.f3:=(Option.some.inj (Go.Proofs.Tryz.func3.symm.trans hfn)).symm
 refine ⟨by kernel_rfl,fun j t ht=>?_⟩
 rw [Go.Proofs.Tryz.params3] at ht
 have ht2:=Array.mem_of_getElem? ht
 simp only [List.mem_toArray,List.mem_cons,List.not_mem_nil,or_false] at ht2
 rcases ht2 with rfl | rfl
 ·exact (show Go.Proofs.Tryz.prog.wantsStandIn 22=false by kernel_rfl)
 ·exact (show Go.Proofs.Tryz.prog.wantsStandIn 5=false by kernel_rfl)
theorem proved:Rows.TallyErrorsUptoCardSaid :=
 Claim7.holds_tied_plain_at .later [] _ _ _ _ over (fun _ h=>by cases h) (by kernel_rfl) (fun _ h=>by cases h) tallyErrorsUpto_row_tie rfl ⟨rfl,rfl⟩ (by kernel_rfl) rfl plain (by kernel_rfl)
end Go.Proofs.YtmjdpaeioidmeaaGreatDoor.tallyErrors

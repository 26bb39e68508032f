/- WitnessHeights: for every number the law's function answers true (a tower of tuples has a witness of its height up to the limit, and the limit's error above it). -/
import Derived.Test.YtbbgmfkdindhpaaGreatDoorK3
import Derived.Test.YtbbgmfkdindhpaaGreatDoorK4
import Derived.Test.YtbbgmfkdindhpaaGreatDoorCards
import Derived.Test.YtbbgmfkdindhpaaGreatDoorTie
import Derived.Deep.DeepHandedRow
import Derived.SevenTiedAt
import Derived.WalkKit
import Derived.ProofKit
import Derived.OpenShut
import Derived.Carry
import Derived.JoinedCond
namespace Go.Proofs.YtbbgmfkdindhpaaGreatDoor.witnessHeights
open Go Go.Sx Go.Pl Go.Qx Go.ChangeShapes Go.WideShapes Go.ChangeAt Go.RowKit
theorem own:ownKnob Go.Proofs.Tryz.prog.godebug=none:=by kernel_rfl
theorem laid:laidOutB Go.Proofs.Tryz.prog=true:=by kernel_rfl
theorem c59:Go.Proofs.Tryz.prog.readableRec 5=true:=by kernel_rfl
theorem lt5:5<Go.Proofs.Tryz.prog.types.size:=of_decide_eq_true (by kernel_rfl)
theorem c5T {fuel:Nat}{σ:S}{a0:Int}{v0:Value}(h0:v0=.int .u8 a0)(hr:Y8 fuel a0=some true) :
 Calls Go.Proofs.Tryz.prog 3 #[v0] σ.w fun e W'=>e=.returned (.bool true)/\Below σ.w.heap.size σ.w W':=by
 have hc:=a4c fuel σ (a0,()) [v0] [] true ⟨v0,[],[],[],rfl,rfl,⟨h0,rfl⟩,rfl,rfl⟩ List.nodup_nil hr
 rcases hc with ⟨_,hc⟩ | ⟨v,τ,hc,_⟩
 ·refine hc.mono fun e w' ⟨v,τ,he,hw,hst,ws,us,pls,hp⟩=>?_
  subst hw
  refine ⟨?_,hst.os,hst.tape,hst.output,hst.wext.size,fun b hb=>(hst.block b hb (fun h=>by cases h)).1⟩
  obtain ⟨u,hu,ht⟩:=hp.tt
  have hu':ws++us=[u]:=hu
  have ho:us=[]:=hp.out
  subst ho
  rw [List.append_nil] at hu'
  rw [he,hp.ret,hu']
  have ht':u=.bool true/\pls=[]:=ht
  rw [ht'.1]
  rfl
 ·exact absurd hc (by
   have e:=enters_of Go.Proofs.Tryz.func3 (by kernel_rfl) rfl #[v0] σ.w
   intro hc
   have hc:(callFunc 3 #[v0]).run Go.Proofs.Tryz.prog σ.w=.ok (.value v) τ.w:=hc
   have:=hc.symm.trans e
   cases this)
set_option maxRecDepth 100000 in
theorem c2I (H:Type)(enc:TypeId×Value->H)(W:World)(base:Nat)(args:Array Value)(ds gs:List (DataW H))(before:List MemPlace)
 (hval:∀ (j:Nat) t v,Go.Proofs.Tryz.f3.params[j]?=some t->args[j]?=some v->Value.okWide Go.Proofs.Tryz.prog W .any base t v)
 (hW:DataW.Whole enc Go.Proofs.Tryz.prog Go.Proofs.Tryz.f3.params.toList Rows.witnessHeightsSpec.vars false W args.toList ds gs before)
 (hk:Rows.uptoSmall H (ds++gs)=true) :
 Calls Go.Proofs.Tryz.prog 3 args W fun e W'=>∃ v,e=.returned v/\Rows.witnessHeightsSpec.post enc Go.Proofs.Tryz.prog Go.Proofs.Tryz.f3 false true false false W args v W':=by
 have hW':=hW
 obtain ⟨p,q,hA0,hV,rfl,hfz,hnd⟩:=hW
 have hA:DataW.TrodAll enc Go.Proofs.Tryz.prog W 0 (fun _=>true) true Go.Proofs.Tryz.f3.params.toList args.toList ds p:=hA0
 rw [Go.Proofs.Tryz.params3] at hA hval
 obtain ⟨v0,vs0,d0,ds0,p0,q0,hargs,rfl,rfl,h0,r0⟩:=trodAll_cons hA
 obtain ⟨rfl,rfl,rfl⟩:=trodAll_nil r0
 obtain rfl:args=#[v0]:=by cases args; simp_all
 obtain ⟨rfl,rfl⟩:=trodVars_none hV
 have z0:W.noneFrozen p0:=fun b off hm=>hfz b off (by simp [hm])
 obtain ⟨a0,rfl⟩:=okWide_int Go.Proofs.Tryz.underlying5 (hval 0 5 v0 rfl rfl)
 obtain ⟨n0,t0⟩:=id h0
 obtain ⟨y0,e0,_,w0⟩:=DataW.trod_int Go.Proofs.Tryz.underlying5 t0
 have hr0:0<=a0/\a0<256:=by
  have f0:[Value.int .u8 a0]=[Value.int .u8 y0]:=e0
  obtain rfl:a0=y0:=by simpa using f0
  simp only [Lit.wf,Bool.and_eq_true,decide_eq_true_eq] at w0
  have w1:(0:Int)<=a0:=w0.1
  have w2:a0<=255:=w0.2
  omega
 obtain ⟨fuel,hfuel⟩:=b2U a0 hr0
 have ctr:=c5T (fuel:=fuel) (σ:=b2L W) rfl hfuel
 clear hA0
 have hlt:=hW'.lt
 refine ctr.mono fun e W' ⟨he,hbl⟩=>?_
 subst he
 have hbl:Below W.heap.size W W':=hbl
 refine ⟨_,rfl,[d0],[],_,[],p0++[],[],hW',?_,?_,rfl,hbl.frame _,fun h=>by cases h⟩
 ·exact trodAll_cons_mk (shut_bool Go.Proofs.Tryz.underlying4 _) trodAll_mk0
 ·have s0:=Below.trod laid c59 lt5 h0 hbl (fun x hx=>hlt x (by simp [hx]))
  exact trodAll_cons_mk s0 trodAll_mk0
noncomputable def b3A (os:Os):World :=
 { World.holding Go.Proofs.Tryz.prog os ⟨#[],#[],[]⟩ with heap:=((((World.holding Go.Proofs.Tryz.prog os ⟨#[],#[],[]⟩).heap.modify 2 fun | .cells _ t frozen=>.cells #[.int .u8 0,.int .u8 1,.int .u8 28,.int .u8 2,.int .u8 29,.int .u8 14,.int .u8 24,.int .u8 3,.int .u8 30,.int .u8 22,.int .u8 20,.int .u8 15,.int .u8 25,.int .u8 17,.int .u8 4,.int .u8 8,.int .u8 31,.int .u8 27,.int .u8 13,.int .u8 23,.int .u8 21,.int .u8 19,.int .u8 16,.int .u8 7,.int .u8 26,.int .u8 12,.int .u8 18,.int .u8 6,.int .u8 11,.int .u8 5,.int .u8 10,.int .u8 9] t frozen | o=>o).modify 3 fun | .cells _ t frozen=>.cells #[.int .u8 0,.int .u8 1,.int .u8 56,.int .u8 2,.int .u8 57,.int .u8 49,.int .u8 28,.int .u8 3,.int .u8 61,.int .u8 58,.int .u8 42,.int .u8 50,.int .u8 38,.int .u8 29,.int .u8 17,.int .u8 4,.int .u8 62,.int .u8 47,.int .u8 59,.int .u8 36,.int .u8 45,.int .u8 43,.int .u8 51,.int .u8 22,.int .u8 53,.int .u8 39,.int .u8 33,.int .u8 30,.int .u8 24,.int .u8 18,.int .u8 12,.int .u8 5,.int .u8 63,.int .u8 55,.int .u8 48,.int .u8 27,.int .u8 60,.int .u8 41,.int .u8 37,.int .u8 16,.int .u8 46,.int .u8 35,.int .u8 44,.int .u8 21,.int .u8 52,.int .u8 32,.int .u8 23,.int .u8 11,.int .u8 54,.int .u8 26,.int .u8 40,.int .u8 15,.int .u8 34,.int .u8 20,.int .u8 31,.int .u8 10,.int .u8 25,.int .u8 14,.int .u8 19,.int .u8 9,.int .u8 13,.int .u8 8,.int .u8 7,.int .u8 6] t frozen | o=>o).modify 0 fun | .cells _ t frozen=>.cells #[.int .u64 1,.int .u64 10,.int .u64 100,.int .u64 1000,.int .u64 10000,.int .u64 100000,.int .u64 1000000,.int .u64 10000000,.int .u64 100000000,.int .u64 1000000000,.int .u64 10000000000,.int .u64 100000000000,.int .u64 1000000000000,.int .u64 10000000000000,.int .u64 100000000000000,.int .u64 1000000000000000,.int .u64 10000000000000000,.int .u64 100000000000000000,.int .u64 1000000000000000000,.int .u64 10000000000000000000] t frozen | o=>o) }
theorem c2k (os:Os):laidMet Go.Proofs.Tryz.prog Rows.witnessHeightsUptoRow.laid ((b3A os).forCall (fun _ _=>0) ⟨#[],#[.int .u8 0],[]⟩).memory :=
 laidMet_of_run' 8 (by kernel_rfl) (by kernel_rfl)
theorem reads (os:Os){H:Type}(enc:TypeId×Value->H):∃ places,DataW.whole enc Go.Proofs.Tryz.prog ((b3A os).forCall (fun _ _=>0) ⟨#[],#[.int .u8 0],[]⟩).memory Go.Proofs.Tryz.f3.params.toList Rows.witnessHeightsSpec.vars false (#[.int .u8 0]:Array Value).toList 8=some ([.lit (.int .u8 0)],[],places) :=
 ⟨[],by kernel_rfl⟩
set_option maxRecDepth 100000 in
theorem c4s (os:Os)(started:os.Started)(H:Type)(enc:TypeId×Value->H)(F:Stop.Interp) :
 ReturnsInHanded {} Go.Proofs.Tryz.checked os 3 .any ((Rows.OpenSpec.upto Rows.witnessHeightsSpec).preRow enc Go.Proofs.Tryz.prog Go.Proofs.Tryz.f3 Rows.witnessHeightsUptoRow.domain false Rows.witnessHeightsUptoRow.laid) (((Rows.OpenSpec.upto Rows.witnessHeightsSpec).at F).post enc Go.Proofs.Tryz.prog Go.Proofs.Tryz.f3 false true false false):=by
 obtain ⟨places,hx⟩:=reads os enc
 refine returnsInHanded_of_row (C:=Go.Proofs.Tryz.checked) (s:=Rows.OpenSpec.upto Rows.witnessHeightsSpec) own started (by kernel_rfl) Go.Proofs.Tryz.func3
  (witness_row_at (enc:=enc) (C:=Go.Proofs.Tryz.checked) false (b3A os) #[.int .u8 0] rfl (by kernel_rfl) (by kernel_rfl) (by kernel_rfl)
    (OpenSpec.preRow_of_cond 8 hx (by kernel_rfl) (fun k hk=>by cases hk; kernel_rfl) (by kernel_rfl) (c2k os))) ?_
 intro W base args ds gs before hval hW _ hcond _ _ _ _
 exact c2I H enc W base args ds gs before hval hW (hcond _ rfl)
theorem c3N:Go.Proofs.Tryz.prog.inPlace 3=Rows.witnessHeightsUptoRow.inPlace:=by kernel_rfl
theorem c3L:Go.Proofs.Tryz.prog.unfollowed 3=Rows.witnessHeightsUptoRow.unfollowed:=by kernel_rfl
theorem c3X:Go.Proofs.Tryz.prog.recurses 3=Rows.witnessHeightsUptoRow.recurses:=by kernel_rfl
theorem c3x:Go.Proofs.Tryz.prog.varsNamed 3=Rows.witnessHeightsUptoRow.named:=by kernel_rfl
theorem c4l:joinedFacts Go.Proofs.Tryz.prog 3 Go.Proofs.Tryz.f3 (Rows.OpenSpec.upto Rows.witnessHeightsSpec).bare Rows.witnessHeightsUptoRow=true:=by
 unfold joinedFacts
 rw [c3N,c3L,c3X,c3x]
 kernel_rfl
theorem over:Rows.witnessHeightsUptoRow.holds Tryz.pinned (Rows.OpenSpec.upto Rows.witnessHeightsSpec) :=
 OpenClaim.holds_of_cond 3 Go.Proofs.Tryz.f3 rfl rfl rfl rfl rfl rfl rfl ⟨rfl,rfl,rfl,rfl,rfl⟩ rfl rfl rfl rfl rfl (by kernel_rfl) Go.Proofs.Tryz.func3 c4l
  (of_decide_eq_true (by kernel_rfl)) (by unfold Func.isWrapper; first | (rw [if_pos (by decide +kernel)]; kernel_rfl) | (rw [if_neg (by decide +kernel)]; exact ⟨rfl,rfl⟩))
  (fun os started H enc _ F=>by rw [OpenClaim.pre_eq_preRow]; exact c4s os started H enc F)
theorem plain (f:FuncId)(fn:Func)(hf:Tryz.pinned.checked.prog.funcNamed Rows.witnessHeightsUptoRow.func=some f)(hfn:Tryz.pinned.checked.prog.funcs[f]?=some fn) :
 false=Tryz.pinned.checked.prog.looks []/\∀ (j:Nat) t,fn.params[j]?=some t->Tryz.pinned.checked.prog.wantsStandIn t=false:=by
 obtain rfl:f=3:=Option.some.inj ((show Go.Proofs.Tryz.prog.funcNamed Rows.witnessHeightsUptoRow.func=some 3 by kernel_rfl).symm.trans hf) |>.symm
 obtain rfl:fn=Go.Proofs.Tryz.f3:=(Option.some.inj (Go.Proofs.Tryz.func3.symm.trans hfn)).symm
 refine ⟨by kernel_rfl,fun j t ht=>?_⟩
 rw [Go.Proofs.Tryz.params3] at ht
 have ht2:=Array.mem_of_getElem? ht
 simp only [List.mem_toArray,List.mem_cons,List.not_mem_nil,or_false] at ht2
 rcases ht2 with rfl
 ·exact (show Go.Proofs.Tryz.prog.wantsStandIn 5=false by kernel_rfl)
theorem proved:Rows.WitnessHeightsUptoCardSaid :=
 Claim7.holds_tied_plain_at .later [] _ _ _ _ over (fun _ h=>by cases h) (by kernel_rfl) (fun _ h=>by cases h) witnessHeightsUpto_row_tie rfl ⟨rfl,rfl⟩ (by kernel_rfl) rfl plain (by kernel_rfl)
end Go.Proofs.YtbbgmfkdindhpaaGreatDoor.witnessHeights

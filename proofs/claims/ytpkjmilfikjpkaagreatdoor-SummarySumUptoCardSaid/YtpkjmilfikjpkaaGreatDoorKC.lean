/- The statement on checksums. -/
import Derived.Test.YtpkjmilfikjpkaaGreatDoorK2
import Derived.Test.YtpkjmilfikjpkaaGreatDoorCards
import Derived.Test.YtpkjmilfikjpkaaGreatDoorTie
import Derived.Deep.DeepHandedRow
import Derived.SevenTiedAt
import Derived.WalkKit
import Derived.ProofKit
import Derived.OpenShut
import Derived.Carry
import Derived.JoinedCond
namespace Go.Proofs.YtpkjmilfikjpkaaGreatDoor.summarySum
open Go Go.Sx Go.Pl Go.Qx Go.ChangeShapes Go.WideShapes Go.ChangeAt Go.RowKit
theorem own:ownKnob Go.Proofs.Tryz.prog.godebug=none:=by kernel_rfl
theorem laid:laidOutB Go.Proofs.Tryz.prog=true:=by kernel_rfl
theorem b2X:Go.Proofs.Tryz.prog.readableRec 3=true:=by kernel_rfl
theorem lt3:3<Go.Proofs.Tryz.prog.types.size:=of_decide_eq_true (by kernel_rfl)
theorem b2E:Go.Proofs.Tryz.prog.readableRec 5=true:=by kernel_rfl
theorem lt5:5<Go.Proofs.Tryz.prog.types.size:=of_decide_eq_true (by kernel_rfl)
theorem b1D:Go.Proofs.Tryz.prog.readableRec 9=true:=by kernel_rfl
theorem lt9:9<Go.Proofs.Tryz.prog.types.size:=of_decide_eq_true (by kernel_rfl)
theorem b2T {fuel:Nat}{σ:S}{a0:ByteArray}{a1:ByteArray}{a2:Int}{a3:Int}{v0 v1 v2 v3:Value}(h0:v0=.string a0)(h1:v1=.string a1)(h2:v2=.int .i64 a2)(h3:v3=.int .u8 a3)(hr:Y8 fuel a0 a1 a2 a3=some true) :
 Calls Go.Proofs.Tryz.prog 3 #[v0,v1,v2,v3] σ.w fun e W'=>e=.returned (.bool true)/\Below σ.w.heap.size σ.w W':=by
 have hc:=a1D fuel σ (a0,a1,a2,a3,()) [v0,v1,v2,v3] [] true ⟨v0,[v1,v2,v3],[],[],rfl,rfl,⟨h0,rfl⟩,v1,[v2,v3],[],[],rfl,rfl,⟨h1,rfl⟩,v2,[v3],[],[],rfl,rfl,⟨h2,rfl⟩,v3,[],[],[],rfl,rfl,⟨h3,rfl⟩,rfl,rfl⟩ List.nodup_nil hr
 rcases hc with ⟨_,hc⟩ | ⟨v,τ,hc,_⟩
 ·refine hc.mono fun e w' ⟨v,τ,he,hw,hst,ws,us,pls,hp⟩=>?_
  subst hw
  refine ⟨?_,hst.os,hst.tape,hst.output,hst.wext.size,fun b hb=>(hst.block b hb (fun h=>by cases h)).1⟩
  obtain ⟨u,hu,ht⟩:=hp.tt
  have hu':ws++us=[u]:=hu
  have ho:us=[]:=hp.out
  subst ho
  rw [List.append_nil] at hu'
  rw [he,hp.ret,hu']
  have ht':u=.bool true/\pls=[]:=ht
  rw [ht'.1]
  rfl
 ·exact absurd hc (by
   have e:=enters_of Go.Proofs.Tryz.func3 (by kernel_rfl) rfl #[v0,v1,v2,v3] σ.w
   intro hc
   have hc:(callFunc 3 #[v0,v1,v2,v3]).run Go.Proofs.Tryz.prog σ.w=.ok (.value v) τ.w:=hc
   have:=hc.symm.trans e
   cases this)
set_option maxRecDepth 100000 in
theorem a95 (H:Type)(enc:TypeId×Value->H)(W:World)(base:Nat)(args:Array Value)(ds gs:List (DataW H))(before:List MemPlace)
 (hval:∀ (j:Nat) t v,Go.Proofs.Tryz.f3.params[j]?=some t->args[j]?=some v->Value.okWide Go.Proofs.Tryz.prog W .any base t v)
 (hW:DataW.Whole enc Go.Proofs.Tryz.prog Go.Proofs.Tryz.f3.params.toList Rows.summarySumSpec.vars false W args.toList ds gs before)
 (hk:Rows.uptoSmall H (ds++gs)=true) :
 Calls Go.Proofs.Tryz.prog 3 args W fun e W'=>∃ v,e=.returned v/\Rows.summarySumSpec.post enc Go.Proofs.Tryz.prog Go.Proofs.Tryz.f3 false true false false W args v W':=by
 have hW':=hW
 obtain ⟨p,q,hA0,hV,rfl,hfz,hnd⟩:=hW
 have hA:DataW.TrodAll enc Go.Proofs.Tryz.prog W 0 (fun _=>true) true Go.Proofs.Tryz.f3.params.toList args.toList ds p:=hA0
 rw [Go.Proofs.Tryz.params3] at hA hval
 obtain ⟨v0,vs0,d0,ds0,p0,q0,hargs,rfl,rfl,h0,r0⟩:=trodAll_cons hA
 obtain ⟨v1,vs1,d1,ds1,p1,q1,rfl,rfl,rfl,h1,r1⟩:=trodAll_cons r0
 obtain ⟨v2,vs2,d2,ds2,p2,q2,rfl,rfl,rfl,h2,r2⟩:=trodAll_cons r1
 obtain ⟨v3,vs3,d3,ds3,p3,q3,rfl,rfl,rfl,h3,r3⟩:=trodAll_cons r2
 obtain ⟨rfl,rfl,rfl⟩:=trodAll_nil r3
 obtain rfl:args=#[v0,v1,v2,v3]:=by cases args; simp_all
 obtain ⟨rfl,rfl⟩:=trodVars_none hV
 obtain ⟨a0,rfl⟩:=okWide_string Go.Proofs.Tryz.underlying9 (hval 0 9 v0 rfl rfl)
 obtain ⟨n0,t0⟩:=id h0
 obtain ⟨z0,k0,b0⟩:=b2e t0
 have b0:a4N a0<=Rows.uptoBulk d0:=by
  have k0':[Value.string a0]=[Value.string z0]:=k0
  obtain rfl:a0=z0:=by simpa using k0'
  exact b0
 obtain ⟨a1,rfl⟩:=okWide_string Go.Proofs.Tryz.underlying9 (hval 1 9 v1 rfl rfl)
 obtain ⟨n1,t1⟩:=id h1
 obtain ⟨z1,k1,b1⟩:=b2e t1
 have b1:a4N a1<=Rows.uptoBulk d1:=by
  have k1':[Value.string a1]=[Value.string z1]:=k1
  obtain rfl:a1=z1:=by simpa using k1'
  exact b1
 obtain ⟨a2,rfl⟩:=okWide_int Go.Proofs.Tryz.underlying3 (hval 2 3 v2 rfl rfl)
 obtain ⟨a3,rfl⟩:=okWide_int Go.Proofs.Tryz.underlying5 (hval 3 5 v3 rfl rfl)
 obtain ⟨fuel,hfuel⟩:=a6F a0 a1 a2 a3
 have ctr:=b2T (fuel:=fuel) (σ:=a3q W) rfl rfl rfl rfl hfuel
 clear hA0
 have hlt:=hW'.lt
 refine ctr.mono fun e W' ⟨he,hbl⟩=>?_
 subst he
 have hbl:Below W.heap.size W W':=hbl
 refine ⟨_,rfl,[d0,d1,d2,d3],[],_,[],p0++(p1++(p2++(p3++[]))),[],hW',?_,?_,rfl,hbl.frame _,fun h=>by cases h⟩
 ·exact trodAll_cons_mk (shut_bool Go.Proofs.Tryz.underlying4 _) trodAll_mk0
 ·have s0:=Below.trod laid b1D lt9 h0 hbl (fun x hx=>hlt x (by simp [hx]))
  have s1:=Below.trod laid b1D lt9 h1 hbl (fun x hx=>hlt x (by simp [hx]))
  have s2:=Below.trod laid b2X lt3 h2 hbl (fun x hx=>hlt x (by simp [hx]))
  have s3:=Below.trod laid b2E lt5 h3 hbl (fun x hx=>hlt x (by simp [hx]))
  exact trodAll_cons_mk s0 (trodAll_cons_mk s1 (trodAll_cons_mk s2 (trodAll_cons_mk s3 trodAll_mk0)))
noncomputable def a4b (os:Os):World :=
 { World.holding Go.Proofs.Tryz.prog os ⟨#[],#[],[]⟩ with heap:=((((World.holding Go.Proofs.Tryz.prog os ⟨#[],#[],[]⟩).heap.modify 2 fun | .cells _ t frozen=>.cells #[.int .u8 0,.int .u8 1,.int .u8 28,.int .u8 2,.int .u8 29,.int .u8 14,.int .u8 24,.int .u8 3,.int .u8 30,.int .u8 22,.int .u8 20,.int .u8 15,.int .u8 25,.int .u8 17,.int .u8 4,.int .u8 8,.int .u8 31,.int .u8 27,.int .u8 13,.int .u8 23,.int .u8 21,.int .u8 19,.int .u8 16,.int .u8 7,.int .u8 26,.int .u8 12,.int .u8 18,.int .u8 6,.int .u8 11,.int .u8 5,.int .u8 10,.int .u8 9] t frozen | o=>o).modify 3 fun | .cells _ t frozen=>.cells #[.int .u8 0,.int .u8 1,.int .u8 56,.int .u8 2,.int .u8 57,.int .u8 49,.int .u8 28,.int .u8 3,.int .u8 61,.int .u8 58,.int .u8 42,.int .u8 50,.int .u8 38,.int .u8 29,.int .u8 17,.int .u8 4,.int .u8 62,.int .u8 47,.int .u8 59,.int .u8 36,.int .u8 45,.int .u8 43,.int .u8 51,.int .u8 22,.int .u8 53,.int .u8 39,.int .u8 33,.int .u8 30,.int .u8 24,.int .u8 18,.int .u8 12,.int .u8 5,.int .u8 63,.int .u8 55,.int .u8 48,.int .u8 27,.int .u8 60,.int .u8 41,.int .u8 37,.int .u8 16,.int .u8 46,.int .u8 35,.int .u8 44,.int .u8 21,.int .u8 52,.int .u8 32,.int .u8 23,.int .u8 11,.int .u8 54,.int .u8 26,.int .u8 40,.int .u8 15,.int .u8 34,.int .u8 20,.int .u8 31,.int .u8 10,.int .u8 25,.int .u8 14,.int .u8 19,.int .u8 9,.int .u8 13,.int .u8 8,.int .u8 7,.int .u8 6] t frozen | o=>o).modify 1 fun | .cells _ t frozen=>.cells #[.int .u64 1,.int .u64 10,.int .u64 100,.int .u64 1000,.int .u64 10000,.int .u64 100000,.int .u64 1000000,.int .u64 10000000,.int .u64 100000000,.int .u64 1000000000,.int .u64 10000000000,.int .u64 100000000000,.int .u64 1000000000000,.int .u64 10000000000000,.int .u64 100000000000000,.int .u64 1000000000000000,.int .u64 10000000000000000,.int .u64 100000000000000000,.int .u64 1000000000000000000,.int .u64 10000000000000000000] t frozen | o=>o) }
theorem b0x (os:Os):laidMet Go.Proofs.Tryz.prog Rows.summarySumUptoRow.laid ((a4b os).forCall (fun _ _=>0) ⟨#[],#[.string ⟨#[]⟩,.string ⟨#[]⟩,.int .i64 0,.int .u8 0],[]⟩).memory :=
 laidMet_of_run' 8 (by kernel_rfl) (by kernel_rfl)
theorem reads (os:Os){H:Type}(enc:TypeId×Value->H):∃ places,DataW.whole enc Go.Proofs.Tryz.prog ((a4b os).forCall (fun _ _=>0) ⟨#[],#[.string ⟨#[]⟩,.string ⟨#[]⟩,.int .i64 0,.int .u8 0],[]⟩).memory Go.Proofs.Tryz.f3.params.toList Rows.summarySumSpec.vars false (#[.string ⟨#[]⟩,.string ⟨#[]⟩,.int .i64 0,.int .u8 0]:Array Value).toList 8=some ([.lit (.string []),.lit (.string []),.lit (.int .i64 0),.lit (.int .u8 0)],[],places) :=
 ⟨[],by kernel_rfl⟩
set_option maxRecDepth 100000 in
theorem b1N (os:Os)(started:os.Started)(H:Type)(enc:TypeId×Value->H)(F:Stop.Interp) :
 ReturnsInHanded {} Go.Proofs.Tryz.checked os 3 .any ((Rows.OpenSpec.upto Rows.summarySumSpec).preRow enc Go.Proofs.Tryz.prog Go.Proofs.Tryz.f3 Rows.summarySumUptoRow.domain false Rows.summarySumUptoRow.laid) (((Rows.OpenSpec.upto Rows.summarySumSpec).at F).post enc Go.Proofs.Tryz.prog Go.Proofs.Tryz.f3 false true false false):=by
 obtain ⟨places,hx⟩:=reads os enc
 refine returnsInHanded_of_row (C:=Go.Proofs.Tryz.checked) (s:=Rows.OpenSpec.upto Rows.summarySumSpec) own started (by kernel_rfl) Go.Proofs.Tryz.func3
  (witness_row_at (enc:=enc) (C:=Go.Proofs.Tryz.checked) false (a4b os) #[.string ⟨#[]⟩,.string ⟨#[]⟩,.int .i64 0,.int .u8 0] rfl (by kernel_rfl) (by kernel_rfl) (by kernel_rfl)
    (OpenSpec.preRow_of_cond 8 hx (by kernel_rfl) (fun k hk=>by cases hk; kernel_rfl) (by kernel_rfl) (b0x os))) ?_
 intro W base args ds gs before hval hW _ hcond _ _ _ _
 exact a95 H enc W base args ds gs before hval hW (hcond _ rfl)
theorem b1g:Go.Proofs.Tryz.prog.inPlace 3=Rows.summarySumUptoRow.inPlace:=by kernel_rfl
theorem b1f:Go.Proofs.Tryz.prog.unfollowed 3=Rows.summarySumUptoRow.unfollowed:=by kernel_rfl
theorem b1n:Go.Proofs.Tryz.prog.recurses 3=Rows.summarySumUptoRow.recurses:=by kernel_rfl
theorem b1b:Go.Proofs.Tryz.prog.varsNamed 3=Rows.summarySumUptoRow.named:=by kernel_rfl
theorem b2d:joinedFacts Go.Proofs.Tryz.prog 3 Go.Proofs.Tryz.f3 (Rows.OpenSpec.upto Rows.summarySumSpec).bare Rows.summarySumUptoRow=true:=by
 unfold joinedFacts
 rw [b1g,b1f,b1n,b1b]
 kernel_rfl
theorem over:Rows.summarySumUptoRow.holds Tryz.pinned (Rows.OpenSpec.upto Rows.summarySumSpec) :=
 OpenClaim.holds_of_cond 3 Go.Proofs.Tryz.f3 rfl rfl rfl rfl rfl rfl rfl ⟨rfl,rfl,rfl,rfl,rfl⟩ rfl rfl rfl rfl rfl (by kernel_rfl) Go.Proofs.Tryz.func3 b2d
  (of_decide_eq_true (by kernel_rfl)) (by unfold Func.isWrapper; first | (rw [if_pos (by decide +kernel)]; kernel_rfl) | (rw [if_neg (by decide +kernel)]; exact ⟨rfl,rfl⟩))
  (fun os started H enc _ F=>by rw [OpenClaim.pre_eq_preRow]; exact b1N os started H enc F)
theorem plain (f:FuncId)(fn:Func)(hf:Tryz.pinned.checked.prog.funcNamed Rows.summarySumUptoRow.func=some f)(hfn:Tryz.pinned.checked.prog.funcs[f]?=some fn) :
 false=Tryz.pinned.checked.prog.looks []/\∀ (j:Nat) t,fn.params[j]?=some t->Tryz.pinned.checked.prog.wantsStandIn t=false:=by
 obtain rfl:f=3:=Option.some.inj ((show Go.Proofs.Tryz.prog.funcNamed Rows.summarySumUptoRow.func=some 3 by kernel_rfl).symm.trans hf) |>.symm
 obtain rfl:fn=Go.Proofs.Tryz.f3:=(Option.some.inj (Go.Proofs.Tryz.func3.symm.trans hfn)).symm
 refine ⟨by kernel_rfl,fun j t ht=>?_⟩
 rw [Go.Proofs.Tryz.params3] at ht
 have ht2:=Array.mem_of_getElem? ht
 simp only [List.mem_toArray,List.mem_cons,List.not_mem_nil,or_false] at ht2
 rcases ht2 with rfl | rfl | rfl | rfl
 ·exact (show Go.Proofs.Tryz.prog.wantsStandIn 9=false by kernel_rfl)
 ·exact (show Go.Proofs.Tryz.prog.wantsStandIn 9=false by kernel_rfl)
 ·exact (show Go.Proofs.Tryz.prog.wantsStandIn 3=false by kernel_rfl)
 ·exact (show Go.Proofs.Tryz.prog.wantsStandIn 5=false by kernel_rfl)
theorem proved:Rows.SummarySumUptoCardSaid :=
 Claim7.holds_tied_plain_at .later [] _ _ _ _ over (fun _ h=>by cases h) (by kernel_rfl) (fun _ h=>by cases h) summarySumUpto_row_tie rfl ⟨rfl,rfl⟩ (by kernel_rfl) rfl plain (by kernel_rfl)
end Go.Proofs.YtpkjmilfikjpkaaGreatDoor.summarySum

/- States that Bounds returns the union of the lower and the intersection of the upper bounds of a variable, so that a type between them satisfies the constraints that bound it (semtypelaw23.TallyBounds). -/
import Derived.Test.YtmjdpaeioidmeaaGreatDoorK4
import Derived.Test.YtmjdpaeioidmeaaGreatDoorK5
import Derived.Test.YtmjdpaeioidmeaaGreatDoorCards
import Derived.Test.YtmjdpaeioidmeaaGreatDoorTie
import Derived.Deep.DeepHandedRow
import Derived.SevenTiedAt
import Derived.WalkKit
import Derived.ProofKit
import Derived.OpenShut
import Derived.Carry
import Derived.JoinedCond
open Bool renaming and_eq_true->d8p
open Go.Proofs.Tryz renaming prog->d8m
open List renaming append_nil->d82,mem_cons->d8A
open Option renaming some->d8Y
namespace Go.Proofs.YtmjdpaeioidmeaaGreatDoor.tallyBounds
open Go Go.Sx Go.Pl Go.Qx Go.ChangeShapes Go.WideShapes Go.ChangeAt Go.RowKit
theorem own:ownKnob d8m.godebug=none:=by kernel_rfl
theorem laid:laidOutB d8m=true:=by kernel_rfl
theorem d8g:d8m.readableRec 5=true:=by kernel_rfl
theorem lt5:5<d8m.types.size:=of_decide_eq_true (by kernel_rfl)
theorem d4u:d8m.readableRec 36=true:=by kernel_rfl
theorem d6V:36<d8m.types.size:=of_decide_eq_true (by kernel_rfl)
theorem d8j {fuel:Nat}{σ:S}{a0:List Int}{a1:List Int}{a2:Int}{v0 v1 v2:Value}(h0:∃ A c,v0=.slice A a0.length c/\@Sl _ (rpK .i64) σ a0 A c)(h1:∃ A c,v1=.slice A a1.length c/\@Sl _ (rpK .i64) σ a1 A c)(h2:v2=.int .u8 a2)(hr:a2k fuel a0 a1 a2=some true) :
 Calls d8m 4 #[v0,v1,v2] σ.w fun e W'=>e=.returned (.bool true)/\Below σ.w.heap.size σ.w W':=by
 have hc:=b0T fuel σ (a0,a1,a2,()) [v0,v1,v2] [] true ⟨v0,[v1,v2],[],[],rfl,rfl,⟨h0,rfl⟩,v1,[v2],[],[],rfl,rfl,⟨h1,rfl⟩,v2,[],[],[],rfl,rfl,⟨h2,rfl⟩,rfl,rfl⟩ List.nodup_nil hr
 rcases hc with ⟨_,hc⟩ | ⟨v,τ,hc,_⟩
 ·refine hc.mono fun e w' ⟨v,τ,he,hw,hst,ws,us,pls,hp⟩=>?_
  subst hw
  refine ⟨?_,hst.os,hst.tape,hst.output,hst.wext.size,fun b hb=>(hst.block b hb (fun h=>by cases h)).1⟩
  obtain ⟨u,hu,ht⟩:=hp.tt
  have hu':ws++us=[u]:=hu
  have ho:us=[]:=hp.out
  subst ho
  rw [d82] at hu'
  rw [he,hp.ret,hu']
  have ht':u=.bool true/\pls=[]:=ht
  rw [ht'.1]
  rfl
 ·exact absurd hc (by
   have e:=enters_of Go.Proofs.Tryz.func4 (by kernel_rfl) rfl #[v0,v1,v2] σ.w
   intro hc
   have hc:(callFunc 4 #[v0,v1,v2]).run d8m σ.w=.ok (.value v) τ.w:=hc
   have:=hc.symm.trans e
   cases this)
set_option maxRecDepth 100000 in
theorem d3M (H:Type)(enc:TypeId×Value->H)(W:World)(base:Nat)(args:Array Value)(ds gs:List (DataW H))(before:List MemPlace)
 (hval:∀ (j:Nat) t v,Go.Proofs.Tryz.f4.params[j]?=some t->args[j]?=some v->Value.okWide d8m W .any base t v)
 (hW:DataW.Whole enc d8m Go.Proofs.Tryz.f4.params.toList Rows.tallyBoundsSpec.vars false W args.toList ds gs before)
 (hk:Rows.uptoSmall H (ds++gs)=true) :
 Calls d8m 4 args W fun e W'=>∃ v,e=.returned v/\Rows.tallyBoundsSpec.post enc d8m Go.Proofs.Tryz.f4 false true false false W args v W':=by
 have hW':=hW
 obtain ⟨p,q,hA0,hV,rfl,hfz,hnd⟩:=hW
 have hA:DataW.TrodAll enc d8m W 0 (fun _=>true) true Go.Proofs.Tryz.f4.params.toList args.toList ds p:=hA0
 rw [Go.Proofs.Tryz.params4] at hA hval
 obtain ⟨v0,vs0,d0,ds0,p0,q0,hargs,rfl,rfl,h0,r0⟩:=trodAll_cons hA
 obtain ⟨v1,vs1,d1,ds1,p1,q1,rfl,rfl,rfl,h1,r1⟩:=trodAll_cons r0
 obtain ⟨v2,vs2,d2,ds2,p2,q2,rfl,rfl,rfl,h2,r2⟩:=trodAll_cons r1
 obtain ⟨rfl,rfl,rfl⟩:=trodAll_nil r2
 obtain rfl:args=#[v0,v1,v2]:=by cases args; simp_all
 obtain ⟨rfl,rfl⟩:=trodVars_none hV
 have z0:W.noneFrozen p0:=fun b off hm=>hfz b off (by simp [hm])
 have z1:W.noneFrozen p1:=fun b off hm=>hfz b off (by simp [hm])
 have z2:W.noneFrozen p2:=fun b off hm=>hfz b off (by simp [hm])
 obtain ⟨A0,c8W,cap0,rfl⟩:=okWide_slice Go.Proofs.Tryz.underlying36 (hval 0 36 v0 rfl rfl)
 obtain ⟨n0,t0⟩:=id h0
 obtain ⟨a0,B0,c0,e0,k0,b0⟩:=@c4g _ _ _ _ _ _ _ Int (rpK .i64) _ _ _ _ _ Go.Proofs.Tryz.underlying36 c3 c0u (fun n cs x _ hz h=>d59 hz h) z0 t0
 have e0':[Value.slice A0 c8W cap0]=[Value.slice B0 a0.length c0]:=e0
 obtain ⟨rfl,rfl,rfl⟩:A0=B0/\c8W=a0.length/\cap0=c0:=by simpa using e0'
 have b0:c7M a0<=Rows.uptoBulk d0:=b0
 obtain ⟨A1,len1,cap1,rfl⟩:=okWide_slice Go.Proofs.Tryz.underlying36 (hval 1 36 v1 rfl rfl)
 obtain ⟨n1,t1⟩:=id h1
 obtain ⟨a1,B1,c1,e1,k1,b1⟩:=@c4g _ _ _ _ _ _ _ Int (rpK .i64) _ _ _ _ _ Go.Proofs.Tryz.underlying36 c3 c0u (fun n cs x _ hz h=>d59 hz h) z1 t1
 have e1':[Value.slice A1 len1 cap1]=[Value.slice B1 a1.length c1]:=e1
 obtain ⟨rfl,rfl,rfl⟩:A1=B1/\len1=a1.length/\cap1=c1:=by simpa using e1'
 have b1:c7M a1<=Rows.uptoBulk d1:=b1
 obtain ⟨a2,rfl⟩:=okWide_int Go.Proofs.Tryz.underlying5 (hval 2 5 v2 rfl rfl)
 obtain ⟨n2,t2⟩:=id h2
 obtain ⟨y2,e2,_,w2⟩:=DataW.trod_int Go.Proofs.Tryz.underlying5 t2
 have hr2:0<=a2/\a2<256:=by
  have f2:[Value.int .u8 a2]=[Value.int .u8 y2]:=e2
  obtain rfl:a2=y2:=by simpa using f2
  simp only [Lit.wf,d8p,decide_eq_true_eq] at w2
  have lo2:(0:Int)<=a2:=w2.1
  have hi2:a2<=255:=w2.2
  omega
 obtain ⟨fuel,hfuel⟩:=c4a a0 a1 a2 hr2
 have ctr:=d8j (fuel:=fuel) (σ:=a9Z W) ⟨A0,cap0,rfl,k0⟩ ⟨A1,cap1,rfl,k1⟩ rfl hfuel
 clear hA0
 have hlt:=hW'.lt
 refine ctr.mono fun e W' ⟨he,hbl⟩=>?_
 subst he
 have hbl:Below W.heap.size W W':=hbl
 refine ⟨_,rfl,[d0,d1,d2],[],_,[],p0++(p1++(p2++[])),[],hW',?_,?_,rfl,hbl.frame _,fun h=>by cases h⟩
 ·exact trodAll_cons_mk (shut_bool Go.Proofs.Tryz.underlying4 _) trodAll_mk0
 ·have s0:=Below.trod laid d4u d6V h0 hbl (fun x hx=>hlt x (by simp [hx]))
  have s1:=Below.trod laid d4u d6V h1 hbl (fun x hx=>hlt x (by simp [hx]))
  have s2:=Below.trod laid d8g lt5 h2 hbl (fun x hx=>hlt x (by simp [hx]))
  exact trodAll_cons_mk s0 (trodAll_cons_mk s1 (trodAll_cons_mk s2 trodAll_mk0))
noncomputable def b9P (os:Os):World :=
 { World.holding d8m os ⟨#[],#[],[]⟩ with heap:=((((World.holding d8m os ⟨#[],#[],[]⟩).heap.modify 2 fun | .cells _ t frozen=>.cells #[.int .u8 0,.int .u8 1,.int .u8 28,.int .u8 2,.int .u8 29,.int .u8 14,.int .u8 24,.int .u8 3,.int .u8 30,.int .u8 22,.int .u8 20,.int .u8 15,.int .u8 25,.int .u8 17,.int .u8 4,.int .u8 8,.int .u8 31,.int .u8 27,.int .u8 13,.int .u8 23,.int .u8 21,.int .u8 19,.int .u8 16,.int .u8 7,.int .u8 26,.int .u8 12,.int .u8 18,.int .u8 6,.int .u8 11,.int .u8 5,.int .u8 10,.int .u8 9] t frozen | o=>o).modify 3 fun | .cells _ t frozen=>.cells #[.int .u8 0,.int .u8 1,.int .u8 56,.int .u8 2,.int .u8 57,.int .u8 49,.int .u8 28,.int .u8 3,.int .u8 61,.int .u8 58,.int .u8 42,.int .u8 50,.int .u8 38,.int .u8 29,.int .u8 17,.int .u8 4,.int .u8 62,.int .u8 47,.int .u8 59,.int .u8 36,.int .u8 45,.int .u8 43,.int .u8 51,.int .u8 22,.int .u8 53,.int .u8 39,.int .u8 33,.int .u8 30,.int .u8 24,.int .u8 18,.int .u8 12,.int .u8 5,.int .u8 63,.int .u8 55,.int .u8 48,.int .u8 27,.int .u8 60,.int .u8 41,.int .u8 37,.int .u8 16,.int .u8 46,.int .u8 35,.int .u8 44,.int .u8 21,.int .u8 52,.int .u8 32,.int .u8 23,.int .u8 11,.int .u8 54,.int .u8 26,.int .u8 40,.int .u8 15,.int .u8 34,.int .u8 20,.int .u8 31,.int .u8 10,.int .u8 25,.int .u8 14,.int .u8 19,.int .u8 9,.int .u8 13,.int .u8 8,.int .u8 7,.int .u8 6] t frozen | o=>o).modify 1 fun | .cells _ t frozen=>.cells #[.int .u64 1,.int .u64 10,.int .u64 100,.int .u64 1000,.int .u64 10000,.int .u64 100000,.int .u64 1000000,.int .u64 10000000,.int .u64 100000000,.int .u64 1000000000,.int .u64 10000000000,.int .u64 100000000000,.int .u64 1000000000000,.int .u64 10000000000000,.int .u64 100000000000000,.int .u64 1000000000000000,.int .u64 10000000000000000,.int .u64 100000000000000000,.int .u64 1000000000000000000,.int .u64 10000000000000000000] t frozen | o=>o) }
theorem d3l (os:Os):laidMet d8m Rows.tallyBoundsUptoRow.laid ((b9P os).forCall (fun _ _=>0) ⟨#[],#[.slice none 0 0,.slice none 0 0,.int .u8 0],[]⟩).memory :=
 laidMet_of_run' 8 (by kernel_rfl) (by kernel_rfl)
theorem reads (os:Os){H:Type}(enc:TypeId×Value->H):∃ places,DataW.whole enc d8m ((b9P os).forCall (fun _ _=>0) ⟨#[],#[.slice none 0 0,.slice none 0 0,.int .u8 0],[]⟩).memory Go.Proofs.Tryz.f4.params.toList Rows.tallyBoundsSpec.vars false (#[.slice none 0 0,.slice none 0 0,.int .u8 0]:Array Value).toList 8=some ([.nil,.nil,.lit (.int .u8 0)],[],places) :=
 ⟨[],by kernel_rfl⟩
set_option maxRecDepth 100000 in
theorem d6X (os:Os)(started:os.Started)(H:Type)(enc:TypeId×Value->H)(F:Stop.Interp) :
 ReturnsInHanded {} Go.Proofs.Tryz.checked os 4 .any ((Rows.OpenSpec.upto Rows.tallyBoundsSpec).preRow enc d8m Go.Proofs.Tryz.f4 Rows.tallyBoundsUptoRow.domain false Rows.tallyBoundsUptoRow.laid) (((Rows.OpenSpec.upto Rows.tallyBoundsSpec).at F).post enc d8m Go.Proofs.Tryz.f4 false true false false):=by
 obtain ⟨places,hx⟩:=reads os enc
 refine returnsInHanded_of_row (C:=Go.Proofs.Tryz.checked) (s:=Rows.OpenSpec.upto Rows.tallyBoundsSpec) own started (by kernel_rfl) Go.Proofs.Tryz.func4
  (witness_row_at (enc:=enc) (C:=Go.Proofs.Tryz.checked) false (b9P os) #[.slice none 0 0,.slice none 0 0,.int .u8 0] rfl (by kernel_rfl) (by kernel_rfl) (by kernel_rfl)
    (OpenSpec.preRow_of_cond 8 hx (by kernel_rfl) (fun k hk=>by cases hk; kernel_rfl) (by kernel_rfl) (d3l os))) ?_
 intro W base args ds gs before hval hW _ hcond _ _ _ _
 exact d3M H enc W base args ds gs before hval hW (hcond _ rfl)
theorem d5P:d8m.inPlace 4=Rows.tallyBoundsUptoRow.inPlace:=by kernel_rfl
theorem d44:d8m.unfollowed 4=Rows.tallyBoundsUptoRow.unfollowed:=by kernel_rfl
theorem d5X:d8m.recurses 4=Rows.tallyBoundsUptoRow.recurses:=by kernel_rfl
theorem d45:d8m.varsNamed 4=Rows.tallyBoundsUptoRow.named:=by kernel_rfl
theorem d6L:joinedFacts d8m 4 Go.Proofs.Tryz.f4 (Rows.OpenSpec.upto Rows.tallyBoundsSpec).bare Rows.tallyBoundsUptoRow=true:=by
 unfold joinedFacts
 rw [d5P,d44,d5X,d45]
 kernel_rfl
theorem over:Rows.tallyBoundsUptoRow.holds Tryz.pinned (Rows.OpenSpec.upto Rows.tallyBoundsSpec) :=
 OpenClaim.holds_of_cond 4 Go.Proofs.Tryz.f4 rfl rfl rfl rfl rfl rfl rfl ⟨rfl,rfl,rfl,rfl,rfl⟩ rfl rfl rfl rfl rfl (by kernel_rfl) Go.Proofs.Tryz.func4 d6L
  (of_decide_eq_true (by kernel_rfl)) (by unfold Func.isWrapper; first | (rw [if_pos (by decide +kernel)]; kernel_rfl) | (rw [if_neg (by decide +kernel)]; exact ⟨rfl,rfl⟩))
  (fun os started H enc _ F=>by rw [OpenClaim.pre_eq_preRow]; exact d6X os started H enc F)
theorem plain (f:FuncId)(fn:Func)(hf:Tryz.pinned.checked.prog.funcNamed Rows.tallyBoundsUptoRow.func=some f)(hfn:Tryz.pinned.checked.prog.funcs[f]?=some fn) :
 false=Tryz.pinned.checked.prog.looks []/\∀ (j:Nat) t,fn.params[j]?=some t->Tryz.pinned.checked.prog.wantsStandIn t=false:=by
 obtain rfl:f=4:=d8Y.inj ((show d8m.funcNamed Rows.tallyBoundsUptoRow.func=some 4 by kernel_rfl).symm.trans hf) |>.symm
 obtain rfl:fn=Go.Proofs.Tryz.f4:=(d8Y.inj (Go.Proofs.Tryz.func4.symm.trans hfn)).symm
 refine ⟨by kernel_rfl,fun j t ht=>?_⟩
 rw [Go.Proofs.Tryz.params4] at ht
 have ht2:=Array.mem_of_getElem? ht
 simp only [List.mem_toArray,d8A,List.not_mem_nil,or_false] at ht2
 rcases ht2 with rfl | rfl | rfl
 ·exact (show d8m.wantsStandIn 36=false by kernel_rfl)
 ·exact (show d8m.wantsStandIn 36=false by kernel_rfl)
 ·exact (show d8m.wantsStandIn 5=false by kernel_rfl)
theorem proved:Rows.TallyBoundsUptoCardSaid :=
 Claim7.holds_tied_plain_at .later [] _ _ _ _ over (fun _ h=>by cases h) (by kernel_rfl) (fun _ h=>by cases h) tallyBoundsUpto_row_tie rfl ⟨rfl,rfl⟩ (by kernel_rfl) rfl plain (by kernel_rfl)
end Go.Proofs.YtmjdpaeioidmeaaGreatDoor.tallyBounds

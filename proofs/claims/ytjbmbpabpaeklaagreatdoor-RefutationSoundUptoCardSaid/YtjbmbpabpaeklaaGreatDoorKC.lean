/- States that no valid value is a member of a goal for which some refutation is accepted, whoever made it (semtypelaw16.RefutationSound). -/
import Derived.Test.YtjbmbpabpaeklaaGreatDoorK5
import Derived.Test.YtjbmbpabpaeklaaGreatDoorK6
import Derived.Test.YtjbmbpabpaeklaaGreatDoorCards
import Derived.Test.YtjbmbpabpaeklaaGreatDoorTie
import Derived.Deep.DeepHandedRow
import Derived.SevenTiedAt
import Derived.WalkKit
import Derived.ProofKit
import Derived.OpenShut
import Derived.Carry
import Derived.JoinedCond
open Go.Proofs.Tryz renaming prog->KZ'
open List renaming append_nil->MK',mem_cons->Lq',not_mem_nil->NJ'
open Option renaming some->LI'
open Go.Proofs.Tryz
namespace Go.Proofs.YtjbmbpabpaeklaaGreatDoor.refutationSound
open Go Go.Sx Go.Pl Go.Qx Go.ChangeShapes Go.WideShapes Go.ChangeAt Go.RowKit
theorem own:ownKnob KZ'.godebug=none:=by kernel_rfl
theorem laid:laidOutB KZ'=true:=by kernel_rfl
theorem QA:KZ'.readableRec 23=true:=by kernel_rfl
theorem QX:23<KZ'.types.size:=of_decide_eq_true (by kernel_rfl)
theorem nO' {fuel:Nat}{σ:S}{a0:List Int}{a1:List Int}{a2:List Int}{a3:List Int}{v0 v1 v2 v3:Value}(h0:∃ A c,v0=.slice A a0.length c/\@Sl _ (bS .i64) σ a0 A c)(h1:∃ A c,v1=.slice A a1.length c/\@Sl _ (bS .i64) σ a1 A c)(h2:∃ A c,v2=.slice A a2.length c/\@Sl _ (bS .i64) σ a2 A c)(h3:∃ A c,v3=.slice A a3.length c/\@Sl _ (bS .i64) σ a3 A c)(hr:Lj fuel a0 a1 a2 a3=some true) :
 Calls KZ' 5 #[v0,v1,v2,v3] σ.w λe W'=>e=.returned (.bool true)/\Below σ.w.heap.size σ.w W':=by
 have hc:=Dx' fuel σ (a0,a1,a2,a3,()) [v0,v1,v2,v3] [] true ⟨v0,[v1,v2,v3],[],[],rfl,rfl,⟨h0,rfl⟩,v1,[v2,v3],[],[],rfl,rfl,⟨h1,rfl⟩,v2,[v3],[],[],rfl,rfl,⟨h2,rfl⟩,v3,[],[],[],rfl,rfl,⟨h3,rfl⟩,rfl,rfl⟩ List.nodup_nil hr;rcases hc with ⟨_,hc⟩ | ⟨v,τ,hc,_⟩
 ·refine hc.mono λe w' ⟨v,τ,he,hw,hst,ws,us,au,hp⟩=>?_;subst hw;refine ⟨?_,hst.os,hst.tape,hst.output,hst.eP.size,λb hb=>(hst.block b hb (λh=>by cases h)).1⟩
  obtain ⟨u,hu,ht⟩:=hp.tt;have hu':ws++us=[u]:=hu;have ho:us=[]:=hp.out;subst ho;rw [MK'] at hu';rw [he,hp.ret,hu'];have ht':u=.bool true/\au=[]:=ht;rw [ht'.1];rfl
 ·exact absurd hc (by
   have e:=enters_of func5 (by kernel_rfl) rfl #[v0,v1,v2,v3] σ.w
   intro hc;have hc:(callFunc 5 #[v0,v1,v2,v3]).run KZ' σ.w=.ok (.value v) τ.w:=hc;have:=hc.symm.trans e;cases this)
set_option maxRecDepth 100000 in
theorem nv' (H:Type)(enc:TypeId×Value->H)(W:World)(base:Nat)(args:Array Value)(ds gs:List (DataW H))(before:List MemPlace)
 (hval:∀ (j:Nat) t v,f5.params[j]?=some t->args[j]?=some v->Value.okWide KZ' W .any base t v)
 (hW:DataW.Whole enc KZ' f5.params.toList Rows.refutationSoundSpec.vars false W args.toList ds gs before)
 (hk:Rows.uptoSmall H (ds++gs)=true) :
 Calls KZ' 5 args W λe W'=>∃ v,e=.returned v/\Rows.refutationSoundSpec.post enc KZ' f5 false true false false W args v W':=by
 have hW':=hW;obtain ⟨p,q,ZU,hV,rfl,hfz,hnd⟩:=hW;have hA:DataW.TrodAll enc KZ' W 0 (λ_=>true) true f5.params.toList args.toList ds p:=ZU;rw [Go.Proofs.Tryz.params5] at hA hval;obtain ⟨v0,vs0,d0,ds0,p0,q0,hargs,rfl,rfl,h0,r0⟩:=trodAll_cons hA;obtain ⟨v1,vs1,d1,ds1,p1,q1,rfl,rfl,rfl,h1,r1⟩:=trodAll_cons r0;obtain ⟨v2,vs2,d2,ds2,p2,q2,rfl,rfl,rfl,h2,r2⟩:=trodAll_cons r1;obtain ⟨v3,vs3,d3,ds3,p3,q3,rfl,rfl,rfl,h3,r3⟩:=trodAll_cons r2;obtain ⟨rfl,rfl,rfl⟩:=trodAll_nil r3;obtain rfl:args=#[v0,v1,v2,v3]:=by cases args; simp_all
 obtain ⟨rfl,rfl⟩:=trodVars_none hV;have z0:W.noneFrozen p0:=λb off hm=>hfz b off (by simp [hm])
 have z1:W.noneFrozen p1:=λb off hm=>hfz b off (by simp [hm])
 have z2:W.noneFrozen p2:=λb off hm=>hfz b off (by simp [hm])
 have z3:W.noneFrozen p3:=λb off hm=>hfz b off (by simp [hm])
 obtain ⟨A0,KQ,cap0,rfl⟩:=okWide_slice underlying23 (hval 0 23 v0 rfl rfl);obtain ⟨n0,t0⟩:=id h0;obtain ⟨a0,B0,c0,e0,k0,b0⟩:=@R4 _ _ _ _ _ _ _ Int (bS .i64) _ _ _ _ _ underlying23 c3 BH (λn cs x _ hz h=>Qg hz h) z0 t0;have e0':[Value.slice A0 KQ cap0]=[Value.slice B0 a0.length c0]:=e0;obtain ⟨rfl,rfl,rfl⟩:A0=B0/\KQ=a0.length/\cap0=c0:=by simpa using e0'
 have b0:Ph a0<=Rows.uptoBulk d0:=b0;obtain ⟨A1,TY,ad',rfl⟩:=okWide_slice underlying23 (hval 1 23 v1 rfl rfl);obtain ⟨n1,t1⟩:=id h1;obtain ⟨a1,B1,c1,e1,k1,b1⟩:=@R4 _ _ _ _ _ _ _ Int (bS .i64) _ _ _ _ _ underlying23 c3 BH (λn cs x _ hz h=>Qg hz h) z1 t1;have zB:[Value.slice A1 TY ad']=[Value.slice B1 a1.length c1]:=e1;obtain ⟨rfl,rfl,rfl⟩:A1=B1/\TY=a1.length/\ad'=c1:=by simpa using zB
 have b1:Ph a1<=Rows.uptoBulk d1:=b1;obtain ⟨A2,Xo,cap2,rfl⟩:=okWide_slice underlying23 (hval 2 23 v2 rfl rfl);obtain ⟨n2,t2⟩:=id h2;obtain ⟨a2,B2,c2,e2,k2,b2⟩:=@R4 _ _ _ _ _ _ _ Int (bS .i64) _ _ _ _ _ underlying23 c3 BH (λn cs x _ hz h=>Qg hz h) z2 t2;have e2':[Value.slice A2 Xo cap2]=[Value.slice B2 a2.length c2]:=e2;obtain ⟨rfl,rfl,rfl⟩:A2=B2/\Xo=a2.length/\cap2=c2:=by simpa using e2'
 have b2:Ph a2<=Rows.uptoBulk d2:=b2;obtain ⟨A3,mu',ae',rfl⟩:=okWide_slice underlying23 (hval 3 23 v3 rfl rfl);obtain ⟨n3,t3⟩:=id h3;obtain ⟨a3,B3,c3,e3,k3,b3⟩:=@R4 _ _ _ _ _ _ _ Int (bS .i64) _ _ _ _ _ underlying23 c3 BH (λn cs x _ hz h=>Qg hz h) z3 t3;have e3':[Value.slice A3 mu' ae']=[Value.slice B3 a3.length c3]:=e3;obtain ⟨rfl,rfl,rfl⟩:A3=B3/\mu'=a3.length/\ae'=c3:=by simpa using e3'
 have b3:Ph a3<=Rows.uptoBulk d3:=b3;obtain ⟨fuel,hfuel⟩:=vt' a0 a1 a2 a3;have ctr:=nO' (fuel:=fuel) (σ:=rR W) ⟨A0,cap0,rfl,k0⟩ ⟨A1,ad',rfl,k1⟩ ⟨A2,cap2,rfl,k2⟩ ⟨A3,ae',rfl,k3⟩ hfuel;clear ZU;have hlt:=hW'.lt;refine ctr.mono λe W' ⟨he,hbl⟩=>?_;subst he;have hbl:Below W.heap.size W W':=hbl;refine ⟨_,rfl,[d0,d1,d2,d3],[],_,[],p0++(p1++(p2++(p3++[]))),[],hW',?_,?_,rfl,hbl.frame _,λh=>by cases h⟩
 ·exact trodAll_cons_mk (shut_bool underlying4 _) trodAll_mk0
 ·have s0:=Below.trod laid QA QX h0 hbl (λx hx=>hlt x (by simp [hx]))
  have s1:=Below.trod laid QA QX h1 hbl (λx hx=>hlt x (by simp [hx]))
  have s2:=Below.trod laid QA QX h2 hbl (λx hx=>hlt x (by simp [hx]))
  have s3:=Below.trod laid QA QX h3 hbl (λx hx=>hlt x (by simp [hx]))
  exact trodAll_cons_mk s0 (trodAll_cons_mk s1 (trodAll_cons_mk s2 (trodAll_cons_mk s3 trodAll_mk0)))
noncomputable def Xx (os:Os):World :=
 { World.holding KZ' os ⟨#[],#[],[]⟩ with heap:=((((World.holding KZ' os ⟨#[],#[],[]⟩).heap.modify 2 λ| .cells _ t frozen=>.cells #[.int .u8 0,.int .u8 1,.int .u8 28,.int .u8 2,.int .u8 29,.int .u8 14,.int .u8 24,.int .u8 3,.int .u8 30,.int .u8 22,.int .u8 20,.int .u8 15,.int .u8 25,.int .u8 17,.int .u8 4,.int .u8 8,.int .u8 31,.int .u8 27,.int .u8 13,.int .u8 23,.int .u8 21,.int .u8 19,.int .u8 16,.int .u8 7,.int .u8 26,.int .u8 12,.int .u8 18,.int .u8 6,.int .u8 11,.int .u8 5,.int .u8 10,.int .u8 9] t frozen | o=>o).modify 3 λ| .cells _ t frozen=>.cells #[.int .u8 0,.int .u8 1,.int .u8 56,.int .u8 2,.int .u8 57,.int .u8 49,.int .u8 28,.int .u8 3,.int .u8 61,.int .u8 58,.int .u8 42,.int .u8 50,.int .u8 38,.int .u8 29,.int .u8 17,.int .u8 4,.int .u8 62,.int .u8 47,.int .u8 59,.int .u8 36,.int .u8 45,.int .u8 43,.int .u8 51,.int .u8 22,.int .u8 53,.int .u8 39,.int .u8 33,.int .u8 30,.int .u8 24,.int .u8 18,.int .u8 12,.int .u8 5,.int .u8 63,.int .u8 55,.int .u8 48,.int .u8 27,.int .u8 60,.int .u8 41,.int .u8 37,.int .u8 16,.int .u8 46,.int .u8 35,.int .u8 44,.int .u8 21,.int .u8 52,.int .u8 32,.int .u8 23,.int .u8 11,.int .u8 54,.int .u8 26,.int .u8 40,.int .u8 15,.int .u8 34,.int .u8 20,.int .u8 31,.int .u8 10,.int .u8 25,.int .u8 14,.int .u8 19,.int .u8 9,.int .u8 13,.int .u8 8,.int .u8 7,.int .u8 6] t frozen | o=>o).modify 1 λ| .cells _ t frozen=>.cells #[.int .u64 1,.int .u64 10,.int .u64 100,.int .u64 1000,.int .u64 10000,.int .u64 100000,.int .u64 1000000,.int .u64 10000000,.int .u64 100000000,.int .u64 1000000000,.int .u64 10000000000,.int .u64 100000000000,.int .u64 1000000000000,.int .u64 10000000000000,.int .u64 100000000000000,.int .u64 1000000000000000,.int .u64 10000000000000000,.int .u64 100000000000000000,.int .u64 1000000000000000000,.int .u64 10000000000000000000] t frozen | o=>o) }
theorem ul' (os:Os):laidMet KZ' Rows.refutationSoundUptoRow.laid ((Xx os).forCall (λ_ _=>0) ⟨#[],#[.slice none 0 0,.slice none 0 0,.slice none 0 0,.slice none 0 0],[]⟩).memory :=
 laidMet_of_run' 8 (by kernel_rfl) (by kernel_rfl)
theorem reads (os:Os){H:Type}(enc:TypeId×Value->H):∃ places,DataW.whole enc KZ' ((Xx os).forCall (λ_ _=>0) ⟨#[],#[.slice none 0 0,.slice none 0 0,.slice none 0 0,.slice none 0 0],[]⟩).memory f5.params.toList Rows.refutationSoundSpec.vars false (#[.slice none 0 0,.slice none 0 0,.slice none 0 0,.slice none 0 0]:Array Value).toList 8=some ([.nil,.nil,.nil,.nil],[],places) :=
 ⟨[],by kernel_rfl⟩
set_option maxRecDepth 100000 in
theorem yj' (os:Os)(started:os.Started)(H:Type)(enc:TypeId×Value->H)(F:Stop.Interp) :
 ReturnsInHanded {} Go.Proofs.Tryz.checked os 5 .any ((Rows.OpenSpec.upto Rows.refutationSoundSpec).preRow enc KZ' f5 Rows.refutationSoundUptoRow.domain false Rows.refutationSoundUptoRow.laid) (((Rows.OpenSpec.upto Rows.refutationSoundSpec).at F).post enc KZ' f5 false true false false):=by
 obtain ⟨places,hx⟩:=reads os enc;refine returnsInHanded_of_row (C:=Go.Proofs.Tryz.checked) (s:=Rows.OpenSpec.upto Rows.refutationSoundSpec) own started (by kernel_rfl) func5
  (witness_row_at (enc:=enc) (C:=Go.Proofs.Tryz.checked) false (Xx os) #[.slice none 0 0,.slice none 0 0,.slice none 0 0,.slice none 0 0] rfl (by kernel_rfl) (by kernel_rfl) (by kernel_rfl)
    (OpenSpec.preRow_of_cond 8 hx (by kernel_rfl) (λk hk=>by cases hk; kernel_rfl) (by kernel_rfl) (ul' os))) ?_
 intro W base args ds gs before hval hW _ hcond _ _ _ _;exact nv' H enc W base args ds gs before hval hW (hcond _ rfl)
theorem pn':KZ'.inPlace 5=Rows.refutationSoundUptoRow.inPlace:=by kernel_rfl
theorem xr':KZ'.unfollowed 5=Rows.refutationSoundUptoRow.unfollowed:=by kernel_rfl
theorem Ca':KZ'.recurses 5=Rows.refutationSoundUptoRow.recurses:=by kernel_rfl
theorem Ce':KZ'.varsNamed 5=Rows.refutationSoundUptoRow.named:=by kernel_rfl
theorem yu':joinedFacts KZ' 5 f5 (Rows.OpenSpec.upto Rows.refutationSoundSpec).bare Rows.refutationSoundUptoRow=true:=by
 unfold joinedFacts;rw [pn',xr',Ca',Ce']
 kernel_rfl
theorem over:Rows.refutationSoundUptoRow.holds Tryz.pinned (Rows.OpenSpec.upto Rows.refutationSoundSpec) :=
 OpenClaim.holds_of_cond 5 f5 rfl rfl rfl rfl rfl rfl rfl ⟨rfl,rfl,rfl,rfl,rfl⟩ rfl rfl rfl rfl rfl (by kernel_rfl) func5 yu'
  (of_decide_eq_true (by kernel_rfl)) (by unfold Func.isWrapper; first | (rw [if_pos (by decide +kernel)]; kernel_rfl) | (rw [if_neg (by decide +kernel)]; exact ⟨rfl,rfl⟩))
  (λos started H enc _ F=>by rw [OpenClaim.pre_eq_preRow]; exact yj' os started H enc F)
theorem plain (f:FuncId)(fn:Func)(hf:Tryz.pinned.checked.prog.funcNamed Rows.refutationSoundUptoRow.func=some f)(hfn:Tryz.pinned.checked.prog.funcs[f]?=some fn) :
 false=Tryz.pinned.checked.prog.looks []/\∀ (j:Nat) t,fn.params[j]?=some t->Tryz.pinned.checked.prog.wantsStandIn t=false:=by
 obtain rfl:f=5:=LI'.inj ((show KZ'.funcNamed Rows.refutationSoundUptoRow.func=some 5 by kernel_rfl).symm.trans hf) |>.symm
 obtain rfl:fn=f5:=(LI'.inj (func5.symm.trans hfn)).symm;refine ⟨by kernel_rfl,λj t ht=>?_⟩
 rw [Go.Proofs.Tryz.params5] at ht;have ht2:=Array.mem_of_getElem? ht;simp only [List.mem_toArray,Lq',NJ',or_false] at ht2;rcases ht2 with rfl | rfl | rfl | rfl
 ·exact (show KZ'.wantsStandIn 23=false by kernel_rfl)
 ·exact (show KZ'.wantsStandIn 23=false by kernel_rfl)
 ·exact (show KZ'.wantsStandIn 23=false by kernel_rfl)
 ·exact (show KZ'.wantsStandIn 23=false by kernel_rfl)
theorem proved:Rows.RefutationSoundUptoCardSaid :=
 Claim7.holds_tied_plain_at .later [] _ _ _ _ over (λ_ h=>by cases h) (by kernel_rfl) (λ_ h=>by cases h) refutationSoundUpto_row_tie rfl ⟨rfl,rfl⟩ (by kernel_rfl) rfl plain (by kernel_rfl)
end Go.Proofs.YtjbmbpabpaeklaaGreatDoor.refutationSound

/- States that Covered compares the sets of nodes of goals, whatever their order and duplicates (semtypelaw16.RefutationCovers). -/
import Derived.Test.YtjbmbpabpaeklaaGreatDoorK2
import Derived.Test.YtjbmbpabpaeklaaGreatDoorK3
import Derived.Test.YtjbmbpabpaeklaaGreatDoorCards
import Derived.Test.YtjbmbpabpaeklaaGreatDoorTie
import Derived.Deep.DeepHandedRow
import Derived.SevenTiedAt
import Derived.WalkKit
import Derived.ProofKit
import Derived.OpenShut
import Derived.Carry
import Derived.JoinedCond
open Go.Proofs.Tryz renaming prog->ig'
open List renaming append_nil->jo',mem_cons->ir'
open Option renaming some->iU'
open Go.Proofs.Tryz
namespace Go.Proofs.YtjbmbpabpaeklaaGreatDoor.refutationCovers
open Go Go.Sx Go.Pl Go.Qx Go.ChangeShapes Go.WideShapes Go.ChangeAt Go.RowKit
theorem own:ownKnob ig'.godebug=none:=by kernel_rfl
theorem laid:laidOutB ig'=true:=by kernel_rfl
theorem TR:ig'.readableRec 22=true:=by kernel_rfl
theorem Za:22<ig'.types.size:=of_decide_eq_true (by kernel_rfl)
theorem bN':ig'.readableRec 25=true:=by kernel_rfl
theorem WJ:25<ig'.types.size:=of_decide_eq_true (by kernel_rfl)
theorem YH {fuel:Nat}{σ:S}{a0:List ai}{a1:ai}{v0 v1:Value}(h0:∃ A c,v0=.slice A a0.length c/\@Sl _ (jl) σ a0 A c)(h1:∃ cs:List Value,v1=.agg cs.toArray/\(jl).cells σ a1 cs)(hr:A8 fuel a0 a1=some true) :
 Calls ig' 3 #[v0,v1] σ.w λe W'=>e=.returned (.bool true)/\Below σ.w.heap.size σ.w W':=by
 have hc:=cO' fuel σ (a0,a1,()) [v0,v1] [] true ⟨v0,[v1],[],[],rfl,rfl,⟨h0,rfl⟩,v1,[],[],[],rfl,rfl,⟨h1,rfl⟩,rfl,rfl⟩ List.nodup_nil hr;rcases hc with ⟨_,hc⟩ | ⟨v,τ,hc,_⟩
 ·refine hc.mono λe w' ⟨v,τ,he,hw,hst,ws,us,af,hp⟩=>?_;subst hw;refine ⟨?_,hst.os,hst.tape,hst.output,hst.bS.size,λb hb=>(hst.block b hb (λh=>by cases h)).1⟩
  obtain ⟨u,hu,ht⟩:=hp.tt;have hu':ws++us=[u]:=hu;have ho:us=[]:=hp.out;subst ho;rw [jo'] at hu';rw [he,hp.ret,hu'];have ht':u=.bool true/\af=[]:=ht;rw [ht'.1];rfl
 ·exact absurd hc (by
   have e:=enters_of func3 (by kernel_rfl) rfl #[v0,v1] σ.w
   intro hc;have hc:(callFunc 3 #[v0,v1]).run ig' σ.w=.ok (.value v) τ.w:=hc;have:=hc.symm.trans e;cases this)
set_option maxRecDepth 100000 in
theorem VU (H:Type)(enc:TypeId×Value->H)(W:World)(base:Nat)(args:Array Value)(ds gs:List (DataW H))(before:List MemPlace)
 (hval:∀ (j:Nat) t v,f3.params[j]?=some t->args[j]?=some v->Value.okWide ig' W .any base t v)
 (hW:DataW.Whole enc ig' f3.params.toList Rows.refutationCoversSpec.vars false W args.toList ds gs before)
 (hk:Rows.uptoSmall H (ds++gs)=true) :
 Calls ig' 3 args W λe W'=>∃ v,e=.returned v/\Rows.refutationCoversSpec.post enc ig' f3 false true false false W args v W':=by
 have hW':=hW;obtain ⟨p,q,QH,hV,rfl,hfz,hnd⟩:=hW;have hA:DataW.TrodAll enc ig' W 0 (λ_=>true) true f3.params.toList args.toList ds p:=QH;rw [Go.Proofs.Tryz.params3] at hA hval;obtain ⟨v0,Qf,d0,ds0,p0,q0,hargs,rfl,rfl,h0,r0⟩:=trodAll_cons hA;obtain ⟨v1,vs1,d1,ds1,p1,q1,rfl,rfl,rfl,h1,r1⟩:=trodAll_cons r0;obtain ⟨rfl,rfl,rfl⟩:=trodAll_nil r1;obtain rfl:args=#[v0,v1]:=by cases args; simp_all
 obtain ⟨rfl,rfl⟩:=trodVars_none hV;have z0:W.noneFrozen p0:=λb off hm=>hfz b off (by simp [hm])
 have z1:W.noneFrozen p1:=λb off hm=>hfz b off (by simp [hm])
 obtain ⟨A0,ES,cap0,rfl⟩:=okWide_slice underlying22 (hval 0 22 v0 rfl rfl);obtain ⟨n0,t0⟩:=id h0;obtain ⟨a0,B0,c0,e0,k0,b0⟩:=@Pe _ _ _ _ _ _ _ ai (jl) _ _ _ _ _ underlying22 MC yh (λn cs x _ hz h=>MZ hz h) z0 t0;have e0':[Value.slice A0 ES cap0]=[Value.slice B0 a0.length c0]:=e0;obtain ⟨rfl,rfl,rfl⟩:A0=B0/\ES=a0.length/\cap0=c0:=by simpa using e0'
 have b0:WB a0<=Rows.uptoBulk d0:=b0;obtain ⟨c1,rfl,hc1⟩:=okWide_struct underlying25 (hval 1 25 v1 rfl rfl);obtain ⟨n1,t1⟩:=id h1;obtain ⟨a1,k1,b1⟩:=MZ z1 t1;have b1:yh a1<=Rows.uptoBulk d1:=b1;obtain ⟨fuel,hfuel⟩:=UC a0 a1;have ctr:=YH (fuel:=fuel) (σ:=jR W) ⟨A0,cap0,rfl,k0⟩ ⟨c1.toList,rfl,k1⟩ hfuel;clear QH;have hlt:=hW'.lt;refine ctr.mono λe W' ⟨he,hbl⟩=>?_;subst he;have hbl:Below W.heap.size W W':=hbl;refine ⟨_,rfl,[d0,d1],[],_,[],p0++(p1++[]),[],hW',?_,?_,rfl,hbl.frame _,λh=>by cases h⟩
 ·exact trodAll_cons_mk (shut_bool underlying4 _) trodAll_mk0
 ·have s0:=Below.trod laid TR Za h0 hbl (λx hx=>hlt x (by simp [hx]))
  have s1:=Below.trod laid bN' WJ h1 hbl (λx hx=>hlt x (by simp [hx]))
  exact trodAll_cons_mk s0 (trodAll_cons_mk s1 trodAll_mk0)
noncomputable def FV (os:Os):World :=
 { World.holding ig' os ⟨#[],#[],[]⟩ with heap:=((((World.holding ig' os ⟨#[],#[],[]⟩).heap.modify 2 λ| .cells _ t frozen=>.cells #[.int .u8 0,.int .u8 1,.int .u8 28,.int .u8 2,.int .u8 29,.int .u8 14,.int .u8 24,.int .u8 3,.int .u8 30,.int .u8 22,.int .u8 20,.int .u8 15,.int .u8 25,.int .u8 17,.int .u8 4,.int .u8 8,.int .u8 31,.int .u8 27,.int .u8 13,.int .u8 23,.int .u8 21,.int .u8 19,.int .u8 16,.int .u8 7,.int .u8 26,.int .u8 12,.int .u8 18,.int .u8 6,.int .u8 11,.int .u8 5,.int .u8 10,.int .u8 9] t frozen | o=>o).modify 3 λ| .cells _ t frozen=>.cells #[.int .u8 0,.int .u8 1,.int .u8 56,.int .u8 2,.int .u8 57,.int .u8 49,.int .u8 28,.int .u8 3,.int .u8 61,.int .u8 58,.int .u8 42,.int .u8 50,.int .u8 38,.int .u8 29,.int .u8 17,.int .u8 4,.int .u8 62,.int .u8 47,.int .u8 59,.int .u8 36,.int .u8 45,.int .u8 43,.int .u8 51,.int .u8 22,.int .u8 53,.int .u8 39,.int .u8 33,.int .u8 30,.int .u8 24,.int .u8 18,.int .u8 12,.int .u8 5,.int .u8 63,.int .u8 55,.int .u8 48,.int .u8 27,.int .u8 60,.int .u8 41,.int .u8 37,.int .u8 16,.int .u8 46,.int .u8 35,.int .u8 44,.int .u8 21,.int .u8 52,.int .u8 32,.int .u8 23,.int .u8 11,.int .u8 54,.int .u8 26,.int .u8 40,.int .u8 15,.int .u8 34,.int .u8 20,.int .u8 31,.int .u8 10,.int .u8 25,.int .u8 14,.int .u8 19,.int .u8 9,.int .u8 13,.int .u8 8,.int .u8 7,.int .u8 6] t frozen | o=>o).modify 1 λ| .cells _ t frozen=>.cells #[.int .u64 1,.int .u64 10,.int .u64 100,.int .u64 1000,.int .u64 10000,.int .u64 100000,.int .u64 1000000,.int .u64 10000000,.int .u64 100000000,.int .u64 1000000000,.int .u64 10000000000,.int .u64 100000000000,.int .u64 1000000000000,.int .u64 10000000000000,.int .u64 100000000000000,.int .u64 1000000000000000,.int .u64 10000000000000000,.int .u64 100000000000000000,.int .u64 1000000000000000000,.int .u64 10000000000000000000] t frozen | o=>o) }
theorem WN (os:Os):laidMet ig' Rows.refutationCoversUptoRow.laid ((FV os).forCall (λ_ _=>0) ⟨#[],#[.slice none 0 0,.agg #[.slice none 0 0,.slice none 0 0,.bool false]],[]⟩).memory :=
 laidMet_of_run' 8 (by kernel_rfl) (by kernel_rfl)
theorem reads (os:Os){H:Type}(enc:TypeId×Value->H):∃ places,DataW.whole enc ig' ((FV os).forCall (λ_ _=>0) ⟨#[],#[.slice none 0 0,.agg #[.slice none 0 0,.slice none 0 0,.bool false]],[]⟩).memory f3.params.toList Rows.refutationCoversSpec.vars false (#[.slice none 0 0,.agg #[.slice none 0 0,.slice none 0 0,.bool false]]:Array Value).toList 8=some ([.nil,.agg [.nil,.nil,.lit (.bool false)]],[],places) :=
 ⟨[],by kernel_rfl⟩
set_option maxRecDepth 100000 in
theorem Vb (os:Os)(started:os.Started)(H:Type)(enc:TypeId×Value->H)(F:Stop.Interp) :
 ReturnsInHanded {} Go.Proofs.Tryz.checked os 3 .any ((Rows.OpenSpec.upto Rows.refutationCoversSpec).preRow enc ig' f3 Rows.refutationCoversUptoRow.domain false Rows.refutationCoversUptoRow.laid) (((Rows.OpenSpec.upto Rows.refutationCoversSpec).at F).post enc ig' f3 false true false false):=by
 obtain ⟨places,hx⟩:=reads os enc;refine returnsInHanded_of_row (C:=Go.Proofs.Tryz.checked) (s:=Rows.OpenSpec.upto Rows.refutationCoversSpec) own started (by kernel_rfl) func3
  (witness_row_at (enc:=enc) (C:=Go.Proofs.Tryz.checked) false (FV os) #[.slice none 0 0,.agg #[.slice none 0 0,.slice none 0 0,.bool false]] rfl (by kernel_rfl) (by kernel_rfl) (by kernel_rfl)
    (OpenSpec.preRow_of_cond 8 hx (by kernel_rfl) (λk hk=>by cases hk; kernel_rfl) (by kernel_rfl) (WN os))) ?_
 intro W base args ds gs before hval hW _ hcond _ _ _ _;exact VU H enc W base args ds gs before hval hW (hcond _ rfl)
theorem VT:ig'.inPlace 3=Rows.refutationCoversUptoRow.inPlace:=by kernel_rfl
theorem Yn:ig'.unfollowed 3=Rows.refutationCoversUptoRow.unfollowed:=by kernel_rfl
theorem RH:ig'.recurses 3=Rows.refutationCoversUptoRow.recurses:=by kernel_rfl
theorem Sg:ig'.varsNamed 3=Rows.refutationCoversUptoRow.named:=by kernel_rfl
theorem SH:joinedFacts ig' 3 f3 (Rows.OpenSpec.upto Rows.refutationCoversSpec).bare Rows.refutationCoversUptoRow=true:=by
 unfold joinedFacts;rw [VT,Yn,RH,Sg]
 kernel_rfl
theorem over:Rows.refutationCoversUptoRow.holds Tryz.pinned (Rows.OpenSpec.upto Rows.refutationCoversSpec) :=
 OpenClaim.holds_of_cond 3 f3 rfl rfl rfl rfl rfl rfl rfl ⟨rfl,rfl,rfl,rfl,rfl⟩ rfl rfl rfl rfl rfl (by kernel_rfl) func3 SH
  (of_decide_eq_true (by kernel_rfl)) (by unfold Func.isWrapper; first | (rw [if_pos (by decide +kernel)]; kernel_rfl) | (rw [if_neg (by decide +kernel)]; exact ⟨rfl,rfl⟩))
  (λos started H enc _ F=>by rw [OpenClaim.pre_eq_preRow]; exact Vb os started H enc F)
theorem plain (f:FuncId)(fn:Func)(hf:Tryz.pinned.checked.prog.funcNamed Rows.refutationCoversUptoRow.func=some f)(hfn:Tryz.pinned.checked.prog.funcs[f]?=some fn) :
 false=Tryz.pinned.checked.prog.looks []/\∀ (j:Nat) t,fn.params[j]?=some t->Tryz.pinned.checked.prog.wantsStandIn t=false:=by
 obtain rfl:f=3:=iU'.inj ((show ig'.funcNamed Rows.refutationCoversUptoRow.func=some 3 by kernel_rfl).symm.trans hf) |>.symm
 obtain rfl:fn=f3:=(iU'.inj (func3.symm.trans hfn)).symm;refine ⟨by kernel_rfl,λj t ht=>?_⟩
 rw [Go.Proofs.Tryz.params3] at ht;have ht2:=Array.mem_of_getElem? ht;simp only [List.mem_toArray,ir',List.not_mem_nil,or_false] at ht2;rcases ht2 with rfl | rfl
 ·exact (show ig'.wantsStandIn 22=false by kernel_rfl)
 ·exact (show ig'.wantsStandIn 25=false by kernel_rfl)
theorem proved:Rows.RefutationCoversUptoCardSaid :=
 Claim7.holds_tied_plain_at .later [] _ _ _ _ over (λ_ h=>by cases h) (by kernel_rfl) (λ_ h=>by cases h) refutationCoversUpto_row_tie rfl ⟨rfl,rfl⟩ (by kernel_rfl) rfl plain (by kernel_rfl)
end Go.Proofs.YtjbmbpabpaeklaaGreatDoor.refutationCovers

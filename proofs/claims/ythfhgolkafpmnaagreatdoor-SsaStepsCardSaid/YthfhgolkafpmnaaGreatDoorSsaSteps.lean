/- Proved: for every unit, input and number of steps the law SsaSteps returns true, and its arguments read afterwards as before. -/
import Derived.Test.YthfhgolkafpmnaaGreatDoorIQ
import Derived.Test.YthfhgolkafpmnaaGreatDoorMJ
namespace Go.Proofs.YthfhgolkafpmnaaGreatDoor
section
open Go Go.RowKit Go.ChangeShapes Go.WideShapes Go.ChangeAt
set_option maxRecDepth 100000 in
theorem xk(H:Type)(enc:TypeId×Value->H)(W:World)(base:Nat)(args:Array Value)(ds gs:List (DataW H))(before:List MemPlace)
    (oy:∀(j:Nat) t v,Tryz.f7.params[j]?=some t->args[j]?=some v->Value.okWide Tryz.prog W .any base t v)
    (hW:DataW.Whole enc Tryz.prog Tryz.f7.params.toList Rows.ssaStepsSpec.vars false W args.toList ds gs before)
    (hz:(DataW.weightsEach Tryz.prog (Tryz.f7.params.toList++[]) (ds++gs)).all (·<=reachBytes)=true) (hL:laidMetH Tryz.prog BZ W):
    Calls Tryz.prog 7 args W λe W'=>∃v,e=.returned v/\Rows.ssaStepsSpec.post enc Tryz.prog Tryz.f7 false true false false W args v W':=by
  have Zh:gs=[]:=by
    obtain⟨p,q,_,hV,_⟩:=hW;exact(trodVars_none hV).1
  subst Zh;rw[cq,cq]at hz;refine Qf (ts:=[25,42,3]) (by rw[Tryz.params7]) rfl rfl (by intro t ht;simp only[bJ,iI,or_false]at ht;rcases ht with rfl|rfl|rfl<;>exact⟨aP,of_decide_eq_true aP⟩) (λhl=>?_) hW (λp hp=>?_)
  ·match ds,hl with
   |[d0,d1,d2],_=>rfl
  ·obtain⟨u,g,fs,v1,l1,k2,rfl,hg,hf,Gu,AO⟩:=QR (params:=Tryz.f7.params) rfl oy hp (Nb hz)
   exact CD u l1 k2 AO g fs v1 W hg hf Gu (UH hL)
set_option maxRecDepth 100000 in
theorem BR(os:Os){H:Type}(enc:TypeId×Value->H):∃places,DataW.whole enc Tryz.prog ((x_ os).forCall (λ_ _=>0) ⟨#[],zJ,[]⟩).memory Tryz.f7.params.toList Rows.ssaStepsSpec.vars false zJ.toList 8=some ([.agg [.nil,.nil],.nil,.lit (.int .i64 0)],[],places):=
  ⟨[],aP⟩
set_option maxRecDepth 100000 in
theorem zH(os:Os)(started:os.Started)(H:Type)(enc:TypeId×Value->H)(F:Stop.Interp):
    ReturnsInHanded {} Tryz.checked os 7 .any ((OpenSpec.ofChange Rows.ssaStepsSpec).preRow enc Tryz.prog Tryz.f7 Rows.ssaStepsRow.domain false Rows.ssaStepsRow.laid) (((OpenSpec.ofChange Rows.ssaStepsSpec).at F).post enc Tryz.prog Tryz.f7 false true false false):=by
  obtain⟨places,hx⟩:=BR os enc;refine returnsInHanded_of_row (C:=Tryz.checked) (s:=OpenSpec.ofChange Rows.ssaStepsSpec) own started aP Tryz.func7
    (witness_row_at (enc:=enc) (C:=Tryz.checked) false (x_ os) zJ rfl aP aP aP
      (OpenSpec.preRow_of_cond 8 hx aP (λk hk=>by cases hk) aP (Qc os zJ))) ?_
  intro W base args ds gs before oy hW _ _ hz hL _ _;exact xk H enc W base args ds gs before oy hW hz hL
set_option maxRecDepth 100000 in
theorem CE:Rows.SsaStepsSaid:=
  OpenClaim.holds_of_cond 7 Tryz.f7 rfl rfl rfl rfl rfl rfl rfl ⟨rfl,rfl,rfl,rfl,rfl⟩ rfl rfl rfl rfl rfl aP Tryz.func7 aP
    (of_decide_eq_true aP) (by unfold Func.isWrapper;first|(rw[if_pos aq];kernel_rfl)|(rw[if_neg aq];exact⟨rfl,rfl⟩))
    (λos started H enc _ F=>by rw[OpenClaim.pre_eq_preRow];exact zH os started H enc F)
theorem BQ(f:FuncId)(fn:Func)(hf:Tryz.pinned.checked.prog.funcNamed "turnery/turnerylaw3.SsaSteps" =some f)(oY:Tryz.pinned.checked.prog.funcs[f]?=some fn):
    false=Tryz.pinned.checked.prog.looks []/\∀(j:Nat) t,fn.params[j]?=some t->Tryz.pinned.checked.prog.wantsStandIn t=false:=by
  obtain rfl:f=7:=be ((show Tryz.prog.funcNamed "turnery/turnerylaw3.SsaSteps" =some 7 by kernel_rfl).symm.trans hf)|>.symm
  obtain rfl:fn=Tryz.f7:=(be (Tryz.func7.symm.trans oY)).symm;refine⟨aP,λj t ht=>?_⟩;rw[Tryz.params7]at ht;have ht:=Array.mem_of_getElem? ht;simp only[List.mem_toArray,bJ,iI,or_false]at ht;rcases ht with rfl|rfl|rfl
  ·exact(show Tryz.prog.wantsStandIn 25=false by kernel_rfl)
  ·exact(show Tryz.prog.wantsStandIn 42=false by kernel_rfl)
  ·exact(show Tryz.prog.wantsStandIn 3=false by kernel_rfl)
theorem ssaSteps_card:Rows.SsaStepsCardSaid:=
  Claim7.holds_tied_plain_at .later [] _ _ _ _ CE (λ_ h=>by cases h) aP (λ_ h=>by cases h) ssaSteps_row_tie rfl ⟨rfl,rfl⟩ aP rfl BQ aP
end
end Go.Proofs.YthfhgolkafpmnaaGreatDoor

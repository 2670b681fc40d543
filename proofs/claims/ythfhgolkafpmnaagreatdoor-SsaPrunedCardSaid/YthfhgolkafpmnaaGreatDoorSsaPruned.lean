/- Proved: for every unit the law SsaPruned returns true, and its arguments read afterwards as before. -/
import Derived.Test.YthfhgolkafpmnaaGreatDoorGH
import Derived.Test.YthfhgolkafpmnaaGreatDoorMJ
namespace Go.Proofs.YthfhgolkafpmnaaGreatDoor
section
open Go Go.RowKit Go.ChangeShapes Go.WideShapes Go.ChangeAt
set_option maxRecDepth 100000 in
theorem ahh(H:Type)(enc:TypeId×Value->H)(W:World)(base:Nat)(args:Array Value)(ds gs:List (DataW H))(before:List MemPlace)
    (oy:∀(j:Nat) t v,Tryz.f4.params[j]?=some t->args[j]?=some v->Value.okWide Tryz.prog W .any base t v)
    (hW:DataW.Whole enc Tryz.prog Tryz.f4.params.toList Rows.ssaPrunedSpec.vars false W args.toList ds gs before)
    (hz:(DataW.weightsEach Tryz.prog (Tryz.f4.params.toList++[]) (ds++gs)).all (·<=reachBytes)=true) (hL:laidMetH Tryz.prog BZ W):
    Calls Tryz.prog 4 args W λe W'=>∃v,e=.returned v/\Rows.ssaPrunedSpec.post enc Tryz.prog Tryz.f4 false true false false W args v W':=by
  have Zh:gs=[]:=by
    obtain⟨p,q,_,hV,_⟩:=hW;exact(trodVars_none hV).1
  subst Zh;rw[cq,cq]at hz;refine Qf (ts:=[25]) (by rw[Tryz.params4]) rfl rfl (by intro t ht;simp only[List.mem_toArray,bJ,iI,or_false]at ht;rcases ht with rfl<;>exact⟨aP,of_decide_eq_true aP⟩) (λhl=>?_) hW (λp hp=>?_)
  ·match ds,hl with
   |[d0],_=>rfl
  ·obtain⟨u,g,fs,rfl,hg,hf⟩:=x4 (params:=Tryz.f4.params) rfl oy hp (Nb hz)
   exact ahq u g fs  W hg hf  (UH hL)
set_option maxRecDepth 100000 in
theorem aho(os:Os){H:Type}(enc:TypeId×Value->H):∃places,DataW.whole enc Tryz.prog ((x_ os).forCall (λ_ _=>0) ⟨#[],ov,[]⟩).memory Tryz.f4.params.toList Rows.ssaPrunedSpec.vars false ov.toList 8=some ([.agg [.nil,.nil]],[],places):=
  ⟨[],aP⟩
set_option maxRecDepth 100000 in
theorem ahm(os:Os)(started:os.Started)(H:Type)(enc:TypeId×Value->H)(F:Stop.Interp):
    ReturnsInHanded {} Tryz.checked os 4 .any ((OpenSpec.ofChange Rows.ssaPrunedSpec).preRow enc Tryz.prog Tryz.f4 Rows.ssaPrunedRow.domain false Rows.ssaPrunedRow.laid) (((OpenSpec.ofChange Rows.ssaPrunedSpec).at F).post enc Tryz.prog Tryz.f4 false true false false):=by
  obtain⟨places,hx⟩:=aho os enc;refine returnsInHanded_of_row (C:=Tryz.checked) (s:=OpenSpec.ofChange Rows.ssaPrunedSpec) own started aP Tryz.func4
    (witness_row_at (enc:=enc) (C:=Tryz.checked) false (x_ os) ov rfl aP aP aP
      (OpenSpec.preRow_of_cond 8 hx aP (λk hk=>by cases hk) aP (Qc os ov))) ?_
  intro W base args ds gs before oy hW _ _ hz hL _ _;exact ahh H enc W base args ds gs before oy hW hz hL
set_option maxRecDepth 100000 in
theorem ahr:Rows.SsaPrunedSaid:=
  OpenClaim.holds_of_cond 4 Tryz.f4 rfl rfl rfl rfl rfl rfl rfl ⟨rfl,rfl,rfl,rfl,rfl⟩ rfl rfl rfl rfl rfl aP Tryz.func4 aP
    (of_decide_eq_true aP) (by unfold Func.isWrapper;first|(rw[if_pos aq];kernel_rfl)|(rw[if_neg aq];exact⟨rfl,rfl⟩))
    (λos started H enc _ F=>by rw[OpenClaim.pre_eq_preRow];exact ahm os started H enc F)
theorem ahn(f:FuncId)(fn:Func)(hf:Tryz.pinned.checked.prog.funcNamed "turnery/turnerylaw3.SsaPruned" =some f)(oY:Tryz.pinned.checked.prog.funcs[f]?=some fn):
    false=Tryz.pinned.checked.prog.looks []/\∀(j:Nat) t,fn.params[j]?=some t->Tryz.pinned.checked.prog.wantsStandIn t=false:=by
  obtain rfl:f=4:=be ((show Tryz.prog.funcNamed "turnery/turnerylaw3.SsaPruned" =some 4 by kernel_rfl).symm.trans hf)|>.symm
  obtain rfl:fn=Tryz.f4:=(be (Tryz.func4.symm.trans oY)).symm;refine⟨aP,λj t ht=>?_⟩;rw[Tryz.params4]at ht;have ht:=Array.mem_of_getElem? ht;simp only[List.mem_toArray,bJ,iI,or_false]at ht;rcases ht with rfl
  ·exact(show Tryz.prog.wantsStandIn 25=false by kernel_rfl)
theorem ssaPruned_card:Rows.SsaPrunedCardSaid:=
  Claim7.holds_tied_plain_at .later [] _ _ _ _ ahr (λ_ h=>by cases h) aP (λ_ h=>by cases h) ssaPruned_row_tie rfl ⟨rfl,rfl⟩ aP rfl ahn aP
end
end Go.Proofs.YthfhgolkafpmnaaGreatDoor

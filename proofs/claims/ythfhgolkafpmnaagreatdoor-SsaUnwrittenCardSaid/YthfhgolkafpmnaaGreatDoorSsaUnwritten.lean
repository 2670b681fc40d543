/- Proved: for every slice of bytes the law SsaUnwritten returns true, and its argument reads afterwards as before. -/
import Derived.Test.YthfhgolkafpmnaaGreatDoorMJ
namespace Go.Proofs.YthfhgolkafpmnaaGreatDoor
section
open Go Go.RowKit Go.ChangeShapes Go.WideShapes Go.ChangeAt
set_option maxRecDepth 100000 in
theorem gl(H:Type)(enc:TypeId×Value->H)(W:World)(base:Nat)(args:Array Value)(ds gs:List (DataW H))(before:List MemPlace)
    (oy:∀(j:Nat) t v,Tryz.f6.params[j]?=some t->args[j]?=some v->Value.okWide Tryz.prog W .any base t v)
    (hW:DataW.Whole enc Tryz.prog Tryz.f6.params.toList Rows.ssaUnwrittenSpec.vars false W args.toList ds gs before)
    (hz:(DataW.weightsEach Tryz.prog (Tryz.f6.params.toList++[]) (ds++gs)).all (·<=reachBytes)=true) (hL:laidMetH Tryz.prog BZ W):
    Calls Tryz.prog 6 args W λe W'=>∃v,e=.returned v/\Rows.ssaUnwrittenSpec.post enc Tryz.prog Tryz.f6 false true false false W args v W':=by
  have Zh:gs=[]:=by
    obtain⟨p,q,_,hV,_⟩:=hW;exact(trodVars_none hV).1
  subst Zh;rw[cq,cq]at hz;refine Qf (ts:=[54]) (by rw[Tryz.params6]) rfl rfl (by intro t ht;simp only[List.mem_toArray,bJ,iI,or_false]at ht;rcases ht with rfl<;>exact⟨aP,of_decide_eq_true aP⟩) (λhl=>?_) hW (λp hp=>?_)
  ·match ds,hl with
   |[d0],_=>rfl
  ·obtain⟨a,c,l,rfl,hl⟩:=amm (params:=Tryz.f6.params) rfl oy hp (Nb hz)
   exact si a c l W hl (UH hL)
set_option maxRecDepth 100000 in
theorem sg(os:Os){H:Type}(enc:TypeId×Value->H):∃places,DataW.whole enc Tryz.prog ((x_ os).forCall (λ_ _=>0) ⟨#[],aln,[]⟩).memory Tryz.f6.params.toList Rows.ssaUnwrittenSpec.vars false aln.toList 8=some ([.nil],[],places):=
  ⟨[],aP⟩
set_option maxRecDepth 100000 in
theorem li(os:Os)(started:os.Started)(H:Type)(enc:TypeId×Value->H)(F:Stop.Interp):
    ReturnsInHanded {} Tryz.checked os 6 .any ((OpenSpec.ofChange Rows.ssaUnwrittenSpec).preRow enc Tryz.prog Tryz.f6 Rows.ssaUnwrittenRow.domain false Rows.ssaUnwrittenRow.laid) (((OpenSpec.ofChange Rows.ssaUnwrittenSpec).at F).post enc Tryz.prog Tryz.f6 false true false false):=by
  obtain⟨places,hx⟩:=sg os enc;refine returnsInHanded_of_row (C:=Tryz.checked) (s:=OpenSpec.ofChange Rows.ssaUnwrittenSpec) own started aP Tryz.func6
    (witness_row_at (enc:=enc) (C:=Tryz.checked) false (x_ os) aln rfl aP aP aP
      (OpenSpec.preRow_of_cond 8 hx aP (λk hk=>by cases hk) aP (Qc os aln))) ?_
  intro W base args ds gs before oy hW _ _ hz hL _ _;exact gl H enc W base args ds gs before oy hW hz hL
set_option maxRecDepth 100000 in
theorem y2:Rows.SsaUnwrittenSaid:=
  OpenClaim.holds_of_cond 6 Tryz.f6 rfl rfl rfl rfl rfl rfl rfl ⟨rfl,rfl,rfl,rfl,rfl⟩ rfl rfl rfl rfl rfl aP Tryz.func6 aP
    (of_decide_eq_true aP) (by unfold Func.isWrapper;first|(rw[if_pos aq];kernel_rfl)|(rw[if_neg aq];exact⟨rfl,rfl⟩))
    (λos started H enc _ F=>by rw[OpenClaim.pre_eq_preRow];exact li os started H enc F)
theorem sf(f:FuncId)(fn:Func)(hf:Tryz.pinned.checked.prog.funcNamed "turnery/turnerylaw3.SsaUnwritten" =some f)(oY:Tryz.pinned.checked.prog.funcs[f]?=some fn):
    false=Tryz.pinned.checked.prog.looks []/\∀(j:Nat) t,fn.params[j]?=some t->Tryz.pinned.checked.prog.wantsStandIn t=false:=by
  obtain rfl:f=6:=be ((show Tryz.prog.funcNamed "turnery/turnerylaw3.SsaUnwritten" =some 6 by kernel_rfl).symm.trans hf)|>.symm
  obtain rfl:fn=Tryz.f6:=(be (Tryz.func6.symm.trans oY)).symm;refine⟨aP,λj t ht=>?_⟩;rw[Tryz.params6]at ht;have ht:=Array.mem_of_getElem? ht;simp only[List.mem_toArray,bJ,iI,or_false]at ht;rcases ht with rfl
  ·exact(show Tryz.prog.wantsStandIn 54=false by kernel_rfl)
theorem ssaUnwritten_card:Rows.SsaUnwrittenCardSaid:=
  Claim7.holds_tied_plain_at .later [] _ _ _ _ y2 (λ_ h=>by cases h) aP (λ_ h=>by cases h) ssaUnwritten_row_tie rfl ⟨rfl,rfl⟩ aP rfl sf aP
end
end Go.Proofs.YthfhgolkafpmnaaGreatDoor

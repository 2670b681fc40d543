/- Proved: for every unit the law SsaSays returns true, and its arguments read afterwards as before. -/
import Derived.Test.YthfhgolkafpmnaaGreatDoorNF
namespace Go.Proofs.YthfhgolkafpmnaaGreatDoor
open Go Go.RowKit Go.ChangeAt Go.WideShapes Go.ChangeShapes
set_option maxRecDepth 100000 in
theorem CN(H:Type)(enc:TypeId×Value->H)(dO:World)(base:Nat)(args:Array Value)(ds gs:List (DataW H))(before:List MemPlace)
    (pu:∀(j:Nat) t v,Tryz.f3.params[j]?=some t->args[j]?=some v->Value.okWide Tryz.prog dO .any base t v)
    (hW:DataW.Whole enc Tryz.prog Tryz.f3.params.toList Rows.ssaSaysSpec.vars false dO args.toList ds gs before)
    (hz:(DataW.weightsEach Tryz.prog (Tryz.f3.params.toList++[]) (ds++gs)).all (·<=reachBytes)=true) (hL:laidMetH Tryz.prog FV dO):
    Calls Tryz.prog 3 args dO λe W'=>∃v,e=.returned v/\Rows.ssaSaysSpec.post enc Tryz.prog Tryz.f3 false true false false dO args v W':=by
  have hgs:gs=[]:=by
    obtain⟨p,q,_,hV,_⟩:=hW;exact(trodVars_none hV).1
  subst hgs;rw[cj,cj]at hz;refine VP (ts:=[25]) (by rw[Tryz.params3]) rfl rfl (by intro t ht;simp only[List.mem_toArray,bX,gr,or_false]at ht;rcases ht with rfl<;>exact⟨bC,iG bC⟩) (λhl=>?_) hW (λp hp=>?_)
  ·match ds,hl with
   |[d0],_=>rfl
  ·obtain⟨u,g,fs,rfl,hg,hf⟩:=ade (params:=Tryz.f3.params) rfl pu hp (Sc hz)
   exact Jk u g fs  dO hg hf  (aac hL)
set_option maxRecDepth 100000 in
theorem Gz(os:Os){H:Type}(enc:TypeId×Value->H):∃places,DataW.whole enc Tryz.prog ((CF os).forCall (λ_ _=>0) ⟨#[],OR,[]⟩).memory Tryz.f3.params.toList Rows.ssaSaysSpec.vars false OR.toList 8=some ([.agg [.nil,.nil]],[],places):=
  ⟨[],bC⟩
set_option maxRecDepth 100000 in
theorem FM(os:Os)(started:os.Started)(H:Type)(enc:TypeId×Value->H)(F:Stop.Interp):
    ReturnsInHanded {} Tryz.checked os 3 .any ((OpenSpec.ofChange Rows.ssaSaysSpec).preRow enc Tryz.prog Tryz.f3 Rows.ssaSaysRow.domain false Rows.ssaSaysRow.laid) (((OpenSpec.ofChange Rows.ssaSaysSpec).at F).post enc Tryz.prog Tryz.f3 false true false false):=by
  obtain⟨places,hx⟩:=Gz os enc;refine returnsInHanded_of_row (C:=Tryz.checked) (s:=OpenSpec.ofChange Rows.ssaSaysSpec) own started bC Tryz.func3
    (witness_row_at (enc:=enc) (C:=Tryz.checked) false (CF os) OR rfl bC bC bC
      (OpenSpec.preRow_of_cond 8 hx bC (λk hk=>by cases hk) bC (VN os OR))) ?_
  intro dO base args ds gs before pu hW _ _ hz hL _ _;exact CN H enc dO base args ds gs before pu hW hz hL
set_option maxRecDepth 100000 in
theorem Jl:Rows.SsaSaysSaid:=
  OpenClaim.holds_of_cond 3 Tryz.f3 rfl rfl rfl rfl rfl rfl rfl ⟨rfl,rfl,rfl,rfl,rfl⟩ rfl rfl rfl rfl rfl bC Tryz.func3 bC
    (iG bC) (by unfold Func.isWrapper;first|(rw[al E];kernel_rfl)|(rw[ai E];exact⟨rfl,rfl⟩))
    (λos started H enc _ F=>by rw[OpenClaim.pre_eq_preRow];exact FM os started H enc F)
theorem Gy(f:FuncId)(fn:Func)(hf:Tryz.pinned.checked.prog.funcNamed "turnery/turnerylaw3.SsaSays" =some f)(ve:Tryz.pinned.checked.prog.funcs[f]?=some fn):
    false=Tryz.pinned.checked.prog.looks []/\∀(j:Nat) t,fn.params[j]?=some t->Tryz.pinned.checked.prog.wantsStandIn t=false:=by
  obtain rfl:f=3:=bJ ((show Tryz.prog.funcNamed "turnery/turnerylaw3.SsaSays" =some 3 by kernel_rfl).symm.trans hf)|>.symm
  obtain rfl:fn=Tryz.f3:=(bJ (Tryz.func3.symm.trans ve)).symm;refine⟨bC,λj t ht=>?_⟩;rw[Tryz.params3]at ht;have ht:=Array.mem_of_getElem? ht;simp only[List.mem_toArray,bX,gr,or_false]at ht;rcases ht with rfl
  ·exact(show Tryz.prog.wantsStandIn 25=false by kernel_rfl)
theorem ssaSays_card:Rows.SsaSaysCardSaid:=
  Claim7.holds_tied_plain_at .later [] _ _ _ _ Jl (λ_ h=>by cases h) bC (λ_ h=>by cases h) ssaSays_row_tie rfl ⟨rfl,rfl⟩ bC rfl Gy bC
end Go.Proofs.YthfhgolkafpmnaaGreatDoor

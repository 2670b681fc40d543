/- Proved: for every unit, input and number of steps the law SsaMeans returns true, and its arguments read afterwards as before. -/
import Derived.Test.YthfhgolkafpmnaaGreatDoorND
namespace Go.Proofs.YthfhgolkafpmnaaGreatDoor
open Go.IntKind renaming i64->O
open Option renaming some->Z
open Go renaming Value->V,World->C
open Go.Proofs.Tryz
open Go.Proofs.Tryz renaming prog->ae
open Go Go.RowKit Go.ChangeAt Go.WideShapes Go.ChangeShapes
set_option maxRecDepth 100000 in
theorem zE(H:Type)(enc:TypeId×V->H)(W:C)(base:Nat)(args:Array V)(ds gs:List (DataW H))(before:List MemPlace)
    (qh:∀(j:Nat) t v,f8.params[j]?=Z t->args[j]?=Z v->Value.okWide ae W .any base t v)
    (hW:DataW.Whole enc ae f8.params.toList Rows.ssaMeansSpec.vars false W args.toList ds gs before)
    (hz:(DataW.weightsEach ae (f8.params.toList++[]) (ds++gs)).all (·<=reachBytes)=true) (hL:laidMetH ae Ee W):
    Calls ae 8 args W λe W'=>∃v,e=.returned v/\Rows.ssaMeansSpec.post enc ae f8 false true false false W args v W':=by
  have hgs:gs=[]:=by
    obtain⟨p,q,_,hV,_⟩:=hW;exact(trodVars_none hV).1
  subst hgs;rw[cD,cD]at hz;refine TM (ts:=[25,42,3]) (by rw[params8]) rfl rfl (by intro t ht;simp only[List.mem_toArray,bD,h_,or_false]at ht;rcases ht with rfl|rfl|rfl<;>exact⟨aR,of_decide_eq_true aR⟩) (λhl=>?_) hW (λp hp=>?_)
  ·match ds,hl with
   |[d0,d1,d2],_=>rfl
  ·obtain⟨u,g,fs,v1,l1,k2,rfl,hg,hf,Je,C6⟩:=Ur (params:=f8.params) rfl qh hp (QD hz)
   exact ER u l1 k2 C6 g fs v1 W hg hf Je (YJ hL)
set_option maxRecDepth 100000 in
theorem D5(os:Os){H:Type}(enc:TypeId×V->H):∃places,DataW.whole enc ae ((Au os).forCall (λ_ _=>0) ⟨#[],BQ,[]⟩).memory f8.params.toList Rows.ssaMeansSpec.vars false BQ.toList 8=Z ([.agg [.nil,.nil],.nil,.lit (.int O 0)],[],places):=
  ⟨[],aR⟩
set_option maxRecDepth 100000 in
theorem BO(os:Os)(started:os.Started)(H:Type)(enc:TypeId×V->H)(F:Stop.Interp):
    ReturnsInHanded {} checked os 8 .any ((OpenSpec.ofChange Rows.ssaMeansSpec).preRow enc ae f8 Rows.ssaMeansRow.domain false Rows.ssaMeansRow.laid) (((OpenSpec.ofChange Rows.ssaMeansSpec).at F).post enc ae f8 false true false false):=by
  obtain⟨places,hx⟩:=D5 os enc;refine returnsInHanded_of_row (C:=checked) (s:=OpenSpec.ofChange Rows.ssaMeansSpec) own started aR func8
    (witness_row_at (enc:=enc) (C:=checked) false (Au os) BQ rfl aR aR aR
      (OpenSpec.preRow_of_cond 8 hx aR (λk hk=>by cases hk) aR (TJ os BQ))) ?_
  intro W base args ds gs before qh hW _ _ hz hL _ _;exact zE H enc W base args ds gs before qh hW hz hL
set_option maxRecDepth 100000 in
theorem ES:Rows.SsaMeansSaid:=
  OpenClaim.holds_of_cond 8 f8 rfl rfl rfl rfl rfl rfl rfl ⟨rfl,rfl,rfl,rfl,rfl⟩ rfl rfl rfl rfl rfl aR func8 aR
    (of_decide_eq_true aR) (by unfold Func.isWrapper;first|(rw[if_pos ai];kernel_rfl)|(rw[if_neg ai];exact⟨rfl,rfl⟩))
    (λos started H enc _ F=>by rw[OpenClaim.pre_eq_preRow];exact BO os started H enc F)
theorem D4(f:FuncId)(fn:Func)(hf:Tryz.pinned.checked.prog.funcNamed "turnery/turnerylaw3.SsaMeans" =Z f)(qq:Tryz.pinned.checked.prog.funcs[f]?=Z fn):
    false=Tryz.pinned.checked.prog.looks []/\∀(j:Nat) t,fn.params[j]?=Z t->Tryz.pinned.checked.prog.wantsStandIn t=false:=by
  obtain rfl:f=8:=a7 ((show Tryz.prog.funcNamed "turnery/turnerylaw3.SsaMeans" =Z 8 by kernel_rfl).symm.trans hf)|>.symm
  obtain rfl:fn=f8:=(a7 (func8.symm.trans qq)).symm;refine⟨aR,λj t ht=>?_⟩;rw[params8]at ht;have ht:=Array.mem_of_getElem? ht;simp only[List.mem_toArray,bD,h_,or_false]at ht;rcases ht with rfl|rfl|rfl
  ·exact(show Tryz.prog.wantsStandIn 25=false by kernel_rfl)
  ·exact(show Tryz.prog.wantsStandIn 42=false by kernel_rfl)
  ·exact(show Tryz.prog.wantsStandIn 3=false by kernel_rfl)
theorem ssaMeans_card:Rows.SsaMeansCardSaid:=
  Claim7.holds_tied_plain_at .later [] _ _ _ _ ES (λ_ h=>by cases h) aR (λ_ h=>by cases h) ssaMeans_row_tie rfl ⟨rfl,rfl⟩ aR rfl D4 aR
end Go.Proofs.YthfhgolkafpmnaaGreatDoor

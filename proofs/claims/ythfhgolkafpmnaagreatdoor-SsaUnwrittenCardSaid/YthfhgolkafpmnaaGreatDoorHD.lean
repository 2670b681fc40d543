/- Texts joined: RunE RunF RunG RunH Grow RunS. -/
import Derived.Test.YthfhgolkafpmnaaGreatDoorGD
import Derived.Test.YthfhgolkafpmnaaGreatDoorGM
import Derived.Test.YthfhgolkafpmnaaGreatDoorHA
import Derived.Test.YthfhgolkafpmnaaGreatDoorHC
namespace Go.Proofs.YthfhgolkafpmnaaGreatDoor
section
open Go Go.RowKit
set_option maxHeartbeats 2000000
section
variable {P:Program} {N:Nat} {ds:List Deferred} {S:Nat->Prop} {w0 w:World} {L:List (Nat×Value)} {H Hr:List bN} {x y:Operand} {M:Act->World->Prop} {l:List Oper} {bE:Nat} {listed:Array Bool}
theorem EI{d ty T e jZ n:Nat}{z1 z2:Int}{z:Value}{pos:String}{aft:Array Go.Edge}(i0:Nat)[ho:dm l i0 ⟨some d,.makeSlice T x y,ty,pos,aft,none⟩][h:cB P T e 1 jZ [z]][hx:Ev L x (.int .i64 z1)][E9:ky z1 n][hy:Ev L y (.int .i64 z2)][Ml:ky z2 n](hd:dj d N L=true)(hb:jZ*n<=281474976710656)(hm:n<=140737488355328)(hH:Hr.Sublist H)
  (k:∀b,w0.heap.size<=b->G N ds S w0 ((d,.slice (some ⟨b,0,none⟩) n n)::L) (ai (some ⟨b,0,none⟩) n n e 1 (List.replicate n z)::H) (wpAnyH P .any l.toArray (dy M) (Wd S w0 Hr) bE (listed.setIfInBounds i0 true))):G N ds S w0 L H (gX P l M (Wd S w0 Hr) bE listed i0):=
 vT i0 rfl λa w hS=>by
  obtain⟨i,zz,hi,PU,fZ,h1,h2⟩:=h.get;have h3:=hx.eq _ _ _ hS.fr;have h4:=hy.eq _ _ _ hS.fr;rw[E9.eq]at h3;rw[Ml.eq]at h4;have OM:(i.bytes:Int)*(n:Int)<=281474976710656:=by
   have e:((jZ*n:Nat):Int)<=281474976710656:=ag;rw[Int.natCast_mul]at e;rw[h2];exact e
  have hr:=run_make (P:=P) w T e i zz h.oI hi PU .i64 .i64 (n:Int) (n:Int) ag (Int.le_refl _) OM ag;have mM:madeCells zz.cells ((n:Int).toNat*i.size)=(List.replicate n z).toArray:=by
   have:=nD [z] n;rw[h1,fZ,dD];simp only[jL]at this;rw[show(List.replicate n [z]).flatten=List.replicate n z by simp]at this;rw[<-this]
  have hv:=hS.wd.we e 1 n (List.replicate n z) (by rw[ef,fB]) (by unfold maxLen;omega);refine⟨.slice (some ⟨w.heap.size,0,none⟩) n n,w.alloc (.cells (List.replicate n z).toArray e),?_,hv.sub (hH.trans (dZ _ _)),k _ hS.wd.size _ _ ⟨hS.fr.dP hd _,hv⟩⟩;simp only[dD]at hr mM;simp[execOp,h3,h4,hr,mM]
end
structure ww(u:a7):Prop where
 ti:u.globals.length<=10
 FV:∀g∈u.globals,(g.init.length:Int)<=g.size/\g.size<=200
 init:∀g∈u.globals,∀x∈g.init,c9 x
 funcs:u.funcs.length<=10
 main:∃(fm:Nat) (M:aZ),cZ u.funcs=fm/\u.funcs[fm]?=some M
theorem Bh{l:List iY}(h:∀g∈l,(g.init.length:Int)<=g.size/\g.size<=200):(se l).length<=200*l.length:=by
 induction l with
 |nil=>simp[se]
 |cons g l ih=>
  have h1:=h g aH;have h2:=ih λx hx=>h x (cJ _ hx);simp only[se,gx,bR,ef,ie]at h2⊢;omega
theorem KC{l:List iY}(h:∀g∈l,∀x∈g.init,c9 x):∀x∈se l,c9 x:=λx hx=>by
 obtain⟨g,hg,hx⟩:=du.1 hx;rcases bL.1 hx with h1|h1
 ·exact h g hg x h1
 ·rw[jI h1];simp[c9]
theorem start_eq{u:a7}{fm R:Nat}{M:aZ}(hm:cZ u.funcs=fm)(hM:u.funcs[fm]?=some M)(hR:M.aF=R)(cX:List Int):iU u cX=⟨se u.globals,cX,[],0,[],⟨fm,0,0,ek R [],-1⟩,bump (u.funcs.map λX=>List.replicate X.blocks.length 0) fm 0⟩:=by
 unfold iU;simp only[hm,dD,hM,hR];simp[ek]
theorem tS{u:a7}(hu:iZ u)(hs:ww u){cX:List Int}(mO:∀x∈cX,c9 x):ij u 1 (iU u cX):=by
 obtain⟨fm,M,hm,hM⟩:=hs.main;obtain⟨R,fW⟩:=hu.2 fm M hM;rw[start_eq hm hM fW.aF];refine⟨⟨M,R,⟨hM,fW,u4 _ _,fW.pos,CV aH,by simp[c9],λ_ _=>aY _⟩⟩,by simp,?_,Aj (c:=0) ⟨by simp,λk X hX=>⟨_,by rw[aK,hX];rfl,by simp,λx hx=>by rw[jI hx];exact bH _⟩⟩ _ _,by simp,by simp,⟨?_,KC hs.init⟩,mO⟩
 ·intro i p q h1 h2
  simp at h1 h2
 ·have:=Bh hs.FV
  have h9:=hs.ti;show(se u.globals).length<=100000;omega
end
end Go.Proofs.YthfhgolkafpmnaaGreatDoor

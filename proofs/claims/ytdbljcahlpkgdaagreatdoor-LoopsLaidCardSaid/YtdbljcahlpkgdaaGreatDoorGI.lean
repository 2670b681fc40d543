/- Texts joined: LiveD HeldB LiveF LiveE LiveG LiveH LiveI LiveJ. -/
import Derived.Test.YtdbljcahlpkgdaaGreatDoorGD
import Derived.Test.YtdbljcahlpkgdaaGreatDoorGE
import Derived.Test.YtdbljcahlpkgdaaGreatDoorGF
namespace Go.Proofs.YtdbljcahlpkgdaaGreatDoor
open Go Go.RowKit
attribute [local irreducible] wpListIn Code.wpIn Exit.then Exit.inBlock bodyPost wpQuiet wpAnyIn bodyPostM
set_option maxHeartbeats 4000000
theorem list_pick {α β : Type} {p : Nat→α→β→Prop} : ∀ (l : List α),(∀ i x,l[i]? = some x→∃ y,p i x y)→∃ ys : List β,ys.length = l.length∧∀ i x,l[i]? = some x→∃ y,ys[i]? = some y∧p i x y:=by
 intro l h
 classical
 refine ⟨(List.range l.length).attach.map fun i=>Classical.choose (h i.1 (l[i.1]'(by have:=i.2; simpa using this)) (List.getElem?_eq_getElem _)),by simp,fun i x hx=>?_⟩
 have hlt:=(List.getElem?_eq_some_iff.1 hx).1
 have hx2:=(List.getElem?_eq_some_iff.1 hx).2
 refine ⟨_,by rw [List.getElem?_eq_getElem (by simpa using hlt)],?_⟩
 simp only [List.getElem_map,List.getElem_attach,List.getElem_range]
 have:=Classical.choose_spec (h i (l[i]'hlt) (List.getElem?_eq_getElem _))
 simpa [hx2] using this
end Go.Proofs.YtdbljcahlpkgdaaGreatDoor
namespace Go.Proofs.YtdbljcahlpkgdaaGreatDoor
open Go Go.RowKit
section
variable {P : Program} {N : Nat} {ds : List Deferred} {S : Nat→Prop} {w0 : World} {L L' : List (Nat × Value)} {H H' Hr : List Ent} {Q : Exit→Act→World→Prop} {x y : Operand} {M : Act→World→Prop} {l : List Oper} {fuel : Nat} {listed : Array Bool}
theorem h_call {d ty f : Nat} (i : Nat) {args : List Operand} {vs : List Value} {tys : Array Nat} {pos : String} {aft : Array Go.Edge} (R : World→Value→World→Prop) [ho : ListAt l i ⟨some d,.call { callee:=.value (.func f),args:=args.toArray,argTypes:=tys },ty,pos,aft,none⟩] [h : EnterOk P f] [hx : Evs L args vs] (hd : okPut d N L = true)
  (hr : decide (Region.ready .any l.toArray listed = [i]) = true)
  (hc : ∀ w,Wd S w0 H w→Ret P f vs w (R w))
  (k : ∀ v w w',Wd S w0 H w→R w v w'→Wd S w0 Hr w'∧∀ a,Fr N ds ((d,v)::L) a→wpAnyH P .any l.toArray (OnlyN M) (Wd S w0 Hr) fuel (listed.setIfInBounds i true) a w') : G N ds S w0 L H (wpAnyH P .any l.toArray (OnlyN M) (Wd S w0 Hr) (fuel + 1) listed):=by
 intro a w hS
 refine wpAnyH_all (of_decide_eq_true hr) (by simp) fun i' hi'=>?_
 simp only [List.mem_singleton] at hi'
 subst hi'
 unfold wpOp
 rw [show l.toArray[i']? = some ⟨some d,.call { callee:=.value (.func f),args:=args.toArray,argTypes:=tys },ty,pos,aft,none⟩ by simpa using ho.at']
 simp only
 rw [if_pos (show Region.wanted (⟨some d,.call { callee:=.value (.func f),args:=args.toArray,argTypes:=tys },ty,pos,aft,none⟩ : Oper) (yielded l.toArray a.tmps) = true from rfl)]
 left
 unfold Oper.wp
 have hrun : (execOp a.eval ⟨some d,.call { callee:=.value (.func f),args:=args.toArray,argTypes:=tys },ty,pos,aft,none⟩).run P w = .ok (.enter f vs.toArray) w:=by
  simp [execOp,resolve,Act.eval,Deferred.ofValue,invoke,hx.eq _ _ _ hS.fr,h.run]
 rw [hrun]
 refine Calls.mono (callsIn_wide.1 (hc w hS.wd)) fun e w' ⟨v,he,hR⟩=>?_
 subst he
 obtain ⟨h1,h2⟩:=k v w w' hS.wd hR
 exact ⟨h1,h2 _ (hS.fr.putOk hd v)⟩
theorem h_callE {α : Type} {val : α→Value} {E : α→List Ent} {φ : α→Prop} {d ty f : Nat} (i : Nat) {args : List Operand} {vs : List Value} {tys : Array Nat} {pos : String} {aft : Array Go.Edge} [ho : ListAt l i ⟨some d,.call { callee:=.value (.func f),args:=args.toArray,argTypes:=tys },ty,pos,aft,none⟩] [h : EnterOk P f] [hx : Evs L args vs] (hd : okPut d N L = true)
  (hr : decide (Region.ready .any l.toArray listed = [i]) = true) (hH : Hr.Sublist H)
  (hc : ∀ w,Wd S w0 H w→Ret P f vs w fun u w'=>∃ x,u = val x∧Wd NoS w (E x) w'∧φ x)
  (k : ∀ x,φ x→G N ds S w0 ((d,val x)::L) (E x++H) (wpAnyH P .any l.toArray (OnlyN M) (Wd S w0 Hr) fuel (listed.setIfInBounds i true))) : G N ds S w0 L H (wpAnyH P .any l.toArray (OnlyN M) (Wd S w0 Hr) (fuel + 1) listed) :=
 h_call i (fun _ u w'=>∃ x,u = val x∧Wd S w0 (E x++H) w'∧φ x) hd hr (fun w hw=>(hc w hw).mono fun v w' ⟨x,h1,h2,h3⟩=>⟨x,h1,hw.more h2,h3⟩) fun v w w' hw hR=>by
  obtain ⟨x,rfl,h2,h3⟩:=hR
  exact ⟨h2.sub (hH.trans (List.sublist_append_right _ _)),fun a hF=>k x h3 a w' ⟨hF,h2⟩⟩
theorem h_callS {α : Type} {val : α→Value} {E : α→List Ent} {φ : α→Prop} {H1 H2 : List Ent} {d ty f : Nat} (i : Nat) {args : List Operand} {vs : List Value} {tys : Array Nat} {pos : String} {aft : Array Go.Edge} [ho : ListAt l i ⟨some d,.call { callee:=.value (.func f),args:=args.toArray,argTypes:=tys },ty,pos,aft,none⟩] [h : EnterOk P f] [hx : Evs L args vs] (hd : okPut d N L = true)
  (hr : decide (Region.ready .any l.toArray listed = [i]) = true) (hH : Hr.Sublist H2)
  (hc : ∀ w,Wd S w0 (H1++H2) w→Ret P f vs w fun u w'=>∃ x,u = val x∧Wd (fps H1) w (E x) w'∧φ x)
  (k : ∀ x,φ x→G N ds S w0 ((d,val x)::L) (E x++H2) (wpAnyH P .any l.toArray (OnlyN M) (Wd S w0 Hr) fuel (listed.setIfInBounds i true))) : G N ds S w0 L (H1++H2) (wpAnyH P .any l.toArray (OnlyN M) (Wd S w0 Hr) (fuel + 1) listed) :=
 h_call i (fun _ u w'=>∃ x,u = val x∧Wd S w0 (E x++H2) w'∧φ x) hd hr (fun w hw=>(hc w hw).mono fun v w' ⟨x,h1,h2,h3⟩=>⟨x,h1,hw.comp h2,h3⟩) fun v w w' hw hR=>by
  obtain ⟨x,rfl,h2,h3⟩:=hR
  exact ⟨h2.sub (hH.trans (List.sublist_append_right _ _)),fun a hF=>k x h3 a w' ⟨hF,h2⟩⟩
theorem h_skip {o : Oper} (i : Nat) [ho : ListAt l i o] (hg : o.guard = none) (hr : decide (Region.ready .any l.toArray listed = [i]) = true)
  (k : ∀ a w,St N ds S w0 L H a w→∃ w',(execOp a.eval o).run P w = .ok .skip w'∧Wd S w0 Hr w'∧wpAnyH P .any l.toArray (OnlyN M) (Wd S w0 Hr) fuel (listed.setIfInBounds i true) (a.put o.dst undef) w') : G N ds S w0 L H (wpAnyH P .any l.toArray (OnlyN M) (Wd S w0 Hr) (fuel + 1) listed):=by
 intro a w hS
 obtain ⟨w',h1,h2,h3⟩:=k a w hS
 refine wpAnyH_all (of_decide_eq_true hr) (by simp) fun i' hi'=>?_
 simp only [List.mem_singleton] at hi'
 subst hi'
 unfold wpOp
 rw [show l.toArray[i']? = some o by simpa using ho.at']
 simp only
 rw [if_pos (show Region.wanted o (yielded l.toArray a.tmps) = true by simp [Region.wanted,hg])]
 left
 unfold Oper.wp
 rw [h1]
 exact ⟨h2,h3⟩
theorem h_val {o : Oper} (i : Nat) [ho : ListAt l i o] (hg : o.guard = none) (hr : decide (Region.ready .any l.toArray listed = [i]) = true)
  (k : ∀ a w,St N ds S w0 L H a w→∃ v w',(execOp a.eval o).run P w = .ok (.value v) w'∧Wd S w0 Hr w'∧wpAnyH P .any l.toArray (OnlyN M) (Wd S w0 Hr) fuel (listed.setIfInBounds i true) (a.put o.dst v) w') : G N ds S w0 L H (wpAnyH P .any l.toArray (OnlyN M) (Wd S w0 Hr) (fuel + 1) listed):=by
 intro a w hS
 obtain ⟨v,w',h1,h2,h3⟩:=k a w hS
 refine wpAnyH_all (of_decide_eq_true hr) (by simp) fun i' hi'=>?_
 simp only [List.mem_singleton] at hi'
 subst hi'
 unfold wpOp
 rw [show l.toArray[i']? = some o by simpa using ho.at']
 simp only
 rw [if_pos (show Region.wanted o (yielded l.toArray a.tmps) = true by simp [Region.wanted,hg])]
 left
 unfold Oper.wp
 rw [h1]
 exact ⟨h2,h3⟩
theorem h_store {ty T b o j t : Nat} (i : Nat) [h : OneCell P T] {cs cs' : List Value} {v : Value} {pos : String} {aft : Array Go.Edge} [ho : ListAt l i ⟨none,.store T x y,ty,pos,aft,none⟩]
  [hx : Ev L x (.pointer (some ⟨b,o,none⟩))] [hy : Ev L y v] [h1 : OneV v] [hb : BoxIn H b j cs t] {u : Value} [hu : ListAt cs o u] [hs : SetAt cs o v cs'] [hH : SetAt H j (Ent.box b cs' t) H']
  (hr : decide (Region.ready .any l.toArray listed = [i]) = true) (hHr : Hr.Sublist H')
  (kk : G N ds S w0 L H' (wpAnyH P .any l.toArray (OnlyN M) (Wd S w0 Hr) fuel (listed.setIfInBounds i true))) : G N ds S w0 L H (wpAnyH P .any l.toArray (OnlyN M) (Wd S w0 Hr) (fuel + 1) listed):=by
 refine h_skip i rfl hr fun a w hS=>?_
 have hbx:=hS.wd.boxAt j hb.at'
 have:=run_storeOne (P:=P) (T:=T) h1.one (hS.wd.cellBox j hb.at' hu.at') (by simp [World.frozen?,hbx])
 have hw':=hS.wd.setBox j (o:=o) v hb.at'
 rw [hs.set',hH.set'] at hw'
 exact ⟨w.setCell ⟨b,o,none⟩ v,by simp [execOp,hx.eq _ _ _ hS.fr,hy.eq _ _ _ hS.fr,this],hw'.sub hHr,kk _ _ ⟨hS.fr,hw'⟩⟩
theorem h_storeAgg {ty T b o j t n : Nat} (i : Nat) [h : AggSize P T n] {cs vs cs' : List Value} {pos : String} {aft : Array Go.Edge} [ho : ListAt l i ⟨none,.store T x y,ty,pos,aft,none⟩]
  [hx : Ev L x (.pointer (some ⟨b,o,none⟩))] [hy : Ev L y (.agg vs.toArray)] [hb : BoxIn H b j cs t] [hn : LenIs vs n] [hp : PutAt cs o vs cs'] [h1 : OneVs vs] [hH : SetAt H j (Ent.box b cs' t) H']
  (hr : decide (Region.ready .any l.toArray listed = [i]) = true) (hHr : Hr.Sublist H')
  (kk : G N ds S w0 L H' (wpAnyH P .any l.toArray (OnlyN M) (Wd S w0 Hr) fuel (listed.setIfInBounds i true))) : G N ds S w0 L H (wpAnyH P .any l.toArray (OnlyN M) (Wd S w0 Hr) (fuel + 1) listed):=by
 refine h_skip i rfl hr fun a w hS=>?_
 have hbx:=hS.wd.boxAt j hb.at'
 have hs:=run_storeCells_at P b o t vs 0 cs.toArray w hbx (by simpa using hp.le) h1.all
 have e : (cs.toArray.toList.take (o + 0)++vs++cs.toArray.toList.drop (o + 0 + vs.length)).toArray = cs'.toArray:=by
  rw [← hp.eq,← putL_eq cs o vs hp.le]
  simp
 rw [e] at hs
 have hw':=hS.wd.rowBox j cs' hb.at'
 rw [hH.set'] at hw'
 exact ⟨w.setRow b cs'.toArray,by simp [execOp,hx.eq _ _ _ hS.fr,hy.eq _ _ _ hS.fr,Instr.storeAt,Instr.sureAddr,storeVar,h.sz,Value.cells,hn.eq,hs],hw'.sub hHr,kk _ _ ⟨hS.fr,hw'⟩⟩
theorem h_end (hr : (Region.ready .any l.toArray listed).isEmpty = true) (k : G N ds S w0 L H M) : G N ds S w0 L H (wpAnyH P .any l.toArray (OnlyN M) (Wd S w0 Hr) fuel listed):=fun a w hS=>wpAnyH_done (List.isEmpty_iff.1 hr) (k a w hS) _
end
end Go.Proofs.YtdbljcahlpkgdaaGreatDoor
namespace Go.Proofs.YtdbljcahlpkgdaaGreatDoor
open Go Go.RowKit
attribute [local irreducible] wpListIn Code.wpIn Exit.then Exit.inBlock bodyPost wpQuiet wpAnyIn
set_option maxHeartbeats 4000000
theorem refAhead_c (nm pa re : Value) (bl : List LBlock) (bs : Value) (t : Nat) (w0 : World) (hbs : SlAt w0 bs 6 bl BlockV) (hlen : bl.length ≤ 100) :
  Ret Tryz.prog 33 [.agg #[nm,pa,re,bs],.int .i64 t] w0 fun u w'=>∃ x : Option Addr × Nat,u = .slice x.1 (preds bl t).length x.2∧Wd NoS w0 [Ent.vec x.1 (preds bl t).length x.2 3 1 ((preds bl t).map intN)] w'∧True:=by
 obtain ⟨ba,n,bc,bb,bo',rfl,hn,hnc,hnb,hbc,hba,hel⟩:=hbs
 refine ret_enter Tryz.func33 rfl Tryz.ntmps33 rfl (Wd.nil NoS w0) ?_
 repeat (first|refine g_op rfl ?_|refine g_then ?_|refine g_nil ?_|refine g_region ?_|refine g_seq ?_|refine g_box rfl fun _ _=>?_|refine g_block ?_)
 rename_i p2 _
 refine g_nilVec 3 1 ?_
 refine g_loop (fun (x : Nat × Option Addr × Nat × List Nat)=>x.1 ≤ n∧x.2.2.2 = (List.range x.1).filter fun i=>decide ((t : Int) ∈ toOf bl i)) (fun x=>[(6,.int .i64 x.1),(5,.slice x.2.1 x.2.2.2.length x.2.2.1),(2,.pointer (some ⟨p2,0,none⟩)),(1,.int .i64 t)])
  (fun x=>[Ent.vec x.2.1 x.2.2.2.length x.2.2.1 3 1 (x.2.2.2.map intN),Ent.box p2 [nm,pa,re,.slice ba n bc] 35]) (fun x=>n - x.1) (0,none,0,[]) ⟨Nat.zero_le _,rfl⟩ (g_done (by repeat (first|exact trivial|refine ⟨rfl,?_⟩)) (.refl _)) fun x ⟨hi,hl⟩=>?_
 obtain ⟨i,la,lc,l⟩:=x
 simp only at hi hl ⊢
 have hll : l.length ≤ i:=by rw [hl]; have:=List.length_filter_le (fun i=>decide ((t : Int) ∈ toOf bl i)) (List.range i); rwa [List.length_range] at this
 repeat (first|refine g_op rfl ?_|refine g_then ?_|refine g_nil ?_|refine g_region ?_|refine g_seq ?_)
 refine g_cond (fun h1=>?_) (fun h1=>?_)
 ·have hlt : i < n:=by simpa using h1
  obtain ⟨B,hB⟩:=get_lt hn hlt
  have had : AddrIs ba bb bo':=⟨hba (ne_of_get hB)⟩
  have hli : LtIs i n:=⟨hlt⟩
  obtain ⟨cs,hcs,pv,lv,tv,rfl,_,_,_,_,ht⟩:=hel i B hB
  have ht0:=ht
  obtain ⟨ta,tn,tc,_,_,rfl,_⟩:=ht
  have hci : CellsIs w0 bb (bo' + i * 6) _:=⟨hcs⟩
  have hnew : (List.range (i + 1)).filter (fun i=>decide ((t : Int) ∈ toOf bl i)) = l++if (t : Int) ∈ B.to then [i] else []:=by
   rw [List.range_succ,List.filter_append,← hl]
   congr 1
   by_cases h : (t : Int) ∈ B.to <;> simp [toOf_get hB,h]
  repeat (first|refine g_op rfl ?_|refine g_then ?_|refine g_region ?_|refine g_seq ?_|refine g_block ?_|refine g_skip ?_)
  refine g_callV rfl (fun w hw=>has_c _ B.to t w (ht0.keep keeps_int hw.chg)) ?_
  by_cases h : (t : Int) ∈ B.to
  ·rw [decide_eq_true h]
   rw [if_pos h] at hnew
   repeat (first|refine g_op rfl ?_|refine g_then ?_|refine g_nil ?_|refine g_region ?_|refine g_condT ?_|refine g_build1 rfl rfl fun _ _=>?_)
   refine g_append rfl rfl (by omega) (by omega) fun a' c'=>?_
   rw [show l.map intN++[.int .i64 (i : Int)] = (l++[i]).map intN by simp [intN],show l.length + 1 = (l++[i]).length by simp]
   repeat (first|refine g_op rfl ?_|refine g_then ?_|refine g_nil ?_|refine g_region ?_|refine g_opS rfl ?_|refine g_inBlock ?_|refine g_add rfl (by omega) (by omega) ?_)
   exact g_next (i + 1,a',c',l++[i]) ⟨hlt,hnew.symm⟩ (by simp only; omega) (by repeat (first|exact trivial|refine ⟨rfl,?_⟩)) (.cons _ (.refl _))
  ·rw [decide_eq_false h]
   rw [if_neg h,List.append_nil] at hnew
   repeat (first|refine g_op rfl ?_|refine g_then ?_|refine g_nil ?_|refine g_region ?_|refine g_opS rfl ?_|refine g_inBlock ?_|refine g_skip ?_|refine g_condF ?_|refine g_add rfl (by omega) (by omega) ?_)
   exact g_next (i + 1,la,lc,l) ⟨hlt,hnew.symm⟩ (by simp only; omega) (by repeat (first|exact trivial|refine ⟨rfl,?_⟩)) (.refl _)
 ·have hge : i = n:=by have:=h1; simp at this; omega
  repeat (first|refine g_op rfl ?_|refine g_then ?_|refine g_nil ?_|refine g_region ?_|refine g_seq ?_|refine g_exit ?_|refine g_thenExit ?_|refine g_exitHere ?_|refine g_ret ?_)
  have hp : l = preds bl t:=by rw [hl,hge,hn]; rfl
  exact g_ret1 rfl fun w hw=>⟨(la,lc),by rw [hp],by rw [← hp]; exact hw.sel [0] (by decide),trivial⟩
end Go.Proofs.YtdbljcahlpkgdaaGreatDoor
namespace Go.Proofs.YtdbljcahlpkgdaaGreatDoor
open Go Go.RowKit
attribute [local irreducible] wpListIn Code.wpIn Exit.then Exit.inBlock bodyPost wpQuiet wpAnyIn bodyPostM
set_option maxHeartbeats 8000000
theorem g_wd {N : Nat} {ds : List Deferred} {S : Nat→Prop} {w0 : World} {L : List (Nat × Value)} {H H' : List Ent} {p : Act→World→Prop} (h : ∀ w,Wd S w0 H w→Wd S w0 H' w) (k : G N ds S w0 L H' p) : G N ds S w0 L H p:=fun a w hS=>k a w ⟨hS.fr,h w hS.wd⟩
end Go.Proofs.YtdbljcahlpkgdaaGreatDoor
namespace Go.Proofs.YtdbljcahlpkgdaaGreatDoor
open Go Go.RowKit
attribute [local irreducible] wpListIn Code.wpIn Exit.then Exit.inBlock bodyPost wpQuiet wpAnyIn wpAnyH
set_option maxHeartbeats 4000000
theorem check_args {u : LUnit} (h : (checkL u).1 = 0) {k : Nat} {X : LFunc} (hX : u.funcs[k]? = some X) : ∀ B ∈ X.blocks,∀ x ∈ B.list,x.args.length ≤ 1000:=fun B hB x hx=>by
 have hb:=check_bodies h X (List.mem_of_getElem? hX)
 obtain ⟨b,hbB⟩:=List.getElem?_of_mem hB
 unfold bodyErr at hb
 split at hb
 ·rename_i h1; exact absurd hb h1
 have hb:=firstI_zero hb b (List.getElem?_eq_some_iff.1 hbB).1
 simp only [blockErr,hbB] at hb
 split at hb
 ·rename_i h2; exact absurd hb h2
 have hi:=at0_all hb x hx
 by_cases e : x.op = 20
 ·unfold insErr at hi
  split at hi
  ·cases hi
  split at hi
  ·cases hi
  split at hi
  ·rename_i h3
   simp only [Bool.and_eq_true,Bool.not_eq_true',decide_eq_false_iff_not] at h3
   exact absurd hi h3.2
  split at hi
  ·rename_i h4; exact absurd hi h4
  split at hi
  ·rename_i h5; exact absurd hi h5
  unfold callErr at hi
  rw [if_neg (by simpa using e)] at hi
  split at hi
  ·cases hi
  rename_i h6
  split at hi
  ·cases hi
  rename_i h7
  simp only [within,Bool.not_eq_true',Bool.and_eq_false_iff,decide_eq_false_iff_not,not_or,Decidable.not_not] at h6
  simp only [ne_eq,Decidable.not_not,at0] at h7
  split at h7
  ·rename_i Y hY
   have:=check_head h hY
   omega
  ·omega
 ·rw [(insErr_ok (R:=X.regs.toNat) (fs:=u.funcs) (by rw [Int.toNat_of_nonneg (by have:=check_head h hX; omega)]; exact hi)).args e]
  simp
theorem light_lens {X : LFunc} (h : lightF X) : ∀ B ∈ X.blocks,B.list.length ≤ 1000∧B.phis.length ≤ 1000:=fun B hB=>by
 have h1 : ((B.phis.length + B.list.length : Nat) : Int) ≤ sizeOfBs X.blocks:=by
  unfold sizeOfBs
  generalize X.blocks = l at hB
  induction l with
  | nil=>cases hB
  | cons C l ih =>
   have hnn : ∀ m : List LBlock,0 ≤ (m.map fun b=>((b.phis.length + b.list.length : Nat) : Int)).sum:=fun m=>by
    induction m with
    | nil=>simp
    | cons D m ih=>simp only [List.map_cons,List.sum_cons]; omega
   simp only [List.map_cons,List.sum_cons]
   rcases List.mem_cons.1 hB with rfl|hB
   ·have:=hnn l; omega
   ·have:=ih hB; omega
 have:=h.2
 omega
end Go.Proofs.YtdbljcahlpkgdaaGreatDoor

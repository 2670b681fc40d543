/- Texts joined: MetR MetS NamedR NamedS. -/
import Derived.Test.YtpadjpplidlfeaaDoorGD
import Derived.Test.YtpadjpplidlfeaaDoorGI
import Derived.Test.YtpadjpplidlfeaaDoorHA
import Derived.Test.YtpadjpplidlfeaaDoorHJ
import Derived.Test.YtpadjpplidlfeaaDoorHQ
import Derived.Test.YtpadjpplidlfeaaDoorIB
import Derived.Test.YtpadjpplidlfeaaDoorID
namespace Go.Proofs.YtpadjpplidlfeaaDoor
open Go Go.RowKit
attribute [local irreducible] wpListIn Code.wpIn Exit.then Exit.inBlock bodyPost wpQuiet wpAnyIn wpAnyH bodyPostM oneH
set_option maxHeartbeats 8000000
def ivE (a : Option Addr) (c : Nat) (l : List Int) : Ent:=Ent.vec a l.length c 3 1 (l.map (.int .i64))
theorem LOk.ins {R : Nat} {l : List Int} (h : LOk R l) (hR : R ≤ 1000) : ∀ x ∈ l,inI x:=fun x hx=>by have:=h.reg x hx; exact ⟨by omega,by omega⟩
theorem Wd.killOldN {w0 w : World} {H1 H2 : List Ent} (h : Wd NoS w0 (H1++H2) w) : ∀ p v,w0.cell? p = some v→(killW (fps H1) w).cell? p = some v:=fun p v hc=>by
 have hlt:=World.block_lt_of_cell? _ p hc
 have hn : ¬ fps H1 p.block:=fun ⟨e,he,hb⟩=>by
  have:=(h.own e (List.mem_append_left _ he) _ hb).1
  exact this.elim (fun h=>h) fun h=>by omega
 rw [← hc]
 refine World.cell?_of_block ?_
 rw [kill_get w hn]
 exact h.chg.block _ hlt fun h=>h
theorem meetR_c (a : Option Addr) (c : Nat) (l : List Int) (r : Int) (hl : l.length ≤ 1000) (hin : ∀ x ∈ l,inI x) (w : World) (hw : Wd (fps [ivE a c l]) w [ivE a c l] w) :
  Ret Tryd.prog 23 [.slice a l.length c,.int .i64 r] w fun u w'=>∃ x : Option Addr × Nat,u = .slice x.1 (meet l r).length x.2∧Wd (fps [ivE a c l]) w [ivE x.1 x.2 (meet l r)] w'∧True:=by
 refine ret_enter Tryd.func23 rfl Tryd.ntmps23 rfl hw ?_
 obtain ⟨SS,hSS⟩ : ∃ SS,SS = fps [ivE a c l]:=⟨_,rfl⟩
 rw [← hSS]
 repeat (first|refine g_op rfl ?_|refine g_then ?_|refine g_nil ?_|refine g_region ?_|refine g_seq ?_)
 refine g_callV rfl (fun w hw=>has_c _ l r w (hw.intsAt (k:=0) rfl rfl (by omega) hin)) ?_
 by_cases hm : r ∈ l
 ·rw [meet_in hm,decide_eq_true hm]
  repeat (first|refine g_op rfl ?_|refine g_then ?_|refine g_nil ?_|refine g_region ?_|refine g_seq ?_|refine g_opS rfl ?_|refine g_condT ?_|refine g_ret ?_|refine g_thenRet ?_)
  exact g_ret1 rfl fun w hw=>⟨(a,c),rfl,hw,trivial⟩
 ·have he : meet l r = l++[r]:=by unfold meet; rw [if_neg hm]
  rw [he,decide_eq_false hm]
  unfold ivE
  repeat (first|refine g_op rfl ?_|refine g_then ?_|refine g_nil ?_|refine g_region ?_|refine g_seq ?_|refine g_skip ?_|refine g_condF ?_|refine g_build1 rfl rfl fun _ _=>?_)
  refine g_append rfl rfl (by omega) (by omega) fun a' c'=>?_
  repeat (first|refine g_then ?_|refine g_nil ?_|refine g_opS rfl ?_|refine g_ret ?_)
  refine g_ret1 rfl fun w hw=>⟨(a',c'),by simp,?_,trivial⟩
  rw [show (l++[r]).length = l.length + 1 by simp,List.map_append]
  exact hw.sel [1] (by decide)
theorem meetAllR_c (a : Option Addr) (c : Nat) (l : List Int) (R : Nat) (hR : R ≤ 1000) (hok : LOk R l) (va : Option Addr) (vn vc : Nat) (vals : List LVal) (hvs : ∀ v ∈ vals,ValOk R v) (w : World) (hw : Wd (fps [ivE a c l]) w [ivE a c l] w) (hv : SlAt (killW (fps [ivE a c l]) w) (.slice va vn vc) 2 vals ValV) :
  Ret Tryd.prog 24 [.slice a l.length c,.slice va vn vc] w fun u w'=>∃ x : Option Addr × Nat,u = .slice x.1 (meets l (vals.flatMap seqV)).length x.2∧Wd (fps [ivE a c l]) w [ivE x.1 x.2 (meets l (vals.flatMap seqV))] w'∧True:=by
 refine ret_enter Tryd.func24 rfl Tryd.ntmps24 rfl hw ?_
 obtain ⟨SS,hSS⟩ : ∃ SS,SS = fps [ivE a c l]:=⟨_,rfl⟩
 rw [← hSS] at hv ⊢
 obtain ⟨hvn,_⟩:=hv.at
 have hK : vals ≠ []→∃ b oo : Nat,AddrIs va b oo∧OldIs SS b∧∀ (i : Nat) (v : LVal),vals[i]? = some v→CellsIs w b (oo + i * 2) [.bool v.reg,.int .i64 v.n]:=fun hne=>by
  obtain ⟨b,oo,h1,h2,h3⟩:=slKnown hv (fun hc=>killOldIs hc (by simp)) (fun _ _ h=>⟨_,_,h.1⟩) hne
  refine ⟨b,oo,h1,h2,fun i x hx=>?_⟩
  obtain ⟨cs,h4,rfl,_⟩:=h3 i x hx
  exact ⟨fun j v hj=>killLe _ _ (h4.eq j v hj)⟩
 repeat (first|refine g_op rfl ?_|refine g_then ?_|refine g_nil ?_|refine g_region ?_|refine g_seq ?_|refine g_block ?_)
 refine g_loop (fun (x : Nat × Option Addr × Nat × List Int)=>x.1 ≤ vn∧x.2.2.2 = meets l ((vals.take x.1).flatMap seqV)) (fun x=>[(5,.int .i64 x.1),(0,.slice x.2.1 x.2.2.2.length x.2.2.1),(1,.slice va vn vc)]) (fun x=>[ivE x.2.1 x.2.2.1 x.2.2.2]) (fun x=>vn - x.1) (0,a,c,l) ⟨Nat.zero_le _,rfl⟩ (g_done (by repeat (first|exact trivial|refine ⟨rfl,?_⟩)) (.refl _)) fun x ⟨hi,hm⟩=>?_
 obtain ⟨i,a',c',m⟩:=x
 simp only at hi hm ⊢
 have hmok : LOk R m:=by
  rw [hm]
  refine hok.meets fun r hr=>?_
  obtain ⟨v,hv,hr⟩:=List.mem_flatMap.1 hr
  unfold seqV at hr
  split at hr
  ·rename_i hreg
   rw [List.mem_singleton.1 hr]
   exact hvs v (List.mem_of_mem_take hv) hreg
  ·cases hr
 have hml:=hmok.len
 repeat (first|refine g_op rfl ?_|refine g_then ?_|refine g_nil ?_|refine g_region ?_|refine g_seq ?_)
 refine g_cond (fun h1=>?_) (fun h1=>?_)
 ·have hil : i < vn:=by simpa using h1
  obtain ⟨v,hvi⟩ : ∃ v,vals[i]? = some v:=⟨_,List.getElem?_eq_getElem (by omega)⟩
  obtain ⟨b,oo,hAd,hOld,hel⟩:=hK (ne_of_get hvi)
  have hci:=hel i v hvi
  have hli : LtIs i vn:=⟨hil⟩
  have hnx : meets l ((vals.take (i + 1)).flatMap seqV) = meets m (seqV v):=by rw [List.take_add_one,hvi,List.flatMap_append,meets_app,← hm]; simp
  obtain ⟨reg,k⟩:=v
  simp only at hci
  cases reg with
  | true =>
   rw [show meets m (seqV ⟨true,k⟩) = meet m k from rfl] at hnx
   repeat (first|refine g_op rfl ?_|refine g_then ?_|refine g_nil ?_|refine g_region ?_|refine g_seq ?_|refine g_block ?_|refine g_skip ?_|refine g_condT ?_)
   refine g_eqH (H1:=[ivE a' c' m]++[]) rfl ?_
   refine g_callS (val:=fun x : Option Addr × Nat=>.slice x.1 (meet m k).length x.2) (E:=fun x=>[ivE x.1 x.2 (meet m k)]) (φ:=fun _=>True) rfl (fun w hw=>meetR_c a' c' m k (by omega) (hmok.ins hR) w hw.pre) fun x _=>?_
   obtain ⟨a2,c2⟩:=x
   simp only [List.cons_append,List.nil_append]
   repeat (first|refine g_op rfl ?_|refine g_then ?_|refine g_nil ?_|refine g_region ?_|refine g_opS rfl ?_|refine g_inBlock ?_|refine g_add rfl (by omega) (by omega) ?_)
   exact g_next (i + 1,a2,c2,meet m k) ⟨by simp only; omega,hnx.symm⟩ (by simp only; omega) (by repeat (first|exact trivial|refine ⟨rfl,?_⟩)) (.refl _)
  | false =>
   rw [show meets m (seqV ⟨false,k⟩) = m from rfl] at hnx
   repeat (first|refine g_op rfl ?_|refine g_then ?_|refine g_nil ?_|refine g_region ?_|refine g_seq ?_|refine g_opS rfl ?_|refine g_inBlock ?_|refine g_block ?_|refine g_skip ?_|refine g_condF ?_|refine g_add rfl (by omega) (by omega) ?_)
   exact g_next (i + 1,a',c',m) ⟨by simp only; omega,hnx.symm⟩ (by simp only; omega) (by repeat (first|exact trivial|refine ⟨rfl,?_⟩)) (.refl _)
 ·have hie : i = vals.length:=by have:=of_decide_eq_false h1; omega
  rw [hie,List.take_length] at hm
  subst hm
  repeat (first|refine g_op rfl ?_|refine g_then ?_|refine g_nil ?_|refine g_region ?_|refine g_seq ?_|refine g_exit ?_|refine g_thenExit ?_|refine g_exitHere ?_|refine g_ret ?_)
  exact g_ret1 rfl fun w hw=>⟨(a',c'),rfl,hw,trivial⟩
theorem parL_snoc (r : Nat) : parL (r + 1) = parL r++[(r : Int)]:=by
 unfold parL
 rw [List.range_succ,List.map_append]
 rfl
theorem uses_in {x : LIns} (ha : inI x.a.n) (hb : inI x.b.n) (hc : ∀ v ∈ x.args,inI v.n) : ∀ v ∈ usesOf x,inI v.n:=fun v hv=>by
 unfold usesOf at hv
 split at hv
 ·cases hv
 ·split at hv
  ·exact hc v hv
  ·split at hv
   ·simp only [List.mem_cons,List.not_mem_nil,or_false] at hv
    rcases hv with rfl|rfl
    ·exact ha
    ·exact hb
   ·split at hv
    ·simp only [List.mem_cons,List.not_mem_nil,or_false] at hv
     rw [hv]; exact ha
    ·cases hv
theorem metR_c (nm : ByteArray) (P R : Nat) (re : Int) (bl : List LBlock) (va : Option Addr) (vn vc : Nat) (hP : P ≤ R) (hR : R ≤ 1000) (hf : FuncOk R bl) (harg : ∀ B ∈ bl,∀ x ∈ B.list,x.args.length ≤ 1000) (w0 : World) (hb : SlAt w0 (.slice va vn vc) 6 bl BlockV) (hbl : bl.length ≤ 1000) :
  Ret Tryd.prog 12 [.agg #[.string nm,.int .i64 (P : Int),.int .i64 re,.slice va vn vc]] w0 fun u w'=>∃ x : Option Addr × Nat,u = .slice x.1 (metL P bl).length x.2∧Wd NoS w0 [ivE x.1 x.2 (metL P bl)] w'∧True:=by
 classical
 refine ret_enter Tryd.func12 rfl Tryd.ntmps12 rfl (Wd.nil NoS w0) ?_
 obtain ⟨hvn,_⟩:=hb.at
 have hbs : ∀ B ∈ bl,∀ r,r ∈ seqB B ∨ r ∈ seqP B→0 ≤ r∧r < R:=fun B hB r hr=>seq_bound hf hB hr
 repeat (first|refine g_op rfl ?_|refine g_then ?_|refine g_nil ?_|refine g_region ?_|refine g_seq ?_|refine g_box rfl fun _ _=>?_|refine g_block ?_)
 rename_i p1 _
 refine g_nilVec 3 1 ?_
 refine g_loop (fun (x : Nat × Option Addr × Nat)=>x.1 ≤ P) (fun x=>[(4,.int .i64 x.1),(3,.slice x.2.1 (parL x.1).length x.2.2),(1,.pointer (some ⟨p1,0,none⟩))]) (fun x=>[ivE x.2.1 x.2.2 (parL x.1),Ent.box p1 [.string nm,.int .i64 (P : Int),.int .i64 re,.slice va vn vc] 33]) (fun x=>P - x.1) (0,none,0) (Nat.zero_le _) (g_done (by repeat (first|exact trivial|refine ⟨rfl,?_⟩)) (.refl _)) fun x hi=>?_
 obtain ⟨i,a,c⟩:=x
 simp only at hi ⊢
 unfold ivE
 repeat (first|refine g_op rfl ?_|refine g_then ?_|refine g_nil ?_|refine g_region ?_|refine g_seq ?_)
 refine g_cond (fun h1=>?_) (fun h1=>?_)
 ·have hil : i < P:=by simpa using h1
  have hpl:=parL_len i
  repeat (first|refine g_op rfl ?_|refine g_then ?_|refine g_region ?_|refine g_seq ?_|refine g_block ?_|refine g_skip ?_|refine g_build1 rfl rfl fun _ _=>?_)
  refine g_append rfl rfl (by omega) (by omega) fun a' c'=>?_
  rw [show (parL i).length + 1 = (parL (i + 1)).length by rw [parL_len,parL_len],show (parL i).map (Value.int .i64)++[.int .i64 (i : Int)] = (parL (i + 1)).map (Value.int .i64) by rw [parL_snoc,List.map_append]; rfl]
  repeat (first|refine g_op rfl ?_|refine g_then ?_|refine g_nil ?_|refine g_region ?_|refine g_opS rfl ?_|refine g_inBlock ?_|refine g_add rfl (by omega) (by omega) ?_)
  exact g_next (i + 1,a',c') (by simp only; omega) (by simp only; omega) (by repeat (first|exact trivial|refine ⟨rfl,?_⟩)) (.cons _ (.refl _))
 have hiP : i = P:=by have:=of_decide_eq_false h1; omega
 subst i
 repeat (first|refine g_op rfl ?_|refine g_then ?_|refine g_nil ?_|refine g_region ?_|refine g_seq ?_|refine g_block ?_|refine g_exit ?_|refine g_thenExit ?_|refine g_exitHere ?_)
 refine g_loop (fun (x : Nat × Option Addr × Nat × List Int)=>x.1 ≤ vn∧x.2.2.2 = meets (parL P) ((bl.take x.1).flatMap seqB)) (fun x=>[(5,.int .i64 x.1),(3,.slice x.2.1 x.2.2.2.length x.2.2.1),(1,.pointer (some ⟨p1,0,none⟩))]) (fun x=>[ivE x.2.1 x.2.2.1 x.2.2.2,Ent.box p1 [.string nm,.int .i64 (P : Int),.int .i64 re,.slice va vn vc] 33]) (fun x=>vn - x.1) (0,a,c,parL P) ⟨Nat.zero_le _,rfl⟩ (g_done (by repeat (first|exact trivial|refine ⟨rfl,?_⟩)) (.refl _)) fun x ⟨hi1,hl⟩=>?_
 clear hi
 obtain ⟨i,a,c,l⟩:=x
 simp only at hi1 hl ⊢
 have hlok : LOk R l:=by
  rw [hl]
  refine (LOk.par hP).meets fun r hr=>?_
  obtain ⟨B,hB,hr⟩:=List.mem_flatMap.1 hr
  exact hbs B (List.mem_of_mem_take hB) r (.inl hr)
 repeat (first|refine g_op rfl ?_|refine g_then ?_|refine g_nil ?_|refine g_region ?_|refine g_seq ?_)
 refine g_cond (fun h2=>?_) (fun h2=>?_)
 ·have hil : i < vn:=by simpa using h2
  obtain ⟨B,hB⟩ : ∃ B,bl[i]? = some B:=⟨_,List.getElem?_eq_getElem (by omega)⟩
  have hBm:=List.mem_of_getElem? hB
  have hbok:=hf.block i B hB
  have hsB : ∀ r ∈ seqB B,0 ≤ r∧r < R:=fun r hr=>hbs B hBm r (.inl hr)
  obtain ⟨b1,o1,had1,hold1,hel1⟩:=slKnown (S:=NoS) hb (fun _=>inferInstance) (fun _ _ h=>by obtain ⟨_,_,_,e,_⟩:=h; exact ⟨_,_,e⟩) (ne_of_get hB)
  obtain ⟨_,hci1,pv,lv,tv,rfl,_,hion,hph,hli,ht⟩:=hel1 i B hB
  have hlii : LtIs i vn:=⟨hil⟩
  obtain ⟨pa,pn,pc,_,_,rfl,hpn,hpnc,hpnb,_⟩:=id hph
  obtain ⟨xa,xm,xc,_,_,rfl,hxn,hxnc,hxnb,_⟩:=id hli
  obtain ⟨tva,tvn,tvc,_,_,rfl,_⟩:=id ht
  repeat (first|refine g_op rfl ?_|refine g_then ?_|refine g_nil ?_|refine g_region ?_|refine g_seq ?_|refine g_alloc rfl fun _ _=>?_|refine g_storeAgg ?_|refine g_block ?_|refine g_skip ?_)
  rename_i p6 _
  refine g_permH (H1:=[ivE a c l,Ent.box p6 [.slice pa pn pc,.slice xa xm xc,.int .i64 B.kind,.bool B.on.reg,.int .i64 B.on.n,.slice tva tvn tvc] 43,Ent.box p1 [.string nm,.int .i64 (P : Int),.int .i64 re,.slice va vn vc] 33]) (List.perm_iff_count.2 fun e=>by simp only [List.count_append,List.count_cons,List.count_nil]; omega) ?_
  refine g_loop (fun (x : Nat × Option Addr × Nat × List Int)=>x.1 ≤ pn∧x.2.2.2 = meets l ((B.phis.take x.1).map (·.dst))) (fun x=>[(7,.int .i64 x.1),(3,.slice x.2.1 x.2.2.2.length x.2.2.1),(6,.pointer (some ⟨p6,0,none⟩)),(5,.int .i64 i),(1,.pointer (some ⟨p1,0,none⟩))]) (fun x=>[ivE x.2.1 x.2.2.1 x.2.2.2,Ent.box p6 [.slice pa pn pc,.slice xa xm xc,.int .i64 B.kind,.bool B.on.reg,.int .i64 B.on.n,.slice tva tvn tvc] 43,Ent.box p1 [.string nm,.int .i64 (P : Int),.int .i64 re,.slice va vn vc] 33]) (fun x=>pn - x.1) (0,a,c,l) ⟨Nat.zero_le _,rfl⟩ (g_done (by repeat (first|exact trivial|refine ⟨rfl,?_⟩)) (.refl _)) fun x ⟨hj,hm⟩=>?_
  obtain ⟨j,a2,c2,m⟩:=x
  simp only at hj hm ⊢
  have hmok : LOk R m:=by
   rw [hm]
   refine hlok.meets fun r hr=>hsB r ?_
   obtain ⟨p,hp,rfl⟩:=List.mem_map.1 hr
   exact List.mem_append_left _ (List.mem_map.2 ⟨p,List.mem_of_mem_take hp,rfl⟩)
  repeat (first|refine g_op rfl ?_|refine g_then ?_|refine g_nil ?_|refine g_region ?_|refine g_seq ?_)
  refine g_cond (fun h3=>?_) (fun h3=>?_)
  ·have hjl : j < pn:=by simpa using h3
   obtain ⟨ph,hphj⟩ : ∃ ph,B.phis[j]? = some ph:=⟨_,List.getElem?_eq_getElem (by omega)⟩
   obtain ⟨b2,o2,had2,hold2,hel2⟩:=slKnown (S:=NoS) hph (fun _=>inferInstance) (fun _ _ h=>by obtain ⟨_,e,_⟩:=h; exact ⟨_,_,e⟩) (ne_of_get hphj)
   obtain ⟨_,hci2,sv,rfl,_,hsv⟩:=hel2 j ph hphj
   have hlij : LtIs j pn:=⟨hjl⟩
   repeat (first|refine g_op rfl ?_|refine g_then ?_|refine g_region ?_|refine g_seq ?_|refine g_block ?_|refine g_skip ?_)
   refine g_eqH (H1:=[ivE a2 c2 m]++[Ent.box p6 [.slice pa pn pc,.slice xa xm xc,.int .i64 B.kind,.bool B.on.reg,.int .i64 B.on.n,.slice tva tvn tvc] 43,Ent.box p1 [.string nm,.int .i64 (P : Int),.int .i64 re,.slice va vn vc] 33]) rfl ?_
   refine g_callS (val:=fun x : Option Addr × Nat=>.slice x.1 (meet m ph.dst).length x.2) (E:=fun x=>[ivE x.1 x.2 (meet m ph.dst)]) (φ:=fun _=>True) rfl (fun w hw=>meetR_c a2 c2 m ph.dst (by have:=hmok.len; omega) (hmok.ins hR) w hw.pre) fun x _=>?_
   obtain ⟨a3,c3⟩:=x
   simp only [List.cons_append,List.nil_append]
   repeat (first|refine g_op rfl ?_|refine g_then ?_|refine g_nil ?_|refine g_region ?_|refine g_opS rfl ?_|refine g_inBlock ?_|refine g_add rfl (by omega) (by omega) ?_)
   exact g_next (j + 1,a3,c3,meet m ph.dst) ⟨by simp only; omega,by simp only; rw [List.take_add_one,hphj,List.map_append,meets_app,← hm]; rfl⟩ (by simp only; omega) (by repeat (first|exact trivial|refine ⟨rfl,?_⟩)) (.refl _)
  have hje : j = B.phis.length:=by have:=of_decide_eq_false h3; omega
  rw [hje,List.take_length] at hm
  repeat (first|refine g_op rfl ?_|refine g_then ?_|refine g_nil ?_|refine g_region ?_|refine g_seq ?_|refine g_block ?_|refine g_exit ?_|refine g_thenExit ?_|refine g_exitHere ?_)
  refine g_loop (fun (x : Nat × Option Addr × Nat × List Int)=>x.1 ≤ xm∧x.2.2.2 = meets m ((B.list.take x.1).flatMap seqI)) (fun x=>[(8,.int .i64 x.1),(3,.slice x.2.1 x.2.2.2.length x.2.2.1),(6,.pointer (some ⟨p6,0,none⟩)),(5,.int .i64 i),(1,.pointer (some ⟨p1,0,none⟩))]) (fun x=>[ivE x.2.1 x.2.2.1 x.2.2.2,Ent.box p6 [.slice pa pn pc,.slice xa xm xc,.int .i64 B.kind,.bool B.on.reg,.int .i64 B.on.n,.slice tva tvn tvc] 43,Ent.box p1 [.string nm,.int .i64 (P : Int),.int .i64 re,.slice va vn vc] 33]) (fun x=>xm - x.1) (0,a2,c2,m) ⟨Nat.zero_le _,rfl⟩ (g_done (by repeat (first|exact trivial|refine ⟨rfl,?_⟩)) (.refl _)) fun x ⟨hk,hm2⟩=>?_
  obtain ⟨k,a3,c3,m2⟩:=x
  simp only at hk hm2 ⊢
  have hsI : ∀ x ∈ B.list,∀ r ∈ seqI x,0 ≤ r∧r < R:=fun x hx r hr=>hsB r (List.mem_append_right _ (List.mem_append_left _ (List.mem_flatMap.2 ⟨x,hx,hr⟩)))
  have hmok2 : LOk R m2:=by
   rw [hm2]
   refine hmok.meets fun r hr=>?_
   obtain ⟨x,hx,hr⟩:=List.mem_flatMap.1 hr
   exact hsI x (List.mem_of_mem_take hx) r hr
  repeat (first|refine g_op rfl ?_|refine g_then ?_|refine g_nil ?_|refine g_region ?_|refine g_seq ?_)
  refine g_cond (fun h4=>?_) (fun h4=>?_)
  ·have hkl : k < xm:=by simpa using h4
   obtain ⟨x,hx⟩ : ∃ x,B.list[k]? = some x:=⟨_,List.getElem?_eq_getElem (by omega)⟩
   have hxm:=List.mem_of_getElem? hx
   have hsx:=hsI x hxm
   have hnext : meets m ((B.list.take (k + 1)).flatMap seqI) = meets m2 (seqI x):=by rw [List.take_add_one,hx,List.flatMap_append,meets_app,← hm2]; simp
   unfold seqI at hnext hsx
   rw [meets_app] at hnext
   obtain ⟨b2,o2,had2,hold2,hel2⟩:=slKnown (S:=NoS) hli (fun _=>inferInstance) (fun _ _ h=>by obtain ⟨_,e,_⟩:=h; exact ⟨_,_,e⟩) (ne_of_get hx)
   obtain ⟨_,hci2,av,rfl,_,_,hian,hibn,_,hav⟩:=hel2 k x hx
   obtain ⟨ava,avn,avc,_,_,rfl,_⟩:=id hav
   have hlik : LtIs k xm:=⟨hkl⟩
   repeat (first|refine g_op rfl ?_|refine g_then ?_|refine g_region ?_|refine g_seq ?_|refine g_block ?_|refine g_skip ?_)
   refine g_callE (val:=fun y : Option Addr × Nat × Nat=>.slice y.1 (usesOf x).length y.2.1) (E:=fun y=>[Ent.vec y.1 (usesOf x).length y.2.1 y.2.2 2 ((usesOf x).flatMap valC)]) (φ:=fun _=>True) rfl (fun w hw=>uses_c x ava avn avc w (hav.keep keeps_val hw.chg) (harg B hBm x hxm)) fun y _=>?_
   obtain ⟨ya,yc,ye⟩:=y
   simp only [List.cons_append,List.nil_append]
   skip
   refine g_permH (H1:=[ivE a3 c3 m2]++[Ent.vec ya (usesOf x).length yc ye 2 ((usesOf x).flatMap valC),Ent.box p6 [.slice pa pn pc,.slice xa xm xc,.int .i64 B.kind,.bool B.on.reg,.int .i64 B.on.n,.slice tva tvn tvc] 43,Ent.box p1 [.string nm,.int .i64 (P : Int),.int .i64 re,.slice va vn vc] 33]) (List.perm_iff_count.2 fun e=>by simp only [List.count_append,List.count_cons,List.count_nil]; omega) ?_
   refine g_callS (val:=fun x' : Option Addr × Nat=>.slice x'.1 (meets m2 ((usesOf x).flatMap seqV)).length x'.2) (E:=fun x'=>[ivE x'.1 x'.2 (meets m2 ((usesOf x).flatMap seqV))]) (φ:=fun _=>True) rfl (fun w hw=>meetAllR_c a3 c3 m2 R hR hmok2 ya (usesOf x).length yc (usesOf x) (fun v hv hreg=>hsx v.n (List.mem_append_left _ (List.mem_flatMap.2 ⟨v,hv,by unfold seqV; rw [if_pos hreg]; simp⟩))) w hw.pre (vals_sl (k:=0) hw.besides rfl rfl (by
     have:=harg B hBm x hxm
     unfold usesOf
     repeat' split
     all_goals first|omega|simp) (uses_in hian hibn (val_in hav)))) fun x' _=>?_
   obtain ⟨a4,c4⟩:=x'
   simp only [List.cons_append,List.nil_append]
   obtain ⟨m3,hm3⟩ : ∃ m3,m3 = meets m2 ((usesOf x).flatMap seqV):=⟨_,rfl⟩
   rw [← hm3] at hnext ⊢
   have hmok3 : LOk R m3:=by rw [hm3]; exact hmok2.meets fun r hr=>hsx r (List.mem_append_left _ hr)
   repeat (first|refine g_op rfl ?_|refine g_then ?_|refine g_nil ?_|refine g_region ?_|refine g_seq ?_|refine g_opS rfl ?_)
   refine g_cond (fun h6=>?_) (fun h6=>?_)
   ·have hge : 0 ≤ x.dst:=by simpa using h6
    rw [if_pos hge,meets_one] at hnext
    repeat (first|refine g_op rfl ?_|refine g_region ?_)
    refine g_eqH (H1:=[ivE a4 c4 m3]++[Ent.vec ya (usesOf x).length yc ye 2 ((usesOf x).flatMap valC),Ent.box p6 [.slice pa pn pc,.slice xa xm xc,.int .i64 B.kind,.bool B.on.reg,.int .i64 B.on.n,.slice tva tvn tvc] 43,Ent.box p1 [.string nm,.int .i64 (P : Int),.int .i64 re,.slice va vn vc] 33]) rfl ?_
    refine g_callS (val:=fun y : Option Addr × Nat=>.slice y.1 (meet m3 x.dst).length y.2) (E:=fun y=>[ivE y.1 y.2 (meet m3 x.dst)]) (φ:=fun _=>True) rfl (fun w hw=>meetR_c a4 c4 m3 x.dst (by have:=hmok3.len; omega) (hmok3.ins hR) w hw.pre) fun y _=>?_
    obtain ⟨a5,c5⟩:=y
    simp only [List.cons_append,List.nil_append]
    repeat (first|refine g_op rfl ?_|refine g_then ?_|refine g_nil ?_|refine g_region ?_|refine g_opS rfl ?_|refine g_inBlock ?_|refine g_add rfl (by omega) (by omega) ?_)
    exact g_next (k + 1,a5,c5,meet m3 x.dst) ⟨by simp only; omega,hnext.symm⟩ (by simp only; omega) (by repeat (first|exact trivial|refine ⟨rfl,?_⟩)) (.cons_cons _ (.cons _ (.refl _)))
   ·have hlt : ¬ 0 ≤ x.dst:=by simpa using h6
    rw [if_neg hlt,meets_nil] at hnext
    repeat (first|refine g_op rfl ?_|refine g_then ?_|refine g_nil ?_|refine g_region ?_|refine g_opS rfl ?_|refine g_inBlock ?_|refine g_skip ?_|refine g_add rfl (by omega) (by omega) ?_)
    exact g_next (k + 1,a4,c4,m3) ⟨by simp only; omega,hnext.symm⟩ (by simp only; omega) (by repeat (first|exact trivial|refine ⟨rfl,?_⟩)) (.cons_cons _ (.cons _ (.refl _)))
  have hke : k = B.list.length:=by have:=of_decide_eq_false h4; omega
  rw [hke,List.take_length] at hm2
  repeat (first|refine g_op rfl ?_|refine g_then ?_|refine g_region ?_|refine g_exit ?_|refine g_thenExit ?_|refine g_exitHere ?_|refine g_build1 rfl rfl fun _ _=>?_)
  rename_i t1 _
  refine g_permH (H1:=[ivE a3 c3 m2]++[Ent.vec (some ⟨t1,0,none⟩) 1 1 39 2 [.bool B.on.reg,.int .i64 B.on.n],Ent.box p6 [.slice pa pn pc,.slice xa xm xc,.int .i64 B.kind,.bool B.on.reg,.int .i64 B.on.n,.slice tva tvn tvc] 43,Ent.box p1 [.string nm,.int .i64 (P : Int),.int .i64 re,.slice va vn vc] 33]) (List.perm_iff_count.2 fun e=>by simp only [List.count_append,List.count_cons,List.count_nil]; omega) ?_
  have hnx : meets m2 (([B.on] : List LVal).flatMap seqV) = meets (parL P) ((bl.take (i + 1)).flatMap seqB):=by
   rw [List.take_add_one,hB,List.flatMap_append,meets_app,← hl,hm2,hm,← meets_app,← meets_app]
   simp [seqB]
  refine g_callS (val:=fun x' : Option Addr × Nat=>.slice x'.1 (meets m2 (([B.on] : List LVal).flatMap seqV)).length x'.2) (E:=fun x'=>[ivE x'.1 x'.2 (meets m2 (([B.on] : List LVal).flatMap seqV))]) (φ:=fun _=>True) rfl (fun w hw=>meetAllR_c a3 c3 m2 R hR hmok2 (some ⟨t1,0,none⟩) 1 1 [B.on] (fun v hv hreg=>by
   rw [List.mem_singleton.1 hv] at hreg ⊢
   exact hbok.on hreg) w hw.pre (vals_sl (k:=0) (e:=39) (l:=[B.on]) hw.besides rfl rfl (by omega) (fun v hv=>by rw [List.mem_singleton.1 hv]; exact hion))) fun x' _=>?_
  obtain ⟨a4,c4⟩:=x'
  simp only [List.cons_append,List.nil_append]
  repeat (first|refine g_op rfl ?_|refine g_then ?_|refine g_nil ?_|refine g_region ?_|refine g_opS rfl ?_|refine g_inBlock ?_|refine g_add rfl (by omega) (by omega) ?_)
  exact g_next (i + 1,a4,c4,meets m2 (([B.on] : List LVal).flatMap seqV)) ⟨by simp only; omega,hnx⟩ (by simp only; omega) (by repeat (first|exact trivial|refine ⟨rfl,?_⟩)) (.cons_cons _ (.cons _ (.cons _ (.refl _))))
 have hie : i = bl.length:=by have:=of_decide_eq_false h2; omega
 rw [hie,List.take_length] at hl
 repeat (first|refine g_op rfl ?_|refine g_then ?_|refine g_nil ?_|refine g_region ?_|refine g_seq ?_|refine g_block ?_|refine g_exit ?_|refine g_thenExit ?_|refine g_exitHere ?_)
 obtain ⟨L1,hL1⟩ : ∃ L1,L1 = l:=⟨_,rfl⟩
 rw [← hL1]
 have hL1ok : LOk R L1:=by rw [hL1]; exact hlok
 rw [hL1.symm] at hl
 refine g_loop (fun (x : Nat × Option Addr × Nat × List Int)=>x.1 ≤ vn∧x.2.2.2 = meets L1 ((bl.take x.1).flatMap seqP)) (fun x=>[(9,.int .i64 x.1),(3,.slice x.2.1 x.2.2.2.length x.2.2.1),(1,.pointer (some ⟨p1,0,none⟩))]) (fun x=>[ivE x.2.1 x.2.2.1 x.2.2.2,Ent.box p1 [.string nm,.int .i64 (P : Int),.int .i64 re,.slice va vn vc] 33]) (fun x=>vn - x.1) (0,a,c,L1) ⟨Nat.zero_le _,rfl⟩ (g_done (by repeat (first|exact trivial|refine ⟨rfl,?_⟩)) (.refl _)) fun x ⟨hi2,hm⟩=>?_
 obtain ⟨i,a,c,m⟩:=x
 simp only at hi2 hm ⊢
 have hmok : LOk R m:=by
  rw [hm]
  refine hL1ok.meets fun r hr=>?_
  obtain ⟨B,hB,hr⟩:=List.mem_flatMap.1 hr
  exact hbs B (List.mem_of_mem_take hB) r (.inr hr)
 repeat (first|refine g_op rfl ?_|refine g_then ?_|refine g_nil ?_|refine g_region ?_|refine g_seq ?_)
 refine g_cond (fun h2=>?_) (fun h2=>?_)
 ·have hil : i < vn:=by simpa using h2
  obtain ⟨B,hB⟩ : ∃ B,bl[i]? = some B:=⟨_,List.getElem?_eq_getElem (by omega)⟩
  have hBm:=List.mem_of_getElem? hB
  have hbok:=hf.block i B hB
  have hsP : ∀ r ∈ seqP B,0 ≤ r∧r < R:=fun r hr=>hbs B hBm r (.inr hr)
  obtain ⟨b1,o1,had1,hold1,hel1⟩:=slKnown (S:=NoS) hb (fun _=>inferInstance) (fun _ _ h=>by obtain ⟨_,_,_,e,_⟩:=h; exact ⟨_,_,e⟩) (ne_of_get hB)
  obtain ⟨_,hci1,pv,lv,tv,rfl,_,hion,hph,hli,ht⟩:=hel1 i B hB
  have hlii : LtIs i vn:=⟨hil⟩
  obtain ⟨pa,pn,pc,_,_,rfl,hpn,hpnc,hpnb,_⟩:=id hph
  repeat (first|refine g_op rfl ?_|refine g_then ?_|refine g_nil ?_|refine g_region ?_|refine g_seq ?_|refine g_block ?_|refine g_skip ?_)
  refine g_loop (fun (x : Nat × Option Addr × Nat × List Int)=>x.1 ≤ pn∧x.2.2.2 = meets m ((B.phis.take x.1).flatMap fun p=>p.src.flatMap seqV)) (fun x=>[(10,.int .i64 x.1),(3,.slice x.2.1 x.2.2.2.length x.2.2.1),(9,.int .i64 i),(1,.pointer (some ⟨p1,0,none⟩))]) (fun x=>[ivE x.2.1 x.2.2.1 x.2.2.2,Ent.box p1 [.string nm,.int .i64 (P : Int),.int .i64 re,.slice va vn vc] 33]) (fun x=>pn - x.1) (0,a,c,m) ⟨Nat.zero_le _,rfl⟩ (g_done (by repeat (first|exact trivial|refine ⟨rfl,?_⟩)) (.refl _)) fun x ⟨hj,hm2⟩=>?_
  obtain ⟨j,a2,c2,m2⟩:=x
  simp only at hj hm2 ⊢
  have hsrc : ∀ p ∈ B.phis,∀ r ∈ p.src.flatMap seqV,0 ≤ r∧r < R:=fun p hp r hr=>hsP r (List.mem_flatMap.2 ⟨p,hp,hr⟩)
  have hmok2 : LOk R m2:=by
   rw [hm2]
   refine hmok.meets fun r hr=>?_
   obtain ⟨p,hp,hr⟩:=List.mem_flatMap.1 hr
   exact hsrc p (List.mem_of_mem_take hp) r hr
  repeat (first|refine g_op rfl ?_|refine g_then ?_|refine g_nil ?_|refine g_region ?_|refine g_seq ?_)
  refine g_cond (fun h3=>?_) (fun h3=>?_)
  ·have hjl : j < pn:=by simpa using h3
   obtain ⟨ph,hphj⟩ : ∃ ph,B.phis[j]? = some ph:=⟨_,List.getElem?_eq_getElem (by omega)⟩
   obtain ⟨b2,o2,had2,hold2,hel2⟩:=slKnown (S:=NoS) hph (fun _=>inferInstance) (fun _ _ h=>by obtain ⟨_,e,_⟩:=h; exact ⟨_,_,e⟩) (ne_of_get hphj)
   obtain ⟨_,hci2,sv,rfl,_,hsv⟩:=hel2 j ph hphj
   obtain ⟨sva,svn,svc,_,_,rfl,_⟩:=id hsv
   have hlij : LtIs j pn:=⟨hjl⟩
   repeat (first|refine g_op rfl ?_|refine g_then ?_|refine g_region ?_|refine g_seq ?_|refine g_block ?_|refine g_skip ?_)
   refine g_eqH (H1:=[ivE a2 c2 m2]++[Ent.box p1 [.string nm,.int .i64 (P : Int),.int .i64 re,.slice va vn vc] 33]) rfl ?_
   refine g_callS (val:=fun x : Option Addr × Nat=>.slice x.1 (meets m2 (ph.src.flatMap seqV)).length x.2) (E:=fun x=>[ivE x.1 x.2 (meets m2 (ph.src.flatMap seqV))]) (φ:=fun _=>True) rfl (fun w hw=>meetAllR_c a2 c2 m2 R hR hmok2 sva svn svc ph.src (fun v hv hreg=>hsrc ph (List.mem_of_getElem? hphj) v.n (List.mem_flatMap.2 ⟨v,hv,by unfold seqV; rw [if_pos hreg]; simp⟩)) w hw.pre (hsv.le mono_val hw.killOldN)) fun x _=>?_
   obtain ⟨a3,c3⟩:=x
   simp only [List.cons_append,List.nil_append]
   repeat (first|refine g_op rfl ?_|refine g_then ?_|refine g_nil ?_|refine g_region ?_|refine g_opS rfl ?_|refine g_inBlock ?_|refine g_add rfl (by omega) (by omega) ?_)
   exact g_next (j + 1,a3,c3,meets m2 (ph.src.flatMap seqV)) ⟨by simp only; omega,by simp only; rw [List.take_add_one,hphj,List.flatMap_append,meets_app,← hm2]; simp⟩ (by simp only; omega) (by repeat (first|exact trivial|refine ⟨rfl,?_⟩)) (.refl _)
  have hje : j = B.phis.length:=by have:=of_decide_eq_false h3; omega
  rw [hje,List.take_length] at hm2
  repeat (first|refine g_op rfl ?_|refine g_then ?_|refine g_nil ?_|refine g_region ?_|refine g_opS rfl ?_|refine g_inBlock ?_|refine g_add rfl (by omega) (by omega) ?_|refine g_exit ?_|refine g_thenExit ?_|refine g_exitHere ?_)
  exact g_next (i + 1,a2,c2,m2) ⟨by simp only; omega,by simp only; rw [List.take_add_one,hB,List.flatMap_append,meets_app,← hm,hm2]; simp [seqP]⟩ (by simp only; omega) (by repeat (first|exact trivial|refine ⟨rfl,?_⟩)) (.refl _)
 have hie2 : i = bl.length:=by have:=of_decide_eq_false h2; omega
 rw [hie2,List.take_length] at hm
 have hmE : m = metL P bl:=by
  rw [hm,hl,← meets_app]
  unfold metL seqL once
  rw [meets_app []]
  congr 1
  exact (once_self (parL_nodup P)).symm
 rw [hmE]
 repeat (first|refine g_op rfl ?_|refine g_then ?_|refine g_nil ?_|refine g_region ?_|refine g_seq ?_|refine g_exit ?_|refine g_thenExit ?_|refine g_exitHere ?_|refine g_ret ?_)
 exact g_ret1 rfl fun w hw=>⟨(a,c),rfl,hw.sel [0] (by decide),trivial⟩
end Go.Proofs.YtpadjpplidlfeaaDoor

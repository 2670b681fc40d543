/- Texts joined: MetR MetS NamedR NamedS. -/
import Derived.Test.YtpadjpplidlfeaaGreatDoorGD
import Derived.Test.YtpadjpplidlfeaaGreatDoorGI
import Derived.Test.YtpadjpplidlfeaaGreatDoorHA
import Derived.Test.YtpadjpplidlfeaaGreatDoorHJ
import Derived.Test.YtpadjpplidlfeaaGreatDoorHQ
import Derived.Test.YtpadjpplidlfeaaGreatDoorIB
import Derived.Test.YtpadjpplidlfeaaGreatDoorID
namespace Go.Proofs.YtpadjpplidlfeaaGreatDoor
open Go Go.RowKit
attribute [local irreducible] wpListIn Code.wpIn Exit.then Exit.inBlock bodyPost wpQuiet wpAnyIn wpAnyH bodyPostM oneH
set_option maxHeartbeats 8000000
def ivE (a : Option Addr) (c : Nat) (l : List Int) : Ent:=Ent.vec a l.length c 3 1 (l.map (.int .i64))
theorem LOk.ins {R : Nat} {l : List Int} (h : LOk R l) (hR : R ≤ 1000) : ∀ x ∈ l,inI x:=fun x hx=>by have:=h.reg x hx; exact ⟨by omega,by omega⟩
theorem Wd.killOldN {w0 w : World} {H1 H2 : List Ent} (h : Wd NoS w0 (H1++H2) w) : ∀ p v,w0.cell? p = some v→(killW (fps H1) w).cell? p = some v:=fun p v hc=>by
 have hlt:=World.block_lt_of_cell? _ p hc
 have hn : ¬ fps H1 p.block:=fun ⟨e,he,hb⟩=>by
  have:=(h.own e (List.mem_append_left _ he) _ hb).1
  exact this.elim (fun h=>h) fun h=>by omega
 rw [← hc]
 refine World.cell?_of_block ?_
 rw [kill_get w hn]
 exact h.chg.block _ hlt fun h=>h
theorem meetR_c (a : Option Addr) (c : Nat) (l : List Int) (r : Int) (hl : l.length ≤ 1000) (hin : ∀ x ∈ l,inI x) (w : World) (hw : Wd (fps [ivE a c l]) w [ivE a c l] w) :
  Ret Tryz.prog 64 [.slice a l.length c,.int .i64 r] w fun u w'=>∃ x : Option Addr × Nat,u = .slice x.1 (meet l r).length x.2∧Wd (fps [ivE a c l]) w [ivE x.1 x.2 (meet l r)] w'∧True:=by
 refine ret_enter Tryz.func64 rfl Tryz.ntmps64 rfl hw ?_
 obtain ⟨SS,hSS⟩ : ∃ SS,SS = fps [ivE a c l]:=⟨_,rfl⟩
 rw [← hSS]
 repeat (first|refine g_op rfl ?_|refine g_then ?_|refine g_nil ?_|refine g_region ?_|refine g_seq ?_)
 refine g_callV rfl (fun w hw=>has_c _ l r w (hw.intsAt (k:=0) rfl rfl (by omega) hin)) ?_
 by_cases hm : r ∈ l
 ·rw [meet_in hm,decide_eq_true hm]
  repeat (first|refine g_op rfl ?_|refine g_then ?_|refine g_nil ?_|refine g_region ?_|refine g_seq ?_|refine g_opS rfl ?_|refine g_condT ?_|refine g_ret ?_|refine g_thenRet ?_)
  exact g_ret1 rfl fun w hw=>⟨(a,c),rfl,hw,trivial⟩
 ·have he : meet l r = l++[r]:=by unfold meet; rw [if_neg hm]
  rw [he,decide_eq_false hm]
  unfold ivE
  repeat (first|refine g_op rfl ?_|refine g_then ?_|refine g_nil ?_|refine g_region ?_|refine g_seq ?_|refine g_skip ?_|refine g_condF ?_|refine g_build1 rfl rfl fun _ _=>?_)
  refine g_append rfl rfl (by omega) (by omega) fun a' c'=>?_
  repeat (first|refine g_then ?_|refine g_nil ?_|refine g_opS rfl ?_|refine g_ret ?_)
  refine g_ret1 rfl fun w hw=>⟨(a',c'),by simp,?_,trivial⟩
  rw [show (l++[r]).length = l.length + 1 by simp,List.map_append]
  exact hw.sel [1] (by decide)
theorem meetAllR_c (a : Option Addr) (c : Nat) (l : List Int) (R : Nat) (hR : R ≤ 1000) (hok : LOk R l) (va : Option Addr) (vn vc : Nat) (vals : List LVal) (hvs : ∀ v ∈ vals,ValOk R v) (w : World) (hw : Wd (fps [ivE a c l]) w [ivE a c l] w) (hv : SlAt (killW (fps [ivE a c l]) w) (.slice va vn vc) 2 vals ValV) :
  Ret Tryz.prog 65 [.slice a l.length c,.slice va vn vc] w fun u w'=>∃ x : Option Addr × Nat,u = .slice x.1 (meets l (vals.flatMap seqV)).length x.2∧Wd (fps [ivE a c l]) w [ivE x.1 x.2 (meets l (vals.flatMap seqV))] w'∧True:=by
 refine ret_enter Tryz.func65 rfl Tryz.ntmps65 rfl hw ?_
 obtain ⟨SS,hSS⟩ : ∃ SS,SS = fps [ivE a c l]:=⟨_,rfl⟩
 rw [← hSS] at hv ⊢
 obtain ⟨hvn,_⟩:=hv.at
 have hK : vals ≠ []→∃ b oo : Nat,AddrIs va b oo∧OldIs SS b∧∀ (i : Nat) (v : LVal),vals[i]? = some v→CellsIs w b (oo + i * 2) [.bool v.reg,.int .i64 v.n]:=fun hne=>by
  obtain ⟨b,oo,h1,h2,h3⟩:=slKnown hv (fun hc=>killOldIs hc (by simp)) (fun _ _ h=>⟨_,_,h.1⟩) hne
  refine ⟨b,oo,h1,h2,fun i x hx=>?_⟩
  obtain ⟨cs,h4,rfl,_⟩:=h3 i x hx
  exact ⟨fun j v hj=>killLe _ _ (h4.eq j v hj)⟩
 repeat (first|refine g_op rfl ?_|refine g_then ?_|refine g_nil ?_|refine g_region ?_|refine g_seq ?_|refine g_block ?_)
 refine g_loop (fun (x : Nat × Option Addr × Nat × List Int)=>x.1 ≤ vn∧x.2.2.2 = meets l ((vals.take x.1).flatMap seqV)) (fun x=>[(5,.int .i64 x.1),(0,.slice x.2.1 x.2.2.2.length x.2.2.1),(1,.slice va vn vc)]) (fun x=>[ivE x.2.1 x.2.2.1 x.2.2.2]) (fun x=>vn - x.1) (0,a,c,l) ⟨Nat.zero_le _,rfl⟩ (g_done (by repeat (first|exact trivial|refine ⟨rfl,?_⟩)) (.refl _)) fun x ⟨hi,hm⟩=>?_
 obtain ⟨i,a',c',m⟩:=x
 simp only at hi hm ⊢
 have hmok : LOk R m:=by
  rw [hm]
  refine hok.meets fun r hr=>?_
  obtain ⟨v,hv,hr⟩:=List.mem_flatMap.1 hr
  unfold seqV at hr
  split at hr
  ·rename_i hreg
   rw [List.mem_singleton.1 hr]
   exact hvs v (List.mem_of_mem_take hv) hreg
  ·cases hr
 have hml:=hmok.len
 repeat (first|refine g_op rfl ?_|refine g_then ?_|refine g_nil ?_|refine g_region ?_|refine g_seq ?_)
 refine g_cond (fun h1=>?_) (fun h1=>?_)
 ·have hil : i < vn:=by simpa using h1
  obtain ⟨v,hvi⟩ : ∃ v,vals[i]? = some v:=⟨_,List.getElem?_eq_getElem (by omega)⟩
  obtain ⟨b,oo,hAd,hOld,hel⟩:=hK (ne_of_get hvi)
  have hci:=hel i v hvi
  have hli : LtIs i vn:=⟨hil⟩
  have hnx : meets l ((vals.take (i + 1)).flatMap seqV) = meets m (seqV v):=by rw [List.take_add_one,hvi,List.flatMap_append,meets_app,← hm]; simp
  obtain ⟨reg,k⟩:=v
  simp only at hci
  cases reg with
  | true =>
   rw [show meets m (seqV ⟨true,k⟩) = meet m k from rfl] at hnx
   repeat (first|refine g_op rfl ?_|refine g_then ?_|refine g_nil ?_|refine g_region ?_|refine g_seq ?_|refine g_block ?_|refine g_skip ?_|refine g_condT ?_)
   refine g_eqH (H1:=[ivE a' c' m]++[]) rfl ?_
   refine g_callS (val:=fun x : Option Addr × Nat=>.slice x.1 (meet m k).length x.2) (E:=fun x=>[ivE x.1 x.2 (meet m k)]) (φ:=fun _=>True) rfl (fun w hw=>meetR_c a' c' m k (by omega) (hmok.ins hR) w hw.pre) fun x _=>?_
   obtain ⟨a2,c2⟩:=x
   simp only [List.cons_append,List.nil_append]
   repeat (first|refine g_op rfl ?_|refine g_then ?_|refine g_nil ?_|refine g_region ?_|refine g_opS rfl ?_|refine g_inBlock ?_|refine g_add rfl (by omega) (by omega) ?_)
   exact g_next (i + 1,a2,c2,meet m k) ⟨by simp only; omega,hnx.symm⟩ (by simp only; omega) (by repeat (first|exact trivial|refine ⟨rfl,?_⟩)) (.refl _)
  | false =>
   rw [show meets m (seqV ⟨false,k⟩) = m from rfl] at hnx
   repeat (first|refine g_op rfl ?_|refine g_then ?_|refine g_nil ?_|refine g_region ?_|refine g_seq ?_|refine g_opS rfl ?_|refine g_inBlock ?_|refine g_block ?_|refine g_skip ?_|refine g_condF ?_|refine g_add rfl (by omega) (by omega) ?_)
   exact g_next (i + 1,a',c',m) ⟨by simp only; omega,hnx.symm⟩ (by simp only; omega) (by repeat (first|exact trivial|refine ⟨rfl,?_⟩)) (.refl _)
 ·have hie : i = vals.length:=by have:=of_decide_eq_false h1; omega
  rw [hie,List.take_length] at hm
  subst hm
  repeat (first|refine g_op rfl ?_|refine g_then ?_|refine g_nil ?_|refine g_region ?_|refine g_seq ?_|refine g_exit ?_|refine g_thenExit ?_|refine g_exitHere ?_|refine g_ret ?_)
  exact g_ret1 rfl fun w hw=>⟨(a',c'),rfl,hw,trivial⟩
theorem parL_snoc (r : Nat) : parL (r + 1) = parL r++[(r : Int)]:=by
 unfold parL
 rw [List.range_succ,List.map_append]
 rfl
theorem uses_in {x : LIns} (ha : inI x.a.n) (hb : inI x.b.n) (hc : ∀ v ∈ x.args,inI v.n) : ∀ v ∈ usesOf x,inI v.n:=fun v hv=>by
 unfold usesOf at hv
 split at hv
 ·cases hv
 ·split at hv
  ·exact hc v hv
  ·split at hv
   ·simp only [List.mem_cons,List.not_mem_nil,or_false] at hv
    rcases hv with rfl|rfl
    ·exact ha
    ·exact hb
   ·split at hv
    ·simp only [List.mem_cons,List.not_mem_nil,or_false] at hv
     rw [hv]; exact ha
    ·cases hv
theorem metR_c (nm : ByteArray) (P R : Nat) (re : Int) (bl : List LBlock) (va : Option Addr) (vn vc : Nat) (hP : P ≤ R) (hR : R ≤ 1000) (hf : FuncOk R bl) (harg : ∀ B ∈ bl,∀ x ∈ B.list,x.args.length ≤ 1000) (w0 : World) (hb : SlAt w0 (.slice va vn vc) 6 bl BlockV) (hbl : bl.length ≤ 1000) :
  Ret Tryz.prog 33 [.agg #[.string nm,.int .i64 (P : Int),.int .i64 re,.slice va vn vc]] w0 fun u w'=>∃ x : Option Addr × Nat,u = .slice x.1 (metL P bl).length x.2∧Wd NoS w0 [ivE x.1 x.2 (metL P bl)] w'∧True:=by
 classical
 refine ret_enter Tryz.func33 rfl Tryz.ntmps33 rfl (Wd.nil NoS w0) ?_
 obtain ⟨hvn,_⟩:=hb.at
 have hbs : ∀ B ∈ bl,∀ r,r ∈ seqB B ∨ r ∈ seqP B→0 ≤ r∧r < R:=fun B hB r hr=>seq_bound hf hB hr
 repeat (first|refine g_op rfl ?_|refine g_then ?_|refine g_nil ?_|refine g_region ?_|refine g_seq ?_|refine g_box rfl fun _ _=>?_|refine g_block ?_)
 rename_i p1 _
 refine g_nilVec 3 1 ?_
 refine g_loop (fun (x : Nat × Option Addr × Nat)=>x.1 ≤ P) (fun x=>[(4,.int .i64 x.1),(3,.slice x.2.1 (parL x.1).length x.2.2),(1,.pointer (some ⟨p1,0,none⟩))]) (fun x=>[ivE x.2.1 x.2.2 (parL x.1),Ent.box p1 [.string nm,.int .i64 (P : Int),.int .i64 re,.slice va vn vc] 35]) (fun x=>P - x.1) (0,none,0) (Nat.zero_le _) (g_done (by repeat (first|exact trivial|refine ⟨rfl,?_⟩)) (.refl _)) fun x hi=>?_
 obtain ⟨i,a,c⟩:=x
 simp only at hi ⊢
 unfold ivE
 repeat (first|refine g_op rfl ?_|refine g_then ?_|refine g_nil ?_|refine g_region ?_|refine g_seq ?_)
 refine g_cond (fun h1=>?_) (fun h1=>?_)
 ·have hil : i < P:=by simpa using h1
  have hpl:=parL_len i
  repeat (first|refine g_op rfl ?_|refine g_then ?_|refine g_region ?_|refine g_seq ?_|refine g_block ?_|refine g_skip ?_|refine g_build1 rfl rfl fun _ _=>?_)
  refine g_append rfl rfl (by omega) (by omega) fun a' c'=>?_
  rw [show (parL i).length + 1 = (parL (i + 1)).length by rw [parL_len,parL_len],show (parL i).map (Value.int .i64)++[.int .i64 (i : Int)] = (parL (i + 1)).map (Value.int .i64) by rw [parL_snoc,List.map_append]; rfl]
  repeat (first|refine g_op rfl ?_|refine g_then ?_|refine g_nil ?_|refine g_region ?_|refine g_opS rfl ?_|refine g_inBlock ?_|refine g_add rfl (by omega) (by omega) ?_)
  exact g_next (i + 1,a',c') (by simp only; omega) (by simp only; omega) (by repeat (first|exact trivial|refine ⟨rfl,?_⟩)) (.cons _ (.refl _))
 have hiP : i = P:=by have:=of_decide_eq_false h1; omega
 subst i
 repeat (first|refine g_op rfl ?_|refine g_then ?_|refine g_nil ?_|refine g_region ?_|refine g_seq ?_|refine g_block ?_|refine g_exit ?_|refine g_thenExit ?_|refine g_exitHere ?_)
 refine g_loop (fun (x : Nat × Option Addr × Nat × List Int)=>x.1 ≤ vn∧x.2.2.2 = meets (parL P) ((bl.take x.1).flatMap seqB)) (fun x=>[(5,.int .i64 x.1),(3,.slice x.2.1 x.2.2.2.length x.2.2.1),(1,.pointer (some ⟨p1,0,none⟩))]) (fun x=>[ivE x.2.1 x.2.2.1 x.2.2.2,Ent.box p1 [.string nm,.int .i64 (P : Int),.int .i64 re,.slice va vn vc] 35]) (fun x=>vn - x.1) (0,a,c,parL P) ⟨Nat.zero_le _,rfl⟩ (g_done (by repeat (first|exact trivial|refine ⟨rfl,?_⟩)) (.refl _)) fun x ⟨hi1,hl⟩=>?_
 clear hi
 obtain ⟨i,a,c,l⟩:=x
 simp only at hi1 hl ⊢
 have hlok : LOk R l:=by
  rw [hl]
  refine (LOk.par hP).meets fun r hr=>?_
  obtain ⟨B,hB,hr⟩:=List.mem_flatMap.1 hr
  exact hbs B (List.mem_of_mem_take hB) r (.inl hr)
 repeat (first|refine g_op rfl ?_|refine g_then ?_|refine g_nil ?_|refine g_region ?_|refine g_seq ?_)
 refine g_cond (fun h2=>?_) (fun h2=>?_)
 ·have hil : i < vn:=by simpa using h2
  obtain ⟨B,hB⟩ : ∃ B,bl[i]? = some B:=⟨_,List.getElem?_eq_getElem (by omega)⟩
  have hBm:=List.mem_of_getElem? hB
  have hbok:=hf.block i B hB
  have hsB : ∀ r ∈ seqB B,0 ≤ r∧r < R:=fun r hr=>hbs B hBm r (.inl hr)
  obtain ⟨b1,o1,had1,hold1,hel1⟩:=slKnown (S:=NoS) hb (fun _=>inferInstance) (fun _ _ h=>by obtain ⟨_,_,_,e,_⟩:=h; exact ⟨_,_,e⟩) (ne_of_get hB)
  obtain ⟨_,hci1,pv,lv,tv,rfl,_,hion,hph,hli,ht⟩:=hel1 i B hB
  have hlii : LtIs i vn:=⟨hil⟩
  obtain ⟨pa,pn,pc,_,_,rfl,hpn,hpnc,hpnb,_⟩:=id hph
  obtain ⟨xa,xm,xc,_,_,rfl,hxn,hxnc,hxnb,_⟩:=id hli
  obtain ⟨tva,tvn,tvc,_,_,rfl,_⟩:=id ht
  repeat (first|refine g_op rfl ?_|refine g_then ?_|refine g_nil ?_|refine g_region ?_|refine g_seq ?_|refine g_alloc rfl fun _ _=>?_|refine g_storeAgg ?_|refine g_block ?_|refine g_skip ?_)
  rename_i p6 _
  refine g_permH (H1:=[ivE a c l,Ent.box p6 [.slice pa pn pc,.slice xa xm xc,.int .i64 B.kind,.bool B.on.reg,.int .i64 B.on.n,.slice tva tvn tvc] 50,Ent.box p1 [.string nm,.int .i64 (P : Int),.int .i64 re,.slice va vn vc] 35]) (List.perm_iff_count.2 fun e=>by simp only [List.count_append,List.count_cons,List.count_nil]; omega) ?_
  refine g_loop (fun (x : Nat × Option Addr × Nat × List Int)=>x.1 ≤ pn∧x.2.2.2 = meets l ((B.phis.take x.1).map (·.dst))) (fun x=>[(7,.int .i64 x.1),(3,.slice x.2.1 x.2.2.2.length x.2.2.1),(6,.pointer (some ⟨p6,0,none⟩)),(5,.int .i64 i),(1,.pointer (some ⟨p1,0,none⟩))]) (fun x=>[ivE x.2.1 x.2.2.1 x.2.2.2,Ent.box p6 [.slice pa pn pc,.slice xa xm xc,.int .i64 B.kind,.bool B.on.reg,.int .i64 B.on.n,.slice tva tvn tvc] 50,Ent.box p1 [.string nm,.int .i64 (P : Int),.int .i64 re,.slice va vn vc] 35]) (fun x=>pn - x.1) (0,a,c,l) ⟨Nat.zero_le _,rfl⟩ (g_done (by repeat (first|exact trivial|refine ⟨rfl,?_⟩)) (.refl _)) fun x ⟨hj,hm⟩=>?_
  obtain ⟨j,a2,c2,m⟩:=x
  simp only at hj hm ⊢
  have hmok : LOk R m:=by
   rw [hm]
   refine hlok.meets fun r hr=>hsB r ?_
   obtain ⟨p,hp,rfl⟩:=List.mem_map.1 hr
   exact List.mem_append_left _ (List.mem_map.2 ⟨p,List.mem_of_mem_take hp,rfl⟩)
  repeat (first|refine g_op rfl ?_|refine g_then ?_|refine g_nil ?_|refine g_region ?_|refine g_seq ?_)
  refine g_cond (fun h3=>?_) (fun h3=>?_)
  ·have hjl : j < pn:=by simpa using h3
   obtain ⟨ph,hphj⟩ : ∃ ph,B.phis[j]? = some ph:=⟨_,List.getElem?_eq_getElem (by omega)⟩
   obtain ⟨b2,o2,had2,hold2,hel2⟩:=slKnown (S:=NoS) hph (fun _=>inferInstance) (fun _ _ h=>by obtain ⟨_,e,_⟩:=h; exact ⟨_,_,e⟩) (ne_of_get hphj)
   obtain ⟨_,hci2,sv,rfl,_,hsv⟩:=hel2 j ph hphj
   have hlij : LtIs j pn:=⟨hjl⟩
   repeat (first|refine g_op rfl ?_|refine g_then ?_|refine g_region ?_|refine g_seq ?_|refine g_block ?_|refine g_skip ?_)
   refine g_eqH (H1:=[ivE a2 c2 m]++[Ent.box p6 [.slice pa pn pc,.slice xa xm xc,.int .i64 B.kind,.bool B.on.reg,.int .i64 B.on.n,.slice tva tvn tvc] 50,Ent.box p1 [.string nm,.int .i64 (P : Int),.int .i64 re,.slice va vn vc] 35]) rfl ?_
   refine g_callS (val:=fun x : Option Addr × Nat=>.slice x.1 (meet m ph.dst).length x.2) (E:=fun x=>[ivE x.1 x.2 (meet m ph.dst)]) (φ:=fun _=>True) rfl (fun w hw=>meetR_c a2 c2 m ph.dst (by have:=hmok.len; omega) (hmok.ins hR) w hw.pre) fun x _=>?_
   obtain ⟨a3,c3⟩:=x
   simp only [List.cons_append,List.nil_append]
   repeat (first|refine g_op rfl ?_|refine g_then ?_|refine g_nil ?_|refine g_region ?_|refine g_opS rfl ?_|refine g_inBlock ?_|refine g_add rfl (by omega) (by omega) ?_)
   exact g_next (j + 1,a3,c3,meet m ph.dst) ⟨by simp only; omega,by simp only; rw [List.take_add_one,hphj,List.map_append,meets_app,← hm]; rfl⟩ (by simp only; omega) (by repeat (first|exact trivial|refine ⟨rfl,?_⟩)) (.refl _)
  have hje : j = B.phis.length:=by have:=of_decide_eq_false h3; omega
  rw [hje,List.take_length] at hm
  repeat (first|refine g_op rfl ?_|refine g_then ?_|refine g_nil ?_|refine g_region ?_|refine g_seq ?_|refine g_block ?_|refine g_exit ?_|refine g_thenExit ?_|refine g_exitHere ?_)
  refine g_loop (fun (x : Nat × Option Addr × Nat × List Int)=>x.1 ≤ xm∧x.2.2.2 = meets m ((B.list.take x.1).flatMap seqI)) (fun x=>[(8,.int .i64 x.1),(3,.slice x.2.1 x.2.2.2.length x.2.2.1),(6,.pointer (some ⟨p6,0,none⟩)),(5,.int .i64 i),(1,.pointer (some ⟨p1,0,none⟩))]) (fun x=>[ivE x.2.1 x.2.2.1 x.2.2.2,Ent.box p6 [.slice pa pn pc,.slice xa xm xc,.int .i64 B.kind,.bool B.on.reg,.int .i64 B.on.n,.slice tva tvn tvc] 50,Ent.box p1 [.string nm,.int .i64 (P : Int),.int .i64 re,.slice va vn vc] 35]) (fun x=>xm - x.1) (0,a2,c2,m) ⟨Nat.zero_le _,rfl⟩ (g_done (by repeat (first|exact trivial|refine ⟨rfl,?_⟩)) (.refl _)) fun x ⟨hk,hm2⟩=>?_
  obtain ⟨k,a3,c3,m2⟩:=x
  simp only at hk hm2 ⊢
  have hsI : ∀ x ∈ B.list,∀ r ∈ seqI x,0 ≤ r∧r < R:=fun x hx r hr=>hsB r (List.mem_append_right _ (List.mem_append_left _ (List.mem_flatMap.2 ⟨x,hx,hr⟩)))
  have hmok2 : LOk R m2:=by
   rw [hm2]
   refine hmok.meets fun r hr=>?_
   obtain ⟨x,hx,hr⟩:=List.mem_flatMap.1 hr
   exact hsI x (List.mem_of_mem_take hx) r hr
  repeat (first|refine g_op rfl ?_|refine g_then ?_|refine g_nil ?_|refine g_region ?_|refine g_seq ?_)
  refine g_cond (fun h4=>?_) (fun h4=>?_)
  ·have hkl : k < xm:=by simpa using h4
   obtain ⟨x,hx⟩ : ∃ x,B.list[k]? = some x:=⟨_,List.getElem?_eq_getElem (by omega)⟩
   have hxm:=List.mem_of_getElem? hx
   have hsx:=hsI x hxm
   have hnext : meets m ((B.list.take (k + 1)).flatMap seqI) = meets m2 (seqI x):=by rw [List.take_add_one,hx,List.flatMap_append,meets_app,← hm2]; simp
   unfold seqI at hnext hsx
   rw [meets_app] at hnext
   obtain ⟨b2,o2,had2,hold2,hel2⟩:=slKnown (S:=NoS) hli (fun _=>inferInstance) (fun _ _ h=>by obtain ⟨_,e,_⟩:=h; exact ⟨_,_,e⟩) (ne_of_get hx)
   obtain ⟨_,hci2,av,rfl,_,_,hian,hibn,_,hav⟩:=hel2 k x hx
   obtain ⟨ava,avn,avc,_,_,rfl,_⟩:=id hav
   have hlik : LtIs k xm:=⟨hkl⟩
   repeat (first|refine g_op rfl ?_|refine g_then ?_|refine g_region ?_|refine g_seq ?_|refine g_block ?_|refine g_skip ?_)
   refine g_callE (val:=fun y : Option Addr × Nat × Nat=>.slice y.1 (usesOf x).length y.2.1) (E:=fun y=>[Ent.vec y.1 (usesOf x).length y.2.1 y.2.2 2 ((usesOf x).flatMap valC)]) (φ:=fun _=>True) rfl (fun w hw=>uses_c x ava avn avc w (hav.keep keeps_val hw.chg) (harg B hBm x hxm)) fun y _=>?_
   obtain ⟨ya,yc,ye⟩:=y
   simp only [List.cons_append,List.nil_append]
   skip
   refine g_permH (H1:=[ivE a3 c3 m2]++[Ent.vec ya (usesOf x).length yc ye 2 ((usesOf x).flatMap valC),Ent.box p6 [.slice pa pn pc,.slice xa xm xc,.int .i64 B.kind,.bool B.on.reg,.int .i64 B.on.n,.slice tva tvn tvc] 50,Ent.box p1 [.string nm,.int .i64 (P : Int),.int .i64 re,.slice va vn vc] 35]) (List.perm_iff_count.2 fun e=>by simp only [List.count_append,List.count_cons,List.count_nil]; omega) ?_
   refine g_callS (val:=fun x' : Option Addr × Nat=>.slice x'.1 (meets m2 ((usesOf x).flatMap seqV)).length x'.2) (E:=fun x'=>[ivE x'.1 x'.2 (meets m2 ((usesOf x).flatMap seqV))]) (φ:=fun _=>True) rfl (fun w hw=>meetAllR_c a3 c3 m2 R hR hmok2 ya (usesOf x).length yc (usesOf x) (fun v hv hreg=>hsx v.n (List.mem_append_left _ (List.mem_flatMap.2 ⟨v,hv,by unfold seqV; rw [if_pos hreg]; simp⟩))) w hw.pre (vals_sl (k:=0) hw.besides rfl rfl (by
     have:=harg B hBm x hxm
     unfold usesOf
     repeat' split
     all_goals first|omega|simp) (uses_in hian hibn (val_in hav)))) fun x' _=>?_
   obtain ⟨a4,c4⟩:=x'
   simp only [List.cons_append,List.nil_append]
   obtain ⟨m3,hm3⟩ : ∃ m3,m3 = meets m2 ((usesOf x).flatMap seqV):=⟨_,rfl⟩
   rw [← hm3] at hnext ⊢
   have hmok3 : LOk R m3:=by rw [hm3]; exact hmok2.meets fun r hr=>hsx r (List.mem_append_left _ hr)
   repeat (first|refine g_op rfl ?_|refine g_then ?_|refine g_nil ?_|refine g_region ?_|refine g_seq ?_|refine g_opS rfl ?_)
   refine g_cond (fun h6=>?_) (fun h6=>?_)
   ·have hge : 0 ≤ x.dst:=by simpa using h6
    rw [if_pos hge,meets_one] at hnext
    repeat (first|refine g_op rfl ?_|refine g_region ?_)
    refine g_eqH (H1:=[ivE a4 c4 m3]++[Ent.vec ya (usesOf x).length yc ye 2 ((usesOf x).flatMap valC),Ent.box p6 [.slice pa pn pc,.slice xa xm xc,.int .i64 B.kind,.bool B.on.reg,.int .i64 B.on.n,.slice tva tvn tvc] 50,Ent.box p1 [.string nm,.int .i64 (P : Int),.int .i64 re,.slice va vn vc] 35]) rfl ?_
    refine g_callS (val:=fun y : Option Addr × Nat=>.slice y.1 (meet m3 x.dst).length y.2) (E:=fun y=>[ivE y.1 y.2 (meet m3 x.dst)]) (φ:=fun _=>True) rfl (fun w hw=>meetR_c a4 c4 m3 x.dst (by have:=hmok3.len; omega) (hmok3.ins hR) w hw.pre) fun y _=>?_
    obtain ⟨a5,c5⟩:=y
    simp only [List.cons_append,List.nil_append]
    repeat (first|refine g_op rfl ?_|refine g_then ?_|refine g_nil ?_|refine g_region ?_|refine g_opS rfl ?_|refine g_inBlock ?_|refine g_add rfl (by omega) (by omega) ?_)
    exact g_next (k + 1,a5,c5,meet m3 x.dst) ⟨by simp only; omega,hnext.symm⟩ (by simp only; omega) (by repeat (first|exact trivial|refine ⟨rfl,?_⟩)) (.cons_cons _ (.cons _ (.refl _)))
   ·have hlt : ¬ 0 ≤ x.dst:=by simpa using h6
    rw [if_neg hlt,meets_nil] at hnext
    repeat (first|refine g_op rfl ?_|refine g_then ?_|refine g_nil ?_|refine g_region ?_|refine g_opS rfl ?_|refine g_inBlock ?_|refine g_skip ?_|refine g_add rfl (by omega) (by omega) ?_)
    exact g_next (k + 1,a4,c4,m3) ⟨by simp only; omega,hnext.symm⟩ (by simp only; omega) (by repeat (first|exact trivial|refine ⟨rfl,?_⟩)) (.cons_cons _ (.cons _ (.refl _)))
  have hke : k = B.list.length:=by have:=of_decide_eq_false h4; omega
  rw [hke,List.take_length] at hm2
  repeat (first|refine g_op rfl ?_|refine g_then ?_|refine g_region ?_|refine g_exit ?_|refine g_thenExit ?_|refine g_exitHere ?_|refine g_build1 rfl rfl fun _ _=>?_)
  rename_i t1 _
  refine g_permH (H1:=[ivE a3 c3 m2]++[Ent.vec (some ⟨t1,0,none⟩) 1 1 46 2 [.bool B.on.reg,.int .i64 B.on.n],Ent.box p6 [.slice pa pn pc,.slice xa xm xc,.int .i64 B.kind,.bool B.on.reg,.int .i64 B.on.n,.slice tva tvn tvc] 50,Ent.box p1 [.string nm,.int .i64 (P : Int),.int .i64 re,.slice va vn vc] 35]) (List.perm_iff_count.2 fun e=>by simp only [List.count_append,List.count_cons,List.count_nil]; omega) ?_
  have hnx : meets m2 (([B.on] : List LVal).flatMap seqV) = meets (parL P) ((bl.take (i + 1)).flatMap seqB):=by
   rw [List.take_add_one,hB,List.flatMap_append,meets_app,← hl,hm2,hm,← meets_app,← meets_app]
   simp [seqB]
  refine g_callS (val:=fun x' : Option Addr × Nat=>.slice x'.1 (meets m2 (([B.on] : List LVal).flatMap seqV)).length x'.2) (E:=fun x'=>[ivE x'.1 x'.2 (meets m2 (([B.on] : List LVal).flatMap seqV))]) (φ:=fun _=>True) rfl (fun w hw=>meetAllR_c a3 c3 m2 R hR hmok2 (some ⟨t1,0,none⟩) 1 1 [B.on] (fun v hv hreg=>by
   rw [List.mem_singleton.1 hv] at hreg ⊢
   exact hbok.on hreg) w hw.pre (vals_sl (k:=0) (e:=46) (l:=[B.on]) hw.besides rfl rfl (by omega) (fun v hv=>by rw [List.mem_singleton.1 hv]; exact hion))) fun x' _=>?_
  obtain ⟨a4,c4⟩:=x'
  simp only [List.cons_append,List.nil_append]
  repeat (first|refine g_op rfl ?_|refine g_then ?_|refine g_nil ?_|refine g_region ?_|refine g_opS rfl ?_|refine g_inBlock ?_|refine g_add rfl (by omega) (by omega) ?_)
  exact g_next (i + 1,a4,c4,meets m2 (([B.on] : List LVal).flatMap seqV)) ⟨by simp only; omega,hnx⟩ (by simp only; omega) (by repeat (first|exact trivial|refine ⟨rfl,?_⟩)) (.cons_cons _ (.cons _ (.cons _ (.refl _))))
 have hie : i = bl.length:=by have:=of_decide_eq_false h2; omega
 rw [hie,List.take_length] at hl
 repeat (first|refine g_op rfl ?_|refine g_then ?_|refine g_nil ?_|refine g_region ?_|refine g_seq ?_|refine g_block ?_|refine g_exit ?_|refine g_thenExit ?_|refine g_exitHere ?_)
 obtain ⟨L1,hL1⟩ : ∃ L1,L1 = l:=⟨_,rfl⟩
 rw [← hL1]
 have hL1ok : LOk R L1:=by rw [hL1]; exact hlok
 rw [hL1.symm] at hl
 refine g_loop (fun (x : Nat × Option Addr × Nat × List Int)=>x.1 ≤ vn∧x.2.2.2 = meets L1 ((bl.take x.1).flatMap seqP)) (fun x=>[(9,.int .i64 x.1),(3,.slice x.2.1 x.2.2.2.length x.2.2.1),(1,.pointer (some ⟨p1,0,none⟩))]) (fun x=>[ivE x.2.1 x.2.2.1 x.2.2.2,Ent.box p1 [.string nm,.int .i64 (P : Int),.int .i64 re,.slice va vn vc] 35]) (fun x=>vn - x.1) (0,a,c,L1) ⟨Nat.zero_le _,rfl⟩ (g_done (by repeat (first|exact trivial|refine ⟨rfl,?_⟩)) (.refl _)) fun x ⟨hi2,hm⟩=>?_
 obtain ⟨i,a,c,m⟩:=x
 simp only at hi2 hm ⊢
 have hmok : LOk R m:=by
  rw [hm]
  refine hL1ok.meets fun r hr=>?_
  obtain ⟨B,hB,hr⟩:=List.mem_flatMap.1 hr
  exact hbs B (List.mem_of_mem_take hB) r (.inr hr)
 repeat (first|refine g_op rfl ?_|refine g_then ?_|refine g_nil ?_|refine g_region ?_|refine g_seq ?_)
 refine g_cond (fun h2=>?_) (fun h2=>?_)
 ·have hil : i < vn:=by simpa using h2
  obtain ⟨B,hB⟩ : ∃ B,bl[i]? = some B:=⟨_,List.getElem?_eq_getElem (by omega)⟩
  have hBm:=List.mem_of_getElem? hB
  have hbok:=hf.block i B hB
  have hsP : ∀ r ∈ seqP B,0 ≤ r∧r < R:=fun r hr=>hbs B hBm r (.inr hr)
  obtain ⟨b1,o1,had1,hold1,hel1⟩:=slKnown (S:=NoS) hb (fun _=>inferInstance) (fun _ _ h=>by obtain ⟨_,_,_,e,_⟩:=h; exact ⟨_,_,e⟩) (ne_of_get hB)
  obtain ⟨_,hci1,pv,lv,tv,rfl,_,hion,hph,hli,ht⟩:=hel1 i B hB
  have hlii : LtIs i vn:=⟨hil⟩
  obtain ⟨pa,pn,pc,_,_,rfl,hpn,hpnc,hpnb,_⟩:=id hph
  repeat (first|refine g_op rfl ?_|refine g_then ?_|refine g_nil ?_|refine g_region ?_|refine g_seq ?_|refine g_block ?_|refine g_skip ?_)
  refine g_loop (fun (x : Nat × Option Addr × Nat × List Int)=>x.1 ≤ pn∧x.2.2.2 = meets m ((B.phis.take x.1).flatMap fun p=>p.src.flatMap seqV)) (fun x=>[(10,.int .i64 x.1),(3,.slice x.2.1 x.2.2.2.length x.2.2.1),(9,.int .i64 i),(1,.pointer (some ⟨p1,0,none⟩))]) (fun x=>[ivE x.2.1 x.2.2.1 x.2.2.2,Ent.box p1 [.string nm,.int .i64 (P : Int),.int .i64 re,.slice va vn vc] 35]) (fun x=>pn - x.1) (0,a,c,m) ⟨Nat.zero_le _,rfl⟩ (g_done (by repeat (first|exact trivial|refine ⟨rfl,?_⟩)) (.refl _)) fun x ⟨hj,hm2⟩=>?_
  obtain ⟨j,a2,c2,m2⟩:=x
  simp only at hj hm2 ⊢
  have hsrc : ∀ p ∈ B.phis,∀ r ∈ p.src.flatMap seqV,0 ≤ r∧r < R:=fun p hp r hr=>hsP r (List.mem_flatMap.2 ⟨p,hp,hr⟩)
  have hmok2 : LOk R m2:=by
   rw [hm2]
   refine hmok.meets fun r hr=>?_
   obtain ⟨p,hp,hr⟩:=List.mem_flatMap.1 hr
   exact hsrc p (List.mem_of_mem_take hp) r hr
  repeat (first|refine g_op rfl ?_|refine g_then ?_|refine g_nil ?_|refine g_region ?_|refine g_seq ?_)
  refine g_cond (fun h3=>?_) (fun h3=>?_)
  ·have hjl : j < pn:=by simpa using h3
   obtain ⟨ph,hphj⟩ : ∃ ph,B.phis[j]? = some ph:=⟨_,List.getElem?_eq_getElem (by omega)⟩
   obtain ⟨b2,o2,had2,hold2,hel2⟩:=slKnown (S:=NoS) hph (fun _=>inferInstance) (fun _ _ h=>by obtain ⟨_,e,_⟩:=h; exact ⟨_,_,e⟩) (ne_of_get hphj)
   obtain ⟨_,hci2,sv,rfl,_,hsv⟩:=hel2 j ph hphj
   obtain ⟨sva,svn,svc,_,_,rfl,_⟩:=id hsv
   have hlij : LtIs j pn:=⟨hjl⟩
   repeat (first|refine g_op rfl ?_|refine g_then ?_|refine g_region ?_|refine g_seq ?_|refine g_block ?_|refine g_skip ?_)
   refine g_eqH (H1:=[ivE a2 c2 m2]++[Ent.box p1 [.string nm,.int .i64 (P : Int),.int .i64 re,.slice va vn vc] 35]) rfl ?_
   refine g_callS (val:=fun x : Option Addr × Nat=>.slice x.1 (meets m2 (ph.src.flatMap seqV)).length x.2) (E:=fun x=>[ivE x.1 x.2 (meets m2 (ph.src.flatMap seqV))]) (φ:=fun _=>True) rfl (fun w hw=>meetAllR_c a2 c2 m2 R hR hmok2 sva svn svc ph.src (fun v hv hreg=>hsrc ph (List.mem_of_getElem? hphj) v.n (List.mem_flatMap.2 ⟨v,hv,by unfold seqV; rw [if_pos hreg]; simp⟩)) w hw.pre (hsv.le mono_val hw.killOldN)) fun x _=>?_
   obtain ⟨a3,c3⟩:=x
   simp only [List.cons_append,List.nil_append]
   repeat (first|refine g_op rfl ?_|refine g_then ?_|refine g_nil ?_|refine g_region ?_|refine g_opS rfl ?_|refine g_inBlock ?_|refine g_add rfl (by omega) (by omega) ?_)
   exact g_next (j + 1,a3,c3,meets m2 (ph.src.flatMap seqV)) ⟨by simp only; omega,by simp only; rw [List.take_add_one,hphj,List.flatMap_append,meets_app,← hm2]; simp⟩ (by simp only; omega) (by repeat (first|exact trivial|refine ⟨rfl,?_⟩)) (.refl _)
  have hje : j = B.phis.length:=by have:=of_decide_eq_false h3; omega
  rw [hje,List.take_length] at hm2
  repeat (first|refine g_op rfl ?_|refine g_then ?_|refine g_nil ?_|refine g_region ?_|refine g_opS rfl ?_|refine g_inBlock ?_|refine g_add rfl (by omega) (by omega) ?_|refine g_exit ?_|refine g_thenExit ?_|refine g_exitHere ?_)
  exact g_next (i + 1,a2,c2,m2) ⟨by simp only; omega,by simp only; rw [List.take_add_one,hB,List.flatMap_append,meets_app,← hm,hm2]; simp [seqP]⟩ (by simp only; omega) (by repeat (first|exact trivial|refine ⟨rfl,?_⟩)) (.refl _)
 have hie2 : i = bl.length:=by have:=of_decide_eq_false h2; omega
 rw [hie2,List.take_length] at hm
 have hmE : m = metL P bl:=by
  rw [hm,hl,← meets_app]
  unfold metL seqL once
  rw [meets_app []]
  congr 1
  exact (once_self (parL_nodup P)).symm
 rw [hmE]
 repeat (first|refine g_op rfl ?_|refine g_then ?_|refine g_nil ?_|refine g_region ?_|refine g_seq ?_|refine g_exit ?_|refine g_thenExit ?_|refine g_exitHere ?_|refine g_ret ?_)
 exact g_ret1 rfl fun w hw=>⟨(a,c),rfl,hw.sel [0] (by decide),trivial⟩
theorem idxI_le {x : Int} : ∀ {l : List Int} {i : Nat},l[i]? = some x→l.idxOf x ≤ i
 | [],i,h=>by simp at h
 | y::l,0,h=>by
  simp only [List.getElem?_cons_zero,Option.some.injEq] at h
  subst h
  simp
 | y::l,i + 1,h=>by
  rw [List.idxOf_cons]
  cases (y == x)
  ·have:=idxI_le (l:=l) (i:=i) (by simpa using h)
   simpa using this
  ·simp
def plcI (l : List Int) (x : Int) : Int:=if x ∈ l then (l.idxOf x : Int) else -1
theorem plcI_c (v : Value) (l : List Int) (x : Int) (w0 : World) (hv : SlAt w0 v 1 l IntV) : RetV Tryz.prog 61 [v,.int .i64 x] w0 (.int .i64 (plcI l x)):=by
 obtain ⟨a,n,c,b,o,rfl,hn,hnc,hnb,hc,ha,hel⟩:=hv
 refine ret_enter Tryz.func61 rfl Tryz.ntmps61 rfl (Wd.nil NoS w0) ?_
 repeat (first|refine g_op rfl ?_|refine g_then ?_|refine g_nil ?_|refine g_region ?_|refine g_seq ?_|refine g_block ?_)
 refine g_loop (fun (i : Nat)=>i ≤ n∧∀ j y,j < i→l[j]? = some y→y ≠ x) (fun i=>[(5,.int .i64 i),(0,.slice a n c),(1,.int .i64 x)]) (fun _=>[]) (fun i=>n - i) 0 ⟨Nat.zero_le _,fun j y hj=>by omega⟩ (g_done (by repeat (first|exact trivial|refine ⟨rfl,?_⟩)) (by simp)) fun i ⟨hi,hall⟩=>?_
 repeat (first|refine g_op rfl ?_|refine g_then ?_|refine g_nil ?_|refine g_region ?_|refine g_seq ?_)
 refine g_cond (fun h1=>?_) (fun h1=>?_)
 ·have hlt : i < n:=by simpa using h1
  obtain ⟨t,ht⟩ : ∃ t,l[i]? = some t:=⟨_,List.getElem?_eq_getElem (by omega)⟩
  have had : AddrIs a b o:=⟨ha (ne_of_get ht)⟩
  have hli : LtIs i n:=⟨hlt⟩
  obtain ⟨cs,hcs,rfl,_⟩:=hel i _ ht
  have hci : CellsIs w0 b (o + i * 1) _:=⟨hcs⟩
  repeat (first|refine g_op rfl ?_|refine g_then ?_|refine g_nil ?_|refine g_region ?_|refine g_seq ?_|refine g_block ?_|refine g_skip ?_)
  refine g_cond (fun h2=>?_) (fun h2=>?_)
  ·have h5 : t = x:=by simpa using h2
   repeat (first|refine g_op rfl ?_|refine g_then ?_|refine g_nil ?_|refine g_region ?_|refine g_seq ?_|refine g_ret ?_|refine g_thenRet ?_|refine g_blockRet ?_)
   refine g_retV rfl ?_
   subst h5
   unfold plcI
   rw [if_pos (List.mem_of_getElem? ht)]
   congr 1
   have h3:=List.idxOf_lt_length_of_mem (List.mem_of_getElem? ht)
   have h4:=List.getElem_idxOf h3
   have : ¬ l.idxOf t < i:=fun hlt=>hall _ _ hlt (List.getElem?_eq_getElem h3) h4
   have h6:=idxI_le ht
   omega
  ·have h5 : t ≠ x:=by simpa using h2
   repeat (first|refine g_op rfl ?_|refine g_then ?_|refine g_nil ?_|refine g_region ?_|refine g_opS rfl ?_|refine g_inBlock ?_|refine g_skip ?_|refine g_add rfl (by omega) (by omega) ?_)
   refine g_next (i + 1) ⟨hlt,fun j y hj hy=>?_⟩ (by omega) (by repeat (first|exact trivial|refine ⟨rfl,?_⟩)) (by simp)
   by_cases e : j = i
   ·subst e
    rw [ht] at hy
    exact fun e=>h5 (by rw [← e]; exact Option.some.inj hy)
   ·exact hall j y (by omega) hy
 ·have hge : i = n:=by have:=h1; simp at this; omega
  repeat (first|refine g_op rfl ?_|refine g_then ?_|refine g_nil ?_|refine g_region ?_|refine g_seq ?_|refine g_exit ?_|refine g_thenExit ?_|refine g_exitHere ?_|refine g_ret ?_)
  refine g_retV rfl ?_
  unfold plcI
  rw [if_neg fun h=>?_]
  obtain ⟨j,hj⟩:=List.getElem?_of_mem h
  exact absurd rfl (hall j x (by have:=(List.getElem?_eq_some_iff.1 hj).1; omega) hj)
theorem plcI_in {L : List Int} {r : Int} (h : r ∈ L) : plcI L r = plc L r:=by unfold plcI plc; rw [if_pos h]
theorem namedR_c (L : List Int) (l : Value) (v : LVal) (hv : ∀ r ∈ seqV v,r ∈ L) (w0 : World) (hl : SlAt w0 l 1 L IntV) :
  Ret Tryz.prog 67 [.agg #[.bool v.reg,.int .i64 v.n],l] w0 fun u w'=>∃ _x : Unit,u = .agg #[.bool (renV L v).reg,.int .i64 (renV L v).n]∧Wd NoS w0 [] w'∧True:=by
 obtain ⟨reg,k⟩:=v
 refine ret_enter Tryz.func67 rfl Tryz.ntmps67 rfl (Wd.nil NoS w0) ?_
 cases reg with
 | false =>
  rw [show renV L ⟨false,k⟩ = ⟨false,k⟩ from rfl]
  repeat (first|refine g_op rfl ?_|refine g_then ?_|refine g_nil ?_|refine g_region ?_|refine g_seq ?_|refine g_box rfl fun _ _=>?_|refine g_alloc rfl fun _ _=>?_|refine g_storeAgg ?_|refine g_skip ?_|refine g_condF ?_|refine g_ret ?_)
  exact g_retC rfl fun w hw=>⟨(),rfl,hw.sub (by simp),trivial⟩
 | true =>
  rw [show renV L ⟨true,k⟩ = ⟨true,plc L k⟩ from rfl]
  have hk:=plcI_in (hv k (by simp [seqV]))
  repeat (first|refine g_op rfl ?_|refine g_then ?_|refine g_nil ?_|refine g_region ?_|refine g_seq ?_|refine g_box rfl fun _ _=>?_|refine g_alloc rfl fun _ _=>?_|refine g_condT ?_)
  refine g_callV rfl (fun w hw=>plcI_c l L k w (hl.keep keeps_int hw.chg)) ?_
  rw [hk]
  repeat (first|refine g_op rfl ?_|refine g_then ?_|refine g_nil ?_|refine g_storeAgg ?_|refine g_ret ?_|refine g_thenRet ?_)
  exact g_retC rfl fun w hw=>⟨(),rfl,hw.sub (by simp),trivial⟩
theorem rowC_part {H : List Ent} {k b o n c e : Nat} {l : List IRow} {i : Nat} {y : IRow} (hk : H[k]? = some (Ent.vec (some ⟨b,o,none⟩) n c e 8 (l.flatMap rowC))) (hy : l[i]? = some y) (f : Nat) {v1 v2 : Value} (h1 : (rowC y)[f]? = some v1) (h2 : (rowC y)[f + 1]? = some v2) : OwnAgg H b (o + i * 8 + f) [v1,v2]:=⟨fun _ _ w hw j v hj=>by
 match j,hj with
 | 0,hj =>
  have h5:=hw.vecCell hk (flat_at rowC_len l i y f _ hy h1)
  rw [← Nat.add_assoc] at h5
  simp only [List.getElem?_cons_zero,Option.some.injEq] at hj
  rw [← hj]
  exact h5
 | 1,hj =>
  have h5:=hw.vecCell hk (flat_at rowC_len l i y (f + 1) _ hy h2)
  rw [← Nat.add_assoc,← Nat.add_assoc] at h5
  simp only [List.getElem?_cons_succ,List.getElem?_cons_zero,Option.some.injEq] at hj
  rw [← hj]
  exact h5
 | j + 2,hj=>simp at hj⟩
theorem rowA_put {l : List IRow} {i : Nat} {x : LIns} {a : Option Addr} {c : Nat} (hx : l[i]? = some (⟨x,a,c⟩ : IRow)) (v : LVal) : (l.flatMap rowC).take (i * 8 + 2)++[.bool v.reg,.int .i64 v.n]++(l.flatMap rowC).drop (i * 8 + 2 + 2) = (l.set i (⟨{ x with a:=v },a,c⟩ : IRow)).flatMap rowC:=by
 have hil:=(List.getElem?_eq_some_iff.1 hx).1
 rw [take_put2 (by rw [flat_len rowC_len]; omega),flat_set rowC_len hx (k:=2) (y:=(⟨{ x with a:=⟨v.reg,x.a.n⟩ },a,c⟩ : IRow)) (by omega) rfl]
 rw [show i * 8 + 2 + 1 = i * 8 + 3 by omega,flat_set rowC_len (x:=(⟨{ x with a:=⟨v.reg,x.a.n⟩ },a,c⟩ : IRow)) (List.getElem?_set_self hil) (k:=3) (y:=(⟨{ x with a:=v },a,c⟩ : IRow)) (by omega) rfl,List.set_set]
theorem rowB_put {l : List IRow} {i : Nat} {x : LIns} {a : Option Addr} {c : Nat} (hx : l[i]? = some (⟨x,a,c⟩ : IRow)) (v : LVal) : (l.flatMap rowC).take (i * 8 + 4)++[.bool v.reg,.int .i64 v.n]++(l.flatMap rowC).drop (i * 8 + 4 + 2) = (l.set i (⟨{ x with b:=v },a,c⟩ : IRow)).flatMap rowC:=by
 have hil:=(List.getElem?_eq_some_iff.1 hx).1
 rw [take_put2 (by rw [flat_len rowC_len]; omega),flat_set rowC_len hx (k:=4) (y:=(⟨{ x with b:=⟨v.reg,x.b.n⟩ },a,c⟩ : IRow)) (by omega) rfl]
 rw [show i * 8 + 4 + 1 = i * 8 + 5 by omega,flat_set rowC_len (x:=(⟨{ x with b:=⟨v.reg,x.b.n⟩ },a,c⟩ : IRow)) (List.getElem?_set_self hil) (k:=5) (y:=(⟨{ x with b:=v },a,c⟩ : IRow)) (by omega) rfl,List.set_set]
theorem set_tail {α : Type} {ys d : List α} {x y : α} {k : Nat} (h : ys.length = k) : ((ys++[x])++d).set k y = (ys++[y])++d:=by
 rw [List.set_append_left _ _ (by simp [h]),List.set_append_right _ _ (by omega),h,Nat.sub_self]
 rfl
theorem get_tail {α : Type} {ys d : List α} {x : α} {k : Nat} (h : ys.length = k) : ((ys++[x])++d)[k]? = some x:=by
 rw [List.getElem?_append_left (by simp [h]),List.getElem?_append_right (by omega),h,Nat.sub_self]
 rfl
theorem renamedR_c (nm : ByteArray) (pa re : Int) (bl : List LBlock) (bs : Value) (R : Nat) (hR : R ≤ 1000) (L : List Int) (la : Option Addr) (ln lc : Nat) (hL : LOk R L) (hreg : ∀ B ∈ bl,(∀ r,r ∈ seqB B ∨ r ∈ seqP B→r ∈ L)∧∀ x ∈ B.list,∀ v : LVal,v = x.a ∨ v = x.b ∨ v ∈ x.args→∀ r ∈ seqV v,r ∈ L) (w0 : World) (hbs : SlAt w0 bs 6 bl BlockV) (hlen : bl.length ≤ 1000) (hbd : ∀ b : BRow,b.blk ∈ bl→b.Bd) (hl : SlAt w0 (.slice la ln lc) 1 L IntV) :
  Ret Tryz.prog 34 [.agg #[.string nm,.int .i64 pa,.int .i64 re,bs],.slice la ln lc] w0 fun u w'=>∃ x : Option Addr × Nat × List BRow,u = .agg #[.string nm,.int .i64 pa,.int .i64 re,.slice x.1 x.2.2.length x.2.1]∧Wd NoS w0 (fnE x.1 x.2.1 x.2.2) w'∧(x.2.2.map BRow.blk = bl.map (renB L)∧∀ b ∈ x.2.2,b.Bd):=by
 classical
 have hLl:=hL.len
 refine ret_enter Tryz.func34 rfl Tryz.ntmps34 rfl (Wd.nil NoS w0) ?_
 repeat (first|refine g_op rfl ?_|refine g_then ?_|refine g_nil ?_|refine g_region ?_|refine g_seq ?_|refine g_box rfl fun _ _=>?_|refine g_alloc rfl fun _ _=>?_)
 rename_i p2 _ p4 _
 refine g_callE (val:=fun x : Option Addr × Nat × List BRow=>.agg #[.string nm,.int .i64 pa,.int .i64 re,.slice x.1 x.2.2.length x.2.1]) (E:=fun x=>fnE x.1 x.2.1 x.2.2) (φ:=fun x=>x.2.2.map BRow.blk = bl∧∀ b ∈ x.2.2,b.Bd) rfl (fun w hw=>funcR_c nm pa re bl bs w (hbs.keep keeps_block hw.chg) hlen fun b h1 h2=>?_) fun x hx=>?_
 ·exact hbd b h1
 obtain ⟨ga,gc,gs⟩:=x
 obtain ⟨hgb,hgd⟩:=hx
 simp only at hgb hgd ⊢
 repeat (first|refine g_op rfl ?_|refine g_then ?_|refine g_nil ?_|refine g_region ?_|refine g_seq ?_|refine g_alloc rfl fun _ _=>?_|refine g_storeAgg ?_|refine g_block ?_)
 rename_i p5 _
 obtain ⟨n,hn⟩ : ∃ n,n = gs.length:=⟨_,rfl⟩
 have hbn : bl.length = n:=by rw [← hgb,List.length_map,hn]
 rw [← hn]
 refine g_wd (H':=Ent.box p5 [.string nm,.int .i64 pa,.int .i64 re,.slice ga n gc] 35::Ent.box p4 [.string ByteArray.empty,.int .i64 0,.int .i64 0,.slice none 0 0] 35::Ent.vec ga n gc 50 6 (gs.flatMap blkC)::gs.map blkE) (fun w hw=>?_) ?_
 ·refine hw.pick ⟨[Ent.box p2 [.string nm,.int .i64 pa,.int .i64 re,bs] 35],List.perm_iff_count.2 fun e=>?_⟩
  unfold fnE
  rw [← hn]
  simp only [List.count_append,List.count_cons,List.count_nil]
  omega
 refine g_loop (fun (x : Nat × List BRow)=>x.1 ≤ n∧x.2.length = n∧x.2.map BRow.blk = (bl.take x.1).map (renB L)++bl.drop x.1∧∀ b ∈ x.2,b.Bd) (fun x=>[(6,.int .i64 x.1),(5,.pointer (some ⟨p5,0,none⟩)),(4,.pointer (some ⟨p4,0,none⟩)),(1,.slice la ln lc)])
  (fun x=>Ent.box p5 [.string nm,.int .i64 pa,.int .i64 re,.slice ga n gc] 35::Ent.box p4 [.string ByteArray.empty,.int .i64 0,.int .i64 0,.slice none 0 0] 35::Ent.vec ga n gc 50 6 (x.2.flatMap blkC)::x.2.map blkE) (fun x=>n - x.1) (0,gs) ⟨Nat.zero_le _,hn.symm,by rw [hgb]; simp,hgd⟩ (g_done (by repeat (first|exact trivial|refine ⟨rfl,?_⟩)) (.refl _)) fun x ⟨hi,hrl,hrk,hrd⟩=>?_
 obtain ⟨i,rs⟩:=x
 simp only at hi hrl hrk hrd ⊢
 repeat (first|refine g_op rfl ?_|refine g_then ?_|refine g_nil ?_|refine g_region ?_|refine g_seq ?_)
 refine g_cond (fun h2=>?_) (fun h2=>?_)
 ·have hil : i < n:=by simpa using h2
  obtain ⟨BB,hBB⟩ : ∃ B,rs[i]? = some B:=⟨_,List.getElem?_eq_getElem (by omega)⟩
  have hB : bl[i]? = some BB.blk:=by
   have h3 : (rs.map BRow.blk)[i]? = some BB.blk:=by rw [List.getElem?_map,hBB]; rfl
   rw [hrk,List.getElem?_append_right (by simp; omega),List.length_map,List.length_take,Nat.min_eq_left (by omega),Nat.sub_self,List.getElem?_drop,Nat.add_zero] at h3
   exact h3
  have hdropB : bl.drop i = BB.blk::bl.drop (i + 1):=by rw [List.drop_eq_getElem_cons (by omega),(List.getElem?_eq_some_iff.1 hB).2]
  have hBm:=List.mem_of_getElem? hB
  have hBd:=hrd _ (List.mem_of_getElem? hBB)
  obtain ⟨hrg1,hrg2⟩:=hreg _ hBm
  obtain ⟨qa,qc,ps,xa0,lc0,xs,kd,on,xa,xc,to⟩:=BB
  have hpsl : ps.length ≤ 1000:=hBd.phis
  have hxsl : xs.length ≤ 1000:=hBd.list
  refine g_vec 2 rfl (by omega) fun vb vo hva=>?_
  subst hva
  have hlii : LtIs i n:=⟨hil⟩
  have hob : OwnAgg (Ent.box p5 [.string nm,.int .i64 pa,.int .i64 re,.slice (some ⟨vb,vo,none⟩) n gc] 35::Ent.box p4 [.string ByteArray.empty,.int .i64 0,.int .i64 0,.slice none 0 0] 35::Ent.vec (some ⟨vb,vo,none⟩) n gc 50 6 (rs.flatMap blkC)::rs.map blkE) vb (vo + i * 6) _:=ownAgg (k:=2) rfl blkC_len hBB
  simp only [blkC] at hob
  repeat (first|refine g_op rfl ?_|refine g_then ?_|refine g_nil ?_|refine g_region ?_|refine g_seq ?_|refine g_alloc rfl fun _ _=>?_|refine g_storeAgg ?_|refine g_block ?_|refine g_skip ?_)
  rename_i p7 _
  have hpull:=map_pull blkE hBB
  refine g_permH (H1:=blkE (⟨qa,qc,ps,xa0,lc0,xs,kd,on,xa,xc,to⟩ : BRow)::(Ent.box p7 [.slice qa ps.length qc,.slice xa0 xs.length lc0,.int .i64 kd,.bool on.reg,.int .i64 on.n,.slice xa to.length xc] 50::Ent.box p5 [.string nm,.int .i64 pa,.int .i64 re,.slice (some ⟨vb,vo,none⟩) n gc] 35::Ent.box p4 [.string ByteArray.empty,.int .i64 0,.int .i64 0,.slice none 0 0] 35::Ent.vec (some ⟨vb,vo,none⟩) n gc 50 6 (rs.flatMap blkC)::(rs.eraseIdx i).map blkE)) (List.perm_iff_count.2 fun e=>?_) ?_
  ·have:=List.perm_iff_count.1 hpull e
   simp only [List.count_cons] at this ⊢
   omega
  refine g_unjoin ?_
  refine g_permH (H1:=Ent.vec qa ps.length qc 86 2 (ps.flatMap phiC)::Ent.box p7 [.slice qa ps.length qc,.slice xa0 xs.length lc0,.int .i64 kd,.bool on.reg,.int .i64 on.n,.slice xa to.length xc] 50::Ent.box p5 [.string nm,.int .i64 pa,.int .i64 re,.slice (some ⟨vb,vo,none⟩) n gc] 35::Ent.box p4 [.string ByteArray.empty,.int .i64 0,.int .i64 0,.slice none 0 0] 35::Ent.vec (some ⟨vb,vo,none⟩) n gc 50 6 (rs.flatMap blkC)::(ps.map phE++(rpE (⟨qa,qc,ps,xa0,lc0,xs,kd,on,xa,xc,to⟩ : BRow)++(rs.eraseIdx i).map blkE))) (List.perm_iff_count.2 fun e=>?_) ?_
  ·have:=List.perm_iff_count.1 (blkPs_ph (⟨qa,qc,ps,xa0,lc0,xs,kd,on,xa,xc,to⟩ : BRow)) e
   unfold phV at this
   simp only [List.count_cons,List.count_append] at this ⊢
   omega
  refine g_loop (fun (es : List PRow)=>es.length ≤ ps.length∧es.map PRow.phi = (ps.take es.length).map (fun q=>renP L q.phi)∧∀ q ∈ es,inI q.dst∧q.l.length ≤ 1000∧∀ v ∈ q.l,inI v.n) (fun es=>[(8,.int .i64 es.length),(7,.pointer (some ⟨p7,0,none⟩)),(6,.int .i64 i),(5,.pointer (some ⟨p5,0,none⟩)),(4,.pointer (some ⟨p4,0,none⟩)),(1,.slice la ln lc)])
   (fun es=>Ent.vec qa ps.length qc 86 2 ((es++ps.drop es.length).flatMap phiC)::Ent.box p7 [.slice qa ps.length qc,.slice xa0 xs.length lc0,.int .i64 kd,.bool on.reg,.int .i64 on.n,.slice xa to.length xc] 50::Ent.box p5 [.string nm,.int .i64 pa,.int .i64 re,.slice (some ⟨vb,vo,none⟩) n gc] 35::Ent.box p4 [.string ByteArray.empty,.int .i64 0,.int .i64 0,.slice none 0 0] 35::Ent.vec (some ⟨vb,vo,none⟩) n gc 50 6 (rs.flatMap blkC)::((es++ps.drop es.length).map phE++(rpE (⟨qa,qc,ps,xa0,lc0,xs,kd,on,xa,xc,to⟩ : BRow)++(rs.eraseIdx i).map blkE))) (fun es=>ps.length - es.length) [] ⟨Nat.zero_le _,rfl,by simp⟩ (g_done (by repeat (first|exact trivial|refine ⟨rfl,?_⟩)) (.refl _)) fun es ⟨hi2,hem,heb⟩=>?_
  repeat (first|refine g_op rfl ?_|refine g_then ?_|refine g_nil ?_|refine g_region ?_|refine g_seq ?_)
  refine g_cond (fun h3=>?_) (fun h3=>?_)
  ·have hlt : es.length < ps.length:=by simpa using h3
   generalize hiL : es.length = ei at *
   obtain ⟨u,hu⟩ : ∃ u,ps[ei]? = some u:=⟨_,List.getElem?_eq_getElem hlt⟩
   have hum:=List.mem_of_getElem? hu
   obtain ⟨hud,hub,huv⟩:=hBd.phi u hum
   obtain ⟨pd,pla,pk,pl⟩:=u
   simp only at hud hub huv
   have hpdL : pd ∈ L:=hrg1 pd (.inl (List.mem_append_left _ (List.mem_map.2 ⟨⟨pd,pl⟩,List.mem_map.2 ⟨⟨pd,pla,pk,pl⟩,hum,rfl⟩,rfl⟩)))
   have hsrcL : ∀ v ∈ pl,∀ r ∈ seqV v,r ∈ L:=fun v hv r hr=>hrg1 r (.inr (List.mem_flatMap.2 ⟨⟨pd,pl⟩,List.mem_map.2 ⟨⟨pd,pla,pk,pl⟩,hum,rfl⟩,List.mem_flatMap.2 ⟨v,hv,hr⟩⟩))
   refine g_vec 0 rfl (by omega) fun zb zo hza=>?_
   subst hza
   have hlj : LtIs ei ps.length:=⟨hlt⟩
   have hget : (es++ps.drop ei)[ei]? = some (⟨pd,pla,pk,pl⟩ : PRow):=by
    rw [List.getElem?_append_right (by omega),hiL,Nat.sub_self,List.getElem?_drop,Nat.add_zero]; exact hu
   have hdr : ps.drop ei = (⟨pd,pla,pk,pl⟩ : PRow)::ps.drop (ei + 1):=by rw [List.drop_eq_getElem_cons hlt,(List.getElem?_eq_some_iff.1 hu).2]
   refine g_permH (H1:=Ent.vec pla pl.length pk 46 2 (pl.flatMap vlC)::Ent.vec (some ⟨zb,zo,none⟩) ps.length qc 86 2 ((es++ps.drop ei).flatMap phiC)::Ent.box p7 [.slice (some ⟨zb,zo,none⟩) ps.length qc,.slice xa0 xs.length lc0,.int .i64 kd,.bool on.reg,.int .i64 on.n,.slice xa to.length xc] 50::Ent.box p5 [.string nm,.int .i64 pa,.int .i64 re,.slice (some ⟨vb,vo,none⟩) n gc] 35::Ent.box p4 [.string ByteArray.empty,.int .i64 0,.int .i64 0,.slice none 0 0] 35::Ent.vec (some ⟨vb,vo,none⟩) n gc 50 6 (rs.flatMap blkC)::((es++ps.drop (ei + 1)).map phE++(rpE (⟨some ⟨zb,zo,none⟩,qc,ps,xa0,lc0,xs,kd,on,xa,xc,to⟩ : BRow)++(rs.eraseIdx i).map blkE))) (List.perm_iff_count.2 fun e=>?_) ?_
   ·rw [hdr]
    have e2 : phE (⟨pd,pla,pk,pl⟩ : PRow) = Ent.vec pla pl.length pk 46 2 (pl.flatMap vlC):=rfl
    simp only [List.map_append,List.map_cons,List.count_append,List.count_cons,e2]
    omega
   have hoc : OwnCell (Ent.vec pla pl.length pk 46 2 (pl.flatMap vlC)::Ent.vec (some ⟨zb,zo,none⟩) ps.length qc 86 2 ((es++ps.drop ei).flatMap phiC)::Ent.box p7 [.slice (some ⟨zb,zo,none⟩) ps.length qc,.slice xa0 xs.length lc0,.int .i64 kd,.bool on.reg,.int .i64 on.n,.slice xa to.length xc] 50::Ent.box p5 [.string nm,.int .i64 pa,.int .i64 re,.slice (some ⟨vb,vo,none⟩) n gc] 35::Ent.box p4 [.string ByteArray.empty,.int .i64 0,.int .i64 0,.slice none 0 0] 35::Ent.vec (some ⟨vb,vo,none⟩) n gc 50 6 (rs.flatMap blkC)::((es++ps.drop (ei + 1)).map phE++(rpE (⟨some ⟨zb,zo,none⟩,qc,ps,xa0,lc0,xs,kd,on,xa,xc,to⟩ : BRow)++(rs.eraseIdx i).map blkE))) zb (zo + ei * 2) (.int .i64 pd):=⟨fun _ _ _ hw=>by
    have h5:=hw.vecCell (k:=1) rfl (flat_at phiC_len _ ei _ 0 (.int .i64 pd) hget rfl)
    rwa [Nat.add_zero] at h5⟩
   have hxs0 : XSet ((es++ps.drop ei).flatMap phiC) (ei * 2 + 0) (.int .i64 (plc L pd)) (((es++[(⟨plc L pd,pla,pk,pl⟩ : PRow)])++ps.drop (ei + 1)).flatMap phiC):=⟨by
    rw [flat_set phiC_len hget (k:=0) (by omega) (y:=(⟨plc L pd,pla,pk,pl⟩ : PRow)) rfl]
    congr 1
    exact set_mid hiL hlt,by rw [flat_len phiC_len,List.length_append,List.length_drop]; omega⟩
   have hot0 : OwnAt (Ent.vec pla pl.length pk 46 2 (pl.flatMap vlC)::Ent.vec (some ⟨zb,zo,none⟩) ps.length qc 86 2 ((es++ps.drop ei).flatMap phiC)::Ent.box p7 [.slice (some ⟨zb,zo,none⟩) ps.length qc,.slice xa0 xs.length lc0,.int .i64 kd,.bool on.reg,.int .i64 on.n,.slice xa to.length xc] 50::Ent.box p5 [.string nm,.int .i64 pa,.int .i64 re,.slice (some ⟨vb,vo,none⟩) n gc] 35::Ent.box p4 [.string ByteArray.empty,.int .i64 0,.int .i64 0,.slice none 0 0] 35::Ent.vec (some ⟨vb,vo,none⟩) n gc 50 6 (rs.flatMap blkC)::((es++ps.drop (ei + 1)).map phE++(rpE (⟨some ⟨zb,zo,none⟩,qc,ps,xa0,lc0,xs,kd,on,xa,xc,to⟩ : BRow)++(rs.eraseIdx i).map blkE))) zb (zo + ei * 2) 1 zo (ei * 2 + 0) ps.length qc 86 2 ((es++ps.drop ei).flatMap phiC):=⟨rfl,by omega⟩
   repeat (first|refine g_then ?_|refine g_seq ?_|refine g_block ?_|refine g_skip ?_)
   refine g_drawX [Ent.box p7 [.slice (some ⟨zb,zo,none⟩) ps.length qc,.slice xa0 xs.length lc0,.int .i64 kd,.bool on.reg,.int .i64 on.n,.slice xa to.length xc] 50] (fun _ : Unit=>True) (fun _=>[(8,.int .i64 ei),(7,.pointer (some ⟨p7,0,none⟩)),(6,.int .i64 i),(5,.pointer (some ⟨p5,0,none⟩)),(4,.pointer (some ⟨p4,0,none⟩)),(1,.slice la ln lc)]) (fun _=>Ent.vec pla pl.length pk 46 2 (pl.flatMap vlC)::Ent.vec (some ⟨zb,zo,none⟩) ps.length qc 86 2 (((es++[(⟨plc L pd,pla,pk,pl⟩ : PRow)])++ps.drop (ei + 1)).flatMap phiC)::Ent.box p7 [.slice (some ⟨zb,zo,none⟩) ps.length qc,.slice xa0 xs.length lc0,.int .i64 kd,.bool on.reg,.int .i64 on.n,.slice xa to.length xc] 50::Ent.box p5 [.string nm,.int .i64 pa,.int .i64 re,.slice (some ⟨vb,vo,none⟩) n gc] 35::Ent.box p4 [.string ByteArray.empty,.int .i64 0,.int .i64 0,.slice none 0 0] 35::Ent.vec (some ⟨vb,vo,none⟩) n gc 50 6 (rs.flatMap blkC)::((es++ps.drop (ei + 1)).map phE++(rpE (⟨some ⟨zb,zo,none⟩,qc,ps,xa0,lc0,xs,kd,on,xa,xc,to⟩ : BRow)++(rs.eraseIdx i).map blkE))) mixed (.cons _ (.cons _ (.cons_cons _ (List.nil_sublist _)))) ?_ fun _ _=>?_
   ·skip
    refine h_take 0 rfl (by decide +kernel) (.cons _ (.cons _ (.cons_cons _ (List.nil_sublist _)))) ?_
    refine h_take 1 rfl (by decide +kernel) (.cons _ (.cons _ (.cons_cons _ (List.nil_sublist _)))) ?_
    refine h_take 2 rfl (by decide +kernel) (.cons _ (.cons _ (.cons_cons _ (List.nil_sublist _)))) ?_
    refine h_take 3 rfl (by decide +kernel) (.cons _ (.cons _ (.cons_cons _ (List.nil_sublist _)))) ?_
    refine h_take 4 rfl (by decide +kernel) (.cons _ (.cons _ (.cons_cons _ (List.nil_sublist _)))) ?_
    refine h_take 5 rfl (by decide +kernel) (.cons _ (.cons _ (.cons_cons _ (List.nil_sublist _)))) ?_
    refine h_take 6 rfl (by decide +kernel) (.cons _ (.cons _ (.cons_cons _ (List.nil_sublist _)))) ?_
    refine h_take 7 rfl (by decide +kernel) (.cons _ (.cons _ (.cons_cons _ (List.nil_sublist _)))) ?_
    refine h_take 8 rfl (by decide +kernel) (.cons _ (.cons _ (.cons_cons _ (List.nil_sublist _)))) ?_
    refine h_one 9 (by decide +kernel) (o_op 9 rfl (.cons _ (.cons _ (.cons_cons _ (List.nil_sublist _)))) ?_)
    refine h_callV 10 rfl (by decide +kernel) (.cons _ (.cons _ (.cons_cons _ (List.nil_sublist _)))) (fun w hw=>plcI_c _ L pd w (hl.keep keeps_int hw.chg)) ?_
    rw [plcI_in hpdL]
    refine h_take 11 rfl (by decide +kernel) (.cons _ (.cons _ (.cons_cons _ (List.nil_sublist _)))) ?_
    refine h_take 12 rfl (by decide +kernel) (.cons _ (.cons _ (.cons_cons _ (List.nil_sublist _)))) ?_
    refine h_storeV 13 (by decide +kernel) (by decide +kernel) (.cons _ (.cons _ (.cons_cons _ (List.nil_sublist _)))) ?_
    exact g_mem () trivial (by repeat (first|exact trivial|refine ⟨rfl,?_⟩)) (.refl _)
   clear hot0 hxs0 hoc
   have hget2 : ((es++[(⟨plc L pd,pla,pk,pl⟩ : PRow)])++ps.drop (ei + 1))[ei]? = some (⟨plc L pd,pla,pk,pl⟩ : PRow):=by
    rw [List.getElem?_append_left (by simp [hiL]),List.getElem?_append_right (by omega),hiL,Nat.sub_self]; rfl
   have hocS : ∀ Z : Ent,OwnCell (Z::Ent.vec (some ⟨zb,zo,none⟩) ps.length qc 86 2 (((es++[(⟨plc L pd,pla,pk,pl⟩ : PRow)])++ps.drop (ei + 1)).flatMap phiC)::Ent.box p7 [.slice (some ⟨zb,zo,none⟩) ps.length qc,.slice xa0 xs.length lc0,.int .i64 kd,.bool on.reg,.int .i64 on.n,.slice xa to.length xc] 50::Ent.box p5 [.string nm,.int .i64 pa,.int .i64 re,.slice (some ⟨vb,vo,none⟩) n gc] 35::Ent.box p4 [.string ByteArray.empty,.int .i64 0,.int .i64 0,.slice none 0 0] 35::Ent.vec (some ⟨vb,vo,none⟩) n gc 50 6 (rs.flatMap blkC)::((es++ps.drop (ei + 1)).map phE++(rpE (⟨some ⟨zb,zo,none⟩,qc,ps,xa0,lc0,xs,kd,on,xa,xc,to⟩ : BRow)++(rs.eraseIdx i).map blkE))) zb (zo + ei * 2 + 1) (.slice pla pl.length pk):=fun Z=>⟨fun _ _ _ hw=>by
    have h5:=hw.vecCell (k:=1) rfl (flat_at phiC_len _ ei _ 1 (.slice pla pl.length pk) hget2 rfl)
    rwa [← Nat.add_assoc] at h5⟩
   have hocR : OwnCell [Ent.vec (some ⟨zb,zo,none⟩) ps.length qc 86 2 (((es++[(⟨plc L pd,pla,pk,pl⟩ : PRow)])++ps.drop (ei + 1)).flatMap phiC),Ent.box p7 [.slice (some ⟨zb,zo,none⟩) ps.length qc,.slice xa0 xs.length lc0,.int .i64 kd,.bool on.reg,.int .i64 on.n,.slice xa to.length xc] 50] zb (zo + ei * 2 + 1) (.slice pla pl.length pk):=⟨fun _ _ _ hw=>by
    have h5:=hw.vecCell (k:=0) rfl (flat_at phiC_len _ ei _ 1 (.slice pla pl.length pk) hget2 rfl)
    rwa [← Nat.add_assoc] at h5⟩
   repeat (first|refine g_op rfl ?_|refine g_then ?_|refine g_nil ?_|refine g_region ?_|refine g_seq ?_|refine g_block ?_)
   obtain ⟨vsJ,hvsJ⟩ : ∃ f : Nat→List LVal,f = fun j=>(pl.take j).map (renV L)++pl.drop j:=⟨_,rfl⟩
   have hvsl : ∀ j,(vsJ j).length = pl.length:=fun j=>by rw [hvsJ]; simp; omega
   have hvs0 : vsJ 0 = pl:=by rw [hvsJ]; simp
   rw [show Ent.vec pla pl.length pk 46 2 (pl.flatMap vlC) = Ent.vec pla pl.length pk 46 2 ((vsJ 0).flatMap vlC) by rw [hvs0]]
   refine g_loop (fun (j : Nat)=>j ≤ pl.length) (fun j=>[(9,.int .i64 j),(8,.int .i64 ei),(7,.pointer (some ⟨p7,0,none⟩)),(6,.int .i64 i),(5,.pointer (some ⟨p5,0,none⟩)),(4,.pointer (some ⟨p4,0,none⟩)),(1,.slice la ln lc)])
    (fun j=>Ent.vec pla pl.length pk 46 2 ((vsJ j).flatMap vlC)::Ent.vec (some ⟨zb,zo,none⟩) ps.length qc 86 2 (((es++[(⟨plc L pd,pla,pk,pl⟩ : PRow)])++ps.drop (ei + 1)).flatMap phiC)::Ent.box p7 [.slice (some ⟨zb,zo,none⟩) ps.length qc,.slice xa0 xs.length lc0,.int .i64 kd,.bool on.reg,.int .i64 on.n,.slice xa to.length xc] 50::Ent.box p5 [.string nm,.int .i64 pa,.int .i64 re,.slice (some ⟨vb,vo,none⟩) n gc] 35::Ent.box p4 [.string ByteArray.empty,.int .i64 0,.int .i64 0,.slice none 0 0] 35::Ent.vec (some ⟨vb,vo,none⟩) n gc 50 6 (rs.flatMap blkC)::((es++ps.drop (ei + 1)).map phE++(rpE (⟨some ⟨zb,zo,none⟩,qc,ps,xa0,lc0,xs,kd,on,xa,xc,to⟩ : BRow)++(rs.eraseIdx i).map blkE))) (fun j=>pl.length - j) 0 (Nat.zero_le _) (g_done (by repeat (first|exact trivial|refine ⟨rfl,?_⟩)) (.refl _)) fun j hj=>?_
   have hocS2:=hocS (Ent.vec pla pl.length pk 46 2 ((vsJ j).flatMap vlC))
   repeat (first|refine g_op rfl ?_|refine g_then ?_|refine g_nil ?_|refine g_region ?_|refine g_seq ?_)
   refine g_cond (fun h4=>?_) (fun h4=>?_)
   ·have hjl : j < pl.length:=by simpa using h4
    obtain ⟨v,hv⟩ : ∃ v,pl[j]? = some v:=⟨_,List.getElem?_eq_getElem hjl⟩
    have hvm:=List.mem_of_getElem? hv
    have hdv : pl.drop j = v::pl.drop (j + 1):=by rw [List.drop_eq_getElem_cons hjl,(List.getElem?_eq_some_iff.1 hv).2]
    have hgetv : (vsJ j)[j]? = some v:=by
     rw [hvsJ]
     simp only
     rw [List.getElem?_append_right (by simp; omega),List.length_map,List.length_take,Nat.min_eq_left (by omega),Nat.sub_self,List.getElem?_drop,Nat.add_zero]; exact hv
    have hsetv : (vsJ j).set j (renV L v) = vsJ (j + 1):=by
     rw [hvsJ]
     simp only
     rw [List.set_append_right _ _ (by simp; omega),List.length_map,List.length_take,Nat.min_eq_left (by omega),Nat.sub_self,hdv,List.set_cons_zero,List.take_add_one,hv,List.map_append]
     simp
    refine g_vec 0 rfl (by omega) fun yb yo hya=>?_
    subst hya
    have hlk : LtIs j pl.length:=⟨hjl⟩
    have hov : OwnAgg (Ent.vec (some ⟨yb,yo,none⟩) pl.length pk 46 2 ((vsJ j).flatMap vlC)::Ent.vec (some ⟨zb,zo,none⟩) ps.length qc 86 2 (((es++[(⟨plc L pd,some ⟨yb,yo,none⟩,pk,pl⟩ : PRow)])++ps.drop (ei + 1)).flatMap phiC)::Ent.box p7 [.slice (some ⟨zb,zo,none⟩) ps.length qc,.slice xa0 xs.length lc0,.int .i64 kd,.bool on.reg,.int .i64 on.n,.slice xa to.length xc] 50::Ent.box p5 [.string nm,.int .i64 pa,.int .i64 re,.slice (some ⟨vb,vo,none⟩) n gc] 35::Ent.box p4 [.string ByteArray.empty,.int .i64 0,.int .i64 0,.slice none 0 0] 35::Ent.vec (some ⟨vb,vo,none⟩) n gc 50 6 (rs.flatMap blkC)::((es++ps.drop (ei + 1)).map phE++(rpE (⟨some ⟨zb,zo,none⟩,qc,ps,xa0,lc0,xs,kd,on,xa,xc,to⟩ : BRow)++(rs.eraseIdx i).map blkE))) yb (yo + j * 2) _:=ownAgg (k:=0) rfl vlC_len hgetv
    simp only [vlC] at hov
    have hvC : vlC (renV L v) = [.bool (renV L v).reg,.int .i64 (renV L v).n]:=rfl
    repeat (first|refine g_then ?_|refine g_seq ?_|refine g_block ?_|refine g_skip ?_)
    refine g_drawX [Ent.vec (some ⟨zb,zo,none⟩) ps.length qc 86 2 (((es++[(⟨plc L pd,some ⟨yb,yo,none⟩,pk,pl⟩ : PRow)])++ps.drop (ei + 1)).flatMap phiC),Ent.box p7 [.slice (some ⟨zb,zo,none⟩) ps.length qc,.slice xa0 xs.length lc0,.int .i64 kd,.bool on.reg,.int .i64 on.n,.slice xa to.length xc] 50] (fun _ : Unit=>True) (fun _=>[(9,.int .i64 j),(8,.int .i64 ei),(7,.pointer (some ⟨p7,0,none⟩)),(6,.int .i64 i),(5,.pointer (some ⟨p5,0,none⟩)),(4,.pointer (some ⟨p4,0,none⟩)),(1,.slice la ln lc)]) (fun _=>Ent.vec (some ⟨yb,yo,none⟩) pl.length pk 46 2 ((vsJ (j + 1)).flatMap vlC)::Ent.vec (some ⟨zb,zo,none⟩) ps.length qc 86 2 (((es++[(⟨plc L pd,some ⟨yb,yo,none⟩,pk,pl⟩ : PRow)])++ps.drop (ei + 1)).flatMap phiC)::Ent.box p7 [.slice (some ⟨zb,zo,none⟩) ps.length qc,.slice xa0 xs.length lc0,.int .i64 kd,.bool on.reg,.int .i64 on.n,.slice xa to.length xc] 50::Ent.box p5 [.string nm,.int .i64 pa,.int .i64 re,.slice (some ⟨vb,vo,none⟩) n gc] 35::Ent.box p4 [.string ByteArray.empty,.int .i64 0,.int .i64 0,.slice none 0 0] 35::Ent.vec (some ⟨vb,vo,none⟩) n gc 50 6 (rs.flatMap blkC)::((es++ps.drop (ei + 1)).map phE++(rpE (⟨some ⟨zb,zo,none⟩,qc,ps,xa0,lc0,xs,kd,on,xa,xc,to⟩ : BRow)++(rs.eraseIdx i).map blkE))) mixed (.cons _ (.cons_cons _ (.cons_cons _ (List.nil_sublist _)))) ?_ fun _ _=>?_
    ·skip
     refine h_take 0 rfl (by decide +kernel) (.cons _ (.cons_cons _ (.cons_cons _ (List.nil_sublist _)))) ?_
     refine h_take 1 rfl (by decide +kernel) (.cons _ (.cons_cons _ (.cons_cons _ (List.nil_sublist _)))) ?_
     refine h_take 2 rfl (by decide +kernel) (.cons _ (.cons_cons _ (.cons_cons _ (List.nil_sublist _)))) ?_
     refine h_take 3 rfl (by decide +kernel) (.cons _ (.cons_cons _ (.cons_cons _ (List.nil_sublist _)))) ?_
     refine h_take 4 rfl (by decide +kernel) (.cons _ (.cons_cons _ (.cons_cons _ (List.nil_sublist _)))) ?_
     refine h_take 5 rfl (by decide +kernel) (.cons _ (.cons_cons _ (.cons_cons _ (List.nil_sublist _)))) ?_
     refine h_take 6 rfl (by decide +kernel) (.cons _ (.cons_cons _ (.cons_cons _ (List.nil_sublist _)))) ?_
     refine h_take 7 rfl (by decide +kernel) (.cons _ (.cons_cons _ (.cons_cons _ (List.nil_sublist _)))) ?_
     refine h_take 8 rfl (by decide +kernel) (.cons _ (.cons_cons _ (.cons_cons _ (List.nil_sublist _)))) ?_
     refine h_take 9 rfl (by decide +kernel) (.cons _ (.cons_cons _ (.cons_cons _ (List.nil_sublist _)))) ?_
     refine h_take 10 rfl (by decide +kernel) (.cons _ (.cons_cons _ (.cons_cons _ (List.nil_sublist _)))) ?_
     refine h_take 11 rfl (by decide +kernel) (.cons _ (.cons_cons _ (.cons_cons _ (List.nil_sublist _)))) ?_
     refine h_take 12 rfl (by decide +kernel) (.cons _ (.cons_cons _ (.cons_cons _ (List.nil_sublist _)))) ?_
     refine h_take 13 rfl (by decide +kernel) (.cons _ (.cons_cons _ (.cons_cons _ (List.nil_sublist _)))) ?_
     refine h_take 14 rfl (by decide +kernel) (.cons _ (.cons_cons _ (.cons_cons _ (List.nil_sublist _)))) ?_
     refine h_take 16 rfl (by decide +kernel) (.cons _ (.cons_cons _ (.cons_cons _ (List.nil_sublist _)))) ?_
     refine h_one 15 (by decide +kernel) (o_op 15 rfl (.cons _ (.cons_cons _ (.cons_cons _ (List.nil_sublist _)))) ?_)
     refine h_callE 17 (val:=fun _ : Unit=>.agg #[.bool (renV L v).reg,.int .i64 (renV L v).n]) (E:=fun _=>[]) (φ:=fun _=>True) rfl (by decide +kernel) (.cons _ (.cons_cons _ (.cons_cons _ (List.nil_sublist _)))) (fun w hw=>namedR_c L _ v (hsrcL v hvm) w (hl.keep keeps_int hw.chg)) fun _ _=>?_
     simp only [List.nil_append]
     refine h_take 18 rfl (by decide +kernel) (.cons _ (.cons_cons _ (.cons_cons _ (List.nil_sublist _)))) ?_
     refine h_one 19 (by decide +kernel) (o_storeVA 19 0 (j:=j * 2) rfl rfl (by rw [flat_len vlC_len,hvsl]; omega) (.cons _ (.cons_cons _ (.cons_cons _ (List.nil_sublist _)))) ?_)
     refine h_end (by decide +kernel) ?_
     simp only [List.set_cons_succ,List.set_cons_zero]
     rw [← hvC,flat_put vlC_len (by rw [hvsl]; exact hjl),hsetv]
     exact g_mem () trivial (by repeat (first|exact trivial|refine ⟨rfl,?_⟩)) (.refl _)
    repeat (first|refine g_op rfl ?_|refine g_then ?_|refine g_nil ?_|refine g_region ?_|refine g_opS rfl ?_|refine g_inBlock ?_|refine g_add rfl (by omega) (by omega) ?_)
    exact g_next (j + 1) (by omega) (by omega) (by repeat (first|exact trivial|refine ⟨rfl,?_⟩)) (.refl _)
   obtain rfl : pl.length = j:=by have:=of_decide_eq_false h4; omega
   have hvsE : vsJ pl.length = pl.map (renV L):=by rw [hvsJ]; simp
   rw [hvsE]
   repeat (first|refine g_op rfl ?_|refine g_then ?_|refine g_nil ?_|refine g_region ?_|refine g_opS rfl ?_|refine g_inBlock ?_|refine g_add rfl (by omega) (by omega) ?_|refine g_exit ?_|refine g_thenExit ?_|refine g_exitHere ?_)
   have hl1 : (es++[(⟨plc L pd,pla,pk,pl.map (renV L)⟩ : PRow)]).length = ei + 1:=by simp [hiL]
   have hC2 : ((es++[(⟨plc L pd,pla,pk,pl⟩ : PRow)])++ps.drop (ei + 1)).flatMap phiC = ((es++[(⟨plc L pd,pla,pk,pl.map (renV L)⟩ : PRow)])++ps.drop (ei + 1)).flatMap phiC:=by
    simp only [List.flatMap_append,List.flatMap_cons,List.flatMap_nil,phiC,List.length_map]
   rw [hC2]
   refine g_permH (H1:=Ent.vec (some ⟨zb,zo,none⟩) ps.length qc 86 2 (((es++[(⟨plc L pd,pla,pk,pl.map (renV L)⟩ : PRow)])++ps.drop (es++[(⟨plc L pd,pla,pk,pl.map (renV L)⟩ : PRow)]).length).flatMap phiC)::Ent.box p7 [.slice (some ⟨zb,zo,none⟩) ps.length qc,.slice xa0 xs.length lc0,.int .i64 kd,.bool on.reg,.int .i64 on.n,.slice xa to.length xc] 50::Ent.box p5 [.string nm,.int .i64 pa,.int .i64 re,.slice (some ⟨vb,vo,none⟩) n gc] 35::Ent.box p4 [.string ByteArray.empty,.int .i64 0,.int .i64 0,.slice none 0 0] 35::Ent.vec (some ⟨vb,vo,none⟩) n gc 50 6 (rs.flatMap blkC)::(((es++[(⟨plc L pd,pla,pk,pl.map (renV L)⟩ : PRow)])++ps.drop (es++[(⟨plc L pd,pla,pk,pl.map (renV L)⟩ : PRow)]).length).map phE++(rpE (⟨some ⟨zb,zo,none⟩,qc,ps,xa0,lc0,xs,kd,on,xa,xc,to⟩ : BRow)++(rs.eraseIdx i).map blkE))) (List.perm_iff_count.2 fun e=>?_) ?_
   ·have e2 : phE (⟨plc L pd,pla,pk,pl.map (renV L)⟩ : PRow) = Ent.vec pla pl.length pk 46 2 ((pl.map (renV L)).flatMap vlC):=by unfold phE; simp only [List.length_map]
    rw [hl1]
    simp only [List.map_append,List.map_cons,List.map_nil,List.count_append,List.count_cons,List.count_nil,e2]
    omega
   refine g_next (es++[(⟨plc L pd,pla,pk,pl.map (renV L)⟩ : PRow)]) ⟨by rw [hl1]; omega,?_,fun q hq=>?_⟩ (by rw [hl1]; omega) (by simp only [hl1]; repeat (first|exact trivial|refine ⟨rfl,?_⟩)) (.refl _)
   ·rw [hl1,List.take_add_one,hu,List.map_append,List.map_append,hem]
    simp only [Option.toList_some,List.map_cons,List.map_nil,PRow.phi,renP]
   ·rcases List.mem_append.1 hq with hq|hq
    ·exact heb q hq
    ·rw [List.mem_singleton.1 hq]
     have h5:=plc_le L pd
     refine ⟨⟨by simp only; omega,by simp only; omega⟩,by simp only [List.length_map]; exact hub,fun v hv=>?_⟩
     simp only at hv
     obtain ⟨y,hy,rfl⟩:=List.mem_map.1 hv
     exact renV_in (huv y hy) (by omega)
  have hge : es.length = ps.length:=by have:=of_decide_eq_false h3; omega
  rw [hge,List.drop_length,List.append_nil]
  rw [hge,List.take_length] at hem
  repeat (first|refine g_op rfl ?_|refine g_then ?_|refine g_nil ?_|refine g_region ?_|refine g_seq ?_|refine g_block ?_|refine g_exit ?_|refine g_thenExit ?_|refine g_exitHere ?_)
  refine g_permH (H1:=Ent.vec xa0 xs.length lc0 88 8 (xs.flatMap rowC)::Ent.box p7 [.slice qa ps.length qc,.slice xa0 xs.length lc0,.int .i64 kd,.bool on.reg,.int .i64 on.n,.slice xa to.length xc] 50::Ent.box p5 [.string nm,.int .i64 pa,.int .i64 re,.slice (some ⟨vb,vo,none⟩) n gc] 35::Ent.box p4 [.string ByteArray.empty,.int .i64 0,.int .i64 0,.slice none 0 0] 35::Ent.vec (some ⟨vb,vo,none⟩) n gc 50 6 (rs.flatMap blkC)::(xs.map roE++(Ent.vec qa ps.length qc 86 2 (es.flatMap phiC)::toE (⟨qa,qc,ps,xa0,lc0,xs,kd,on,xa,xc,to⟩ : BRow)::(es.map phE++(rs.eraseIdx i).map blkE)))) (List.perm_iff_count.2 fun e=>?_) ?_
  ·unfold rpE
   simp only [List.count_append,List.count_cons]
   omega
  refine g_loop (fun (ys : List IRow)=>ys.length ≤ xs.length∧ys.map (·.x) = (xs.take ys.length).map (fun q=>renI L q.x)∧∀ y ∈ ys,(inI y.x.op∧inI y.x.dst∧inI y.x.a.n∧inI y.x.b.n∧inI y.x.fn)∧y.x.args.length ≤ 1000∧∀ v ∈ y.x.args,inI v.n) (fun ys=>[(10,.int .i64 ys.length),(7,.pointer (some ⟨p7,0,none⟩)),(6,.int .i64 i),(5,.pointer (some ⟨p5,0,none⟩)),(4,.pointer (some ⟨p4,0,none⟩)),(1,.slice la ln lc)])
   (fun ys=>Ent.vec xa0 xs.length lc0 88 8 ((ys++xs.drop ys.length).flatMap rowC)::Ent.box p7 [.slice qa ps.length qc,.slice xa0 xs.length lc0,.int .i64 kd,.bool on.reg,.int .i64 on.n,.slice xa to.length xc] 50::Ent.box p5 [.string nm,.int .i64 pa,.int .i64 re,.slice (some ⟨vb,vo,none⟩) n gc] 35::Ent.box p4 [.string ByteArray.empty,.int .i64 0,.int .i64 0,.slice none 0 0] 35::Ent.vec (some ⟨vb,vo,none⟩) n gc 50 6 (rs.flatMap blkC)::((ys++xs.drop ys.length).map roE++(Ent.vec qa ps.length qc 86 2 (es.flatMap phiC)::toE (⟨qa,qc,ps,xa0,lc0,xs,kd,on,xa,xc,to⟩ : BRow)::(es.map phE++(rs.eraseIdx i).map blkE)))) (fun ys=>xs.length - ys.length) [] ⟨Nat.zero_le _,rfl,by simp⟩ (g_done (by repeat (first|exact trivial|refine ⟨rfl,?_⟩)) (.refl _)) fun ys ⟨hi5,hym,hyb⟩=>?_
  repeat (first|refine g_op rfl ?_|refine g_then ?_|refine g_nil ?_|refine g_region ?_|refine g_seq ?_)
  refine g_cond (fun h5=>?_) (fun h5=>?_)
  ·have hlt : ys.length < xs.length:=by simpa using h5
   generalize hyL : ys.length = ei at *
   obtain ⟨u,hu⟩ : ∃ u,xs[ei]? = some u:=⟨_,List.getElem?_eq_getElem hlt⟩
   have hum:=List.mem_of_getElem? hu
   obtain ⟨hun,hub,huv⟩:=hBd.ins u hum
   obtain ⟨x,aa,ak⟩:=u
   simp only at hun hub huv
   have hxm : x ∈ ((⟨qa,qc,ps,xa0,lc0,xs,kd,on,xa,xc,to⟩ : BRow)).blk.list:=List.mem_map.2 ⟨_,hum,rfl⟩
   have hxv:=hrg2 x hxm
   have hxd : 0 ≤ x.dst→x.dst ∈ L:=fun h=>hrg1 x.dst (.inl (List.mem_append_right _ (List.mem_append_left _ (List.mem_flatMap.2 ⟨x,hxm,List.mem_append_right _ (by rw [if_pos h]; simp)⟩))))
   refine g_vec 0 rfl (by omega) fun zb zo hza=>?_
   subst hza
   have hlj : LtIs ei xs.length:=⟨hlt⟩
   have hget : (ys++xs.drop ei)[ei]? = some (⟨x,aa,ak⟩ : IRow):=by
    rw [List.getElem?_append_right (by omega),hyL,Nat.sub_self,List.getElem?_drop,Nat.add_zero]; exact hu
   have hdr : xs.drop ei = (⟨x,aa,ak⟩ : IRow)::xs.drop (ei + 1):=by rw [List.drop_eq_getElem_cons hlt,(List.getElem?_eq_some_iff.1 hu).2]
   refine g_permH (H1:=Ent.vec aa x.args.length ak 46 2 (x.args.flatMap vlC)::Ent.vec (some ⟨zb,zo,none⟩) xs.length lc0 88 8 ((ys++xs.drop ei).flatMap rowC)::Ent.box p7 [.slice qa ps.length qc,.slice (some ⟨zb,zo,none⟩) xs.length lc0,.int .i64 kd,.bool on.reg,.int .i64 on.n,.slice xa to.length xc] 50::Ent.box p5 [.string nm,.int .i64 pa,.int .i64 re,.slice (some ⟨vb,vo,none⟩) n gc] 35::Ent.box p4 [.string ByteArray.empty,.int .i64 0,.int .i64 0,.slice none 0 0] 35::Ent.vec (some ⟨vb,vo,none⟩) n gc 50 6 (rs.flatMap blkC)::((ys++xs.drop (ei + 1)).map roE++(Ent.vec qa ps.length qc 86 2 (es.flatMap phiC)::toE (⟨qa,qc,ps,some ⟨zb,zo,none⟩,lc0,xs,kd,on,xa,xc,to⟩ : BRow)::(es.map phE++(rs.eraseIdx i).map blkE)))) (List.perm_iff_count.2 fun e=>?_) ?_
   ·rw [hdr]
    have e2 : roE (⟨x,aa,ak⟩ : IRow) = Ent.vec aa x.args.length ak 46 2 (x.args.flatMap vlC):=rfl
    simp only [List.map_append,List.map_cons,List.count_append,List.count_cons,e2]
    omega
   have hoA : OwnAgg (Ent.vec aa x.args.length ak 46 2 (x.args.flatMap vlC)::Ent.vec (some ⟨zb,zo,none⟩) xs.length lc0 88 8 ((ys++xs.drop ei).flatMap rowC)::Ent.box p7 [.slice qa ps.length qc,.slice (some ⟨zb,zo,none⟩) xs.length lc0,.int .i64 kd,.bool on.reg,.int .i64 on.n,.slice xa to.length xc] 50::Ent.box p5 [.string nm,.int .i64 pa,.int .i64 re,.slice (some ⟨vb,vo,none⟩) n gc] 35::Ent.box p4 [.string ByteArray.empty,.int .i64 0,.int .i64 0,.slice none 0 0] 35::Ent.vec (some ⟨vb,vo,none⟩) n gc 50 6 (rs.flatMap blkC)::((ys++xs.drop (ei + 1)).map roE++(Ent.vec qa ps.length qc 86 2 (es.flatMap phiC)::toE (⟨qa,qc,ps,some ⟨zb,zo,none⟩,lc0,xs,kd,on,xa,xc,to⟩ : BRow)::(es.map phE++(rs.eraseIdx i).map blkE)))) zb (zo + ei * 8 + 2) _:=rowC_part (k:=1) rfl hget 2 rfl rfl
   have hpA:=rowA_put hget (renV L x.a)
   rw [set_mid hyL hlt] at hpA
   repeat (first|refine g_then ?_|refine g_seq ?_|refine g_block ?_|refine g_skip ?_)
   refine g_drawX [Ent.box p7 [.slice qa ps.length qc,.slice (some ⟨zb,zo,none⟩) xs.length lc0,.int .i64 kd,.bool on.reg,.int .i64 on.n,.slice xa to.length xc] 50] (fun _ : Unit=>True) (fun _=>[(10,.int .i64 ei),(7,.pointer (some ⟨p7,0,none⟩)),(6,.int .i64 i),(5,.pointer (some ⟨p5,0,none⟩)),(4,.pointer (some ⟨p4,0,none⟩)),(1,.slice la ln lc)]) (fun _=>Ent.vec aa x.args.length ak 46 2 (x.args.flatMap vlC)::Ent.vec (some ⟨zb,zo,none⟩) xs.length lc0 88 8 (((ys++[(⟨{ x with a:=renV L x.a },aa,ak⟩ : IRow)])++xs.drop (ei + 1)).flatMap rowC)::Ent.box p7 [.slice qa ps.length qc,.slice (some ⟨zb,zo,none⟩) xs.length lc0,.int .i64 kd,.bool on.reg,.int .i64 on.n,.slice xa to.length xc] 50::Ent.box p5 [.string nm,.int .i64 pa,.int .i64 re,.slice (some ⟨vb,vo,none⟩) n gc] 35::Ent.box p4 [.string ByteArray.empty,.int .i64 0,.int .i64 0,.slice none 0 0] 35::Ent.vec (some ⟨vb,vo,none⟩) n gc 50 6 (rs.flatMap blkC)::((ys++xs.drop (ei + 1)).map roE++(Ent.vec qa ps.length qc 86 2 (es.flatMap phiC)::toE (⟨qa,qc,ps,some ⟨zb,zo,none⟩,lc0,xs,kd,on,xa,xc,to⟩ : BRow)::(es.map phE++(rs.eraseIdx i).map blkE)))) mixed (.cons _ (.cons _ (.cons_cons _ (List.nil_sublist _)))) ?_ fun _ _=>?_
   ·skip
    refine h_take 0 rfl (by decide +kernel) (.cons _ (.cons _ (.cons_cons _ (List.nil_sublist _)))) ?_
    refine h_take 1 rfl (by decide +kernel) (.cons _ (.cons _ (.cons_cons _ (List.nil_sublist _)))) ?_
    refine h_take 2 rfl (by decide +kernel) (.cons _ (.cons _ (.cons_cons _ (List.nil_sublist _)))) ?_
    refine h_take 3 rfl (by decide +kernel) (.cons _ (.cons _ (.cons_cons _ (List.nil_sublist _)))) ?_
    refine h_take 4 rfl (by decide +kernel) (.cons _ (.cons _ (.cons_cons _ (List.nil_sublist _)))) ?_
    refine h_take 5 rfl (by decide +kernel) (.cons _ (.cons _ (.cons_cons _ (List.nil_sublist _)))) ?_
    refine h_take 6 rfl (by decide +kernel) (.cons _ (.cons _ (.cons_cons _ (List.nil_sublist _)))) ?_
    refine h_take 7 rfl (by decide +kernel) (.cons _ (.cons _ (.cons_cons _ (List.nil_sublist _)))) ?_
    refine h_take 9 rfl (by decide +kernel) (.cons _ (.cons _ (.cons_cons _ (List.nil_sublist _)))) ?_
    refine h_one 8 (by decide +kernel) (o_op 8 rfl (.cons _ (.cons _ (.cons_cons _ (List.nil_sublist _)))) ?_)
    refine h_callE 10 (val:=fun _ : Unit=>.agg #[.bool (renV L x.a).reg,.int .i64 (renV L x.a).n]) (E:=fun _=>[]) (φ:=fun _=>True) rfl (by decide +kernel) (.cons _ (.cons _ (.cons_cons _ (List.nil_sublist _)))) (fun w hw=>namedR_c L _ x.a (hxv x.a (.inl rfl)) w (hl.keep keeps_int hw.chg)) fun _ _=>?_
    simp only [List.nil_append]
    refine h_take 11 rfl (by decide +kernel) (.cons _ (.cons _ (.cons_cons _ (List.nil_sublist _)))) ?_
    refine h_take 12 rfl (by decide +kernel) (.cons _ (.cons _ (.cons_cons _ (List.nil_sublist _)))) ?_
    refine h_one 13 (by decide +kernel) (o_storeVA 13 1 (j:=ei * 8 + 2) rfl (by omega) (by rw [flat_len rowC_len,List.length_append,List.length_drop]; omega) (.cons _ (.cons _ (.cons_cons _ (List.nil_sublist _)))) ?_)
    refine h_end (by decide +kernel) ?_
    simp only [List.set_cons_succ,List.set_cons_zero]
    rw [hpA]
    exact g_mem () trivial (by repeat (first|exact trivial|refine ⟨rfl,?_⟩)) (.refl _)
   clear hoA hpA
   have hget1 : ((ys++[(⟨{ x with a:=renV L x.a },aa,ak⟩ : IRow)])++xs.drop (ei + 1))[ei]? = some (⟨{ x with a:=renV L x.a },aa,ak⟩ : IRow):=get_tail hyL
   have hoB : OwnAgg (Ent.vec aa x.args.length ak 46 2 (x.args.flatMap vlC)::Ent.vec (some ⟨zb,zo,none⟩) xs.length lc0 88 8 (((ys++[(⟨{ x with a:=renV L x.a },aa,ak⟩ : IRow)])++xs.drop (ei + 1)).flatMap rowC)::Ent.box p7 [.slice qa ps.length qc,.slice (some ⟨zb,zo,none⟩) xs.length lc0,.int .i64 kd,.bool on.reg,.int .i64 on.n,.slice xa to.length xc] 50::Ent.box p5 [.string nm,.int .i64 pa,.int .i64 re,.slice (some ⟨vb,vo,none⟩) n gc] 35::Ent.box p4 [.string ByteArray.empty,.int .i64 0,.int .i64 0,.slice none 0 0] 35::Ent.vec (some ⟨vb,vo,none⟩) n gc 50 6 (rs.flatMap blkC)::((ys++xs.drop (ei + 1)).map roE++(Ent.vec qa ps.length qc 86 2 (es.flatMap phiC)::toE (⟨qa,qc,ps,some ⟨zb,zo,none⟩,lc0,xs,kd,on,xa,xc,to⟩ : BRow)::(es.map phE++(rs.eraseIdx i).map blkE)))) zb (zo + ei * 8 + 4) _:=rowC_part (k:=1) rfl hget1 4 rfl rfl
   have hpB:=rowB_put hget1 (renV L x.b)
   rw [set_tail hyL] at hpB
   repeat (first|refine g_then ?_|refine g_seq ?_)
   refine g_drawX [Ent.box p7 [.slice qa ps.length qc,.slice (some ⟨zb,zo,none⟩) xs.length lc0,.int .i64 kd,.bool on.reg,.int .i64 on.n,.slice xa to.length xc] 50] (fun _ : Unit=>True) (fun _=>[(10,.int .i64 ei),(7,.pointer (some ⟨p7,0,none⟩)),(6,.int .i64 i),(5,.pointer (some ⟨p5,0,none⟩)),(4,.pointer (some ⟨p4,0,none⟩)),(1,.slice la ln lc)]) (fun _=>Ent.vec aa x.args.length ak 46 2 (x.args.flatMap vlC)::Ent.vec (some ⟨zb,zo,none⟩) xs.length lc0 88 8 (((ys++[(⟨{ x with a:=renV L x.a,b:=renV L x.b },aa,ak⟩ : IRow)])++xs.drop (ei + 1)).flatMap rowC)::Ent.box p7 [.slice qa ps.length qc,.slice (some ⟨zb,zo,none⟩) xs.length lc0,.int .i64 kd,.bool on.reg,.int .i64 on.n,.slice xa to.length xc] 50::Ent.box p5 [.string nm,.int .i64 pa,.int .i64 re,.slice (some ⟨vb,vo,none⟩) n gc] 35::Ent.box p4 [.string ByteArray.empty,.int .i64 0,.int .i64 0,.slice none 0 0] 35::Ent.vec (some ⟨vb,vo,none⟩) n gc 50 6 (rs.flatMap blkC)::((ys++xs.drop (ei + 1)).map roE++(Ent.vec qa ps.length qc 86 2 (es.flatMap phiC)::toE (⟨qa,qc,ps,some ⟨zb,zo,none⟩,lc0,xs,kd,on,xa,xc,to⟩ : BRow)::(es.map phE++(rs.eraseIdx i).map blkE)))) mixed (.cons _ (.cons _ (.cons_cons _ (List.nil_sublist _)))) ?_ fun _ _=>?_
   ·skip
    refine h_take 0 rfl (by decide +kernel) (.cons _ (.cons _ (.cons_cons _ (List.nil_sublist _)))) ?_
    refine h_take 1 rfl (by decide +kernel) (.cons _ (.cons _ (.cons_cons _ (List.nil_sublist _)))) ?_
    refine h_take 2 rfl (by decide +kernel) (.cons _ (.cons _ (.cons_cons _ (List.nil_sublist _)))) ?_
    refine h_take 3 rfl (by decide +kernel) (.cons _ (.cons _ (.cons_cons _ (List.nil_sublist _)))) ?_
    refine h_take 4 rfl (by decide +kernel) (.cons _ (.cons _ (.cons_cons _ (List.nil_sublist _)))) ?_
    refine h_take 5 rfl (by decide +kernel) (.cons _ (.cons _ (.cons_cons _ (List.nil_sublist _)))) ?_
    refine h_take 6 rfl (by decide +kernel) (.cons _ (.cons _ (.cons_cons _ (List.nil_sublist _)))) ?_
    refine h_take 7 rfl (by decide +kernel) (.cons _ (.cons _ (.cons_cons _ (List.nil_sublist _)))) ?_
    refine h_take 9 rfl (by decide +kernel) (.cons _ (.cons _ (.cons_cons _ (List.nil_sublist _)))) ?_
    refine h_one 8 (by decide +kernel) (o_op 8 rfl (.cons _ (.cons _ (.cons_cons _ (List.nil_sublist _)))) ?_)
    refine h_callE 10 (val:=fun _ : Unit=>.agg #[.bool (renV L x.b).reg,.int .i64 (renV L x.b).n]) (E:=fun _=>[]) (φ:=fun _=>True) rfl (by decide +kernel) (.cons _ (.cons _ (.cons_cons _ (List.nil_sublist _)))) (fun w hw=>namedR_c L _ x.b (hxv x.b (.inr (.inl rfl))) w (hl.keep keeps_int hw.chg)) fun _ _=>?_
    simp only [List.nil_append]
    refine h_take 11 rfl (by decide +kernel) (.cons _ (.cons _ (.cons_cons _ (List.nil_sublist _)))) ?_
    refine h_take 12 rfl (by decide +kernel) (.cons _ (.cons _ (.cons_cons _ (List.nil_sublist _)))) ?_
    refine h_one 13 (by decide +kernel) (o_storeVA 13 1 (j:=ei * 8 + 4) rfl (by omega) (by rw [flat_len rowC_len,List.length_append,List.length_append,List.length_drop]; simp; omega) (.cons _ (.cons _ (.cons_cons _ (List.nil_sublist _)))) ?_)
    refine h_end (by decide +kernel) ?_
    simp only [List.set_cons_succ,List.set_cons_zero]
    rw [hpB]
    exact g_mem () trivial (by repeat (first|exact trivial|refine ⟨rfl,?_⟩)) (.refl _)
   clear hoB hpB hget1
   have hget2 : ((ys++[(⟨{ x with a:=renV L x.a,b:=renV L x.b },aa,ak⟩ : IRow)])++xs.drop (ei + 1))[ei]? = some (⟨{ x with a:=renV L x.a,b:=renV L x.b },aa,ak⟩ : IRow):=get_tail hyL
   have hocS : ∀ Z : Ent,OwnCell (Z::Ent.vec (some ⟨zb,zo,none⟩) xs.length lc0 88 8 (((ys++[(⟨{ x with a:=renV L x.a,b:=renV L x.b },aa,ak⟩ : IRow)])++xs.drop (ei + 1)).flatMap rowC)::Ent.box p7 [.slice qa ps.length qc,.slice (some ⟨zb,zo,none⟩) xs.length lc0,.int .i64 kd,.bool on.reg,.int .i64 on.n,.slice xa to.length xc] 50::Ent.box p5 [.string nm,.int .i64 pa,.int .i64 re,.slice (some ⟨vb,vo,none⟩) n gc] 35::Ent.box p4 [.string ByteArray.empty,.int .i64 0,.int .i64 0,.slice none 0 0] 35::Ent.vec (some ⟨vb,vo,none⟩) n gc 50 6 (rs.flatMap blkC)::((ys++xs.drop (ei + 1)).map roE++(Ent.vec qa ps.length qc 86 2 (es.flatMap phiC)::toE (⟨qa,qc,ps,some ⟨zb,zo,none⟩,lc0,xs,kd,on,xa,xc,to⟩ : BRow)::(es.map phE++(rs.eraseIdx i).map blkE)))) zb (zo + ei * 8 + 7) (.slice aa x.args.length ak):=fun Z=>⟨fun _ _ _ hw=>by
    have h5:=hw.vecCell (k:=1) rfl (flat_at rowC_len _ ei _ 7 (.slice aa x.args.length ak) hget2 rfl)
    rwa [← Nat.add_assoc] at h5⟩
   have hocR : OwnCell [Ent.vec (some ⟨zb,zo,none⟩) xs.length lc0 88 8 (((ys++[(⟨{ x with a:=renV L x.a,b:=renV L x.b },aa,ak⟩ : IRow)])++xs.drop (ei + 1)).flatMap rowC),Ent.box p7 [.slice qa ps.length qc,.slice (some ⟨zb,zo,none⟩) xs.length lc0,.int .i64 kd,.bool on.reg,.int .i64 on.n,.slice xa to.length xc] 50] zb (zo + ei * 8 + 7) (.slice aa x.args.length ak):=⟨fun _ _ _ hw=>by
    have h5:=hw.vecCell (k:=0) rfl (flat_at rowC_len _ ei _ 7 (.slice aa x.args.length ak) hget2 rfl)
    rwa [← Nat.add_assoc] at h5⟩
   repeat (first|refine g_op rfl ?_|refine g_then ?_|refine g_nil ?_|refine g_region ?_|refine g_seq ?_|refine g_block ?_)
   obtain ⟨avJ,havJ⟩ : ∃ f : Nat→List LVal,f = fun j=>(x.args.take j).map (renV L)++x.args.drop j:=⟨_,rfl⟩
   have havl : ∀ j,(avJ j).length = x.args.length:=fun j=>by rw [havJ]; simp; omega
   have hav0 : avJ 0 = x.args:=by rw [havJ]; simp
   rw [show Ent.vec aa x.args.length ak 46 2 (x.args.flatMap vlC) = Ent.vec aa x.args.length ak 46 2 ((avJ 0).flatMap vlC) by rw [hav0]]
   refine g_loop (fun (j : Nat)=>j ≤ x.args.length) (fun j=>[(11,.int .i64 j),(10,.int .i64 ei),(7,.pointer (some ⟨p7,0,none⟩)),(6,.int .i64 i),(5,.pointer (some ⟨p5,0,none⟩)),(4,.pointer (some ⟨p4,0,none⟩)),(1,.slice la ln lc)])
    (fun j=>Ent.vec aa x.args.length ak 46 2 ((avJ j).flatMap vlC)::Ent.vec (some ⟨zb,zo,none⟩) xs.length lc0 88 8 (((ys++[(⟨{ x with a:=renV L x.a,b:=renV L x.b },aa,ak⟩ : IRow)])++xs.drop (ei + 1)).flatMap rowC)::Ent.box p7 [.slice qa ps.length qc,.slice (some ⟨zb,zo,none⟩) xs.length lc0,.int .i64 kd,.bool on.reg,.int .i64 on.n,.slice xa to.length xc] 50::Ent.box p5 [.string nm,.int .i64 pa,.int .i64 re,.slice (some ⟨vb,vo,none⟩) n gc] 35::Ent.box p4 [.string ByteArray.empty,.int .i64 0,.int .i64 0,.slice none 0 0] 35::Ent.vec (some ⟨vb,vo,none⟩) n gc 50 6 (rs.flatMap blkC)::((ys++xs.drop (ei + 1)).map roE++(Ent.vec qa ps.length qc 86 2 (es.flatMap phiC)::toE (⟨qa,qc,ps,some ⟨zb,zo,none⟩,lc0,xs,kd,on,xa,xc,to⟩ : BRow)::(es.map phE++(rs.eraseIdx i).map blkE)))) (fun j=>x.args.length - j) 0 (Nat.zero_le _) (g_done (by repeat (first|exact trivial|refine ⟨rfl,?_⟩)) (.refl _)) fun j hj=>?_
   have hocS2:=hocS (Ent.vec aa x.args.length ak 46 2 ((avJ j).flatMap vlC))
   repeat (first|refine g_op rfl ?_|refine g_then ?_|refine g_nil ?_|refine g_region ?_|refine g_seq ?_)
   refine g_cond (fun h6=>?_) (fun h6=>?_)
   ·have hjl : j < x.args.length:=by simpa using h6
    obtain ⟨v,hv⟩ : ∃ v,x.args[j]? = some v:=⟨_,List.getElem?_eq_getElem hjl⟩
    have hvm:=List.mem_of_getElem? hv
    have hdv : x.args.drop j = v::x.args.drop (j + 1):=by rw [List.drop_eq_getElem_cons hjl,(List.getElem?_eq_some_iff.1 hv).2]
    have hgetv : (avJ j)[j]? = some v:=by
     rw [havJ]
     simp only
     rw [List.getElem?_append_right (by simp; omega),List.length_map,List.length_take,Nat.min_eq_left (by omega),Nat.sub_self,List.getElem?_drop,Nat.add_zero]; exact hv
    have hsetv : (avJ j).set j (renV L v) = avJ (j + 1):=by
     rw [havJ]
     simp only
     rw [List.set_append_right _ _ (by simp; omega),List.length_map,List.length_take,Nat.min_eq_left (by omega),Nat.sub_self,hdv,List.set_cons_zero,List.take_add_one,hv,List.map_append]
     simp
    refine g_vec 0 rfl (by omega) fun yb yo hya=>?_
    subst hya
    have hlk : LtIs j x.args.length:=⟨hjl⟩
    have hov : OwnAgg (Ent.vec (some ⟨yb,yo,none⟩) x.args.length ak 46 2 ((avJ j).flatMap vlC)::Ent.vec (some ⟨zb,zo,none⟩) xs.length lc0 88 8 (((ys++[(⟨{ x with a:=renV L x.a,b:=renV L x.b },some ⟨yb,yo,none⟩,ak⟩ : IRow)])++xs.drop (ei + 1)).flatMap rowC)::Ent.box p7 [.slice qa ps.length qc,.slice (some ⟨zb,zo,none⟩) xs.length lc0,.int .i64 kd,.bool on.reg,.int .i64 on.n,.slice xa to.length xc] 50::Ent.box p5 [.string nm,.int .i64 pa,.int .i64 re,.slice (some ⟨vb,vo,none⟩) n gc] 35::Ent.box p4 [.string ByteArray.empty,.int .i64 0,.int .i64 0,.slice none 0 0] 35::Ent.vec (some ⟨vb,vo,none⟩) n gc 50 6 (rs.flatMap blkC)::((ys++xs.drop (ei + 1)).map roE++(Ent.vec qa ps.length qc 86 2 (es.flatMap phiC)::toE (⟨qa,qc,ps,some ⟨zb,zo,none⟩,lc0,xs,kd,on,xa,xc,to⟩ : BRow)::(es.map phE++(rs.eraseIdx i).map blkE)))) yb (yo + j * 2) _:=ownAgg (k:=0) rfl vlC_len hgetv
    simp only [vlC] at hov
    have hvC : vlC (renV L v) = [.bool (renV L v).reg,.int .i64 (renV L v).n]:=rfl
    repeat (first|refine g_then ?_|refine g_seq ?_|refine g_block ?_|refine g_skip ?_)
    refine g_drawX [Ent.vec (some ⟨zb,zo,none⟩) xs.length lc0 88 8 (((ys++[(⟨{ x with a:=renV L x.a,b:=renV L x.b },some ⟨yb,yo,none⟩,ak⟩ : IRow)])++xs.drop (ei + 1)).flatMap rowC),Ent.box p7 [.slice qa ps.length qc,.slice (some ⟨zb,zo,none⟩) xs.length lc0,.int .i64 kd,.bool on.reg,.int .i64 on.n,.slice xa to.length xc] 50] (fun _ : Unit=>True) (fun _=>[(11,.int .i64 j),(10,.int .i64 ei),(7,.pointer (some ⟨p7,0,none⟩)),(6,.int .i64 i),(5,.pointer (some ⟨p5,0,none⟩)),(4,.pointer (some ⟨p4,0,none⟩)),(1,.slice la ln lc)]) (fun _=>Ent.vec (some ⟨yb,yo,none⟩) x.args.length ak 46 2 ((avJ (j + 1)).flatMap vlC)::Ent.vec (some ⟨zb,zo,none⟩) xs.length lc0 88 8 (((ys++[(⟨{ x with a:=renV L x.a,b:=renV L x.b },some ⟨yb,yo,none⟩,ak⟩ : IRow)])++xs.drop (ei + 1)).flatMap rowC)::Ent.box p7 [.slice qa ps.length qc,.slice (some ⟨zb,zo,none⟩) xs.length lc0,.int .i64 kd,.bool on.reg,.int .i64 on.n,.slice xa to.length xc] 50::Ent.box p5 [.string nm,.int .i64 pa,.int .i64 re,.slice (some ⟨vb,vo,none⟩) n gc] 35::Ent.box p4 [.string ByteArray.empty,.int .i64 0,.int .i64 0,.slice none 0 0] 35::Ent.vec (some ⟨vb,vo,none⟩) n gc 50 6 (rs.flatMap blkC)::((ys++xs.drop (ei + 1)).map roE++(Ent.vec qa ps.length qc 86 2 (es.flatMap phiC)::toE (⟨qa,qc,ps,some ⟨zb,zo,none⟩,lc0,xs,kd,on,xa,xc,to⟩ : BRow)::(es.map phE++(rs.eraseIdx i).map blkE)))) mixed (.cons _ (.cons_cons _ (.cons_cons _ (List.nil_sublist _)))) ?_ fun _ _=>?_
    ·skip
     refine h_take 0 rfl (by decide +kernel) (.cons _ (.cons_cons _ (.cons_cons _ (List.nil_sublist _)))) ?_
     refine h_take 1 rfl (by decide +kernel) (.cons _ (.cons_cons _ (.cons_cons _ (List.nil_sublist _)))) ?_
     refine h_take 2 rfl (by decide +kernel) (.cons _ (.cons_cons _ (.cons_cons _ (List.nil_sublist _)))) ?_
     refine h_take 3 rfl (by decide +kernel) (.cons _ (.cons_cons _ (.cons_cons _ (List.nil_sublist _)))) ?_
     refine h_take 4 rfl (by decide +kernel) (.cons _ (.cons_cons _ (.cons_cons _ (List.nil_sublist _)))) ?_
     refine h_take 5 rfl (by decide +kernel) (.cons _ (.cons_cons _ (.cons_cons _ (List.nil_sublist _)))) ?_
     refine h_take 6 rfl (by decide +kernel) (.cons _ (.cons_cons _ (.cons_cons _ (List.nil_sublist _)))) ?_
     refine h_take 7 rfl (by decide +kernel) (.cons _ (.cons_cons _ (.cons_cons _ (List.nil_sublist _)))) ?_
     refine h_take 8 rfl (by decide +kernel) (.cons _ (.cons_cons _ (.cons_cons _ (List.nil_sublist _)))) ?_
     refine h_take 9 rfl (by decide +kernel) (.cons _ (.cons_cons _ (.cons_cons _ (List.nil_sublist _)))) ?_
     refine h_take 10 rfl (by decide +kernel) (.cons _ (.cons_cons _ (.cons_cons _ (List.nil_sublist _)))) ?_
     refine h_take 11 rfl (by decide +kernel) (.cons _ (.cons_cons _ (.cons_cons _ (List.nil_sublist _)))) ?_
     refine h_take 12 rfl (by decide +kernel) (.cons _ (.cons_cons _ (.cons_cons _ (List.nil_sublist _)))) ?_
     refine h_take 13 rfl (by decide +kernel) (.cons _ (.cons_cons _ (.cons_cons _ (List.nil_sublist _)))) ?_
     refine h_take 14 rfl (by decide +kernel) (.cons _ (.cons_cons _ (.cons_cons _ (List.nil_sublist _)))) ?_
     refine h_take 16 rfl (by decide +kernel) (.cons _ (.cons_cons _ (.cons_cons _ (List.nil_sublist _)))) ?_
     refine h_one 15 (by decide +kernel) (o_op 15 rfl (.cons _ (.cons_cons _ (.cons_cons _ (List.nil_sublist _)))) ?_)
     refine h_callE 17 (val:=fun _ : Unit=>.agg #[.bool (renV L v).reg,.int .i64 (renV L v).n]) (E:=fun _=>[]) (φ:=fun _=>True) rfl (by decide +kernel) (.cons _ (.cons_cons _ (.cons_cons _ (List.nil_sublist _)))) (fun w hw=>namedR_c L _ v (hxv v (.inr (.inr hvm))) w (hl.keep keeps_int hw.chg)) fun _ _=>?_
     simp only [List.nil_append]
     refine h_take 18 rfl (by decide +kernel) (.cons _ (.cons_cons _ (.cons_cons _ (List.nil_sublist _)))) ?_
     refine h_one 19 (by decide +kernel) (o_storeVA 19 0 (j:=j * 2) rfl rfl (by rw [flat_len vlC_len,havl]; omega) (.cons _ (.cons_cons _ (.cons_cons _ (List.nil_sublist _)))) ?_)
     refine h_end (by decide +kernel) ?_
     simp only [List.set_cons_succ,List.set_cons_zero]
     rw [← hvC,flat_put vlC_len (by rw [havl]; exact hjl),hsetv]
     exact g_mem () trivial (by repeat (first|exact trivial|refine ⟨rfl,?_⟩)) (.refl _)
    repeat (first|refine g_op rfl ?_|refine g_then ?_|refine g_nil ?_|refine g_region ?_|refine g_opS rfl ?_|refine g_inBlock ?_|refine g_add rfl (by omega) (by omega) ?_)
    exact g_next (j + 1) (by omega) (by omega) (by repeat (first|exact trivial|refine ⟨rfl,?_⟩)) (.refl _)
   obtain rfl : x.args.length = j:=by have:=of_decide_eq_false h6; omega
   have havE : avJ x.args.length = x.args.map (renV L):=by rw [havJ]; simp
   rw [havE]
   have hl1 : (ys++[(⟨renI L x,aa,ak⟩ : IRow)]).length = ei + 1:=by simp [hyL]
   have hym2 : (ys++[(⟨renI L x,aa,ak⟩ : IRow)]).map (·.x) = (xs.take (ys++[(⟨renI L x,aa,ak⟩ : IRow)]).length).map (fun q=>renI L q.x):=by
    rw [hl1,List.take_add_one,hu,List.map_append,List.map_append,hym]
    rfl
   have hyb2 : ∀ y ∈ ys++[(⟨renI L x,aa,ak⟩ : IRow)],(inI y.x.op∧inI y.x.dst∧inI y.x.a.n∧inI y.x.b.n∧inI y.x.fn)∧y.x.args.length ≤ 1000∧∀ v ∈ y.x.args,inI v.n:=fun y hy=>by
    rcases List.mem_append.1 hy with hy|hy
    ·exact hyb y hy
    ·rw [List.mem_singleton.1 hy]
     refine ⟨⟨hun.1,renR_in hun.2.1 (by omega),renV_in hun.2.2.1 (by omega),renV_in hun.2.2.2.1 (by omega),hun.2.2.2.2⟩,by simp only [renI,List.length_map]; exact hub,fun v hv=>?_⟩
     obtain ⟨z,hz,rfl⟩:=List.mem_map.1 hv
     exact renV_in (huv z hz) (by omega)
   have hoD : OwnCell (Ent.vec aa x.args.length ak 46 2 ((x.args.map (renV L)).flatMap vlC)::Ent.vec (some ⟨zb,zo,none⟩) xs.length lc0 88 8 (((ys++[(⟨{ x with a:=renV L x.a,b:=renV L x.b },aa,ak⟩ : IRow)])++xs.drop (ei + 1)).flatMap rowC)::Ent.box p7 [.slice qa ps.length qc,.slice (some ⟨zb,zo,none⟩) xs.length lc0,.int .i64 kd,.bool on.reg,.int .i64 on.n,.slice xa to.length xc] 50::Ent.box p5 [.string nm,.int .i64 pa,.int .i64 re,.slice (some ⟨vb,vo,none⟩) n gc] 35::Ent.box p4 [.string ByteArray.empty,.int .i64 0,.int .i64 0,.slice none 0 0] 35::Ent.vec (some ⟨vb,vo,none⟩) n gc 50 6 (rs.flatMap blkC)::((ys++xs.drop (ei + 1)).map roE++(Ent.vec qa ps.length qc 86 2 (es.flatMap phiC)::toE (⟨qa,qc,ps,some ⟨zb,zo,none⟩,lc0,xs,kd,on,xa,xc,to⟩ : BRow)::(es.map phE++(rs.eraseIdx i).map blkE)))) zb (zo + ei * 8 + 1) (.int .i64 x.dst):=⟨fun _ _ _ hw=>by
    have h5:=hw.vecCell (k:=1) rfl (flat_at rowC_len _ ei _ 1 (.int .i64 x.dst) hget2 rfl)
    rwa [← Nat.add_assoc] at h5⟩
   repeat (first|refine g_op rfl ?_|refine g_then ?_|refine g_nil ?_|refine g_region ?_|refine g_seq ?_|refine g_exit ?_|refine g_thenExit ?_|refine g_exitHere ?_)
   refine g_cond (fun h7=>?_) (fun h7=>?_)
   ·have hge : 0 ≤ x.dst:=by simpa using h7
    have hnI : renI L x = { x with a:=renV L x.a,b:=renV L x.b,args:=x.args.map (renV L),dst:=plc L x.dst }:=by unfold renI renR; rw [if_pos hge]
    have hrN : rowC (⟨renI L x,aa,ak⟩ : IRow) = [.int .i64 x.op,.int .i64 (plc L x.dst),.bool (renV L x.a).reg,.int .i64 (renV L x.a).n,.bool (renV L x.b).reg,.int .i64 (renV L x.b).n,.int .i64 x.fn,.slice aa x.args.length ak]:=by
     rw [hnI]
     unfold rowC
     simp only [List.length_map]
    have hxs : XSet (((ys++[(⟨{ x with a:=renV L x.a,b:=renV L x.b },aa,ak⟩ : IRow)])++xs.drop (ei + 1)).flatMap rowC) (ei * 8 + 1) (.int .i64 (plc L x.dst)) (((ys++[(⟨renI L x,aa,ak⟩ : IRow)])++xs.drop (ei + 1)).flatMap rowC):=⟨by
     rw [flat_set rowC_len hget2 (k:=1) (by omega) (y:=(⟨renI L x,aa,ak⟩ : IRow)) (by rw [hrN]; rfl),set_tail hyL],by rw [flat_len rowC_len,List.length_append,List.length_append,List.length_drop]; simp; omega⟩
    have hot : OwnAt (Ent.vec aa x.args.length ak 46 2 ((x.args.map (renV L)).flatMap vlC)::Ent.vec (some ⟨zb,zo,none⟩) xs.length lc0 88 8 (((ys++[(⟨{ x with a:=renV L x.a,b:=renV L x.b },aa,ak⟩ : IRow)])++xs.drop (ei + 1)).flatMap rowC)::Ent.box p7 [.slice qa ps.length qc,.slice (some ⟨zb,zo,none⟩) xs.length lc0,.int .i64 kd,.bool on.reg,.int .i64 on.n,.slice xa to.length xc] 50::Ent.box p5 [.string nm,.int .i64 pa,.int .i64 re,.slice (some ⟨vb,vo,none⟩) n gc] 35::Ent.box p4 [.string ByteArray.empty,.int .i64 0,.int .i64 0,.slice none 0 0] 35::Ent.vec (some ⟨vb,vo,none⟩) n gc 50 6 (rs.flatMap blkC)::((ys++xs.drop (ei + 1)).map roE++(Ent.vec qa ps.length qc 86 2 (es.flatMap phiC)::toE (⟨qa,qc,ps,some ⟨zb,zo,none⟩,lc0,xs,kd,on,xa,xc,to⟩ : BRow)::(es.map phE++(rs.eraseIdx i).map blkE)))) zb (zo + ei * 8 + 1) 1 zo (ei * 8 + 1) xs.length lc0 88 8 (((ys++[(⟨{ x with a:=renV L x.a,b:=renV L x.b },aa,ak⟩ : IRow)])++xs.drop (ei + 1)).flatMap rowC):=⟨rfl,by omega⟩
    skip
    refine g_drawX [Ent.box p7 [.slice qa ps.length qc,.slice (some ⟨zb,zo,none⟩) xs.length lc0,.int .i64 kd,.bool on.reg,.int .i64 on.n,.slice xa to.length xc] 50] (fun _ : Unit=>True) (fun _=>[(10,.int .i64 ei),(7,.pointer (some ⟨p7,0,none⟩)),(6,.int .i64 i),(5,.pointer (some ⟨p5,0,none⟩)),(4,.pointer (some ⟨p4,0,none⟩)),(1,.slice la ln lc)]) (fun _=>Ent.vec aa x.args.length ak 46 2 ((x.args.map (renV L)).flatMap vlC)::Ent.vec (some ⟨zb,zo,none⟩) xs.length lc0 88 8 (((ys++[(⟨renI L x,aa,ak⟩ : IRow)])++xs.drop (ei + 1)).flatMap rowC)::Ent.box p7 [.slice qa ps.length qc,.slice (some ⟨zb,zo,none⟩) xs.length lc0,.int .i64 kd,.bool on.reg,.int .i64 on.n,.slice xa to.length xc] 50::Ent.box p5 [.string nm,.int .i64 pa,.int .i64 re,.slice (some ⟨vb,vo,none⟩) n gc] 35::Ent.box p4 [.string ByteArray.empty,.int .i64 0,.int .i64 0,.slice none 0 0] 35::Ent.vec (some ⟨vb,vo,none⟩) n gc 50 6 (rs.flatMap blkC)::((ys++xs.drop (ei + 1)).map roE++(Ent.vec qa ps.length qc 86 2 (es.flatMap phiC)::toE (⟨qa,qc,ps,some ⟨zb,zo,none⟩,lc0,xs,kd,on,xa,xc,to⟩ : BRow)::(es.map phE++(rs.eraseIdx i).map blkE)))) mixed (.cons _ (.cons _ (.cons_cons _ (List.nil_sublist _)))) ?_ fun _ _=>?_
    ·skip
     refine h_take 0 rfl (by decide +kernel) (.cons _ (.cons _ (.cons_cons _ (List.nil_sublist _)))) ?_
     refine h_take 1 rfl (by decide +kernel) (.cons _ (.cons _ (.cons_cons _ (List.nil_sublist _)))) ?_
     refine h_take 2 rfl (by decide +kernel) (.cons _ (.cons _ (.cons_cons _ (List.nil_sublist _)))) ?_
     refine h_take 3 rfl (by decide +kernel) (.cons _ (.cons _ (.cons_cons _ (List.nil_sublist _)))) ?_
     refine h_take 4 rfl (by decide +kernel) (.cons _ (.cons _ (.cons_cons _ (List.nil_sublist _)))) ?_
     refine h_take 5 rfl (by decide +kernel) (.cons _ (.cons _ (.cons_cons _ (List.nil_sublist _)))) ?_
     refine h_take 6 rfl (by decide +kernel) (.cons _ (.cons _ (.cons_cons _ (List.nil_sublist _)))) ?_
     refine h_take 7 rfl (by decide +kernel) (.cons _ (.cons _ (.cons_cons _ (List.nil_sublist _)))) ?_
     refine h_take 8 rfl (by decide +kernel) (.cons _ (.cons _ (.cons_cons _ (List.nil_sublist _)))) ?_
     refine h_one 9 (by decide +kernel) (o_op 9 rfl (.cons _ (.cons _ (.cons_cons _ (List.nil_sublist _)))) ?_)
     refine h_callV 10 rfl (by decide +kernel) (.cons _ (.cons _ (.cons_cons _ (List.nil_sublist _)))) (fun w hw=>plcI_c _ L x.dst w (hl.keep keeps_int hw.chg)) ?_
     rw [plcI_in (hxd hge)]
     refine h_take 11 rfl (by decide +kernel) (.cons _ (.cons _ (.cons_cons _ (List.nil_sublist _)))) ?_
     refine h_take 12 rfl (by decide +kernel) (.cons _ (.cons _ (.cons_cons _ (List.nil_sublist _)))) ?_
     refine h_storeV 13 (by decide +kernel) (by decide +kernel) (.cons _ (.cons _ (.cons_cons _ (List.nil_sublist _)))) ?_
     exact g_mem () trivial (by repeat (first|exact trivial|refine ⟨rfl,?_⟩)) (.refl _)
    clear hot hxs hoD
    repeat (first|refine g_op rfl ?_|refine g_then ?_|refine g_nil ?_|refine g_region ?_|refine g_opS rfl ?_|refine g_inBlock ?_|refine g_add rfl (by omega) (by omega) ?_)
    refine g_permH (H1:=Ent.vec (some ⟨zb,zo,none⟩) xs.length lc0 88 8 (((ys++[(⟨renI L x,aa,ak⟩ : IRow)])++xs.drop (ys++[(⟨renI L x,aa,ak⟩ : IRow)]).length).flatMap rowC)::Ent.box p7 [.slice qa ps.length qc,.slice (some ⟨zb,zo,none⟩) xs.length lc0,.int .i64 kd,.bool on.reg,.int .i64 on.n,.slice xa to.length xc] 50::Ent.box p5 [.string nm,.int .i64 pa,.int .i64 re,.slice (some ⟨vb,vo,none⟩) n gc] 35::Ent.box p4 [.string ByteArray.empty,.int .i64 0,.int .i64 0,.slice none 0 0] 35::Ent.vec (some ⟨vb,vo,none⟩) n gc 50 6 (rs.flatMap blkC)::(((ys++[(⟨renI L x,aa,ak⟩ : IRow)])++xs.drop (ys++[(⟨renI L x,aa,ak⟩ : IRow)]).length).map roE++(Ent.vec qa ps.length qc 86 2 (es.flatMap phiC)::toE (⟨qa,qc,ps,some ⟨zb,zo,none⟩,lc0,xs,kd,on,xa,xc,to⟩ : BRow)::(es.map phE++(rs.eraseIdx i).map blkE)))) (List.perm_iff_count.2 fun e=>?_) ?_
    ·have e2 : roE (⟨renI L x,aa,ak⟩ : IRow) = Ent.vec aa x.args.length ak 46 2 ((x.args.map (renV L)).flatMap vlC):=by unfold roE renI; simp only [List.length_map]
     rw [hl1]
     simp only [List.map_append,List.map_cons,List.map_nil,List.count_append,List.count_cons,List.count_nil,e2]
     omega
    refine g_next (ys++[(⟨renI L x,aa,ak⟩ : IRow)]) ⟨by rw [hl1]; omega,hym2,hyb2⟩ (by rw [hl1]; omega) (by simp only [hl1]; repeat (first|exact trivial|refine ⟨rfl,?_⟩)) (.refl _)
   ·have hlt0 : ¬ 0 ≤ x.dst:=by simpa using h7
    have hC2 : ((ys++[(⟨{ x with a:=renV L x.a,b:=renV L x.b },aa,ak⟩ : IRow)])++xs.drop (ei + 1)).flatMap rowC = ((ys++[(⟨renI L x,aa,ak⟩ : IRow)])++xs.drop (ei + 1)).flatMap rowC:=by
     simp only [List.flatMap_append,List.flatMap_cons,List.flatMap_nil,rowC,renI,renR,if_neg hlt0,List.length_map]
    rw [hC2]
    clear hoD
    repeat (first|refine g_op rfl ?_|refine g_then ?_|refine g_nil ?_|refine g_region ?_|refine g_opS rfl ?_|refine g_inBlock ?_|refine g_skip ?_|refine g_add rfl (by omega) (by omega) ?_)
    refine g_permH (H1:=Ent.vec (some ⟨zb,zo,none⟩) xs.length lc0 88 8 (((ys++[(⟨renI L x,aa,ak⟩ : IRow)])++xs.drop (ys++[(⟨renI L x,aa,ak⟩ : IRow)]).length).flatMap rowC)::Ent.box p7 [.slice qa ps.length qc,.slice (some ⟨zb,zo,none⟩) xs.length lc0,.int .i64 kd,.bool on.reg,.int .i64 on.n,.slice xa to.length xc] 50::Ent.box p5 [.string nm,.int .i64 pa,.int .i64 re,.slice (some ⟨vb,vo,none⟩) n gc] 35::Ent.box p4 [.string ByteArray.empty,.int .i64 0,.int .i64 0,.slice none 0 0] 35::Ent.vec (some ⟨vb,vo,none⟩) n gc 50 6 (rs.flatMap blkC)::(((ys++[(⟨renI L x,aa,ak⟩ : IRow)])++xs.drop (ys++[(⟨renI L x,aa,ak⟩ : IRow)]).length).map roE++(Ent.vec qa ps.length qc 86 2 (es.flatMap phiC)::toE (⟨qa,qc,ps,some ⟨zb,zo,none⟩,lc0,xs,kd,on,xa,xc,to⟩ : BRow)::(es.map phE++(rs.eraseIdx i).map blkE)))) (List.perm_iff_count.2 fun e=>?_) ?_
    ·have e2 : roE (⟨renI L x,aa,ak⟩ : IRow) = Ent.vec aa x.args.length ak 46 2 ((x.args.map (renV L)).flatMap vlC):=by unfold roE renI; simp only [List.length_map]
     rw [hl1]
     simp only [List.map_append,List.map_cons,List.map_nil,List.count_append,List.count_cons,List.count_nil,e2]
     omega
    refine g_next (ys++[(⟨renI L x,aa,ak⟩ : IRow)]) ⟨by rw [hl1]; omega,hym2,hyb2⟩ (by rw [hl1]; omega) (by simp only [hl1]; repeat (first|exact trivial|refine ⟨rfl,?_⟩)) (.refl _)
  have hgy : ys.length = xs.length:=by have:=of_decide_eq_false h5; omega
  rw [hgy,List.drop_length,List.append_nil]
  rw [hgy,List.take_length] at hym
  obtain ⟨B',hB'⟩ : ∃ B' : BRow,B' = ⟨qa,qc,es,xa0,lc0,ys,kd,renV L on,xa,xc,to⟩:=⟨_,rfl⟩
  have hblk' : B'.blk = renB L ((⟨qa,qc,ps,xa0,lc0,xs,kd,on,xa,xc,to⟩ : BRow)).blk:=by
   rw [hB']
   unfold BRow.blk renB
   simp only [hem,hym,List.map_map]
   rfl
  have hBd' : B'.Bd:=by
   rw [hB']
   exact ⟨hBd.kind,renV_in hBd.on (by omega),by simp only [hge]; exact hpsl,heb,by simp only [hgy]; exact hxsl,hyb,hBd.to⟩
  have hbC : blkC B' = [.slice qa ps.length qc,.slice xa0 xs.length lc0,.int .i64 kd,.bool (renV L on).reg,.int .i64 (renV L on).n,.slice xa to.length xc]:=by rw [hB']; simp only [blkC,hge,hgy]
  repeat (first|refine g_op rfl ?_|refine g_then ?_|refine g_region ?_|refine g_seq ?_|refine g_exit ?_|refine g_thenExit ?_|refine g_exitHere ?_)
  refine g_callE (val:=fun _ : Unit=>.agg #[.bool (renV L on).reg,.int .i64 (renV L on).n]) (E:=fun _=>[]) (φ:=fun _=>True) rfl (fun w hw=>namedR_c L _ on (fun r hr=>hrg1 r (.inl (List.mem_append_right _ (List.mem_append_right _ hr)))) w (hl.keep keeps_int hw.chg)) fun _ _=>?_
  simp only [List.nil_append]
  repeat (first|refine g_op rfl ?_|refine g_then ?_|refine g_nil ?_|refine g_region ?_|refine g_storeAgg ?_)
  refine g_storeVA 4 (j:=i * 6) rfl rfl (by rw [flat_len blkC_len,hrl]; omega) ?_
  have hput:=flat_put blkC_len (l:=rs) (i:=i) (by omega) B'
  rw [hbC] at hput
  rw [hput]
  simp only [List.set_cons_succ,List.set_cons_zero]
  repeat (first|refine g_op rfl ?_|refine g_then ?_|refine g_nil ?_|refine g_region ?_|refine g_opS rfl ?_|refine g_inBlock ?_|refine g_add rfl (by omega) (by omega) ?_)
  have e1 : blkPs B' = Ent.vec qa ps.length qc 86 2 (es.flatMap phiC)::Ent.vec xa0 xs.length lc0 88 8 (ys.flatMap rowC)::toE (⟨qa,qc,ps,xa0,lc0,xs,kd,on,xa,xc,to⟩ : BRow)::(es.map phE++ys.map roE):=by rw [hB']; simp only [blkPs,hge,hgy,toE]
  refine g_wd (H':=blkPs B'++(Ent.box p5 [.string nm,.int .i64 pa,.int .i64 re,.slice (some ⟨vb,vo,none⟩) n gc] 35::Ent.box p4 [.string ByteArray.empty,.int .i64 0,.int .i64 0,.slice none 0 0] 35::Ent.vec (some ⟨vb,vo,none⟩) n gc 50 6 ((rs.set i B').flatMap blkC)::(rs.eraseIdx i).map blkE)) (fun w hw=>?_) ?_
  ·refine hw.pick ⟨[Ent.box p7 [.slice qa ps.length qc,.slice xa0 xs.length lc0,.int .i64 kd,.bool (renV L on).reg,.int .i64 (renV L on).n,.slice xa to.length xc] 50],List.perm_iff_count.2 fun e=>?_⟩
   rw [e1]
   simp only [List.count_append,List.count_cons,List.count_nil]
   omega
  refine g_joinH ?_
  have hset : (rs.set i B')[i]? = some B':=List.getElem?_set_self (by omega)
  have hpull2:=map_pull blkE hset
  rw [List.eraseIdx_set_eq] at hpull2
  refine g_permH (H1:=Ent.box p5 [.string nm,.int .i64 pa,.int .i64 re,.slice (some ⟨vb,vo,none⟩) n gc] 35::Ent.box p4 [.string ByteArray.empty,.int .i64 0,.int .i64 0,.slice none 0 0] 35::Ent.vec (some ⟨vb,vo,none⟩) n gc 50 6 ((rs.set i B').flatMap blkC)::(rs.set i B').map blkE) (List.perm_iff_count.2 fun e=>?_) ?_
  ·have:=List.perm_iff_count.1 hpull2 e
   unfold blkE at this ⊢
   simp only [List.count_cons] at this ⊢
   omega
  refine g_next (i + 1,rs.set i B') ⟨by simp only; omega,by simp only [List.length_set]; exact hrl,?_,fun b hb=>?_⟩ (by simp only; omega) (by repeat (first|exact trivial|refine ⟨rfl,?_⟩)) (.refl _)
  ·simp only
   rw [List.map_set,hrk,List.set_append_right _ _ (by simp; omega),List.length_map,List.length_take,Nat.min_eq_left (by omega),Nat.sub_self,hdropB,List.set_cons_zero,List.take_add_one,hB,List.map_append,hblk']
   simp
  ·rcases List.mem_or_eq_of_mem_set hb with hb|rfl
   ·exact hrd b hb
   ·exact hBd'
 ·have hie : i = n:=by have:=of_decide_eq_false h2; omega
  rw [hie,← hbn,List.take_length,List.drop_length,List.append_nil] at hrk
  repeat (first|refine g_op rfl ?_|refine g_then ?_|refine g_nil ?_|refine g_region ?_|refine g_seq ?_|refine g_storeAgg ?_|refine g_exit ?_|refine g_thenExit ?_|refine g_exitHere ?_|refine g_ret ?_)
  refine g_retC rfl fun w hw=>⟨(ga,gc,rs),by simp only [hrl],?_,hrk,hrd⟩
  refine hw.sub ?_
  unfold fnE
  simp only [hrl]
  exact .cons _ (.cons _ (.refl _))
end Go.Proofs.YtpadjpplidlfeaaGreatDoor

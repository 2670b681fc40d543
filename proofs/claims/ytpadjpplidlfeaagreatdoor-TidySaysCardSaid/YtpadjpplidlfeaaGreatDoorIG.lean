/- Texts joined: KeptR. -/
import Derived.Test.YtpadjpplidlfeaaGreatDoorHW
import Derived.Test.YtpadjpplidlfeaaGreatDoorIF
namespace Go.Proofs.YtpadjpplidlfeaaGreatDoor
open Go Go.RowKit
attribute [local irreducible] wpListIn Code.wpIn Exit.then Exit.inBlock bodyPost wpQuiet wpAnyIn wpAnyH bodyPostM oneH
set_option maxHeartbeats 8000000
theorem plcI_nat (x : Nat) : ∀ o : List Nat,plcI (o.map fun x : Nat=>(x : Int)) (x : Int) = if x ∈ o then ((o.idxOf x : Nat) : Int) else -1:=fun o=>by
 have h1 : ((x : Int) ∈ o.map fun x : Nat=>(x : Int)) ↔ x ∈ o:=by
  rw [List.mem_map]
  constructor
  ·rintro ⟨y,hy,e⟩
   have : y = x:=by omega
   exact this ▸ hy
  ·intro h
   exact ⟨x,h,rfl⟩
 have h2 : ∀ o : List Nat,(o.map fun x : Nat=>(x : Int)).idxOf (x : Int) = o.idxOf x:=fun o=>by
  induction o with
  | nil=>rfl
  | cons y o ih =>
   rw [List.map_cons,List.idxOf_cons,List.idxOf_cons,ih,show ((y : Int) == (x : Int)) = (y == x) by
    rw [Bool.eq_iff_iff,beq_iff_eq,beq_iff_eq]
    omega]
 unfold plcI
 rw [h2]
 by_cases h : x ∈ o
 ·rw [if_pos h,if_pos (h1.2 h)]
 ·rw [if_neg h,if_neg (fun e=>h (h1.1 e))]
def frI (x : Nat × LVal) : Int × LVal:=((x.1 : Int),x.2)
theorem fvC_ed (l : List (Nat × LVal)) : (l.map frI).flatMap edC = l.flatMap fvC:=by
 rw [List.flatMap_map]
 rfl
theorem rowR_fr {bl : List LBlock} {o : List Nat} (hn : o.Nodup) (b : Nat) (p : LPhi) : rowR ((frRow bl o b p).map frI) o.length = (keepPhi bl o b p).src:=by
 have h1 : ∀ k,k < o.length→rowAt ((frRow bl o b p).map frI) k = if nth o k ∈ preds bl b then [srcAt bl b p (nth o k)] else []:=fun k hk=>by
  unfold rowAt
  by_cases hm : nth o k ∈ preds bl b
  ·rw [if_pos hm]
   have hex : ∃ e,((frRow bl o b p).map frI).find? (fun e=>decide (e.1 = (k : Int))) = some e:=by
    rw [← Option.isSome_iff_exists,List.find?_isSome]
    refine ⟨((k : Int),srcAt bl b p (nth o k)),List.mem_map.2 ⟨(k,srcAt bl b p (nth o k)),?_,rfl⟩,by simp⟩
    unfold frRow
    exact List.mem_map.2 ⟨nth o k,List.mem_filter.2 ⟨hm,by simpa using nth_mem hk⟩,by rw [idx_nth hn hk]⟩
   obtain ⟨e,he⟩:=hex
   rw [he]
   have h3:=List.find?_some he
   have h4:=List.mem_of_find?_eq_some he
   simp only [decide_eq_true_eq] at h3
   obtain ⟨y,hy,rfl⟩:=List.mem_map.1 h4
   unfold frRow at hy
   obtain ⟨q,hq,rfl⟩:=List.mem_map.1 hy
   have hqo : q ∈ o:=by simpa using (List.mem_filter.1 hq).2
   unfold frI at h3
   simp only at h3
   have h5 : o.idxOf q = k:=by omega
   rw [← h5,nth_idx hqo]
   rfl
  ·rw [if_neg hm]
   split
   ·rename_i e he
    have h3:=List.find?_some he
    have h4:=List.mem_of_find?_eq_some he
    simp only [decide_eq_true_eq] at h3
    obtain ⟨y,hy,rfl⟩:=List.mem_map.1 h4
    unfold frRow at hy
    obtain ⟨q,hq,rfl⟩:=List.mem_map.1 hy
    have hqo : q ∈ o:=by simpa using (List.mem_filter.1 hq).2
    unfold frI at h3
    simp only at h3
    have h5 : o.idxOf q = k:=by omega
    rw [← h5,nth_idx hqo] at hm
    exact absurd (List.mem_filter.1 hq).1 hm
   ·rfl
 have h2 : ∀ l : List Nat,(l.filter fun q=>decide (q ∈ preds bl b)).map (srcAt bl b p) = l.flatMap fun q=>if q ∈ preds bl b then [srcAt bl b p q] else []:=fun l=>by
  induction l with
  | nil=>rfl
  | cons q l ih =>
   rw [List.flatMap_cons,← ih]
   by_cases h : q ∈ preds bl b
   ·simp [h]
   ·simp [h]
 unfold keepPhi rowR
 simp only
 rw [h2]
 conv=>rhs; rw [← map_nth o]
 rw [List.flatMap_map]
 exact flat_congr fun k hk=>h1 k (List.mem_range.1 hk)
theorem flat_part2 {α : Type} {g : α→List Value} {s : Nat} (hg : ∀ x,(g x).length = s) {H : List Ent} {k b o n c e : Nat} {l : List α} {i : Nat} {y : α} (hk : H[k]? = some (Ent.vec (some ⟨b,o,none⟩) n c e s (l.flatMap g))) (hy : l[i]? = some y) (f : Nat) {v1 v2 : Value} (h1 : (g y)[f]? = some v1) (h2 : (g y)[f + 1]? = some v2) : OwnAgg H b (o + i * s + f) [v1,v2]:=⟨fun _ _ w hw j v hj=>by
 match j,hj with
 | 0,hj =>
  have h5:=hw.vecCell hk (flat_at hg l i y f _ hy h1)
  rw [← Nat.add_assoc] at h5
  simp only [List.getElem?_cons_zero,Option.some.injEq] at hj
  rw [← hj]
  exact h5
 | 1,hj =>
  have h5:=hw.vecCell hk (flat_at hg l i y (f + 1) _ hy h2)
  rw [← Nat.add_assoc,← Nat.add_assoc] at h5
  simp only [List.getElem?_cons_succ,List.getElem?_cons_zero,Option.some.injEq] at hj
  rw [← hj]
  exact h5
 | j + 2,hj=>simp at hj⟩
theorem keptR_c (nm : ByteArray) (pa re : Int) (bl : List LBlock) (bs : Value) (R : Nat) (hf : FuncOk R bl) (hlen : bl.length ≤ 100) (o : List Nat) (hk : KOk bl o) (hol : o.length ≤ 100) (oa : Option Addr) (on2 oc : Nat) (w0 : World) (hbs : SlAt w0 bs 6 bl BlockV) (hbd : ∀ b : BRow,b.blk ∈ bl→b.Bd) (ho : SlAt w0 (.slice oa on2 oc) 1 (o.map fun x : Nat=>(x : Int)) IntV) :
  Ret Tryz.prog 31 [.agg #[.string nm,.int .i64 pa,.int .i64 re,bs],.slice oa on2 oc] w0 fun u w'=>∃ x : Option Addr × Nat × List BRow,u = .agg #[.string nm,.int .i64 pa,.int .i64 re,.slice x.1 x.2.2.length x.2.1]∧Wd NoS w0 (fnE x.1 x.2.1 x.2.2) w'∧(x.2.2.map BRow.blk = keptL bl o∧∀ b ∈ x.2.2,b.Bd):=by
 classical
 have hg:=hf.good
 obtain ⟨ba,bc,q,rfl,hqm,hqs,hqa⟩:=blk_rows hbs
 have hql : q.length = bl.length:=by rw [← hqm,List.length_map]
 obtain ⟨hon,_⟩:=ho.at
 rw [List.length_map] at hon
 subst on2
 refine ret_enter Tryz.func31 rfl Tryz.ntmps31 rfl (Wd.nil NoS w0) ?_
 repeat (first|refine g_op rfl ?_|refine g_then ?_|refine g_nil ?_|refine g_region ?_|refine g_seq ?_|refine g_box rfl fun _ _=>?_|refine g_alloc rfl fun _ _=>?_|refine g_storeAgg ?_|refine g_block ?_)
 rename_i p2 _ p4 _ p5 _
 refine g_nilVec 50 6 ?_
 refine g_loop (fun (x : Option Addr × Nat × List BRow)=>x.2.2.length ≤ o.length∧x.2.2.map BRow.blk = (o.take x.2.2.length).map (fun b=>keepB bl o b (blkAt bl b))∧∀ b ∈ x.2.2,b.Bd) (fun x=>[(6,.int .i64 x.2.2.length),(5,.pointer (some ⟨p5,0,none⟩)),(4,.pointer (some ⟨p4,0,none⟩)),(2,.pointer (some ⟨p2,0,none⟩)),(1,.slice oa o.length oc)])
  (fun x=>Ent.vec x.1 x.2.2.length x.2.1 50 6 (x.2.2.flatMap blkC)::Ent.box p5 [.string nm,.int .i64 pa,.int .i64 re,.slice x.1 x.2.2.length x.2.1] 35::Ent.box p4 [.string ByteArray.empty,.int .i64 0,.int .i64 0,.slice none 0 0] 35::Ent.box p2 [.string nm,.int .i64 pa,.int .i64 re,.slice ba q.length bc] 35::x.2.2.map blkE) (fun x=>o.length - x.2.2.length) (none,0,[]) ⟨Nat.zero_le _,rfl,by simp⟩ (g_done (by repeat (first|exact trivial|refine ⟨rfl,?_⟩)) (by simp)) fun x ⟨hi,hdm,hdb⟩=>?_
 obtain ⟨ga,gc,ds⟩:=x
 simp only at hi hdm hdb ⊢
 repeat (first|refine g_op rfl ?_|refine g_then ?_|refine g_nil ?_|refine g_region ?_|refine g_seq ?_)
 refine g_cond (fun h2=>?_) (fun h2=>?_)
 ·have hil : ds.length < o.length:=by simpa using h2
  generalize hiL : ds.length = i at *
  obtain ⟨b,hb⟩ : ∃ b,o[i]? = some b:=⟨_,List.getElem?_eq_getElem hil⟩
  have hbn : b < bl.length:=hk.lt b (List.mem_of_getElem? hb)
  obtain ⟨bb,bo,hqad,hqold,hqel⟩:=slKnown (S:=NoS) ho (fun _=>inferInstance) (fun _ _ h=>⟨_,_,h.1⟩) (fun e=>by have:=ne_of_get hb; simp at e; exact this e)
  obtain ⟨_,hcio,rfl,_⟩:=hqel i (b : Int) (by rw [List.getElem?_map,hb]; rfl)
  have hlio : LtIs i o.length:=⟨hil⟩
  have hliq : LtIs b q.length:=⟨by omega⟩
  obtain ⟨br,hbr⟩ : ∃ br,q[b]? = some br:=⟨_,List.getElem?_eq_getElem (by omega)⟩
  have hbq:=List.mem_of_getElem? hbr
  have hblB : bl[b]? = some br.blk:=by rw [← hqm,List.getElem?_map,hbr]; rfl
  have hbok:=hf.block b _ hblB
  have hAb:=hqa br hbq
  have hBb:=hbd br (List.mem_of_getElem? hblB)
  obtain ⟨_,_,_,cb,co,hca,hcel⟩:=hqs.at
  have hadb : AddrIs ba cb co:=⟨hca (List.ne_nil_of_mem hbq)⟩
  obtain ⟨_,hcb,hcb'⟩:=hcel b br hbr
  rw [hcb'] at hcb
  simp only [blkC] at hcb
  have hcib : CellsIs w0 cb (co + b * 6) _:=⟨hcb⟩
  repeat (first|refine g_then ?_|refine g_seq ?_|refine g_block ?_|refine g_skip ?_)
  refine g_drawX (Ent.box p2 [.string nm,.int .i64 pa,.int .i64 re,.slice ba q.length bc] 35::ds.map blkE) (fun x : Nat × BRow=>x.2.blk = br.blk∧x.2.Bd) (fun x=>[(7,.pointer (some ⟨x.1,0,none⟩)),(6,.int .i64 i),(5,.pointer (some ⟨p5,0,none⟩)),(4,.pointer (some ⟨p4,0,none⟩)),(2,.pointer (some ⟨p2,0,none⟩)),(1,.slice oa o.length oc)]) (fun x=>Ent.box x.1 (blkC x.2) 50::blkE x.2::Ent.vec ga i gc 50 6 (ds.flatMap blkC)::Ent.box p5 [.string nm,.int .i64 pa,.int .i64 re,.slice ga i gc] 35::Ent.box p4 [.string ByteArray.empty,.int .i64 0,.int .i64 0,.slice none 0 0] 35::Ent.box p2 [.string nm,.int .i64 pa,.int .i64 re,.slice ba q.length bc] 35::ds.map blkE) mixed (by repeat (first|exact List.Sublist.refl _|refine List.Sublist.cons _ ?_)) ?_ fun x hx=>?_
  ·skip
   refine h_take 0 rfl (by decide +kernel) (by repeat (first|exact List.Sublist.refl _|refine List.Sublist.cons _ ?_)) ?_
   refine h_take 1 rfl (by decide +kernel) (by repeat (first|exact List.Sublist.refl _|refine List.Sublist.cons _ ?_)) ?_
   refine h_take 2 rfl (by decide +kernel) (by repeat (first|exact List.Sublist.refl _|refine List.Sublist.cons _ ?_)) ?_
   refine h_take 3 rfl (by decide +kernel) (by repeat (first|exact List.Sublist.refl _|refine List.Sublist.cons _ ?_)) ?_
   refine h_take 4 rfl (by decide +kernel) (by repeat (first|exact List.Sublist.refl _|refine List.Sublist.cons _ ?_)) ?_
   refine h_take 5 rfl (by decide +kernel) (by repeat (first|exact List.Sublist.refl _|refine List.Sublist.cons _ ?_)) ?_
   refine h_take 6 rfl (by decide +kernel) (by repeat (first|exact List.Sublist.refl _|refine List.Sublist.cons _ ?_)) ?_
   refine h_take 7 rfl (by decide +kernel) (by repeat (first|exact List.Sublist.refl _|refine List.Sublist.cons _ ?_)) ?_
   refine h_two 8 9 (by decide +kernel) ?_ ?_
   ·skip
    (refine o_callE 8 (val:=fun c : BRow=>.agg #[.slice c.pa c.ps.length c.pc,.slice c.la c.xs.length c.lc,.int .i64 c.kind,.bool c.on.reg,.int .i64 c.on.n,.slice c.ta c.to.length c.tc]) (E:=fun c=>[blkE c]) (φ:=fun c=>c.blk = br.blk∧c.Bd) rfl (by repeat (first|exact List.Sublist.refl _|refine List.Sublist.cons _ ?_)) (fun w hw=>blockR_c br w (hAb.keep hw.chg) hBb) fun y hy=>?_; simp only [List.cons_append,List.nil_append])
    refine h_one 9 (by decide +kernel) ?_
    refine o_alloc 9 rfl (by repeat (first|exact List.Sublist.refl _|refine List.Sublist.cons _ ?_)) fun p7 _=>?_
    refine h_storeAgg 10 (by decide +kernel) (by repeat (first|exact List.Sublist.refl _|refine List.Sublist.cons _ ?_)) ?_
    refine h_end (by decide +kernel) ?_
    exact g_memP (p7,y) hy (by repeat (first|exact trivial|refine ⟨rfl,?_⟩)) ⟨[],List.perm_iff_count.2 fun e=>by simp only [blkC,List.count_append,List.count_cons,List.count_nil]; omega⟩
   ·skip
    refine o_alloc 9 rfl (by repeat (first|exact List.Sublist.refl _|refine List.Sublist.cons _ ?_)) fun p7 _=>?_
    refine h_one 8 (by decide +kernel) ?_
    (refine o_callE 8 (val:=fun c : BRow=>.agg #[.slice c.pa c.ps.length c.pc,.slice c.la c.xs.length c.lc,.int .i64 c.kind,.bool c.on.reg,.int .i64 c.on.n,.slice c.ta c.to.length c.tc]) (E:=fun c=>[blkE c]) (φ:=fun c=>c.blk = br.blk∧c.Bd) rfl (by repeat (first|exact List.Sublist.refl _|refine List.Sublist.cons _ ?_)) (fun w hw=>blockR_c br w (hAb.keep hw.chg) hBb) fun y hy=>?_; simp only [List.cons_append,List.nil_append])
    refine h_storeAgg 10 (by decide +kernel) (by repeat (first|exact List.Sublist.refl _|refine List.Sublist.cons _ ?_)) ?_
    refine h_end (by decide +kernel) ?_
    exact g_memP (p7,y) hy (by repeat (first|exact trivial|refine ⟨rfl,?_⟩)) ⟨[],List.perm_iff_count.2 fun e=>by simp only [blkC,List.count_append,List.count_cons,List.count_nil]; omega⟩
  obtain ⟨p7,c⟩:=x
  obtain ⟨hcblk,hcBd⟩:=hx
  simp only at hcblk hcBd ⊢
  obtain ⟨qa,qc,ps,xa0,lc0,xs,kd,on,xa,xc,to⟩:=c
  simp only [blkC]
  have hBd:=hcBd
  have hpsl : ps.length ≤ 1000:=hBd.phis
  have htol : to.length ≤ 1000:=hBd.to.1
  have hblk1 : br.blk = ((⟨qa,qc,ps,xa0,lc0,xs,kd,on,xa,xc,to⟩ : BRow)).blk:=hcblk.symm
  rw [hblk1] at hblB hbok
  refine g_permH (H1:=blkE (⟨qa,qc,ps,xa0,lc0,xs,kd,on,xa,xc,to⟩ : BRow)::(Ent.box p7 [.slice qa ps.length qc,.slice xa0 xs.length lc0,.int .i64 kd,.bool on.reg,.int .i64 on.n,.slice xa to.length xc] 50::Ent.vec ga i gc 50 6 (ds.flatMap blkC)::Ent.box p5 [.string nm,.int .i64 pa,.int .i64 re,.slice ga i gc] 35::Ent.box p4 [.string ByteArray.empty,.int .i64 0,.int .i64 0,.slice none 0 0] 35::Ent.box p2 [.string nm,.int .i64 pa,.int .i64 re,.slice ba q.length bc] 35::ds.map blkE)) (List.perm_iff_count.2 fun e=>by simp only [List.count_cons]; omega) ?_
  refine g_unjoin ?_
  refine g_permH (H1:=Ent.vec qa ps.length qc 86 2 (ps.flatMap phiC)::Ent.box p7 [.slice qa ps.length qc,.slice xa0 xs.length lc0,.int .i64 kd,.bool on.reg,.int .i64 on.n,.slice xa to.length xc] 50::Ent.vec ga i gc 50 6 (ds.flatMap blkC)::Ent.box p5 [.string nm,.int .i64 pa,.int .i64 re,.slice ga i gc] 35::Ent.box p4 [.string ByteArray.empty,.int .i64 0,.int .i64 0,.slice none 0 0] 35::Ent.box p2 [.string nm,.int .i64 pa,.int .i64 re,.slice ba q.length bc] 35::(ps.map phE++(rpE (⟨qa,qc,ps,xa0,lc0,xs,kd,on,xa,xc,to⟩ : BRow)++ds.map blkE))) (List.perm_iff_count.2 fun e=>?_) ?_
  ·have:=List.perm_iff_count.1 (blkPs_ph (⟨qa,qc,ps,xa0,lc0,xs,kd,on,xa,xc,to⟩ : BRow)) e
   unfold phV at this
   simp only [List.count_cons,List.count_append] at this ⊢
   omega
  repeat (first|refine g_op rfl ?_|refine g_then ?_|refine g_nil ?_|refine g_region ?_|refine g_seq ?_|refine g_block ?_)
  refine g_loop (fun (es : List PRow)=>es.length ≤ ps.length∧es.map PRow.phi = (ps.take es.length).map (fun q=>keepPhi bl o b q.phi)∧∀ q ∈ es,inI q.dst∧q.l.length ≤ 1000∧∀ v ∈ q.l,inI v.n) (fun es=>[(8,.int .i64 es.length),(7,.pointer (some ⟨p7,0,none⟩)),(6,.int .i64 i),(5,.pointer (some ⟨p5,0,none⟩)),(4,.pointer (some ⟨p4,0,none⟩)),(2,.pointer (some ⟨p2,0,none⟩)),(1,.slice oa o.length oc)])
   (fun es=>Ent.vec qa ps.length qc 86 2 ((es++ps.drop es.length).flatMap phiC)::Ent.box p7 [.slice qa ps.length qc,.slice xa0 xs.length lc0,.int .i64 kd,.bool on.reg,.int .i64 on.n,.slice xa to.length xc] 50::Ent.vec ga i gc 50 6 (ds.flatMap blkC)::Ent.box p5 [.string nm,.int .i64 pa,.int .i64 re,.slice ga i gc] 35::Ent.box p4 [.string ByteArray.empty,.int .i64 0,.int .i64 0,.slice none 0 0] 35::Ent.box p2 [.string nm,.int .i64 pa,.int .i64 re,.slice ba q.length bc] 35::((es++ps.drop es.length).map phE++(rpE (⟨qa,qc,ps,xa0,lc0,xs,kd,on,xa,xc,to⟩ : BRow)++ds.map blkE))) (fun es=>ps.length - es.length) [] ⟨Nat.zero_le _,rfl,by simp⟩ (g_done (by repeat (first|exact trivial|refine ⟨rfl,?_⟩)) (.refl _)) fun es ⟨hi2,hem,heb⟩=>?_
  repeat (first|refine g_op rfl ?_|refine g_then ?_|refine g_nil ?_|refine g_region ?_|refine g_seq ?_)
  refine g_cond (fun h3=>?_) (fun h3=>?_)
  ·have hlt : es.length < ps.length:=by simpa using h3
   generalize heL : es.length = ei at *
   obtain ⟨u,hu⟩ : ∃ u,ps[ei]? = some u:=⟨_,List.getElem?_eq_getElem hlt⟩
   have hum:=List.mem_of_getElem? hu
   obtain ⟨hud,hub,huv⟩:=hBd.phi u hum
   have hpo:=hbok.phis u.phi (List.mem_map.2 ⟨u,hum,rfl⟩)
   obtain ⟨pd,pla,pk,pl⟩:=u
   simp only at hud hub huv
   have hpl : pl.length = (preds bl b).length:=hpo.len
   refine g_vec 0 rfl (by omega) fun zb zo hza=>?_
   subst hza
   have hlj : LtIs ei ps.length:=⟨hlt⟩
   have hget : (es++ps.drop ei)[ei]? = some (⟨pd,pla,pk,pl⟩ : PRow):=by
    rw [List.getElem?_append_right (by omega),heL,Nat.sub_self,List.getElem?_drop,Nat.add_zero]; exact hu
   have hdr : ps.drop ei = (⟨pd,pla,pk,pl⟩ : PRow)::ps.drop (ei + 1):=by rw [List.drop_eq_getElem_cons hlt,(List.getElem?_eq_some_iff.1 hu).2]
   refine g_permH (H1:=Ent.vec pla pl.length pk 46 2 (pl.flatMap vlC)::Ent.vec (some ⟨zb,zo,none⟩) ps.length qc 86 2 ((es++ps.drop ei).flatMap phiC)::Ent.box p7 [.slice (some ⟨zb,zo,none⟩) ps.length qc,.slice xa0 xs.length lc0,.int .i64 kd,.bool on.reg,.int .i64 on.n,.slice xa to.length xc] 50::Ent.vec ga i gc 50 6 (ds.flatMap blkC)::Ent.box p5 [.string nm,.int .i64 pa,.int .i64 re,.slice ga i gc] 35::Ent.box p4 [.string ByteArray.empty,.int .i64 0,.int .i64 0,.slice none 0 0] 35::Ent.box p2 [.string nm,.int .i64 pa,.int .i64 re,.slice ba q.length bc] 35::((es++ps.drop (ei + 1)).map phE++(rpE (⟨some ⟨zb,zo,none⟩,qc,ps,xa0,lc0,xs,kd,on,xa,xc,to⟩ : BRow)++ds.map blkE))) (List.perm_iff_count.2 fun e=>?_) ?_
   ·rw [hdr]
    have e2 : phE (⟨pd,pla,pk,pl⟩ : PRow) = Ent.vec pla pl.length pk 46 2 (pl.flatMap vlC):=rfl
    simp only [List.map_append,List.map_cons,List.count_append,List.count_cons,e2]
    omega
   have hobR : OwnAgg [Ent.vec (some ⟨zb,zo,none⟩) ps.length qc 86 2 ((es++ps.drop ei).flatMap phiC),Ent.box p7 [.slice (some ⟨zb,zo,none⟩) ps.length qc,.slice xa0 xs.length lc0,.int .i64 kd,.bool on.reg,.int .i64 on.n,.slice xa to.length xc] 50,Ent.box p2 [.string nm,.int .i64 pa,.int .i64 re,.slice ba q.length bc] 35] zb (zo + ei * 2) _:=ownAgg (k:=0) rfl phiC_len hget
   simp only [phiC] at hobR
   repeat (first|refine g_then ?_|refine g_seq ?_|refine g_block ?_|refine g_skip ?_)
   refine g_drawX [Ent.vec (some ⟨zb,zo,none⟩) ps.length qc 86 2 ((es++ps.drop ei).flatMap phiC),Ent.box p7 [.slice (some ⟨zb,zo,none⟩) ps.length qc,.slice xa0 xs.length lc0,.int .i64 kd,.bool on.reg,.int .i64 on.n,.slice xa to.length xc] 50,Ent.box p2 [.string nm,.int .i64 pa,.int .i64 re,.slice ba q.length bc] 35] (fun _ : Option Addr × Nat=>True) (fun x=>[(9,.slice x.1 (preds bl b).length x.2),(8,.int .i64 ei),(7,.pointer (some ⟨p7,0,none⟩)),(6,.int .i64 i),(5,.pointer (some ⟨p5,0,none⟩)),(4,.pointer (some ⟨p4,0,none⟩)),(2,.pointer (some ⟨p2,0,none⟩)),(1,.slice oa o.length oc)]) (fun x=>Ent.vec x.1 (preds bl b).length x.2 100 3 ((edgesL bl b pl).flatMap edC)::Ent.vec pla pl.length pk 46 2 (pl.flatMap vlC)::Ent.vec (some ⟨zb,zo,none⟩) ps.length qc 86 2 ((es++ps.drop ei).flatMap phiC)::Ent.box p7 [.slice (some ⟨zb,zo,none⟩) ps.length qc,.slice xa0 xs.length lc0,.int .i64 kd,.bool on.reg,.int .i64 on.n,.slice xa to.length xc] 50::Ent.vec ga i gc 50 6 (ds.flatMap blkC)::Ent.box p5 [.string nm,.int .i64 pa,.int .i64 re,.slice ga i gc] 35::Ent.box p4 [.string ByteArray.empty,.int .i64 0,.int .i64 0,.slice none 0 0] 35::Ent.box p2 [.string nm,.int .i64 pa,.int .i64 re,.slice ba q.length bc] 35::((es++ps.drop (ei + 1)).map phE++(rpE (⟨some ⟨zb,zo,none⟩,qc,ps,xa0,lc0,xs,kd,on,xa,xc,to⟩ : BRow)++ds.map blkE))) mixed (.cons _ (.cons_cons _ (.cons_cons _ (.cons _ (.cons _ (.cons _ (.cons_cons _ (List.nil_sublist _)))))))) ?_ fun x _=>?_
   ·skip
    refine h_take 0 rfl (by decide +kernel) (.cons _ (.cons_cons _ (.cons_cons _ (.cons _ (.cons _ (.cons _ (.cons_cons _ (List.nil_sublist _)))))))) ?_
    refine h_take 1 rfl (by decide +kernel) (.cons _ (.cons_cons _ (.cons_cons _ (.cons _ (.cons _ (.cons _ (.cons_cons _ (List.nil_sublist _)))))))) ?_
    refine h_take 2 rfl (by decide +kernel) (.cons _ (.cons_cons _ (.cons_cons _ (.cons _ (.cons _ (.cons _ (.cons_cons _ (List.nil_sublist _)))))))) ?_
    refine h_take 3 rfl (by decide +kernel) (.cons _ (.cons_cons _ (.cons_cons _ (.cons _ (.cons _ (.cons _ (.cons_cons _ (List.nil_sublist _)))))))) ?_
    refine h_take 4 rfl (by decide +kernel) (.cons _ (.cons_cons _ (.cons_cons _ (.cons _ (.cons _ (.cons _ (.cons_cons _ (List.nil_sublist _)))))))) ?_
    refine h_take 5 rfl (by decide +kernel) (.cons _ (.cons_cons _ (.cons_cons _ (.cons _ (.cons _ (.cons _ (.cons_cons _ (List.nil_sublist _)))))))) ?_
    refine h_take 6 rfl (by decide +kernel) (.cons _ (.cons_cons _ (.cons_cons _ (.cons _ (.cons _ (.cons _ (.cons_cons _ (List.nil_sublist _)))))))) ?_
    refine h_take 7 rfl (by decide +kernel) (.cons _ (.cons_cons _ (.cons_cons _ (.cons _ (.cons _ (.cons _ (.cons_cons _ (List.nil_sublist _)))))))) ?_
    refine h_take 8 rfl (by decide +kernel) (.cons _ (.cons_cons _ (.cons_cons _ (.cons _ (.cons _ (.cons _ (.cons_cons _ (List.nil_sublist _)))))))) ?_
    refine h_take 9 rfl (by decide +kernel) (.cons _ (.cons_cons _ (.cons_cons _ (.cons _ (.cons _ (.cons _ (.cons_cons _ (List.nil_sublist _)))))))) ?_
    refine h_callE 10 (val:=fun x : Option Addr × Nat=>.slice x.1 (preds bl b).length x.2) (E:=fun x=>[Ent.vec x.1 (preds bl b).length x.2 100 3 ((edgesL bl b pl).flatMap edC)]) (φ:=fun _=>True) rfl (by decide +kernel) (.cons _ (.cons_cons _ (.cons_cons _ (.cons _ (.cons _ (.cons _ (.cons_cons _ (List.nil_sublist _)))))))) (fun w hw=>refEdges_c (.string nm) (.int .i64 pa) (.int .i64 re) bl (.slice ba q.length bc) ⟨_,_,_,rfl⟩ b pd pla pl.length pk pl w (hbs.keep keeps_block hw.chg) hlen (hw.slAt (k:=0) rfl rfl (by omega) fun i x hx=>⟨vlC x,fun j v hj=>flat_at vlC_len pl i x j v hx hj,rfl,huv x (List.mem_of_getElem? hx)⟩) hpl) fun x _=>?_
    simp only [List.cons_append,List.nil_append]
    refine h_take 11 rfl (by decide +kernel) (.cons _ (.cons _ (.cons_cons _ (.cons_cons _ (.cons _ (.cons _ (.cons _ (.cons_cons _ (List.nil_sublist _))))))))) ?_
    refine h_end (by decide +kernel) ?_
    exact g_mem x trivial (by repeat (first|exact trivial|refine ⟨rfl,?_⟩)) (.refl _)
   obtain ⟨ea,ec⟩:=x
   simp only
   obtain ⟨pn,hpn⟩ : ∃ pn,pn = (preds bl b).length:=⟨_,rfl⟩
   rw [← hpn] at hpl ⊢
   have hpn100 : pn ≤ 1000:=by omega
   have hedl : (edgesL bl b pl).length = pn:=by unfold edgesL; rw [List.length_zip,List.length_map]; omega
   refine g_nilVec 100 3 ?_
   obtain ⟨rowJ,hrowJ⟩ : ∃ rowJ : Nat→List (Nat × LVal),rowJ = fun j=>(((preds bl b).take j).filter fun q=>decide (q ∈ o)).map fun q=>(o.idxOf q,srcAt bl b ⟨pd,pl⟩ q):=⟨_,rfl⟩
   have hrow0 : rowJ 0 = []:=by rw [hrowJ]; simp
   repeat (first|refine g_op rfl ?_|refine g_then ?_|refine g_nil ?_|refine g_region ?_|refine g_seq ?_|refine g_block ?_)
   refine g_loop (fun (x : Nat × List (Nat × LVal) × Option Addr × Nat)=>x.1 ≤ pn∧x.2.1 = rowJ x.1) (fun x=>[(11,.int .i64 x.1),(10,.slice x.2.2.1 x.2.1.length x.2.2.2),(9,.slice ea pn ec),(8,.int .i64 ei),(7,.pointer (some ⟨p7,0,none⟩)),(6,.int .i64 i),(5,.pointer (some ⟨p5,0,none⟩)),(4,.pointer (some ⟨p4,0,none⟩)),(2,.pointer (some ⟨p2,0,none⟩)),(1,.slice oa o.length oc)])
    (fun x=>Ent.vec x.2.2.1 x.2.1.length x.2.2.2 100 3 (x.2.1.flatMap fvC)::Ent.vec ea pn ec 100 3 ((edgesL bl b pl).flatMap edC)::Ent.vec pla pl.length pk 46 2 (pl.flatMap vlC)::Ent.vec (some ⟨zb,zo,none⟩) ps.length qc 86 2 ((es++ps.drop ei).flatMap phiC)::Ent.box p7 [.slice (some ⟨zb,zo,none⟩) ps.length qc,.slice xa0 xs.length lc0,.int .i64 kd,.bool on.reg,.int .i64 on.n,.slice xa to.length xc] 50::Ent.vec ga i gc 50 6 (ds.flatMap blkC)::Ent.box p5 [.string nm,.int .i64 pa,.int .i64 re,.slice ga i gc] 35::Ent.box p4 [.string ByteArray.empty,.int .i64 0,.int .i64 0,.slice none 0 0] 35::Ent.box p2 [.string nm,.int .i64 pa,.int .i64 re,.slice ba q.length bc] 35::((es++ps.drop (ei + 1)).map phE++(rpE (⟨some ⟨zb,zo,none⟩,qc,ps,xa0,lc0,xs,kd,on,xa,xc,to⟩ : BRow)++ds.map blkE))) (fun x=>pn - x.1) (0,[],none,0) ⟨Nat.zero_le _,hrow0.symm⟩ (g_done (by repeat (first|exact trivial|refine ⟨rfl,?_⟩)) (.refl _)) fun x ⟨hj,hl⟩=>?_
   obtain ⟨j,l,ra,rc⟩:=x
   simp only at hj hl ⊢
   have hll : l.length ≤ j:=by
    rw [hl,hrowJ,List.length_map]
    refine Nat.le_trans (List.length_filter_le _ _) ?_
    rw [List.length_take]
    omega
   repeat (first|refine g_op rfl ?_|refine g_then ?_|refine g_nil ?_|refine g_region ?_|refine g_seq ?_)
   refine g_cond (fun h4=>?_) (fun h4=>?_)
   ·have hjl : j < pn:=by simpa using h4
    obtain ⟨v,hv⟩ : ∃ v,pl[j]? = some v:=⟨_,List.getElem?_eq_getElem (by omega)⟩
    obtain ⟨qj,hqj⟩ : ∃ qj,(preds bl b)[j]? = some qj:=⟨_,List.getElem?_eq_getElem (by omega)⟩
    have hed : (edgesL bl b pl)[j]? = some ((qj : Int),v):=by
     unfold edgesL
     rw [List.getElem?_zip_eq_some]
     exact ⟨by rw [List.getElem?_map,hqj]; rfl,hv⟩
    have hsrc : srcAt bl b ⟨pd,pl⟩ qj = v:=by
     unfold srcAt
     have h4 : (preds bl b).idxOf qj = j:=by
      have h5:=idx_nth (preds_nodup bl b) (i:=j) (by omega)
      rwa [nth_get hqj] at h5
     rw [h4,List.getD_eq_getElem?_getD,hv]
     rfl
    have hstep : rowJ (j + 1) = l++if qj ∈ o then [(o.idxOf qj,v)] else []:=by
     rw [hl,hrowJ]
     simp only
     rw [List.take_add_one,hqj,List.filter_append,List.map_append]
     congr 1
     by_cases h4 : qj ∈ o
     ·simp [h4,hsrc]
     ·simp [h4]
    refine g_vec 1 rfl (by omega) fun eb eo hea=>?_
    subst hea
    have hlk : LtIs j pn:=⟨hjl⟩
    have hoc : OwnCell (Ent.vec ra l.length rc 100 3 (l.flatMap fvC)::Ent.vec (some ⟨eb,eo,none⟩) pn ec 100 3 ((edgesL bl b pl).flatMap edC)::Ent.vec pla pl.length pk 46 2 (pl.flatMap vlC)::Ent.vec (some ⟨zb,zo,none⟩) ps.length qc 86 2 ((es++ps.drop ei).flatMap phiC)::Ent.box p7 [.slice (some ⟨zb,zo,none⟩) ps.length qc,.slice xa0 xs.length lc0,.int .i64 kd,.bool on.reg,.int .i64 on.n,.slice xa to.length xc] 50::Ent.vec ga i gc 50 6 (ds.flatMap blkC)::Ent.box p5 [.string nm,.int .i64 pa,.int .i64 re,.slice ga i gc] 35::Ent.box p4 [.string ByteArray.empty,.int .i64 0,.int .i64 0,.slice none 0 0] 35::Ent.box p2 [.string nm,.int .i64 pa,.int .i64 re,.slice ba q.length bc] 35::((es++ps.drop (ei + 1)).map phE++(rpE (⟨some ⟨zb,zo,none⟩,qc,ps,xa0,lc0,xs,kd,on,xa,xc,to⟩ : BRow)++ds.map blkE))) eb (eo + j * 3) (.int .i64 (qj : Int)):=⟨fun _ _ _ hw=>by
     have h5:=hw.vecCell (k:=1) rfl (flat_at edC_len _ j _ 0 (.int .i64 (qj : Int)) hed rfl)
     rwa [Nat.add_zero] at h5⟩
    have hoe : OwnAgg (Ent.vec ra l.length rc 100 3 (l.flatMap fvC)::Ent.vec (some ⟨eb,eo,none⟩) pn ec 100 3 ((edgesL bl b pl).flatMap edC)::Ent.vec pla pl.length pk 46 2 (pl.flatMap vlC)::Ent.vec (some ⟨zb,zo,none⟩) ps.length qc 86 2 ((es++ps.drop ei).flatMap phiC)::Ent.box p7 [.slice (some ⟨zb,zo,none⟩) ps.length qc,.slice xa0 xs.length lc0,.int .i64 kd,.bool on.reg,.int .i64 on.n,.slice xa to.length xc] 50::Ent.vec ga i gc 50 6 (ds.flatMap blkC)::Ent.box p5 [.string nm,.int .i64 pa,.int .i64 re,.slice ga i gc] 35::Ent.box p4 [.string ByteArray.empty,.int .i64 0,.int .i64 0,.slice none 0 0] 35::Ent.box p2 [.string nm,.int .i64 pa,.int .i64 re,.slice ba q.length bc] 35::((es++ps.drop (ei + 1)).map phE++(rpE (⟨some ⟨zb,zo,none⟩,qc,ps,xa0,lc0,xs,kd,on,xa,xc,to⟩ : BRow)++ds.map blkE))) eb (eo + j * 3 + 1) _:=flat_part2 edC_len (k:=1) rfl hed 1 rfl rfl
    repeat (first|refine g_op rfl ?_|refine g_then ?_|refine g_region ?_|refine g_seq ?_|refine g_block ?_|refine g_skip ?_)
    refine g_callV rfl (fun w hw=>plcI_c _ _ (qj : Int) w (ho.keep keeps_int hw.chg)) ?_
    rw [plcI_nat]
    by_cases hqo : qj ∈ o
    ·rw [if_pos hqo]
     rw [if_pos hqo] at hstep
     repeat (first|refine g_op rfl ?_|refine g_then ?_|refine g_nil ?_|refine g_region ?_|refine g_seq ?_|refine g_condT ?_|refine g_build1 rfl rfl fun _ _=>?_)
     rw [show decide ((0 : Int) ≤ ((o.idxOf qj : Nat) : Int)) = true by simp]
     skip
     refine g_append rfl rfl (by omega) (by omega) fun ra' rc'=>?_
     rw [show l.length + 1 = (l++[(o.idxOf qj,v)]).length by simp,show l.flatMap fvC++[.int .i64 ((o.idxOf qj : Nat) : Int),.bool v.reg,.int .i64 v.n] = (l++[(o.idxOf qj,v)]).flatMap fvC by rw [List.flatMap_append]; rfl]
     repeat (first|refine g_op rfl ?_|refine g_then ?_|refine g_nil ?_|refine g_region ?_|refine g_opS rfl ?_|refine g_inBlock ?_|refine g_add rfl (by omega) (by omega) ?_)
     exact g_next (j + 1,l++[(o.idxOf qj,v)],ra',rc') ⟨by simp only; omega,hstep.symm⟩ (by simp only; omega) (by repeat (first|exact trivial|refine ⟨rfl,?_⟩)) (.cons _ (.refl _))
    ·rw [if_neg hqo]
     rw [if_neg hqo,List.append_nil] at hstep
     repeat (first|refine g_op rfl ?_|refine g_then ?_|refine g_nil ?_|refine g_region ?_|refine g_seq ?_|refine g_opS rfl ?_|refine g_inBlock ?_|refine g_skip ?_|refine g_condF ?_|refine g_add rfl (by omega) (by omega) ?_)
     rw [show decide ((0 : Int) ≤ (-1 : Int)) = false by decide]
     skip
     exact g_next (j + 1,l,ra,rc) ⟨by simp only; omega,hstep.symm⟩ (by simp only; omega) (by repeat (first|exact trivial|refine ⟨rfl,?_⟩)) (.refl _)
   have hje : j = pn:=by have:=of_decide_eq_false h4; omega
   have hlf : l = frRow bl o b ⟨pd,pl⟩:=by
    rw [hl,hrowJ]
    unfold frRow
    simp only
    rw [List.take_of_length_le (by omega)]
   repeat (first|refine g_then ?_|refine g_exit ?_|refine g_thenExit ?_|refine g_exitHere ?_)
   obtain ⟨row,hrow⟩ : ∃ row,row = rowR (l.map frI) o.length:=⟨_,rfl⟩
   have hrowE : row = (keepPhi bl o b ⟨pd,pl⟩).src:=by rw [hrow,hlf]; exact rowR_fr hk.nodup b _
   have hrowl : row.length ≤ 1000:=by have:=rowR_len (l.map frI) o.length; rw [← hrow] at this; omega
   have hrcall : ∀ (k : Nat) (H : List Ent) (w : World),Wd NoS w0 H w→H[k]? = some (Ent.vec ra l.length rc 100 3 (l.flatMap fvC))→Ret Tryz.prog 62 [.slice ra l.length rc,.int .i64 o.length] w fun u w'=>∃ x : Option Addr × Nat,u = .slice x.1 row.length x.2∧Wd NoS w [Ent.vec x.1 row.length x.2 46 2 (row.flatMap vlC)] w'∧True:=fun k H w hw hk2=>by
    rw [hrow]
    refine refRow_c ra l.length rc (l.map frI) o.length (by omega) w (hw.slAt hk2 (by rw [List.length_map]) (by omega) fun i x hx=>⟨edC x,fun j v hj=>?_,rfl⟩)
    rw [← fvC_ed]
    exact flat_at edC_len (l.map frI) i x j v hx hj
   have hxs : ∀ (na : Option Addr) (nc : Nat),XSet ((es++ps.drop ei).flatMap phiC) (ei * 2 + 1) (.slice na row.length nc) (((es++[(⟨pd,na,nc,row⟩ : PRow)])++ps.drop (ei + 1)).flatMap phiC):=fun na nc=>⟨by
    rw [flat_set phiC_len hget (k:=1) (by omega) (y:=(⟨pd,na,nc,row⟩ : PRow)) rfl]
    congr 1
    exact set_mid heL hlt,by rw [flat_len phiC_len,List.length_append,List.length_drop]; omega⟩
   have hot : ∀ Y : Ent,OwnAt (Y::Ent.vec ra l.length rc 100 3 (l.flatMap fvC)::Ent.vec ea pn ec 100 3 ((edgesL bl b pl).flatMap edC)::Ent.vec pla pl.length pk 46 2 (pl.flatMap vlC)::Ent.vec (some ⟨zb,zo,none⟩) ps.length qc 86 2 ((es++ps.drop ei).flatMap phiC)::Ent.box p7 [.slice (some ⟨zb,zo,none⟩) ps.length qc,.slice xa0 xs.length lc0,.int .i64 kd,.bool on.reg,.int .i64 on.n,.slice xa to.length xc] 50::Ent.vec ga i gc 50 6 (ds.flatMap blkC)::Ent.box p5 [.string nm,.int .i64 pa,.int .i64 re,.slice ga i gc] 35::Ent.box p4 [.string ByteArray.empty,.int .i64 0,.int .i64 0,.slice none 0 0] 35::Ent.box p2 [.string nm,.int .i64 pa,.int .i64 re,.slice ba q.length bc] 35::((es++ps.drop (ei + 1)).map phE++(rpE (⟨some ⟨zb,zo,none⟩,qc,ps,xa0,lc0,xs,kd,on,xa,xc,to⟩ : BRow)++ds.map blkE))) zb (zo + ei * 2 + 1) 4 zo (ei * 2 + 1) ps.length qc 86 2 ((es++ps.drop ei).flatMap phiC):=fun Y=>⟨rfl,by omega⟩
   refine g_drawX [Ent.box p7 [.slice (some ⟨zb,zo,none⟩) ps.length qc,.slice xa0 xs.length lc0,.int .i64 kd,.bool on.reg,.int .i64 on.n,.slice xa to.length xc] 50] (fun _ : Option Addr × Nat=>True) (fun _=>[(8,.int .i64 ei),(7,.pointer (some ⟨p7,0,none⟩)),(6,.int .i64 i),(5,.pointer (some ⟨p5,0,none⟩)),(4,.pointer (some ⟨p4,0,none⟩)),(2,.pointer (some ⟨p2,0,none⟩)),(1,.slice oa o.length oc)]) (fun x=>Ent.vec x.1 row.length x.2 46 2 (row.flatMap vlC)::Ent.vec (some ⟨zb,zo,none⟩) ps.length qc 86 2 (((es++[(⟨pd,x.1,x.2,row⟩ : PRow)])++ps.drop (ei + 1)).flatMap phiC)::Ent.box p7 [.slice (some ⟨zb,zo,none⟩) ps.length qc,.slice xa0 xs.length lc0,.int .i64 kd,.bool on.reg,.int .i64 on.n,.slice xa to.length xc] 50::Ent.vec ga i gc 50 6 (ds.flatMap blkC)::Ent.box p5 [.string nm,.int .i64 pa,.int .i64 re,.slice ga i gc] 35::Ent.box p4 [.string ByteArray.empty,.int .i64 0,.int .i64 0,.slice none 0 0] 35::Ent.box p2 [.string nm,.int .i64 pa,.int .i64 re,.slice ba q.length bc] 35::((es++ps.drop (ei + 1)).map phE++(rpE (⟨some ⟨zb,zo,none⟩,qc,ps,xa0,lc0,xs,kd,on,xa,xc,to⟩ : BRow)++ds.map blkE))) mixed (by first|exact .cons _ (.cons _ (.cons _ (.cons _ (.cons_cons _ (List.nil_sublist _)))))|exact .cons _ (.cons _ (.cons _ (.cons _ (.cons _ (.cons_cons _ (List.nil_sublist _))))))) ?_ fun x _=>?_
   ·skip
    refine h_take 0 rfl (by decide +kernel) (by first|exact .cons _ (.cons _ (.cons _ (.cons _ (.cons_cons _ (List.nil_sublist _)))))|exact .cons _ (.cons _ (.cons _ (.cons _ (.cons _ (.cons_cons _ (List.nil_sublist _))))))) ?_
    refine h_take 1 rfl (by decide +kernel) (by first|exact .cons _ (.cons _ (.cons _ (.cons _ (.cons_cons _ (List.nil_sublist _)))))|exact .cons _ (.cons _ (.cons _ (.cons _ (.cons _ (.cons_cons _ (List.nil_sublist _))))))) ?_
    refine h_take 2 rfl (by decide +kernel) (by first|exact .cons _ (.cons _ (.cons _ (.cons _ (.cons_cons _ (List.nil_sublist _)))))|exact .cons _ (.cons _ (.cons _ (.cons _ (.cons _ (.cons_cons _ (List.nil_sublist _))))))) ?_
    refine h_take 3 rfl (by decide +kernel) (by first|exact .cons _ (.cons _ (.cons _ (.cons _ (.cons_cons _ (List.nil_sublist _)))))|exact .cons _ (.cons _ (.cons _ (.cons _ (.cons _ (.cons_cons _ (List.nil_sublist _))))))) ?_
    refine h_take 4 rfl (by decide +kernel) (by first|exact .cons _ (.cons _ (.cons _ (.cons _ (.cons_cons _ (List.nil_sublist _)))))|exact .cons _ (.cons _ (.cons _ (.cons _ (.cons _ (.cons_cons _ (List.nil_sublist _))))))) ?_
    refine h_take 5 rfl (by decide +kernel) (by first|exact .cons _ (.cons _ (.cons _ (.cons _ (.cons_cons _ (List.nil_sublist _)))))|exact .cons _ (.cons _ (.cons _ (.cons _ (.cons _ (.cons_cons _ (List.nil_sublist _))))))) ?_
    refine h_callE 6 (val:=fun x : Option Addr × Nat=>.slice x.1 row.length x.2) (E:=fun x=>[Ent.vec x.1 row.length x.2 46 2 (row.flatMap vlC)]) (φ:=fun _=>True) rfl (by decide +kernel) (by first|exact .cons _ (.cons _ (.cons _ (.cons _ (.cons_cons _ (List.nil_sublist _)))))|exact .cons _ (.cons _ (.cons _ (.cons _ (.cons _ (.cons_cons _ (List.nil_sublist _))))))) (fun w hw=>hrcall 0 _ w hw rfl) fun x _=>?_
    obtain ⟨na,nc⟩:=x
    simp only [List.cons_append,List.nil_append]
    have hxs':=hxs na nc
    refine h_take 7 rfl (by decide +kernel) (by first|exact .cons _ (.cons _ (.cons _ (.cons _ (.cons_cons _ (List.nil_sublist _)))))|exact .cons _ (.cons _ (.cons _ (.cons _ (.cons _ (.cons_cons _ (List.nil_sublist _))))))) ?_
    refine h_take 8 rfl (by decide +kernel) (by first|exact .cons _ (.cons _ (.cons _ (.cons _ (.cons_cons _ (List.nil_sublist _)))))|exact .cons _ (.cons _ (.cons _ (.cons _ (.cons _ (.cons_cons _ (List.nil_sublist _))))))) ?_
    refine h_storeV 9 (by decide +kernel) (by decide +kernel) (by first|exact .cons _ (.cons _ (.cons _ (.cons _ (.cons_cons _ (List.nil_sublist _)))))|exact .cons _ (.cons _ (.cons _ (.cons _ (.cons _ (.cons_cons _ (List.nil_sublist _))))))) ?_
    exact g_mem (na,nc) trivial (by repeat (first|exact trivial|refine ⟨rfl,?_⟩)) (.cons_cons _ (.cons _ (.cons _ (.cons _ (.refl _)))))
   obtain ⟨na,nc⟩:=x
   simp only
   repeat (first|refine g_op rfl ?_|refine g_then ?_|refine g_nil ?_|refine g_region ?_|refine g_opS rfl ?_|refine g_inBlock ?_|refine g_add rfl (by omega) (by omega) ?_)
   have hl1 : (es++[(⟨pd,na,nc,row⟩ : PRow)]).length = ei + 1:=by simp [heL]
   refine g_permH (H1:=Ent.vec (some ⟨zb,zo,none⟩) ps.length qc 86 2 (((es++[(⟨pd,na,nc,row⟩ : PRow)])++ps.drop (es++[(⟨pd,na,nc,row⟩ : PRow)]).length).flatMap phiC)::Ent.box p7 [.slice (some ⟨zb,zo,none⟩) ps.length qc,.slice xa0 xs.length lc0,.int .i64 kd,.bool on.reg,.int .i64 on.n,.slice xa to.length xc] 50::Ent.vec ga i gc 50 6 (ds.flatMap blkC)::Ent.box p5 [.string nm,.int .i64 pa,.int .i64 re,.slice ga i gc] 35::Ent.box p4 [.string ByteArray.empty,.int .i64 0,.int .i64 0,.slice none 0 0] 35::Ent.box p2 [.string nm,.int .i64 pa,.int .i64 re,.slice ba q.length bc] 35::(((es++[(⟨pd,na,nc,row⟩ : PRow)])++ps.drop (es++[(⟨pd,na,nc,row⟩ : PRow)]).length).map phE++(rpE (⟨some ⟨zb,zo,none⟩,qc,ps,xa0,lc0,xs,kd,on,xa,xc,to⟩ : BRow)++ds.map blkE))) (List.perm_iff_count.2 fun e=>?_) ?_
   ·have e2 : phE (⟨pd,na,nc,row⟩ : PRow) = Ent.vec na row.length nc 46 2 (row.flatMap vlC):=rfl
    rw [hl1]
    simp only [List.map_append,List.map_cons,List.map_nil,List.count_append,List.count_cons,List.count_nil,e2]
    omega
   refine g_next (es++[(⟨pd,na,nc,row⟩ : PRow)]) ⟨by rw [hl1]; omega,?_,fun q hq=>?_⟩ (by rw [hl1]; omega) (by simp only [hl1]; repeat (first|exact trivial|refine ⟨rfl,?_⟩)) (.refl _)
   ·rw [hl1,List.take_add_one,hu,List.map_append,List.map_append,hem]
    simp only [Option.toList_some,List.map_cons,List.map_nil,PRow.phi,List.append_cancel_left_eq,List.cons.injEq,and_true]
    rw [hrowE]
    rfl
   ·rcases List.mem_append.1 hq with hq|hq
    ·exact heb q hq
    ·rw [List.mem_singleton.1 hq]
     refine ⟨hud,hrowl,fun v hv=>?_⟩
     simp only at hv
     rw [hrowE] at hv
     unfold keepPhi at hv
     obtain ⟨y,hy,rfl⟩:=List.mem_map.1 hv
     have hy2:=(List.mem_filter.1 hy).2
     exact huv _ (srcAt_mem (R:=R) (p:=⟨pd,pl⟩) (by rw [hpl,hpn]) (by simpa using hy2))
  have hge : es.length = ps.length:=by have:=of_decide_eq_false h3; omega
  rw [hge,List.drop_length,List.append_nil]
  rw [hge,List.take_length] at hem
  repeat (first|refine g_op rfl ?_|refine g_then ?_|refine g_nil ?_|refine g_region ?_|refine g_seq ?_|refine g_block ?_|refine g_exit ?_|refine g_thenExit ?_|refine g_exitHere ?_)
  refine g_permH (H1:=Ent.vec xa to.length xc 3 1 (to.map (.int .i64))::Ent.vec qa ps.length qc 86 2 (es.flatMap phiC)::Ent.box p7 [.slice qa ps.length qc,.slice xa0 xs.length lc0,.int .i64 kd,.bool on.reg,.int .i64 on.n,.slice xa to.length xc] 50::Ent.vec ga i gc 50 6 (ds.flatMap blkC)::Ent.box p5 [.string nm,.int .i64 pa,.int .i64 re,.slice ga i gc] 35::Ent.box p4 [.string ByteArray.empty,.int .i64 0,.int .i64 0,.slice none 0 0] 35::Ent.box p2 [.string nm,.int .i64 pa,.int .i64 re,.slice ba q.length bc] 35::(es.map phE++(Ent.vec xa0 xs.length lc0 88 8 (xs.flatMap rowC)::(xs.map roE++ds.map blkE)))) (List.perm_iff_count.2 fun e=>?_) ?_
  ·unfold rpE toE
   simp only [List.count_append,List.count_cons]
   omega
  obtain ⟨tos,htos⟩ : ∃ tos : Nat→List Int,tos = fun k=>(to.take k).map (fun t=>((o.idxOf t.toNat : Nat) : Int))++to.drop k:=⟨_,rfl⟩
  have htosl : ∀ k,(tos k).length = to.length:=fun k=>by rw [htos]; simp; omega
  have htos0 : tos 0 = to:=by rw [htos]; simp
  rw [show Ent.vec xa to.length xc 3 1 (to.map (.int .i64)) = Ent.vec xa to.length xc 3 1 ((tos 0).map (.int .i64)) by rw [htos0]]
  refine g_loop (fun (k : Nat)=>k ≤ to.length) (fun k=>[(13,.int .i64 k),(7,.pointer (some ⟨p7,0,none⟩)),(6,.int .i64 i),(5,.pointer (some ⟨p5,0,none⟩)),(4,.pointer (some ⟨p4,0,none⟩)),(2,.pointer (some ⟨p2,0,none⟩)),(1,.slice oa o.length oc)]) (fun k=>Ent.vec xa to.length xc 3 1 ((tos k).map (.int .i64))::Ent.vec qa ps.length qc 86 2 (es.flatMap phiC)::Ent.box p7 [.slice qa ps.length qc,.slice xa0 xs.length lc0,.int .i64 kd,.bool on.reg,.int .i64 on.n,.slice xa to.length xc] 50::Ent.vec ga i gc 50 6 (ds.flatMap blkC)::Ent.box p5 [.string nm,.int .i64 pa,.int .i64 re,.slice ga i gc] 35::Ent.box p4 [.string ByteArray.empty,.int .i64 0,.int .i64 0,.slice none 0 0] 35::Ent.box p2 [.string nm,.int .i64 pa,.int .i64 re,.slice ba q.length bc] 35::(es.map phE++(Ent.vec xa0 xs.length lc0 88 8 (xs.flatMap rowC)::(xs.map roE++ds.map blkE)))) (fun k=>to.length - k) 0 (Nat.zero_le _) (g_done (by repeat (first|exact trivial|refine ⟨rfl,?_⟩)) (.refl _)) fun k hk3=>?_
  repeat (first|refine g_op rfl ?_|refine g_then ?_|refine g_nil ?_|refine g_region ?_|refine g_seq ?_)
  refine g_cond (fun h3=>?_) (fun h3=>?_)
  ·have hkl : k < to.length:=by simpa using h3
   obtain ⟨x,hx⟩ : ∃ x,to[k]? = some x:=⟨_,List.getElem?_eq_getElem hkl⟩
   have hxe : x ∈ toOf bl b:=by rw [toOf_get hblB]; exact List.mem_of_getElem? hx
   have hxo:=hk.closed b (List.mem_of_getElem? hb) x hxe
   have hx2:=edge_of hg hxe
   obtain ⟨xn,rfl⟩ : ∃ xn : Nat,x = xn:=⟨x.toNat,by omega⟩
   rw [Int.toNat_natCast] at hxo
   refine g_vec 0 rfl (by omega) fun yb yo hya=>?_
   subst hya
   have hlk : LtIs k to.length:=⟨hkl⟩
   have hget0 : (tos k)[k]? = some (xn : Int):=by
    rw [htos]
    simp only
    rw [List.getElem?_append_right (by simp; omega),List.length_map,List.length_take,Nat.min_eq_left (by omega),Nat.sub_self,List.getElem?_drop,Nat.add_zero,hx]
   have hxat : XAt ((tos k).map (.int .i64)) (k * 1) (.int .i64 (xn : Int)):=⟨by rw [Nat.mul_one,List.getElem?_map,hget0]; rfl⟩
   have hdrop : to.drop k = (xn : Int)::to.drop (k + 1):=by rw [List.drop_eq_getElem_cons hkl,(List.getElem?_eq_some_iff.1 hx).2]
   have hset : (tos k).set k ((o.idxOf xn : Nat) : Int) = tos (k + 1):=by
    rw [htos]
    simp only
    rw [List.set_append_right _ _ (by simp; omega),List.length_map,List.length_take,Nat.min_eq_left (by omega),Nat.sub_self,hdrop,List.set_cons_zero,List.take_add_one,hx,List.map_append]
    simp
   have hxs : XSet ((tos k).map (.int .i64)) (k * 1) (.int .i64 ((o.idxOf xn : Nat) : Int)) ((tos (k + 1)).map (.int .i64)):=⟨by
    rw [Nat.mul_one,← List.map_set,hset],by rw [List.length_map,htosl]; omega⟩
   repeat (first|refine g_then ?_|refine g_seq ?_|refine g_block ?_|refine g_skip ?_)
   refine g_drawX [Ent.box p7 [.slice qa ps.length qc,.slice xa0 xs.length lc0,.int .i64 kd,.bool on.reg,.int .i64 on.n,.slice (some ⟨yb,yo,none⟩) to.length xc] 50] (fun _ : Unit=>True) (fun _=>[(13,.int .i64 k),(7,.pointer (some ⟨p7,0,none⟩)),(6,.int .i64 i),(5,.pointer (some ⟨p5,0,none⟩)),(4,.pointer (some ⟨p4,0,none⟩)),(2,.pointer (some ⟨p2,0,none⟩)),(1,.slice oa o.length oc)]) (fun _=>Ent.vec (some ⟨yb,yo,none⟩) to.length xc 3 1 ((tos (k + 1)).map (.int .i64))::Ent.vec qa ps.length qc 86 2 (es.flatMap phiC)::Ent.box p7 [.slice qa ps.length qc,.slice xa0 xs.length lc0,.int .i64 kd,.bool on.reg,.int .i64 on.n,.slice (some ⟨yb,yo,none⟩) to.length xc] 50::Ent.vec ga i gc 50 6 (ds.flatMap blkC)::Ent.box p5 [.string nm,.int .i64 pa,.int .i64 re,.slice ga i gc] 35::Ent.box p4 [.string ByteArray.empty,.int .i64 0,.int .i64 0,.slice none 0 0] 35::Ent.box p2 [.string nm,.int .i64 pa,.int .i64 re,.slice ba q.length bc] 35::(es.map phE++(Ent.vec xa0 xs.length lc0 88 8 (xs.flatMap rowC)::(xs.map roE++ds.map blkE)))) mixed (.cons _ (.cons _ (.cons_cons _ (List.nil_sublist _)))) ?_ fun _ _=>?_
   ·skip
    refine h_take 0 rfl (by decide +kernel) (.cons _ (.cons _ (.cons_cons _ (List.nil_sublist _)))) ?_
    refine h_take 1 rfl (by decide +kernel) (.cons _ (.cons _ (.cons_cons _ (List.nil_sublist _)))) ?_
    refine h_take 2 rfl (by decide +kernel) (.cons _ (.cons _ (.cons_cons _ (List.nil_sublist _)))) ?_
    refine h_take 3 rfl (by decide +kernel) (.cons _ (.cons _ (.cons_cons _ (List.nil_sublist _)))) ?_
    refine h_take 4 rfl (by decide +kernel) (.cons _ (.cons _ (.cons_cons _ (List.nil_sublist _)))) ?_
    refine h_take 5 rfl (by decide +kernel) (.cons _ (.cons _ (.cons_cons _ (List.nil_sublist _)))) ?_
    refine h_take 6 rfl (by decide +kernel) (.cons _ (.cons _ (.cons_cons _ (List.nil_sublist _)))) ?_
    refine h_take 7 rfl (by decide +kernel) (.cons _ (.cons _ (.cons_cons _ (List.nil_sublist _)))) ?_
    refine h_take 8 rfl (by decide +kernel) (.cons _ (.cons _ (.cons_cons _ (List.nil_sublist _)))) ?_
    refine h_take 9 rfl (by decide +kernel) (.cons _ (.cons _ (.cons_cons _ (List.nil_sublist _)))) ?_
    refine h_one 10 (by decide +kernel) (o_op 10 rfl (.cons _ (.cons _ (.cons_cons _ (List.nil_sublist _)))) ?_)
    refine h_callV 11 rfl (by decide +kernel) (.cons _ (.cons _ (.cons_cons _ (List.nil_sublist _)))) (fun w hw=>plcI_c _ _ (xn : Int) w (ho.keep keeps_int hw.chg)) ?_
    rw [plcI_nat,if_pos hxo]
    refine h_take 12 rfl (by decide +kernel) (.cons _ (.cons _ (.cons_cons _ (List.nil_sublist _)))) ?_
    refine h_storeV 13 (by decide +kernel) (by decide +kernel) (.cons _ (.cons _ (.cons_cons _ (List.nil_sublist _)))) ?_
    exact g_mem () trivial (by repeat (first|exact trivial|refine ⟨rfl,?_⟩)) (.refl _)
   ·repeat (first|refine g_op rfl ?_|refine g_then ?_|refine g_nil ?_|refine g_region ?_|refine g_opS rfl ?_|refine g_inBlock ?_|refine g_add rfl (by omega) (by omega) ?_)
    exact g_next (k + 1) (by omega) (by omega) (by repeat (first|exact trivial|refine ⟨rfl,?_⟩)) (.refl _)
  ·have hke : k = to.length:=by have:=of_decide_eq_false h3; omega
   subst hke
   have hkeep : (tos to.length) = (keepB bl o b ((⟨qa,qc,ps,xa0,lc0,xs,kd,on,xa,xc,to⟩ : BRow)).blk).to:=by
    rw [htos]
    simp only [List.take_length,List.drop_length,List.append_nil]
    rfl
   obtain ⟨tn,htn⟩ : ∃ tn,tn = tos to.length:=⟨_,rfl⟩
   rw [← htn] at hkeep ⊢
   have htnl : tn.length = to.length:=by rw [htn,htosl]
   obtain ⟨B',hB'⟩ : ∃ B' : BRow,B' = ⟨qa,qc,es,xa0,lc0,xs,kd,on,xa,xc,tn⟩:=⟨_,rfl⟩
   have hbC : blkC B' = [.slice qa ps.length qc,.slice xa0 xs.length lc0,.int .i64 kd,.bool on.reg,.int .i64 on.n,.slice xa to.length xc]:=by rw [hB']; simp only [blkC,hge,htnl]
   have hblk' : B'.blk = keepB bl o b (blkAt bl b):=by
    rw [blkAt_get hblB,hB']
    unfold BRow.blk keepB
    simp only [hem,hkeep,List.map_map]
    rfl
   have hBd' : B'.Bd:=by
    rw [hB']
    refine ⟨hBd.kind,hBd.on,by rw [hge]; exact hpsl,heb,hBd.list,hBd.ins,by rw [htnl]; exact htol,fun t ht=>?_⟩
    rw [hkeep] at ht
    obtain ⟨y,hy,rfl⟩:=List.mem_map.1 ht
    have:=List.idxOf_le_length (a:=y.toNat) (l:=o)
    exact ⟨by omega,by omega⟩
   repeat (first|refine g_op rfl ?_|refine g_then ?_|refine g_region ?_|refine g_exit ?_|refine g_thenExit ?_|refine g_exitHere ?_|refine g_build1 rfl rfl fun _ _=>?_)
   refine g_append rfl rfl (by omega) (by omega) fun na' nc'=>?_
   rw [← hbC,show i + 1 = (ds++[B']).length by simp [hiL],show ds.flatMap blkC++blkC B' = (ds++[B']).flatMap blkC by rw [List.flatMap_append]; simp]
   repeat (first|refine g_op rfl ?_|refine g_then ?_|refine g_nil ?_|refine g_region ?_|refine g_opS rfl ?_|refine g_store ?_|refine g_inBlock ?_|refine g_add rfl (by omega) (by omega) ?_)
   rename_i nb _
   have hl1 : (ds++[B']).length = i + 1:=by simp [hiL]
   have e1 : blkPs B' = Ent.vec qa ps.length qc 86 2 (es.flatMap phiC)::Ent.vec xa0 xs.length lc0 88 8 (xs.flatMap rowC)::Ent.vec xa to.length xc 3 1 (tn.map (.int .i64))::(es.map phE++xs.map roE):=by rw [hB']; simp only [blkPs,hge,htnl]
   refine g_wd (H':=blkPs B'++(Ent.vec na' (ds++[B']).length nc' 50 6 ((ds++[B']).flatMap blkC)::Ent.box p5 [.string nm,.int .i64 pa,.int .i64 re,.slice na' (ds++[B']).length nc'] 35::Ent.box p4 [.string ByteArray.empty,.int .i64 0,.int .i64 0,.slice none 0 0] 35::Ent.box p2 [.string nm,.int .i64 pa,.int .i64 re,.slice ba q.length bc] 35::ds.map blkE)) (fun w hw=>?_) ?_
   ·refine hw.pick ⟨[Ent.vec (some ⟨nb,0,none⟩) 1 1 50 6 (blkC B'),Ent.box p7 (blkC B') 50],List.perm_iff_count.2 fun e=>?_⟩
    rw [e1]
    simp only [List.count_append,List.count_cons,List.count_nil]
    omega
   refine g_joinH ?_
   refine g_permH (H1:=Ent.vec na' (ds++[B']).length nc' 50 6 ((ds++[B']).flatMap blkC)::Ent.box p5 [.string nm,.int .i64 pa,.int .i64 re,.slice na' (ds++[B']).length nc'] 35::Ent.box p4 [.string ByteArray.empty,.int .i64 0,.int .i64 0,.slice none 0 0] 35::Ent.box p2 [.string nm,.int .i64 pa,.int .i64 re,.slice ba q.length bc] 35::(ds++[B']).map blkE) (List.perm_iff_count.2 fun e=>?_) ?_
   ·have e3 : blkE B' = Ent.join (blkPs B'):=rfl
    simp only [List.map_append,List.map_cons,List.map_nil,List.count_append,List.count_cons,List.count_nil,e3]
    omega
   refine g_next (na',nc',ds++[B']) ⟨by simp only [hl1]; omega,?_,fun q hq=>?_⟩ (by simp only [hl1]; omega) (by simp only [hl1]; repeat (first|exact trivial|refine ⟨rfl,?_⟩)) (.refl _)
   ·simp only [hl1]
    rw [List.take_add_one,hb,List.map_append,List.map_append,hdm,List.map_cons,List.map_nil,hblk']
    rfl
   ·rcases List.mem_append.1 hq with hq|hq
    ·exact hdb q hq
    ·rw [List.mem_singleton.1 hq]
     exact hBd'
 ·have hie : ds.length = o.length:=by have:=of_decide_eq_false h2; omega
  rw [hie,List.take_length] at hdm
  repeat (first|refine g_op rfl ?_|refine g_then ?_|refine g_nil ?_|refine g_region ?_|refine g_seq ?_|refine g_storeAgg ?_|refine g_exit ?_|refine g_thenExit ?_|refine g_exitHere ?_|refine g_ret ?_)
  refine g_retC rfl fun w hw=>⟨(ga,gc,ds),rfl,?_,hdm,hdb⟩
  refine hw.pick ⟨[Ent.box p5 [.string nm,.int .i64 pa,.int .i64 re,.slice ga ds.length gc] 35,Ent.box p4 [.string nm,.int .i64 pa,.int .i64 re,.slice ga ds.length gc] 35,Ent.box p2 [.string nm,.int .i64 pa,.int .i64 re,.slice ba q.length bc] 35],List.perm_iff_count.2 fun e=>?_⟩
  unfold fnE
  simp only [List.count_append,List.count_cons,List.count_nil]
  omega
end Go.Proofs.YtpadjpplidlfeaaGreatDoor

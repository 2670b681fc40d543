/- Texts joined: Rename ChainA ChainB. -/
import Derived.Test.YtpadjpplidlfeaaDoorHJ
import Derived.Test.YtpadjpplidlfeaaDoorHV
import Derived.Test.YtpadjpplidlfeaaDoorIJ
import Derived.Test.YtpadjpplidlfeaaDoorIK
import Derived.Test.YtpadjpplidlfeaaDoorIM
namespace Go.Proofs.YtpadjpplidlfeaaDoor
open Go Go.RowKit
attribute [local irreducible] wpListIn Code.wpIn Exit.then Exit.inBlock bodyPost wpQuiet wpAnyIn wpAnyH bodyPostM oneH
set_option maxHeartbeats 8000000
def pieceP (r : BRow) : Ent:=Ent.join (pvE r::r.ps.map phE)
structure RenTo (bl : List LBlock) (bs : List BRow) (b t : Nat) (D : List Int) (rs : List BRow) : Prop where
 len : rs.length = bs.length
 at' : ∀ (x : Nat) r0 r,bs[x]? = some r0→rs[x]? = some r→r = withPs r0 r.ps∧r.ps.length = r0.ps.length∧r.Bd∧r.ps.map PRow.phi = if (x : Int) ∈ D then r0.ps.map (fun q=>turnR bl b t x q.phi) else r0.ps.map PRow.phi
theorem RenTo.step {bl : List LBlock} {bs rs : List BRow} {b t i d : Nat} {D : List Int} {r : BRow} {es : List PRow} (h : RenTo bl bs b t (D.take i) rs) (hd : D[i]? = some (d : Int)) (hnt : (d : Int) ∉ D.take i) (hr : rs[d]? = some r) (h1 : es.length = r.ps.length) (h2 : es.map PRow.phi = r.ps.map (fun q=>turnR bl b t d q.phi)) (h3 : (withPs r es).Bd) : RenTo bl bs b t (D.take (i + 1)) (rs.set d (withPs r es)):=by
 have hdl:=(List.getElem?_eq_some_iff.1 hr).1
 refine ⟨by rw [List.length_set]; exact h.len,fun x r0 r' hx hx'=>?_⟩
 rw [List.take_add_one,hd]
 by_cases e : d = x
 ·subst e
  rw [List.getElem?_set_self hdl] at hx'
  obtain rfl:=Option.some.inj hx'
  obtain ⟨g1,g2,_,g4⟩:=h.at' d r0 r hx hr
  rw [if_neg hnt] at g4
  refine ⟨?_,by unfold withPs; simp only; omega,h3,?_⟩
  ·conv=>lhs; rw [g1]
   rfl
  ·rw [if_pos (by simp)]
   show es.map PRow.phi = _
   rw [h2]
   have e3 : ∀ l : List PRow,l.map (fun q=>turnR bl b t d q.phi) = (l.map PRow.phi).map (turnR bl b t d):=fun l=>by rw [List.map_map]; rfl
   rw [e3,e3,g4]
 ·rw [List.getElem?_set_ne e] at hx'
  obtain ⟨g1,g2,g3,g4⟩:=h.at' x r0 r' hx hx'
  refine ⟨g1,g2,g3,?_⟩
  rw [g4]
  have hm : ((x : Int) ∈ D.take i++(some (d : Int)).toList) ↔ (x : Int) ∈ D.take i:=by
   rw [List.mem_append]
   simp only [Option.toList_some,List.mem_singleton]
   constructor
   ·rintro (h|h)
    ·exact h
    ·omega
   ·exact .inl
  by_cases e2 : (x : Int) ∈ D.take i
  ·rw [if_pos e2,if_pos (hm.2 e2)]
  ·rw [if_neg e2,if_neg fun h=>e2 (hm.1 h)]
theorem killLe' {S : Nat→Prop} {w : World} : ∀ p v,(killW S w).cell? p = some v→w.cell? p = some v:=fun p v hc=>by
 rw [← hc]
 exact World.cell?_of_block (kill_get w (kill_cell hc).1).symm
theorem Wd.killOldS' {S : Nat→Prop} {w0 w : World} {H1 H2 : List Ent} (h : Wd S w0 (H1++H2) w) : ∀ p v,(killW S w0).cell? p = some v→(killW (fps H1) w).cell? p = some v:=fun p v hc=>by
 have hlt:=World.block_lt_of_cell? _ p hc
 rw [kill_size] at hlt
 have hns:=(kill_cell hc).1
 have hn : ¬ fps H1 p.block:=fun ⟨e,he,hb⟩=>by
  have:=(h.own e (List.mem_append_left _ he) _ hb).1
  exact this.elim hns fun h=>by omega
 rw [← hc]
 refine World.cell?_of_block ?_
 rw [kill_get w hn,kill_get w0 hns]
 exact h.chg.block _ hlt hns
theorem rename_c (nm : ByteArray) (pa re : Int) (vb vo c p : Nat) (bs : List BRow) (R b t : Nat) (T : BRow) (hT : bs[t]? = some T) (hb : b < bs.length) (hbt : b ≠ t) (hlen : bs.length ≤ 100) (hf : FuncOk R (bs.map BRow.blk)) (hbd : ∀ r ∈ bs,r.Bd) (w0 : World)
  (hW : Wd (fps (bs.map pieceP)) w0 (bs.map pieceP) w0)
  (hp : CellsAt (killW (fps (bs.map pieceP)) w0) p 0 [.string nm,.int .i64 pa,.int .i64 re,.slice (some ⟨vb,vo,none⟩) bs.length c])
  (hV : ∀ (x : Nat) r,bs[x]? = some r→CellsAt (killW (fps (bs.map pieceP)) w0) vb (vo + x * 6) (blkC r))
  (hto : SlAt (killW (fps (bs.map pieceP)) w0) (.slice T.ta T.to.length T.tc) 1 T.to IntV)
  (hsl : ∀ w,Wd (fps (bs.map pieceP)) w0 (bs.map pieceP) w→SlAt w (.slice (some ⟨vb,vo,none⟩) bs.length c) 6 (bs.map BRow.blk) BlockV) :
  Ret Tryd.prog 63 [.pointer (some ⟨p,0,none⟩),.int .i64 t,.int .i64 b] w0 fun u w'=>∃ rs : List BRow,u = .tuple #[]∧Wd (fps (bs.map pieceP)) w0 (rs.map pieceP) w'∧RenTo (bs.map BRow.blk) bs b t T.to rs:=by
 classical
 obtain ⟨bl,hbl⟩ : ∃ bl,bl = bs.map BRow.blk:=⟨_,rfl⟩
 rw [← hbl] at hf hsl ⊢
 have hg:=hf.good
 have hbln : bl.length = bs.length:=by rw [hbl,List.length_map]
 obtain ⟨n,hn⟩ : ∃ n,n = bs.length:=⟨_,rfl⟩
 rw [← hn] at hb hlen hp hsl hbln
 have htl : t < n:=by rw [hn]; exact (List.getElem?_eq_some_iff.1 hT).1
 have hTb : bl[t]? = some T.blk:=by rw [hbl,List.getElem?_map,hT]; rfl
 have hTto : toOf bl t = T.to:=by rw [toOf_get hTb]; rfl
 have htnd : T.to.Nodup:=(hf.block t _ hTb).to
 refine ret_enter Tryd.func63 rfl Tryd.ntmps63 rfl hW ?_
 obtain ⟨SS,hSS⟩ : ∃ SS,SS = fps (bs.map pieceP):=⟨_,rfl⟩
 rw [← hSS] at hp hV hto hsl ⊢
 have hpS : OldIs SS p:=killOldIs hp (by simp)
 have hvS : OldIs SS vb:=killOldIs (hV t T hT) (by simp [blkC])
 have hci0 : CellsIs w0 p 0 [.string nm,.int .i64 pa,.int .i64 re,.slice (some ⟨vb,vo,none⟩) n c]:=⟨fun j v hj=>killLe' _ _ (hp j v hj)⟩
 have hciT : CellsIs w0 vb (vo + t * 6) [.slice T.pa T.ps.length T.pc,.slice T.la T.xs.length T.lc,.int .i64 T.kind,.bool T.on.reg,.int .i64 T.on.n,.slice T.ta T.to.length T.tc]:=⟨fun j v hj=>killLe' _ _ (hV t T hT j v hj)⟩
 have hltn : LtIs t n:=⟨htl⟩
 repeat (first|refine g_op rfl ?_|refine g_region ?_|refine g_seq ?_)
 refine g_callE (val:=fun x : (Option Addr × Nat × Nat) × (Nat→Prop)=>.slice x.1.1 x.1.2.1 x.1.2.2) (E:=fun x=>[⟨x.2,fun w=>SlAt w (.slice x.1.1 x.1.2.1 x.1.2.2) 1 (aheadL bl) RowV⟩]) (φ:=fun _=>True) rfl (fun w hw=>graphAhead_c _ _ _ bl (.slice (some ⟨vb,vo,none⟩) n c) w (hsl w hw) (by omega) hg) fun x _=>?_
 obtain ⟨⟨aa,an,ac⟩,af⟩:=x
 simp only [List.cons_append,List.nil_append]
 repeat (first|refine g_op rfl ?_|refine g_then ?_|refine g_nil ?_|refine g_region ?_|refine g_seq ?_|refine g_block ?_)
 refine g_permH (H1:=bs.map pieceP++[(⟨af,fun w=>SlAt w (.slice aa an ac) 1 (aheadL bl) RowV⟩ : Ent)]) (List.perm_append_comm (l₁:=[(⟨af,fun w=>SlAt w (.slice aa an ac) 1 (aheadL bl) RowV⟩ : Ent)])) ?_
 refine g_holdK fun w1 hw1=>?_
 have hle:=hw1.killOldS'
 have hpW : CellsAt (killW (fps (bs.map pieceP)) w1) p 0 [.string nm,.int .i64 pa,.int .i64 re,.slice (some ⟨vb,vo,none⟩) n c]:=fun j v hj=>hle _ _ (hp j v hj)
 have hVW : ∀ (x : Nat) r,bs[x]? = some r→CellsAt (killW (fps (bs.map pieceP)) w1) vb (vo + x * 6) (blkC r):=fun x r hr j v hj=>hle _ _ (hV x r hr j v hj)
 have htoW : SlAt (killW (fps (bs.map pieceP)) w1) (.slice T.ta T.to.length T.tc) 1 T.to IntV:=hto.le mono_int hle
 have hahk : SlAt (killW (fps (bs.map pieceP)) w1) (.slice aa an ac) 1 (aheadL bl) RowV:=hw1.beside (e:=(⟨af,fun w=>SlAt w (.slice aa an ac) 1 (aheadL bl) RowV⟩ : Ent)) (by simp)
 have back : ∀ {E : List Ent} {w : World},Wd (fps (bs.map pieceP)) (killW (fps (bs.map pieceP)) w1) E w→Wd SS w0 (E++[(⟨af,fun w=>SlAt w (.slice aa an ac) 1 (aheadL bl) RowV⟩ : Ent)]) w:=fun hw=>hw1.comp hw.unkill
 have hkp : ∀ {E : List Ent} {w : World},Wd (fps (bs.map pieceP)) (killW (fps (bs.map pieceP)) w1) E w→∀ p v,(killW (fps (bs.map pieceP)) w1).cell? p = some v→w.cell? p = some v:=fun hw=>hw.killKeep
 have hold : ∀ {b o : Nat} {v : Value} {l : List Value},CellsAt (killW (fps (bs.map pieceP)) w1) b o (v::l)→OldIs (fps (bs.map pieceP)) b:=fun hc=>killOldIs hc (by simp)
 generalize killW (fps (bs.map pieceP)) w1 = wk at *
 generalize fps (bs.map pieceP) = S2 at *
 have hpS2 : OldIs S2 p:=hold hpW
 have hvS2 : OldIs S2 vb:=hold (hVW t T hT)
 have hciP : CellsIs wk p 0 [.string nm,.int .i64 pa,.int .i64 re,.slice (some ⟨vb,vo,none⟩) n c]:=⟨hpW⟩
 have hal : (aheadL bl).length = n:=by unfold aheadL; rw [aheadTo_length,hbln]
 obtain ⟨han,_⟩:=hahk.at
 rw [hal] at han
 subst an
 have hbne : aheadL bl ≠ []:=fun e=>by rw [e] at hal; simp at hal; omega
 obtain ⟨b8,o8,had8,hold8,hel8⟩:=slKnown hahk hold (fun _ _ h=>by obtain ⟨_,e,_⟩:=h; exact ⟨_,_,e⟩) hbne
 obtain ⟨tn,htn⟩ : ∃ tn,tn = T.to.length:=⟨_,rfl⟩
 have htnl : tn ≤ 1000:=by
  have:=(hbd T (List.mem_of_getElem? hT)).to.1
  omega
 rw [← htn] at htoW ⊢
 refine g_loop (fun (x : Nat × List BRow)=>x.1 ≤ tn∧RenTo bl bs b t (T.to.take x.1) x.2) (fun x=>[(30,.int .i64 x.1),(28,.slice T.ta tn T.tc),(29,.int .i64 tn),(6,.slice aa n ac),(0,.pointer (some ⟨p,0,none⟩)),(1,.int .i64 t),(2,.int .i64 b)]) (fun x=>x.2.map pieceP) (fun x=>tn - x.1) (0,bs) ⟨Nat.zero_le _,⟨rfl,fun x r0 r h1 h2=>?_⟩⟩ (g_done (by repeat (first|exact trivial|refine ⟨rfl,?_⟩)) (.refl _)) fun x ⟨hi,hst⟩=>?_
 ·rw [h1] at h2
  obtain rfl:=Option.some.inj h2
  exact ⟨rfl,rfl,hbd _ (List.mem_of_getElem? h1),by rw [List.take_zero,if_neg (by simp)]⟩
 obtain ⟨i,rs⟩:=x
 simp only at hi hst ⊢
 repeat (first|refine g_op rfl ?_|refine g_then ?_|refine g_nil ?_|refine g_region ?_|refine g_seq ?_)
 refine g_cond (fun h1=>?_) (fun h1=>?_)
 ·have hil : i < tn:=by simpa using h1
  obtain ⟨x,hx⟩ : ∃ x,T.to[i]? = some x:=⟨_,List.getElem?_eq_getElem (by omega)⟩
  have hxe : x ∈ toOf bl t:=by rw [hTto]; exact List.mem_of_getElem? hx
  have hx2:=edge_of hg hxe
  obtain ⟨d,rfl⟩ : ∃ d : Nat,x = d:=⟨x.toNat,by omega⟩
  have hdn : d < n:=by omega
  obtain ⟨b9,o9,had9,hold9,hel9⟩:=slKnown htoW hold (fun _ _ h=>⟨_,_,h.1⟩) (fun e=>by rw [e] at hx; simp at hx)
  obtain ⟨_,hci9,rfl,_⟩:=hel9 i (d : Int) hx
  have hli : LtIs i tn:=⟨hil⟩
  have hld : LtIs d n:=⟨hdn⟩
  have hrow : (aheadL bl)[d]? = some ((preds bl d).map fun x : Nat=>(x : Int)):=aheadL_get hg (fun b B hB=>(hf.block b B hB).to) (by rw [hbln]; exact hdn)
  obtain ⟨_,hci8,rv,rfl,hrv⟩:=hel8 d _ hrow
  obtain ⟨rva,rvn,rvc,_,_,rfl,hrvn,_⟩:=id hrv
  rw [List.length_map] at hrvn
  have htp : t ∈ preds bl d:=preds_mem (by omega) hxe
  obtain ⟨P,hP⟩ : ∃ P,P = preds bl d:=⟨_,rfl⟩
  rw [← hP] at hrv hrvn htp
  have hPlen : P.length ≤ 100:=by rw [hP]; exact Nat.le_trans (List.length_filter_le _ _) (by rw [List.length_range]; omega)
  have hPlt : ∀ q ∈ P,q < n:=fun q hq=>by rw [hP] at hq; have:=preds_lt bl d q hq; omega
  obtain ⟨k,hk⟩ : ∃ k,k = P.idxOf t:=⟨_,rfl⟩
  have hkl : k < P.length:=by rw [hk]; exact List.idxOf_lt_length_of_mem htp
  subst hrvn
  repeat (first|refine g_op rfl ?_|refine g_then ?_|refine g_nil ?_|refine g_region ?_|refine g_seq ?_|refine g_block ?_|refine g_skip ?_)
  refine g_callV rfl (fun w hw=>index_c _ P t w htp (hrv.le mono_int (hkp hw))) ?_
  rw [← hk]
  obtain ⟨cnt,hcnt⟩ : ∃ cnt : Nat→Nat,cnt = fun i=>((P.take i).filter fun a=>decide (a < b) && decide (a ≠ t)).length:=⟨_,rfl⟩
  have hcnt0 : cnt 0 = 0:=by rw [hcnt]; rfl
  have hcntl : ∀ i,cnt i ≤ 100:=fun i=>by
   rw [hcnt]
   refine Nat.le_trans (List.length_filter_le _ _) ?_
   rw [List.length_take]
   omega
  repeat (first|refine g_op rfl ?_|refine g_then ?_|refine g_nil ?_|refine g_region ?_|refine g_seq ?_|refine g_block ?_)
  refine g_loop (fun (m : Nat)=>m ≤ P.length) (fun m=>[(45,.int .i64 m),(10,.int .i64 (cnt m : Nat)),(43,.slice rva P.length rvc),(44,.int .i64 P.length),(9,.int .i64 k),(8,.int .i64 d),(30,.int .i64 i),(28,.slice T.ta tn T.tc),(29,.int .i64 tn),(6,.slice aa n ac),(0,.pointer (some ⟨p,0,none⟩)),(1,.int .i64 t),(2,.int .i64 b)]) (fun m=>rs.map pieceP) (fun m=>P.length - m) 0 (Nat.zero_le _) (g_done (by rw [hcnt0]; exact (by repeat (first|exact trivial|refine ⟨rfl,?_⟩))) (.refl _)) fun m hm=>?_
  repeat (first|refine g_op rfl ?_|refine g_then ?_|refine g_nil ?_|refine g_region ?_|refine g_seq ?_)
  refine g_cond (fun h2=>?_) (fun h2=>?_)
  ·have hml : m < P.length:=by simpa using h2
   obtain ⟨q,hq⟩ : ∃ q,P[m]? = some q:=⟨_,List.getElem?_eq_getElem hml⟩
   have hlm : LtIs m P.length:=⟨hml⟩
   obtain ⟨b7,o7,had7,hold7,hel7⟩:=slKnown hrv hold (fun _ _ h=>⟨_,_,h.1⟩) (fun e=>by have:=ne_of_get hq; simp at e; exact this e)
   obtain ⟨_,hci7,rfl,_⟩:=hel7 m (q : Int) (by rw [List.getElem?_map,hq]; rfl)
   have hstep : cnt (m + 1) = cnt m + if q < b∧q ≠ t then 1 else 0:=by
    rw [hcnt]
    simp only
    rw [List.take_add_one,hq,List.filter_append,List.length_append]
    congr 1
    by_cases h5 : q < b
    ·by_cases h6 : q = t
     ·simp [h5,h6]
     ·simp [h5,h6]
    ·simp [h5]
   have hcm:=hcntl m
   have hqn:=hPlt q (List.mem_of_getElem? hq)
   repeat (first|refine g_op rfl ?_|refine g_then ?_|refine g_nil ?_|refine g_region ?_|refine g_seq ?_|refine g_block ?_|refine g_skip ?_)
   by_cases h5 : q < b
   ·rw [show decide ((q : Int) < (b : Int)) = true by simp [h5]]
    repeat (first|refine g_op rfl ?_|refine g_then ?_|refine g_nil ?_|refine g_open ?_)
    by_cases h6 : q = t
    ·have hs0 : cnt (m + 1) = cnt m:=by rw [hstep,if_neg (fun h=>h.2 h6)]; rfl
     rw [show (!decide ((q : Int) = (t : Int))) = false by simp [h6]]
     rw [← hs0]
     repeat (first|refine g_then ?_|refine g_nil ?_|refine g_region ?_|refine g_opS rfl ?_|refine g_inBlock ?_|refine g_skip ?_|refine g_condF ?_|refine g_add rfl (by omega) (by omega) ?_)
     exact g_next (m + 1) hml (by omega) (by repeat (first|exact trivial|refine ⟨rfl,?_⟩)) (.refl _)
    ·rw [if_pos ⟨h5,h6⟩] at hstep
     rw [show (!decide ((q : Int) = (t : Int))) = true by simp; omega]
     repeat (first|refine g_op rfl ?_|refine g_then ?_|refine g_nil ?_|refine g_region ?_|refine g_opS rfl ?_|refine g_inBlock ?_|refine g_condT ?_|refine g_add rfl (by omega) (by omega) ?_)
     rw [show ((cnt m : Nat) : Int) + 1 = ((cnt (m + 1) : Nat) : Int) by omega]
     exact g_next (m + 1) hml (by omega) (by repeat (first|exact trivial|refine ⟨rfl,?_⟩)) (.refl _)
   ·have hs0 : cnt (m + 1) = cnt m:=by rw [hstep,if_neg (fun h=>h5 h.1)]; rfl
    rw [show decide ((q : Int) < (b : Int)) = false by simp; omega]
    rw [← hs0]
    repeat (first|refine g_op rfl ?_|refine g_then ?_|refine g_nil ?_|refine g_region ?_|refine g_opS rfl ?_|refine g_pass rfl ?_|refine g_inBlock ?_|refine g_skip ?_|refine g_condF ?_|refine g_add rfl (by omega) (by omega) ?_)
    exact g_next (m + 1) hml (by omega) (by repeat (first|exact trivial|refine ⟨rfl,?_⟩)) (.refl _)
  have hmP : m = P.length:=by have:=of_decide_eq_false h2; omega
  obtain ⟨j,hj⟩ : ∃ j,j = cnt m:=⟨_,rfl⟩
  have hjR : j = renJ bl b t d:=by
   rw [hj,hcnt,hmP]
   simp only
   rw [List.take_length,hP]
   rfl
  have hjl : j ≤ P.length - 1:=by
   have h5 : ((P.filter fun a=>decide (a < b) && decide (a ≠ t))).length < P.length:=by
    refine Nat.lt_of_le_of_ne (List.length_filter_le _ _) fun e=>?_
    have h6:=List.length_filter_eq_length_iff.1 e t htp
    simp at h6
   rw [hj,hcnt,hmP]
   simp only
   rw [List.take_length]
   omega
  rw [← hj]
  obtain ⟨D,hD⟩ : ∃ D,bs[d]? = some D:=⟨_,List.getElem?_eq_getElem (by omega)⟩
  obtain ⟨r,hr⟩ : ∃ r,rs[d]? = some r:=⟨_,List.getElem?_eq_getElem (by rw [hst.len]; omega)⟩
  obtain ⟨hrw,hrl,hrd,hrm⟩:=hst.at' d D r hD hr
  have hnt : (d : Int) ∉ T.to.take i:=fun h=>by
   obtain ⟨j2,hj2⟩:=List.getElem?_of_mem h
   rw [List.getElem?_take] at hj2
   split at hj2
   ·have h5:=(List.getElem?_eq_some_iff.1 hj2).1
    have h6:=(List.getElem?_eq_some_iff.1 hx).1
    have h7:=List.Nodup.idxOf_getElem htnd j2 h5
    have h8:=List.Nodup.idxOf_getElem htnd i h6
    rw [(List.getElem?_eq_some_iff.1 hj2).2] at h7
    rw [(List.getElem?_eq_some_iff.1 hx).2] at h8
    omega
   ·cases hj2
  rw [if_neg hnt] at hrm
  have hDb : bl[d]? = some D.blk:=by rw [hbl,List.getElem?_map,hD]; rfl
  have hDok:=hf.block d _ hDb
  have hpsP : ∀ q ∈ r.ps,q.l.length = P.length:=fun q hq=>by
   have h5 : q.phi ∈ D.ps.map PRow.phi:=by rw [← hrm]; exact List.mem_map.2 ⟨q,hq,rfl⟩
   have:=(hDok.phis _ h5).len
   rw [← hP] at this
   exact this
  have hciD : CellsIs wk vb (vo + d * 6) _:=⟨hVW d D hD⟩
  have hrpa : r.pa = D.pa:=by rw [hrw]; rfl
  have hrpc : r.pc = D.pc:=by rw [hrw]; rfl
  simp only [blkC] at hciD
  rw [← hrl,← hrpa,← hrpc] at hciD
  repeat (first|refine g_op rfl ?_|refine g_then ?_|refine g_nil ?_|refine g_region ?_|refine g_seq ?_|refine g_block ?_|refine g_exit ?_|refine g_thenExit ?_|refine g_exitHere ?_)
  refine g_permH (H1:=pieceP r::((rs.eraseIdx d).map pieceP)) (map_pull pieceP hr) ?_
  refine g_unjoin ?_
  simp only [List.cons_append]
  obtain ⟨ps,hps⟩ : ∃ ps,ps = r.ps:=⟨_,rfl⟩
  obtain ⟨qa,hqa⟩ : ∃ qa,qa = r.pa:=⟨_,rfl⟩
  obtain ⟨qc,hqc⟩ : ∃ qc,qc = r.pc:=⟨_,rfl⟩
  have hrdp:=hrd.phis
  have hrdq:=hrd.phi
  unfold pvE
  rw [← hps] at hpsP hrdp hrdq hciD ⊢
  rw [← hqa,← hqc] at hciD ⊢
  refine g_loop (fun (es : List PRow)=>es.length ≤ ps.length∧es.map PRow.phi = (ps.take es.length).map (fun q=>turnR bl b t d q.phi)∧∀ q ∈ es,inI q.dst∧q.l.length ≤ 1000∧∀ v ∈ q.l,inI v.n) (fun es=>[(69,.int .i64 es.length),(67,.slice qa ps.length qc),(68,.int .i64 ps.length),(9,.int .i64 k),(10,.int .i64 j),(8,.int .i64 d),(30,.int .i64 i),(28,.slice T.ta tn T.tc),(29,.int .i64 tn),(6,.slice aa n ac),(0,.pointer (some ⟨p,0,none⟩)),(1,.int .i64 t),(2,.int .i64 b)])
   (fun es=>Ent.vec qa ps.length qc 62 2 ((es++ps.drop es.length).flatMap phiC)::((es++ps.drop es.length).map phE++((rs.eraseIdx d).map pieceP))) (fun es=>ps.length - es.length) [] ⟨Nat.zero_le _,rfl,by simp⟩ (g_done (by repeat (first|exact trivial|refine ⟨rfl,?_⟩)) (by simp)) fun es ⟨hei,hem,heb⟩=>?_
  repeat (first|refine g_op rfl ?_|refine g_then ?_|refine g_nil ?_|refine g_region ?_|refine g_seq ?_)
  refine g_cond (fun h3=>?_) (fun h3=>?_)
  ·have hlt : es.length < ps.length:=by simpa using h3
   generalize heL : es.length = ei at *
   obtain ⟨q,hq⟩ : ∃ q,ps[ei]? = some q:=⟨_,List.getElem?_eq_getElem hlt⟩
   have hqm:=List.mem_of_getElem? hq
   have hql:=hpsP q hqm
   obtain ⟨hqd,hqb,hqv⟩:=hrdq q hqm
   obtain ⟨pd,pla,plc,pl⟩:=q
   simp only at hql hqd hqb hqv
   refine g_vec 0 rfl (by omega) fun zb zo hza=>?_
   subst hza
   have hlj : LtIs ei ps.length:=⟨hlt⟩
   have hget : (es++ps.drop ei)[ei]? = some (⟨pd,pla,plc,pl⟩ : PRow):=by
    rw [List.getElem?_append_right (by omega),heL,Nat.sub_self,List.getElem?_drop,Nat.add_zero]; exact hq
   have hdr : ps.drop ei = (⟨pd,pla,plc,pl⟩ : PRow)::ps.drop (ei + 1):=by rw [List.drop_eq_getElem_cons hlt,(List.getElem?_eq_some_iff.1 hq).2]
   have hpm : ((es++ps.drop ei).map phE++((rs.eraseIdx d).map pieceP)).Perm (phE ⟨pd,pla,plc,pl⟩::((es++ps.drop (ei + 1)).map phE++((rs.eraseIdx d).map pieceP))):=by
    rw [hdr]
    simp only [List.map_append,List.map_cons,List.append_assoc,List.cons_append]
    exact List.perm_middle
   refine g_permH (H1:=phE ⟨pd,pla,plc,pl⟩::Ent.vec (some ⟨zb,zo,none⟩) ps.length qc 62 2 ((es++ps.drop ei).flatMap phiC)::((es++ps.drop (ei + 1)).map phE++((rs.eraseIdx d).map pieceP))) ((hpm.cons _).trans (List.Perm.swap _ _ _)) ?_
   simp only [phE]
   refine g_vec 0 rfl (by omega) fun yb yo hya=>?_
   subst hya
   refine g_vecLe 0 rfl fun _ hplc _=>?_
   obtain ⟨pv,hpv⟩ : ∃ v,pl[k]? = some v:=⟨_,List.getElem?_eq_getElem (by omega)⟩
   have hob : OwnAgg (Ent.vec (some ⟨yb,yo,none⟩) pl.length plc 39 2 (pl.flatMap vlC)::Ent.vec (some ⟨zb,zo,none⟩) ps.length qc 62 2 ((es++ps.drop ei).flatMap phiC)::((es++ps.drop (ei + 1)).map phE++((rs.eraseIdx d).map pieceP))) zb (zo + ei * 2) _:=ownAgg (k:=1) rfl phiC_len hget
   simp only [phiC] at hob
   have hlk : LtIs k pl.length:=⟨by omega⟩
   have hov : ∀ X : Ent,OwnAgg (X::Ent.vec (some ⟨yb,yo,none⟩) pl.length plc 39 2 (pl.flatMap vlC)::Ent.vec (some ⟨zb,zo,none⟩) ps.length qc 62 2 ((es++ps.drop ei).flatMap phiC)::((es++ps.drop (ei + 1)).map phE++((rs.eraseIdx d).map pieceP))) yb (yo + k * 2) _:=fun X=>ownAgg (k:=1) rfl vlC_len hpv
   simp only [vlC] at hov
   repeat (first|refine g_op rfl ?_|refine g_then ?_|refine g_nil ?_|refine g_region ?_|refine g_seq ?_|refine g_alloc rfl fun _ _=>?_|refine g_storeAgg ?_|refine g_block ?_|refine g_skip ?_)
   rename_i p14 _ p15 _
   have hao : AddOk (k : Int) 1:=⟨by omega,by omega⟩
   have hel : (pl.eraseIdx k).length = pl.length - 1:=by rw [List.length_eraseIdx,if_pos (by omega)]
   obtain ⟨nl,hnl⟩ : ∃ nl,nl = (pl.eraseIdx k).insertIdx j pv:=⟨_,rfl⟩
   have hnll : nl.length = pl.length:=by rw [hnl,List.length_insertIdx,if_pos (by omega)]; omega
   have hnlm : ∀ v ∈ nl,inI v.n:=fun v hv=>by
    rw [hnl,ins_td pv j _ (by omega)] at hv
    rcases List.mem_append.1 hv with hv|hv
    ·exact hqv v (List.mem_of_mem_eraseIdx (List.mem_of_mem_take hv))
    ·rcases List.mem_cons.1 hv with rfl|hv
     ·exact hqv _ (List.mem_of_getElem? hpv)
     ·exact hqv v (List.mem_of_mem_eraseIdx (List.mem_of_mem_drop hv))
   have hdel : ∀ (R : List Ent) (w : World),Wd S2 wk ([Ent.vec (some ⟨yb,yo,none⟩) pl.length plc 39 2 (pl.flatMap vlC)]++R) w→Ret Tryd.prog 83 [.slice (some ⟨yb,yo,none⟩) pl.length plc,.int .i64 k,.int .i64 ((k : Int) + 1)] w fun u w'=>∃ _x : Unit,u = .slice (some ⟨yb,yo,none⟩) (pl.length - 1) plc∧Wd (fps [Ent.vec (some ⟨yb,yo,none⟩) pl.length plc 39 2 (pl.flatMap vlC)]) w [Ent.vec (some ⟨yb,yo,none⟩) (pl.length - 1) plc 39 2 ((pl.eraseIdx k).flatMap vlC)] w'∧True:=fun R w hw =>
    (deleteVal_c (some ⟨yb,yo,none⟩) plc pl k (by omega) hqb w hw.pre).mono fun u w' ⟨h1,h2⟩=>⟨(),h1,h2,trivial⟩
   have hins : ∀ (nb : Nat) (R : List Ent) (w : World),Wd S2 wk ([Ent.vec (some ⟨yb,yo,none⟩) (pl.length - 1) plc 39 2 ((pl.eraseIdx k).flatMap vlC),(fun nb : Nat=>Ent.vec (some ⟨nb,0,none⟩) 1 1 39 2 [.bool pv.reg,.int .i64 pv.n]) nb]++R) w→Ret Tryd.prog 82 [.slice (some ⟨yb,yo,none⟩) (pl.length - 1) plc,.int .i64 j,.slice (some ⟨nb,0,none⟩) 1 1] w fun u w'=>∃ x : Option Addr × Nat,u = .slice x.1 nl.length x.2∧Wd (fps [Ent.vec (some ⟨yb,yo,none⟩) (pl.length - 1) plc 39 2 ((pl.eraseIdx k).flatMap vlC),(fun nb : Nat=>Ent.vec (some ⟨nb,0,none⟩) 1 1 39 2 [.bool pv.reg,.int .i64 pv.n]) nb]) w [Ent.vec x.1 nl.length x.2 39 2 (nl.flatMap vlC)] w'∧True:=fun nb R w hw=>by
    have h9:=insertVal_c yb yo plc (pl.eraseIdx k) j pv nb (by omega) (by omega) (by omega) w (by rw [hel]; exact hw.pre)
    have e9 : pl.length - 1 + 1 = nl.length:=by omega
    rw [hel,e9,← hnl] at h9
    exact h9.mono fun u w' ⟨x,h1,h2⟩=>⟨x,h1,h2,trivial⟩
   have hxs : ∀ x : Option Addr × Nat,XSet ((es++ps.drop ei).flatMap phiC) (ei * 2 + 1) (.slice x.1 nl.length x.2) (((es++[(fun x : Option Addr × Nat=>(⟨pd,x.1,x.2,nl⟩ : PRow)) x])++ps.drop (ei + 1)).flatMap phiC):=fun x=>⟨by
     rw [flat_set phiC_len hget (k:=1) (by omega) (y:=(fun x : Option Addr × Nat=>(⟨pd,x.1,x.2,nl⟩ : PRow)) x) rfl]
     congr 1
     exact set_mid heL hlt,by rw [flat_len phiC_len,List.length_append,List.length_drop]; omega⟩
   have hot : ∀ X : Ent,OwnAt (X::Ent.vec (some ⟨zb,zo,none⟩) ps.length qc 62 2 ((es++ps.drop ei).flatMap phiC)::Ent.box p15 [.bool pv.reg,.int .i64 pv.n] 39::Ent.box p14 [.int .i64 pd,.slice (some ⟨yb,yo,none⟩) pl.length plc] 62::((es++ps.drop (ei + 1)).map phE++((rs.eraseIdx d).map pieceP))) zb (zo + ei * 2 + 1) 1 zo (ei * 2 + 1) ps.length qc 62 2 ((es++ps.drop ei).flatMap phiC):=fun X=>⟨rfl,by omega⟩
   refine g_drawX (Ent.box p15 [.bool pv.reg,.int .i64 pv.n] 39::Ent.box p14 [.int .i64 pd,.slice (some ⟨yb,yo,none⟩) pl.length plc] 62::((es++ps.drop (ei + 1)).map phE++((rs.eraseIdx d).map pieceP))) (fun _ : Option Addr × Nat=>True) (fun _=>[(69,.int .i64 ei),(67,.slice (some ⟨zb,zo,none⟩) ps.length qc),(68,.int .i64 ps.length),(9,.int .i64 k),(10,.int .i64 j),(8,.int .i64 d),(30,.int .i64 i),(28,.slice T.ta tn T.tc),(29,.int .i64 tn),(6,.slice aa n ac),(0,.pointer (some ⟨p,0,none⟩)),(1,.int .i64 t),(2,.int .i64 b)]) (fun x=>(fun x : Option Addr × Nat=>Ent.vec x.1 nl.length x.2 39 2 (nl.flatMap vlC)) x::(fun x : Option Addr × Nat=>Ent.vec (some ⟨zb,zo,none⟩) ps.length qc 62 2 (((es++[(fun x : Option Addr × Nat=>(⟨pd,x.1,x.2,nl⟩ : PRow)) x])++ps.drop (ei + 1)).flatMap phiC)) x::((es++ps.drop (ei + 1)).map phE++((rs.eraseIdx d).map pieceP))) mixed (.cons_cons _ (.cons_cons _ (.cons _ (.cons _ (.refl _))))) ?_ fun x _=>?_
   ·skip
    refine h_take 0 rfl (by decide +kernel) (.cons_cons _ (.cons_cons _ (.cons _ (.cons _ (.refl _))))) ?_
    refine h_take 1 rfl (by decide +kernel) (.cons_cons _ (.cons_cons _ (.cons _ (.cons _ (.refl _))))) ?_
    refine h_take 2 rfl (by decide +kernel) (.cons_cons _ (.cons_cons _ (.cons _ (.cons _ (.refl _))))) ?_
    refine h_take 3 rfl (by decide +kernel) (.cons_cons _ (.cons_cons _ (.cons _ (.cons _ (.refl _))))) ?_
    refine h_take 4 rfl (by decide +kernel) (.cons_cons _ (.cons_cons _ (.cons _ (.cons _ (.refl _))))) ?_
    refine h_take 5 rfl (by decide +kernel) (.cons_cons _ (.cons_cons _ (.cons _ (.cons _ (.refl _))))) ?_
    refine h_take 6 rfl (by decide +kernel) (.cons_cons _ (.cons_cons _ (.cons _ (.cons _ (.refl _))))) ?_
    refine h_take 7 rfl (by decide +kernel) (.cons_cons _ (.cons_cons _ (.cons _ (.cons _ (.refl _))))) ?_
    refine h_take 8 rfl (by decide +kernel) (.cons_cons _ (.cons_cons _ (.cons _ (.cons _ (.refl _))))) ?_
    refine h_take 9 rfl (by decide +kernel) (.cons_cons _ (.cons_cons _ (.cons _ (.cons _ (.refl _))))) ?_
    refine h_take 10 rfl (by decide +kernel) (.cons_cons _ (.cons_cons _ (.cons _ (.cons _ (.refl _))))) ?_
    refine h_take 11 rfl (by decide +kernel) (.cons_cons _ (.cons_cons _ (.cons _ (.cons _ (.refl _))))) ?_
    refine h_take 12 rfl (by decide +kernel) (.cons_cons _ (.cons_cons _ (.cons _ (.cons _ (.refl _))))) ?_
    refine h_take 13 rfl (by decide +kernel) (.cons_cons _ (.cons_cons _ (.cons _ (.cons _ (.refl _))))) ?_
    refine h_take 15 rfl (by decide +kernel) (.cons_cons _ (.cons_cons _ (.cons _ (.cons _ (.refl _))))) ?_
    refine h_take 16 rfl (by decide +kernel) (.cons_cons _ (.cons_cons _ (.cons _ (.cons _ (.refl _))))) ?_
    refine h_two 14 17 (by decide +kernel) ?_ ?_
    ·refine g_permH (H1:=[Ent.vec (some ⟨yb,yo,none⟩) pl.length plc 39 2 (pl.flatMap vlC)]++(Ent.vec (some ⟨zb,zo,none⟩) ps.length qc 62 2 ((es++ps.drop ei).flatMap phiC)::Ent.box p15 [.bool pv.reg,.int .i64 pv.n] 39::Ent.box p14 [.int .i64 pd,.slice (some ⟨yb,yo,none⟩) pl.length plc] 62::((es++ps.drop (ei + 1)).map phE++((rs.eraseIdx d).map pieceP)))) (List.perm_iff_count.2 fun e=>by simp only [List.count_append,List.count_cons,List.count_nil]; omega) ?_
     refine o_callS 14 (val:=fun _ : Unit=>.slice (some ⟨yb,yo,none⟩) (pl.length - 1) plc) (E:=fun _=>[Ent.vec (some ⟨yb,yo,none⟩) (pl.length - 1) plc 39 2 ((pl.eraseIdx k).flatMap vlC)]) (φ:=fun _=>True) rfl (.cons _ (.refl _)) (hdel _) fun _ _=>?_
     refine h_build1 17 rfl (by decide +kernel) (by decide +kernel) (.cons _ (.cons _ (.refl _))) fun nb _=>?_
     refine g_permH (H1:=[Ent.vec (some ⟨yb,yo,none⟩) (pl.length - 1) plc 39 2 ((pl.eraseIdx k).flatMap vlC),(fun nb : Nat=>Ent.vec (some ⟨nb,0,none⟩) 1 1 39 2 [.bool pv.reg,.int .i64 pv.n]) nb]++(Ent.vec (some ⟨zb,zo,none⟩) ps.length qc 62 2 ((es++ps.drop ei).flatMap phiC)::Ent.box p15 [.bool pv.reg,.int .i64 pv.n] 39::Ent.box p14 [.int .i64 pd,.slice (some ⟨yb,yo,none⟩) pl.length plc] 62::((es++ps.drop (ei + 1)).map phE++((rs.eraseIdx d).map pieceP)))) (List.perm_iff_count.2 fun e=>by simp only [List.count_append,List.count_cons,List.count_nil]; omega) ?_
     refine h_callS 18 (val:=fun x : Option Addr × Nat=>.slice x.1 nl.length x.2) (E:=fun x=>[(fun x : Option Addr × Nat=>Ent.vec x.1 nl.length x.2 39 2 (nl.flatMap vlC)) x]) (φ:=fun _=>True) rfl (by decide +kernel) (.cons _ (.refl _)) (hins nb _) fun x _=>?_
     simp only [List.cons_append,List.nil_append]
     refine h_take 19 rfl (by decide +kernel) (.cons _ (.cons _ (.refl _))) ?_
     refine h_take 20 rfl (by decide +kernel) (.cons _ (.cons _ (.refl _))) ?_
     have hxs':=hxs x
     refine h_storeV 21 (by decide +kernel) (by decide +kernel) (.cons _ (.cons _ (.refl _))) ?_
     exact g_mem x trivial (by repeat (first|exact trivial|refine ⟨rfl,?_⟩)) (.cons_cons _ (.cons_cons _ (.cons _ (.cons _ (.refl _)))))
    ·refine o_build1 17 rfl (by decide +kernel) (.cons_cons _ (.cons_cons _ (.cons _ (.cons _ (.refl _))))) fun nb _=>?_
     refine g_permH (H1:=[Ent.vec (some ⟨yb,yo,none⟩) pl.length plc 39 2 (pl.flatMap vlC)]++((fun nb : Nat=>Ent.vec (some ⟨nb,0,none⟩) 1 1 39 2 [.bool pv.reg,.int .i64 pv.n]) nb::Ent.vec (some ⟨zb,zo,none⟩) ps.length qc 62 2 ((es++ps.drop ei).flatMap phiC)::Ent.box p15 [.bool pv.reg,.int .i64 pv.n] 39::Ent.box p14 [.int .i64 pd,.slice (some ⟨yb,yo,none⟩) pl.length plc] 62::((es++ps.drop (ei + 1)).map phE++((rs.eraseIdx d).map pieceP)))) (List.perm_iff_count.2 fun e=>by simp only [List.count_append,List.count_cons,List.count_nil]; omega) ?_
     refine h_callS 14 (val:=fun _ : Unit=>.slice (some ⟨yb,yo,none⟩) (pl.length - 1) plc) (E:=fun _=>[Ent.vec (some ⟨yb,yo,none⟩) (pl.length - 1) plc 39 2 ((pl.eraseIdx k).flatMap vlC)]) (φ:=fun _=>True) rfl (by decide +kernel) (.cons _ (.cons _ (.refl _))) (hdel _) fun _ _=>?_
     refine g_permH (H1:=[Ent.vec (some ⟨yb,yo,none⟩) (pl.length - 1) plc 39 2 ((pl.eraseIdx k).flatMap vlC),(fun nb : Nat=>Ent.vec (some ⟨nb,0,none⟩) 1 1 39 2 [.bool pv.reg,.int .i64 pv.n]) nb]++(Ent.vec (some ⟨zb,zo,none⟩) ps.length qc 62 2 ((es++ps.drop ei).flatMap phiC)::Ent.box p15 [.bool pv.reg,.int .i64 pv.n] 39::Ent.box p14 [.int .i64 pd,.slice (some ⟨yb,yo,none⟩) pl.length plc] 62::((es++ps.drop (ei + 1)).map phE++((rs.eraseIdx d).map pieceP)))) (List.perm_iff_count.2 fun e=>by simp only [List.count_append,List.count_cons,List.count_nil]; omega) ?_
     refine h_callS 18 (val:=fun x : Option Addr × Nat=>.slice x.1 nl.length x.2) (E:=fun x=>[(fun x : Option Addr × Nat=>Ent.vec x.1 nl.length x.2 39 2 (nl.flatMap vlC)) x]) (φ:=fun _=>True) rfl (by decide +kernel) (.cons _ (.refl _)) (hins nb _) fun x _=>?_
     simp only [List.cons_append,List.nil_append]
     refine h_take 19 rfl (by decide +kernel) (.cons _ (.cons _ (.refl _))) ?_
     refine h_take 20 rfl (by decide +kernel) (.cons _ (.cons _ (.refl _))) ?_
     have hxs':=hxs x
     refine h_storeV 21 (by decide +kernel) (by decide +kernel) (.cons _ (.cons _ (.refl _))) ?_
     exact g_mem x trivial (by repeat (first|exact trivial|refine ⟨rfl,?_⟩)) (.cons_cons _ (.cons_cons _ (.cons _ (.cons _ (.refl _)))))
   obtain ⟨na,nc⟩:=x
   simp only
   repeat (first|refine g_then ?_|refine g_nil ?_|refine g_region ?_|refine g_opS rfl ?_|refine g_inBlock ?_|refine g_add rfl (by omega) (by omega) ?_)
   have hl1 : (es++[(⟨pd,na,nc,nl⟩ : PRow)]).length = ei + 1:=by simp [heL]
   refine g_permH (H1:=Ent.vec (some ⟨zb,zo,none⟩) ps.length qc 62 2 (((es++[(⟨pd,na,nc,nl⟩ : PRow)])++ps.drop (es++[(⟨pd,na,nc,nl⟩ : PRow)]).length).flatMap phiC)::(((es++[(⟨pd,na,nc,nl⟩ : PRow)])++ps.drop (es++[(⟨pd,na,nc,nl⟩ : PRow)]).length).map phE++((rs.eraseIdx d).map pieceP))) (List.perm_iff_count.2 fun e=>?_) ?_
   ·have e2 : phE (⟨pd,na,nc,nl⟩ : PRow) = Ent.vec na nl.length nc 39 2 (nl.flatMap vlC):=rfl
    rw [hl1]
    simp only [List.map_append,List.map_cons,List.map_nil,List.count_append,List.count_cons,List.count_nil,e2]
    omega
   refine g_fix (L':=[(69,.int .i64 ((es++[(⟨pd,na,nc,nl⟩ : PRow)]).length : Nat)),(67,.slice (some ⟨zb,zo,none⟩) ps.length qc),(68,.int .i64 ps.length),(9,.int .i64 k),(10,.int .i64 j),(8,.int .i64 d),(30,.int .i64 i),(28,.slice T.ta tn T.tc),(29,.int .i64 tn),(6,.slice aa n ac),(0,.pointer (some ⟨p,0,none⟩)),(1,.int .i64 t),(2,.int .i64 b)]) ?_ (.refl _) ?_
   ·rw [hl1]
    exact (by repeat (first|exact trivial|refine ⟨rfl,?_⟩))
   refine g_next (es++[(⟨pd,na,nc,nl⟩ : PRow)]) ⟨by rw [hl1]; omega,?_,fun q2 hq2=>?_⟩ (by rw [hl1]; omega) (by repeat (first|exact trivial|refine ⟨rfl,?_⟩)) (.refl _)
   ·rw [hl1,List.take_add_one,hq,List.map_append,List.map_append,hem]
    simp only [Option.toList_some,List.map_cons,List.map_nil,turnR,PRow.phi,← hP,← hk,← hjR,List.getD_eq_getElem?_getD,hpv,Option.getD_some,hnl]
   ·rcases List.mem_append.1 hq2 with hq2|hq2
    ·exact heb q2 hq2
    ·rw [List.mem_singleton.1 hq2]
     exact ⟨hqd,by simp only; omega,hnlm⟩
  ·have hge : es.length = ps.length:=by have:=of_decide_eq_false h3; omega
   rw [hge,List.drop_length,List.append_nil]
   rw [hge,List.take_length] at hem
   have hwb : (withPs r es).Bd:=⟨hrd.kind,hrd.on,by unfold withPs; simp only; omega,heb,hrd.list,hrd.ins,hrd.to⟩
   have hst2:=hst.step hx hnt hr (es:=es) (by rw [hge,hps]) (by rw [hem,hps]) hwb
   refine g_wd (H':=(rs.set d (withPs r es)).map pieceP) (fun w hw=>?_) ?_
   ·have h5 : Wd S2 wk ((pvE (withPs r es)::es.map phE)++((rs.eraseIdx d).map pieceP)) w:=by
     have e5 : pvE (withPs r es) = Ent.vec qa ps.length qc 62 2 (es.flatMap phiC):=by
      unfold pvE withPs
      simp only [hge,hqa,hqc]
     rw [e5]
     exact hw
    refine h5.join.perm ?_
    have h6:=map_pull pieceP (l:=rs.set d (withPs r es)) (k:=d) (x:=withPs r es) (List.getElem?_set_self (List.getElem?_eq_some_iff.1 hr).1)
    rw [List.eraseIdx_set_eq] at h6
    exact h6.symm
   repeat (first|refine g_then ?_|refine g_nil ?_|refine g_region ?_|refine g_opS rfl ?_|refine g_inBlock ?_|refine g_add rfl (by omega) (by omega) ?_|refine g_exit ?_|refine g_thenExit ?_|refine g_exitHere ?_)
   exact g_next (i + 1,rs.set d (withPs r es)) ⟨hil,hst2⟩ (by simp only; omega) (by repeat (first|exact trivial|refine ⟨rfl,?_⟩)) (.refl _)
 ·obtain rfl : tn = i:=by have:=of_decide_eq_false h1; omega
  rw [htn,List.take_length] at hst
  repeat (first|refine g_exit ?_|refine g_thenExit ?_|refine g_exitHere ?_)
  exact g_end0 rfl fun w hw=>⟨rs,rfl,(back hw).sub (List.sublist_append_left _ _),hst⟩
end Go.Proofs.YtpadjpplidlfeaaDoor
namespace Go.Proofs.YtpadjpplidlfeaaDoor
open Go Go.RowKit
attribute [local irreducible] wpListIn Code.wpIn Exit.then Exit.inBlock bodyPost wpQuiet wpAnyIn wpAnyH bodyPostM oneH
set_option maxHeartbeats 4000000
def restP (r : BRow) : List Ent:=lvE r::tvE r::r.xs.map roE
def pieceL (r : BRow) : Ent:=Ent.join (restP r)
section
variable {S : Nat→Prop} {w0 w : World} {H : List Ent}
theorem Wd.splitAll : ∀ {l : List BRow} {H : List Ent},Wd S w0 (l.map blkE++H) w→Wd S w0 (l.map pieceP++(l.map pieceL++H)) w
 | [],_,h=>h
 | r::l,H,h=>by
  classical
  have h1 : Wd S w0 (blkPs r++(l.map blkE++H)) w:=Wd.unjoin (H2:=l.map blkE++H) h
  have h2 : Wd S w0 ((pvE r::r.ps.map phE)++(restP r++(l.map blkE++H))) w:=by
   refine h1.perm (List.perm_iff_count.2 fun e=>?_)
   unfold blkPs pvE restP lvE tvE
   simp only [List.count_append,List.count_cons]
   omega
  have h3 : Wd S w0 (restP r++(pieceP r::(l.map blkE++H))) w:=by
   refine h2.join.perm (List.perm_iff_count.2 fun e=>?_)
   unfold pieceP
   simp only [List.count_append,List.count_cons]
   omega
  have h4 : Wd S w0 (l.map blkE++(pieceL r::pieceP r::H)) w:=by
   refine h3.join.perm (List.perm_iff_count.2 fun e=>?_)
   unfold pieceL
   simp only [List.count_append,List.count_cons]
   omega
  refine (Wd.splitAll h4).perm (List.perm_iff_count.2 fun e=>?_)
  simp only [List.map_cons,List.count_append,List.count_cons]
  omega
theorem Wd.joinAll : ∀ {l : List BRow} {H : List Ent},Wd S w0 (l.map pieceP++(l.map pieceL++H)) w→Wd S w0 (l.map blkE++H) w
 | [],_,h=>h
 | r::l,H,h=>by
  classical
  have h1 : Wd S w0 (pieceP r::(restP r++(l.map pieceP++(l.map pieceL++H)))) w:=by
   have h0 : Wd S w0 (pieceL r::(pieceP r::(l.map pieceP++(l.map pieceL++H)))) w:=by
    refine h.perm (List.perm_iff_count.2 fun e=>?_)
    simp only [List.map_cons,List.count_append,List.count_cons]
    omega
   refine h0.unjoin.perm (List.perm_iff_count.2 fun e=>?_)
   simp only [List.count_append,List.count_cons]
   omega
  have h2 : Wd S w0 (blkPs r++(l.map pieceP++(l.map pieceL++H))) w:=by
   refine h1.unjoin.perm (List.perm_iff_count.2 fun e=>?_)
   unfold blkPs pvE restP lvE tvE
   simp only [List.count_append,List.count_cons]
   omega
  have h3 : Wd S w0 (l.map pieceP++(l.map pieceL++(blkE r::H))) w:=by
   refine h2.join.perm (List.perm_iff_count.2 fun e=>?_)
   unfold blkE
   simp only [List.count_append,List.count_cons]
   omega
  refine (Wd.joinAll h3).perm (List.perm_iff_count.2 fun e=>?_)
  simp only [List.map_cons,List.count_append,List.count_cons]
  omega
theorem Wd.blkRaw {r : BRow} (h : Wd S w0 (pieceP r::(restP r++H)) w) (hd : r.Bd) : BlkAt w r:=by
 classical
 refine Wd.blkAt (H:=H) (b:=r) (h.unjoin.perm (List.perm_iff_count.2 fun e=>?_)) hd
 unfold blkPs pvE restP lvE tvE
 simp only [List.count_append,List.count_cons]
 omega
theorem Wd.blkTwo {r : BRow} (h : Wd S w0 (pieceP r::pieceL r::H) w) (hd : r.Bd) : BlkAt w r:=by
 classical
 have h1 : Wd S w0 (restP r++(pieceP r::H)) w:=Wd.unjoin (h.perm (List.Perm.swap _ _ _))
 refine Wd.blkRaw (H:=H) (h1.perm (List.perm_iff_count.2 fun e=>?_)) hd
 simp only [List.count_append,List.count_cons]
 omega
end
theorem count_set {α : Type} [DecidableEq α] {l : List α} {k : Nat} {x y : α} (h : l[k]? = some x) (e : α) : (l.set k y).count e + [x].count e = l.count e + [y].count e:=by
 have h1:=List.perm_iff_count.1 (perm_pull h) e
 have h2:=List.perm_iff_count.1 (perm_pull (l:=l.set k y) (k:=k) (e:=y) (List.getElem?_set_self (List.getElem?_eq_some_iff.1 h).1)) e
 rw [List.eraseIdx_set_eq] at h2
 simp only [List.count_cons,List.count_nil] at h1 h2 ⊢
 omega
theorem g_fact {N : Nat} {ds : List Deferred} {S : Nat→Prop} {w0 : World} {L : List (Nat × Value)} {H : List Ent} {p : Act→World→Prop} {φ : Prop} (h : ∀ w,Wd S w0 H w→φ) (k : φ→G N ds S w0 L H p) : G N ds S w0 L H p:=fun a w hS=>k (h w hS.wd) a w hS
theorem funcOk_ext {R : Nat} {bl : List LBlock} {b t : Nat} (hf : FuncOk R bl) (hb : b < bl.length) (ht : t < bl.length) : FuncOk R (bl.set b { blkAt bl b with list:=(blkAt bl b).list++(blkAt bl t).list }):=by
 have hto : ∀ i,toOf (bl.set b { blkAt bl b with list:=(blkAt bl b).list++(blkAt bl t).list }) i = toOf bl i:=fun i=>by
  unfold toOf
  rw [List.getElem?_set]
  by_cases e : b = i
  ·subst e
   rw [if_pos rfl,if_pos hb,get_blkAt hb]
  ·rw [if_neg e]
 have hpr : ∀ c,preds (bl.set b { blkAt bl b with list:=(blkAt bl b).list++(blkAt bl t).list }) c = preds bl c:=fun c=>preds_same (by rw [List.length_set]) hto c
 refine ⟨fun C hC=>?_,fun c C hc=>?_⟩
 ·rw [List.length_set]
  rcases List.mem_or_eq_of_mem_set hC with hC|rfl
  ·exact hf.good C hC
  ·have h:=hf.good (blkAt bl b) (List.mem_of_getElem? (get_blkAt hb))
   exact h
 ·rw [List.getElem?_set] at hc
  by_cases e : b = c
  ·subst e
   rw [if_pos rfl,if_pos hb] at hc
   obtain rfl:=Option.some.inj hc
   have hB:=hf.block b _ (get_blkAt hb)
   have hT:=hf.block t _ (get_blkAt ht)
   refine ⟨fun p hp=>?_,fun x hx=>?_,hB.on,hB.to⟩
   ·rw [hpr]; exact hB.phis p hp
   ·rcases List.mem_append.1 hx with hx|hx
    ·exact hB.list x hx
    ·exact hT.list x hx
  ·rw [if_neg e] at hc
   have hB:=hf.block c C hc
   exact ⟨fun p hp=>by rw [hpr]; exact hB.phis p hp,hB.list,hB.on,hB.to⟩
end Go.Proofs.YtpadjpplidlfeaaDoor
namespace Go.Proofs.YtpadjpplidlfeaaDoor
open Go Go.RowKit
attribute [local irreducible] wpListIn Code.wpIn Exit.then Exit.inBlock bodyPost wpQuiet wpAnyIn wpAnyH bodyPostM oneH
set_option maxHeartbeats 8000000
theorem chainsOf_c (nm : ByteArray) (pa re : Int) (a : Option Addr) (c : Nat) (bs : List BRow) (R : Nat) (hlen : bs.length ≤ 100) (hpos : 0 < bs.length) (hbd : ∀ r ∈ bs,r.Bd) (hok : BlOk R (bs.map BRow.blk)) (hmany : manyL (bs.map BRow.blk) ≤ 1000) (w0 : World)
  (hW : Wd (fps (fnE a c bs)) w0 (fnE a c bs) w0) :
  Ret Tryd.prog 41 [.agg #[.string nm,.int .i64 pa,.int .i64 re,.slice a bs.length c]] w0 fun u w'=>∃ x : Option Addr × Nat × List BRow,u = .agg #[.string nm,.int .i64 pa,.int .i64 re,.slice x.1 x.2.2.length x.2.1]∧Wd (fps (fnE a c bs)) w0 (fnE x.1 x.2.1 x.2.2) w' ∧
   (x.2.2.map BRow.blk = chainsL (bs.map BRow.blk)∧∀ b ∈ x.2.2,b.Bd):=by
 classical
 obtain ⟨bl,hbl⟩ : ∃ bl,bl = bs.map BRow.blk:=⟨_,rfl⟩
 rw [← hbl] at hok hmany ⊢
 obtain ⟨n,hn⟩ : ∃ n,n = bs.length:=⟨_,rfl⟩
 have hbln : bl.length = n:=by rw [hbl,List.length_map,hn]
 refine ret_enter Tryd.func41 rfl Tryd.ntmps41 rfl hW ?_
 obtain ⟨SS,hSS⟩ : ∃ SS,SS = fps (fnE a c bs):=⟨_,rfl⟩
 rw [← hSS]
 unfold fnE
 rw [← hn] at hlen hpos ⊢
 refine g_vec 0 rfl hpos fun vb vo hva=>?_
 subst hva
 repeat (first|refine g_op rfl ?_|refine g_then ?_|refine g_nil ?_|refine g_region ?_|refine g_seq ?_|refine g_box rfl fun _ _=>?_|refine g_alloc rfl fun _ _=>?_|refine g_block ?_)
 rename_i p1 _ p2 _
 refine g_wd (H':=Ent.box p2 [.string ByteArray.empty,.int .i64 0,.int .i64 0,.slice none 0 0] 33::Ent.box p1 [.string nm,.int .i64 pa,.int .i64 re,.slice (some ⟨vb,vo,none⟩) n c] 33::Ent.vec (some ⟨vb,vo,none⟩) n c 43 6 (bs.flatMap blkC)::(bs.map pieceP++bs.map pieceL)) (fun w hw=>?_) ?_
 ·have h1 : Wd SS w0 (bs.map blkE++[Ent.box p2 [.string ByteArray.empty,.int .i64 0,.int .i64 0,.slice none 0 0] 33,Ent.box p1 [.string nm,.int .i64 pa,.int .i64 re,.slice (some ⟨vb,vo,none⟩) n c] 33,Ent.vec (some ⟨vb,vo,none⟩) n c 43 6 (bs.flatMap blkC)]) w:=hw.perm (List.perm_append_comm (l₁:=[_,_,_]))
  refine h1.splitAll.perm (List.perm_iff_count.2 fun e=>?_)
  simp only [List.count_append,List.count_cons,List.count_nil]
  omega
 skip
 have hch:=chainsTo_joins hok
 refine g_loop (fun x : Nat × List BRow=>x.1 ≤ n∧x.2.length = n∧x.2.map BRow.blk = chainsTo bl x.1∧∀ r ∈ x.2,r.Bd) (fun x=>[(3,.int .i64 x.1),(1,.pointer (some ⟨p1,0,none⟩)),(2,.pointer (some ⟨p2,0,none⟩))]) (fun x=>Ent.box p2 [.string ByteArray.empty,.int .i64 0,.int .i64 0,.slice none 0 0] 33::Ent.box p1 [.string nm,.int .i64 pa,.int .i64 re,.slice (some ⟨vb,vo,none⟩) n c] 33::Ent.vec (some ⟨vb,vo,none⟩) n c 43 6 (x.2.flatMap blkC)::(x.2.map pieceP++x.2.map pieceL)) (fun x=>n - x.1) (0,bs) ⟨Nat.zero_le _,hn.symm,by simp only; rw [← hbl]; rfl,hbd⟩ (g_done (by repeat (first|exact trivial|refine ⟨rfl,?_⟩)) (.refl _)) fun x ⟨hi,hyl,hym,hyd⟩=>?_
 obtain ⟨b,ys⟩:=x
 simp only at hi hyl hym hyd ⊢
 repeat (first|refine g_op rfl ?_|refine g_then ?_|refine g_nil ?_|refine g_region ?_|refine g_seq ?_)
 refine g_cond (fun h1=>?_) (fun h1=>?_)
 case refine_2 =>
  obtain rfl : n = b:=by have:=of_decide_eq_false h1; omega
  repeat (first|refine g_op rfl ?_|refine g_then ?_|refine g_nil ?_|refine g_region ?_|refine g_seq ?_|refine g_storeAgg ?_|refine g_exit ?_|refine g_thenExit ?_|refine g_exitHere ?_|refine g_ret ?_)
  refine g_retC rfl fun w hw=>⟨(some ⟨vb,vo,none⟩,c,ys),?_,?_,?_,hyd⟩
  ·simp only [hyl]
  ·have h2 : Wd SS w0 (ys.map pieceP++(ys.map pieceL++[Ent.vec (some ⟨vb,vo,none⟩) n c 43 6 (ys.flatMap blkC)])) w:=by
    refine hw.pick ⟨[Ent.box p2 [.string nm,.int .i64 pa,.int .i64 re,.slice (some ⟨vb,vo,none⟩) n c] 33,Ent.box p1 [.string nm,.int .i64 pa,.int .i64 re,.slice (some ⟨vb,vo,none⟩) n c] 33],List.perm_iff_count.2 fun e=>?_⟩
    simp only [List.count_append,List.count_cons,List.count_nil]
    omega
   refine h2.joinAll.perm ?_
   simp only
   rw [hyl]
   exact List.perm_append_comm
  ·simp only
   rw [hym]
   unfold chainsL
   rw [hbln]
 have hbn : b < n:=by simpa using h1
 have hlb : LtIs b n:=⟨hbn⟩
 obtain ⟨C0,hC0⟩ : ∃ C0,C0 = chainOf (chainsTo bl b) b:=⟨_,rfl⟩
 have hsuc : chainsTo bl (b + 1) = C0:=by rw [chainsTo_succ,← hC0]
 have hok0:=(hch b).1.ok hok
 have hmy0:=(hch b).1.many
 repeat (first|refine g_op rfl ?_|refine g_then ?_|refine g_nil ?_|refine g_region ?_|refine g_seq ?_|refine g_block ?_|refine g_skip ?_)
 refine g_loop (fun rs : List BRow=>rs.length = n∧BlOk R (rs.map BRow.blk)∧manyL (rs.map BRow.blk) ≤ 1000∧chainOf (rs.map BRow.blk) b = C0∧∀ r ∈ rs,r.Bd) (fun _=>[(4,.pointer (some ⟨vb,vo + b * 6,none⟩)),(3,.int .i64 b),(1,.pointer (some ⟨p1,0,none⟩)),(2,.pointer (some ⟨p2,0,none⟩))]) (fun rs=>Ent.box p2 [.string ByteArray.empty,.int .i64 0,.int .i64 0,.slice none 0 0] 33::Ent.box p1 [.string nm,.int .i64 pa,.int .i64 re,.slice (some ⟨vb,vo,none⟩) n c] 33::Ent.vec (some ⟨vb,vo,none⟩) n c 43 6 (rs.flatMap blkC)::(rs.map pieceP++rs.map pieceL)) (fun rs=>hasP (rs.map BRow.blk)) ys ⟨hyl,by rw [hym]; exact hok0,by rw [hym,hmy0]; exact hmany,by rw [hym,hC0],hyd⟩ (g_done (by repeat (first|exact trivial|refine ⟨rfl,?_⟩)) (.refl _)) fun rs ⟨hrl,hro,hrm,hrc,hrd⟩=>?_
 obtain ⟨l,hl⟩ : ∃ l,l = rs.map BRow.blk:=⟨_,rfl⟩
 rw [← hl] at hro hrm hrc
 have hll : l.length = n:=by rw [hl,List.length_map,hrl]
 have hg:=hro.ok.good
 obtain ⟨B,hB⟩ : ∃ B,rs[b]? = some B:=⟨_,List.getElem?_eq_getElem (by omega)⟩
 have hBb : blkAt l b = B.blk:=blkAt_get (by rw [hl,List.getElem?_map,hB]; rfl)
 have hcB : ∀ (q : Nat) v,(blkC B)[q]? = some v→(rs.flatMap blkC)[b * 6 + q]? = some v:=fun q v hv=>flat_at blkC_len rs b B q v hB hv
 have hok2 : ∀ (X1 X2 : Ent) (Y : List Ent),OwnCell (X1::X2::Ent.vec (some ⟨vb,vo,none⟩) n c 43 6 (rs.flatMap blkC)::Y) vb (vo + b * 6 + 2) (.int .i64 B.kind):=fun _ _ _=>⟨fun _ _ _ hw=>by have:=hw.vecCell (k:=2) rfl (hcB 2 _ rfl); rwa [← Nat.add_assoc] at this⟩
 repeat (first|refine g_op rfl ?_|refine g_then ?_|refine g_nil ?_|refine g_region ?_|refine g_seq ?_)
 by_cases hkd : B.kind = 2
 case neg =>
  rw [show decide (B.kind = 2) = false by simp [hkd]]
  repeat (first|refine g_op rfl ?_|refine g_then ?_|refine g_nil ?_|refine g_region ?_|refine g_opS rfl ?_|refine g_inBlock ?_|refine g_condF ?_|refine g_add rfl (by omega) (by omega) ?_|refine g_exit ?_|refine g_thenExit ?_|refine g_exitHere ?_)
  have hcn : canJ l b = none:=by unfold canJ; rw [if_neg (fun h=>hkd (by rw [hBb] at h; exact h.1))]
  rw [chainOf_none hcn] at hrc
  exact g_next (b + 1,rs) ⟨hbn,hrl,by simp only; rw [hsuc,← hl,hrc],hrd⟩ (by simp only; omega) (by repeat (first|exact trivial|refine ⟨rfl,?_⟩)) (.refl _)
 rw [show decide (B.kind = 2) = true by simp [hkd]]
 have hkb : (blkAt l b).kind = 2:=by rw [hBb]; exact hkd
 obtain ⟨_,hto,htl⟩:=kind_to hro.kind hg hkb
 obtain ⟨t,htD⟩ : ∃ t,t = jumpTo l b:=⟨_,rfl⟩
 rw [← htD] at hto htl
 rw [hBb] at hto
 have hBto : B.to = [(t : Int)]:=hto
 have hBtl : B.to.length = 1:=by rw [hBto]; rfl
 have htn : t < n:=by omega
 have hmemB : pieceL B ∈ rs.map pieceL:=List.mem_map.2 ⟨B,List.mem_of_getElem? hB,rfl⟩
 have hopB : ∀ (X : List Ent) (S : Nat→Prop) (w0 w : World),Wd S w0 (X++(rs.map pieceP++rs.map pieceL)) w→∃ Y,Wd S w0 (restP B++Y) w:=fun X S w0 w hw=>by
  obtain ⟨k,hk⟩:=List.getElem?_of_mem (List.mem_append_right X (List.mem_append_right (rs.map pieceP) hmemB))
  exact ⟨_,(hw.perm (perm_pull hk)).unjoin⟩
 refine g_fact (φ:=∃ tb tz,B.ta = some ⟨tb,tz,none⟩) (fun w hw=>?_) fun ⟨tb,tz,hta⟩=>?_
 ·obtain ⟨Y,h2⟩:=hopB [Ent.box p2 [.string ByteArray.empty,.int .i64 0,.int .i64 0,.slice none 0 0] 33,Ent.box p1 [.string nm,.int .i64 pa,.int .i64 re,.slice (some ⟨vb,vo,none⟩) n c] 33,Ent.vec (some ⟨vb,vo,none⟩) n c 43 6 (rs.flatMap blkC)] _ _ _ hw
  obtain ⟨_,h3⟩:=h2.get (k:=1) rfl
  rcases h3 with ⟨_,h3,_⟩|⟨g,pre,sp,h3,_⟩
  ·rw [hBtl] at h3
   omega
  ·exact ⟨_,_,h3⟩
 have hok5 : ∀ (X1 X2 : Ent) (Y : List Ent),OwnCell (X1::X2::Ent.vec (some ⟨vb,vo,none⟩) n c 43 6 (rs.flatMap blkC)::Y) vb (vo + b * 6 + 4 + 1) (.slice (some ⟨tb,tz,none⟩) 1 B.tc):=fun _ _ _=>⟨fun _ _ _ hw=>by
  have:=hw.vecCell (k:=2) rfl (hcB 5 _ rfl)
  rw [hta,hBtl] at this
  exact this⟩
 have hok5' : ∀ (X1 X2 : Ent) (Y : List Ent),OwnCell (X1::X2::Ent.vec (some ⟨vb,vo,none⟩) n c 43 6 (rs.flatMap blkC)::Y) vb (vo + b * 6 + 2 + 3) (.slice (some ⟨tb,tz,none⟩) 1 B.tc):=fun _ _ _=>⟨fun _ _ _ hw=>by
  have:=hw.vecCell (k:=2) rfl (hcB 5 _ rfl)
  rw [hta,hBtl] at this
  exact this⟩
 have hokt : OwnCell (Ent.box p2 [.string ByteArray.empty,.int .i64 0,.int .i64 0,.slice none 0 0] 33::Ent.box p1 [.string nm,.int .i64 pa,.int .i64 re,.slice (some ⟨vb,vo,none⟩) n c] 33::Ent.vec (some ⟨vb,vo,none⟩) n c 43 6 (rs.flatMap blkC)::(rs.map pieceP++rs.map pieceL)) tb (tz + 0 * 1) (.int .i64 t):=⟨fun _ _ _ hw=>by
  obtain ⟨Y,h2⟩:=hopB [Ent.box p2 [.string ByteArray.empty,.int .i64 0,.int .i64 0,.slice none 0 0] 33,Ent.box p1 [.string nm,.int .i64 pa,.int .i64 re,.slice (some ⟨vb,vo,none⟩) n c] 33,Ent.vec (some ⟨vb,vo,none⟩) n c 43 6 (rs.flatMap blkC)] _ _ _ hw
  refine h2.vecCell (k:=1) (j:=0 * 1) (n:=B.to.length) (c:=B.tc) (e:=3) (s:=1) (xs:=B.to.map (.int .i64)) (by rw [← hta]; rfl) ?_
  rw [hBto]
  rfl⟩
 have hl01 : LtIs 0 1:=⟨by omega⟩
 obtain ⟨T,hT⟩ : ∃ T,rs[t]? = some T:=⟨_,List.getElem?_eq_getElem (by omega)⟩
 have hTb : blkAt l t = T.blk:=blkAt_get (by rw [hl,List.getElem?_map,hT]; rfl)
 have hlt : LtIs t n:=⟨htn⟩
 have hoT : OwnAgg (Ent.box p2 [.string ByteArray.empty,.int .i64 0,.int .i64 0,.slice none 0 0] 33::Ent.box p1 [.string nm,.int .i64 pa,.int .i64 re,.slice (some ⟨vb,vo,none⟩) n c] 33::Ent.vec (some ⟨vb,vo,none⟩) n c 43 6 (rs.flatMap blkC)::(rs.map pieceP++rs.map pieceL)) vb (vo + t * 6) _:=ownAgg (k:=2) rfl blkC_len hT
 simp only [blkC] at hoT
 repeat (first|refine g_op rfl ?_|refine g_then ?_|refine g_nil ?_|refine g_region ?_|refine g_seq ?_|refine g_alloc rfl fun _ _=>?_|refine g_storeAgg ?_|refine g_block ?_|refine g_skip ?_|refine g_condT ?_)
 rename_i p6 _
 by_cases htb : t = b
 ·rw [show decide ((t : Int) = (b : Int)) = true by simp [htb]]
  have hcn : canJ l b = none:=by unfold canJ; rw [← htD,if_neg (fun h=>h.2.1 htb)]
  rw [chainOf_none hcn] at hrc
  repeat (first|refine g_op rfl ?_|refine g_then ?_|refine g_nil ?_|refine g_region ?_|refine g_opS rfl ?_|refine g_pass rfl ?_|refine g_inBlock ?_|refine g_condT ?_|refine g_add rfl (by omega) (by omega) ?_|refine g_exit ?_|refine g_thenExit ?_|refine g_exitHere ?_|refine g_exitOn rfl ?_)
  exact g_next (b + 1,rs) ⟨hbn,hrl,by simp only; rw [hsuc,← hl,hrc],hrd⟩ (by simp only; omega) (by repeat (first|exact trivial|refine ⟨rfl,?_⟩)) (.cons _ (.refl _))
 rw [show decide ((t : Int) = (b : Int)) = false by simp; omega]
 repeat (first|refine g_op rfl ?_|refine g_open ?_)
 by_cases hps : T.ps.length = 0
 case neg =>
  rw [show decide ((0 : Int) < (T.ps.length : Int)) = true from decide_eq_true (by omega)]
  have hcn : canJ l b = none:=by
   unfold canJ
   rw [← htD,if_neg (fun h=>hps ?_)]
   have:=h.2.2.1
   rw [hTb] at this
   have:=congrArg List.length this
   unfold BRow.blk at this
   rw [List.length_map] at this
   exact this
  rw [chainOf_none hcn] at hrc
  repeat (first|refine g_op rfl ?_|refine g_then ?_|refine g_nil ?_|refine g_region ?_|refine g_opS rfl ?_|refine g_pass rfl ?_|refine g_inBlock ?_|refine g_condT ?_|refine g_add rfl (by omega) (by omega) ?_|refine g_exit ?_|refine g_thenExit ?_|refine g_exitHere ?_|refine g_exitOn rfl ?_)
  exact g_next (b + 1,rs) ⟨hbn,hrl,by simp only; rw [hsuc,← hl,hrc],hrd⟩ (by simp only; omega) (by repeat (first|exact trivial|refine ⟨rfl,?_⟩)) (.cons _ (.refl _))
 rw [show decide ((0 : Int) < (T.ps.length : Int)) = false from decide_eq_false (by omega)]
 repeat (first|refine g_op rfl ?_|refine g_open ?_)
 have hrd2 : ∀ (X : List Ent) (w : World),Wd SS w0 (X++(Ent.vec (some ⟨vb,vo,none⟩) n c 43 6 (rs.flatMap blkC)::(rs.map pieceP++rs.map pieceL))) w→SlAt w (.slice (some ⟨vb,vo,none⟩) n c) 6 l BlockV:=fun X w hw=>by
  have h2 : Wd SS w0 (rs.map pieceP++(rs.map pieceL++[Ent.vec (some ⟨vb,vo,none⟩) n c 43 6 (rs.flatMap blkC)])) w:=by
   refine hw.pick ⟨X,List.perm_iff_count.2 fun e=>?_⟩
   simp only [List.count_append,List.count_cons,List.count_nil]
   omega
  have h3:=Wd.blocks (H:=[]) (ba:=some ⟨vb,vo,none⟩) (bc:=c) (bs:=rs) (by rw [List.append_nil,hrl]; exact h2.joinAll.perm List.perm_append_comm) (by omega) hrd
  rw [hrl,← hl] at h3
  exact h3
 refine g_callE (val:=fun x : (Option Addr × Nat × Nat) × (Nat→Prop)=>.slice x.1.1 x.1.2.1 x.1.2.2) (E:=fun x=>[⟨x.2,fun w=>SlAt w (.slice x.1.1 x.1.2.1 x.1.2.2) 1 (aheadL l) RowV⟩]) (φ:=fun _=>True) rfl (fun w hw=>graphAhead_c _ _ _ l (.slice (some ⟨vb,vo,none⟩) n c) w (hrd2 [Ent.box p6 [.slice T.pa T.ps.length T.pc,.slice T.la T.xs.length T.lc,.int .i64 T.kind,.bool T.on.reg,.int .i64 T.on.n,.slice T.ta T.to.length T.tc] 43,Ent.box p2 [.string ByteArray.empty,.int .i64 0,.int .i64 0,.slice none 0 0] 33,Ent.box p1 [.string nm,.int .i64 pa,.int .i64 re,.slice (some ⟨vb,vo,none⟩) n c] 33] w hw) (by omega) hg) fun x _=>?_
 obtain ⟨⟨aa,an,ac⟩,af⟩:=x
 simp only [List.cons_append,List.nil_append]
 refine g_permH (H1:=(Ent.box p6 [.slice T.pa T.ps.length T.pc,.slice T.la T.xs.length T.lc,.int .i64 T.kind,.bool T.on.reg,.int .i64 T.on.n,.slice T.ta T.to.length T.tc] 43::Ent.box p2 [.string ByteArray.empty,.int .i64 0,.int .i64 0,.slice none 0 0] 33::Ent.box p1 [.string nm,.int .i64 pa,.int .i64 re,.slice (some ⟨vb,vo,none⟩) n c] 33::Ent.vec (some ⟨vb,vo,none⟩) n c 43 6 (rs.flatMap blkC)::(rs.map pieceP++rs.map pieceL))++[(⟨af,fun w=>SlAt w (.slice aa an ac) 1 (aheadL l) RowV⟩ : Ent)]) (List.perm_append_comm (l₁:=[(⟨af,fun w=>SlAt w (.slice aa an ac) 1 (aheadL l) RowV⟩ : Ent)])) ?_
 have hrow : (aheadL l)[t]? = some ((preds l t).map fun x : Nat=>(x : Int)):=aheadL_get hg (fun b B hB=>(hro.ok.block b B hB).to) (by omega)
 refine g_holdK fun w1 hw1=>?_
 have hahk : SlAt (killW (fps (Ent.box p6 [.slice T.pa T.ps.length T.pc,.slice T.la T.xs.length T.lc,.int .i64 T.kind,.bool T.on.reg,.int .i64 T.on.n,.slice T.ta T.to.length T.tc] 43::Ent.box p2 [.string ByteArray.empty,.int .i64 0,.int .i64 0,.slice none 0 0] 33::Ent.box p1 [.string nm,.int .i64 pa,.int .i64 re,.slice (some ⟨vb,vo,none⟩) n c] 33::Ent.vec (some ⟨vb,vo,none⟩) n c 43 6 (rs.flatMap blkC)::(rs.map pieceP++rs.map pieceL))) w1) (.slice aa an ac) 1 (aheadL l) RowV:=hw1.beside (e:=(⟨af,fun w=>SlAt w (.slice aa an ac) 1 (aheadL l) RowV⟩ : Ent)) (by simp)
 have back : ∀ {w : World},Wd (fps (Ent.box p6 [.slice T.pa T.ps.length T.pc,.slice T.la T.xs.length T.lc,.int .i64 T.kind,.bool T.on.reg,.int .i64 T.on.n,.slice T.ta T.to.length T.tc] 43::Ent.box p2 [.string ByteArray.empty,.int .i64 0,.int .i64 0,.slice none 0 0] 33::Ent.box p1 [.string nm,.int .i64 pa,.int .i64 re,.slice (some ⟨vb,vo,none⟩) n c] 33::Ent.vec (some ⟨vb,vo,none⟩) n c 43 6 (rs.flatMap blkC)::(rs.map pieceP++rs.map pieceL))) (killW (fps (Ent.box p6 [.slice T.pa T.ps.length T.pc,.slice T.la T.xs.length T.lc,.int .i64 T.kind,.bool T.on.reg,.int .i64 T.on.n,.slice T.ta T.to.length T.tc] 43::Ent.box p2 [.string ByteArray.empty,.int .i64 0,.int .i64 0,.slice none 0 0] 33::Ent.box p1 [.string nm,.int .i64 pa,.int .i64 re,.slice (some ⟨vb,vo,none⟩) n c] 33::Ent.vec (some ⟨vb,vo,none⟩) n c 43 6 (rs.flatMap blkC)::(rs.map pieceP++rs.map pieceL))) w1) (Ent.box p6 [.slice T.pa T.ps.length T.pc,.slice T.la T.xs.length T.lc,.int .i64 T.kind,.bool T.on.reg,.int .i64 T.on.n,.slice T.ta T.to.length T.tc] 43::Ent.box p2 [.string ByteArray.empty,.int .i64 0,.int .i64 0,.slice none 0 0] 33::Ent.box p1 [.string nm,.int .i64 pa,.int .i64 re,.slice (some ⟨vb,vo,none⟩) n c] 33::Ent.vec (some ⟨vb,vo,none⟩) n c 43 6 (rs.flatMap blkC)::(rs.map pieceP++rs.map pieceL)) w→Wd SS w0 ((Ent.box p6 [.slice T.pa T.ps.length T.pc,.slice T.la T.xs.length T.lc,.int .i64 T.kind,.bool T.on.reg,.int .i64 T.on.n,.slice T.ta T.to.length T.tc] 43::Ent.box p2 [.string ByteArray.empty,.int .i64 0,.int .i64 0,.slice none 0 0] 33::Ent.box p1 [.string nm,.int .i64 pa,.int .i64 re,.slice (some ⟨vb,vo,none⟩) n c] 33::Ent.vec (some ⟨vb,vo,none⟩) n c 43 6 (rs.flatMap blkC)::(rs.map pieceP++rs.map pieceL))++[(⟨af,fun w=>SlAt w (.slice aa an ac) 1 (aheadL l) RowV⟩ : Ent)]) w:=fun hw=>hw1.comp hw.unkill
 have hold : ∀ {b o : Nat} {v : Value} {l : List Value},CellsAt (killW (fps (Ent.box p6 [.slice T.pa T.ps.length T.pc,.slice T.la T.xs.length T.lc,.int .i64 T.kind,.bool T.on.reg,.int .i64 T.on.n,.slice T.ta T.to.length T.tc] 43::Ent.box p2 [.string ByteArray.empty,.int .i64 0,.int .i64 0,.slice none 0 0] 33::Ent.box p1 [.string nm,.int .i64 pa,.int .i64 re,.slice (some ⟨vb,vo,none⟩) n c] 33::Ent.vec (some ⟨vb,vo,none⟩) n c 43 6 (rs.flatMap blkC)::(rs.map pieceP++rs.map pieceL))) w1) b o (v::l)→OldIs (fps (Ent.box p6 [.slice T.pa T.ps.length T.pc,.slice T.la T.xs.length T.lc,.int .i64 T.kind,.bool T.on.reg,.int .i64 T.on.n,.slice T.ta T.to.length T.tc] 43::Ent.box p2 [.string ByteArray.empty,.int .i64 0,.int .i64 0,.slice none 0 0] 33::Ent.box p1 [.string nm,.int .i64 pa,.int .i64 re,.slice (some ⟨vb,vo,none⟩) n c] 33::Ent.vec (some ⟨vb,vo,none⟩) n c 43 6 (rs.flatMap blkC)::(rs.map pieceP++rs.map pieceL))) b:=fun hc=>killOldIs hc (by simp)
 generalize killW (fps (Ent.box p6 [.slice T.pa T.ps.length T.pc,.slice T.la T.xs.length T.lc,.int .i64 T.kind,.bool T.on.reg,.int .i64 T.on.n,.slice T.ta T.to.length T.tc] 43::Ent.box p2 [.string ByteArray.empty,.int .i64 0,.int .i64 0,.slice none 0 0] 33::Ent.box p1 [.string nm,.int .i64 pa,.int .i64 re,.slice (some ⟨vb,vo,none⟩) n c] 33::Ent.vec (some ⟨vb,vo,none⟩) n c 43 6 (rs.flatMap blkC)::(rs.map pieceP++rs.map pieceL))) w1 = wk at *
 generalize fps (Ent.box p6 [.slice T.pa T.ps.length T.pc,.slice T.la T.xs.length T.lc,.int .i64 T.kind,.bool T.on.reg,.int .i64 T.on.n,.slice T.ta T.to.length T.tc] 43::Ent.box p2 [.string ByteArray.empty,.int .i64 0,.int .i64 0,.slice none 0 0] 33::Ent.box p1 [.string nm,.int .i64 pa,.int .i64 re,.slice (some ⟨vb,vo,none⟩) n c] 33::Ent.vec (some ⟨vb,vo,none⟩) n c 43 6 (rs.flatMap blkC)::(rs.map pieceP++rs.map pieceL)) = S2 at *
 have hal : (aheadL l).length = n:=by unfold aheadL; rw [aheadTo_length,hll]
 obtain ⟨han,_⟩:=hahk.at
 rw [hal] at han
 subst an
 obtain ⟨b8,o8,had8,hold8,hel8⟩:=slKnown hahk hold (fun _ _ h=>by obtain ⟨_,e,_⟩:=h; exact ⟨_,_,e⟩) (ne_of_get hrow)
 obtain ⟨_,hci8,rv,rfl,hrv⟩:=hel8 t _ hrow
 obtain ⟨rva,rvn,rvc,_,_,rfl,hrvn,_⟩:=id hrv
 rw [List.length_map] at hrvn
 subst hrvn
 repeat (first|refine g_op rfl ?_|refine g_then ?_|refine g_nil ?_|refine g_open ?_)
 by_cases hpr : 1 < (preds l t).length
 ·rw [show decide ((1 : Int) < ((preds l t).length : Int)) = true by simp; omega]
  have hcn : canJ l b = none:=by
   unfold canJ
   rw [← htD,if_neg (fun h=>by have:=h.2.2.2; omega)]
  rw [chainOf_none hcn] at hrc
  repeat (first|refine g_op rfl ?_|refine g_then ?_|refine g_nil ?_|refine g_region ?_|refine g_opS rfl ?_|refine g_inBlock ?_|refine g_condT ?_|refine g_add rfl (by omega) (by omega) ?_|refine g_exit ?_|refine g_thenExit ?_|refine g_exitHere ?_|refine g_exitOn rfl ?_)
  refine g_unhold back ?_
  exact g_next (b + 1,rs) ⟨hbn,hrl,by simp only; rw [hsuc,← hl,hrc],hrd⟩ (by simp only; omega) (by repeat (first|exact trivial|refine ⟨rfl,?_⟩)) (.cons _ (List.sublist_append_left _ _))
 rw [show decide ((1 : Int) < ((preds l t).length : Int)) = false by simp; omega]
 have hph : (blkAt l t).phis = []:=by
  rw [hTb]
  unfold BRow.blk
  rw [List.eq_nil_of_length_eq_zero hps]
  rfl
 have hcj : canJ l b = some t:=by
  unfold canJ
  rw [← htD,if_pos ⟨hkb,htb,hph,by omega⟩]
 have hj:=(canJ_some hro.kind hg).1 hcj
 have hne : b ≠ t:=fun e=>htb e.symm
 refine g_condF ?_
 refine g_unhold back ?_
 obtain ⟨RL,hRp,hRm⟩:=pull2 pieceL hB hT hne
 refine g_wd (H':=Ent.box p2 [.string ByteArray.empty,.int .i64 0,.int .i64 0,.slice none 0 0] 33::Ent.box p1 [.string nm,.int .i64 pa,.int .i64 re,.slice (some ⟨vb,vo,none⟩) n c] 33::Ent.box p6 [.slice T.pa T.ps.length T.pc,.slice T.la T.xs.length T.lc,.int .i64 T.kind,.bool T.on.reg,.int .i64 T.on.n,.slice T.ta T.to.length T.tc] 43::Ent.vec (some ⟨vb,vo,none⟩) n c 43 6 (rs.flatMap blkC)::lvE B::lvE T::((tvE B::tvE T::(B.xs.map roE++(T.xs.map roE++RL)))++rs.map pieceP)) (fun w hw=>?_) ?_
 ·have h2 : Wd SS w0 (restP B++(pieceL T::(Ent.box p2 [.string ByteArray.empty,.int .i64 0,.int .i64 0,.slice none 0 0] 33::Ent.box p1 [.string nm,.int .i64 pa,.int .i64 re,.slice (some ⟨vb,vo,none⟩) n c] 33::Ent.box p6 [.slice T.pa T.ps.length T.pc,.slice T.la T.xs.length T.lc,.int .i64 T.kind,.bool T.on.reg,.int .i64 T.on.n,.slice T.ta T.to.length T.tc] 43::Ent.vec (some ⟨vb,vo,none⟩) n c 43 6 (rs.flatMap blkC)::(RL++(rs.map pieceP++[(⟨af,fun w=>SlAt w (.slice aa n ac) 1 (aheadL l) RowV⟩ : Ent)]))))) w:=by
   refine Wd.unjoin (hw.perm (List.perm_iff_count.2 fun e=>?_))
   have h4:=List.perm_iff_count.1 hRp e
   simp only [List.count_cons,List.count_append,List.count_nil,pieceL] at h4 ⊢
   omega
  have h3 : Wd SS w0 (restP T++(restP B++(Ent.box p2 [.string ByteArray.empty,.int .i64 0,.int .i64 0,.slice none 0 0] 33::Ent.box p1 [.string nm,.int .i64 pa,.int .i64 re,.slice (some ⟨vb,vo,none⟩) n c] 33::Ent.box p6 [.slice T.pa T.ps.length T.pc,.slice T.la T.xs.length T.lc,.int .i64 T.kind,.bool T.on.reg,.int .i64 T.on.n,.slice T.ta T.to.length T.tc] 43::Ent.vec (some ⟨vb,vo,none⟩) n c 43 6 (rs.flatMap blkC)::(RL++(rs.map pieceP++[(⟨af,fun w=>SlAt w (.slice aa n ac) 1 (aheadL l) RowV⟩ : Ent)]))))) w:=by
   refine Wd.unjoin (h2.perm (List.perm_iff_count.2 fun e=>?_))
   simp only [List.count_cons,List.count_append,pieceL]
   omega
  refine h3.pick ⟨[(⟨af,fun w=>SlAt w (.slice aa n ac) 1 (aheadL l) RowV⟩ : Ent)],List.perm_iff_count.2 fun e=>?_⟩
  unfold restP
  simp only [List.count_cons,List.count_append,List.count_nil]
  omega
 have hBd:=hrd B (List.mem_of_getElem? hB)
 have hTd:=hrd T (List.mem_of_getElem? hT)
 have hBT : B.xs.length + T.xs.length ≤ 1000:=by
  have h5:=list_two l b t
  rw [hBb,hTb] at h5
  unfold BRow.blk at h5
  simp only [List.length_map] at h5
  rcases h5 with h5|h5
  ·omega
  ·exact absurd h5 hne
 have hok1 : ∀ (X1 X2 X3 : Ent) (Y : List Ent),OwnCell (X1::X2::X3::Ent.vec (some ⟨vb,vo,none⟩) n c 43 6 (rs.flatMap blkC)::Y) vb (vo + b * 6 + 1) (.slice B.la B.xs.length B.lc):=fun _ _ _ _=>⟨fun _ _ _ hw=>by have:=hw.vecCell (k:=3) rfl (hcB 1 _ rfl); rwa [← Nat.add_assoc] at this⟩
 obtain ⟨B1,hB1⟩ : ∃ B1 : Option Addr × Nat→BRow,B1 = fun x=>{ B with la:=x.1,lc:=x.2,xs:=B.xs++T.xs }:=⟨_,rfl⟩
 have hB1c : ∀ x,blkC (B1 x) = (blkC B).set 1 (.slice x.1 (B.xs.length + T.xs.length) x.2):=fun x=>by
  rw [hB1]
  unfold blkC
  simp only [List.length_append]
  rfl
 have hot1 : ∀ (X1 X2 X3 : Ent) (Y : List Ent),OwnAt (X1::X2::X3::Ent.vec (some ⟨vb,vo,none⟩) n c 43 6 (rs.flatMap blkC)::Y) vb (vo + b * 6 + 1) 3 vo (b * 6 + 1) n c 43 6 (rs.flatMap blkC):=fun _ _ _ _=>⟨rfl,by omega⟩
 have hxs1 : ∀ na nc,XSet (rs.flatMap blkC) (b * 6 + 1) (.slice na (B.xs.length + T.xs.length) nc) ((rs.set b (B1 (na,nc))).flatMap blkC):=fun na nc=>⟨flat_set blkC_len hB (by decide) (hB1c (na,nc)).symm,by rw [flat_len blkC_len]; omega⟩
 repeat (first|refine g_then ?_|refine g_seq ?_|refine g_skip ?_)
 refine g_drawX [Ent.box p6 [.slice T.pa T.ps.length T.pc,.slice T.la T.xs.length T.lc,.int .i64 T.kind,.bool T.on.reg,.int .i64 T.on.n,.slice T.ta T.to.length T.tc] 43] (fun _ : Option Addr × Nat=>True) (fun _=>[(5,.int .i64 t),(6,.pointer (some ⟨p6,0,none⟩)),(4,.pointer (some ⟨vb,vo + b * 6,none⟩)),(3,.int .i64 b),(1,.pointer (some ⟨p1,0,none⟩)),(2,.pointer (some ⟨p2,0,none⟩))]) (fun y=>Ent.box p2 [.string ByteArray.empty,.int .i64 0,.int .i64 0,.slice none 0 0] 33::Ent.box p1 [.string nm,.int .i64 pa,.int .i64 re,.slice (some ⟨vb,vo,none⟩) n c] 33::Ent.box p6 [.slice T.pa T.ps.length T.pc,.slice T.la T.xs.length T.lc,.int .i64 T.kind,.bool T.on.reg,.int .i64 T.on.n,.slice T.ta T.to.length T.tc] 43::Ent.vec (some ⟨vb,vo,none⟩) n c 43 6 ((rs.set b (B1 y)).flatMap blkC)::(fun y : Option Addr × Nat=>Ent.vec y.1 (B.xs.length + T.xs.length) y.2 66 8 ((B.xs++T.xs).flatMap rowC)) y::lvE T::((tvE B::tvE T::(B.xs.map roE++(T.xs.map roE++RL)))++rs.map pieceP)) mixed (.cons _ (.cons _ (.cons_cons _ (List.nil_sublist _)))) ?_ fun y _=>?_
 ·skip
  refine h_take 0 rfl (by decide +kernel) (.cons _ (.cons _ (.cons_cons _ (List.nil_sublist _)))) ?_
  refine h_take 1 rfl (by decide +kernel) (.cons _ (.cons _ (.cons_cons _ (List.nil_sublist _)))) ?_
  refine h_take 2 rfl (by decide +kernel) (.cons _ (.cons _ (.cons_cons _ (List.nil_sublist _)))) ?_
  refine h_take 3 rfl (by decide +kernel) (.cons _ (.cons _ (.cons_cons _ (List.nil_sublist _)))) ?_
  refine h_take 5 rfl (by decide +kernel) (.cons _ (.cons _ (.cons_cons _ (List.nil_sublist _)))) ?_
  refine h_take 6 rfl (by decide +kernel) (.cons _ (.cons _ (.cons_cons _ (List.nil_sublist _)))) ?_
  refine h_one 4 (by decide +kernel) (o_op 4 rfl (.cons _ (.cons _ (.cons_cons _ (List.nil_sublist _)))) ?_)
  refine h_appendF 7 4 rfl rfl rfl T.xs (V:=RowC) rowC (fun _ _ _ h=>h) rowC_len (fun x u hu=>?_) (fun w hw=>flat_sl hw (k:=5) rfl rowC_len (by omega)) (by omega) (by omega) (by decide +kernel) (fun _=>(.cons _ (.cons _ (.cons_cons _ (List.nil_sublist _))))) fun na nc=>?_
  ·unfold rowC at hu
   simp only [List.mem_cons,List.not_mem_nil,or_false] at hu
   rcases hu with rfl|rfl|rfl|rfl|rfl|rfl|rfl|rfl <;> rfl
  rw [← List.flatMap_append]
  simp only [List.set_cons_succ,List.set_cons_zero]
  refine h_take 8 rfl (by decide +kernel) (.cons _ (.cons _ (.cons_cons _ (List.nil_sublist _)))) ?_
  refine h_take 9 rfl (by decide +kernel) (.cons _ (.cons _ (.cons_cons _ (List.nil_sublist _)))) ?_
  have hxs1':=hxs1 na nc
  refine h_storeV 10 (by decide +kernel) (by decide +kernel) (.cons _ (.cons _ (.cons_cons _ (List.nil_sublist _)))) ?_
  exact g_mem (na,nc) trivial (by repeat (first|exact trivial|refine ⟨rfl,?_⟩)) (.refl _)
 obtain ⟨na,nc⟩:=y
 simp only
 obtain ⟨B1',hB1'⟩ : ∃ B1',B1' = B1 (na,nc):=⟨_,rfl⟩
 rw [← hB1']
 have hB1e : B1' = { B with la:=na,lc:=nc,xs:=B.xs++T.xs }:=by rw [hB1',hB1]
 obtain ⟨r1,hr1⟩ : ∃ r1,r1 = rs.set b B1':=⟨_,rfl⟩
 rw [← hr1]
 have hr1l : r1.length = n:=by rw [hr1,List.length_set]; exact hrl
 have hr1B : r1[b]? = some B1':=by rw [hr1]; exact List.getElem?_set_self (by omega)
 have hr1T : r1[t]? = some T:=by rw [hr1,List.getElem?_set_ne hne]; exact hT
 have hr1R : ∀ x,x ≠ b→r1[x]? = rs[x]?:=fun x h=>by rw [hr1,List.getElem?_set_ne (fun e=>h e.symm)]
 have hpp : r1.map pieceP = rs.map pieceP:=by
  rw [hr1,List.map_set,show pieceP B1' = pieceP B by rw [hB1e]; rfl]
  exact set_self (by rw [List.getElem?_map,hB]; rfl)
 have hB1d : B1'.Bd:=by
  rw [hB1e]
  refine ⟨hBd.kind,hBd.on,hBd.phis,hBd.phi,by simp only [List.length_append]; omega,fun x hx=>?_,hBd.to⟩
  rcases List.mem_append.1 hx with hx|hx
  ·exact hBd.ins x hx
  ·exact hTd.ins x hx
 have hr1d : ∀ r ∈ r1,r.Bd:=fun r hr=>by
  rw [hr1] at hr
  rcases List.mem_or_eq_of_mem_set hr with hr|rfl
  ·exact hrd r hr
  ·exact hB1d
 obtain ⟨l1,hl1⟩ : ∃ l1,l1 = r1.map BRow.blk:=⟨_,rfl⟩
 have hl1e : l1 = l.set b { blkAt l b with list:=(blkAt l b).list++(blkAt l t).list }:=by
  rw [hl1,hr1,List.map_set,← hl,hBb,hTb,hB1e]
  unfold BRow.blk
  simp only [List.map_append]
 have hf1 : FuncOk R l1:=by rw [hl1e]; exact funcOk_ext hro.ok (by omega) (by omega)
 have hpr1 : ∀ x,preds l1 x = preds l x:=fun x=>preds_same (by rw [hl1e,List.length_set]) (fun i=>by
  rw [hl1e]
  unfold toOf
  rw [List.getElem?_set]
  by_cases e : b = i
  ·subst e
   rw [if_pos rfl,if_pos (by omega),get_blkAt (by omega)]
  ·rw [if_neg e]) x
 rw [← hpp]
 have hslr : ∀ w w',Wd SS w0 (r1.map pieceP++(Ent.box p2 [.string ByteArray.empty,.int .i64 0,.int .i64 0,.slice none 0 0] 33::Ent.box p1 [.string nm,.int .i64 pa,.int .i64 re,.slice (some ⟨vb,vo,none⟩) n c] 33::Ent.box p6 [.slice T.pa T.ps.length T.pc,.slice T.la T.xs.length T.lc,.int .i64 T.kind,.bool T.on.reg,.int .i64 T.on.n,.slice T.ta T.to.length T.tc] 43::Ent.vec (some ⟨vb,vo,none⟩) n c 43 6 (r1.flatMap blkC)::Ent.vec na (B.xs.length + T.xs.length) nc 66 8 ((B.xs++T.xs).flatMap rowC)::lvE T::(tvE B::tvE T::(B.xs.map roE++(T.xs.map roE++RL))))) w→Wd (fps (r1.map pieceP)) w (r1.map pieceP) w'→SlAt w' (.slice (some ⟨vb,vo,none⟩) r1.length c) 6 (r1.map BRow.blk) BlockV:=fun w w' hw hw2=>by
  have h5:=hw.comp hw2
  have h6 : Wd SS w0 (Ent.vec (some ⟨vb,vo,none⟩) n c 43 6 (r1.flatMap blkC)::(Ent.box p2 [.string ByteArray.empty,.int .i64 0,.int .i64 0,.slice none 0 0] 33::Ent.box p1 [.string nm,.int .i64 pa,.int .i64 re,.slice (some ⟨vb,vo,none⟩) n c] 33::Ent.box p6 [.slice T.pa T.ps.length T.pc,.slice T.la T.xs.length T.lc,.int .i64 T.kind,.bool T.on.reg,.int .i64 T.on.n,.slice T.ta T.to.length T.tc] 43::Ent.vec na (B.xs.length + T.xs.length) nc 66 8 ((B.xs++T.xs).flatMap rowC)::lvE T::((tvE B::tvE T::(B.xs.map roE++(T.xs.map roE++RL)))++r1.map pieceP))) w':=by
   refine h5.perm (List.perm_iff_count.2 fun e=>?_)
   simp only [List.count_append,List.count_cons]
   omega
  have h7:=flat_sl (k:=0) (l:=r1) (g:=blkC) (a:=some ⟨vb,vo,none⟩) (c:=c) (e:=43) h6 (by rw [hr1l]; rfl) blkC_len (by omega)
  refine blk_sl h7 fun r hr=>?_
  obtain ⟨x,hx⟩:=List.getElem?_of_mem hr
  have hxp : (r1.map pieceP)[x]? = some (pieceP r):=by rw [List.getElem?_map,hx]; rfl
  by_cases e1 : x = b
  ·rw [e1,hr1B] at hx
   obtain rfl:=Option.some.inj hx
   refine Wd.blkRaw (H:=(r1.map pieceP).eraseIdx x++(Ent.box p2 [.string ByteArray.empty,.int .i64 0,.int .i64 0,.slice none 0 0] 33::Ent.box p1 [.string nm,.int .i64 pa,.int .i64 re,.slice (some ⟨vb,vo,none⟩) n c] 33::Ent.box p6 [.slice T.pa T.ps.length T.pc,.slice T.la T.xs.length T.lc,.int .i64 T.kind,.bool T.on.reg,.int .i64 T.on.n,.slice T.ta T.to.length T.tc] 43::Ent.vec (some ⟨vb,vo,none⟩) n c 43 6 (r1.flatMap blkC)::lvE T::tvE T::RL)) (h5.perm (List.perm_iff_count.2 fun e=>?_)) hB1d
   have h8:=List.perm_iff_count.1 (perm_pull hxp) e
   have h9 : restP B1' = Ent.vec na (B.xs.length + T.xs.length) nc 66 8 ((B.xs++T.xs).flatMap rowC)::tvE B::(B.xs++T.xs).map roE:=by
    rw [hB1e]
    unfold restP lvE tvE
    simp only [List.length_append]
   rw [h9]
   simp only [List.count_append,List.count_cons,List.count_nil,List.map_append] at h8 ⊢
   omega
  by_cases e2 : x = t
  ·rw [e2,hr1T] at hx
   obtain rfl:=Option.some.inj hx
   refine Wd.blkRaw (H:=(r1.map pieceP).eraseIdx x++(Ent.box p2 [.string ByteArray.empty,.int .i64 0,.int .i64 0,.slice none 0 0] 33::Ent.box p1 [.string nm,.int .i64 pa,.int .i64 re,.slice (some ⟨vb,vo,none⟩) n c] 33::Ent.box p6 [.slice T.pa T.ps.length T.pc,.slice T.la T.xs.length T.lc,.int .i64 T.kind,.bool T.on.reg,.int .i64 T.on.n,.slice T.ta T.to.length T.tc] 43::Ent.vec (some ⟨vb,vo,none⟩) n c 43 6 (r1.flatMap blkC)::Ent.vec na (B.xs.length + T.xs.length) nc 66 8 ((B.xs++T.xs).flatMap rowC)::tvE B::(B.xs.map roE++RL))) (h5.perm (List.perm_iff_count.2 fun e=>?_)) hTd
   have h8:=List.perm_iff_count.1 (perm_pull hxp) e
   unfold restP
   simp only [List.count_append,List.count_cons,List.count_nil,List.map_append] at h8 ⊢
   omega
  have hxr:=hx
  rw [hr1R x e1] at hxr
  obtain ⟨k,hk⟩:=List.getElem?_of_mem (hRm x r hxr e1 e2)
  refine Wd.blkTwo (H:=(r1.map pieceP).eraseIdx x++(Ent.box p2 [.string ByteArray.empty,.int .i64 0,.int .i64 0,.slice none 0 0] 33::Ent.box p1 [.string nm,.int .i64 pa,.int .i64 re,.slice (some ⟨vb,vo,none⟩) n c] 33::Ent.box p6 [.slice T.pa T.ps.length T.pc,.slice T.la T.xs.length T.lc,.int .i64 T.kind,.bool T.on.reg,.int .i64 T.on.n,.slice T.ta T.to.length T.tc] 43::Ent.vec (some ⟨vb,vo,none⟩) n c 43 6 (r1.flatMap blkC)::Ent.vec na (B.xs.length + T.xs.length) nc 66 8 ((B.xs++T.xs).flatMap rowC)::lvE T::tvE B::tvE T::(B.xs.map roE++(T.xs.map roE++RL.eraseIdx k)))) (h5.perm (List.perm_iff_count.2 fun e=>?_)) (hr1d r hr)
  have h8:=List.perm_iff_count.1 (perm_pull hxp) e
  have h9:=List.perm_iff_count.1 (perm_pull hk) e
  simp only [List.count_append,List.count_cons,List.count_nil,List.map_append] at h8 h9 ⊢
  omega
 refine g_permH (H1:=r1.map pieceP++(Ent.box p2 [.string ByteArray.empty,.int .i64 0,.int .i64 0,.slice none 0 0] 33::Ent.box p1 [.string nm,.int .i64 pa,.int .i64 re,.slice (some ⟨vb,vo,none⟩) n c] 33::Ent.box p6 [.slice T.pa T.ps.length T.pc,.slice T.la T.xs.length T.lc,.int .i64 T.kind,.bool T.on.reg,.int .i64 T.on.n,.slice T.ta T.to.length T.tc] 43::Ent.vec (some ⟨vb,vo,none⟩) n c 43 6 (r1.flatMap blkC)::Ent.vec na (B.xs.length + T.xs.length) nc 66 8 ((B.xs++T.xs).flatMap rowC)::lvE T::(tvE B::tvE T::(B.xs.map roE++(T.xs.map roE++RL))))) (List.perm_iff_count.2 fun e=>?_) ?_
 ·simp only [List.count_append,List.count_cons]
  omega
 repeat (first|refine g_op rfl ?_|refine g_then ?_|refine g_region ?_|refine g_seq ?_)
 refine g_callS (val:=fun _ : List BRow=>.tuple #[]) (E:=fun r2=>r2.map pieceP) (φ:=fun r2=>RenTo l1 r1 b t T.to r2) rfl (fun w hw=>?_) fun r2 hren=>?_
 ·have hbes:=hw.besides
  have h9:=rename_c nm pa re vb vo c p1 r1 R b t T hr1T (by omega) hne (by omega) (by rw [← hl1]; exact hf1) hr1d w hw.pre (fun j v hj=>by rw [Nat.zero_add,hr1l] at *; exact hbes.cellBox 1 rfl hj) (fun x r hr j v hj=>by
   have:=hbes.vecCell (k:=3) rfl (flat_at blkC_len r1 x r j v hr hj)
   rwa [← Nat.add_assoc] at this) (hbes.intsAt (k:=7) rfl rfl hTd.to.1 hTd.to.2) (fun w' hw2=>hslr w w' hw hw2)
  rw [← hl1] at h9
  exact h9
 have hr2l : r2.length = n:=by rw [hren.len]; exact hr1l
 obtain ⟨b2,hb2⟩ : ∃ b2,r2[b]? = some b2:=⟨_,List.getElem?_eq_getElem (by omega)⟩
 obtain ⟨t2,ht2⟩ : ∃ t2,r2[t]? = some t2:=⟨_,List.getElem?_eq_getElem (by omega)⟩
 obtain ⟨hb2e,hb2l,hb2d,_⟩:=hren.at' b B1' b2 hr1B hb2
 obtain ⟨B2,hB2⟩ : ∃ B2 : BRow,B2 = { B1' with kind:=T.kind,on:=T.on,ta:=T.ta,tc:=T.tc,to:=T.to }:=⟨_,rfl⟩
 obtain ⟨z2,hz2⟩ : ∃ z2,z2 = r1.set b B2:=⟨_,rfl⟩
 have hz2l : z2.length = n:=by rw [hz2,List.length_set]; exact hr1l
 have hz2T : z2[t]? = some T:=by rw [hz2,List.getElem?_set_ne hne]; exact hr1T
 obtain ⟨T3,hT3⟩ : ∃ T3 : BRow,T3 = ⟨none,0,[],none,0,[],1,noV,none,0,[]⟩:=⟨_,rfl⟩
 have hcont2 : (r1.flatMap blkC).take (b * 6 + 2)++[.int .i64 T.kind,.bool T.on.reg,.int .i64 T.on.n,.slice T.ta T.to.length T.tc]++(r1.flatMap blkC).drop (b * 6 + 2 + 4) = z2.flatMap blkC:=by
  rw [hz2]
  exact flat_tail blkC_len hr1B (k:=2) (vs:=[.int .i64 T.kind,.bool T.on.reg,.int .i64 T.on.n,.slice T.ta T.to.length T.tc]) rfl (by rw [hB2,hB1e]; rfl)
 have hcont3 : (z2.flatMap blkC).take (t * 6)++[.slice none 0 0,.slice none 0 0,.int .i64 1,.bool false,.int .i64 0,.slice none 0 0]++(z2.flatMap blkC).drop (t * 6 + 6) = (z2.set t T3).flatMap blkC:=by
  have h5:=flat_put blkC_len (l:=z2) (i:=t) (by omega) T3
  rw [hT3] at h5 ⊢
  exact h5
 refine g_permH (H1:=Ent.box p2 [.string ByteArray.empty,.int .i64 0,.int .i64 0,.slice none 0 0] 33::Ent.box p1 [.string nm,.int .i64 pa,.int .i64 re,.slice (some ⟨vb,vo,none⟩) n c] 33::Ent.box p6 [.slice T.pa T.ps.length T.pc,.slice T.la T.xs.length T.lc,.int .i64 T.kind,.bool T.on.reg,.int .i64 T.on.n,.slice T.ta T.to.length T.tc] 43::Ent.vec (some ⟨vb,vo,none⟩) n c 43 6 (r1.flatMap blkC)::Ent.vec na (B.xs.length + T.xs.length) nc 66 8 ((B.xs++T.xs).flatMap rowC)::lvE T::((tvE B::tvE T::(B.xs.map roE++(T.xs.map roE++RL)))++r2.map pieceP)) (List.perm_iff_count.2 fun e=>?_) ?_
 ·simp only [List.count_append,List.count_cons]
  omega
 repeat (first|refine g_op rfl ?_|refine g_then ?_|refine g_nil ?_|refine g_region ?_|refine g_seq ?_)
 refine g_storeVA 3 (j:=b * 6 + 2) rfl (by omega) (by rw [flat_len blkC_len]; omega) ?_
 rw [hcont2]
 simp only [List.set_cons_succ,List.set_cons_zero]
 repeat (first|refine g_op rfl ?_|refine g_then ?_|refine g_nil ?_|refine g_region ?_)
 refine g_storeVA 3 (j:=t * 6) rfl (by omega) (by rw [flat_len blkC_len]; omega) ?_
 rw [hcont3]
 simp only [List.set_cons_succ,List.set_cons_zero]
 obtain ⟨B3,hB3⟩ : ∃ B3 : BRow,B3 = withPs B2 b2.ps:=⟨_,rfl⟩
 obtain ⟨r3,hr3⟩ : ∃ r3,r3 = (r2.set b B3).set t T3:=⟨_,rfl⟩
 have hr3l : r3.length = n:=by rw [hr3,List.length_set,List.length_set]; exact hr2l
 have hr3B : r3[b]? = some B3:=by rw [hr3,List.getElem?_set_ne htb]; exact List.getElem?_set_self (by omega)
 have hr3T : r3[t]? = some T3:=by rw [hr3]; exact List.getElem?_set_self (by rw [List.length_set]; omega)
 have hr3R : ∀ x,x ≠ b→x ≠ t→r3[x]? = r2[x]?:=fun x h1 h2=>by rw [hr3,List.getElem?_set_ne (fun e=>h2 e.symm),List.getElem?_set_ne (fun e=>h1 e.symm)]
 have hturn : ∀ x r r',r1[x]? = some r→r2[x]? = some r'→x ≠ t→r'.ps.map PRow.phi = r.ps.map fun q=>phJ l b t x q.phi:=fun x r r' h1 h2 hxt=>by
  obtain ⟨_,_,_,g4⟩:=hren.at' x r r' h1 h2
  have hxl : x < n:=by rw [← hr1l]; exact (List.getElem?_eq_some_iff.1 h1).1
  have hlen2 : ∀ q ∈ r.ps,q.phi.src.length = (preds l x).length:=fun q hq=>by
   have h5 : l1[x]? = some r.blk:=by rw [hl1,List.getElem?_map,h1]; rfl
   have:=((hf1.block x _ h5).phis q.phi (List.mem_map.2 ⟨q,hq,rfl⟩)).len
   rwa [hpr1] at this
  have hmem : (x : Int) ∈ T.to ↔ t ∈ preds l x:=by
   have h5 : toOf l t = T.to:=by rw [toOf_at (by omega),hTb]; rfl
   rw [← h5]
   unfold preds
   rw [List.mem_filter,List.mem_range,decide_eq_true_eq]
   exact ⟨fun h=>⟨by omega,h⟩,fun h=>h.2⟩
  rw [g4]
  by_cases hm : (x : Int) ∈ T.to
  ·rw [if_pos hm]
   refine List.map_congr_left fun q hq=>?_
   rw [← turnR_eq hj hxt (hmem.1 hm) q.phi (hlen2 q hq)]
   unfold turnR renJ
   rw [hpr1]
  ·rw [if_neg hm]
   refine List.map_congr_left fun q hq=>?_
   exact (phJ_same hj hxt (fun h=>hm (hmem.2 h)) q.phi (hlen2 q hq)).symm
 have hnew : r3.map BRow.blk = joinB l b t:=by
  apply List.ext_getElem?
  intro x
  by_cases hxl : x < n
  ·rw [joinB_get (get_blkAt (show x < l.length by omega)),List.getElem?_map]
   unfold blkJ
   by_cases e1 : x = t
   ·rw [if_pos e1,e1,hr3T,hT3]
    rfl
   rw [if_neg e1]
   by_cases e2 : x = b
   ·rw [if_pos e2,e2,hr3B,Option.map_some,hB3,hB2,hB1e]
    have h5:=hturn b B1' b2 hr1B hb2 hne
    rw [hB1e] at h5
    unfold withPs BRow.blk
    simp only [h5,hBb,hTb,List.map_append,List.map_map]
    unfold BRow.blk
    simp only [List.map_map]
    rfl
   rw [if_neg e2]
   obtain ⟨r,hr⟩ : ∃ r,rs[x]? = some r:=⟨_,List.getElem?_eq_getElem (by omega)⟩
   obtain ⟨r',hr'⟩ : ∃ r',r2[x]? = some r':=⟨_,List.getElem?_eq_getElem (by omega)⟩
   have hrx : r1[x]? = some r:=by rw [hr1R x e2]; exact hr
   obtain ⟨g1,_,_,_⟩:=hren.at' x r r' hrx hr'
   have h5:=hturn x r r' hrx hr' e1
   have h6 : blkAt l x = r.blk:=blkAt_get (by rw [hl,List.getElem?_map,hr]; rfl)
   rw [hr3R x e2 e1,hr',Option.map_some,h6]
   congr 1
   have h7 : r'.blk = { r.blk with phis:=r'.ps.map PRow.phi }:=by
    conv=>lhs; rw [g1]
    rfl
   rw [h7,h5]
   unfold BRow.blk
   simp only [List.map_map]
   rfl
  ·rw [List.getElem?_eq_none (by rw [List.length_map]; omega),List.getElem?_eq_none (by rw [joinB_len]; omega)]
 have hr3d : ∀ r ∈ r3,r.Bd:=fun r hr=>by
  rw [hr3] at hr
  rcases List.mem_or_eq_of_mem_set hr with hr|rfl
  ·rcases List.mem_or_eq_of_mem_set hr with hr|rfl
   ·obtain ⟨x,hx⟩:=List.getElem?_of_mem hr
    have hxl:=(List.getElem?_eq_some_iff.1 hx).1
    obtain ⟨r0,hr0⟩ : ∃ r0,r1[x]? = some r0:=⟨_,List.getElem?_eq_getElem (by omega)⟩
    exact (hren.at' x r0 r hr0 hx).2.2.1
   ·rw [hB3,hB2]
    exact ⟨hTd.kind,hTd.on,hb2d.phis,hb2d.phi,hB1d.list,hB1d.ins,hTd.to⟩
  ·rw [hT3]
   exact ⟨show inI (1 : Int) from ⟨by omega,by omega⟩,show inI (0 : Int) from ⟨by omega,by omega⟩,by simp,by simp,by simp,by simp,by simp⟩
 have hcells : (z2.set t T3).flatMap blkC = r3.flatMap blkC:=by
  have h5 : (z2.set t T3).map blkC = r3.map blkC:=by
   apply List.ext_getElem?
   intro x
   rw [List.getElem?_map,List.getElem?_map]
   by_cases e1 : x = t
   ·rw [e1,hr3T,List.getElem?_set_self (by omega)]
   rw [List.getElem?_set_ne (fun e=>e1 e.symm)]
   by_cases e2 : x = b
   ·rw [e2,hr3B,hz2,List.getElem?_set_self (by omega),Option.map_some,Option.map_some,hB3]
    unfold withPs blkC
    simp only [hb2l]
    rw [hB2]
   rw [hz2,List.getElem?_set_ne (fun e=>e2 e.symm),hr3R x e2 e1]
   by_cases hxl : x < n
   ·obtain ⟨r,hr⟩ : ∃ r,r1[x]? = some r:=⟨_,List.getElem?_eq_getElem (by omega)⟩
    obtain ⟨r',hr'⟩ : ∃ r',r2[x]? = some r':=⟨_,List.getElem?_eq_getElem (by omega)⟩
    obtain ⟨g1,g2,_,_⟩:=hren.at' x r r' hr hr'
    rw [hr,hr',Option.map_some,Option.map_some]
    congr 1
    conv=>rhs; rw [g1]
    unfold withPs blkC
    simp only [g2]
   ·rw [List.getElem?_eq_none (by omega),List.getElem?_eq_none (by omega)]
  rw [List.flatMap_def,h5,← List.flatMap_def]
 have hpB3 : pieceP B3 = pieceP b2:=by
  have h5 : b2.pa = B1'.pa:=by rw [hb2e]; rfl
  have h6 : b2.pc = B1'.pc:=by rw [hb2e]; rfl
  rw [hB3,hB2]
  unfold pieceP pvE withPs
  simp only [h5,h6]
 have hcP : ∀ e,(r3.map pieceP).count e + [pieceP t2].count e = (r2.map pieceP).count e + [pieceP T3].count e:=fun e=>by
  have h5 : (r2.map pieceP).set b (pieceP B3) = r2.map pieceP:=by rw [hpB3]; exact set_self (by rw [List.getElem?_map,hb2]; rfl)
  have h6:=count_set (l:=r2.map pieceP) (k:=t) (x:=pieceP t2) (y:=pieceP T3) (by rw [List.getElem?_map,ht2]; rfl) e
  rw [hr3,List.map_set,List.map_set,h5]
  exact h6
 have hcL : ∀ e,(r3.map pieceL).count e = [pieceL B3].count e + [pieceL T3].count e + RL.count e:=fun e=>by
  have h5 : r3.map pieceL = ((rs.map pieceL).set b (pieceL B3)).set t (pieceL T3):=by
   apply List.ext_getElem?
   intro x
   rw [List.getElem?_map]
   by_cases e1 : x = t
   ·rw [e1,hr3T,List.getElem?_set_self (by rw [List.length_set,List.length_map]; omega)]
    rfl
   rw [List.getElem?_set_ne (fun e=>e1 e.symm)]
   by_cases e2 : x = b
   ·rw [e2,hr3B,List.getElem?_set_self (by rw [List.length_map]; omega)]
    rfl
   rw [List.getElem?_set_ne (fun e=>e2 e.symm),hr3R x e2 e1,List.getElem?_map,← hr1R x e2]
   by_cases hxl : x < n
   ·obtain ⟨r,hr⟩ : ∃ r,r1[x]? = some r:=⟨_,List.getElem?_eq_getElem (by omega)⟩
    obtain ⟨r',hr'⟩ : ∃ r',r2[x]? = some r':=⟨_,List.getElem?_eq_getElem (by omega)⟩
    obtain ⟨g1,_,_,_⟩:=hren.at' x r r' hr hr'
    rw [hr,hr',Option.map_some,Option.map_some]
    congr 1
    conv=>lhs; rw [g1]
    rfl
   ·rw [List.getElem?_eq_none (by omega),List.getElem?_eq_none (by omega)]
  have h6:=count_set (l:=rs.map pieceL) (k:=b) (x:=pieceL B) (y:=pieceL B3) (by rw [List.getElem?_map,hB]; rfl) e
  have h7:=count_set (l:=(rs.map pieceL).set b (pieceL B3)) (k:=t) (x:=pieceL T) (y:=pieceL T3) (by rw [List.getElem?_set_ne hne,List.getElem?_map,hT]; rfl) e
  have h8:=List.perm_iff_count.1 hRp e
  rw [h5]
  simp only [List.count_cons,List.count_nil] at h6 h7 h8 ⊢
  omega
 rw [hcells]
 refine g_wd (H':=Ent.box p2 [.string ByteArray.empty,.int .i64 0,.int .i64 0,.slice none 0 0] 33::Ent.box p1 [.string nm,.int .i64 pa,.int .i64 re,.slice (some ⟨vb,vo,none⟩) n c] 33::Ent.vec (some ⟨vb,vo,none⟩) n c 43 6 (r3.flatMap blkC)::(r3.map pieceP++r3.map pieceL)) (fun w hw=>?_) ?_
 ·have hB3e : restP B3 = Ent.vec na (B.xs.length + T.xs.length) nc 66 8 ((B.xs++T.xs).flatMap rowC)::tvE T::(B.xs++T.xs).map roE:=by
   rw [hB3,hB2,hB1e]
   unfold restP lvE tvE withPs
   simp only [List.length_append]
  have h5 : Wd SS w0 (restP B3++(Ent.box p2 [.string ByteArray.empty,.int .i64 0,.int .i64 0,.slice none 0 0] 33::Ent.box p1 [.string nm,.int .i64 pa,.int .i64 re,.slice (some ⟨vb,vo,none⟩) n c] 33::Ent.vec (some ⟨vb,vo,none⟩) n c 43 6 (r3.flatMap blkC)::(RL++r2.map pieceP))) w:=by
   refine hw.pick ⟨Ent.box p6 [.slice T.pa T.ps.length T.pc,.slice T.la T.xs.length T.lc,.int .i64 T.kind,.bool T.on.reg,.int .i64 T.on.n,.slice T.ta T.to.length T.tc] 43::lvE T::[tvE B],List.perm_iff_count.2 fun e=>?_⟩
   rw [hB3e]
   simp only [List.count_append,List.count_cons,List.count_nil,List.map_append]
   omega
  have h6 : Wd SS w0 (restP T3++(pieceL B3::(Ent.box p2 [.string ByteArray.empty,.int .i64 0,.int .i64 0,.slice none 0 0] 33::Ent.box p1 [.string nm,.int .i64 pa,.int .i64 re,.slice (some ⟨vb,vo,none⟩) n c] 33::Ent.vec (some ⟨vb,vo,none⟩) n c 43 6 (r3.flatMap blkC)::(RL++r2.map pieceP)))) w:=by
   have h7:=((Wd.join h5).nilVec 3 1).nilVec 66 8
   rw [hT3]
   exact h7
  have h8 : Wd SS w0 ((pvE T3::T3.ps.map phE)++(pieceL T3::(pieceL B3::(Ent.box p2 [.string ByteArray.empty,.int .i64 0,.int .i64 0,.slice none 0 0] 33::Ent.box p1 [.string nm,.int .i64 pa,.int .i64 re,.slice (some ⟨vb,vo,none⟩) n c] 33::Ent.vec (some ⟨vb,vo,none⟩) n c 43 6 (r3.flatMap blkC)::(RL++r2.map pieceP))))) w:=by
   have h7:=(Wd.join h6).nilVec 62 2
   rw [hT3] at h7 ⊢
   exact h7
  refine (Wd.join h8).pick ⟨[pieceP t2],List.perm_iff_count.2 fun e=>?_⟩
  have h9:=hcP e
  have h10:=hcL e
  have h11 : Ent.join (pvE T3::T3.ps.map phE) = pieceP T3:=rfl
  rw [h11]
  simp only [List.count_append,List.count_cons,List.count_nil] at h9 h10 ⊢
  omega
 repeat (first|refine g_then ?_|refine g_nil ?_|refine g_inBlock ?_)
 have hhp:=hasP_join hj
 exact g_next r3 ⟨hr3l,by rw [hnew]; exact hro.join hj,by rw [hnew,many_join hj]; exact hrm,by rw [hnew,← chainOf_some hro hcj]; exact hrc,hr3d⟩ (by rw [hnew,← hl]; omega) (by repeat (first|exact trivial|refine ⟨rfl,?_⟩)) (.refl _)
end Go.Proofs.YtpadjpplidlfeaaDoor

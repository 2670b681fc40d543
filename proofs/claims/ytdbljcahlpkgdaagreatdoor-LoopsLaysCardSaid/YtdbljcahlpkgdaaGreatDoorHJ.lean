/- Texts joined: TwoC ChkP RefU UMem UOpen Lim Slim. -/
import Derived.Test.YtdbljcahlpkgdaaGreatDoorGC
import Derived.Test.YtdbljcahlpkgdaaGreatDoorGD
import Derived.Test.YtdbljcahlpkgdaaGreatDoorGF
import Derived.Test.YtdbljcahlpkgdaaGreatDoorGG
import Derived.Test.YtdbljcahlpkgdaaGreatDoorGI
import Derived.Test.YtdbljcahlpkgdaaGreatDoorGX
import Derived.Test.YtdbljcahlpkgdaaGreatDoorHA
import Derived.Test.YtdbljcahlpkgdaaGreatDoorHC
import Derived.Test.YtdbljcahlpkgdaaGreatDoorHI
namespace Go.Proofs.YtdbljcahlpkgdaaGreatDoor
open Go Go.RowKit
class PullIs (e : Ent) (H : List Ent) (H' : outParam (List Ent)) : Prop where
 perm : H.Perm (e::H')
instance (priority:=high) (e : Ent) (H : List Ent) : PullIs e (e::H) H:=⟨.refl _⟩
class SubP (H1 H : List Ent) : Prop where
 sub : ∃ r,H.Perm (H1++r)
instance (priority:=high) (H : List Ent) : SubP [] H:=⟨⟨H,.refl _⟩⟩
instance (e : Ent) (H1 H H' : List Ent) [h : PullIs e H H'] [h2 : SubP H1 H'] : SubP (e::H1) H:=⟨by
 obtain ⟨r,hr⟩:=h2.sub
 exact ⟨r,h.perm.trans (hr.cons e)⟩⟩
theorem Wd.pick {S : Nat→Prop} {w0 w : World} {H H1 : List Ent} (h : Wd S w0 H w) (hs : SubP H1 H) : Wd S w0 H1 w:=by
 obtain ⟨r,hr⟩:=hs.sub
 exact (h.perm hr).sub (List.sublist_append_left _ _)
theorem at0_zero {α : Type} {f : α→Int} {l : List α} : (firstI (at0 l f) l.length).1 = 0 ↔ ∀ x ∈ l,f x = 0:=by
 refine ⟨at0_all,fun h=>?_⟩
 rw [firstI_none]
 intro j hj
 simp only [at0,List.getElem?_eq_getElem hj]
 exact h _ (List.getElem_mem _)
theorem firstI_zero' {f : Nat→Int} {n : Nat} : (firstI f n).1 = 0 ↔ ∀ j,j < n→f j = 0:=⟨firstI_zero,fun h=>by rw [firstI_none h]⟩
structure BodyOk (fs : List LFunc) (X : LFunc) : Prop where
 ends : ∀ B ∈ X.blocks,endErr X.blocks.length X.regs B = 0
 phis : ∀ (b : Nat) (B : LBlock),X.blocks[b]? = some B→∀ p ∈ B.phis,phiErr X.regs X.blocks b p = 0
 list : ∀ (b : Nat) (B : LBlock),X.blocks[b]? = some B→∀ x ∈ B.list,insErr fs X.regs x = 0
theorem body_zero {fs : List LFunc} {X : LFunc} : bodyErr fs X = 0 ↔ BodyOk fs X:=by
 unfold bodyErr
 constructor
 ·intro h
  split at h
  ·rename_i h1; exact absurd h h1
  rename_i h1
  have h2:=at0_zero.1 (by simpa using h1 : (firstI (at0 X.blocks (endErr X.blocks.length X.regs)) X.blocks.length).1 = 0)
  have h3:=firstI_zero'.1 h
  have h4 : ∀ (b : Nat) (B : LBlock),X.blocks[b]? = some B→(∀ p ∈ B.phis,phiErr X.regs X.blocks b p = 0)∧∀ x ∈ B.list,insErr fs X.regs x = 0:=fun b B hB=>by
   have:=h3 b (List.getElem?_eq_some_iff.1 hB).1
   simp only [blockErr,hB] at this
   split at this
   ·rename_i h5; exact absurd this h5
   rename_i h5
   exact ⟨at0_zero.1 (by simpa using h5),at0_zero.1 this⟩
  exact ⟨h2,fun b B hB=>(h4 b B hB).1,fun b B hB=>(h4 b B hB).2⟩
 ·intro h
  have h1:=at0_zero.2 h.ends
  rw [if_neg (by simp [h1])]
  refine firstI_zero'.2 fun b hb=>?_
  have hB : X.blocks[b]? = some X.blocks[b]:=List.getElem?_eq_getElem hb
  simp only [blockErr,hB]
  have h5:=at0_zero.2 (h.phis b _ hB)
  rw [if_neg (by simp [h5])]
  exact at0_zero.2 (h.list b _ hB)
structure CheckOk (u : LUnit) : Prop where
 globs : u.globals.length ≤ 10
 funcs : u.funcs.length ≤ 10
 glob : ∀ i,i < u.globals.length→globAt u.globals i = 0
 head : ∀ i,i < u.funcs.length→headAt u i = 0
 body : ∀ X ∈ u.funcs,BodyOk u.funcs X
 main : 0 ≤ mainAt u.funcs
 none : at0 u.funcs (·.params) (mainAt u.funcs).toNat ≤ 0
theorem check_zero {u : LUnit} : (checkL u).1 = 0 ↔ CheckOk u:=by
 unfold checkL
 constructor
 ·intro h
  split at h
  ·cases h
  rename_i h1
  split at h
  ·rename_i h2; exact absurd h h2
  rename_i h2
  split at h
  ·rename_i h3; exact absurd h h3
  rename_i h3
  split at h
  ·rename_i h4; exact absurd h h4
  rename_i h4
  split at h
  ·cases h
  rename_i h5
  split at h
  ·cases h
  rename_i h6
  refine ⟨by omega,by omega,firstI_zero'.1 (by simpa using h2),firstI_zero'.1 (by simpa using h3),fun X hX=>body_zero.1 (at0_zero.1 (by simpa using h4) X hX),by omega,by omega⟩
 ·intro h
  have h1:=h.globs
  have h2:=h.funcs
  rw [if_neg (by omega),if_neg (by simp [firstI_zero'.2 h.glob]),if_neg (by simp [firstI_zero'.2 h.head]),if_neg (by simp [at0_zero.2 fun X hX=>body_zero.2 (h.body X hX)]),if_neg (by have:=h.main; omega),if_neg (by have:=h.none; omega)]
end Go.Proofs.YtdbljcahlpkgdaaGreatDoor
namespace Go.Proofs.YtdbljcahlpkgdaaGreatDoor
open Go Go.RowKit
attribute [local irreducible] wpListIn Code.wpIn Exit.then Exit.inBlock bodyPost wpQuiet wpAnyIn wpAnyH bodyPostM oneH
set_option maxHeartbeats 8000000
theorem blockR_c (b : BRow) (w0 : World) (hA : BlkAt w0 b) (hB : b.Bd) :
  Ret Tryz.prog 50 [.agg #[.slice b.pa b.ps.length b.pc,.slice b.la b.xs.length b.lc,.int .i64 b.kind,.bool b.on.reg,.int .i64 b.on.n,.slice b.ta b.to.length b.tc]] w0 fun v w'=>∃ c : BRow,v = .agg #[.slice c.pa c.ps.length c.pc,.slice c.la c.xs.length c.lc,.int .i64 c.kind,.bool c.on.reg,.int .i64 c.on.n,.slice c.ta c.to.length c.tc]∧Wd NoS w0 [blkE c] w'∧(c.blk = b.blk∧c.Bd):=by
 obtain ⟨bpa,bpc,bps,bla,blc,bxs,bk,bon,bta,btc,bto⟩:=b
 have hBp:=hB.phis
 have hBx:=hB.list
 have hBt:=hB.to.1
 have hAp:=hA.phis
 have hAx:=hA.list
 have hAt:=hA.to
 simp only at hBp hBx hBt hAp hAx hAt
 refine ret_enter Tryz.func50 rfl Tryz.ntmps50 rfl (Wd.nil NoS w0) ?_
 repeat (first|refine g_then ?_|refine g_nil ?_|refine g_region ?_|refine g_seq ?_|refine g_box rfl fun _ _=>?_|refine g_alloc rfl fun _ _=>?_)
 rename_i p1 _ p2 _
 refine g_fix (L':=[(1,.pointer (some ⟨p1,0,none⟩)),(2,.pointer (some ⟨p2,0,none⟩))]) (by repeat (first|exact trivial|refine ⟨rfl,?_⟩)) (.refl _) ?_
 refine g_drawX [Ent.box p2 [.slice none 0 0,.slice none 0 0,.int .i64 0,.bool false,.int .i64 0,.slice none 0 0] 52,Ent.box p1 [.slice bpa bps.length bpc,.slice bla bxs.length blc,.int .i64 bk,.bool bon.reg,.int .i64 bon.n,.slice bta bto.length btc] 52] (fun _ : Nat × Option Addr × Nat=>True) (fun x=>[(3,.pointer (some ⟨x.1,0,none⟩)),(1,.pointer (some ⟨p1,0,none⟩)),(2,.pointer (some ⟨p2,0,none⟩))]) (fun x=>[Ent.box x.1 [.slice none 0 0,.slice none 0 0,.int .i64 bk,.bool bon.reg,.int .i64 bon.n,.slice x.2.1 bto.length x.2.2] 52,Ent.vec x.2.1 bto.length x.2.2 3 1 (bto.map (.int .i64)),Ent.box p2 [.slice none 0 0,.slice none 0 0,.int .i64 0,.bool false,.int .i64 0,.slice none 0 0] 52,Ent.box p1 [.slice bpa bps.length bpc,.slice bla bxs.length blc,.int .i64 bk,.bool bon.reg,.int .i64 bon.n,.slice bta bto.length btc] 52]) mixed (.refl _) ?_ fun x _=>?_
 ·skip
  refine h_take 0 rfl (by decide +kernel) (.refl _) ?_
  refine h_take 1 rfl (by decide +kernel) (.refl _) ?_
  refine h_take 2 rfl (by decide +kernel) (.refl _) ?_
  refine h_take 3 rfl (by decide +kernel) (.refl _) ?_
  refine h_take 4 rfl (by decide +kernel) (.refl _) ?_
  refine h_take 5 rfl (by decide +kernel) (.refl _) ?_
  refine h_take 7 rfl (by decide +kernel) (.refl _) ?_
  refine h_take 8 rfl (by decide +kernel) (.refl _) ?_
  refine h_take 9 rfl (by decide +kernel) (.refl _) ?_
  refine h_two 6 13 (by decide +kernel) ?_ ?_
  ·skip
   refine o_build0 6 rfl (by repeat (first|exact List.Sublist.refl _|refine List.Sublist.cons _ ?_)) fun _ _=>?_
   refine h_two 10 13 (by decide +kernel) ?_ ?_
   ·skip
    (refine o_appendF 10 rfl rfl bto (V:=IntV) (fun x=>[.int .i64 x]) (fun _ _ _ h=>h.1) (fun _=>rfl) (fun y u hu=>by simp only [List.mem_singleton] at hu; subst hu; rfl) (fun w hw=>hAt.keep keeps_int hw.chg) (by omega) (by omega) (fun _=>by simp only [List.set_cons_zero,List.set_cons_succ]; repeat (first|exact List.Sublist.refl _|refine List.Sublist.cons _ ?_)) fun _ _=>?_; rw [flat_one,List.nil_append,Nat.zero_add]; simp only [List.set_cons_zero,List.set_cons_succ])
    refine h_take 11 rfl (by decide +kernel) (by repeat (first|exact List.Sublist.refl _|refine List.Sublist.cons _ ?_)) ?_
    refine h_take 12 rfl (by decide +kernel) (by repeat (first|exact List.Sublist.refl _|refine List.Sublist.cons _ ?_)) ?_
    refine h_one 13 (by decide +kernel) ?_
    refine o_alloc 13 rfl (by repeat (first|exact List.Sublist.refl _|refine List.Sublist.cons _ ?_)) fun _ _=>?_
    refine h_storeAgg 14 (by decide +kernel) (by repeat (first|exact List.Sublist.refl _|refine List.Sublist.cons _ ?_)) ?_
    refine h_end (by decide +kernel) ?_
    refine g_sel [0,1,2,3] (by decide) (g_mem (_,_,_) trivial (by repeat (first|exact trivial|refine ⟨rfl,?_⟩)) (.refl _))
   ·skip
    refine o_alloc 13 rfl (by repeat (first|exact List.Sublist.refl _|refine List.Sublist.cons _ ?_)) fun _ _=>?_
    refine h_one 10 (by decide +kernel) ?_
    (refine o_appendF 10 rfl rfl bto (V:=IntV) (fun x=>[.int .i64 x]) (fun _ _ _ h=>h.1) (fun _=>rfl) (fun y u hu=>by simp only [List.mem_singleton] at hu; subst hu; rfl) (fun w hw=>hAt.keep keeps_int hw.chg) (by omega) (by omega) (fun _=>by simp only [List.set_cons_zero,List.set_cons_succ]; repeat (first|exact List.Sublist.refl _|refine List.Sublist.cons _ ?_)) fun _ _=>?_; rw [flat_one,List.nil_append,Nat.zero_add]; simp only [List.set_cons_zero,List.set_cons_succ])
    refine h_take 11 rfl (by decide +kernel) (by repeat (first|exact List.Sublist.refl _|refine List.Sublist.cons _ ?_)) ?_
    refine h_take 12 rfl (by decide +kernel) (by repeat (first|exact List.Sublist.refl _|refine List.Sublist.cons _ ?_)) ?_
    refine h_storeAgg 14 (by decide +kernel) (by repeat (first|exact List.Sublist.refl _|refine List.Sublist.cons _ ?_)) ?_
    refine h_end (by decide +kernel) ?_
    refine g_sel [0,1,2,3] (by decide) (g_mem (_,_,_) trivial (by repeat (first|exact trivial|refine ⟨rfl,?_⟩)) (.refl _))
  ·skip
   refine o_alloc 13 rfl (by repeat (first|exact List.Sublist.refl _|refine List.Sublist.cons _ ?_)) fun _ _=>?_
   refine h_one 6 (by decide +kernel) ?_
   refine o_build0 6 rfl (by repeat (first|exact List.Sublist.refl _|refine List.Sublist.cons _ ?_)) fun _ _=>?_
   refine h_one 10 (by decide +kernel) ?_
   (refine o_appendF 10 rfl rfl bto (V:=IntV) (fun x=>[.int .i64 x]) (fun _ _ _ h=>h.1) (fun _=>rfl) (fun y u hu=>by simp only [List.mem_singleton] at hu; subst hu; rfl) (fun w hw=>hAt.keep keeps_int hw.chg) (by omega) (by omega) (fun _=>by simp only [List.set_cons_zero,List.set_cons_succ]; repeat (first|exact List.Sublist.refl _|refine List.Sublist.cons _ ?_)) fun _ _=>?_; rw [flat_one,List.nil_append,Nat.zero_add]; simp only [List.set_cons_zero,List.set_cons_succ])
   refine h_take 11 rfl (by decide +kernel) (by repeat (first|exact List.Sublist.refl _|refine List.Sublist.cons _ ?_)) ?_
   refine h_take 12 rfl (by decide +kernel) (by repeat (first|exact List.Sublist.refl _|refine List.Sublist.cons _ ?_)) ?_
   refine h_storeAgg 14 (by decide +kernel) (by repeat (first|exact List.Sublist.refl _|refine List.Sublist.cons _ ?_)) ?_
   refine h_end (by decide +kernel) ?_
   refine g_sel [1,0,2,3] (by decide) (g_mem (_,_,_) trivial (by repeat (first|exact trivial|refine ⟨rfl,?_⟩)) (.refl _))
 obtain ⟨p3,ta,tc⟩:=x
 simp only
 repeat (first|refine g_op rfl ?_|refine g_then ?_|refine g_nil ?_|refine g_region ?_|refine g_seq ?_|refine g_block ?_)
 refine g_nilVec 86 2 ?_
 refine g_loop (fun (x : Option Addr × Nat × List PRow)=>x.2.2.length ≤ bps.length∧x.2.2.map PRow.phi = (bps.take x.2.2.length).map PRow.phi) (fun x=>[(4,.int .i64 x.2.2.length),(3,.pointer (some ⟨p3,0,none⟩)),(1,.pointer (some ⟨p1,0,none⟩)),(2,.pointer (some ⟨p2,0,none⟩))])
  (fun x=>Ent.vec x.1 x.2.2.length x.2.1 86 2 (x.2.2.flatMap phiC)::Ent.box p3 [.slice x.1 x.2.2.length x.2.1,.slice none 0 0,.int .i64 bk,.bool bon.reg,.int .i64 bon.n,.slice ta bto.length tc] 52::Ent.vec ta bto.length tc 3 1 (bto.map (.int .i64))::Ent.box p2 [.slice none 0 0,.slice none 0 0,.int .i64 0,.bool false,.int .i64 0,.slice none 0 0] 52::Ent.box p1 [.slice bpa bps.length bpc,.slice bla bxs.length blc,.int .i64 bk,.bool bon.reg,.int .i64 bon.n,.slice bta bto.length btc] 52::x.2.2.map phE) (fun x=>bps.length - x.2.2.length) (none,0,[]) ⟨Nat.zero_le _,rfl⟩ (g_done (by repeat (first|exact trivial|refine ⟨rfl,?_⟩)) (by simp)) fun x ⟨hi,hpm⟩=>?_
 obtain ⟨qa,qc,ps⟩:=x
 simp only at hi hpm ⊢
 repeat (first|refine g_op rfl ?_|refine g_then ?_|refine g_nil ?_|refine g_region ?_|refine g_seq ?_)
 refine g_cond (fun h2=>?_) (fun h2=>?_)
 ·have hjl : ps.length < bps.length:=by simpa using h2
  generalize hjL : ps.length = j at *
  obtain ⟨p,hp⟩ : ∃ p,bps[j]? = some p:=⟨_,List.getElem?_eq_getElem hjl⟩
  have hpm':=List.mem_of_getElem? hp
  obtain ⟨hpd,hpv⟩:=hA.phi p hpm'
  obtain ⟨_,hpl,_⟩:=hB.phi p hpm'
  obtain ⟨_,_,_,bb,bo,hba,hbel⟩:=hAp.at
  have hadb : AddrIs bpa bb bo:=⟨hba (List.ne_nil_of_mem hpm')⟩
  have hlj : LtIs j bps.length:=⟨hjl⟩
  obtain ⟨_,hcp,rfl⟩:=hbel j p hp
  obtain ⟨pd,pla,plc,pl⟩:=p
  simp only [phiC] at hpd hpv hpl hcp
  have hcip : CellsIs w0 bb (bo + j * 2) [.int .i64 pd,.slice pla pl.length plc]:=⟨hcp⟩
  repeat (first|refine g_then ?_|refine g_seq ?_|refine g_block ?_|refine g_skip ?_)
  refine g_drawX (Ent.vec ta bto.length tc 3 1 (bto.map (.int .i64))::Ent.box p2 [.slice none 0 0,.slice none 0 0,.int .i64 0,.bool false,.int .i64 0,.slice none 0 0] 52::Ent.box p1 [.slice bpa bps.length bpc,.slice bla bxs.length blc,.int .i64 bk,.bool bon.reg,.int .i64 bon.n,.slice bta bto.length btc] 52::ps.map phE) (fun _ : Option Addr × Nat × Option Addr × Nat=>True) (fun x=>[(4,.int .i64 j),(3,.pointer (some ⟨p3,0,none⟩)),(1,.pointer (some ⟨p1,0,none⟩)),(2,.pointer (some ⟨p2,0,none⟩))]) (fun x=>Ent.vec x.2.2.1 (j + 1) x.2.2.2 86 2 ((ps++[(⟨pd,x.1,x.2.1,pl⟩ : PRow)]).flatMap phiC)::Ent.box p3 [.slice x.2.2.1 (j + 1 : Nat) x.2.2.2,.slice none 0 0,.int .i64 bk,.bool bon.reg,.int .i64 bon.n,.slice ta bto.length tc] 52::Ent.vec ta bto.length tc 3 1 (bto.map (.int .i64))::Ent.box p2 [.slice none 0 0,.slice none 0 0,.int .i64 0,.bool false,.int .i64 0,.slice none 0 0] 52::Ent.box p1 [.slice bpa bps.length bpc,.slice bla bxs.length blc,.int .i64 bk,.bool bon.reg,.int .i64 bon.n,.slice bta bto.length btc] 52::(ps++[(⟨pd,x.1,x.2.1,pl⟩ : PRow)]).map phE) mixed (by repeat (first|exact List.Sublist.refl _|refine List.Sublist.cons _ ?_)) ?_ fun x _=>?_
  ·skip
   refine h_take 0 rfl (by decide +kernel) (by repeat (first|exact List.Sublist.refl _|refine List.Sublist.cons _ ?_)) ?_
   refine h_take 2 rfl (by decide +kernel) (by repeat (first|exact List.Sublist.refl _|refine List.Sublist.cons _ ?_)) ?_
   refine h_take 3 rfl (by decide +kernel) (by repeat (first|exact List.Sublist.refl _|refine List.Sublist.cons _ ?_)) ?_
   refine h_take 4 rfl (by decide +kernel) (by repeat (first|exact List.Sublist.refl _|refine List.Sublist.cons _ ?_)) ?_
   refine h_take 5 rfl (by decide +kernel) (by repeat (first|exact List.Sublist.refl _|refine List.Sublist.cons _ ?_)) ?_
   refine h_take 6 rfl (by decide +kernel) (by repeat (first|exact List.Sublist.refl _|refine List.Sublist.cons _ ?_)) ?_
   refine h_take 7 rfl (by decide +kernel) (by repeat (first|exact List.Sublist.refl _|refine List.Sublist.cons _ ?_)) ?_
   refine h_take 9 rfl (by decide +kernel) (by repeat (first|exact List.Sublist.refl _|refine List.Sublist.cons _ ?_)) ?_
   refine h_take 10 rfl (by decide +kernel) (by repeat (first|exact List.Sublist.refl _|refine List.Sublist.cons _ ?_)) ?_
   refine h_take 11 rfl (by decide +kernel) (by repeat (first|exact List.Sublist.refl _|refine List.Sublist.cons _ ?_)) ?_
   refine h_take 12 rfl (by decide +kernel) (by repeat (first|exact List.Sublist.refl _|refine List.Sublist.cons _ ?_)) ?_
   refine h_take 13 rfl (by decide +kernel) (by repeat (first|exact List.Sublist.refl _|refine List.Sublist.cons _ ?_)) ?_
   refine h_take 14 rfl (by decide +kernel) (by repeat (first|exact List.Sublist.refl _|refine List.Sublist.cons _ ?_)) ?_
   refine h_two 1 8 (by decide +kernel) ?_ ?_
   ·skip
    refine o_op 1 rfl (by repeat (first|exact List.Sublist.refl _|refine List.Sublist.cons _ ?_)) ?_
    refine h_one 8 (by decide +kernel) ?_
    refine o_build0 8 rfl (by repeat (first|exact List.Sublist.refl _|refine List.Sublist.cons _ ?_)) fun _ _=>?_
    refine h_one 15 (by decide +kernel) ?_
    (refine o_appendF 15 (k:=0) rfl rfl pl (V:=ValC) vlC (fun _ _ _ h=>h) (fun _=>rfl) (fun y u hu=>by simp only [vlC,List.mem_cons,List.not_mem_nil,or_false] at hu; rcases hu with rfl|rfl <;> rfl) (fun w hw=>(val_slC hpv).keep (fun _ _ _ _ _ h=>h) hw.chg) (by omega) (by omega) (fun _=>by simp only [List.set_cons_zero,List.set_cons_succ]; repeat (first|exact List.Sublist.refl _|refine List.Sublist.cons _ ?_)) fun na nc=>?_; rw [List.nil_append,Nat.zero_add]; simp only [List.set_cons_zero,List.set_cons_succ])
    refine h_take 16 rfl (by decide +kernel) (by repeat (first|exact List.Sublist.refl _|refine List.Sublist.cons _ ?_)) ?_
    refine h_one 17 (by decide +kernel) ?_
    refine o_build1 17 rfl (by decide +kernel) (by repeat (first|exact List.Sublist.refl _|refine List.Sublist.cons _ ?_)) fun _ _=>?_
    refine h_append 18 2 rfl rfl (by decide +kernel) (by omega) (by omega) (by decide +kernel) (fun _=>by simp only [List.set_cons_zero,List.set_cons_succ]; repeat (first|exact List.Sublist.refl _|refine List.Sublist.cons _ ?_)) fun ma mc=>?_
    simp only [List.set_cons_zero,List.set_cons_succ]
    refine h_take 19 rfl (by decide +kernel) (by repeat (first|exact List.Sublist.refl _|refine List.Sublist.cons _ ?_)) ?_
    refine h_store 20 (by decide +kernel) (by repeat (first|exact List.Sublist.refl _|refine List.Sublist.cons _ ?_)) ?_
    refine h_end (by decide +kernel) ?_
    refine g_fix (L':=[(4,.int .i64 j),(3,.pointer (some ⟨p3,0,none⟩)),(1,.pointer (some ⟨p1,0,none⟩)),(2,.pointer (some ⟨p2,0,none⟩))]) (by repeat (first|exact trivial|refine ⟨rfl,?_⟩)) (.cons _ (.refl _)) ?_
    refine g_permH (List.perm_append_comm (l₁:=[_])) ?_
    refine g_eqH (H1:=Ent.vec ma (j + 1) mc 86 2 ((ps++[(⟨pd,na,nc,pl⟩ : PRow)]).flatMap phiC)::Ent.box p3 [.slice ma (j + 1 : Nat) mc,.slice none 0 0,.int .i64 bk,.bool bon.reg,.int .i64 bon.n,.slice ta bto.length tc] 52::Ent.vec ta bto.length tc 3 1 (bto.map (.int .i64))::Ent.box p2 [.slice none 0 0,.slice none 0 0,.int .i64 0,.bool false,.int .i64 0,.slice none 0 0] 52::Ent.box p1 [.slice bpa bps.length bpc,.slice bla bxs.length blc,.int .i64 bk,.bool bon.reg,.int .i64 bon.n,.slice bta bto.length btc] 52::(ps++[(⟨pd,na,nc,pl⟩ : PRow)]).map phE) (by simp only [List.cons_append,List.map_append,List.map_cons,List.map_nil,List.flatMap_append,List.flatMap_cons,List.flatMap_nil,List.append_nil,phE,phiC]) ?_
    exact g_mem (na,nc,ma,mc) trivial (by repeat (first|exact trivial|refine ⟨rfl,?_⟩)) (.refl _)
   ·skip
    refine o_build0 8 rfl (by repeat (first|exact List.Sublist.refl _|refine List.Sublist.cons _ ?_)) fun _ _=>?_
    refine h_two 1 15 (by decide +kernel) ?_ ?_
    ·skip
     refine o_op 1 rfl (by repeat (first|exact List.Sublist.refl _|refine List.Sublist.cons _ ?_)) ?_
     refine h_one 15 (by decide +kernel) ?_
     (refine o_appendF 15 (k:=0) rfl rfl pl (V:=ValC) vlC (fun _ _ _ h=>h) (fun _=>rfl) (fun y u hu=>by simp only [vlC,List.mem_cons,List.not_mem_nil,or_false] at hu; rcases hu with rfl|rfl <;> rfl) (fun w hw=>(val_slC hpv).keep (fun _ _ _ _ _ h=>h) hw.chg) (by omega) (by omega) (fun _=>by simp only [List.set_cons_zero,List.set_cons_succ]; repeat (first|exact List.Sublist.refl _|refine List.Sublist.cons _ ?_)) fun na nc=>?_; rw [List.nil_append,Nat.zero_add]; simp only [List.set_cons_zero,List.set_cons_succ])
     refine h_take 16 rfl (by decide +kernel) (by repeat (first|exact List.Sublist.refl _|refine List.Sublist.cons _ ?_)) ?_
     refine h_one 17 (by decide +kernel) ?_
     refine o_build1 17 rfl (by decide +kernel) (by repeat (first|exact List.Sublist.refl _|refine List.Sublist.cons _ ?_)) fun _ _=>?_
     refine h_append 18 2 rfl rfl (by decide +kernel) (by omega) (by omega) (by decide +kernel) (fun _=>by simp only [List.set_cons_zero,List.set_cons_succ]; repeat (first|exact List.Sublist.refl _|refine List.Sublist.cons _ ?_)) fun ma mc=>?_
     simp only [List.set_cons_zero,List.set_cons_succ]
     refine h_take 19 rfl (by decide +kernel) (by repeat (first|exact List.Sublist.refl _|refine List.Sublist.cons _ ?_)) ?_
     refine h_store 20 (by decide +kernel) (by repeat (first|exact List.Sublist.refl _|refine List.Sublist.cons _ ?_)) ?_
     refine h_end (by decide +kernel) ?_
     refine g_fix (L':=[(4,.int .i64 j),(3,.pointer (some ⟨p3,0,none⟩)),(1,.pointer (some ⟨p1,0,none⟩)),(2,.pointer (some ⟨p2,0,none⟩))]) (by repeat (first|exact trivial|refine ⟨rfl,?_⟩)) (.cons _ (.refl _)) ?_
     refine g_permH (List.perm_append_comm (l₁:=[_])) ?_
     refine g_eqH (H1:=Ent.vec ma (j + 1) mc 86 2 ((ps++[(⟨pd,na,nc,pl⟩ : PRow)]).flatMap phiC)::Ent.box p3 [.slice ma (j + 1 : Nat) mc,.slice none 0 0,.int .i64 bk,.bool bon.reg,.int .i64 bon.n,.slice ta bto.length tc] 52::Ent.vec ta bto.length tc 3 1 (bto.map (.int .i64))::Ent.box p2 [.slice none 0 0,.slice none 0 0,.int .i64 0,.bool false,.int .i64 0,.slice none 0 0] 52::Ent.box p1 [.slice bpa bps.length bpc,.slice bla bxs.length blc,.int .i64 bk,.bool bon.reg,.int .i64 bon.n,.slice bta bto.length btc] 52::(ps++[(⟨pd,na,nc,pl⟩ : PRow)]).map phE) (by simp only [List.cons_append,List.map_append,List.map_cons,List.map_nil,List.flatMap_append,List.flatMap_cons,List.flatMap_nil,List.append_nil,phE,phiC]) ?_
     exact g_mem (na,nc,ma,mc) trivial (by repeat (first|exact trivial|refine ⟨rfl,?_⟩)) (.refl _)
    ·skip
     (refine o_appendF 15 (k:=0) rfl rfl pl (V:=ValC) vlC (fun _ _ _ h=>h) (fun _=>rfl) (fun y u hu=>by simp only [vlC,List.mem_cons,List.not_mem_nil,or_false] at hu; rcases hu with rfl|rfl <;> rfl) (fun w hw=>(val_slC hpv).keep (fun _ _ _ _ _ h=>h) hw.chg) (by omega) (by omega) (fun _=>by simp only [List.set_cons_zero,List.set_cons_succ]; repeat (first|exact List.Sublist.refl _|refine List.Sublist.cons _ ?_)) fun na nc=>?_; rw [List.nil_append,Nat.zero_add]; simp only [List.set_cons_zero,List.set_cons_succ])
     refine h_take 16 rfl (by decide +kernel) (by repeat (first|exact List.Sublist.refl _|refine List.Sublist.cons _ ?_)) ?_
     refine h_two 1 17 (by decide +kernel) ?_ ?_
     ·skip
      refine o_op 1 rfl (by repeat (first|exact List.Sublist.refl _|refine List.Sublist.cons _ ?_)) ?_
      refine h_one 17 (by decide +kernel) ?_
      refine o_build1 17 rfl (by decide +kernel) (by repeat (first|exact List.Sublist.refl _|refine List.Sublist.cons _ ?_)) fun _ _=>?_
      refine h_append 18 2 rfl rfl (by decide +kernel) (by omega) (by omega) (by decide +kernel) (fun _=>by simp only [List.set_cons_zero,List.set_cons_succ]; repeat (first|exact List.Sublist.refl _|refine List.Sublist.cons _ ?_)) fun ma mc=>?_
      simp only [List.set_cons_zero,List.set_cons_succ]
      refine h_take 19 rfl (by decide +kernel) (by repeat (first|exact List.Sublist.refl _|refine List.Sublist.cons _ ?_)) ?_
      refine h_store 20 (by decide +kernel) (by repeat (first|exact List.Sublist.refl _|refine List.Sublist.cons _ ?_)) ?_
      refine h_end (by decide +kernel) ?_
      refine g_fix (L':=[(4,.int .i64 j),(3,.pointer (some ⟨p3,0,none⟩)),(1,.pointer (some ⟨p1,0,none⟩)),(2,.pointer (some ⟨p2,0,none⟩))]) (by repeat (first|exact trivial|refine ⟨rfl,?_⟩)) (.cons _ (.refl _)) ?_
      refine g_permH (List.perm_append_comm (l₁:=[_])) ?_
      refine g_eqH (H1:=Ent.vec ma (j + 1) mc 86 2 ((ps++[(⟨pd,na,nc,pl⟩ : PRow)]).flatMap phiC)::Ent.box p3 [.slice ma (j + 1 : Nat) mc,.slice none 0 0,.int .i64 bk,.bool bon.reg,.int .i64 bon.n,.slice ta bto.length tc] 52::Ent.vec ta bto.length tc 3 1 (bto.map (.int .i64))::Ent.box p2 [.slice none 0 0,.slice none 0 0,.int .i64 0,.bool false,.int .i64 0,.slice none 0 0] 52::Ent.box p1 [.slice bpa bps.length bpc,.slice bla bxs.length blc,.int .i64 bk,.bool bon.reg,.int .i64 bon.n,.slice bta bto.length btc] 52::(ps++[(⟨pd,na,nc,pl⟩ : PRow)]).map phE) (by simp only [List.cons_append,List.map_append,List.map_cons,List.map_nil,List.flatMap_append,List.flatMap_cons,List.flatMap_nil,List.append_nil,phE,phiC]) ?_
      exact g_mem (na,nc,ma,mc) trivial (by repeat (first|exact trivial|refine ⟨rfl,?_⟩)) (.refl _)
     ·skip
      refine o_build1 17 rfl (by decide +kernel) (by repeat (first|exact List.Sublist.refl _|refine List.Sublist.cons _ ?_)) fun _ _=>?_
      refine h_one 1 (by decide +kernel) ?_
      refine o_op 1 rfl (by repeat (first|exact List.Sublist.refl _|refine List.Sublist.cons _ ?_)) ?_
      refine h_append 18 2 rfl rfl (by decide +kernel) (by omega) (by omega) (by decide +kernel) (fun _=>by simp only [List.set_cons_zero,List.set_cons_succ]; repeat (first|exact List.Sublist.refl _|refine List.Sublist.cons _ ?_)) fun ma mc=>?_
      simp only [List.set_cons_zero,List.set_cons_succ]
      refine h_take 19 rfl (by decide +kernel) (by repeat (first|exact List.Sublist.refl _|refine List.Sublist.cons _ ?_)) ?_
      refine h_store 20 (by decide +kernel) (by repeat (first|exact List.Sublist.refl _|refine List.Sublist.cons _ ?_)) ?_
      refine h_end (by decide +kernel) ?_
      refine g_fix (L':=[(4,.int .i64 j),(3,.pointer (some ⟨p3,0,none⟩)),(1,.pointer (some ⟨p1,0,none⟩)),(2,.pointer (some ⟨p2,0,none⟩))]) (by repeat (first|exact trivial|refine ⟨rfl,?_⟩)) (.cons _ (.refl _)) ?_
      refine g_permH (List.perm_append_comm (l₁:=[_])) ?_
      refine g_eqH (H1:=Ent.vec ma (j + 1) mc 86 2 ((ps++[(⟨pd,na,nc,pl⟩ : PRow)]).flatMap phiC)::Ent.box p3 [.slice ma (j + 1 : Nat) mc,.slice none 0 0,.int .i64 bk,.bool bon.reg,.int .i64 bon.n,.slice ta bto.length tc] 52::Ent.vec ta bto.length tc 3 1 (bto.map (.int .i64))::Ent.box p2 [.slice none 0 0,.slice none 0 0,.int .i64 0,.bool false,.int .i64 0,.slice none 0 0] 52::Ent.box p1 [.slice bpa bps.length bpc,.slice bla bxs.length blc,.int .i64 bk,.bool bon.reg,.int .i64 bon.n,.slice bta bto.length btc] 52::(ps++[(⟨pd,na,nc,pl⟩ : PRow)]).map phE) (by simp only [List.cons_append,List.map_append,List.map_cons,List.map_nil,List.flatMap_append,List.flatMap_cons,List.flatMap_nil,List.append_nil,phE,phiC]) ?_
      exact g_mem (na,nc,ma,mc) trivial (by repeat (first|exact trivial|refine ⟨rfl,?_⟩)) (.refl _)
  obtain ⟨na,nc,ma,mc⟩:=x
  simp only
  repeat (first|refine g_op rfl ?_|refine g_then ?_|refine g_nil ?_|refine g_region ?_|refine g_opS rfl ?_|refine g_inBlock ?_|refine g_add rfl (by omega) (by omega) ?_)
  have hl1 : (ps++[(⟨pd,na,nc,pl⟩ : PRow)]).length = j + 1:=by simp [hjL]
  rw [show (j : Int) + 1 = ((j + 1 : Nat) : Int) by omega,← hl1]
  refine g_next (ma,mc,ps++[(⟨pd,na,nc,pl⟩ : PRow)]) ⟨by simp only [hl1]; omega,?_⟩ (by simp only [hl1]; omega) (by repeat (first|exact trivial|refine ⟨rfl,?_⟩)) (.refl _)
  simp only
  rw [hl1,List.take_add_one,hp,List.map_append,List.map_append,hpm]; rfl
 have hge : ps.length = bps.length:=by have:=h2; simp at this; omega
 rw [hge,List.take_length] at hpm
 repeat (first|refine g_op rfl ?_|refine g_then ?_|refine g_nil ?_|refine g_region ?_|refine g_seq ?_|refine g_block ?_|refine g_exit ?_|refine g_thenExit ?_|refine g_exitHere ?_)
 refine g_nilVec 89 8 ?_
 refine g_permH (List.Perm.cons _ (List.Perm.swap _ _ _)) ?_
 refine g_loop (fun (x : Option Addr × Nat × List IRow)=>x.2.2.length ≤ bxs.length∧x.2.2.map (·.x) = (bxs.take x.2.2.length).map (·.x)) (fun x=>[(5,.int .i64 x.2.2.length),(3,.pointer (some ⟨p3,0,none⟩)),(1,.pointer (some ⟨p1,0,none⟩)),(2,.pointer (some ⟨p2,0,none⟩))])
  (fun x=>Ent.vec x.1 x.2.2.length x.2.1 89 8 (x.2.2.flatMap rowC)::Ent.box p3 [.slice qa ps.length qc,.slice x.1 x.2.2.length x.2.1,.int .i64 bk,.bool bon.reg,.int .i64 bon.n,.slice ta bto.length tc] 52::Ent.vec qa ps.length qc 86 2 (ps.flatMap phiC)::Ent.vec ta bto.length tc 3 1 (bto.map (.int .i64))::Ent.box p2 [.slice none 0 0,.slice none 0 0,.int .i64 0,.bool false,.int .i64 0,.slice none 0 0] 52::Ent.box p1 [.slice bpa bps.length bpc,.slice bla bxs.length blc,.int .i64 bk,.bool bon.reg,.int .i64 bon.n,.slice bta bto.length btc] 52::(ps.map phE++x.2.2.map roE)) (fun x=>bxs.length - x.2.2.length) (none,0,[]) ⟨Nat.zero_le _,rfl⟩ (g_done (by repeat (first|exact trivial|refine ⟨rfl,?_⟩)) (by simp)) fun x ⟨hi,him⟩=>?_
 obtain ⟨ra,rc,is⟩:=x
 simp only at hi him ⊢
 repeat (first|refine g_op rfl ?_|refine g_then ?_|refine g_nil ?_|refine g_region ?_|refine g_seq ?_)
 refine g_cond (fun h3=>?_) (fun h3=>?_)
 ·have hjl : is.length < bxs.length:=by simpa using h3
  generalize hjL : is.length = j at *
  obtain ⟨y,hy⟩ : ∃ y,bxs[j]? = some y:=⟨_,List.getElem?_eq_getElem hjl⟩
  have hym:=List.mem_of_getElem? hy
  obtain ⟨_,hyv⟩:=hA.ins y hym
  obtain ⟨_,hyl,_⟩:=hB.ins y hym
  obtain ⟨_,_,_,bb,bo,hba,hbel⟩:=hAx.at
  have hadb : AddrIs bla bb bo:=⟨hba (List.ne_nil_of_mem hym)⟩
  have hlj : LtIs j bxs.length:=⟨hjl⟩
  obtain ⟨_,hcy,rfl⟩:=hbel j y hy
  obtain ⟨yx,yla,ylc⟩:=y
  simp only [rowC] at hyv hyl hcy
  have hciy : CellsIs w0 bb (bo + j * 8) _:=⟨hcy⟩
  repeat (first|refine g_op rfl ?_|refine g_then ?_|refine g_nil ?_|refine g_region ?_|refine g_seq ?_|refine g_alloc rfl fun _ _=>?_|refine g_storeAgg ?_|refine g_block ?_|refine g_skip ?_)
  rename_i p6 _
  refine g_build0 rfl fun eb _=>?_
  repeat (refine g_op rfl ?_)
  refine g_appendF rfl rfl yx.args vlC (fun _ _ _ h=>h) (fun _=>rfl) (fun y u hu=>by simp only [vlC,List.mem_cons,List.not_mem_nil,or_false] at hu; rcases hu with rfl|rfl <;> rfl) (fun w hw=>(val_slC hyv).keep (fun _ _ _ _ _ h=>h) hw.chg) (by omega) (by omega) fun na nc=>?_
  rw [List.nil_append,Nat.zero_add]
  repeat (first|refine g_op rfl ?_|refine g_then ?_|refine g_nil ?_|refine g_region ?_|refine g_store ?_|refine g_build1 rfl rfl fun _ _=>?_)
  refine g_append rfl rfl (by omega) (by omega) fun ma mc=>?_
  repeat (first|refine g_op rfl ?_|refine g_then ?_|refine g_nil ?_|refine g_region ?_|refine g_opS rfl ?_|refine g_store ?_|refine g_inBlock ?_|refine g_add rfl (by omega) (by omega) ?_)
  have hl1 : (is++[(⟨yx,na,nc⟩ : IRow)]).length = j + 1:=by simp [hjL]
  refine g_fix (L':=[(5,.int .i64 ((j : Int) + 1)),(3,.pointer (some ⟨p3,0,none⟩)),(1,.pointer (some ⟨p1,0,none⟩)),(2,.pointer (some ⟨p2,0,none⟩))]) (by repeat (first|exact trivial|refine ⟨rfl,?_⟩)) (.cons _ (.cons_cons _ (.cons _ (.refl _)))) ?_
  refine g_permH (List.perm_append_comm (l₁:=[_])) ?_
  refine g_eqH (H1:=Ent.vec ma (is++[(⟨yx,na,nc⟩ : IRow)]).length mc 89 8 ((is++[(⟨yx,na,nc⟩ : IRow)]).flatMap rowC)::Ent.box p3 [.slice qa ps.length qc,.slice ma (is++[(⟨yx,na,nc⟩ : IRow)]).length mc,.int .i64 bk,.bool bon.reg,.int .i64 bon.n,.slice ta bto.length tc] 52::Ent.vec qa ps.length qc 86 2 (ps.flatMap phiC)::Ent.vec ta bto.length tc 3 1 (bto.map (.int .i64))::Ent.box p2 [.slice none 0 0,.slice none 0 0,.int .i64 0,.bool false,.int .i64 0,.slice none 0 0] 52::Ent.box p1 [.slice bpa bps.length bpc,.slice bla bxs.length blc,.int .i64 bk,.bool bon.reg,.int .i64 bon.n,.slice bta bto.length btc] 52::(ps.map phE++(is++[(⟨yx,na,nc⟩ : IRow)]).map roE)) (by rw [hl1]; simp only [List.cons_append,List.map_append,List.map_cons,List.map_nil,List.flatMap_append,List.flatMap_cons,List.flatMap_nil,List.append_nil,List.append_assoc,roE,rowC]) ?_
  rw [show (j : Int) + 1 = ((j + 1 : Nat) : Int) by omega,← hl1]
  refine g_next (ma,mc,is++[(⟨yx,na,nc⟩ : IRow)]) ⟨by simp only [hl1]; omega,?_⟩ (by simp only [hl1]; omega) (by repeat (first|exact trivial|refine ⟨rfl,?_⟩)) (.refl _)
  simp only
  rw [hl1,List.take_add_one,hy,List.map_append,List.map_append,him]; rfl
 have hgi : is.length = bxs.length:=by have:=h3; simp at this; omega
 rw [hgi,List.take_length] at him
 repeat (first|refine g_op rfl ?_|refine g_then ?_|refine g_nil ?_|refine g_region ?_|refine g_seq ?_|refine g_storeAgg ?_|refine g_exit ?_|refine g_thenExit ?_|refine g_exitHere ?_|refine g_ret ?_)
 refine g_retC rfl fun w hw=>⟨(⟨qa,qc,ps,ra,rc,is,bk,bon,ta,tc,bto⟩ : BRow),rfl,?_,?_⟩
 ·have h1 : Wd NoS w0 (blkPs (⟨qa,qc,ps,ra,rc,is,bk,bon,ta,tc,bto⟩ : BRow)++[]) w:=by
   rw [List.append_nil]
   have h2:=hw.sub (H':=Ent.vec ra is.length rc 89 8 (is.flatMap rowC)::Ent.vec qa ps.length qc 86 2 (ps.flatMap phiC)::Ent.vec ta bto.length tc 3 1 (bto.map (.int .i64))::(ps.map phE++is.map roE)) (.cons_cons _ (.cons _ (.cons_cons _ (.cons_cons _ (.cons _ (.cons _ (.refl _)))))))
   exact h2.perm (List.Perm.swap _ _ _)
  exact h1.join
 ·refine ⟨by simp only [BRow.blk,hpm,him],hB.kind,hB.on,by simp only; omega,fun p hp=>?_,by simp only; omega,fun y hy=>?_,hB.to⟩
  ·have : PRow.phi p ∈ bps.map PRow.phi:=by rw [← hpm]; exact List.mem_map.2 ⟨p,hp,rfl⟩
   obtain ⟨p',hp',e⟩:=List.mem_map.1 this
   have:=hB.phi p' hp'
   simp only [PRow.phi,LPhi.mk.injEq] at e
   rw [e.1,e.2] at this
   exact this
  ·have : y.x ∈ bxs.map (·.x):=by rw [← him]; exact List.mem_map.2 ⟨y,hy,rfl⟩
   obtain ⟨y',hy',e⟩:=List.mem_map.1 this
   have:=hB.ins y' hy'
   rw [e] at this
   exact this
theorem BlkAt.keep {w w' : World} {b : BRow} (h : BlkAt w b) (hc : Chg NoS w w') : BlkAt w' b :=
 ⟨h.kind,h.on,h.phis.keep (fun _ _ _ _ _ h=>h) hc,fun p hp=>⟨(h.phi p hp).1,(h.phi p hp).2.keep (fun _ _ _ _ _ h=>h) hc⟩,h.list.keep (fun _ _ _ _ _ h=>h) hc,fun i hi=>⟨(h.ins i hi).1,(h.ins i hi).2.keep (fun _ _ _ _ _ h=>h) hc⟩,h.to.keep keeps_int hc⟩
theorem funcR_c (nm : ByteArray) (pa re : Int) (bl : List LBlock) (bs : Value) (w0 : World) (hbs : SlAt w0 bs 6 bl BlockV) (hlen : bl.length ≤ 1000) (hbd : ∀ b : BRow,b.blk ∈ bl→BlkAt w0 b→b.Bd) :
  Ret Tryz.prog 26 [.agg #[.string nm,.int .i64 pa,.int .i64 re,bs]] w0 fun u w'=>∃ x : Option Addr × Nat × List BRow,u = .agg #[.string nm,.int .i64 pa,.int .i64 re,.slice x.1 x.2.2.length x.2.1]∧Wd NoS w0 (fnE x.1 x.2.1 x.2.2) w'∧(x.2.2.map BRow.blk = bl∧∀ b ∈ x.2.2,b.Bd):=by
 obtain ⟨ba,bc,q,rfl,hqm,hqs,hqa⟩:=blk_rows hbs
 have hql : q.length = bl.length:=by rw [← hqm,List.length_map]
 refine ret_enter Tryz.func26 rfl Tryz.ntmps26 rfl (Wd.nil NoS w0) ?_
 repeat (first|refine g_op rfl ?_|refine g_then ?_|refine g_nil ?_|refine g_region ?_|refine g_seq ?_|refine g_box rfl fun _ _=>?_|refine g_alloc rfl fun _ _=>?_|refine g_storeAgg ?_|refine g_block ?_)
 rename_i p1 _ p2 _ p3 _
 refine g_nilVec 52 6 ?_
 refine g_loop (fun (x : Option Addr × Nat × List BRow)=>x.2.2.length ≤ q.length∧x.2.2.map BRow.blk = (q.take x.2.2.length).map BRow.blk∧∀ b ∈ x.2.2,b.Bd) (fun x=>[(4,.int .i64 x.2.2.length),(3,.pointer (some ⟨p3,0,none⟩)),(1,.pointer (some ⟨p1,0,none⟩)),(2,.pointer (some ⟨p2,0,none⟩))])
  (fun x=>Ent.vec x.1 x.2.2.length x.2.1 52 6 (x.2.2.flatMap blkC)::Ent.box p3 [.string nm,.int .i64 pa,.int .i64 re,.slice x.1 x.2.2.length x.2.1] 35::Ent.box p2 [.string ByteArray.empty,.int .i64 0,.int .i64 0,.slice none 0 0] 35::Ent.box p1 [.string nm,.int .i64 pa,.int .i64 re,.slice ba q.length bc] 35::x.2.2.map blkE) (fun x=>q.length - x.2.2.length) (none,0,[]) ⟨Nat.zero_le _,rfl,by simp⟩ (g_done (by repeat (first|exact trivial|refine ⟨rfl,?_⟩)) (by simp)) fun x ⟨hi,hdm,hdb⟩=>?_
 obtain ⟨qa,qc,ds⟩:=x
 simp only at hi hdm hdb ⊢
 repeat (first|refine g_op rfl ?_|refine g_then ?_|refine g_nil ?_|refine g_region ?_|refine g_seq ?_)
 refine g_cond (fun h2=>?_) (fun h2=>?_)
 ·have hlt : ds.length < q.length:=by simpa using h2
  generalize hiL : ds.length = i at *
  obtain ⟨b,hb⟩ : ∃ b,q[i]? = some b:=⟨_,List.getElem?_eq_getElem hlt⟩
  have hbq:=List.mem_of_getElem? hb
  have hAb:=hqa b hbq
  have hBb:=hbd b (by rw [← hqm]; exact List.mem_map.2 ⟨b,hbq,rfl⟩) hAb
  obtain ⟨_,_,_,bb,bo,hba,hbel⟩:=hqs.at
  have hadb : AddrIs ba bb bo:=⟨hba (List.ne_nil_of_mem hbq)⟩
  have hli : LtIs i q.length:=⟨hlt⟩
  obtain ⟨_,hcb,hcb'⟩:=hbel i b hb
  rw [hcb'] at hcb
  simp only [blkC] at hcb
  have hcib : CellsIs w0 bb (bo + i * 6) _:=⟨hcb⟩
  repeat (first|refine g_then ?_|refine g_seq ?_|refine g_block ?_|refine g_skip ?_)
  refine g_drawX (Ent.box p2 [.string ByteArray.empty,.int .i64 0,.int .i64 0,.slice none 0 0] 35::Ent.box p1 [.string nm,.int .i64 pa,.int .i64 re,.slice ba q.length bc] 35::ds.map blkE) (fun x : BRow × Option Addr × Nat=>x.1.blk = b.blk∧x.1.Bd) (fun x=>[(4,.int .i64 i),(3,.pointer (some ⟨p3,0,none⟩)),(1,.pointer (some ⟨p1,0,none⟩)),(2,.pointer (some ⟨p2,0,none⟩))]) (fun x=>Ent.vec x.2.1 (i + 1) x.2.2 52 6 ((ds++[x.1]).flatMap blkC)::Ent.box p3 [.string nm,.int .i64 pa,.int .i64 re,.slice x.2.1 (i + 1 : Nat) x.2.2] 35::Ent.box p2 [.string ByteArray.empty,.int .i64 0,.int .i64 0,.slice none 0 0] 35::Ent.box p1 [.string nm,.int .i64 pa,.int .i64 re,.slice ba q.length bc] 35::(ds++[x.1]).map blkE) mixed (by repeat (first|exact List.Sublist.refl _|refine List.Sublist.cons _ ?_)) ?_ fun x hx=>?_
  ·skip
   refine h_take 0 rfl (by decide +kernel) (by repeat (first|exact List.Sublist.refl _|refine List.Sublist.cons _ ?_)) ?_
   refine h_take 2 rfl (by decide +kernel) (by repeat (first|exact List.Sublist.refl _|refine List.Sublist.cons _ ?_)) ?_
   refine h_take 3 rfl (by decide +kernel) (by repeat (first|exact List.Sublist.refl _|refine List.Sublist.cons _ ?_)) ?_
   refine h_take 4 rfl (by decide +kernel) (by repeat (first|exact List.Sublist.refl _|refine List.Sublist.cons _ ?_)) ?_
   refine h_take 5 rfl (by decide +kernel) (by repeat (first|exact List.Sublist.refl _|refine List.Sublist.cons _ ?_)) ?_
   refine h_take 6 rfl (by decide +kernel) (by repeat (first|exact List.Sublist.refl _|refine List.Sublist.cons _ ?_)) ?_
   refine h_two 1 7 (by decide +kernel) ?_ ?_
   ·skip
    refine o_op 1 rfl (by repeat (first|exact List.Sublist.refl _|refine List.Sublist.cons _ ?_)) ?_
    refine h_one 7 (by decide +kernel) ?_
    refine o_callE 7 (val:=fun c : BRow=>.agg #[.slice c.pa c.ps.length c.pc,.slice c.la c.xs.length c.lc,.int .i64 c.kind,.bool c.on.reg,.int .i64 c.on.n,.slice c.ta c.to.length c.tc]) (E:=fun c=>[blkE c]) (φ:=fun c=>c.blk = b.blk∧c.Bd) rfl (by repeat (first|exact List.Sublist.refl _|refine List.Sublist.cons _ ?_)) (fun w hw=>blockR_c b w (hAb.keep hw.chg) hBb) fun y hy=>?_
    simp only [List.cons_append,List.nil_append]
    refine h_one 8 (by decide +kernel) ?_
    refine o_build1 8 rfl (by decide +kernel) (by repeat (first|exact List.Sublist.refl _|refine List.Sublist.cons _ ?_)) fun _ _=>?_
    refine h_append 9 2 rfl rfl (by decide +kernel) (by omega) (by omega) (by decide +kernel) (fun _=>by simp only [List.set_cons_zero,List.set_cons_succ]; repeat (first|exact List.Sublist.refl _|refine List.Sublist.cons _ ?_)) fun ma mc=>?_
    simp only [List.set_cons_zero,List.set_cons_succ]
    refine h_take 10 rfl (by decide +kernel) (by repeat (first|exact List.Sublist.refl _|refine List.Sublist.cons _ ?_)) ?_
    refine h_store 11 (by decide +kernel) (by repeat (first|exact List.Sublist.refl _|refine List.Sublist.cons _ ?_)) ?_
    refine h_end (by decide +kernel) ?_
    refine g_fix (L':=[(4,.int .i64 i),(3,.pointer (some ⟨p3,0,none⟩)),(1,.pointer (some ⟨p1,0,none⟩)),(2,.pointer (some ⟨p2,0,none⟩))]) (by repeat (first|exact trivial|refine ⟨rfl,?_⟩)) (.cons _ (.refl _)) ?_
    refine g_permH (List.perm_append_comm (l₁:=[_])) ?_
    refine g_eqH (H1:=Ent.vec ma (i + 1) mc 52 6 ((ds++[y]).flatMap blkC)::Ent.box p3 [.string nm,.int .i64 pa,.int .i64 re,.slice ma (i + 1 : Nat) mc] 35::Ent.box p2 [.string ByteArray.empty,.int .i64 0,.int .i64 0,.slice none 0 0] 35::Ent.box p1 [.string nm,.int .i64 pa,.int .i64 re,.slice ba q.length bc] 35::(ds++[y]).map blkE) (by simp only [List.cons_append,List.map_append,List.map_cons,List.map_nil,List.flatMap_append,List.flatMap_cons,List.flatMap_nil,List.append_nil,blkC]) ?_
    exact g_mem (y,ma,mc) hy (by repeat (first|exact trivial|refine ⟨rfl,?_⟩)) (.refl _)
   ·skip
    refine o_callE 7 (val:=fun c : BRow=>.agg #[.slice c.pa c.ps.length c.pc,.slice c.la c.xs.length c.lc,.int .i64 c.kind,.bool c.on.reg,.int .i64 c.on.n,.slice c.ta c.to.length c.tc]) (E:=fun c=>[blkE c]) (φ:=fun c=>c.blk = b.blk∧c.Bd) rfl (by repeat (first|exact List.Sublist.refl _|refine List.Sublist.cons _ ?_)) (fun w hw=>blockR_c b w (hAb.keep hw.chg) hBb) fun y hy=>?_
    simp only [List.cons_append,List.nil_append]
    refine h_two 1 8 (by decide +kernel) ?_ ?_
    ·skip
     refine o_op 1 rfl (by repeat (first|exact List.Sublist.refl _|refine List.Sublist.cons _ ?_)) ?_
     refine h_one 8 (by decide +kernel) ?_
     refine o_build1 8 rfl (by decide +kernel) (by repeat (first|exact List.Sublist.refl _|refine List.Sublist.cons _ ?_)) fun _ _=>?_
     refine h_append 9 2 rfl rfl (by decide +kernel) (by omega) (by omega) (by decide +kernel) (fun _=>by simp only [List.set_cons_zero,List.set_cons_succ]; repeat (first|exact List.Sublist.refl _|refine List.Sublist.cons _ ?_)) fun ma mc=>?_
     simp only [List.set_cons_zero,List.set_cons_succ]
     refine h_take 10 rfl (by decide +kernel) (by repeat (first|exact List.Sublist.refl _|refine List.Sublist.cons _ ?_)) ?_
     refine h_store 11 (by decide +kernel) (by repeat (first|exact List.Sublist.refl _|refine List.Sublist.cons _ ?_)) ?_
     refine h_end (by decide +kernel) ?_
     refine g_fix (L':=[(4,.int .i64 i),(3,.pointer (some ⟨p3,0,none⟩)),(1,.pointer (some ⟨p1,0,none⟩)),(2,.pointer (some ⟨p2,0,none⟩))]) (by repeat (first|exact trivial|refine ⟨rfl,?_⟩)) (.cons _ (.refl _)) ?_
     refine g_permH (List.perm_append_comm (l₁:=[_])) ?_
     refine g_eqH (H1:=Ent.vec ma (i + 1) mc 52 6 ((ds++[y]).flatMap blkC)::Ent.box p3 [.string nm,.int .i64 pa,.int .i64 re,.slice ma (i + 1 : Nat) mc] 35::Ent.box p2 [.string ByteArray.empty,.int .i64 0,.int .i64 0,.slice none 0 0] 35::Ent.box p1 [.string nm,.int .i64 pa,.int .i64 re,.slice ba q.length bc] 35::(ds++[y]).map blkE) (by simp only [List.cons_append,List.map_append,List.map_cons,List.map_nil,List.flatMap_append,List.flatMap_cons,List.flatMap_nil,List.append_nil,blkC]) ?_
     exact g_mem (y,ma,mc) hy (by repeat (first|exact trivial|refine ⟨rfl,?_⟩)) (.refl _)
    ·skip
     refine o_build1 8 rfl (by decide +kernel) (by repeat (first|exact List.Sublist.refl _|refine List.Sublist.cons _ ?_)) fun _ _=>?_
     refine h_one 1 (by decide +kernel) ?_
     refine o_op 1 rfl (by repeat (first|exact List.Sublist.refl _|refine List.Sublist.cons _ ?_)) ?_
     refine h_append 9 2 rfl rfl (by decide +kernel) (by omega) (by omega) (by decide +kernel) (fun _=>by simp only [List.set_cons_zero,List.set_cons_succ]; repeat (first|exact List.Sublist.refl _|refine List.Sublist.cons _ ?_)) fun ma mc=>?_
     simp only [List.set_cons_zero,List.set_cons_succ]
     refine h_take 10 rfl (by decide +kernel) (by repeat (first|exact List.Sublist.refl _|refine List.Sublist.cons _ ?_)) ?_
     refine h_store 11 (by decide +kernel) (by repeat (first|exact List.Sublist.refl _|refine List.Sublist.cons _ ?_)) ?_
     refine h_end (by decide +kernel) ?_
     refine g_fix (L':=[(4,.int .i64 i),(3,.pointer (some ⟨p3,0,none⟩)),(1,.pointer (some ⟨p1,0,none⟩)),(2,.pointer (some ⟨p2,0,none⟩))]) (by repeat (first|exact trivial|refine ⟨rfl,?_⟩)) (.cons _ (.refl _)) ?_
     refine g_permH (List.perm_append_comm (l₁:=[_])) ?_
     refine g_eqH (H1:=Ent.vec ma (i + 1) mc 52 6 ((ds++[y]).flatMap blkC)::Ent.box p3 [.string nm,.int .i64 pa,.int .i64 re,.slice ma (i + 1 : Nat) mc] 35::Ent.box p2 [.string ByteArray.empty,.int .i64 0,.int .i64 0,.slice none 0 0] 35::Ent.box p1 [.string nm,.int .i64 pa,.int .i64 re,.slice ba q.length bc] 35::(ds++[y]).map blkE) (by simp only [List.cons_append,List.map_append,List.map_cons,List.map_nil,List.flatMap_append,List.flatMap_cons,List.flatMap_nil,List.append_nil,blkC]) ?_
     exact g_mem (y,ma,mc) hy (by repeat (first|exact trivial|refine ⟨rfl,?_⟩)) (.refl _)
  obtain ⟨y,ma,mc⟩:=x
  obtain ⟨hy1,hy2⟩:=hx
  simp only at hy1 hy2 ⊢
  repeat (first|refine g_op rfl ?_|refine g_then ?_|refine g_nil ?_|refine g_region ?_|refine g_opS rfl ?_|refine g_inBlock ?_|refine g_add rfl (by omega) (by omega) ?_)
  have hl1 : (ds++[y]).length = i + 1:=by simp [hiL]
  rw [show (i : Int) + 1 = ((i + 1 : Nat) : Int) by omega,← hl1]
  refine g_next (ma,mc,ds++[y]) ⟨by simp only [hl1]; omega,?_,fun c hc=>?_⟩ (by simp only [hl1]; omega) (by repeat (first|exact trivial|refine ⟨rfl,?_⟩)) (.refl _)
  ·simp only
   rw [hl1,List.take_add_one,hb,List.map_append,List.map_append,hdm]
   simp [hy1]
  ·rcases List.mem_append.1 hc with hc|hc
   ·exact hdb c hc
   ·rw [List.mem_singleton.1 hc]; exact hy2
 have hge : ds.length = q.length:=by have:=h2; simp at this; omega
 rw [hge,List.take_length,hqm] at hdm
 repeat (first|refine g_op rfl ?_|refine g_then ?_|refine g_nil ?_|refine g_region ?_|refine g_seq ?_|refine g_storeAgg ?_|refine g_exit ?_|refine g_thenExit ?_|refine g_exitHere ?_|refine g_ret ?_)
 refine g_retC rfl fun w hw=>⟨(qa,qc,ds),rfl,?_,hdm,hdb⟩
 exact hw.sub (.cons_cons _ (.cons _ (.cons _ (.cons _ (.refl _)))))
structure URow where
 name : ByteArray
 params : Int
 regs : Int
 a : Option Addr
 c : Nat
 bs : List BRow
def URow.fn (y : URow) : LFunc:=⟨y.name,y.params,y.regs,y.bs.map BRow.blk⟩
def uC (y : URow) : List Value:=[.string y.name,.int .i64 y.params,.int .i64 y.regs,.slice y.a y.bs.length y.c]
def uE (y : URow) : Ent:=Ent.join (fnE y.a y.c y.bs)
theorem uC_len (y : URow) : (uC y).length = 4:=rfl
theorem funcR_j (q : QRow) {w0 : World} (hqv : SlAt w0 (.slice q.a q.blocks.length q.c) 6 q.blocks BlockV) (hlim : FnLim q.fun') (w : World) (hc : Chg NoS w0 w) :
  Ret Tryz.prog 26 [.agg #[.string q.name,.int .i64 q.params,.int .i64 q.regs,.slice q.a q.blocks.length q.c]] w fun u w'=>∃ y : URow,u = .agg #[.string y.name,.int .i64 y.params,.int .i64 y.regs,.slice y.a y.bs.length y.c]∧Wd NoS w [uE y] w'∧(y.fn = q.fun'∧∀ b ∈ y.bs,b.Bd) :=
 (funcR_c q.name q.params q.regs q.blocks _ w (hqv.keep keeps_block hc) hlim.n fun b hb hA=>hlim.bd hb hA).mono fun u w' ⟨x,h1,h2,h3,h4⟩=>⟨⟨q.name,q.params,q.regs,x.1,x.2.1,x.2.2⟩,h1,by
  have h5 : Wd NoS w (fnE x.1 x.2.1 x.2.2++[]) w':=by rw [List.append_nil]; exact h2
  exact h5.join,by unfold URow.fn QRow.fun'; rw [h3],h4⟩
structure UMem where
 ga : Option Addr
 gc : Nat
 gs : List GRow
 fa : Option Addr
 fc : Nat
 fs : List URow
def UMem.val (m : UMem) : Value:=.agg #[.slice m.ga m.gs.length m.gc,.slice m.fa m.fs.length m.fc]
def UMem.ents (m : UMem) : List Ent:=Ent.vec m.fa m.fs.length m.fc 35 4 (m.fs.flatMap uC)::Ent.vec m.ga m.gs.length m.gc 57 3 (m.gs.flatMap gloC)::(m.gs.map gloE++m.fs.map uE)
def UMem.unit (m : UMem) : LUnit:=⟨m.gs.map GRow.glo,m.fs.map URow.fn⟩
structure UMem.Bd (m : UMem) : Prop where
 glob : ∀ g ∈ m.gs,inI g.size∧g.init.length ≤ 100000∧∀ z ∈ g.init,inI z
 func : ∀ y ∈ m.fs,(inI y.params∧inI y.regs)∧∀ b ∈ y.bs,b.Bd
theorem unitR_c (u : LUnit) (hgl : u.globals.length ≤ 100000∧∀ g ∈ u.globals,g.init.length ≤ 100000) (hfn : u.funcs.length ≤ 1000) (hfl : ∀ X ∈ u.funcs,FnLim X) (g fs : Value) (w0 : World) (hg : SlAt w0 g 3 u.globals GlobalV) (hf : SlAt w0 fs 4 u.funcs FuncV) :
  Ret Tryz.prog 9 [.agg #[g,fs]] w0 fun v w'=>∃ m : UMem,v = m.val∧Wd NoS w0 m.ents w'∧(m.unit = u∧m.Bd):=by
 obtain ⟨ga,gc,gs,rfl,hgm,hgs,hga⟩:=glo_rows hg
 obtain ⟨fa,fc,qs,rfl,hqm,hqs,hqa⟩:=fun_rows hf
 have hgsl : gs.length = u.globals.length:=by rw [← hgm,List.length_map]
 have hqsl : qs.length = u.funcs.length:=by rw [← hqm,List.length_map]
 refine ret_enter Tryz.func9 rfl Tryz.ntmps9 rfl (Wd.nil NoS w0) ?_
 repeat (first|refine g_op rfl ?_|refine g_then ?_|refine g_nil ?_|refine g_region ?_|refine g_seq ?_|refine g_box rfl fun _ _=>?_|refine g_alloc rfl fun _ _=>?_|refine g_block ?_)
 rename_i p1 _ p2 _ p3 _
 refine g_nilVec 57 3 ?_
 refine g_loop (fun (x : Option Addr × Nat × List GRow)=>x.2.2.length ≤ gs.length∧x.2.2.map GRow.glo = (gs.take x.2.2.length).map GRow.glo) (fun x=>[(4,.int .i64 x.2.2.length),(3,.pointer (some ⟨p3,0,none⟩)),(1,.pointer (some ⟨p1,0,none⟩)),(2,.pointer (some ⟨p2,0,none⟩))])
  (fun x=>Ent.vec x.1 x.2.2.length x.2.1 57 3 (x.2.2.flatMap gloC)::Ent.box p3 [.slice x.1 x.2.2.length x.2.1,.slice none 0 0] 25::Ent.box p2 [.slice none 0 0,.slice none 0 0] 25::Ent.box p1 [.slice ga gs.length gc,.slice fa qs.length fc] 25::x.2.2.map gloE) (fun x=>gs.length - x.2.2.length) (none,0,[]) ⟨Nat.zero_le _,rfl⟩ (g_done (by repeat (first|exact trivial|refine ⟨rfl,?_⟩)) (by simp)) fun x ⟨hi,hdm⟩=>?_
 obtain ⟨xa,xc,ds⟩:=x
 simp only at hi hdm ⊢
 repeat (first|refine g_op rfl ?_|refine g_then ?_|refine g_nil ?_|refine g_region ?_|refine g_seq ?_)
 refine g_cond (fun h1=>?_) (fun h1=>?_)
 ·have hlt : ds.length < gs.length:=by simpa using h1
  generalize hiL : ds.length = j at *
  obtain ⟨y,hy⟩ : ∃ y,gs[j]? = some y:=⟨_,List.getElem?_eq_getElem hlt⟩
  have hym:=List.mem_of_getElem? hy
  obtain ⟨_,hyv⟩:=hga y hym
  have hyl:=hgl.2 y.glo (by rw [← hgm]; exact List.mem_map.2 ⟨y,hym,rfl⟩)
  obtain ⟨_,_,_,bb,bo,hba,hbel⟩:=hgs.at
  have hadb : AddrIs ga bb bo:=⟨hba (List.ne_nil_of_mem hym)⟩
  have hlj : LtIs j gs.length:=⟨hlt⟩
  obtain ⟨_,hcy,rfl⟩:=hbel j y hy
  obtain ⟨yn,yz,yla,ylc,yi⟩:=y
  simp only [GRow.glo,gloC] at hyv hyl hcy
  have hciy : CellsIs w0 bb (bo + j * 3) _:=⟨hcy⟩
  repeat (first|refine g_op rfl ?_|refine g_then ?_|refine g_nil ?_|refine g_region ?_|refine g_seq ?_|refine g_alloc rfl fun _ _=>?_|refine g_storeAgg ?_|refine g_block ?_|refine g_skip ?_)
  rename_i p5 _
  refine g_build0 rfl fun eb _=>?_
  repeat (refine g_op rfl ?_)
  refine g_appendF rfl rfl yi (V:=IntV) (fun x=>[.int .i64 x]) (fun _ _ _ h=>h.1) (fun _=>rfl) (fun y u hu=>by simp only [List.mem_singleton] at hu; subst hu; rfl) (fun w hw=>hyv.keep keeps_int hw.chg) (by omega) (by omega) fun na nc=>?_
  rw [flat_one,List.nil_append,Nat.zero_add]
  repeat (first|refine g_op rfl ?_|refine g_then ?_|refine g_nil ?_|refine g_region ?_|refine g_store ?_|refine g_build1 rfl rfl fun _ _=>?_)
  refine g_append rfl rfl (by omega) (by omega) fun ma mc=>?_
  repeat (first|refine g_op rfl ?_|refine g_then ?_|refine g_nil ?_|refine g_region ?_|refine g_opS rfl ?_|refine g_store ?_|refine g_inBlock ?_|refine g_add rfl (by omega) (by omega) ?_)
  have hl1 : (ds++[(⟨yn,yz,na,nc,yi⟩ : GRow)]).length = j + 1:=by simp [hiL]
  refine g_fix (L':=[(4,.int .i64 ((j : Int) + 1)),(3,.pointer (some ⟨p3,0,none⟩)),(1,.pointer (some ⟨p1,0,none⟩)),(2,.pointer (some ⟨p2,0,none⟩))]) (by repeat (first|exact trivial|refine ⟨rfl,?_⟩)) (.cons _ (.cons_cons _ (.cons _ (.refl _)))) ?_
  refine g_permH (List.perm_append_comm (l₁:=[_])) ?_
  refine g_eqH (H1:=Ent.vec ma (ds++[(⟨yn,yz,na,nc,yi⟩ : GRow)]).length mc 57 3 ((ds++[(⟨yn,yz,na,nc,yi⟩ : GRow)]).flatMap gloC)::Ent.box p3 [.slice ma (ds++[(⟨yn,yz,na,nc,yi⟩ : GRow)]).length mc,.slice none 0 0] 25::Ent.box p2 [.slice none 0 0,.slice none 0 0] 25::Ent.box p1 [.slice ga gs.length gc,.slice fa qs.length fc] 25::(ds++[(⟨yn,yz,na,nc,yi⟩ : GRow)]).map gloE) (by rw [hl1]; simp only [List.cons_append,List.map_append,List.map_cons,List.map_nil,List.flatMap_append,List.flatMap_cons,List.flatMap_nil,List.append_nil,List.append_assoc,gloE,gloC]) ?_
  rw [show (j : Int) + 1 = ((j + 1 : Nat) : Int) by omega,← hl1]
  refine g_next (ma,mc,ds++[(⟨yn,yz,na,nc,yi⟩ : GRow)]) ⟨by simp only [hl1]; omega,?_⟩ (by simp only [hl1]; omega) (by repeat (first|exact trivial|refine ⟨rfl,?_⟩)) (.refl _)
  simp only
  rw [hl1,List.take_add_one,hy,List.map_append,List.map_append,hdm]; rfl
 have hge : ds.length = gs.length:=by have:=h1; simp at this; omega
 rw [hge,List.take_length,hgm] at hdm
 repeat (first|refine g_op rfl ?_|refine g_then ?_|refine g_nil ?_|refine g_region ?_|refine g_seq ?_|refine g_block ?_|refine g_exit ?_|refine g_thenExit ?_|refine g_exitHere ?_)
 have hdb : ∀ g ∈ ds,inI g.size∧g.init.length ≤ 100000∧∀ z ∈ g.init,inI z:=fun g hg'=>by
  have h0 : g.glo ∈ gs.map GRow.glo:=by rw [hgm,← hdm]; exact List.mem_map.2 ⟨g,hg',rfl⟩
  obtain ⟨g',hg1,e⟩:=List.mem_map.1 h0
  have h3:=hga g' hg1
  have h4:=hgl.2 g'.glo (by rw [← hgm]; exact List.mem_map.2 ⟨g',hg1,rfl⟩)
  simp only [GRow.glo,LGlobal.mk.injEq] at e h4
  rw [e.2.2] at h4
  exact ⟨by rw [← e.2.1]; exact h3.1,h4,fun z hz=>int_in h3.2 z (by rw [e.2.2]; exact hz)⟩
 refine g_nilVec 35 4 ?_
 refine g_permH (List.Perm.cons _ (List.Perm.swap _ _ _)) ?_
 refine g_loop (fun (x : Option Addr × Nat × List URow)=>x.2.2.length ≤ qs.length∧x.2.2.map URow.fn = (qs.take x.2.2.length).map QRow.fun'∧∀ y ∈ x.2.2,(inI y.params∧inI y.regs)∧∀ b ∈ y.bs,b.Bd) (fun x=>[(6,.int .i64 x.2.2.length),(3,.pointer (some ⟨p3,0,none⟩)),(1,.pointer (some ⟨p1,0,none⟩)),(2,.pointer (some ⟨p2,0,none⟩))])
  (fun x=>Ent.vec x.1 x.2.2.length x.2.1 35 4 (x.2.2.flatMap uC)::Ent.box p3 [.slice xa ds.length xc,.slice x.1 x.2.2.length x.2.1] 25::Ent.vec xa ds.length xc 57 3 (ds.flatMap gloC)::Ent.box p2 [.slice none 0 0,.slice none 0 0] 25::Ent.box p1 [.slice ga gs.length gc,.slice fa qs.length fc] 25::(ds.map gloE++x.2.2.map uE)) (fun x=>qs.length - x.2.2.length) (none,0,[]) ⟨Nat.zero_le _,rfl,by simp⟩ (g_done (by repeat (first|exact trivial|refine ⟨rfl,?_⟩)) (by simp)) fun x ⟨hi2,hem,heb⟩=>?_
 obtain ⟨ya,yc,es⟩:=x
 simp only at hi2 hem heb ⊢
 repeat (first|refine g_op rfl ?_|refine g_then ?_|refine g_nil ?_|refine g_region ?_|refine g_seq ?_)
 refine g_cond (fun h2=>?_) (fun h2=>?_)
 ·have hlt : es.length < qs.length:=by simpa using h2
  generalize hiL : es.length = i at *
  obtain ⟨q,hq⟩ : ∃ q,qs[i]? = some q:=⟨_,List.getElem?_eq_getElem hlt⟩
  have hqm':=List.mem_of_getElem? hq
  have hXm : q.fun' ∈ u.funcs:=by rw [← hqm]; exact List.mem_map.2 ⟨q,hqm',rfl⟩
  obtain ⟨_,_,_,bb,bo,hba,hbel⟩:=hqs.at
  have hadb : AddrIs fa bb bo:=⟨hba (List.ne_nil_of_mem hqm')⟩
  have hli : LtIs i qs.length:=⟨hlt⟩
  obtain ⟨_,hcq,hcq'⟩:=hbel i q hq
  rw [hcq'] at hcq
  simp only [funC] at hcq
  have hciq : CellsIs w0 bb (bo + i * 4) _:=⟨hcq⟩
  repeat (first|refine g_then ?_|refine g_seq ?_|refine g_block ?_|refine g_skip ?_)
  refine g_drawX (Ent.vec xa ds.length xc 57 3 (ds.flatMap gloC)::Ent.box p2 [.slice none 0 0,.slice none 0 0] 25::Ent.box p1 [.slice ga gs.length gc,.slice fa qs.length fc] 25::(ds.map gloE++es.map uE)) (fun x : URow × Option Addr × Nat=>x.1.fn = q.fun'∧∀ b ∈ x.1.bs,b.Bd) (fun x=>[(6,.int .i64 i),(3,.pointer (some ⟨p3,0,none⟩)),(1,.pointer (some ⟨p1,0,none⟩)),(2,.pointer (some ⟨p2,0,none⟩))]) (fun x=>Ent.vec x.2.1 (i + 1) x.2.2 35 4 ((es++[x.1]).flatMap uC)::Ent.box p3 [.slice xa ds.length xc,.slice x.2.1 (i + 1 : Nat) x.2.2] 25::Ent.vec xa ds.length xc 57 3 (ds.flatMap gloC)::Ent.box p2 [.slice none 0 0,.slice none 0 0] 25::Ent.box p1 [.slice ga gs.length gc,.slice fa qs.length fc] 25::(ds.map gloE++(es++[x.1]).map uE)) mixed (by repeat (first|exact List.Sublist.refl _|refine List.Sublist.cons _ ?_)) ?_ fun x hx=>?_
  ·skip
   refine h_take 0 rfl (by decide +kernel) (by repeat (first|exact List.Sublist.refl _|refine List.Sublist.cons _ ?_)) ?_
   refine h_take 2 rfl (by decide +kernel) (by repeat (first|exact List.Sublist.refl _|refine List.Sublist.cons _ ?_)) ?_
   refine h_take 3 rfl (by decide +kernel) (by repeat (first|exact List.Sublist.refl _|refine List.Sublist.cons _ ?_)) ?_
   refine h_take 4 rfl (by decide +kernel) (by repeat (first|exact List.Sublist.refl _|refine List.Sublist.cons _ ?_)) ?_
   refine h_take 5 rfl (by decide +kernel) (by repeat (first|exact List.Sublist.refl _|refine List.Sublist.cons _ ?_)) ?_
   refine h_take 6 rfl (by decide +kernel) (by repeat (first|exact List.Sublist.refl _|refine List.Sublist.cons _ ?_)) ?_
   refine h_two 1 7 (by decide +kernel) ?_ ?_
   ·skip
    refine o_op 1 rfl (by repeat (first|exact List.Sublist.refl _|refine List.Sublist.cons _ ?_)) ?_
    refine h_one 7 (by decide +kernel) ?_
    refine o_callE 7 (val:=fun y : URow=>.agg #[.string y.name,.int .i64 y.params,.int .i64 y.regs,.slice y.a y.bs.length y.c]) (E:=fun y=>[uE y]) (φ:=fun y=>y.fn = q.fun'∧∀ b ∈ y.bs,b.Bd) rfl (by repeat (first|exact List.Sublist.refl _|refine List.Sublist.cons _ ?_)) (fun w hw=>funcR_j q (hqa q hqm').2 (hfl _ hXm) w hw.chg) fun y hy=>?_
    simp only [List.cons_append,List.nil_append]
    refine h_one 8 (by decide +kernel) ?_
    refine o_build1 8 rfl (by decide +kernel) (by repeat (first|exact List.Sublist.refl _|refine List.Sublist.cons _ ?_)) fun _ _=>?_
    refine h_append 9 2 rfl rfl (by decide +kernel) (by omega) (by omega) (by decide +kernel) (fun _=>by simp only [List.set_cons_zero,List.set_cons_succ]; repeat (first|exact List.Sublist.refl _|refine List.Sublist.cons _ ?_)) fun ma mc=>?_
    simp only [List.set_cons_zero,List.set_cons_succ]
    refine h_take 10 rfl (by decide +kernel) (by repeat (first|exact List.Sublist.refl _|refine List.Sublist.cons _ ?_)) ?_
    refine h_store 11 (by decide +kernel) (by repeat (first|exact List.Sublist.refl _|refine List.Sublist.cons _ ?_)) ?_
    refine h_end (by decide +kernel) ?_
    refine g_fix (L':=[(6,.int .i64 i),(3,.pointer (some ⟨p3,0,none⟩)),(1,.pointer (some ⟨p1,0,none⟩)),(2,.pointer (some ⟨p2,0,none⟩))]) (by repeat (first|exact trivial|refine ⟨rfl,?_⟩)) (.cons _ (.refl _)) ?_
    refine g_permH (List.perm_append_comm (l₁:=[_])) ?_
    refine g_eqH (H1:=Ent.vec ma (i + 1) mc 35 4 ((es++[y]).flatMap uC)::Ent.box p3 [.slice xa ds.length xc,.slice ma (i + 1 : Nat) mc] 25::Ent.vec xa ds.length xc 57 3 (ds.flatMap gloC)::Ent.box p2 [.slice none 0 0,.slice none 0 0] 25::Ent.box p1 [.slice ga gs.length gc,.slice fa qs.length fc] 25::(ds.map gloE++(es++[y]).map uE)) (by simp only [List.cons_append,List.map_append,List.map_cons,List.map_nil,List.flatMap_append,List.flatMap_cons,List.flatMap_nil,List.append_nil,List.append_assoc,uC]) ?_
    exact g_mem (y,ma,mc) hy (by repeat (first|exact trivial|refine ⟨rfl,?_⟩)) (.refl _)
   ·skip
    refine o_callE 7 (val:=fun y : URow=>.agg #[.string y.name,.int .i64 y.params,.int .i64 y.regs,.slice y.a y.bs.length y.c]) (E:=fun y=>[uE y]) (φ:=fun y=>y.fn = q.fun'∧∀ b ∈ y.bs,b.Bd) rfl (by repeat (first|exact List.Sublist.refl _|refine List.Sublist.cons _ ?_)) (fun w hw=>funcR_j q (hqa q hqm').2 (hfl _ hXm) w hw.chg) fun y hy=>?_
    simp only [List.cons_append,List.nil_append]
    refine h_two 1 8 (by decide +kernel) ?_ ?_
    ·skip
     refine o_op 1 rfl (by repeat (first|exact List.Sublist.refl _|refine List.Sublist.cons _ ?_)) ?_
     refine h_one 8 (by decide +kernel) ?_
     refine o_build1 8 rfl (by decide +kernel) (by repeat (first|exact List.Sublist.refl _|refine List.Sublist.cons _ ?_)) fun _ _=>?_
     refine h_append 9 2 rfl rfl (by decide +kernel) (by omega) (by omega) (by decide +kernel) (fun _=>by simp only [List.set_cons_zero,List.set_cons_succ]; repeat (first|exact List.Sublist.refl _|refine List.Sublist.cons _ ?_)) fun ma mc=>?_
     simp only [List.set_cons_zero,List.set_cons_succ]
     refine h_take 10 rfl (by decide +kernel) (by repeat (first|exact List.Sublist.refl _|refine List.Sublist.cons _ ?_)) ?_
     refine h_store 11 (by decide +kernel) (by repeat (first|exact List.Sublist.refl _|refine List.Sublist.cons _ ?_)) ?_
     refine h_end (by decide +kernel) ?_
     refine g_fix (L':=[(6,.int .i64 i),(3,.pointer (some ⟨p3,0,none⟩)),(1,.pointer (some ⟨p1,0,none⟩)),(2,.pointer (some ⟨p2,0,none⟩))]) (by repeat (first|exact trivial|refine ⟨rfl,?_⟩)) (.cons _ (.refl _)) ?_
     refine g_permH (List.perm_append_comm (l₁:=[_])) ?_
     refine g_eqH (H1:=Ent.vec ma (i + 1) mc 35 4 ((es++[y]).flatMap uC)::Ent.box p3 [.slice xa ds.length xc,.slice ma (i + 1 : Nat) mc] 25::Ent.vec xa ds.length xc 57 3 (ds.flatMap gloC)::Ent.box p2 [.slice none 0 0,.slice none 0 0] 25::Ent.box p1 [.slice ga gs.length gc,.slice fa qs.length fc] 25::(ds.map gloE++(es++[y]).map uE)) (by simp only [List.cons_append,List.map_append,List.map_cons,List.map_nil,List.flatMap_append,List.flatMap_cons,List.flatMap_nil,List.append_nil,List.append_assoc,uC]) ?_
     exact g_mem (y,ma,mc) hy (by repeat (first|exact trivial|refine ⟨rfl,?_⟩)) (.refl _)
    ·skip
     refine o_build1 8 rfl (by decide +kernel) (by repeat (first|exact List.Sublist.refl _|refine List.Sublist.cons _ ?_)) fun _ _=>?_
     refine h_one 1 (by decide +kernel) ?_
     refine o_op 1 rfl (by repeat (first|exact List.Sublist.refl _|refine List.Sublist.cons _ ?_)) ?_
     refine h_append 9 2 rfl rfl (by decide +kernel) (by omega) (by omega) (by decide +kernel) (fun _=>by simp only [List.set_cons_zero,List.set_cons_succ]; repeat (first|exact List.Sublist.refl _|refine List.Sublist.cons _ ?_)) fun ma mc=>?_
     simp only [List.set_cons_zero,List.set_cons_succ]
     refine h_take 10 rfl (by decide +kernel) (by repeat (first|exact List.Sublist.refl _|refine List.Sublist.cons _ ?_)) ?_
     refine h_store 11 (by decide +kernel) (by repeat (first|exact List.Sublist.refl _|refine List.Sublist.cons _ ?_)) ?_
     refine h_end (by decide +kernel) ?_
     refine g_fix (L':=[(6,.int .i64 i),(3,.pointer (some ⟨p3,0,none⟩)),(1,.pointer (some ⟨p1,0,none⟩)),(2,.pointer (some ⟨p2,0,none⟩))]) (by repeat (first|exact trivial|refine ⟨rfl,?_⟩)) (.cons _ (.refl _)) ?_
     refine g_permH (List.perm_append_comm (l₁:=[_])) ?_
     refine g_eqH (H1:=Ent.vec ma (i + 1) mc 35 4 ((es++[y]).flatMap uC)::Ent.box p3 [.slice xa ds.length xc,.slice ma (i + 1 : Nat) mc] 25::Ent.vec xa ds.length xc 57 3 (ds.flatMap gloC)::Ent.box p2 [.slice none 0 0,.slice none 0 0] 25::Ent.box p1 [.slice ga gs.length gc,.slice fa qs.length fc] 25::(ds.map gloE++(es++[y]).map uE)) (by simp only [List.cons_append,List.map_append,List.map_cons,List.map_nil,List.flatMap_append,List.flatMap_cons,List.flatMap_nil,List.append_nil,List.append_assoc,uC]) ?_
     exact g_mem (y,ma,mc) hy (by repeat (first|exact trivial|refine ⟨rfl,?_⟩)) (.refl _)
  obtain ⟨y,ma,mc⟩:=x
  obtain ⟨hy1,hy2⟩:=hx
  simp only at hy1 hy2 ⊢
  repeat (first|refine g_op rfl ?_|refine g_then ?_|refine g_nil ?_|refine g_region ?_|refine g_opS rfl ?_|refine g_inBlock ?_|refine g_add rfl (by omega) (by omega) ?_)
  have hl1 : (es++[y]).length = i + 1:=by simp [hiL]
  rw [show (i : Int) + 1 = ((i + 1 : Nat) : Int) by omega,← hl1]
  refine g_next (ma,mc,es++[y]) ⟨by simp only [hl1]; omega,?_,fun z hz=>?_⟩ (by simp only [hl1]; omega) (by repeat (first|exact trivial|refine ⟨rfl,?_⟩)) (.refl _)
  ·simp only
   rw [hl1,List.take_add_one,hq,List.map_append,List.map_append,hem]
   simp [hy1]
  ·rcases List.mem_append.1 hz with hz|hz
   ·exact heb z hz
   ·rw [List.mem_singleton.1 hz]
    have h9:=(hqa q hqm').1
    simp only [URow.fn,QRow.fun',LFunc.mk.injEq] at hy1
    rw [← hy1.2.1,← hy1.2.2.1] at h9
    exact ⟨h9,hy2⟩
 have hge2 : es.length = qs.length:=by have:=h2; simp at this; omega
 rw [hge2,List.take_length,hqm] at hem
 repeat (first|refine g_op rfl ?_|refine g_then ?_|refine g_nil ?_|refine g_region ?_|refine g_seq ?_|refine g_storeAgg ?_|refine g_exit ?_|refine g_thenExit ?_|refine g_exitHere ?_|refine g_ret ?_)
 refine g_retC rfl fun w hw=>⟨⟨xa,xc,ds,ya,yc,es⟩,rfl,?_,?_,hdb,heb⟩
 ·exact hw.sub (.cons_cons _ (.cons _ (.cons_cons _ (.cons _ (.cons _ (.refl _))))))
 ·unfold UMem.unit
  simp only [hdm,hem]
end Go.Proofs.YtdbljcahlpkgdaaGreatDoor
namespace Go.Proofs.YtdbljcahlpkgdaaGreatDoor
open Go Go.RowKit
set_option maxHeartbeats 2000000
theorem mem_pull {α : Type} {l : List α} {e : α} (h : e ∈ l) : ∃ r,l.Perm (e::r):=by
 obtain ⟨k,hk⟩:=List.getElem?_of_mem h
 exact ⟨_,perm_pull hk⟩
theorem Wd.func {S : Nat→Prop} {w0 w : World} {H : List Ent} (h : Wd S w0 H w) {y : URow} (hy : uE y ∈ H) (hn : y.bs.length ≤ 1000) (hb : ∀ b ∈ y.bs,b.Bd) : SlAt w (.slice y.a y.bs.length y.c) 6 (y.bs.map BRow.blk) BlockV:=by
 obtain ⟨r,hr⟩:=mem_pull hy
 have h1:=(h.perm hr).unjoin
 exact Wd.blocks (H:=r) (by unfold fnE at h1; exact h1) hn hb
structure UMem.Few (m : UMem) : Prop where
 globs : m.gs.length ≤ 1000
 funcs : m.fs.length ≤ 1000
 each : ∀ y ∈ m.fs,y.bs.length ≤ 1000
theorem UMem.sl {S : Nat→Prop} {w0 w : World} {H : List Ent} {m : UMem} (hb : m.Bd) (hn : m.Few) (h : Wd S w0 (m.ents++H) w) : SlAt w (.slice m.ga m.gs.length m.gc) 3 m.unit.globals GlobalV∧SlAt w (.slice m.fa m.fs.length m.fc) 4 m.unit.funcs FuncV:=by
 have n1:=hn.globs
 have n2:=hn.funcs
 constructor
 ·refine slAt_un (V:=GlobalV) GRow.glo (flat_sl h (k:=1) rfl gloC_len (by omega)) fun y hy cs hcs=>?_
  obtain ⟨hy1,hy2,hy3⟩:=hb.glob y hy
  have hm : gloE y ∈ m.ents++H:=List.mem_append_left _ (by unfold UMem.ents; simp only [List.mem_cons,List.mem_append]; exact .inr (.inr (.inl (List.mem_map.2 ⟨y,hy,rfl⟩))))
  obtain ⟨k,hk⟩:=List.getElem?_of_mem hm
  refine ⟨_,hcs,hy1,?_⟩
  refine h.slAt hk rfl (by omega) fun i x hx=>⟨[.int .i64 x],fun j v hj=>?_,rfl,hy3 x (List.mem_of_getElem? hx)⟩
  match j,hj with
  | 0,hj=>simp [← hj,GRow.glo] at hx ⊢; exact hx
 ·refine slAt_un (V:=FuncV) URow.fn (flat_sl h (k:=0) rfl uC_len (by omega)) fun y hy cs hcs=>?_
  obtain ⟨⟨hy1,hy2⟩,hy3⟩:=hb.func y hy
  have hm : uE y ∈ m.ents++H:=List.mem_append_left _ (by unfold UMem.ents; simp only [List.mem_cons,List.mem_append]; exact .inr (.inr (.inr (List.mem_map.2 ⟨y,hy,rfl⟩))))
  exact ⟨_,hcs,hy1,hy2,h.func hm (hn.each y hy) hy3⟩
def gvE (m : UMem) : Ent:=Ent.vec m.ga m.gs.length m.gc 57 3 (m.gs.flatMap gloC)
def lvE (b : BRow) : Ent:=Ent.vec b.la b.xs.length b.lc 89 8 (b.xs.flatMap rowC)
def tvE (b : BRow) : Ent:=Ent.vec b.ta b.to.length b.tc 3 1 (b.to.map (.int .i64))
theorem map_pull {α β : Type} {l : List α} {k : Nat} {x : α} (f : α→β) (h : l[k]? = some x) : (l.map f).Perm (f x::(l.eraseIdx k).map f):=(perm_pull h).map f
section
variable {S : Nat→Prop} {w0 w : World} {H : List Ent} {m : UMem} {k i : Nat} {y : URow} {b : BRow}
theorem flatMap_set {α : Type} {f : α→List Value} {l : List α} {k : Nat} {x y : α} (h : l[k]? = some x) (he : f y = f x) : (l.set k y).flatMap f = l.flatMap f:=by
 rw [List.flatMap_def,List.flatMap_def,List.map_set,he]
 congr 1
 exact set_self (by rw [List.getElem?_map,h]; rfl)
end
end Go.Proofs.YtdbljcahlpkgdaaGreatDoor
namespace Go.Proofs.YtdbljcahlpkgdaaGreatDoor
open Go Go.RowKit
theorem end_len {n : Nat} {R : Int} {B : LBlock} (h : endErr n R B = 0) : B.to.length ≤ 2:=by
 unfold endErr endE at h
 split at h
 ·cases h
 rename_i h1
 split at h
 ·cases h
 rename_i h2
 simp only [within,Bool.not_eq_true',Bool.and_eq_false_iff,decide_eq_false_iff_not,not_or,Decidable.not_not] at h1
 simp only [ne_eq,Decidable.not_not] at h2
 omega
theorem check_lim {u : LUnit} (hl : light u) (h : (checkL u).1 = 0) : ∀ X ∈ u.funcs,FnLim X:=fun X hX=>by
 obtain ⟨k,hk⟩:=List.getElem?_of_mem hX
 obtain ⟨R,_,_,hf⟩:=check_func h hk
 have hl1:=(hl.2 X hX).1
 have hlen:=light_lens (hl.2 X hX)
 have hbody:=(check_zero.1 h).body X hX
 refine ⟨by omega,fun B hB=>?_⟩
 obtain ⟨b,hb⟩:=List.getElem?_of_mem hB
 have hbk:=hf.block b B hb
 have hpl : (preds X.blocks b).length ≤ X.blocks.length:=by
  unfold preds
  exact Nat.le_trans (List.length_filter_le _ _) (by rw [List.length_range]; exact Nat.le_refl _)
 exact ⟨(hlen B hB).2,fun p hp=>by have:=(hbk.phis p hp).len; omega,(hlen B hB).1,check_args h hk B hB,by have:=end_len (hbody.ends B hB); omega⟩
theorem check_glim {u : LUnit} (h : (checkL u).1 = 0) : u.globals.length ≤ 100000∧∀ g ∈ u.globals,g.init.length ≤ 100000:=by
 have hc:=check_zero.1 h
 have:=hc.globs
 refine ⟨by omega,fun g hg=>?_⟩
 obtain ⟨i,hi⟩:=List.getElem?_of_mem hg
 have hz:=hc.glob i (List.getElem?_eq_some_iff.1 hi).1
 unfold globAt at0 at hz
 rw [hi] at hz
 simp only at hz
 unfold globErr at hz
 split at hz
 ·cases hz
 split at hz
 ·cases hz
 split at hz
 ·cases hz
 rename_i h1
 split at hz
 ·cases hz
 rename_i h2
 simp only [within,Bool.not_eq_true',Bool.and_eq_false_iff,decide_eq_false_iff_not,not_or,Decidable.not_not] at h1
 omega
theorem check_few {u : LUnit} (hl : light u) : u.funcs.length ≤ 1000:=by have:=hl.1; omega
end Go.Proofs.YtdbljcahlpkgdaaGreatDoor
namespace Go.Proofs.YtdbljcahlpkgdaaGreatDoor
open Go Go.RowKit
attribute [local irreducible] wpListIn Code.wpIn Exit.then Exit.inBlock bodyPost wpQuiet wpAnyIn wpAnyH
set_option maxHeartbeats 4000000
def slimF (f : LFunc) : Prop:=f.blocks.length ≤ 24∧sizeOfBs f.blocks ≤ 120
def slim (u : LUnit) : Prop:=u.funcs.length ≤ 10∧∀ f ∈ u.funcs,slimF f
theorem slim.light {u : LUnit} (h : slim u) : light u:=⟨h.1,fun f hf=>⟨by have:=(h.2 f hf).1; omega,by have:=(h.2 f hf).2; omega⟩⟩
theorem heavyS_c (u : LUnit) (g fs : Value) (w0 : World) (hf : SlAt w0 fs 4 u.funcs FuncV) (hg : ∃ a n c,g = .slice a n c) :
  Ret Tryz.prog 5 [.agg #[g,fs]] w0 fun v w'=>∃ b : Bool,v = .bool b∧Wd NoS w0 [] w'∧(b = false→slim u):=by
 obtain ⟨ga,gn,gc,rfl⟩:=hg
 obtain ⟨fa,fn,fc,fb,fo,rfl,hfn,hfnc,hfnb,hfc,hfa,hfel⟩:=hf
 refine ret_enter Tryz.func5 rfl Tryz.ntmps5 rfl (Wd.nil NoS w0) ?_
 repeat (first|refine g_op rfl ?_|refine g_then ?_|refine g_nil ?_|refine g_region ?_|refine g_seq ?_|refine g_box rfl fun _ _=>?_|refine g_block ?_)
 rename_i p1 _
 have noWd : ∀ w H,Wd NoS w0 H w→Wd NoS w0 [] w:=fun w H hw=>⟨hw.chg,by simp,by simp,by simp⟩
 refine g_loop (fun (i : Nat)=>i ≤ fn∧∀ k X,k < i→u.funcs[k]? = some X→slimF X) (fun i=>[(3,.int .i64 i),(2,.bool false),(1,.pointer (some ⟨p1,0,none⟩))]) (fun _=>[Ent.box p1 [.slice ga gn gc,.slice fa fn fc] 25]) (fun i=>fn - i) 0 ⟨Nat.zero_le _,by simp⟩ (g_done (by repeat (first|exact trivial|refine ⟨rfl,?_⟩)) (.refl _)) fun i ⟨hi,hall⟩=>?_
 repeat (first|refine g_op rfl ?_|refine g_then ?_|refine g_nil ?_|refine g_region ?_|refine g_seq ?_)
 refine g_cond (fun h1=>?_) (fun h1=>?_)
 ·have hlt : i < fn:=by simpa using h1
  obtain ⟨X,hX⟩:=get_lt hfn hlt
  have had : AddrIs fa fb fo:=⟨hfa (ne_of_get hX)⟩
  have hli : LtIs i fn:=⟨hlt⟩
  obtain ⟨cs,hcs,bv,rfl,hpi,hri,hbv⟩:=hfel i X hX
  obtain ⟨ba,n,bc,bb,bo',rfl,hn,hnc,hnb,hbc,hba,hel⟩:=hbv
  have hci : CellsIs w0 fb (fo + i * 4) _:=⟨hcs⟩
  repeat (first|refine g_op rfl ?_|refine g_then ?_|refine g_nil ?_|refine g_region ?_|refine g_seq ?_|refine g_block ?_|refine g_skip ?_)
  refine g_loop (fun (x : Nat × Int)=>x.1 ≤ n∧(n ≤ 24→x.2 = sizeTo X.blocks x.1∧x.2 ≤ x.1 * 281474976710656)) (fun x=>[(5,.int .i64 x.1),(4,.int .i64 x.2),(3,.int .i64 i),(2,.bool false),(1,.pointer (some ⟨p1,0,none⟩))]) (fun _=>[Ent.box p1 [.slice ga gn gc,.slice fa fn fc] 25]) (fun x=>n - x.1) (0,0) ⟨Nat.zero_le _,by simp [sizeTo]⟩ (g_done (by repeat (first|exact trivial|refine ⟨rfl,?_⟩)) (.refl _)) fun x ⟨hj,hsum⟩=>?_
  obtain ⟨j,s⟩:=x
  simp only at hj hsum ⊢
  repeat (first|refine g_op rfl ?_|refine g_then ?_|refine g_nil ?_|refine g_region ?_|refine g_seq ?_)
  refine g_cond (fun h2=>?_) (fun h2=>?_)
  ·have hjlt : j < n:=by simpa using h2
   obtain ⟨B,hB⟩:=get_lt hn hjlt
   have had2 : AddrIs ba bb bo':=⟨hba (ne_of_get hB)⟩
   have hli2 : LtIs j n:=⟨hjlt⟩
   obtain ⟨cs2,hcs2,pv,lv,tv,rfl,_,_,hphis,hlist,ht⟩:=hel j B hB
   obtain ⟨pa',pn,pc,_,_,rfl,hpn,_,hpnb,_⟩:=hphis
   obtain ⟨la,ln,lc,_,_,rfl,hln,_,hlnb,_⟩:=hlist
   have hci2 : CellsIs w0 bb (bo' + j * 6) _:=⟨hcs2⟩
   have hs1:=sizeTo_succ hB
   have hm1:=sizeTo_mono X.blocks j
   have hkey : n ≤ 24→IntKind.i64.wrap (IntKind.i64.wrap (s + pn) + ln) = sizeTo X.blocks (j + 1)∧IntKind.i64.wrap (IntKind.i64.wrap (s + pn) + ln) ≤ ((j + 1 : Nat) : Int) * 281474976710656:=by
    intro h24
    obtain ⟨e1,e2⟩:=hsum h24
    rw [wrap_in (s + pn) (by omega) (by omega),wrap_in (s + pn + ln) (by omega) (by omega),hs1]
    constructor
    ·rw [e1,hpn,hln]; omega
    ·omega
   repeat (first|refine g_then ?_|refine g_seq ?_|refine g_block ?_|refine g_skip ?_)
   refine g_draw mixed (by kernel_rfl) ?_
   repeat (refine q_op rfl ?_)
   refine q_addW rfl ?_
   repeat (refine q_op rfl ?_)
   refine q_addW rfl ?_
   repeat (first|refine q_opS rfl ?_|refine q_nil ?_)
   repeat (first|refine g_op rfl ?_|refine g_then ?_|refine g_nil ?_|refine g_region ?_|refine g_opS rfl ?_|refine g_inBlock ?_|refine g_add rfl (by omega) (by omega) ?_)
   exact g_next (j + 1,IntKind.i64.wrap (IntKind.i64.wrap (s + pn) + ln)) ⟨hjlt,hkey⟩ (by simp only; omega) (by repeat (first|exact trivial|refine ⟨rfl,?_⟩)) (.refl _)
  ·have hge : j = n:=by have:=h2; simp at this; omega
   repeat (first|refine g_op rfl ?_|refine g_then ?_|refine g_region ?_|refine g_seq ?_|refine g_exit ?_|refine g_thenExit ?_|refine g_exitHere ?_)
   generalize hb1 : decide (24 < (n : Int)) = b1
   refine g_joinTo 60 (.bool (b1 || decide (120 < s))) ?_ ?_
   ·cases b1
    ·repeat (first|refine g_op rfl ?_|refine g_then ?_|refine g_nil ?_|refine g_open ?_)
     exact g_done (by repeat (first|exact trivial|refine ⟨rfl,?_⟩)) (.refl _)
    ·repeat (first|refine g_op rfl ?_|refine g_then ?_|refine g_nil ?_|refine g_pass rfl ?_)
     exact g_done (by repeat (first|exact trivial|refine ⟨rfl,?_⟩)) (.refl _)
   repeat (first|refine g_then ?_|refine g_nil ?_)
   refine g_cond (fun h3=>?_) (fun h3=>?_)
   ·repeat (first|refine g_then ?_|refine g_nil ?_|refine g_region ?_|refine g_seq ?_|refine g_opS rfl ?_|refine g_ret ?_|refine g_thenRet ?_|refine g_blockRet ?_)
    exact g_ret1 rfl fun w hw=>⟨_,rfl,noWd _ _ hw,by simp⟩
   ·have h3' : n ≤ 24∧s ≤ 120:=by subst hb1; simp at h3; omega
    repeat (first|refine g_op rfl ?_|refine g_then ?_|refine g_nil ?_|refine g_region ?_|refine g_opS rfl ?_|refine g_inBlock ?_|refine g_skip ?_|refine g_add rfl (by omega) (by omega) ?_)
    refine g_next (i + 1) ⟨hlt,fun k Y hk hY=>?_⟩ (by omega) (by repeat (first|exact trivial|refine ⟨rfl,?_⟩)) (.refl _)
    by_cases hki : k = i
    ·subst hki
     rw [hX] at hY
     simp only [Option.some.injEq] at hY
     subst hY
     refine ⟨by omega,?_⟩
     have:=(hsum h3'.1).1
     rw [hge,hn,sizeTo_all] at this
     omega
    ·exact hall k Y (by omega) hY
 ·have hge : i = fn:=by have:=h1; simp at this; omega
  repeat (first|refine g_op rfl ?_|refine g_then ?_|refine g_nil ?_|refine g_region ?_|refine g_seq ?_|refine g_opS rfl ?_|refine g_exit ?_|refine g_thenExit ?_|refine g_exitHere ?_|refine g_ret ?_)
  refine g_ret1 rfl fun w hw=>⟨_,rfl,noWd _ _ hw,fun hb=>⟨by simp at hb; omega,fun Y hY=>?_⟩⟩
  obtain ⟨k,hk⟩:=List.getElem?_of_mem hY
  exact hall k Y (by have:=(List.getElem?_eq_some_iff.1 hk).1; omega) hk
end Go.Proofs.YtdbljcahlpkgdaaGreatDoor

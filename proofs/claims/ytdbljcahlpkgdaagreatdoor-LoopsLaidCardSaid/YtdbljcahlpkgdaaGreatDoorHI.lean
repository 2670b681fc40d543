/- Texts joined: Copy Large Each EachB. -/
import Derived.Test.YtdbljcahlpkgdaaGreatDoorGC
import Derived.Test.YtdbljcahlpkgdaaGreatDoorGM
import Derived.Test.YtdbljcahlpkgdaaGreatDoorHA
namespace Go.Proofs.YtdbljcahlpkgdaaGreatDoor
open Go Go.RowKit
attribute [local irreducible] wpListIn Code.wpIn Exit.then Exit.inBlock bodyPost wpQuiet wpAnyIn wpAnyH
set_option maxHeartbeats 8000000
theorem set_mid {α : Type} {ps bps : List α} {j : Nat} {y : α} (hj : ps.length = j) (hlt : j < bps.length) : (ps++bps.drop j).set j y = (ps++[y])++bps.drop (j + 1):=by
 rw [List.set_append_right _ _ (by omega),hj,Nat.sub_self,List.drop_eq_getElem_cons hlt,List.set_cons_zero,List.append_assoc]
 rfl
theorem permCopy {α : Type} (to xs ps v a b : α) (D P X : List α) : (to::xs::ps::v::a::b::((D++P)++X)).Perm ((ps::xs::to::(P++X))++(v::a::b::D)):=by
 have h1 : (to::xs::ps::v::a::b::((D++P)++X)).Perm ([to,xs,ps]++((v::a::b::D)++(P++X))):=by
  simp only [List.cons_append,List.nil_append,List.append_assoc]
  exact List.Perm.refl _
 have h2 : ([to,xs,ps]++((v::a::b::D)++(P++X))).Perm ([to,xs,ps]++((P++X)++(v::a::b::D))):=List.Perm.append_left _ List.perm_append_comm
 have h3 : [to,xs,ps].Perm [ps,xs,to]:=(List.reverse_perm [to,xs,ps]).symm
 have h4:=h3.append_right ((P++X)++(v::a::b::D))
 refine (h1.trans (h2.trans h4)).trans ?_
 simp only [List.cons_append,List.nil_append,List.append_assoc]
 exact List.Perm.refl _
theorem copy_c (nm : ByteArray) (pa re : Int) (bl : List LBlock) (bs : Value) (w0 : World) (hbs : SlAt w0 bs 6 bl BlockV) (hlen : bl.length ≤ 1000) (hbd : ∀ b : BRow,b.blk ∈ bl→BlkAt w0 b→b.Bd) :
  Ret Tryz.prog 40 [.agg #[.string nm,.int .i64 pa,.int .i64 re,bs]] w0 fun u w'=>∃ x : Option Addr × Nat × List BRow,u = .agg #[.string nm,.int .i64 pa,.int .i64 re,.slice x.1 bl.length x.2.1]∧Wd NoS w0 (Ent.vec x.1 bl.length x.2.1 52 6 (x.2.2.flatMap blkC)::x.2.2.map blkE) w'∧x.2.2.map BRow.blk = bl∧∀ b ∈ x.2.2,b.Bd:=by
 obtain ⟨ba,bc,q,rfl,hqm,hqs,hqa⟩:=blk_rows hbs
 have hql : q.length = bl.length:=by rw [← hqm,List.length_map]
 rw [← hql]
 refine ret_enter Tryz.func40 rfl Tryz.ntmps40 rfl (Wd.nil NoS w0) ?_
 repeat (first|refine g_op rfl ?_|refine g_then ?_|refine g_nil ?_|refine g_region ?_|refine g_seq ?_|refine g_box rfl fun _ _=>?_|refine g_alloc rfl fun _ _=>?_)
 rename_i p1 _ p2 _
 refine g_callE (val:=fun x : Option Addr × Nat=>.slice x.1 q.length x.2) (E:=fun x=>[Ent.vec x.1 q.length x.2 52 6 (q.flatMap blkC)]) (φ:=fun _=>True) rfl (fun w hw=>cloneBlock_c ba bc q (by omega) w (hqs.keep (fun _ _ _ _ _ h=>h) hw.chg)) fun x _=>?_
 obtain ⟨xa,xc⟩:=x
 simp only [List.cons_append,List.nil_append]
 repeat (first|refine g_op rfl ?_|refine g_then ?_|refine g_nil ?_|refine g_region ?_|refine g_seq ?_|refine g_store ?_|refine g_block ?_)
 refine g_loop (fun (ds : List BRow)=>ds.length ≤ q.length∧ds.map BRow.blk = (q.take ds.length).map BRow.blk∧∀ b ∈ ds,b.Bd) (fun ds=>[(16,.int .i64 ds.length),(14,.slice xa q.length xc),(15,.int .i64 q.length),(2,.pointer (some ⟨p2,0,none⟩)),(1,.pointer (some ⟨p1,0,none⟩))])
  (fun ds=>Ent.vec xa q.length xc 52 6 ((ds++q.drop ds.length).flatMap blkC)::Ent.box p2 [.string ByteArray.empty,.int .i64 0,.int .i64 0,.slice none 0 0] 35::Ent.box p1 [.string nm,.int .i64 pa,.int .i64 re,.slice xa q.length xc] 35::ds.map blkE) (fun ds=>q.length - ds.length) [] ⟨Nat.zero_le _,rfl,by simp⟩ (g_done (by repeat (first|exact trivial|refine ⟨rfl,?_⟩)) (by simp)) fun ds ⟨hi,hdm,hdb⟩=>?_
 repeat (first|refine g_op rfl ?_|refine g_then ?_|refine g_nil ?_|refine g_region ?_|refine g_seq ?_)
 refine g_cond (fun h1=>?_) (fun h1=>?_)
 ·have hlt : ds.length < q.length:=by simpa using h1
  generalize hiL : ds.length = i at *
  obtain ⟨b,hb⟩ : ∃ b,q[i]? = some b:=⟨_,List.getElem?_eq_getElem hlt⟩
  have hbq:=List.mem_of_getElem? hb
  have hA:=hqa b hbq
  have hB:=hbd b (by rw [← hqm]; exact List.mem_map.2 ⟨b,hbq,rfl⟩) hA
  obtain ⟨bpa,bpc,bps,bla,blc,bxs,bk,bon,bta,btc,bto⟩:=b
  have hBp:=hB.phis
  have hBx:=hB.list
  have hBt:=hB.to.1
  simp only at hBp hBx hBt
  refine g_vec 0 rfl (by omega) fun vb vo hva=>?_
  subst hva
  have hli : LtIs i q.length:=⟨hlt⟩
  have hget : (ds++q.drop i)[i]? = some (⟨bpa,bpc,bps,bla,blc,bxs,bk,bon,bta,btc,bto⟩ : BRow):=by
   rw [List.getElem?_append_right (by omega),hiL,Nat.sub_self,List.getElem?_drop,Nat.add_zero]; exact hb
  have hoa : OwnAgg (Ent.vec (some ⟨vb,vo,none⟩) q.length xc 52 6 ((ds++q.drop i).flatMap blkC)::Ent.box p2 [.string ByteArray.empty,.int .i64 0,.int .i64 0,.slice none 0 0] 35::Ent.box p1 [.string nm,.int .i64 pa,.int .i64 re,.slice (some ⟨vb,vo,none⟩) q.length xc] 35::ds.map blkE) vb (vo + i * 6) _:=ownAgg (k:=0) rfl blkC_len hget
  simp only [blkC] at hoa
  repeat (first|refine g_op rfl ?_|refine g_then ?_|refine g_nil ?_|refine g_region ?_|refine g_seq ?_|refine g_alloc rfl fun _ _=>?_|refine g_storeAgg ?_|refine g_block ?_|refine g_skip ?_)
  rename_i p4 _
  refine g_callE (val:=fun x : Option Addr × Nat=>.slice x.1 bps.length x.2) (E:=fun x=>[Ent.vec x.1 bps.length x.2 86 2 (bps.flatMap phiC)]) (φ:=fun _=>True) rfl (fun w hw=>clonePhi_c bpa bpc bps (by omega) w (hA.phis.keep (fun _ _ _ _ _ h=>h) hw.chg)) fun x _=>?_
  obtain ⟨ya,yc⟩:=x
  simp only [List.cons_append,List.nil_append]
  repeat (first|refine g_op rfl ?_|refine g_then ?_|refine g_nil ?_|refine g_region ?_|refine g_seq ?_|refine g_store ?_|refine g_block ?_)
  refine g_loop (fun (ps : List PRow)=>ps.length ≤ bps.length∧ps.map PRow.phi = (bps.take ps.length).map PRow.phi) (fun ps=>[(28,.int .i64 ps.length),(26,.slice ya bps.length yc),(27,.int .i64 bps.length),(3,.int .i64 i),(4,.pointer (some ⟨p4,0,none⟩)),(16,.int .i64 i),(14,.slice (some ⟨vb,vo,none⟩) q.length xc),(15,.int .i64 q.length),(2,.pointer (some ⟨p2,0,none⟩)),(1,.pointer (some ⟨p1,0,none⟩))])
   (fun ps=>Ent.vec ya bps.length yc 86 2 ((ps++bps.drop ps.length).flatMap phiC)::Ent.box p4 [.slice ya bps.length yc,.slice bla bxs.length blc,.int .i64 bk,.bool bon.reg,.int .i64 bon.n,.slice bta bto.length btc] 52::(Ent.vec (some ⟨vb,vo,none⟩) q.length xc 52 6 ((ds++q.drop i).flatMap blkC)::Ent.box p2 [.string ByteArray.empty,.int .i64 0,.int .i64 0,.slice none 0 0] 35::Ent.box p1 [.string nm,.int .i64 pa,.int .i64 re,.slice (some ⟨vb,vo,none⟩) q.length xc] 35::(ds.map blkE++ps.map phE))) (fun ps=>bps.length - ps.length) [] ⟨Nat.zero_le _,rfl⟩ (g_done (by repeat (first|exact trivial|refine ⟨rfl,?_⟩)) (by simp)) fun ps ⟨hj,hpm⟩=>?_
  repeat (first|refine g_op rfl ?_|refine g_then ?_|refine g_nil ?_|refine g_region ?_|refine g_seq ?_)
  refine g_cond (fun h2=>?_) (fun h2=>?_)
  ·have hjl : ps.length < bps.length:=by simpa using h2
   generalize hjL : ps.length = j at *
   obtain ⟨p,hp⟩ : ∃ p,bps[j]? = some p:=⟨_,List.getElem?_eq_getElem hjl⟩
   have hpm':=List.mem_of_getElem? hp
   obtain ⟨hpd,hpv⟩:=hA.phi p hpm'
   obtain ⟨_,hpl,_⟩:=hB.phi p hpm'
   obtain ⟨pd,pla,plc,pl⟩:=p
   simp only at hpd hpv hpl
   refine g_vec 0 rfl (by omega) fun zb zo hza=>?_
   subst hza
   have hlj : LtIs j bps.length:=⟨hjl⟩
   have hgetp : (ps++bps.drop j)[j]? = some (⟨pd,pla,plc,pl⟩ : PRow):=by
    rw [List.getElem?_append_right (by omega),hjL,Nat.sub_self,List.getElem?_drop,Nat.add_zero]; exact hp
   have hob : OwnAgg (Ent.vec (some ⟨zb,zo,none⟩) bps.length yc 86 2 ((ps++bps.drop j).flatMap phiC)::Ent.box p4 [.slice (some ⟨zb,zo,none⟩) bps.length yc,.slice bla bxs.length blc,.int .i64 bk,.bool bon.reg,.int .i64 bon.n,.slice bta bto.length btc] 52::(Ent.vec (some ⟨vb,vo,none⟩) q.length xc 52 6 ((ds++q.drop i).flatMap blkC)::Ent.box p2 [.string ByteArray.empty,.int .i64 0,.int .i64 0,.slice none 0 0] 35::Ent.box p1 [.string nm,.int .i64 pa,.int .i64 re,.slice (some ⟨vb,vo,none⟩) q.length xc] 35::(ds.map blkE++ps.map phE))) zb (zo + j * 2) _:=ownAgg (k:=0) rfl phiC_len hgetp
   simp only [phiC] at hob
   repeat (first|refine g_op rfl ?_|refine g_then ?_|refine g_nil ?_|refine g_region ?_|refine g_seq ?_|refine g_alloc rfl fun _ _=>?_|refine g_storeAgg ?_|refine g_block ?_|refine g_skip ?_)
   rename_i p6 _
   refine g_drawH (Ent.box p6 [.int .i64 pd,.slice pla pl.length plc] 86::Ent.box p4 [.slice (some ⟨zb,zo,none⟩) bps.length yc,.slice bla bxs.length blc,.int .i64 bk,.bool bon.reg,.int .i64 bon.n,.slice bta bto.length btc] 52::(Ent.vec (some ⟨vb,vo,none⟩) q.length xc 52 6 ((ds++q.drop i).flatMap blkC)::Ent.box p2 [.string ByteArray.empty,.int .i64 0,.int .i64 0,.slice none 0 0] 35::Ent.box p1 [.string nm,.int .i64 pa,.int .i64 re,.slice (some ⟨vb,vo,none⟩) q.length xc] 35::(ds.map blkE++ps.map phE))) mixed (.cons_cons _ (.cons _ (.refl _))) ?_
   refine h_take 0 rfl (by decide +kernel) (.cons_cons _ (.cons _ (.refl _))) ?_
   refine h_take 1 rfl (by decide +kernel) (.cons_cons _ (.cons _ (.refl _))) ?_
   refine h_take 2 rfl (by decide +kernel) (.cons_cons _ (.cons _ (.refl _))) ?_
   refine h_take 3 rfl (by decide +kernel) (.cons_cons _ (.cons _ (.refl _))) ?_
   refine h_take 4 rfl (by decide +kernel) (.cons_cons _ (.cons _ (.refl _))) ?_
   refine h_callE 5 (val:=fun x : Option Addr × Nat=>.slice x.1 pl.length x.2) (E:=fun x=>[Ent.vec x.1 pl.length x.2 48 2 (pl.flatMap vlC)]) (φ:=fun _=>True) rfl (by decide +kernel) (.cons_cons _ (.cons _ (.refl _))) (fun w hw=>cloneVal_c pla plc pl (by omega) w ((val_slC hpv).keep (fun _ _ _ _ _ h=>h) hw.chg)) fun x _=>?_
   obtain ⟨na,nc⟩:=x
   simp only [List.cons_append,List.nil_append]
   refine h_take 6 rfl (by decide +kernel) (.cons _ (.cons_cons _ (.cons _ (.refl _)))) ?_
   refine h_take 7 rfl (by decide +kernel) (.cons _ (.cons_cons _ (.cons _ (.refl _)))) ?_
   have hot : OwnAt (Ent.vec na pl.length nc 48 2 (pl.flatMap vlC)::Ent.box p6 [.int .i64 pd,.slice pla pl.length plc] 86::Ent.vec (some ⟨zb,zo,none⟩) bps.length yc 86 2 ((ps++bps.drop j).flatMap phiC)::Ent.box p4 [.slice (some ⟨zb,zo,none⟩) bps.length yc,.slice bla bxs.length blc,.int .i64 bk,.bool bon.reg,.int .i64 bon.n,.slice bta bto.length btc] 52::(Ent.vec (some ⟨vb,vo,none⟩) q.length xc 52 6 ((ds++q.drop i).flatMap blkC)::Ent.box p2 [.string ByteArray.empty,.int .i64 0,.int .i64 0,.slice none 0 0] 35::Ent.box p1 [.string nm,.int .i64 pa,.int .i64 re,.slice (some ⟨vb,vo,none⟩) q.length xc] 35::(ds.map blkE++ps.map phE))) zb (zo + j * 2 + 1) 2 zo (j * 2 + 1) bps.length yc 86 2 ((ps++bps.drop j).flatMap phiC):=⟨rfl,by omega⟩
   have hxs : XSet ((ps++bps.drop j).flatMap phiC) (j * 2 + 1) (.slice na pl.length nc) (((ps++[(⟨pd,na,nc,pl⟩ : PRow)])++bps.drop (j + 1)).flatMap phiC):=⟨by
     rw [flat_set phiC_len hgetp (k:=1) (by omega) (y:=⟨pd,na,nc,pl⟩) rfl]
     congr 1
     exact set_mid hjL hjl,by rw [flat_len phiC_len,List.length_append,List.length_drop]; omega⟩
   refine h_storeV 8 (by decide +kernel) (by decide +kernel) (.cons _ (.cons_cons _ (.cons _ (.refl _)))) ?_
   repeat (first|refine g_then ?_|refine g_nil ?_|refine g_region ?_|refine g_opS rfl ?_|refine g_inBlock ?_|refine g_add rfl (by omega) (by omega) ?_)
   have hl1 : (ps++[(⟨pd,na,nc,pl⟩ : PRow)]).length = j + 1:=by simp [hjL]
   refine g_fix (L':=[(28,.int .i64 ((j : Int) + 1)),(26,.slice (some ⟨zb,zo,none⟩) bps.length yc),(27,.int .i64 bps.length),(3,.int .i64 i),(4,.pointer (some ⟨p4,0,none⟩)),(16,.int .i64 i),(14,.slice (some ⟨vb,vo,none⟩) q.length xc),(15,.int .i64 q.length),(2,.pointer (some ⟨p2,0,none⟩)),(1,.pointer (some ⟨p1,0,none⟩))]) (by repeat (first|exact trivial|refine ⟨rfl,?_⟩)) (.cons_cons _ (.cons _ (.refl _))) ?_
   refine g_permH (List.perm_append_comm (l₁:=[Ent.vec na pl.length nc 48 2 (pl.flatMap vlC)])) ?_
   refine g_eqH (H1:=Ent.vec (some ⟨zb,zo,none⟩) bps.length yc 86 2 (((ps++[(⟨pd,na,nc,pl⟩ : PRow)])++bps.drop (ps++[(⟨pd,na,nc,pl⟩ : PRow)]).length).flatMap phiC)::Ent.box p4 [.slice (some ⟨zb,zo,none⟩) bps.length yc,.slice bla bxs.length blc,.int .i64 bk,.bool bon.reg,.int .i64 bon.n,.slice bta bto.length btc] 52::Ent.vec (some ⟨vb,vo,none⟩) q.length xc 52 6 ((ds++q.drop i).flatMap blkC)::Ent.box p2 [.string ByteArray.empty,.int .i64 0,.int .i64 0,.slice none 0 0] 35::Ent.box p1 [.string nm,.int .i64 pa,.int .i64 re,.slice (some ⟨vb,vo,none⟩) q.length xc] 35::(ds.map blkE++(ps++[(⟨pd,na,nc,pl⟩ : PRow)]).map phE)) ?_ ?_
   ·rw [hl1]
    simp only [List.cons_append,List.map_append,List.map_cons,List.map_nil,List.append_assoc,phE]
   refine g_fix (L':=[(28,.int .i64 ((ps++[(⟨pd,na,nc,pl⟩ : PRow)]).length : Nat)),(26,.slice (some ⟨zb,zo,none⟩) bps.length yc),(27,.int .i64 bps.length),(3,.int .i64 i),(4,.pointer (some ⟨p4,0,none⟩)),(16,.int .i64 i),(14,.slice (some ⟨vb,vo,none⟩) q.length xc),(15,.int .i64 q.length),(2,.pointer (some ⟨p2,0,none⟩)),(1,.pointer (some ⟨p1,0,none⟩))]) ?_ (.refl _) ?_
   ·rw [hl1]
    exact (by repeat (first|exact trivial|refine ⟨rfl,?_⟩))
   refine g_next (ps++[(⟨pd,na,nc,pl⟩ : PRow)]) ⟨by rw [hl1]; omega,?_⟩ (by rw [hl1]; omega) (by repeat (first|exact trivial|refine ⟨rfl,?_⟩)) (.refl _)
   rw [hl1,List.take_add_one,hp,List.map_append,List.map_append,hpm]; rfl
  ·have hge : ps.length = bps.length:=by have:=h2; simp at this; omega
   rw [hge,List.drop_length,List.append_nil]
   rw [hge,List.take_length] at hpm
   repeat (first|refine g_op rfl ?_|refine g_then ?_|refine g_region ?_|refine g_seq ?_|refine g_exit ?_|refine g_thenExit ?_|refine g_exitHere ?_)
   refine g_callE (val:=fun x : Option Addr × Nat=>.slice x.1 bxs.length x.2) (E:=fun x=>[Ent.vec x.1 bxs.length x.2 89 8 (bxs.flatMap rowC)]) (φ:=fun _=>True) rfl (fun w hw=>cloneIns_c bla blc bxs (by omega) w (hA.list.keep (fun _ _ _ _ _ h=>h) hw.chg)) fun x _=>?_
   obtain ⟨ia,ic⟩:=x
   simp only [List.cons_append,List.nil_append]
   repeat (first|refine g_op rfl ?_|refine g_then ?_|refine g_nil ?_|refine g_region ?_|refine g_seq ?_|refine g_store ?_|refine g_block ?_)
   refine g_permH (H1:=Ent.vec ia bxs.length ic 89 8 (bxs.flatMap rowC)::Ent.box p4 [.slice ya bps.length yc,.slice ia bxs.length ic,.int .i64 bk,.bool bon.reg,.int .i64 bon.n,.slice bta bto.length btc] 52::Ent.vec ya bps.length yc 86 2 (ps.flatMap phiC)::Ent.vec (some ⟨vb,vo,none⟩) q.length xc 52 6 ((ds++q.drop i).flatMap blkC)::Ent.box p2 [.string ByteArray.empty,.int .i64 0,.int .i64 0,.slice none 0 0] 35::Ent.box p1 [.string nm,.int .i64 pa,.int .i64 re,.slice (some ⟨vb,vo,none⟩) q.length xc] 35::(ds.map blkE++ps.map phE)) (List.Perm.cons _ (List.Perm.swap _ _ _)) ?_
   refine g_loop (fun (is : List IRow)=>is.length ≤ bxs.length∧is.map (·.x) = (bxs.take is.length).map (·.x)) (fun is=>[(49,.int .i64 is.length),(47,.slice ia bxs.length ic),(48,.int .i64 bxs.length),(3,.int .i64 i),(4,.pointer (some ⟨p4,0,none⟩)),(16,.int .i64 i),(14,.slice (some ⟨vb,vo,none⟩) q.length xc),(15,.int .i64 q.length),(2,.pointer (some ⟨p2,0,none⟩)),(1,.pointer (some ⟨p1,0,none⟩))])
    (fun is=>Ent.vec ia bxs.length ic 89 8 ((is++bxs.drop is.length).flatMap rowC)::Ent.box p4 [.slice ya bps.length yc,.slice ia bxs.length ic,.int .i64 bk,.bool bon.reg,.int .i64 bon.n,.slice bta bto.length btc] 52::Ent.vec ya bps.length yc 86 2 (ps.flatMap phiC)::Ent.vec (some ⟨vb,vo,none⟩) q.length xc 52 6 ((ds++q.drop i).flatMap blkC)::Ent.box p2 [.string ByteArray.empty,.int .i64 0,.int .i64 0,.slice none 0 0] 35::Ent.box p1 [.string nm,.int .i64 pa,.int .i64 re,.slice (some ⟨vb,vo,none⟩) q.length xc] 35::((ds.map blkE++ps.map phE)++is.map roE)) (fun is=>bxs.length - is.length) [] ⟨Nat.zero_le _,rfl⟩ (g_done (by repeat (first|exact trivial|refine ⟨rfl,?_⟩)) (by simp)) fun is ⟨hj,him⟩=>?_
   repeat (first|refine g_op rfl ?_|refine g_then ?_|refine g_nil ?_|refine g_region ?_|refine g_seq ?_)
   refine g_cond (fun h3=>?_) (fun h3=>?_)
   ·have hjl : is.length < bxs.length:=by simpa using h3
    generalize hjL : is.length = j at *
    obtain ⟨y,hy⟩ : ∃ y,bxs[j]? = some y:=⟨_,List.getElem?_eq_getElem hjl⟩
    have hym:=List.mem_of_getElem? hy
    obtain ⟨_,hyv⟩:=hA.ins y hym
    obtain ⟨_,hyl,_⟩:=hB.ins y hym
    obtain ⟨yx,yla,ylc⟩:=y
    simp only at hyv hyl
    refine g_vec 0 rfl (by omega) fun zb zo hza=>?_
    subst hza
    have hlj : LtIs j bxs.length:=⟨hjl⟩
    have hgety : (is++bxs.drop j)[j]? = some (⟨yx,yla,ylc⟩ : IRow):=by
     rw [List.getElem?_append_right (by omega),hjL,Nat.sub_self,List.getElem?_drop,Nat.add_zero]; exact hy
    have hob : OwnAgg (Ent.vec (some ⟨zb,zo,none⟩) bxs.length ic 89 8 ((is++bxs.drop j).flatMap rowC)::Ent.box p4 [.slice ya bps.length yc,.slice (some ⟨zb,zo,none⟩) bxs.length ic,.int .i64 bk,.bool bon.reg,.int .i64 bon.n,.slice bta bto.length btc] 52::Ent.vec ya bps.length yc 86 2 (ps.flatMap phiC)::Ent.vec (some ⟨vb,vo,none⟩) q.length xc 52 6 ((ds++q.drop i).flatMap blkC)::Ent.box p2 [.string ByteArray.empty,.int .i64 0,.int .i64 0,.slice none 0 0] 35::Ent.box p1 [.string nm,.int .i64 pa,.int .i64 re,.slice (some ⟨vb,vo,none⟩) q.length xc] 35::((ds.map blkE++ps.map phE)++is.map roE)) zb (zo + j * 8) _:=ownAgg (k:=0) rfl rowC_len hgety
    simp only [rowC] at hob
    repeat (first|refine g_op rfl ?_|refine g_then ?_|refine g_nil ?_|refine g_region ?_|refine g_seq ?_|refine g_alloc rfl fun _ _=>?_|refine g_storeAgg ?_|refine g_block ?_|refine g_skip ?_)
    rename_i p8 _
    refine g_drawH (Ent.box p8 [.int .i64 yx.op,.int .i64 yx.dst,.bool yx.a.reg,.int .i64 yx.a.n,.bool yx.b.reg,.int .i64 yx.b.n,.int .i64 yx.fn,.slice yla yx.args.length ylc] 89::Ent.box p4 [.slice ya bps.length yc,.slice (some ⟨zb,zo,none⟩) bxs.length ic,.int .i64 bk,.bool bon.reg,.int .i64 bon.n,.slice bta bto.length btc] 52::Ent.vec ya bps.length yc 86 2 (ps.flatMap phiC)::Ent.vec (some ⟨vb,vo,none⟩) q.length xc 52 6 ((ds++q.drop i).flatMap blkC)::Ent.box p2 [.string ByteArray.empty,.int .i64 0,.int .i64 0,.slice none 0 0] 35::Ent.box p1 [.string nm,.int .i64 pa,.int .i64 re,.slice (some ⟨vb,vo,none⟩) q.length xc] 35::((ds.map blkE++ps.map phE)++is.map roE)) mixed (.cons_cons _ (.cons _ (.refl _))) ?_
    refine h_take 0 rfl (by decide +kernel) (.cons_cons _ (.cons _ (.refl _))) ?_
    refine h_take 1 rfl (by decide +kernel) (.cons_cons _ (.cons _ (.refl _))) ?_
    refine h_take 2 rfl (by decide +kernel) (.cons_cons _ (.cons _ (.refl _))) ?_
    refine h_take 3 rfl (by decide +kernel) (.cons_cons _ (.cons _ (.refl _))) ?_
    refine h_take 4 rfl (by decide +kernel) (.cons_cons _ (.cons _ (.refl _))) ?_
    refine h_callE 5 (val:=fun x : Option Addr × Nat=>.slice x.1 yx.args.length x.2) (E:=fun x=>[Ent.vec x.1 yx.args.length x.2 48 2 (yx.args.flatMap vlC)]) (φ:=fun _=>True) rfl (by decide +kernel) (.cons_cons _ (.cons _ (.refl _))) (fun w hw=>cloneVal_c yla ylc yx.args (by omega) w ((val_slC hyv).keep (fun _ _ _ _ _ h=>h) hw.chg)) fun x _=>?_
    obtain ⟨na,nc⟩:=x
    simp only [List.cons_append,List.nil_append]
    refine h_take 6 rfl (by decide +kernel) (.cons _ (.cons_cons _ (.cons _ (.refl _)))) ?_
    refine h_take 7 rfl (by decide +kernel) (.cons _ (.cons_cons _ (.cons _ (.refl _)))) ?_
    have hot : OwnAt (Ent.vec na yx.args.length nc 48 2 (yx.args.flatMap vlC)::Ent.box p8 [.int .i64 yx.op,.int .i64 yx.dst,.bool yx.a.reg,.int .i64 yx.a.n,.bool yx.b.reg,.int .i64 yx.b.n,.int .i64 yx.fn,.slice yla yx.args.length ylc] 89::Ent.vec (some ⟨zb,zo,none⟩) bxs.length ic 89 8 ((is++bxs.drop j).flatMap rowC)::Ent.box p4 [.slice ya bps.length yc,.slice (some ⟨zb,zo,none⟩) bxs.length ic,.int .i64 bk,.bool bon.reg,.int .i64 bon.n,.slice bta bto.length btc] 52::Ent.vec ya bps.length yc 86 2 (ps.flatMap phiC)::Ent.vec (some ⟨vb,vo,none⟩) q.length xc 52 6 ((ds++q.drop i).flatMap blkC)::Ent.box p2 [.string ByteArray.empty,.int .i64 0,.int .i64 0,.slice none 0 0] 35::Ent.box p1 [.string nm,.int .i64 pa,.int .i64 re,.slice (some ⟨vb,vo,none⟩) q.length xc] 35::((ds.map blkE++ps.map phE)++is.map roE)) zb (zo + j * 8 + 7) 2 zo (j * 8 + 7) bxs.length ic 89 8 ((is++bxs.drop j).flatMap rowC):=⟨rfl,by omega⟩
    have hxs : XSet ((is++bxs.drop j).flatMap rowC) (j * 8 + 7) (.slice na yx.args.length nc) (((is++[(⟨yx,na,nc⟩ : IRow)])++bxs.drop (j + 1)).flatMap rowC):=⟨by
      rw [flat_set rowC_len hgety (k:=7) (by omega) (y:=⟨yx,na,nc⟩) rfl]
      congr 1
      exact set_mid hjL hjl,by rw [flat_len rowC_len,List.length_append,List.length_drop]; omega⟩
    refine h_storeV 8 (by decide +kernel) (by decide +kernel) (.cons _ (.cons_cons _ (.cons _ (.refl _)))) ?_
    repeat (first|refine g_then ?_|refine g_nil ?_|refine g_region ?_|refine g_opS rfl ?_|refine g_inBlock ?_|refine g_add rfl (by omega) (by omega) ?_)
    have hl1 : (is++[(⟨yx,na,nc⟩ : IRow)]).length = j + 1:=by simp [hjL]
    refine g_fix (L':=[(49,.int .i64 ((j : Int) + 1)),(47,.slice (some ⟨zb,zo,none⟩) bxs.length ic),(48,.int .i64 bxs.length),(3,.int .i64 i),(4,.pointer (some ⟨p4,0,none⟩)),(16,.int .i64 i),(14,.slice (some ⟨vb,vo,none⟩) q.length xc),(15,.int .i64 q.length),(2,.pointer (some ⟨p2,0,none⟩)),(1,.pointer (some ⟨p1,0,none⟩))]) (by repeat (first|exact trivial|refine ⟨rfl,?_⟩)) (.cons_cons _ (.cons _ (.refl _))) ?_
    refine g_permH (List.perm_append_comm (l₁:=[Ent.vec na yx.args.length nc 48 2 (yx.args.flatMap vlC)])) ?_
    refine g_eqH (H1:=Ent.vec (some ⟨zb,zo,none⟩) bxs.length ic 89 8 (((is++[(⟨yx,na,nc⟩ : IRow)])++bxs.drop (is++[(⟨yx,na,nc⟩ : IRow)]).length).flatMap rowC)::Ent.box p4 [.slice ya bps.length yc,.slice (some ⟨zb,zo,none⟩) bxs.length ic,.int .i64 bk,.bool bon.reg,.int .i64 bon.n,.slice bta bto.length btc] 52::Ent.vec ya bps.length yc 86 2 (ps.flatMap phiC)::Ent.vec (some ⟨vb,vo,none⟩) q.length xc 52 6 ((ds++q.drop i).flatMap blkC)::Ent.box p2 [.string ByteArray.empty,.int .i64 0,.int .i64 0,.slice none 0 0] 35::Ent.box p1 [.string nm,.int .i64 pa,.int .i64 re,.slice (some ⟨vb,vo,none⟩) q.length xc] 35::((ds.map blkE++ps.map phE)++(is++[(⟨yx,na,nc⟩ : IRow)]).map roE)) ?_ ?_
    ·rw [hl1]
     simp only [List.cons_append,List.map_append,List.map_cons,List.map_nil,List.append_assoc,roE]
    refine g_fix (L':=[(49,.int .i64 ((is++[(⟨yx,na,nc⟩ : IRow)]).length : Nat)),(47,.slice (some ⟨zb,zo,none⟩) bxs.length ic),(48,.int .i64 bxs.length),(3,.int .i64 i),(4,.pointer (some ⟨p4,0,none⟩)),(16,.int .i64 i),(14,.slice (some ⟨vb,vo,none⟩) q.length xc),(15,.int .i64 q.length),(2,.pointer (some ⟨p2,0,none⟩)),(1,.pointer (some ⟨p1,0,none⟩))]) ?_ (.refl _) ?_
    ·rw [hl1]
     exact (by repeat (first|exact trivial|refine ⟨rfl,?_⟩))
    refine g_next (is++[(⟨yx,na,nc⟩ : IRow)]) ⟨by rw [hl1]; omega,?_⟩ (by rw [hl1]; omega) (by repeat (first|exact trivial|refine ⟨rfl,?_⟩)) (.refl _)
    rw [hl1,List.take_add_one,hy,List.map_append,List.map_append,him]; rfl
   ·have hgi : is.length = bxs.length:=by have:=h3; simp at this; omega
    rw [hgi,List.drop_length,List.append_nil]
    rw [hgi,List.take_length] at him
    repeat (first|refine g_op rfl ?_|refine g_then ?_|refine g_region ?_|refine g_seq ?_|refine g_exit ?_|refine g_thenExit ?_|refine g_exitHere ?_)
    refine g_callE (val:=fun x : Option Addr × Nat=>.slice x.1 bto.length x.2) (E:=fun x=>[Ent.vec x.1 bto.length x.2 3 1 (bto.map (.int .i64))]) (φ:=fun _=>True) rfl (fun w hw=>cloneInt_c bta btc bto (by omega) w (hA.to.keep keeps_int hw.chg)) fun x _=>?_
    obtain ⟨oa,oc⟩:=x
    simp only [List.cons_append,List.nil_append]
    repeat (first|refine g_op rfl ?_|refine g_then ?_|refine g_nil ?_|refine g_region ?_|refine g_store ?_)
    rw [← hge,← hgi]
    refine g_storeVA 4 (j:=i * 6) rfl rfl (by rw [flat_len blkC_len,List.length_append,List.length_drop]; omega) ?_
    have hput:=flat_put blkC_len (l:=ds++q.drop i) (i:=i) (by rw [List.length_append,List.length_drop]; omega) (⟨ya,yc,ps,ia,ic,is,bk,bon,oa,oc,bto⟩ : BRow)
    rw [set_mid hiL hlt] at hput
    simp only [blkC] at hput
    rw [hput]
    repeat (first|refine g_then ?_|refine g_nil ?_|refine g_region ?_|refine g_opS rfl ?_|refine g_inBlock ?_|refine g_add rfl (by omega) (by omega) ?_)
    have hl1 : (ds++[(⟨ya,yc,ps,ia,ic,is,bk,bon,oa,oc,bto⟩ : BRow)]).length = i + 1:=by simp [hiL]
    refine g_fix (L':=[(16,.int .i64 ((i : Int) + 1)),(14,.slice (some ⟨vb,vo,none⟩) q.length xc),(15,.int .i64 q.length),(2,.pointer (some ⟨p2,0,none⟩)),(1,.pointer (some ⟨p1,0,none⟩))]) (by repeat (first|exact trivial|refine ⟨rfl,?_⟩)) (H':=Ent.vec oa bto.length oc 3 1 (bto.map (.int .i64))::Ent.vec ia is.length ic 89 8 (is.flatMap rowC)::Ent.vec ya ps.length yc 86 2 (ps.flatMap phiC)::Ent.vec (some ⟨vb,vo,none⟩) q.length xc 52 6 (((ds++[(⟨ya,yc,ps,ia,ic,is,bk,bon,oa,oc,bto⟩ : BRow)])++q.drop (i + 1)).flatMap blkC)::Ent.box p2 [.string ByteArray.empty,.int .i64 0,.int .i64 0,.slice none 0 0] 35::Ent.box p1 [.string nm,.int .i64 pa,.int .i64 re,.slice (some ⟨vb,vo,none⟩) q.length xc] 35::((ds.map blkE++ps.map phE)++is.map roE)) (.cons_cons _ (.cons_cons _ (.cons _ (.refl _)))) ?_
    refine g_permH (permCopy _ _ _ _ _ _ (ds.map blkE) (ps.map phE) (is.map roE)) ?_
    refine g_joinH ?_
    refine g_permH (List.perm_append_comm (l₁:=[blkE (⟨ya,yc,ps,ia,ic,is,bk,bon,oa,oc,bto⟩ : BRow)])) ?_
    refine g_eqH (H1:=Ent.vec (some ⟨vb,vo,none⟩) q.length xc 52 6 (((ds++[(⟨ya,yc,ps,ia,ic,is,bk,bon,oa,oc,bto⟩ : BRow)])++q.drop (ds++[(⟨ya,yc,ps,ia,ic,is,bk,bon,oa,oc,bto⟩ : BRow)]).length).flatMap blkC)::Ent.box p2 [.string ByteArray.empty,.int .i64 0,.int .i64 0,.slice none 0 0] 35::Ent.box p1 [.string nm,.int .i64 pa,.int .i64 re,.slice (some ⟨vb,vo,none⟩) q.length xc] 35::(ds++[(⟨ya,yc,ps,ia,ic,is,bk,bon,oa,oc,bto⟩ : BRow)]).map blkE) ?_ ?_
    ·rw [hl1]
     simp only [List.cons_append,List.map_append,List.map_cons,List.map_nil]
    refine g_fix (L':=[(16,.int .i64 ((ds++[(⟨ya,yc,ps,ia,ic,is,bk,bon,oa,oc,bto⟩ : BRow)]).length : Nat)),(14,.slice (some ⟨vb,vo,none⟩) q.length xc),(15,.int .i64 q.length),(2,.pointer (some ⟨p2,0,none⟩)),(1,.pointer (some ⟨p1,0,none⟩))]) ?_ (.refl _) ?_
    ·rw [hl1]
     exact (by repeat (first|exact trivial|refine ⟨rfl,?_⟩))
    refine g_next (ds++[(⟨ya,yc,ps,ia,ic,is,bk,bon,oa,oc,bto⟩ : BRow)]) ⟨by rw [hl1]; omega,?_,fun c hc=>?_⟩ (by rw [hl1]; omega) (by repeat (first|exact trivial|refine ⟨rfl,?_⟩)) (.refl _)
    ·rw [hl1,List.take_add_one,hb,List.map_append,List.map_append,hdm]
     simp [BRow.blk,hpm,him]
    ·rcases List.mem_append.1 hc with hc|hc
     ·exact hdb c hc
     ·rw [List.mem_singleton.1 hc]
      refine ⟨hB.kind,hB.on,by simp only; omega,fun p hp=>?_,by simp only; omega,fun y hy=>?_,hB.to⟩
      ·have : PRow.phi p ∈ bps.map PRow.phi:=by rw [← hpm]; exact List.mem_map.2 ⟨p,hp,rfl⟩
       obtain ⟨p',hp',e⟩:=List.mem_map.1 this
       have:=hB.phi p' hp'
       simp only [PRow.phi,LPhi.mk.injEq] at e
       rw [e.1,e.2] at this
       exact this
      ·have : y.x ∈ bxs.map (·.x):=by rw [← him]; exact List.mem_map.2 ⟨y,hy,rfl⟩
       obtain ⟨y',hy',e⟩:=List.mem_map.1 this
       have:=hB.ins y' hy'
       rw [e] at this
       exact this
 ·have hge : ds.length = q.length:=by have:=h1; simp at this; omega
  rw [hge,List.drop_length,List.append_nil]
  rw [hge,List.take_length,hqm] at hdm
  repeat (first|refine g_op rfl ?_|refine g_then ?_|refine g_nil ?_|refine g_region ?_|refine g_seq ?_|refine g_storeAgg ?_|refine g_exit ?_|refine g_thenExit ?_|refine g_exitHere ?_|refine g_ret ?_)
  refine g_retC rfl fun w hw=>⟨(xa,xc,ds),rfl,hw.sub (.cons_cons _ (.cons _ (.cons _ (.refl _)))),hdm,hdb⟩
end Go.Proofs.YtdbljcahlpkgdaaGreatDoor
namespace Go.Proofs.YtdbljcahlpkgdaaGreatDoor
open Go Go.RowKit
attribute [local irreducible] wpListIn Code.wpIn Exit.then Exit.inBlock bodyPost wpQuiet wpAnyIn wpAnyH
set_option maxHeartbeats 4000000
def manyL (bl : List LBlock) : Nat:=(bl.map fun b=>b.phis.length + b.list.length).sum
def largeL (bl : List LBlock) (re : Int) : Bool:=decide (40 < bl.length) || (decide (300 < manyL bl) || decide (100 < re))
theorem many_take {bl : List LBlock} {i : Nat} {b : LBlock} (h : bl[i]? = some b) : manyL (bl.take (i + 1)) = manyL (bl.take i) + (b.phis.length + b.list.length):=by
 unfold manyL
 rw [List.take_add_one,h]
 simp
theorem many_le {bl : List LBlock} (h : ∀ b ∈ bl,b.phis.length ≤ 1000∧b.list.length ≤ 1000) : ∀ i,manyL (bl.take i) ≤ 2000 * i:=by
 intro i
 induction i with
 | zero=>simp [manyL]
 | succ i ih =>
  cases hb : bl[i]? with
  | none =>
   have : bl.take (i + 1) = bl.take i:=by rw [List.take_add_one,hb]; simp
   rw [this]; omega
  | some b =>
   have:=h b (List.mem_of_getElem? hb)
   rw [many_take hb]; omega
theorem large_c (nm pa : Value) (re : Int) (bl : List LBlock) (bs : Value) (w0 : World) (hbs : SlAt w0 bs 6 bl BlockV) (hlen : bl.length ≤ 1000) (hb : ∀ b ∈ bl,b.phis.length ≤ 1000∧b.list.length ≤ 1000) :
  RetV Tryz.prog 41 [.agg #[nm,pa,.int .i64 re,bs]] w0 (.bool (largeL bl re)):=by
 obtain ⟨ba,n,bc,bb,bo,rfl,hn,hnc,hnb,hbc,hba,hel⟩:=hbs
 refine ret_enter Tryz.func41 rfl Tryz.ntmps41 rfl (Wd.nil NoS w0) ?_
 repeat (first|refine g_op rfl ?_|refine g_then ?_|refine g_nil ?_|refine g_region ?_|refine g_seq ?_|refine g_box rfl fun _ _=>?_|refine g_block ?_)
 rename_i p1 _
 have hml:=many_le hb
 refine g_loop (fun (i : Nat)=>i ≤ n) (fun i=>[(9,.int .i64 i),(3,.int .i64 (manyL (bl.take i))),(7,.slice ba n bc),(8,.int .i64 n),(1,.pointer (some ⟨p1,0,none⟩))]) (fun _=>[Ent.box p1 [nm,pa,.int .i64 re,.slice ba n bc] 35]) (fun i=>n - i) 0 (Nat.zero_le _) (g_done (by repeat (first|exact trivial|refine ⟨rfl,?_⟩)) (.refl _)) fun i hi=>?_
 repeat (first|refine g_op rfl ?_|refine g_then ?_|refine g_nil ?_|refine g_region ?_|refine g_seq ?_)
 refine g_cond (fun h1=>?_) (fun h1=>?_)
 ·have hlt : i < n:=by simpa using h1
  obtain ⟨B,hB⟩:=get_lt hn hlt
  have had : AddrIs ba bb bo:=⟨hba (ne_of_get hB)⟩
  have hli : LtIs i n:=⟨hlt⟩
  obtain ⟨cs,hcs,pv,lv,tv,rfl,_,_,hpv,hlv,htv⟩:=hel i B hB
  obtain ⟨pa',pn,pc,_,_,rfl,hpn,_⟩:=hpv
  obtain ⟨la,ln,lc,_,_,rfl,hln,_⟩:=hlv
  obtain ⟨ta,tn,tc,_,_,rfl,htn,_⟩:=htv
  have hci : CellsIs w0 bb (bo + i * 6) _:=⟨hcs⟩
  have hBl:=hb B (List.mem_of_getElem? hB)
  have hm:=hml i
  repeat (first|refine g_op rfl ?_|refine g_then ?_|refine g_nil ?_|refine g_region ?_|refine g_seq ?_|refine g_opS rfl ?_|refine g_alloc rfl fun _ _=>?_|refine g_storeAgg ?_|refine g_inBlock ?_|refine g_block ?_|refine g_skip ?_|refine g_add rfl (by omega) (by omega) ?_)
  refine g_fix (L':=[(9,.int .i64 ((i : Int) + 1)),(3,.int .i64 (manyL (bl.take (i + 1)))),(7,.slice ba n bc),(8,.int .i64 n),(1,.pointer (some ⟨p1,0,none⟩))]) ?_ (.refl _) ?_
  ·rw [many_take hB,← hpn,← hln]
   rw [show (((manyL (bl.take i) + (pn + ln) : Nat) : Int)) = (manyL (bl.take i) : Int) + ((pn : Int) + (ln : Int)) by omega]
   exact (by repeat (first|exact trivial|refine ⟨rfl,?_⟩))
  exact g_next (i + 1) hlt (by omega) (by repeat (first|exact trivial|refine ⟨rfl,?_⟩)) (.cons _ (.refl _))
 ·have hge : i = n:=by have:=h1; simp at this; omega
  rw [hge,hn,List.take_length]
  have hln:=hn
  repeat (first|refine g_op rfl ?_|refine g_then ?_|refine g_region ?_|refine g_seq ?_|refine g_exit ?_|refine g_thenExit ?_|refine g_exitHere ?_)
  by_cases h40 : 40 < bl.length
  ·rw [show decide ((40 : Int) < (bl.length : Int)) = true by simp; omega]
   repeat (first|refine g_op rfl ?_|refine g_then ?_|refine g_nil ?_|refine g_pass rfl ?_|refine g_ret ?_)
   exact g_retV rfl (by simp [largeL,h40])
  rw [show decide ((40 : Int) < (bl.length : Int)) = false by simp; omega]
  repeat (first|refine g_op rfl ?_|refine g_open ?_)
  by_cases h300 : 300 < manyL bl
  ·rw [show decide ((300 : Int) < (manyL bl : Int)) = true by simp; omega]
   repeat (first|refine g_op rfl ?_|refine g_then ?_|refine g_nil ?_|refine g_pass rfl ?_|refine g_ret ?_)
   exact g_retV rfl (by simp [largeL,h300])
  rw [show decide ((300 : Int) < (manyL bl : Int)) = false by simp; omega]
  repeat (first|refine g_op rfl ?_|refine g_then ?_|refine g_nil ?_|refine g_open ?_|refine g_ret ?_)
  exact g_retV rfl (by simp [largeL,h40,h300])
end Go.Proofs.YtdbljcahlpkgdaaGreatDoor
namespace Go.Proofs.YtdbljcahlpkgdaaGreatDoor
open Go Go.RowKit
attribute [local irreducible] wpListIn Code.wpIn Exit.then Exit.inBlock bodyPost wpQuiet wpAnyIn wpAnyH
set_option maxHeartbeats 8000000
structure GRow where
 name : ByteArray
 size : Int
 a : Option Addr
 c : Nat
 init : List Int
structure QRow where
 name : ByteArray
 params : Int
 regs : Int
 a : Option Addr
 c : Nat
 blocks : List LBlock
def GRow.glo (g : GRow) : LGlobal:=⟨g.name,g.size,g.init⟩
def QRow.fun' (q : QRow) : LFunc:=⟨q.name,q.params,q.regs,q.blocks⟩
def gloC (g : GRow) : List Value:=[.string g.name,.int .i64 g.size,.slice g.a g.init.length g.c]
def funC (q : QRow) : List Value:=[.string q.name,.int .i64 q.params,.int .i64 q.regs,.slice q.a q.blocks.length q.c]
def gloE (g : GRow) : Ent:=Ent.vec g.a g.init.length g.c 3 1 (g.init.map (.int .i64))
theorem gloC_len (g : GRow) : (gloC g).length = 3:=rfl
theorem funC_len (q : QRow) : (funC q).length = 4:=rfl
def GloC (_ : World) (g : GRow) (cs : List Value) : Prop:=cs = gloC g
def FunC (_ : World) (q : QRow) (cs : List Value) : Prop:=cs = funC q
theorem glo_rows {w : World} {v : Value} {l : List LGlobal} (h : SlAt w v 3 l GlobalV) : ∃ (a : Option Addr) (c : Nat) (gs : List GRow),v = .slice a gs.length c∧gs.map GRow.glo = l∧SlAt w v 3 gs GloC∧∀ g ∈ gs,inI g.size∧SlAt w (.slice g.a g.init.length g.c) 1 g.init IntV:=by
 obtain ⟨a,n,c,b,o,rfl,hn,_⟩:=id h
 obtain ⟨m,hml,hsl,hq⟩:=slAt_pick (U:=GloC) (q:=fun x y=>GRow.glo y = x∧inI y.size∧SlAt w (.slice y.a y.init.length y.c) 1 y.init IntV) h fun x _ cs ⟨v,e,hd,hs⟩=>by
  have hs0:=hs
  obtain ⟨a',n',c',_,_,rfl,hn',_⟩:=hs0
  subst hn'
  exact ⟨⟨x.name,x.size,a',c',x.init⟩,e,rfl,hd,hs⟩
 have hmap:=map_pick (f:=GRow.glo) hml fun i x hx=>by
  obtain ⟨y,hy,e,_⟩:=hq i x hx
  exact ⟨y,hy,e⟩
 refine ⟨a,c,m,by rw [hml,hn],hmap,hsl,fun p hp=>?_⟩
 obtain ⟨i,hi⟩:=List.getElem?_of_mem hp
 obtain ⟨y,hy,_,h2⟩:=hq i (l[i]'(by rw [← hml]; exact (List.getElem?_eq_some_iff.1 hi).1)) (List.getElem?_eq_getElem _)
 rw [hi] at hy
 obtain rfl:=Option.some.inj hy
 exact h2
theorem fun_rows {w : World} {v : Value} {l : List LFunc} (h : SlAt w v 4 l FuncV) : ∃ (a : Option Addr) (c : Nat) (qs : List QRow),v = .slice a qs.length c∧qs.map QRow.fun' = l∧SlAt w v 4 qs FunC∧∀ q ∈ qs,(inI q.params∧inI q.regs)∧SlAt w (.slice q.a q.blocks.length q.c) 6 q.blocks BlockV:=by
 obtain ⟨a,n,c,b,o,rfl,hn,_⟩:=id h
 obtain ⟨m,hml,hsl,hq⟩:=slAt_pick (U:=FunC) (q:=fun x y=>QRow.fun' y = x∧(inI y.params∧inI y.regs)∧SlAt w (.slice y.a y.blocks.length y.c) 6 y.blocks BlockV) h fun x _ cs ⟨v,e,hp,hr,hs⟩=>by
  have hs0:=hs
  obtain ⟨a',n',c',_,_,rfl,hn',_⟩:=hs0
  subst hn'
  exact ⟨⟨x.name,x.params,x.regs,a',c',x.blocks⟩,e,rfl,⟨hp,hr⟩,hs⟩
 have hmap:=map_pick (f:=QRow.fun') hml fun i x hx=>by
  obtain ⟨y,hy,e,_⟩:=hq i x hx
  exact ⟨y,hy,e⟩
 refine ⟨a,c,m,by rw [hml,hn],hmap,hsl,fun p hp=>?_⟩
 obtain ⟨i,hi⟩:=List.getElem?_of_mem hp
 obtain ⟨y,hy,_,h2⟩:=hq i (l[i]'(by rw [← hml]; exact (List.getElem?_eq_some_iff.1 hi).1)) (List.getElem?_eq_getElem _)
 rw [hi] at hy
 obtain rfl:=Option.some.inj hy
 exact h2
theorem cloneGlobal_c (a : Option Addr) (c : Nat) (l : List GRow) (hb : l.length ≤ 100000) (w0 : World) (h : SlAt w0 (.slice a l.length c) 3 l GloC) :
  Ret Tryz.prog 37 [.slice a l.length c] w0 fun u w'=>∃ x : Option Addr × Nat,u = .slice x.1 l.length x.2∧Wd NoS w0 [Ent.vec x.1 l.length x.2 57 3 (l.flatMap gloC)] w'∧True:=by
 refine ret_enter Tryz.func37 rfl Tryz.ntmps37 rfl (Wd.nil NoS w0) ?_
 repeat (first|refine g_op rfl ?_|refine g_then ?_|refine g_nil ?_|refine g_region ?_|refine g_seq ?_)
 cases a with
 | none =>
  have hl0 : l = []:=by
   obtain ⟨_,_,_,b,o,ha,_⟩:=h.at
   exact Classical.byContradiction fun hn=>by cases ha hn
  subst hl0
  repeat (first|refine g_then ?_|refine g_nil ?_|refine g_region ?_|refine g_seq ?_|refine g_opS rfl ?_|refine g_condT ?_|refine g_ret ?_|refine g_thenRet ?_)
  refine g_nilVec 57 3 ?_
  exact g_ret1 rfl fun w hw=>⟨(none,0),rfl,hw,trivial⟩
 | some ad =>
  repeat (first|refine g_then ?_|refine g_region ?_|refine g_seq ?_|refine g_skip ?_|refine g_condF ?_)
  refine g_build0 rfl fun eb _=>?_
  repeat (refine g_op rfl ?_)
  refine g_appendF rfl rfl l gloC (fun _ _ _ h=>h) (fun _=>rfl) (fun y u hu=>by simp only [gloC,List.mem_cons,List.not_mem_nil,or_false] at hu; rcases hu with rfl|rfl|rfl <;> rfl) (fun w hw=>h.keep (fun _ _ _ _ _ h=>h) hw.chg) (by omega) (by omega) fun a' c'=>?_
  rw [List.nil_append,Nat.zero_add]
  repeat (first|refine g_then ?_|refine g_nil ?_|refine g_opS rfl ?_|refine g_ret ?_)
  exact g_ret1 rfl fun w hw=>⟨(a',c'),rfl,hw,trivial⟩
theorem cloneFunc_c (a : Option Addr) (c : Nat) (l : List QRow) (hb : l.length ≤ 100000) (w0 : World) (h : SlAt w0 (.slice a l.length c) 4 l FunC) :
  Ret Tryz.prog 39 [.slice a l.length c] w0 fun u w'=>∃ x : Option Addr × Nat,u = .slice x.1 l.length x.2∧Wd NoS w0 [Ent.vec x.1 l.length x.2 35 4 (l.flatMap funC)] w'∧True:=by
 refine ret_enter Tryz.func39 rfl Tryz.ntmps39 rfl (Wd.nil NoS w0) ?_
 repeat (first|refine g_op rfl ?_|refine g_then ?_|refine g_nil ?_|refine g_region ?_|refine g_seq ?_)
 cases a with
 | none =>
  have hl0 : l = []:=by
   obtain ⟨_,_,_,b,o,ha,_⟩:=h.at
   exact Classical.byContradiction fun hn=>by cases ha hn
  subst hl0
  repeat (first|refine g_then ?_|refine g_nil ?_|refine g_region ?_|refine g_seq ?_|refine g_opS rfl ?_|refine g_condT ?_|refine g_ret ?_|refine g_thenRet ?_)
  refine g_nilVec 35 4 ?_
  exact g_ret1 rfl fun w hw=>⟨(none,0),rfl,hw,trivial⟩
 | some ad =>
  repeat (first|refine g_then ?_|refine g_region ?_|refine g_seq ?_|refine g_skip ?_|refine g_condF ?_)
  refine g_build0 rfl fun eb _=>?_
  repeat (refine g_op rfl ?_)
  refine g_appendF rfl rfl l funC (fun _ _ _ h=>h) (fun _=>rfl) (fun y u hu=>by simp only [funC,List.mem_cons,List.not_mem_nil,or_false] at hu; rcases hu with rfl|rfl|rfl|rfl <;> rfl) (fun w hw=>h.keep (fun _ _ _ _ _ h=>h) hw.chg) (by omega) (by omega) fun a' c'=>?_
  rw [List.nil_append,Nat.zero_add]
  repeat (first|refine g_then ?_|refine g_nil ?_|refine g_opS rfl ?_|refine g_ret ?_)
  exact g_ret1 rfl fun w hw=>⟨(a',c'),rfl,hw,trivial⟩
def fnE (a : Option Addr) (c : Nat) (bs : List BRow) : List Ent:=Ent.vec a bs.length c 52 6 (bs.flatMap blkC)::bs.map blkE
def Turns (w0 : World) (tf : Nat) (us xs : List Value) (T : LFunc→LFunc) (X : LFunc) : Prop:=∀ (a : Option Addr) (c : Nat) (bs : List BRow) (w : World),bs.map BRow.blk = X.blocks→(∀ b ∈ bs,b.Bd)→Chg NoS w0 w→(∀ b,fps (fnE a c bs) b→w0.heap.size ≤ b)→Wd (fps (fnE a c bs)) w (fnE a c bs) w →
 Ret Tryz.prog tf (us++[.agg #[.string X.name,.int .i64 X.params,.int .i64 X.regs,.slice a bs.length c]]++xs) w fun u w'=>∃ x : Option Addr × Nat × List BRow,u = .agg #[.string (T X).name,.int .i64 (T X).params,.int .i64 (T X).regs,.slice x.1 x.2.2.length x.2.1]∧Wd (fps (fnE a c bs)) w (fnE x.1 x.2.1 x.2.2) w' ∧
  (x.2.2.map BRow.blk = (T X).blocks∧(∀ b ∈ x.2.2,b.Bd)∧x.2.2.length ≤ 1000∧inI (T X).params∧inI (T X).regs)
structure DRow where
 q : QRow
 fp : Nat→Prop
def doneE (d : DRow) : Ent:=⟨d.fp,fun w=>SlAt w (.slice d.q.a d.q.blocks.length d.q.c) 6 d.q.blocks BlockV⟩
structure FnLim (X : LFunc) : Prop where
 n : X.blocks.length ≤ 1000
 each : ∀ b ∈ X.blocks,b.phis.length ≤ 1000∧(∀ p ∈ b.phis,p.src.length ≤ 1000)∧b.list.length ≤ 1000∧(∀ i ∈ b.list,i.args.length ≤ 1000)∧b.to.length ≤ 1000
theorem FnLim.bd {X : LFunc} (h : FnLim X) {w : World} {b : BRow} (hb : b.blk ∈ X.blocks) (hA : BlkAt w b) : b.Bd:=by
 obtain ⟨h1,h2,h3,h4,h5⟩:=h.each _ hb
 simp only [BRow.blk,List.length_map] at h1 h3 h5
 exact hA.bd h1 (fun p hp=>h2 p.phi (by simp only [BRow.blk]; exact List.mem_map.2 ⟨p,hp,rfl⟩)) h3 (fun i hi=>h4 i.x (by simp only [BRow.blk]; exact List.mem_map.2 ⟨i,hi,rfl⟩)) h5
def largeF (X : LFunc) : Bool:=largeL X.blocks X.regs
def unitE (u : LUnit) (g f : Value) (fp : Nat→Prop) : Ent:=⟨fp,fun w=>SlAt w g 3 u.globals GlobalV∧SlAt w f 4 u.funcs FuncV⟩
def EachR (u : LUnit) (T : LFunc→LFunc) (w0 : World) (v : Value) (w' : World) : Prop :=
 (∃ (i : Nat) (X : LFunc),u.funcs[i]? = some X∧largeF (T X) = true∧(∀ (j : Nat) (Y : LFunc),j < i→u.funcs[j]? = some Y→largeF (T Y) = false)∧v = .tuple #[.agg #[.slice none 0 0,.slice none 0 0],.agg #[.int .i64 10,.int .i64 i]]∧Chg NoS w0 w') ∨
  ((∀ X ∈ u.funcs,largeF (T X) = false)∧∃ (ga fa : Option Addr) (gc fc : Nat) (fp : Nat→Prop),v = .tuple #[.agg #[.slice ga u.globals.length gc,.slice fa u.funcs.length fc],.agg #[.int .i64 0,.int .i64 0]]∧Wd NoS w0 [unitE { u with funcs:=u.funcs.map T } (.slice ga u.globals.length gc) (.slice fa u.funcs.length fc) fp] w')
theorem g_doneFn {N : Nat} {ds : List Deferred} {S : Nat→Prop} {w0 : World} {L : List (Nat × Value)} {H : List Ent} {p : Act→World→Prop} {a : Option Addr} {c : Nat} {bs : List BRow} (q : QRow) (hn : bs.length ≤ 1000) (hb : ∀ b ∈ bs,b.Bd) (hq : bs.map BRow.blk = q.blocks) (ha : q.a = a) (hc : q.c = c)
  (k : G N ds S w0 L (doneE ⟨q,fps (fnE a c bs)⟩::H) p) : G N ds S w0 L (fnE a c bs++H) p:=fun act w hS=>k act w ⟨hS.fr,hS.wd.pack _ fun w2 hw=>by
 subst ha; subst hc
 have hl : q.blocks.length = bs.length:=by rw [← hq,List.length_map]
 have h2 : Wd (fps (fnE q.a q.c bs)) w2 (Ent.vec q.a bs.length q.c 52 6 (bs.flatMap blkC)::(bs.map blkE++[])) w2:=by rw [List.append_nil]; exact hw
 have:=h2.blocks hn hb
 rw [hq] at this
 simp only [hl]
 exact this⟩
theorem each_c (u : LUnit) (hgl : u.globals.length ≤ 100000∧∀ g ∈ u.globals,g.init.length ≤ 100000) (hfl : u.funcs.length ≤ 1000∧∀ X ∈ u.funcs,FnLim X) (g fs : Value) (w0 : World) (hg : SlAt w0 g 3 u.globals GlobalV) (hf : SlAt w0 fs 4 u.funcs FuncV)
  (tf : Nat) [EnterOk Tryz.prog tf] (us xs : List Value) (T : LFunc→LFunc) (hT : ∀ X ∈ u.funcs,Turns w0 tf us xs T X) :
  Ret Tryz.prog 16 [.agg #[g,fs],.func (.func tf) us.toArray xs.toArray] w0 (EachR u T w0):=by
 obtain ⟨ga,gc,gs,rfl,hgm,hgs,hga⟩:=glo_rows hg
 obtain ⟨fa,fc,qs,rfl,hqm,hqs,hqa⟩:=fun_rows hf
 have hgsl : gs.length = u.globals.length:=by rw [← hgm,List.length_map]
 have hqsl : qs.length = u.funcs.length:=by rw [← hqm,List.length_map]
 refine ret_enter Tryz.func16 rfl Tryz.ntmps16 rfl (Wd.nil NoS w0) ?_
 repeat (first|refine g_op rfl ?_|refine g_then ?_|refine g_nil ?_|refine g_region ?_|refine g_seq ?_|refine g_box rfl fun _ _=>?_|refine g_alloc rfl fun _ _=>?_)
 rename_i p1 _ p2 _ p3 _
 refine g_callE (val:=fun x : Option Addr × Nat=>.slice x.1 gs.length x.2) (E:=fun x=>[Ent.vec x.1 gs.length x.2 57 3 (gs.flatMap gloC)]) (φ:=fun _=>True) rfl (fun w hw=>cloneGlobal_c ga gc gs (by omega) w (hgs.keep (fun _ _ _ _ _ h=>h) hw.chg)) fun x _=>?_
 obtain ⟨xa,xc⟩:=x
 simp only [List.cons_append,List.nil_append]
 repeat (first|refine g_op rfl ?_|refine g_then ?_|refine g_nil ?_|refine g_region ?_|refine g_seq ?_|refine g_store ?_|refine g_block ?_)
 refine g_loop (fun (ds : List GRow)=>ds.length ≤ gs.length∧ds.map GRow.glo = (gs.take ds.length).map GRow.glo) (fun ds=>[(17,.int .i64 ds.length),(15,.slice xa gs.length xc),(16,.int .i64 gs.length),(2,.pointer (some ⟨p1,0,none⟩)),(4,.pointer (some ⟨p2,0,none⟩)),(5,.pointer (some ⟨p3,0,none⟩)),(1,(Value.func (.func tf) us.toArray xs.toArray))])
  (fun ds=>Ent.vec xa gs.length xc 57 3 ((ds++gs.drop ds.length).flatMap gloC)::Ent.box p3 [.int .i64 0,.int .i64 0] 28::Ent.box p2 [.slice none 0 0,.slice none 0 0] 25::Ent.box p1 [.slice xa gs.length xc,.slice fa qs.length fc] 25::ds.map gloE) (fun ds=>gs.length - ds.length) [] ⟨Nat.zero_le _,rfl⟩ (g_done (by repeat (first|exact trivial|refine ⟨rfl,?_⟩)) (by simp)) fun ds ⟨hi,hdm⟩=>?_
 repeat (first|refine g_op rfl ?_|refine g_then ?_|refine g_nil ?_|refine g_region ?_|refine g_seq ?_)
 refine g_cond (fun h1=>?_) (fun h1=>?_)
 ·have hlt : ds.length < gs.length:=by simpa using h1
  generalize hiL : ds.length = j at *
  obtain ⟨y,hy⟩ : ∃ y,gs[j]? = some y:=⟨_,List.getElem?_eq_getElem hlt⟩
  have hym:=List.mem_of_getElem? hy
  obtain ⟨_,hyv⟩:=hga y hym
  have hyl:=hgl.2 y.glo (by rw [← hgm]; exact List.mem_map.2 ⟨y,hym,rfl⟩)
  obtain ⟨yn,yz,yla,ylc,yi⟩:=y
  simp only [GRow.glo] at hyv hyl
  refine g_vec 0 rfl (by omega) fun zb zo hza=>?_
  subst hza
  have hlj : LtIs j gs.length:=⟨hlt⟩
  have hgety : (ds++gs.drop j)[j]? = some (⟨yn,yz,yla,ylc,yi⟩ : GRow):=by
   rw [List.getElem?_append_right (by omega),hiL,Nat.sub_self,List.getElem?_drop,Nat.add_zero]; exact hy
  have hob : OwnAgg (Ent.vec (some ⟨zb,zo,none⟩) gs.length xc 57 3 ((ds++gs.drop j).flatMap gloC)::Ent.box p3 [.int .i64 0,.int .i64 0] 28::Ent.box p2 [.slice none 0 0,.slice none 0 0] 25::Ent.box p1 [.slice (some ⟨zb,zo,none⟩) gs.length xc,.slice fa qs.length fc] 25::ds.map gloE) zb (zo + j * 3) _:=ownAgg (k:=0) rfl gloC_len hgety
  simp only [gloC] at hob
  repeat (first|refine g_op rfl ?_|refine g_then ?_|refine g_nil ?_|refine g_region ?_|refine g_seq ?_|refine g_alloc rfl fun _ _=>?_|refine g_storeAgg ?_|refine g_block ?_|refine g_skip ?_)
  rename_i p8 _
  refine g_drawH (Ent.box p8 [.string yn,.int .i64 yz,.slice yla yi.length ylc] 57::Ent.box p3 [.int .i64 0,.int .i64 0] 28::Ent.box p2 [.slice none 0 0,.slice none 0 0] 25::Ent.box p1 [.slice (some ⟨zb,zo,none⟩) gs.length xc,.slice fa qs.length fc] 25::ds.map gloE) mixed (.cons_cons _ (.cons _ (.refl _))) ?_
  refine h_take 0 rfl (by decide +kernel) (.cons_cons _ (.cons _ (.refl _))) ?_
  refine h_take 1 rfl (by decide +kernel) (.cons_cons _ (.cons _ (.refl _))) ?_
  refine h_take 2 rfl (by decide +kernel) (.cons_cons _ (.cons _ (.refl _))) ?_
  refine h_take 3 rfl (by decide +kernel) (.cons_cons _ (.cons _ (.refl _))) ?_
  refine h_take 4 rfl (by decide +kernel) (.cons_cons _ (.cons _ (.refl _))) ?_
  refine h_callE 5 (val:=fun x : Option Addr × Nat=>.slice x.1 yi.length x.2) (E:=fun x=>[Ent.vec x.1 yi.length x.2 3 1 (yi.map (.int .i64))]) (φ:=fun _=>True) rfl (by decide +kernel) (.cons_cons _ (.cons _ (.refl _))) (fun w hw=>cloneInt_c yla ylc yi (by omega) w (hyv.keep keeps_int hw.chg)) fun x _=>?_
  obtain ⟨na,nc⟩:=x
  simp only [List.cons_append,List.nil_append]
  refine h_take 6 rfl (by decide +kernel) (.cons _ (.cons_cons _ (.cons _ (.refl _)))) ?_
  refine h_take 7 rfl (by decide +kernel) (.cons _ (.cons_cons _ (.cons _ (.refl _)))) ?_
  have hot : OwnAt (Ent.vec na yi.length nc 3 1 (yi.map (.int .i64))::Ent.box p8 [.string yn,.int .i64 yz,.slice yla yi.length ylc] 57::Ent.vec (some ⟨zb,zo,none⟩) gs.length xc 57 3 ((ds++gs.drop j).flatMap gloC)::Ent.box p3 [.int .i64 0,.int .i64 0] 28::Ent.box p2 [.slice none 0 0,.slice none 0 0] 25::Ent.box p1 [.slice (some ⟨zb,zo,none⟩) gs.length xc,.slice fa qs.length fc] 25::ds.map gloE) zb (zo + j * 3 + 2) 2 zo (j * 3 + 2) gs.length xc 57 3 ((ds++gs.drop j).flatMap gloC):=⟨rfl,by omega⟩
  have hxs : XSet ((ds++gs.drop j).flatMap gloC) (j * 3 + 2) (.slice na yi.length nc) (((ds++[(⟨yn,yz,na,nc,yi⟩ : GRow)])++gs.drop (j + 1)).flatMap gloC):=⟨by
    rw [flat_set gloC_len hgety (k:=2) (by omega) (y:=⟨yn,yz,na,nc,yi⟩) rfl]
    congr 1
    exact set_mid hiL hlt,by rw [flat_len gloC_len,List.length_append,List.length_drop]; omega⟩
  refine h_storeV 8 (by decide +kernel) (by decide +kernel) (.cons _ (.cons_cons _ (.cons _ (.refl _)))) ?_
  repeat (first|refine g_then ?_|refine g_nil ?_|refine g_region ?_|refine g_opS rfl ?_|refine g_inBlock ?_|refine g_add rfl (by omega) (by omega) ?_)
  have hl1 : (ds++[(⟨yn,yz,na,nc,yi⟩ : GRow)]).length = j + 1:=by simp [hiL]
  refine g_fix (L':=[(17,.int .i64 ((j : Int) + 1)),(15,.slice (some ⟨zb,zo,none⟩) gs.length xc),(16,.int .i64 gs.length),(2,.pointer (some ⟨p1,0,none⟩)),(4,.pointer (some ⟨p2,0,none⟩)),(5,.pointer (some ⟨p3,0,none⟩)),(1,(Value.func (.func tf) us.toArray xs.toArray))]) (by repeat (first|exact trivial|refine ⟨rfl,?_⟩)) (.cons_cons _ (.cons _ (.refl _))) ?_
  refine g_permH (List.perm_append_comm (l₁:=[Ent.vec na yi.length nc 3 1 (yi.map (.int .i64))])) ?_
  refine g_eqH (H1:=Ent.vec (some ⟨zb,zo,none⟩) gs.length xc 57 3 (((ds++[(⟨yn,yz,na,nc,yi⟩ : GRow)])++gs.drop (ds++[(⟨yn,yz,na,nc,yi⟩ : GRow)]).length).flatMap gloC)::Ent.box p3 [.int .i64 0,.int .i64 0] 28::Ent.box p2 [.slice none 0 0,.slice none 0 0] 25::Ent.box p1 [.slice (some ⟨zb,zo,none⟩) gs.length xc,.slice fa qs.length fc] 25::(ds++[(⟨yn,yz,na,nc,yi⟩ : GRow)]).map gloE) ?_ ?_
  ·rw [hl1]
   simp only [List.cons_append,List.map_append,List.map_cons,List.map_nil,gloE]
  refine g_fix (L':=[(17,.int .i64 ((ds++[(⟨yn,yz,na,nc,yi⟩ : GRow)]).length : Nat)),(15,.slice (some ⟨zb,zo,none⟩) gs.length xc),(16,.int .i64 gs.length),(2,.pointer (some ⟨p1,0,none⟩)),(4,.pointer (some ⟨p2,0,none⟩)),(5,.pointer (some ⟨p3,0,none⟩)),(1,(Value.func (.func tf) us.toArray xs.toArray))]) ?_ (.refl _) ?_
  ·rw [hl1]
   exact (by repeat (first|exact trivial|refine ⟨rfl,?_⟩))
  refine g_next (ds++[(⟨yn,yz,na,nc,yi⟩ : GRow)]) ⟨by rw [hl1]; omega,?_⟩ (by rw [hl1]; omega) (by repeat (first|exact trivial|refine ⟨rfl,?_⟩)) (.refl _)
  rw [hl1,List.take_add_one,hy,List.map_append,List.map_append,hdm]; rfl
 ·have hge : ds.length = gs.length:=by have:=h1; simp at this; omega
  rw [hge,List.drop_length,List.append_nil]
  rw [hge,List.take_length,hgm] at hdm
  repeat (first|refine g_op rfl ?_|refine g_then ?_|refine g_region ?_|refine g_seq ?_|refine g_exit ?_|refine g_thenExit ?_|refine g_exitHere ?_)
  refine g_callE (val:=fun x : Option Addr × Nat=>.slice x.1 qs.length x.2) (E:=fun x=>[Ent.vec x.1 qs.length x.2 35 4 (qs.flatMap funC)]) (φ:=fun _=>True) rfl (fun w hw=>cloneFunc_c fa fc qs (by omega) w (hqs.keep (fun _ _ _ _ _ h=>h) hw.chg)) fun x _=>?_
  obtain ⟨ya,yc⟩:=x
  simp only [List.cons_append,List.nil_append]
  repeat (first|refine g_op rfl ?_|refine g_then ?_|refine g_nil ?_|refine g_region ?_|refine g_seq ?_|refine g_store ?_|refine g_block ?_)
  rw [← hge]
  have hdb : ∀ g ∈ ds,inI g.size∧g.init.length ≤ 100000∧∀ z ∈ g.init,inI z:=fun g hg'=>by
   have h0 : g.glo ∈ gs.map GRow.glo:=by rw [hgm,← hdm]; exact List.mem_map.2 ⟨g,hg',rfl⟩
   obtain ⟨g',hg1,e⟩:=List.mem_map.1 h0
   have h3:=hga g' hg1
   have h4:=hgl.2 g'.glo (by rw [← hgm]; exact List.mem_map.2 ⟨g',hg1,rfl⟩)
   simp only [GRow.glo,LGlobal.mk.injEq] at e h4
   rw [e.2.2] at h4
   exact ⟨by rw [← e.2.1]; exact h3.1,h4,fun z hz=>int_in h3.2 z (by rw [e.2.2]; exact hz)⟩
  refine g_permH (H1:=Ent.vec ya qs.length yc 35 4 (qs.flatMap funC)::Ent.box p3 [.int .i64 0,.int .i64 0] 28::Ent.box p2 [.slice none 0 0,.slice none 0 0] 25::Ent.box p1 [.slice xa ds.length xc,.slice ya qs.length yc] 25::Ent.vec xa ds.length xc 57 3 (ds.flatMap gloC)::ds.map gloE) ((((List.Perm.swap _ _ _).trans (List.Perm.cons _ (List.Perm.swap _ _ _))).trans (List.Perm.cons _ (List.Perm.cons _ (List.Perm.swap _ _ _)))).cons _) ?_
  refine g_loop (fun (es : List DRow)=>es.length ≤ qs.length∧es.map (fun d=>d.q.fun') = (qs.take es.length).map (fun q=>T q.fun')∧(∀ d ∈ es,inI d.q.params∧inI d.q.regs)∧∀ d ∈ es,largeF d.q.fun' = false) (fun es=>[(38,.int .i64 es.length),(36,.slice ya qs.length yc),(37,.int .i64 qs.length),(2,.pointer (some ⟨p1,0,none⟩)),(4,.pointer (some ⟨p2,0,none⟩)),(5,.pointer (some ⟨p3,0,none⟩)),(1,(Value.func (.func tf) us.toArray xs.toArray))])
   (fun es=>Ent.vec ya qs.length yc 35 4 ((es.map (·.q)++qs.drop es.length).flatMap funC)::Ent.box p3 [.int .i64 0,.int .i64 0] 28::Ent.box p2 [.slice none 0 0,.slice none 0 0] 25::Ent.box p1 [.slice xa ds.length xc,.slice ya qs.length yc] 25::Ent.vec xa ds.length xc 57 3 (ds.flatMap gloC)::(ds.map gloE++es.map doneE)) (fun es=>qs.length - es.length) [] ⟨Nat.zero_le _,rfl,by simp,by simp⟩ (g_done (by repeat (first|exact trivial|refine ⟨rfl,?_⟩)) (by simp)) fun es ⟨hi2,hem,heb,hel⟩=>?_
  repeat (first|refine g_op rfl ?_|refine g_then ?_|refine g_nil ?_|refine g_region ?_|refine g_seq ?_)
  refine g_cond (fun h2=>?_) (fun h2=>?_)
  ·have hlt : es.length < qs.length:=by simpa using h2
   generalize hiL : es.length = i at *
   obtain ⟨q,hq⟩ : ∃ q,qs[i]? = some q:=⟨_,List.getElem?_eq_getElem hlt⟩
   have hqm':=List.mem_of_getElem? hq
   obtain ⟨⟨hqp,hqr⟩,hqv⟩:=hqa q hqm'
   have hXm : q.fun' ∈ u.funcs:=by rw [← hqm]; exact List.mem_map.2 ⟨q,hqm',rfl⟩
   have hXi : u.funcs[i]? = some q.fun':=by rw [← hqm,List.getElem?_map,hq]; rfl
   have hlim:=hfl.2 _ hXm
   have hTX:=hT _ hXm
   obtain ⟨qn,qp,qr,qa,qc,qb⟩:=q
   simp only [QRow.fun'] at hqp hqr hqv hlim hTX hXm hXi
   refine g_vec 0 rfl (by omega) fun vb vo hva=>?_
   subst hva
   have hli : LtIs i qs.length:=⟨hlt⟩
   have hget : (es.map (·.q)++qs.drop i)[i]? = some (⟨qn,qp,qr,qa,qc,qb⟩ : QRow):=by
    rw [List.getElem?_append_right (by rw [List.length_map]; omega),List.length_map,hiL,Nat.sub_self,List.getElem?_drop,Nat.add_zero]; exact hq
   have hob : OwnAgg (Ent.vec (some ⟨vb,vo,none⟩) qs.length yc 35 4 ((es.map (·.q)++qs.drop i).flatMap funC)::Ent.box p3 [.int .i64 0,.int .i64 0] 28::Ent.box p2 [.slice none 0 0,.slice none 0 0] 25::Ent.box p1 [.slice xa ds.length xc,.slice (some ⟨vb,vo,none⟩) qs.length yc] 25::Ent.vec xa ds.length xc 57 3 (ds.flatMap gloC)::(ds.map gloE++es.map doneE)) vb (vo + i * 4) _:=ownAgg (k:=0) rfl funC_len hget
   simp only [funC] at hob
   repeat (first|refine g_op rfl ?_|refine g_then ?_|refine g_nil ?_|refine g_region ?_|refine g_seq ?_|refine g_alloc rfl fun _ _=>?_|refine g_storeAgg ?_|refine g_block ?_|refine g_skip ?_)
   rename_i p9 _
   refine g_callE (val:=fun x : Option Addr × Nat × List BRow=>.agg #[.string qn,.int .i64 qp,.int .i64 qr,.slice x.1 qb.length x.2.1]) (E:=fun x=>Ent.vec x.1 qb.length x.2.1 52 6 (x.2.2.flatMap blkC)::x.2.2.map blkE) (φ:=fun x=>x.2.2.map BRow.blk = qb∧∀ b ∈ x.2.2,b.Bd) rfl (fun w hw=>copy_c qn qp qr qb (.slice qa qb.length qc) w (hqv.keep keeps_block hw.chg) hlim.n fun b hb hA=>hlim.bd hb hA) fun x hx=>?_
   obtain ⟨ca,cc,rows⟩:=x
   obtain ⟨hrm,hrb⟩:=hx
   simp only at hrm hrb
   have hrl : qb.length = rows.length:=by rw [← hrm,List.length_map]
   simp only [hrl]
   refine g_callFS (H1:=fnE ca cc rows) (us:=us) (xs:=xs) (val:=fun x : Option Addr × Nat × List BRow=>.agg #[.string (T (⟨qn,qp,qr,qb⟩ : LFunc)).name,.int .i64 (T (⟨qn,qp,qr,qb⟩ : LFunc)).params,.int .i64 (T (⟨qn,qp,qr,qb⟩ : LFunc)).regs,.slice x.1 x.2.2.length x.2.1]) (E:=fun x=>fnE x.1 x.2.1 x.2.2) (φ:=fun x=>x.2.2.map BRow.blk = (T (⟨qn,qp,qr,qb⟩ : LFunc)).blocks∧(∀ b ∈ x.2.2,b.Bd)∧x.2.2.length ≤ 1000∧inI (T (⟨qn,qp,qr,qb⟩ : LFunc)).params∧inI (T (⟨qn,qp,qr,qb⟩ : LFunc)).regs) rfl (fun w hw=>hTX ca cc rows w hrm hrb hw.chg (fun b ⟨e,he,hb⟩=>(hw.own e (List.mem_append_left _ he) b hb).1.resolve_left id) hw.pre) fun x hx=>?_
   obtain ⟨za,zc,zs⟩:=x
   obtain ⟨hzm,hzb,hzl,hzp,hzr⟩:=hx
   obtain ⟨Y,hY⟩ : ∃ Y,T (⟨qn,qp,qr,qb⟩ : LFunc) = Y:=⟨_,rfl⟩
   obtain ⟨yn,yp,yr,yb⟩:=Y
   simp only [hY] at hzm hzp hzr ⊢
   simp only at hzb hzl
   have hzl2 : zs.length = yb.length:=by rw [← hzm,List.length_map]
   rw [hzl2]
   have hyb : ∀ b ∈ yb,b.phis.length ≤ 1000∧b.list.length ≤ 1000:=fun b hb=>by
    rw [← hzm] at hb
    obtain ⟨b',hb',rfl⟩:=List.mem_map.1 hb
    have:=hzb b' hb'
    exact ⟨by simp only [BRow.blk,List.length_map]; exact this.phis,by simp only [BRow.blk,List.length_map]; exact this.list⟩
   refine g_doneFn (⟨yn,yp,yr,za,zc,yb⟩ : QRow) hzl hzb hzm rfl rfl ?_
   obtain ⟨fp,hfp⟩ : ∃ fp,fps (fnE za zc zs) = fp:=⟨_,rfl⟩
   rw [hfp]
   repeat (first|refine g_op rfl ?_|refine g_then ?_|refine g_nil ?_|refine g_region ?_|refine g_seq ?_|refine g_storeAgg ?_)
   refine g_callV rfl (fun w hw=>large_c (.string yn) (.int .i64 yp) yr yb (.slice za yb.length zc) w (hw.get (k:=0) rfl) (by omega) hyb) ?_
   repeat (first|refine g_then ?_|refine g_nil ?_)
   have hnext : ∀ (g : LFunc),g = ⟨yn,yp,yr,yb⟩→largeF g = largeL yb yr:=fun g hg=>by rw [hg]; rfl
   have hbefore : ∀ (j : Nat) (Y : LFunc),j < i→u.funcs[j]? = some Y→largeF (T Y) = false:=fun j Y hj hYj=>by
    have h0 : (es.map (fun d=>d.q.fun'))[j]? = some (T Y):=by
     rw [hem,List.getElem?_map,List.getElem?_take_of_lt hj]
     rw [← hqm,List.getElem?_map] at hYj
     obtain ⟨q',hq',rfl⟩:=Option.map_eq_some_iff.1 hYj
     rw [hq']; rfl
    obtain ⟨d,hd,e⟩:=List.mem_map.1 (List.mem_of_getElem? h0)
    rw [← e]
    exact hel d hd
   by_cases hL : largeL yb yr = true
   ·rw [hL]
    repeat (first|refine g_op rfl ?_|refine g_region ?_|refine g_seq ?_|refine g_condT ?_)
    refine g_callV rfl (fun w _=>fault_c 10 i w) ?_
    repeat (first|refine g_then ?_|refine g_nil ?_|refine g_storeAgg ?_|refine g_ret ?_|refine g_thenRet ?_|refine g_blockRet ?_)
    refine g_retCC rfl fun _ hw=>.inl ⟨i,_,hXi,by rw [hnext _ hY]; exact hL,hbefore,rfl,hw.chg⟩
   ·have hLf : largeL yb yr = false:=by simpa using hL
    rw [hLf]
    repeat (first|refine g_op rfl ?_|refine g_then ?_|refine g_region ?_|refine g_skip ?_|refine g_condF ?_)
    have hel1 : (es.map (·.q)).length = i:=by rw [List.length_map,hiL]
    refine g_storeVA 2 (j:=i * 4) rfl rfl (by rw [flat_len funC_len,List.length_append,List.length_drop]; omega) ?_
    have hput:=flat_put funC_len (l:=es.map (·.q)++qs.drop i) (i:=i) (by rw [List.length_append,List.length_drop]; omega) (⟨yn,yp,yr,za,zc,yb⟩ : QRow)
    rw [set_mid hel1 hlt] at hput
    simp only [funC] at hput
    rw [hput]
    repeat (first|refine g_then ?_|refine g_nil ?_|refine g_region ?_|refine g_opS rfl ?_|refine g_inBlock ?_|refine g_add rfl (by omega) (by omega) ?_)
    have hl1 : (es++[(⟨(⟨yn,yp,yr,za,zc,yb⟩ : QRow),fp⟩ : DRow)]).length = i + 1:=by simp [hiL]
    refine g_fix (L':=[(38,.int .i64 ((i : Int) + 1)),(36,.slice (some ⟨vb,vo,none⟩) qs.length yc),(37,.int .i64 qs.length),(2,.pointer (some ⟨p1,0,none⟩)),(4,.pointer (some ⟨p2,0,none⟩)),(5,.pointer (some ⟨p3,0,none⟩)),(1,(Value.func (.func tf) us.toArray xs.toArray))]) (by repeat (first|exact trivial|refine ⟨rfl,?_⟩)) (.cons_cons _ (.cons _ (.refl _))) ?_
    refine g_permH (List.perm_append_comm (l₁:=[doneE (⟨(⟨yn,yp,yr,za,zc,yb⟩ : QRow),fp⟩ : DRow)])) ?_
    refine g_eqH (H1:=Ent.vec (some ⟨vb,vo,none⟩) qs.length yc 35 4 (((es++[(⟨(⟨yn,yp,yr,za,zc,yb⟩ : QRow),fp⟩ : DRow)]).map (·.q)++qs.drop (es++[(⟨(⟨yn,yp,yr,za,zc,yb⟩ : QRow),fp⟩ : DRow)]).length).flatMap funC)::Ent.box p3 [.int .i64 0,.int .i64 0] 28::Ent.box p2 [.slice none 0 0,.slice none 0 0] 25::Ent.box p1 [.slice xa ds.length xc,.slice (some ⟨vb,vo,none⟩) qs.length yc] 25::Ent.vec xa ds.length xc 57 3 (ds.flatMap gloC)::(ds.map gloE++(es++[(⟨(⟨yn,yp,yr,za,zc,yb⟩ : QRow),fp⟩ : DRow)]).map doneE)) ?_ ?_
    ·rw [hl1]
     simp only [List.cons_append,List.map_append,List.map_cons,List.map_nil,List.append_assoc]
    refine g_fix (L':=[(38,.int .i64 ((es++[(⟨(⟨yn,yp,yr,za,zc,yb⟩ : QRow),fp⟩ : DRow)]).length : Nat)),(36,.slice (some ⟨vb,vo,none⟩) qs.length yc),(37,.int .i64 qs.length),(2,.pointer (some ⟨p1,0,none⟩)),(4,.pointer (some ⟨p2,0,none⟩)),(5,.pointer (some ⟨p3,0,none⟩)),(1,(Value.func (.func tf) us.toArray xs.toArray))]) ?_ (.refl _) ?_
    ·rw [hl1]
     exact (by repeat (first|exact trivial|refine ⟨rfl,?_⟩))
    refine g_next (es++[(⟨(⟨yn,yp,yr,za,zc,yb⟩ : QRow),fp⟩ : DRow)]) ⟨by rw [hl1]; omega,?_,fun d hd=>?_,fun d hd=>?_⟩ (by rw [hl1]; omega) (by repeat (first|exact trivial|refine ⟨rfl,?_⟩)) (.refl _)
    ·rw [hl1,List.take_add_one,hq,List.map_append,List.map_append,hem]
     simp only [Option.toList_some,List.map_cons,List.map_nil,QRow.fun',hY]
    ·rcases List.mem_append.1 hd with hd|hd
     ·exact heb d hd
     ·rw [List.mem_singleton.1 hd]; exact ⟨hzp,hzr⟩
    ·rcases List.mem_append.1 hd with hd|hd
     ·exact hel d hd
     ·rw [List.mem_singleton.1 hd]; exact hLf
  ·have hge2 : es.length = qs.length:=by have:=h2; simp at this; omega
   rw [hge2,List.drop_length,List.append_nil]
   rw [hge2,List.take_length] at hem
   have hall : ∀ X ∈ u.funcs,largeF (T X) = false:=fun X hX=>by
    rw [← hqm] at hX
    obtain ⟨q,hq,rfl⟩:=List.mem_map.1 hX
    have : T q.fun' ∈ es.map (fun d=>d.q.fun'):=by rw [hem]; exact List.mem_map.2 ⟨q,hq,rfl⟩
    obtain ⟨d,hd,e⟩:=List.mem_map.1 this
    rw [← e]
    exact hel d hd
   have hmap : es.map (fun d=>d.q.fun') = u.funcs.map T:=by rw [hem,← hqm,List.map_map]; rfl
   rw [← hge2]
   repeat (first|refine g_op rfl ?_|refine g_then ?_|refine g_nil ?_|refine g_region ?_|refine g_seq ?_|refine g_storeAgg ?_|refine g_exit ?_|refine g_thenExit ?_|refine g_exitHere ?_|refine g_ret ?_)
   have hdsl : ds.length = u.globals.length:=by have:=congrArg List.length hdm; rw [List.length_map] at this; exact this
   have hesl : es.length = u.funcs.length:=by omega
   refine g_retCC rfl fun w hw=>?_
   unfold EachR
   rw [← hdsl,← hesl]
   refine .inr ⟨hall,xa,ya,xc,yc,_,rfl,Wd.pack (H:=[]) (by rw [List.append_nil]; exact hw) _ fun w hw=>⟨?_,?_⟩⟩
   ·have h0:=slAt_un (V:=GlobalV) GRow.glo (flat_sl hw (k:=4) rfl gloC_len (by omega)) fun y hy cs hcs=>?_
    ·rw [hdm] at h0; exact h0
    obtain ⟨hy1,hy2,hy3⟩:=hdb y hy
    obtain ⟨k,hk⟩ : ∃ k,(Ent.vec ya es.length yc 35 4 ((es.map (·.q)).flatMap funC)::Ent.box p3 [.int .i64 0,.int .i64 0] 28::Ent.box p2 [.slice xa ds.length xc,.slice ya es.length yc] 25::Ent.box p1 [.slice xa ds.length xc,.slice ya es.length yc] 25::Ent.vec xa ds.length xc 57 3 (ds.flatMap gloC)::(ds.map gloE++es.map doneE))[k]? = some (gloE y) :=
     List.getElem?_of_mem (by simp only [List.mem_cons,List.mem_append]; exact .inr (.inr (.inr (.inr (.inr (.inl (List.mem_map.2 ⟨y,hy,rfl⟩)))))))
    refine ⟨_,hcs,hy1,?_⟩
    refine hw.slAt hk rfl (by omega) fun i x hx=>⟨[.int .i64 x],fun j v hj=>?_,rfl,hy3 x (List.mem_of_getElem? hx)⟩
    match j,hj with
    | 0,hj=>simp [← hj,GRow.glo] at hx ⊢; exact hx
   ·have h0:=slAt_un (V:=FuncV) QRow.fun' (flat_sl (l:=es.map (·.q)) hw (k:=0) (by rw [List.length_map]; rfl) funC_len (by rw [List.length_map]; omega)) fun y hy cs hcs=>?_
    ·rw [List.map_map,List.length_map] at h0; rw [← hmap]; exact h0
    obtain ⟨d,hd,rfl⟩:=List.mem_map.1 hy
    obtain ⟨k,hk⟩ : ∃ k,(Ent.vec ya es.length yc 35 4 ((es.map (·.q)).flatMap funC)::Ent.box p3 [.int .i64 0,.int .i64 0] 28::Ent.box p2 [.slice xa ds.length xc,.slice ya es.length yc] 25::Ent.box p1 [.slice xa ds.length xc,.slice ya es.length yc] 25::Ent.vec xa ds.length xc 57 3 (ds.flatMap gloC)::(ds.map gloE++es.map doneE))[k]? = some (doneE d) :=
     List.getElem?_of_mem (by simp only [List.mem_cons,List.mem_append]; exact .inr (.inr (.inr (.inr (.inr (.inr (List.mem_map.2 ⟨d,hd,rfl⟩)))))))
    have h5 : SlAt w (.slice d.q.a d.q.blocks.length d.q.c) 6 d.q.blocks BlockV:=hw.get hk
    exact ⟨_,hcs,(heb d hd).1,(heb d hd).2,h5⟩
end Go.Proofs.YtdbljcahlpkgdaaGreatDoor

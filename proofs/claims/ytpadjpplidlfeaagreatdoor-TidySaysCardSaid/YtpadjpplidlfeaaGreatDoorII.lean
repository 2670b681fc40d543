/- Texts joined: NamesT NamesL. -/
import Derived.Test.YtpadjpplidlfeaaGreatDoorGE
import Derived.Test.YtpadjpplidlfeaaGreatDoorHJ
import Derived.Test.YtpadjpplidlfeaaGreatDoorHQ
import Derived.Test.YtpadjpplidlfeaaGreatDoorHS
import Derived.Test.YtpadjpplidlfeaaGreatDoorIE
import Derived.Test.YtpadjpplidlfeaaGreatDoorIG
import Derived.Test.YtpadjpplidlfeaaGreatDoorIH
namespace Go.Proofs.YtpadjpplidlfeaaGreatDoor
open Go Go.RowKit
attribute [local irreducible] wpListIn Code.wpIn Exit.then Exit.inBlock bodyPost wpQuiet wpAnyIn wpAnyH bodyPostM oneH
set_option maxHeartbeats 8000000
theorem BRow.Bd.of {b c : BRow} (h : b.blk = c.blk) (hc : c.Bd) : b.Bd:=by
 have h1 : b.ps.map PRow.phi = c.ps.map PRow.phi:=congrArg LBlock.phis h
 have h2 : b.xs.map (·.x) = c.xs.map (·.x):=congrArg LBlock.list h
 have h3 : b.kind = c.kind:=congrArg LBlock.kind h
 have h4 : b.on = c.on:=congrArg LBlock.on h
 have h5 : b.to = c.to:=congrArg LBlock.to h
 have l1 : b.ps.length = c.ps.length:=by have:=congrArg List.length h1; rwa [List.length_map,List.length_map] at this
 have l2 : b.xs.length = c.xs.length:=by have:=congrArg List.length h2; rwa [List.length_map,List.length_map] at this
 refine ⟨by rw [h3]; exact hc.kind,by rw [h4]; exact hc.on,by rw [l1]; exact hc.phis,fun p hp=>?_,by rw [l2]; exact hc.list,fun y hy=>?_,by rw [h5]; exact hc.to⟩
 ·have : PRow.phi p ∈ c.ps.map PRow.phi:=by rw [← h1]; exact List.mem_map.2 ⟨p,hp,rfl⟩
  obtain ⟨p',hp',e⟩:=List.mem_map.1 this
  have:=hc.phi p' hp'
  simp only [PRow.phi,LPhi.mk.injEq] at e
  rw [e.1,e.2] at this
  exact this
 ·have : y.x ∈ c.xs.map (·.x):=by rw [← h2]; exact List.mem_map.2 ⟨y,hy,rfl⟩
  obtain ⟨y',hy',e⟩:=List.mem_map.1 this
  have:=hc.ins y' hy'
  rw [e] at this
  exact this
theorem refNames_c (X : LFunc) (R : Nat) (hX : FnAll X R) (hlim : FnLim X) (hlen : X.blocks.length ≤ 24) (bs : Value) (w0 : World) (hbs : SlAt w0 bs 6 X.blocks BlockV) (hbd : ∀ b : BRow,b.blk ∈ X.blocks→b.Bd) :
  Ret Tryz.prog 12 [.agg #[.string X.name,.int .i64 X.params,.int .i64 X.regs,bs]] w0 fun u w'=>∃ x : Option Addr × Nat × List BRow,u = .agg #[.string (namesF X).name,.int .i64 (namesF X).params,.int .i64 (namesF X).regs,.slice x.1 x.2.2.length x.2.1]∧Wd NoS w0 (fnE x.1 x.2.1 x.2.2) w'∧(x.2.2.map BRow.blk = (namesF X).blocks∧∀ b ∈ x.2.2,b.Bd):=by
 classical
 obtain ⟨xn,xp,xr,xb⟩:=X
 have hXR:=hX.regs
 have hR:=hX.le
 have hf:=hX.ok
 have hpos:=hX.pos
 have hp2:=hX.par
 simp only at hXR hlen hf hpos hp2 hbs hbd
 subst hXR
 have hg:=hf.good
 have hk:=orderK_ok hg hpos
 obtain ⟨P,rfl⟩ : ∃ P : Nat,xp = P:=⟨xp.toNat,by omega⟩
 obtain ⟨o,hoD⟩ : ∃ o,o = orderL xb:=⟨_,rfl⟩
 have hol : (postL xb).length = o.length:=by rw [hoD]; unfold orderL; rw [List.length_reverse]
 have hol2:=postL_len hpos
 rw [← hoD] at hk
 obtain ⟨kl,hklD⟩ : ∃ kl,kl = keptL xb o:=⟨_,rfl⟩
 have hkf : FuncOk R kl:=by rw [hklD]; exact keep_funcOk hf hk
 have hkln : kl.length = o.length:=by rw [hklD,keptL_len]
 obtain ⟨ba,n,bc,hbsv⟩ : ∃ a n c,bs = .slice a n c:=by
  obtain ⟨a,n,c,_,_,e,_⟩:=hbs
  exact ⟨a,n,c,e⟩
 refine ret_enter Tryz.func12 rfl Tryz.ntmps12 rfl (Wd.nil NoS w0) ?_
 subst hbsv
 have hbs0:=hbs
 simp only
 have huse:=hX.uses
 simp only at huse
 have hkuse : ∀ B ∈ kl,∀ x ∈ B.list,∃ fs,insErr fs (R : Int) x = 0:=fun B hB x hx=>by
  rw [hklD] at hB
  unfold keptL at hB
  obtain ⟨b,hb,rfl⟩:=List.mem_map.1 hB
  exact huse (blkAt xb b) (List.mem_of_getElem? (get_blkAt (hk.lt b hb))) x hx
 have hol3 : o.length ≤ 100:=by omega
 repeat (first|refine g_then ?_|refine g_nil ?_|refine g_region ?_|refine g_seq ?_|refine g_box rfl fun _ _=>?_|refine g_alloc rfl fun _ _=>?_)
 rename_i p1 _ p2 _
 have hocall : ∀ (H : List Ent) (w : World),Wd NoS w0 H w→Ret Tryz.prog 32 [.agg #[.string xn,.int .i64 (P : Int),.int .i64 (R : Int),.slice ba n bc]] w fun u w'=>∃ x : Option Addr × Nat,u = .slice x.1 o.length x.2∧Wd NoS w [Ent.vec x.1 o.length x.2 3 1 (o.map intN)] w'∧True:=fun H w hw=>by
  have:=refOrder_c (.string xn) (.int .i64 (P : Int)) (.int .i64 (R : Int)) xb (.slice ba n bc) ⟨_,_,_,rfl⟩ w (hbs0.keep keeps_block hw.chg) (by omega) hg hpos
  rw [hol] at this
  rw [hoD] at this ⊢
  exact this
 have hkcall : ∀ (k : Nat) (a : Option Addr) (c : Nat) (H : List Ent) (w : World),Wd NoS w0 H w→H[k]? = some (Ent.vec a o.length c 3 1 (o.map intN))→Ret Tryz.prog 31 [.agg #[.string xn,.int .i64 (P : Int),.int .i64 (R : Int),.slice ba n bc],.slice a o.length c] w fun u w'=>∃ x : Option Addr × Nat × List BRow,u = .agg #[.string xn,.int .i64 (P : Int),.int .i64 (R : Int),.slice x.1 x.2.2.length x.2.1]∧Wd NoS w (fnE x.1 x.2.1 x.2.2) w'∧(x.2.2.map BRow.blk = kl∧∀ b ∈ x.2.2,b.Bd):=fun k a c H w hw hk2=>by
  rw [hklD]
  exact keptR_c xn P R xb (.slice ba n bc) R hf (by omega) o hk hol3 a o.length c w (hbs0.keep keeps_block hw.chg) hbd (ints_sl hw (k:=k) hk2 rfl (by omega) fun x hx=>by have:=hk.lt x hx; omega)
 refine g_drawX [Ent.box p1 [.string xn,.int .i64 (P : Int),.int .i64 (R : Int),.slice ba n bc] 35] (fun x : Nat × Option Addr × Nat × List BRow=>x.2.2.2.map BRow.blk = kl∧∀ b ∈ x.2.2.2,b.Bd) (fun x=>[(3,.pointer (some ⟨x.1,0,none⟩)),(2,.pointer (some ⟨p2,0,none⟩))]) (fun x=>Ent.box x.1 [.string xn,.int .i64 (P : Int),.int .i64 (R : Int),.slice x.2.1 x.2.2.2.length x.2.2.1] 35::Ent.box p2 [.string ByteArray.empty,.int .i64 0,.int .i64 0,.slice none 0 0] 35::fnE x.2.1 x.2.2.1 x.2.2.2) mixed (by repeat (first|exact List.Sublist.refl _|refine List.Sublist.cons _ ?_|refine List.Sublist.trans ?_ (List.sublist_append_right _ _))) ?_ fun x hx=>?_
 ·skip
  refine h_take 0 rfl (by decide +kernel) (by repeat (first|exact List.Sublist.refl _|refine List.Sublist.cons _ ?_|refine List.Sublist.trans ?_ (List.sublist_append_right _ _))) ?_
  refine h_take 1 rfl (by decide +kernel) (by repeat (first|exact List.Sublist.refl _|refine List.Sublist.cons _ ?_|refine List.Sublist.trans ?_ (List.sublist_append_right _ _))) ?_
  refine h_two 2 4 (by decide +kernel) ?_ ?_
  ·skip
   (refine o_callE 2 (val:=fun x : Option Addr × Nat=>.slice x.1 o.length x.2) (E:=fun x=>[Ent.vec x.1 o.length x.2 3 1 (o.map intN)]) (φ:=fun _=>True) rfl (by repeat (first|exact List.Sublist.refl _|refine List.Sublist.cons _ ?_|refine List.Sublist.trans ?_ (List.sublist_append_right _ _))) (fun w hw=>hocall _ w hw) fun y _=>?_; obtain ⟨oa,oc⟩:=y; simp only [List.cons_append,List.nil_append])
   refine h_two 3 4 (by decide +kernel) ?_ ?_
   ·skip
    (refine o_callE 3 (val:=fun x : Option Addr × Nat × List BRow=>.agg #[.string xn,.int .i64 (P : Int),.int .i64 (R : Int),.slice x.1 x.2.2.length x.2.1]) (E:=fun x=>fnE x.1 x.2.1 x.2.2) (φ:=fun x=>x.2.2.map BRow.blk = kl∧∀ b ∈ x.2.2,b.Bd) rfl (by repeat (first|exact List.Sublist.refl _|refine List.Sublist.cons _ ?_|refine List.Sublist.trans ?_ (List.sublist_append_right _ _))) (fun w hw=>by first|exact hkcall 0 _ _ _ w hw rfl|exact hkcall 1 _ _ _ w hw rfl) fun z hz=>?_; obtain ⟨na,nc,ks⟩:=z; simp only at hz ⊢)
    refine h_one 4 (by decide +kernel) ?_
    refine o_alloc 4 rfl (by repeat (first|exact List.Sublist.refl _|refine List.Sublist.cons _ ?_|refine List.Sublist.trans ?_ (List.sublist_append_right _ _))) fun p3 _=>?_
    refine g_permH (H1:=Ent.box p3 [.string ByteArray.empty,.int .i64 0,.int .i64 0,.slice none 0 0] 35::Ent.box p2 [.string ByteArray.empty,.int .i64 0,.int .i64 0,.slice none 0 0] 35::Ent.vec oa o.length oc 3 1 (o.map intN)::(fnE na nc ks++[Ent.box p1 [.string xn,.int .i64 (P : Int),.int .i64 (R : Int),.slice ba n bc] 35])) (List.perm_iff_count.2 fun e=>by simp only [List.count_append,List.count_cons,List.count_nil]; omega) ?_
    refine h_storeAgg 5 (by decide +kernel) (by repeat (first|exact List.Sublist.refl _|refine List.Sublist.cons _ ?_|refine List.Sublist.trans ?_ (List.sublist_append_right _ _))) ?_
    refine h_end (by decide +kernel) ?_
    exact g_mem (p3,na,nc,ks) hz (by repeat (first|exact trivial|refine ⟨rfl,?_⟩)) (.cons_cons _ (.cons_cons _ (.cons _ (List.sublist_append_left _ _))))
   ·skip
    refine o_alloc 4 rfl (by repeat (first|exact List.Sublist.refl _|refine List.Sublist.cons _ ?_|refine List.Sublist.trans ?_ (List.sublist_append_right _ _))) fun p3 _=>?_
    refine h_one 3 (by decide +kernel) ?_
    (refine o_callE 3 (val:=fun x : Option Addr × Nat × List BRow=>.agg #[.string xn,.int .i64 (P : Int),.int .i64 (R : Int),.slice x.1 x.2.2.length x.2.1]) (E:=fun x=>fnE x.1 x.2.1 x.2.2) (φ:=fun x=>x.2.2.map BRow.blk = kl∧∀ b ∈ x.2.2,b.Bd) rfl (by repeat (first|exact List.Sublist.refl _|refine List.Sublist.cons _ ?_|refine List.Sublist.trans ?_ (List.sublist_append_right _ _))) (fun w hw=>by first|exact hkcall 0 _ _ _ w hw rfl|exact hkcall 1 _ _ _ w hw rfl) fun z hz=>?_; obtain ⟨na,nc,ks⟩:=z; simp only at hz ⊢)
    refine g_permH (H1:=Ent.box p3 [.string ByteArray.empty,.int .i64 0,.int .i64 0,.slice none 0 0] 35::Ent.box p2 [.string ByteArray.empty,.int .i64 0,.int .i64 0,.slice none 0 0] 35::Ent.vec oa o.length oc 3 1 (o.map intN)::(fnE na nc ks++[Ent.box p1 [.string xn,.int .i64 (P : Int),.int .i64 (R : Int),.slice ba n bc] 35])) (List.perm_iff_count.2 fun e=>by simp only [List.count_append,List.count_cons,List.count_nil]; omega) ?_
    refine h_storeAgg 5 (by decide +kernel) (by repeat (first|exact List.Sublist.refl _|refine List.Sublist.cons _ ?_|refine List.Sublist.trans ?_ (List.sublist_append_right _ _))) ?_
    refine h_end (by decide +kernel) ?_
    exact g_mem (p3,na,nc,ks) hz (by repeat (first|exact trivial|refine ⟨rfl,?_⟩)) (.cons_cons _ (.cons_cons _ (.cons _ (List.sublist_append_left _ _))))
  ·skip
   refine o_alloc 4 rfl (by repeat (first|exact List.Sublist.refl _|refine List.Sublist.cons _ ?_|refine List.Sublist.trans ?_ (List.sublist_append_right _ _))) fun p3 _=>?_
   refine h_one 2 (by decide +kernel) ?_
   (refine o_callE 2 (val:=fun x : Option Addr × Nat=>.slice x.1 o.length x.2) (E:=fun x=>[Ent.vec x.1 o.length x.2 3 1 (o.map intN)]) (φ:=fun _=>True) rfl (by repeat (first|exact List.Sublist.refl _|refine List.Sublist.cons _ ?_|refine List.Sublist.trans ?_ (List.sublist_append_right _ _))) (fun w hw=>hocall _ w hw) fun y _=>?_; obtain ⟨oa,oc⟩:=y; simp only [List.cons_append,List.nil_append])
   refine h_one 3 (by decide +kernel) ?_
   (refine o_callE 3 (val:=fun x : Option Addr × Nat × List BRow=>.agg #[.string xn,.int .i64 (P : Int),.int .i64 (R : Int),.slice x.1 x.2.2.length x.2.1]) (E:=fun x=>fnE x.1 x.2.1 x.2.2) (φ:=fun x=>x.2.2.map BRow.blk = kl∧∀ b ∈ x.2.2,b.Bd) rfl (by repeat (first|exact List.Sublist.refl _|refine List.Sublist.cons _ ?_|refine List.Sublist.trans ?_ (List.sublist_append_right _ _))) (fun w hw=>by first|exact hkcall 0 _ _ _ w hw rfl|exact hkcall 1 _ _ _ w hw rfl) fun z hz=>?_; obtain ⟨na,nc,ks⟩:=z; simp only at hz ⊢)
   refine g_permH (H1:=Ent.box p3 [.string ByteArray.empty,.int .i64 0,.int .i64 0,.slice none 0 0] 35::Ent.box p2 [.string ByteArray.empty,.int .i64 0,.int .i64 0,.slice none 0 0] 35::Ent.vec oa o.length oc 3 1 (o.map intN)::(fnE na nc ks++[Ent.box p1 [.string xn,.int .i64 (P : Int),.int .i64 (R : Int),.slice ba n bc] 35])) (List.perm_iff_count.2 fun e=>by simp only [List.count_append,List.count_cons,List.count_nil]; omega) ?_
   refine h_storeAgg 5 (by decide +kernel) (by repeat (first|exact List.Sublist.refl _|refine List.Sublist.cons _ ?_|refine List.Sublist.trans ?_ (List.sublist_append_right _ _))) ?_
   refine h_end (by decide +kernel) ?_
   exact g_mem (p3,na,nc,ks) hz (by repeat (first|exact trivial|refine ⟨rfl,?_⟩)) (.cons_cons _ (.cons_cons _ (.cons _ (List.sublist_append_left _ _))))
 obtain ⟨p3,na,nc,ks⟩:=x
 obtain ⟨hkb,hkd⟩:=hx
 simp only at hkb hkd ⊢
 obtain ⟨m,hm⟩ : ∃ m,m = ks.length:=⟨_,rfl⟩
 have hmk : kl.length = m:=by rw [← hkb,List.length_map,hm]
 have hblocks : ∀ (X : List Ent) (w : World),Wd NoS w0 (X++fnE na nc ks) w→SlAt w (.slice na m nc) 6 kl BlockV:=fun X w hw=>by
  have:=Wd.blocks (H:=[]) (ba:=na) (bc:=nc) (bs:=ks) (by rw [List.append_nil]; exact hw.sub (List.sublist_append_right _ _)) (by omega) hkd
  rw [hkb,← hm] at this
  exact this
 have harg : ∀ B ∈ kl,∀ x ∈ B.list,x.args.length ≤ 1000:=fun B hB x hx=>by
  rw [← hkb] at hB
  obtain ⟨c,hc,rfl⟩:=List.mem_map.1 hB
  obtain ⟨y,hy,rfl⟩:=List.mem_map.1 hx
  exact ((hkd c hc).ins y hy).2.1
 have hbd2 : ∀ b : BRow,b.blk ∈ kl→b.Bd:=fun b hb=>by
  rw [← hkb] at hb
  obtain ⟨c,hc,e⟩:=List.mem_map.1 hb
  exact BRow.Bd.of e.symm (hkd c hc)
 obtain ⟨L,hLD⟩ : ∃ L,L = metL P kl:=⟨_,rfl⟩
 have hLok : LOk R L:=by
  rw [hLD]
  unfold metL seqL once
  rw [meets_app []]
  have h0 : meets [] (parL P) = parL P:=once_self (parL_nodup P)
  rw [h0]
  refine (LOk.par (by omega)).meets fun r hr=>?_
  rcases List.mem_append.1 hr with hr|hr
  ·obtain ⟨B,hB,hr⟩:=List.mem_flatMap.1 hr
   exact seq_bound hkf hB (.inl hr)
  ·obtain ⟨B,hB,hr⟩:=List.mem_flatMap.1 hr
   exact seq_bound hkf hB (.inr hr)
 have hLl:=hLok.len
 have hreg : ∀ B ∈ kl,(∀ r,r ∈ seqB B ∨ r ∈ seqP B→r ∈ L)∧∀ x ∈ B.list,∀ v : LVal,v = x.a ∨ v = x.b ∨ v ∈ x.args→∀ r ∈ seqV v,r ∈ L:=fun B hB=>by
  have h1 : ∀ r,r ∈ seqB B ∨ r ∈ seqP B→r ∈ L:=fun r hr=>by
   rw [hLD]
   exact mem_metL.2 (.inr (hr.elim (fun h=>.inl ⟨B,hB,h⟩) fun h=>.inr ⟨B,hB,h⟩))
  refine ⟨h1,fun x hx v hv r hr=>h1 r (.inl ?_)⟩
  obtain ⟨b,hb⟩:=List.getElem?_of_mem hB
  obtain ⟨fs,hfs⟩:=hkuse B hB x hx
  refine List.mem_append_right _ (List.mem_append_left _ (List.mem_flatMap.2 ⟨x,hx,?_⟩))
  rw [seqI_eq hfs ((hkf.block b B hb).list x hx)]
  rcases hv with rfl|rfl|hv
  ·exact List.mem_append_left _ hr
  ·exact List.mem_append_right _ (List.mem_append_left _ hr)
  ·exact List.mem_append_right _ (List.mem_append_right _ (List.mem_append_left _ (List.mem_flatMap.2 ⟨v,hv,hr⟩)))
 rw [← hm]
 repeat (first|refine g_op rfl ?_|refine g_then ?_|refine g_region ?_|refine g_seq ?_)
 refine g_callE (val:=fun x : Option Addr × Nat=>.slice x.1 L.length x.2) (E:=fun x=>[ivE x.1 x.2 L]) (φ:=fun _=>True) rfl (fun w hw=>by
  rw [hLD]
  exact metR_c xn P R R kl na m nc (by omega) (by omega) hkf harg w (hblocks [Ent.box p3 [.string xn,.int .i64 (P : Int),.int .i64 (R : Int),.slice na m nc] 35,Ent.box p2 [.string ByteArray.empty,.int .i64 0,.int .i64 0,.slice none 0 0] 35] w hw) (by omega)) fun x _=>?_
 obtain ⟨la,lc⟩:=x
 simp only [List.cons_append,List.nil_append]
 repeat (first|refine g_op rfl ?_|refine g_then ?_|refine g_nil ?_|refine g_region ?_|refine g_seq ?_)
 refine g_callE (val:=fun x : Option Addr × Nat × List BRow=>.agg #[.string xn,.int .i64 (P : Int),.int .i64 (R : Int),.slice x.1 x.2.2.length x.2.1]) (E:=fun x=>fnE x.1 x.2.1 x.2.2) (φ:=fun x=>x.2.2.map BRow.blk = kl.map (renB L)∧∀ b ∈ x.2.2,b.Bd) rfl (fun w hw=>renamedR_c xn P R kl (.slice na m nc) R (by omega) L la L.length lc hLok hreg w (hblocks [ivE la lc L,Ent.box p3 [.string xn,.int .i64 (P : Int),.int .i64 (R : Int),.slice na m nc] 35,Ent.box p2 [.string ByteArray.empty,.int .i64 0,.int .i64 0,.slice none 0 0] 35] w hw) (by omega) hbd2 (hw.intsAt (k:=0) rfl rfl (by omega) (hLok.ins (by omega)))) fun x hx=>?_
 obtain ⟨ga,gc,gs⟩:=x
 obtain ⟨hgb,hgd⟩:=hx
 simp only at hgb hgd ⊢
 refine g_permH (H1:=Ent.box p3 [.string xn,.int .i64 (P : Int),.int .i64 (R : Int),.slice na m nc] 35::Ent.box p2 [.string ByteArray.empty,.int .i64 0,.int .i64 0,.slice none 0 0] 35::(fnE ga gc gs++ivE la lc L::fnE na nc ks)) (List.perm_iff_count.2 fun e=>by simp only [List.count_append,List.count_cons,List.count_nil]; omega) ?_
 repeat (first|refine g_op rfl ?_|refine g_then ?_|refine g_nil ?_|refine g_region ?_|refine g_seq ?_|refine g_store ?_|refine g_storeAgg ?_|refine g_ret ?_)
 have hkF : keptF ⟨xn,(P : Int),(R : Int),xb⟩ = kl:=by rw [hklD,hoD]; rfl
 have hnF : namesF ⟨xn,(P : Int),(R : Int),xb⟩ = ⟨xn,(P : Int),(L.length : Int),kl.map (renB L)⟩:=by
  unfold namesF
  rw [hkF,hLD]
  simp only [Int.toNat_natCast]
 rw [hnF]
 refine g_retC rfl fun w hw=>⟨(ga,gc,gs),rfl,hw.sub ?_,hgb,hgd⟩
 exact .cons _ (.cons _ (List.sublist_append_left _ _))
end Go.Proofs.YtpadjpplidlfeaaGreatDoor

/- Texts joined: DoOf TidyLaw. -/
import Derived.Test.YtpadjpplidlfeaaGreatDoorII
import Derived.Test.YtpadjpplidlfeaaGreatDoorIN
namespace Go.Proofs.YtpadjpplidlfeaaGreatDoor
open Go Go.RowKit
attribute [local irreducible] wpListIn Code.wpIn Exit.then Exit.inBlock bodyPost wpQuiet wpAnyIn wpAnyH bodyPostM oneH
set_option maxHeartbeats 4000000
theorem doOf_c (X : LFunc) (R : Nat) (hX : FnAll X R) (hT : TidyAll X R) (hkind : KindOk X.blocks) (hlen : X.blocks.length ≤ 100) (hmany : manyL X.blocks ≤ 1000) (hpar : inI X.params) (w0 : World) : Turns w0 37 [] [] tidyF X:=by
 classical
 obtain ⟨xn,xp,xr,xb⟩:=X
 have hR:=hX.le
 have hf:=hX.ok
 have hpos:=hX.pos
 simp only at hlen hmany hkind hf hpos
 intro a c bs wb hbs hbd hch hfr hw
 simp only at hbs
 subst hbs
 have hbl : bs.length ≤ 100:=by rw [List.length_map] at hlen; exact hlen
 have hg:=hf.good
 have hk:=orderK_ok hg hpos
 obtain ⟨hz1,_⟩:=order_pos hg hpos
 have hol : (orderL (bs.map BRow.blk)).length = (postL (bs.map BRow.blk)).length:=by unfold orderL; rw [List.length_reverse]
 have hplen:=postL_len hpos
 rw [List.length_map] at hplen hpos
 simp only [List.nil_append,List.append_nil,List.cons_append]
 refine ret_enter Tryz.func37 rfl Tryz.ntmps37 rfl hw ?_
 obtain ⟨SS,hSS⟩ : ∃ SS,SS = fps (fnE a c bs):=⟨_,rfl⟩
 rw [← hSS]
 repeat (first|refine g_then ?_|refine g_nil ?_|refine g_region ?_|refine g_seq ?_|refine g_box rfl fun _ _=>?_|refine g_alloc rfl fun _ _=>?_)
 rename_i p1 _ p2 _
 obtain ⟨bl,hblD⟩ : ∃ bl,bl = bs.map BRow.blk:=⟨_,rfl⟩
 obtain ⟨o,hoD⟩ : ∃ o,o = orderL bl:=⟨_,rfl⟩
 rw [← hblD] at hk hol hplen hz1
 rw [← hoD] at hk hol hz1
 have hol2 : o.length ≤ bs.length:=by omega
 have hkF : keptF ⟨xn,xp,xr,bs.map BRow.blk⟩ = keptL bl o:=by rw [hoD,hblD]; rfl
 have hocall : ∀ w : World,SlAt w (.slice a bs.length c) 6 bl BlockV→Ret Tryz.prog 50 [.agg #[.string xn,.int .i64 xp,.int .i64 xr,.slice a bs.length c]] w fun u w'=>∃ x : Option Addr × Nat,u = .slice x.1 o.length x.2∧Wd NoS w [Ent.vec x.1 o.length x.2 3 1 (o.map intN)] w'∧True:=fun w h=>by
  have:=orderOf_c (.string xn) (.int .i64 xp) (.int .i64 xr) bl (.slice a bs.length c) ⟨_,_,_,rfl⟩ w h (by rw [hblD,List.length_map]; exact hbl) (by rw [hblD]; exact hg) (by rw [hblD,List.length_map]; exact hpos)
  rw [hol,hoD]
  exact this
 have hrd : ∀ w,Wd SS wb (Ent.box p2 [.string ByteArray.empty,.int .i64 0,.int .i64 0,.slice none 0 0] 35::Ent.box p1 [.string xn,.int .i64 xp,.int .i64 xr,.slice a bs.length c] 35::fnE a c bs) w→SlAt w (.slice a bs.length c) 6 bl BlockV:=fun w hw=>by
  rw [hblD]
  refine Wd.blocks (H:=[]) (hw.sub (.cons _ (.cons _ ?_))) (by omega) hbd
  rw [List.append_nil]
  exact List.Sublist.refl _
 have hkcall : ∀ (y : Option Addr × Nat) (S : Nat→Prop) (v w : World),Wd S v (fnE a c bs++[Ent.vec y.1 o.length y.2 3 1 (o.map intN),Ent.box p2 [.string ByteArray.empty,.int .i64 0,.int .i64 0,.slice none 0 0] 35,Ent.box p1 [.string xn,.int .i64 xp,.int .i64 xr,.slice a bs.length c] 35]) w→Ret Tryz.prog 49 [.agg #[.string xn,.int .i64 xp,.int .i64 xr,.slice a bs.length c],.slice y.1 o.length y.2] w fun u w'=>∃ x : Option Addr × Nat × List BRow,u = .agg #[.string xn,.int .i64 xp,.int .i64 xr,.slice x.1 x.2.2.length x.2.1]∧Wd (fps (fnE a c bs)) w (fnE x.1 x.2.1 x.2.2) w' ∧
   (x.2.2.map BRow.blk = keptL bl o∧∀ b ∈ x.2.2,b.Bd):=fun y S v w hw=>by
  have:=keep_c xn xp xr a c bs o y.1 y.2 R hbl hpos hbd hf (by rw [← hblD]; exact hk) w hw.pre (ints_sl hw.besides (k:=0) rfl rfl (by omega) fun x hx=>by have:=hk.lt x hx; rw [hblD,List.length_map] at this; omega)
  rw [← hblD] at this
  exact this
 obtain ⟨TF,hTF⟩ : ∃ TF,TF = tidyF ⟨xn,xp,xr,bs.map BRow.blk⟩:=⟨_,rfl⟩
 rw [← hTF]
 refine g_drawX [Ent.box p1 [.string xn,.int .i64 xp,.int .i64 xr,.slice a bs.length c] 35] (fun x : Option Addr × Nat × List BRow=>x.2.2.map BRow.blk = TF.blocks∧(∀ b ∈ x.2.2,b.Bd)∧x.2.2.length ≤ 1000∧inI TF.params∧inI TF.regs) (fun _=>[(2,.pointer (some ⟨p2,0,none⟩))]) (fun x=>Ent.box p2 [.string TF.name,.int .i64 TF.params,.int .i64 TF.regs,.slice x.1 x.2.2.length x.2.1] 35::fnE x.1 x.2.1 x.2.2) mixed (.cons _ (.cons_cons _ (List.nil_sublist _))) ?_ fun x hx=>?_
 ·skip
  refine h_take 0 rfl (by decide +kernel) (.cons _ (.cons_cons _ (List.nil_sublist _))) ?_
  refine h_take 1 rfl (by decide +kernel) (.cons _ (.cons_cons _ (List.nil_sublist _))) ?_
  refine h_callE 2 (val:=fun x : Option Addr × Nat=>.slice x.1 o.length x.2) (E:=fun x=>[Ent.vec x.1 o.length x.2 3 1 (o.map intN)]) (φ:=fun _=>True) rfl (by decide +kernel) (.cons _ (.cons_cons _ (List.nil_sublist _))) (fun w hw=>hocall w (hrd w hw)) fun y _=>?_
  obtain ⟨oa,oc⟩:=y
  simp only [List.cons_append,List.nil_append]
  refine g_permH (H1:=fnE a c bs++[Ent.vec oa o.length oc 3 1 (o.map intN),Ent.box p2 [.string ByteArray.empty,.int .i64 0,.int .i64 0,.slice none 0 0] 35,Ent.box p1 [.string xn,.int .i64 xp,.int .i64 xr,.slice a bs.length c] 35]) (List.perm_append_comm (l₁:=[_,_,_])) ?_
  refine h_callS 3 (val:=fun x : Option Addr × Nat × List BRow=>.agg #[.string xn,.int .i64 xp,.int .i64 xr,.slice x.1 x.2.2.length x.2.1]) (E:=fun x=>fnE x.1 x.2.1 x.2.2) (φ:=fun x=>x.2.2.map BRow.blk = keptL bl o∧∀ b ∈ x.2.2,b.Bd) rfl (by decide +kernel) (.cons _ (.cons _ (.cons_cons _ (List.nil_sublist _)))) (fun w hw=>hkcall (oa,oc) _ _ w hw) fun z hz=>?_
  obtain ⟨na,nc,ks⟩:=z
  obtain ⟨hkb,hkd⟩:=hz
  simp only at hkb hkd ⊢
  have hkl : ks.length = o.length:=by
   have:=congrArg List.length hkb
   rwa [List.length_map,keptL_len] at this
  have hbk : BlOk R (ks.map BRow.blk):=by
   rw [hkb]
   exact ⟨keep_funcOk (by rw [hblD]; exact hf) hk,kind_kept hk (by rw [hblD]; exact hkind)⟩
  have hmk : manyL (ks.map BRow.blk) ≤ 1000:=by
   rw [hkb]
   exact Nat.le_trans (many_keep_le hk) (by rw [hblD]; exact hmany)
  refine h_callS 4 (val:=fun x : Option Addr × Nat × List BRow=>.agg #[.string xn,.int .i64 xp,.int .i64 xr,.slice x.1 x.2.2.length x.2.1]) (E:=fun x=>fnE x.1 x.2.1 x.2.2) (φ:=fun x=>x.2.2.map BRow.blk = chainsL (ks.map BRow.blk)∧∀ b ∈ x.2.2,b.Bd) rfl (by decide +kernel) (.cons _ (.cons _ (.cons_cons _ (List.nil_sublist _)))) (fun w hw=>chainsOf_c xn xp xr na nc ks R (by omega) (by omega) hkd hbk hmk w hw.pre) fun z hz=>?_
  obtain ⟨ca,cc,cs⟩:=z
  obtain ⟨hcb,hcd⟩:=hz
  simp only at hcb hcd ⊢
  have hcF : chainsL (keptF ⟨xn,xp,xr,bs.map BRow.blk⟩) = cs.map BRow.blk:=by rw [hkF,hcb,hkb]
  have hmid:=hT.mid
  have hml:=hT.len
  rw [hcF] at hmid hml
  have hTFe : TF = namesF ⟨xn,xp,xr,cs.map BRow.blk⟩:=by
   rw [hTF]
   unfold tidyF
   rw [hcF]
   rfl
  refine h_callS 5 (val:=fun x : Option Addr × Nat × List BRow=>.agg #[.string TF.name,.int .i64 TF.params,.int .i64 TF.regs,.slice x.1 x.2.2.length x.2.1]) (E:=fun x=>fnE x.1 x.2.1 x.2.2) (φ:=fun x=>x.2.2.map BRow.blk = TF.blocks∧(∀ b ∈ x.2.2,b.Bd)∧x.2.2.length ≤ 1000∧inI TF.params∧inI TF.regs) rfl (by decide +kernel) (.cons _ (.cons _ (.cons_cons _ (List.nil_sublist _)))) (fun w hw=>?_) fun z hz=>?_
  ·have h9:=namesOf_c ⟨xn,xp,xr,cs.map BRow.blk⟩ R hmid (by simp only [List.length_map] at hml ⊢; omega) hpar { w with heap:=#[] } ca cc cs w rfl hcd ⟨rfl,rfl,rfl,Nat.zero_le _,fun k hk=>absurd hk (Nat.not_lt_zero k)⟩ (fun _ _=>Nat.zero_le _) hw.pre
   rw [← hTFe] at h9
   exact h9
  obtain ⟨fa,fc,fs⟩:=z
  simp only at hz ⊢
  refine g_permH (H1:=Ent.box p2 [.string ByteArray.empty,.int .i64 0,.int .i64 0,.slice none 0 0] 35::Ent.box p1 [.string xn,.int .i64 xp,.int .i64 xr,.slice a bs.length c] 35::Ent.vec oa o.length oc 3 1 (o.map intN)::fnE fa fc fs) (List.perm_iff_count.2 fun e=>by simp only [List.count_append,List.count_cons,List.count_nil]; omega) ?_
  refine h_storeAgg 6 (by decide +kernel) (.cons _ (.cons_cons _ (List.nil_sublist _))) ?_
  refine h_end (by decide +kernel) ?_
  exact g_mem (fa,fc,fs) hz (by repeat (first|exact trivial|refine ⟨rfl,?_⟩)) (.cons_cons _ (.cons _ (.cons _ (.refl _))))
 repeat (first|refine g_then ?_|refine g_ret ?_)
 rw [hSS]
 exact g_retC rfl fun w hw=>⟨x,rfl,hw.sub (.cons _ (.refl _)),hx⟩
theorem do_bad' (u : LUnit) (hl : light u) (hbad : (checkL u).1 ≠ 0) (g fs : Value) (w0 : World) (hg : SlAt w0 g 3 u.globals GlobalV) (hf : SlAt w0 fs 4 u.funcs FuncV) (hways : CellsAt w0 0 0 waysC) :
  RetV Tryz.prog 14 [.agg #[g,fs]] w0 (.tuple #[.agg #[.slice none 0 0,.slice none 0 0],.agg #[.int .i64 (checkL u).1,.int .i64 (checkL u).2]]):=by
 have hg0:=hg
 have hf0:=hf
 obtain ⟨ga,gn,gc,gb,go,rfl,_⟩:=hg
 obtain ⟨fa,fn,fc,fb,fo,rfl,hfn,_⟩:=hf
 refine ret_enter Tryz.func14 rfl Tryz.ntmps14 rfl (Wd.nil NoS w0) ?_
 repeat (first|refine g_op rfl ?_|refine g_then ?_|refine g_nil ?_|refine g_region ?_|refine g_seq ?_|refine g_box rfl fun _ _=>?_|refine g_alloc rfl fun _ _=>?_)
 rename_i p1 _ p2 _ p3 _
 refine g_callV rfl (fun w hw=>check_c u hl _ _ w (hg0.keep keeps_global hw.chg) (hf0.keep keeps_func hw.chg) (hways.keep hw.chg)) ?_
 repeat (first|refine g_op rfl ?_|refine g_then ?_|refine g_nil ?_|refine g_region ?_|refine g_seq ?_|refine g_alloc rfl fun _ _=>?_|refine g_storeAgg ?_)
 rename_i p4 _
 refine g_cond (fun h1=>?_) (fun h1=>?_)
 ·repeat (refine g_seq ?_)
  refine g_drawW [(2,.pointer (some ⟨p2,0,none⟩)),(3,.pointer (some ⟨p3,0,none⟩))] [Ent.box p3 [.int .i64 (checkL u).1,.int .i64 (checkL u).2] 28,Ent.box p2 [.slice none 0 0,.slice none 0 0] 25] mixed ?_ ?_
  ·repeat' (first|refine g_any0 (by decide +kernel) ?_|refine g_any (by decide +kernel) ?_|refine any_nil|refine any_skip (by decide +kernel) ?_|refine any_cons ?_ ?_|refine g_op rfl ?_|refine g_then ?_|refine g_nil ?_|refine g_storeAgg ?_)
   all_goals exact g_done (by repeat (first|exact trivial|refine ⟨rfl,?_⟩)) (by simp)
  ·repeat (first|refine g_then ?_|refine g_ret ?_|refine g_thenRet ?_)
   exact g_retCC rfl fun _ hw=>⟨rfl,hw.chg⟩
 ·simp at h1
  omega
theorem tidyEach_c (u : LUnit) (hl : light u) (hu : CheckOk u) (hch : (checkL u).1 = 0) (g fs : Value) (w : World) (hg : SlAt w g 3 u.globals GlobalV) (hf : SlAt w fs 4 u.funcs FuncV) :
  Ret Tryz.prog 20 [.agg #[g,fs],.func (.func 37) #[] #[]] w (EachR u tidyF w) :=
 each_c u (check_glim hch) ⟨check_few hl,check_lim hl hch⟩ _ _ w hg hf 37 [] [] tidyF fun X hX=>by
  obtain ⟨k,hk⟩:=List.getElem?_of_mem hX
  obtain ⟨R,hA,hT⟩:=tidyAll hu hk
  have h1:=(hl.2 X hX).1
  have h2:=hA.par
  have h3:=hA.le
  have h4 : manyL X.blocks ≤ 1000:=by
   have hs:=FnTo.same hu hk
   have h5:=hs.size
   rw [← many_size] at h5
   omega
  exact doOf_c X R hA hT (fn_kind hu hk).1 (by omega) h4 ⟨by omega,by omega⟩ w
theorem tidyDo_ok (u : LUnit) (hl : light u) (hu : CheckOk u) (hch : (checkL u).1 = 0) (hN : ∀ X ∈ u.funcs,largeF (tidyF X) = false) (g fs : Value) (w0 : World) (hg : SlAt w0 g 3 u.globals GlobalV) (hf : SlAt w0 fs 4 u.funcs FuncV) (hways : CellsAt w0 0 0 waysC) :
  Ret Tryz.prog 14 [.agg #[g,fs]] w0 fun v w'=>∃ x : (Option Addr × Nat) × (Option Addr × Nat) × (Nat→Prop),v = .tuple #[.agg #[.slice x.1.1 u.globals.length x.1.2,.slice x.2.1.1 u.funcs.length x.2.1.2],.agg #[.int .i64 0,.int .i64 0]]∧Wd NoS w0 [unitE (tidyU u) (.slice x.1.1 u.globals.length x.1.2) (.slice x.2.1.1 u.funcs.length x.2.1.2) x.2.2] w'∧True:=by
 have hg0:=hg
 have hf0:=hf
 obtain ⟨ga,gn,gc,gb,go,rfl,_⟩:=hg
 obtain ⟨fa,fn,fc,fb,fo,rfl,hfn,_⟩:=hf
 refine ret_enter Tryz.func14 rfl Tryz.ntmps14 rfl (Wd.nil NoS w0) ?_
 repeat (first|refine g_op rfl ?_|refine g_then ?_|refine g_nil ?_|refine g_region ?_|refine g_seq ?_|refine g_box rfl fun _ _=>?_|refine g_alloc rfl fun _ _=>?_)
 rename_i p1 _ p2 _ p3 _
 refine g_callV rfl (fun w hw=>check_c u hl _ _ w (hg0.keep keeps_global hw.chg) (hf0.keep keeps_func hw.chg) (hways.keep hw.chg)) ?_
 rw [checkL_zero hch]
 repeat (first|refine g_op rfl ?_|refine g_then ?_|refine g_nil ?_|refine g_region ?_|refine g_seq ?_|refine g_alloc rfl fun _ _=>?_|refine g_storeAgg ?_|refine g_skip ?_|refine g_condF ?_)
 rename_i p4 _
 refine g_callE (val:=fun x : (Option Addr × Nat) × (Option Addr × Nat) × (Nat→Prop)=>.tuple #[.agg #[.slice x.1.1 u.globals.length x.1.2,.slice x.2.1.1 u.funcs.length x.2.1.2],.agg #[.int .i64 0,.int .i64 0]]) (E:=fun x=>[unitE (tidyU u) (.slice x.1.1 u.globals.length x.1.2) (.slice x.2.1.1 u.funcs.length x.2.1.2) x.2.2]) (φ:=fun _=>True) rfl (fun w hw=>(tidyEach_c u hl hu hch _ _ w (hg0.keep keeps_global hw.chg) (hf0.keep keeps_func hw.chg)).mono fun v w' h=>?_) fun x _=>?_
 ·rcases h with ⟨j,Y,h1,h2,_⟩|⟨_,ga,fa,gc,fc,fp,rfl,hw⟩
  ·rw [hN Y (List.mem_of_getElem? h1)] at h2
   cases h2
  ·exact ⟨((ga,gc),(fa,fc),fp),rfl,hw,trivial⟩
 obtain ⟨⟨ya,yc⟩,⟨za,zc⟩,fp⟩:=x
 simp only [List.cons_append,List.nil_append]
 repeat (first|refine g_op rfl ?_|refine g_then ?_|refine g_nil ?_|refine g_storeAgg ?_|refine g_ret ?_)
 refine g_retCC rfl fun w hw=>⟨((ya,yc),(za,zc),fp),rfl,hw.pick inferInstance,trivial⟩
theorem tidyU_small {u : LUnit} (hu : CheckOk u) : ∀ X ∈ u.funcs,largeF (tidyF X) = false:=fun X hX=>by
 obtain ⟨k,hk⟩:=List.getElem?_of_mem hX
 obtain ⟨R,hA,hT⟩:=tidyAll hu hk
 obtain ⟨g1,g2,g3⟩:=tidy_less hA hT
 have hs:=FnTo.same hu hk
 unfold largeF largeL
 have h1:=hs.size
 rw [← many_size] at h1
 have h2:=hs.many
 have h3:=hs.regs
 rw [decide_eq_false (by omega),decide_eq_false (by omega),decide_eq_false (by omega)]
 rfl
theorem do_told (u : LUnit) (hl : light u) (hu : CheckOk u) (hch : (checkL u).1 = 0) (g fs : Value) (w0 : World) (hg : SlAt w0 g 3 u.globals GlobalV) (hf : SlAt w0 fs 4 u.funcs FuncV) (hways : CellsAt w0 0 0 waysC) :
  Ret Tryz.prog 14 [.agg #[g,fs]] w0 fun v w'=>∃ x : (Option Addr × Nat × Nat) × (Option Addr × Nat × Nat) × (Int × Int) × Ent,v = .tuple #[.agg #[.slice x.1.1 x.1.2.1 x.1.2.2,.slice x.2.1.1 x.2.1.2.1 x.2.1.2.2],.agg #[.int .i64 x.2.2.1.1,.int .i64 x.2.2.1.2]]∧Wd NoS w0 [x.2.2.2] w' ∧
   (inI x.2.2.1.2∧∀ w,x.2.2.2.ok w→Told (tidyU u) w (.slice x.1.1 x.1.2.1 x.1.2.2) (.slice x.2.1.1 x.2.1.2.1 x.2.1.2.2) x.2.2.1.1 x.2.2.1.2):=by
 have hno : ∀ X ∈ (tidyU u).funcs,largeF X = false:=fun X hX=>by
  obtain ⟨Z,hZ,rfl⟩:=List.mem_map.1 hX
  exact tidyU_small hu Z hZ
 refine (tidyDo_ok u hl hu hch (tidyU_small hu) g fs w0 hg hf hways).mono fun v w' ⟨x,h1,h2,_⟩=>⟨((x.1.1,u.globals.length,x.1.2),(x.2.1.1,u.funcs.length,x.2.1.2),(0,0),unitE (tidyU u) (.slice x.1.1 u.globals.length x.1.2) (.slice x.2.1.1 u.funcs.length x.2.1.2) x.2.2),h1,h2,⟨by simp,by simp⟩,fun w hw=>.inr ⟨hno,rfl,rfl,hw.1,hw.2⟩⟩
theorem tidy_len {u : LUnit} (hu : CheckOk u) {k : Nat} {X : LFunc} (hX : u.funcs[k]? = some X) : (tidyF X).blocks.length ≤ X.blocks.length∧(tidyF X).params = X.params∧0 ≤ (tidyF X).regs∧(tidyF X).regs ≤ X.regs∧manyL (tidyF X).blocks ≤ manyL X.blocks:=by
 obtain ⟨R,hA,hT⟩:=tidyAll hu hX
 obtain ⟨h1,h2,h3⟩:=tidy_less hA hT
 refine ⟨h1,rfl,?_,h3,h2⟩
 show (0 : Int) ≤ ((metL _ _).length : Int)
 omega
theorem many300 {u : LUnit} (hu : CheckOk u) {k : Nat} {X : LFunc} (hX : u.funcs[k]? = some X) : manyL X.blocks ≤ 300:=by
 have hs:=FnTo.same hu hX
 have h5:=hs.size
 rw [← many_size] at h5
 omega
theorem tidyR_c (u : LUnit) (hu : CheckOk u) (k : Nat) (X : LFunc) (hX : u.funcs[k]? = some X) (bs0 : Value) (w0 : World) (hbs : SlAt w0 bs0 6 X.blocks BlockV) (hlen : X.blocks.length ≤ 24) (hlim : FnLim X) :
  Ret Tryz.prog 15 [.agg #[.string X.name,.int .i64 X.params,.int .i64 X.regs,bs0]] w0 fun u w'=>∃ y : URow,u = .agg #[.string y.name,.int .i64 y.params,.int .i64 y.regs,.slice y.a y.bs.length y.c]∧Wd NoS w0 [uE y] w'∧(y.fn = tidyF X∧y.bs.length ≤ 1000∧∀ b ∈ y.bs,b.Bd):=by
 obtain ⟨ba,bc,q,hq,hqm,hqs,hqa⟩:=blk_rows hbs
 have hmany:=many300 hu hX
 refine (refTidy_c u hu k X hX hlim hlen (by omega) bs0 w0 hbs fun b hb=>?_).mono fun u2 w' ⟨x,h1,h2,h3,h5⟩=>⟨⟨(tidyF X).name,(tidyF X).params,(tidyF X).regs,x.1,x.2.1,x.2.2⟩,h1,by
  have h6 : Wd NoS w0 (fnE x.1 x.2.1 x.2.2++[]) w':=by rw [List.append_nil]; exact h2
  exact h6.join,by unfold URow.fn; simp only [h3],by
  have h4 : x.2.2.length = (tidyF X).blocks.length:=by rw [← h3,List.length_map]
  have h6:=(tidy_len hu hX).1
  simp only
  omega,h5⟩
 rw [← hqm] at hb
 obtain ⟨c,hc,e⟩:=List.mem_map.1 hb
 exact BRow.Bd.of e.symm (hlim.bd (by rw [← hqm]; exact List.mem_map.2 ⟨c,hc,rfl⟩) (hqa c hc))
theorem tidyF_lim {u : LUnit} (hu : CheckOk u) {k : Nat} {X : LFunc} (hX : u.funcs[k]? = some X) (hl : X.blocks.length ≤ 24) : FnSmall (tidyF X):=by
 have h1:=tidy_len hu hX
 have h2:=many300 hu hX
 refine ⟨by omega,fun C hC=>?_⟩
 obtain ⟨j,hj⟩:=List.getElem?_of_mem hC
 have h3:=(map_pull szB hj).sum_nat
 rw [List.sum_cons,← many_szB] at h3
 unfold szB at h3
 omega
theorem tidySaysLaw_c (u : LUnit) (g fs : Value) (w0 : World) (hg : SlAt w0 g 3 u.globals GlobalV) (hf : SlAt w0 fs 4 u.funcs FuncV) (hways : CellsAt w0 0 0 waysC) :
  RetV Tryz.prog 4 [.agg #[g,fs]] w0 (.bool true):=by
 classical
 have hg0:=hg
 have hf0:=hf
 obtain ⟨ga,gn,gc,gb,go,rfl,hgn,_⟩:=hg
 obtain ⟨fa,fn,fc,fb,fo,rfl,hfn,hfnc,hfnb,hfc,hfa,hfel⟩:=hf
 refine ret_enter Tryz.func4 rfl Tryz.ntmps4 rfl (Wd.nil NoS w0) ?_
 repeat (first|refine g_op rfl ?_|refine g_then ?_|refine g_nil ?_|refine g_region ?_|refine g_seq ?_|refine g_box rfl fun _ _=>?_)
 rename_i p1 _
 refine g_callE (val:=fun b : Bool=>.bool b) (E:=fun _=>[]) (φ:=fun b=>b = false→slim u) rfl (fun w hw=>heavyS_c u _ _ w (hf0.keep keeps_func hw.chg) ⟨_,_,_,rfl⟩) fun b hb=>?_
 simp only [List.nil_append]
 cases b
 case true =>
  repeat (first|refine g_then ?_|refine g_nil ?_|refine g_region ?_|refine g_seq ?_|refine g_opS rfl ?_|refine g_condT ?_|refine g_ret ?_|refine g_thenRet ?_)
  exact g_retV rfl rfl
 have hsl:=hb rfl
 have hl:=hsl.light
 repeat (first|refine g_op rfl ?_|refine g_then ?_|refine g_nil ?_|refine g_region ?_|refine g_seq ?_|refine g_skip ?_|refine g_condF ?_)
 by_cases hbad : (checkL u).1 ≠ 0
 ·refine g_callV rfl (fun w hw=>do_bad' u hl hbad _ _ w (hg0.keep keeps_global hw.chg) (hf0.keep keeps_func hw.chg) (hways.keep hw.chg)) ?_
  repeat (first|refine g_op rfl ?_|refine g_then ?_|refine g_nil ?_|refine g_region ?_|refine g_seq ?_|refine g_alloc rfl fun _ _=>?_|refine g_storeAgg ?_)
  refine g_callV rfl (fun w hw=>check_c u hl _ _ w (hg0.keep keeps_global hw.chg) (hf0.keep keeps_func hw.chg) (hways.keep hw.chg)) ?_
  repeat (first|refine g_op rfl ?_|refine g_then ?_|refine g_nil ?_|refine g_region ?_|refine g_seq ?_|refine g_alloc rfl fun _ _=>?_|refine g_storeAgg ?_)
  refine g_cond (fun h1=>?_) (fun h1=>?_)
  ·repeat (first|refine g_op rfl ?_|refine g_region ?_|refine g_seq ?_)
   rw [show (decide ((checkL u).1 = (checkL u).1) && decide ((checkL u).2 = (checkL u).2)) = true by simp]
   repeat (first|refine g_op rfl ?_|refine g_open ?_)
   refine g_callV rfl (fun w hw=>noneE_c w) ?_
   repeat (first|refine g_op rfl ?_|refine g_then ?_|refine g_nil ?_|refine g_opS rfl ?_|refine g_ret ?_|refine g_thenRet ?_)
   exact g_retV rfl rfl
  ·exact absurd h1 (by simp [hbad])
 have hch : (checkL u).1 = 0:=by simpa using hbad
 have hok:=check_zero.1 hch
 have hu:=hok
 refine g_callE (val:=fun x : (Option Addr × Nat × Nat) × (Option Addr × Nat × Nat) × (Int × Int) × Ent=>.tuple #[.agg #[.slice x.1.1 x.1.2.1 x.1.2.2,.slice x.2.1.1 x.2.1.2.1 x.2.1.2.2],.agg #[.int .i64 x.2.2.1.1,.int .i64 x.2.2.1.2]]) (E:=fun x=>[x.2.2.2]) (φ:=fun x=>inI x.2.2.1.2∧∀ w,x.2.2.2.ok w→Told (tidyU u) w (.slice x.1.1 x.1.2.1 x.1.2.2) (.slice x.2.1.1 x.2.1.2.1 x.2.1.2.2) x.2.2.1.1 x.2.2.1.2) rfl (fun w hw=>do_told u hl hu hch _ _ w (hg0.keep keeps_global hw.chg) (hf0.keep keeps_func hw.chg) (hways.keep hw.chg)) fun x hx=>?_
 obtain ⟨⟨ya,yn,yc⟩,⟨za,zn,zc⟩,⟨vc,vk⟩,UE⟩:=x
 obtain ⟨hvk,htold⟩:=hx
 simp only at hvk htold
 simp only [List.cons_append,List.nil_append]
 repeat (first|refine g_op rfl ?_|refine g_then ?_|refine g_nil ?_|refine g_region ?_|refine g_seq ?_|refine g_alloc rfl fun _ _=>?_|refine g_storeAgg ?_)
 rename_i p3 _ p4 _
 refine g_callV rfl (fun w hw=>check_c u hl _ _ w (hg0.keep keeps_global hw.chg) (hf0.keep keeps_func hw.chg) (hways.keep hw.chg)) ?_
 rw [checkL_zero hch]
 repeat (first|refine g_op rfl ?_|refine g_then ?_|refine g_nil ?_|refine g_region ?_|refine g_seq ?_|refine g_alloc rfl fun _ _=>?_|refine g_storeAgg ?_|refine g_skip ?_|refine g_condF ?_)
 rename_i p5 _
 refine g_callE (val:=UMem.val) (E:=UMem.ents) (φ:=fun m=>m.unit = u∧m.Bd) rfl (fun w hw=>unitR_c u (check_glim hch) (check_few hl) (check_lim hl hch) _ _ w (hg0.keep keeps_global hw.chg) (hf0.keep keeps_func hw.chg)) fun m ⟨hmu,hmb⟩=>?_
 unfold UMem.val
 repeat (first|refine g_op rfl ?_|refine g_then ?_|refine g_nil ?_|refine g_region ?_|refine g_seq ?_|refine g_alloc rfl fun _ _=>?_|refine g_storeAgg ?_|refine g_block ?_)
 rename_i p6 _
 refine g_fix (L':=[(7,.int .i64 0),(6,.pointer (some ⟨p6,0,none⟩)),(4,.pointer (some ⟨p4,0,none⟩)),(3,.pointer (some ⟨p3,0,none⟩)),(1,.pointer (some ⟨p1,0,none⟩))]) (by repeat (first|exact trivial|refine ⟨rfl,?_⟩)) (.refl _) ?_
 have hmf : m.fs.length = fn:=by rw [hfn,← hmu]; unfold UMem.unit; simp only [List.length_map]
 refine g_wd (H':=Ent.box p6 [.slice m.ga m.gs.length m.gc,.slice m.fa fn m.fc] 25::Ent.box p1 [.slice ga gn gc,.slice fa fn fc] 25::Ent.box p3 [.slice ya yn yc,.slice za zn zc] 25::Ent.box p4 [.int .i64 vc,.int .i64 vk] 28::UE::(Ent.vec m.fa fn m.fc 35 4 (m.fs.flatMap uC)::gvE m::(m.gs.map gloE++m.fs.map uE))) (fun w hw=>?_) ?_
 ·refine hw.pick ⟨[Ent.box p5 [.int .i64 (0,0).1,.int .i64 (0,0).2] 28],?_⟩
  unfold UMem.ents gvE
  rw [hmf]
  classical
  refine List.perm_iff_count.2 fun e=>?_
  simp only [List.count_append,List.count_cons,List.count_nil]
  omega
 skip
 skip
 refine g_loop (fun x : Nat × List URow=>x.1 ≤ fn∧x.2.length = fn∧x.2.map URow.fn = (u.funcs.take x.1).map (tidyF)++u.funcs.drop x.1∧∀ y ∈ x.2,(inI y.params∧inI y.regs)∧(∀ b ∈ y.bs,b.Bd)∧y.bs.length ≤ 1000) (fun x=>[(7,.int .i64 x.1),(6,.pointer (some ⟨p6,0,none⟩)),(4,.pointer (some ⟨p4,0,none⟩)),(3,.pointer (some ⟨p3,0,none⟩)),(1,.pointer (some ⟨p1,0,none⟩))]) (fun x=>Ent.box p6 [.slice m.ga m.gs.length m.gc,.slice m.fa fn m.fc] 25::Ent.box p1 [.slice ga gn gc,.slice fa fn fc] 25::Ent.box p3 [.slice ya yn yc,.slice za zn zc] 25::Ent.box p4 [.int .i64 vc,.int .i64 vk] 28::UE::(Ent.vec m.fa fn m.fc 35 4 (x.2.flatMap uC)::gvE m::(m.gs.map gloE++x.2.map uE))) (fun x=>fn - x.1) (0,m.fs) ⟨Nat.zero_le _,hmf,?_,fun y hy=>?_⟩ (g_done (by repeat (first|exact trivial|refine ⟨rfl,?_⟩)) (.refl _)) fun x ⟨hi,hxl,hxm,hxb⟩=>?_
 ·rw [List.take_zero,List.drop_zero,List.map_nil,List.nil_append,← hmu]
  rfl
 ·have h2:=hmb.func y hy
  refine ⟨h2.1,h2.2,?_⟩
  have h3 : y.fn ∈ u.funcs:=by rw [← hmu]; exact List.mem_map.2 ⟨y,hy,rfl⟩
  have:=(check_lim hl hch _ h3).n
  simpa [URow.fn] using this
 obtain ⟨k,ys⟩:=x
 simp only at hi hxl hxm hxb ⊢
 repeat (first|refine g_op rfl ?_|refine g_then ?_|refine g_nil ?_|refine g_region ?_|refine g_seq ?_)
 refine g_cond (fun h1=>?_) (fun h1=>?_)
 ·have hlt : k < fn:=by simpa using h1
  obtain ⟨X,hX⟩ : ∃ X,u.funcs[k]? = some X:=⟨_,List.getElem?_eq_getElem (by omega)⟩
  have hXm:=List.mem_of_getElem? hX
  obtain ⟨y0,hy0⟩ : ∃ y0,ys[k]? = some y0:=⟨_,List.getElem?_eq_getElem (by omega)⟩
  have had : AddrIs fa fb fo:=⟨hfa (ne_of_get hX)⟩
  have hli : LtIs k fn:=⟨hlt⟩
  obtain ⟨_,hcs,bv,rfl,hpi,hri,hbv⟩:=hfel k X hX
  have hci : CellsIs w0 fb (fo + k * 4) _:=⟨hcs⟩
  have hbv0:=hbv
  obtain ⟨ba,bn,bc,_,_,rfl,hbn,_⟩:=hbv
  obtain ⟨R,hAll,hTA⟩:=tidyAll hu hX
  have hlim:=check_lim hl hch X hXm
  have hsm:=(check_small hok hXm).2.2.1
  refine g_vec 5 rfl (by omega) fun vb vo hva=>?_
  rw [hva]
  repeat (first|refine g_then ?_|refine g_seq ?_|refine g_block ?_|refine g_skip ?_)
  refine g_drawX [Ent.box p6 [.slice m.ga m.gs.length m.gc,.slice (some ⟨vb,vo,none⟩) fn m.fc] 25,Ent.box p1 [.slice ga gn gc,.slice fa fn fc] 25] (fun y : URow=>y.fn = tidyF X∧y.bs.length ≤ 1000∧∀ b ∈ y.bs,b.Bd) (fun _=>[(7,.int .i64 k),(6,.pointer (some ⟨p6,0,none⟩)),(4,.pointer (some ⟨p4,0,none⟩)),(3,.pointer (some ⟨p3,0,none⟩)),(1,.pointer (some ⟨p1,0,none⟩))]) (fun y=>uE y::Ent.box p6 [.slice m.ga m.gs.length m.gc,.slice (some ⟨vb,vo,none⟩) fn m.fc] 25::Ent.box p1 [.slice ga gn gc,.slice fa fn fc] 25::Ent.box p3 [.slice ya yn yc,.slice za zn zc] 25::Ent.box p4 [.int .i64 vc,.int .i64 vk] 28::UE::(Ent.vec (some ⟨vb,vo,none⟩) fn m.fc 35 4 ((ys.set k y).flatMap uC)::gvE m::(m.gs.map gloE++ys.map uE))) mixed (by first|exact .cons_cons _ (.cons_cons _ (List.nil_sublist _))|exact .cons _ (.cons_cons _ (.cons_cons _ (List.nil_sublist _)))) ?_ fun y hy=>?_
  ·skip
   refine h_take 0 rfl (by decide +kernel) (by first|exact .cons_cons _ (.cons_cons _ (List.nil_sublist _))|exact .cons _ (.cons_cons _ (.cons_cons _ (List.nil_sublist _)))) ?_
   refine h_take 1 rfl (by decide +kernel) (by first|exact .cons_cons _ (.cons_cons _ (List.nil_sublist _))|exact .cons _ (.cons_cons _ (.cons_cons _ (List.nil_sublist _)))) ?_
   refine h_take 2 rfl (by decide +kernel) (by first|exact .cons_cons _ (.cons_cons _ (List.nil_sublist _))|exact .cons _ (.cons_cons _ (.cons_cons _ (List.nil_sublist _)))) ?_
   refine h_take 3 rfl (by decide +kernel) (by first|exact .cons_cons _ (.cons_cons _ (List.nil_sublist _))|exact .cons _ (.cons_cons _ (.cons_cons _ (List.nil_sublist _)))) ?_
   refine h_take 4 rfl (by decide +kernel) (by first|exact .cons_cons _ (.cons_cons _ (List.nil_sublist _))|exact .cons _ (.cons_cons _ (.cons_cons _ (List.nil_sublist _)))) ?_
   refine h_take 5 rfl (by decide +kernel) (by first|exact .cons_cons _ (.cons_cons _ (List.nil_sublist _))|exact .cons _ (.cons_cons _ (.cons_cons _ (List.nil_sublist _)))) ?_
   refine h_take 6 rfl (by decide +kernel) (by first|exact .cons_cons _ (.cons_cons _ (List.nil_sublist _))|exact .cons _ (.cons_cons _ (.cons_cons _ (List.nil_sublist _)))) ?_
   refine h_take 7 rfl (by decide +kernel) (by first|exact .cons_cons _ (.cons_cons _ (List.nil_sublist _))|exact .cons _ (.cons_cons _ (.cons_cons _ (List.nil_sublist _)))) ?_
   refine h_callE 8 (val:=fun y : URow=>.agg #[.string y.name,.int .i64 y.params,.int .i64 y.regs,.slice y.a y.bs.length y.c]) (E:=fun y=>[uE y]) (φ:=fun y=>y.fn = tidyF X∧y.bs.length ≤ 1000∧∀ b ∈ y.bs,b.Bd) rfl (by decide +kernel) (by first|exact .cons_cons _ (.cons_cons _ (List.nil_sublist _))|exact .cons _ (.cons_cons _ (.cons_cons _ (List.nil_sublist _)))) (fun w hw=>tidyR_c u hu k X hX _ w (hbv0.keep keeps_block hw.chg) (hsl.2 X hXm).1 hlim) fun y hy=>?_
   simp only [List.cons_append,List.nil_append]
   refine h_take 9 rfl (by decide +kernel) (by first|exact .cons_cons _ (.cons_cons _ (List.nil_sublist _))|exact .cons _ (.cons_cons _ (.cons_cons _ (List.nil_sublist _)))) ?_
   refine h_one 10 (by decide +kernel) ?_
   refine o_storeVA 10 6 (j:=k * 4) rfl rfl (by rw [flat_len uC_len]; omega) (by first|exact .cons_cons _ (.cons_cons _ (List.nil_sublist _))|exact .cons _ (.cons_cons _ (.cons_cons _ (List.nil_sublist _)))) ?_
   rw [show [Value.string y.name,.int .i64 y.params,.int .i64 y.regs,.slice y.a y.bs.length y.c] = uC y from rfl,flat_put uC_len (by omega)]
   simp only [List.set_cons_zero,List.set_cons_succ]
   refine h_end (by decide +kernel) ?_
   exact g_mem y hy (by repeat (first|exact trivial|refine ⟨rfl,?_⟩)) (.refl _)
  ·obtain ⟨hy1,hy2,hy3⟩:=hy
   refine g_wd (H':=Ent.box p6 [.slice m.ga m.gs.length m.gc,.slice (some ⟨vb,vo,none⟩) fn m.fc] 25::Ent.box p1 [.slice ga gn gc,.slice fa fn fc] 25::Ent.box p3 [.slice ya yn yc,.slice za zn zc] 25::Ent.box p4 [.int .i64 vc,.int .i64 vk] 28::UE::(Ent.vec (some ⟨vb,vo,none⟩) fn m.fc 35 4 ((ys.set k y).flatMap uC)::gvE m::(m.gs.map gloE++(ys.set k y).map uE))) (fun w hw=>?_) ?_
   ·refine hw.pick ⟨[uE y0],?_⟩
    have h2:=map_pull uE hy0
    have h3:=map_pull uE (l:=ys.set k y) (k:=k) (x:=y) (List.getElem?_set_self (by omega))
    rw [List.eraseIdx_set_eq] at h3
    classical
    refine List.perm_iff_count.2 fun e=>?_
    have h4:=List.perm_iff_count.1 h2 e
    have h5:=List.perm_iff_count.1 h3 e
    simp only [List.count_append,List.count_cons,List.count_nil] at h4 h5 ⊢
    omega
   repeat (first|refine g_op rfl ?_|refine g_then ?_|refine g_nil ?_|refine g_region ?_|refine g_opS rfl ?_|refine g_inBlock ?_|refine g_add rfl (by omega) (by omega) ?_)
   refine g_next (k + 1,ys.set k y) ⟨hlt,by simp only; rw [List.length_set]; exact hxl,?_,fun z hz=>?_⟩ (by simp only; omega) ?_ ?_
   ·simp only
    rw [List.map_set,hxm,hy1,set_mid (by rw [List.length_map,List.length_take]; omega) (by omega),List.take_add_one,hX,List.map_append]
    rfl
   ·rcases List.mem_or_eq_of_mem_set hz with hz|rfl
    ·exact hxb z hz
    ·have h6 : z.params = X.params:=congrArg LFunc.params hy1
     have h7 : z.regs = (tidyF X).regs:=congrArg LFunc.regs hy1
     obtain ⟨_,_,g3,g4,_⟩:=tidy_len hu hX
     have h10:=hAll.regs
     have h9:=hAll.le
     rw [h6,h7]
     exact ⟨⟨hpi,⟨by omega,by omega⟩⟩,hy3,by omega⟩
   ·exact (by repeat (first|exact trivial|refine ⟨rfl,?_⟩))
   ·exact List.Sublist.refl _
 ·obtain rfl : fn = k:=by have:=h1; simp at this; omega
  have hfin : (UMem.unit { m with fs:=ys }).funcs = (tidyU u).funcs:=by
   unfold UMem.unit tidyU
   simp only
   rw [hxm,hfn,List.take_length,List.drop_length,List.append_nil]
  have hfing : (UMem.unit { m with fs:=ys }).globals = (tidyU u).globals:=by
   unfold tidyU
   simp only
   rw [← hmu]
   rfl
  have hglen : m.gs.length = u.globals.length:=by rw [← hmu]; unfold UMem.unit; simp only [List.length_map]
  have hms : ∀ w,Wd NoS w0 (Ent.box p6 [.slice m.ga m.gs.length m.gc,.slice m.fa fn m.fc] 25::Ent.box p1 [.slice ga gn gc,.slice fa fn fc] 25::Ent.box p3 [.slice ya yn yc,.slice za zn zc] 25::Ent.box p4 [.int .i64 vc,.int .i64 vk] 28::UE::(Ent.vec m.fa fn m.fc 35 4 (ys.flatMap uC)::gvE m::(m.gs.map gloE++ys.map uE))) w→SlAt w (.slice m.ga m.gs.length m.gc) 3 (tidyU u).globals GlobalV∧SlAt w (.slice m.fa fn m.fc) 4 (tidyU u).funcs FuncV:=fun w hw=>by
   have h2 : Wd NoS w0 ((UMem.ents { m with fs:=ys })++[]) w:=by
    rw [List.append_nil]
    unfold UMem.ents
    simp only
    rw [hxl]
    exact hw.sub (.cons _ (.cons _ (.cons _ (.cons _ (.cons _ (.refl _))))))
   have h3:=UMem.sl (m:={ m with fs:=ys }) ⟨hmb.glob,fun y hy=>⟨(hxb y hy).1,(hxb y hy).2.1⟩⟩ ⟨by have:=hok.globs; simp only; omega,by have:=hl.1; simp only; omega,fun y hy=>(hxb y hy).2.2⟩ h2
   rw [hfin,hfing] at h3
   simp only [hxl] at h3
   exact h3
  repeat (first|refine g_op rfl ?_|refine g_then ?_|refine g_region ?_|refine g_seq ?_|refine g_exit ?_|refine g_thenExit ?_|refine g_exitHere ?_)
  refine g_callV rfl (fun w hw=>given_c _ _ _ _ vc vk _ _ (tidyU u) w (hms w hw).1 (hms w hw).2 (fun X hX=>?_) hvk (htold w (hw.get (k:=4) rfl))) ?_
  ·unfold tidyU at hX
   obtain ⟨Z,hZ,rfl⟩:=List.mem_map.1 hX
   obtain ⟨j,hj⟩:=List.getElem?_of_mem hZ
   obtain ⟨R,hAll⟩:=fnAll hok hj
   exact tidyF_lim hu hj (hsl.2 Z hZ).1
  repeat (first|refine g_op rfl ?_|refine g_then ?_|refine g_nil ?_|refine g_ret ?_)
  exact g_retV rfl rfl
end Go.Proofs.YtpadjpplidlfeaaGreatDoor

/- Texts joined: DoOf TidyLaw. -/
import Derived.Test.YtpadjpplidlfeaaDoorGD
import Derived.Test.YtpadjpplidlfeaaDoorGE
import Derived.Test.YtpadjpplidlfeaaDoorGI
import Derived.Test.YtpadjpplidlfeaaDoorHA
import Derived.Test.YtpadjpplidlfeaaDoorHJ
import Derived.Test.YtpadjpplidlfeaaDoorHQ
import Derived.Test.YtpadjpplidlfeaaDoorHS
import Derived.Test.YtpadjpplidlfeaaDoorHW
import Derived.Test.YtpadjpplidlfeaaDoorIB
import Derived.Test.YtpadjpplidlfeaaDoorID
import Derived.Test.YtpadjpplidlfeaaDoorIE
import Derived.Test.YtpadjpplidlfeaaDoorIH
import Derived.Test.YtpadjpplidlfeaaDoorIN
namespace Go.Proofs.YtpadjpplidlfeaaDoor
open Go Go.RowKit
attribute [local irreducible] wpListIn Code.wpIn Exit.then Exit.inBlock bodyPost wpQuiet wpAnyIn wpAnyH bodyPostM oneH
set_option maxHeartbeats 4000000
theorem doOf_c (X : LFunc) (R : Nat) (hX : FnAll X R) (hT : TidyAll X R) (hkind : KindOk X.blocks) (hlen : X.blocks.length ≤ 100) (hmany : manyL X.blocks ≤ 1000) (hpar : inI X.params) (w0 : World) : Turns w0 18 [] [] tidyF X:=by
 classical
 obtain ⟨xn,xp,xr,xb⟩:=X
 have hR:=hX.le
 have hf:=hX.ok
 have hpos:=hX.pos
 simp only at hlen hmany hkind hf hpos
 intro a c bs wb hbs hbd hch hfr hw
 simp only at hbs
 subst hbs
 have hbl : bs.length ≤ 100:=by rw [List.length_map] at hlen; exact hlen
 have hg:=hf.good
 have hk:=orderK_ok hg hpos
 obtain ⟨hz1,_⟩:=order_pos hg hpos
 have hol : (orderL (bs.map BRow.blk)).length = (postL (bs.map BRow.blk)).length:=by unfold orderL; rw [List.length_reverse]
 have hplen:=postL_len hpos
 rw [List.length_map] at hplen hpos
 simp only [List.nil_append,List.append_nil,List.cons_append]
 refine ret_enter Tryd.func18 rfl Tryd.ntmps18 rfl hw ?_
 obtain ⟨SS,hSS⟩ : ∃ SS,SS = fps (fnE a c bs):=⟨_,rfl⟩
 rw [← hSS]
 repeat (first|refine g_then ?_|refine g_nil ?_|refine g_region ?_|refine g_seq ?_|refine g_box rfl fun _ _=>?_|refine g_alloc rfl fun _ _=>?_)
 rename_i p1 _ p2 _
 obtain ⟨bl,hblD⟩ : ∃ bl,bl = bs.map BRow.blk:=⟨_,rfl⟩
 obtain ⟨o,hoD⟩ : ∃ o,o = orderL bl:=⟨_,rfl⟩
 rw [← hblD] at hk hol hplen hz1
 rw [← hoD] at hk hol hz1
 have hol2 : o.length ≤ bs.length:=by omega
 have hkF : keptF ⟨xn,xp,xr,bs.map BRow.blk⟩ = keptL bl o:=by rw [hoD,hblD]; rfl
 have hocall : ∀ w : World,SlAt w (.slice a bs.length c) 6 bl BlockV→Ret Tryd.prog 43 [.agg #[.string xn,.int .i64 xp,.int .i64 xr,.slice a bs.length c]] w fun u w'=>∃ x : Option Addr × Nat,u = .slice x.1 o.length x.2∧Wd NoS w [Ent.vec x.1 o.length x.2 3 1 (o.map intN)] w'∧True:=fun w h=>by
  have:=orderOf_c (.string xn) (.int .i64 xp) (.int .i64 xr) bl (.slice a bs.length c) ⟨_,_,_,rfl⟩ w h (by rw [hblD,List.length_map]; exact hbl) (by rw [hblD]; exact hg) (by rw [hblD,List.length_map]; exact hpos)
  rw [hol,hoD]
  exact this
 have hrd : ∀ w,Wd SS wb (Ent.box p2 [.string ByteArray.empty,.int .i64 0,.int .i64 0,.slice none 0 0] 33::Ent.box p1 [.string xn,.int .i64 xp,.int .i64 xr,.slice a bs.length c] 33::fnE a c bs) w→SlAt w (.slice a bs.length c) 6 bl BlockV:=fun w hw=>by
  rw [hblD]
  refine Wd.blocks (H:=[]) (hw.sub (.cons _ (.cons _ ?_))) (by omega) hbd
  rw [List.append_nil]
  exact List.Sublist.refl _
 have hkcall : ∀ (y : Option Addr × Nat) (S : Nat→Prop) (v w : World),Wd S v (fnE a c bs++[Ent.vec y.1 o.length y.2 3 1 (o.map intN),Ent.box p2 [.string ByteArray.empty,.int .i64 0,.int .i64 0,.slice none 0 0] 33,Ent.box p1 [.string xn,.int .i64 xp,.int .i64 xr,.slice a bs.length c] 33]) w→Ret Tryd.prog 42 [.agg #[.string xn,.int .i64 xp,.int .i64 xr,.slice a bs.length c],.slice y.1 o.length y.2] w fun u w'=>∃ x : Option Addr × Nat × List BRow,u = .agg #[.string xn,.int .i64 xp,.int .i64 xr,.slice x.1 x.2.2.length x.2.1]∧Wd (fps (fnE a c bs)) w (fnE x.1 x.2.1 x.2.2) w' ∧
   (x.2.2.map BRow.blk = keptL bl o∧∀ b ∈ x.2.2,b.Bd):=fun y S v w hw=>by
  have:=keep_c xn xp xr a c bs o y.1 y.2 R hbl hpos hbd hf (by rw [← hblD]; exact hk) w hw.pre (ints_sl hw.besides (k:=0) rfl rfl (by omega) fun x hx=>by have:=hk.lt x hx; rw [hblD,List.length_map] at this; omega)
  rw [← hblD] at this
  exact this
 obtain ⟨TF,hTF⟩ : ∃ TF,TF = tidyF ⟨xn,xp,xr,bs.map BRow.blk⟩:=⟨_,rfl⟩
 rw [← hTF]
 refine g_drawX [Ent.box p1 [.string xn,.int .i64 xp,.int .i64 xr,.slice a bs.length c] 33] (fun x : Option Addr × Nat × List BRow=>x.2.2.map BRow.blk = TF.blocks∧(∀ b ∈ x.2.2,b.Bd)∧x.2.2.length ≤ 1000∧inI TF.params∧inI TF.regs) (fun _=>[(2,.pointer (some ⟨p2,0,none⟩))]) (fun x=>Ent.box p2 [.string TF.name,.int .i64 TF.params,.int .i64 TF.regs,.slice x.1 x.2.2.length x.2.1] 33::fnE x.1 x.2.1 x.2.2) mixed (.cons _ (.cons_cons _ (List.nil_sublist _))) ?_ fun x hx=>?_
 ·skip
  refine h_take 0 rfl (by decide +kernel) (.cons _ (.cons_cons _ (List.nil_sublist _))) ?_
  refine h_take 1 rfl (by decide +kernel) (.cons _ (.cons_cons _ (List.nil_sublist _))) ?_
  refine h_callE 2 (val:=fun x : Option Addr × Nat=>.slice x.1 o.length x.2) (E:=fun x=>[Ent.vec x.1 o.length x.2 3 1 (o.map intN)]) (φ:=fun _=>True) rfl (by decide +kernel) (.cons _ (.cons_cons _ (List.nil_sublist _))) (fun w hw=>hocall w (hrd w hw)) fun y _=>?_
  obtain ⟨oa,oc⟩:=y
  simp only [List.cons_append,List.nil_append]
  refine g_permH (H1:=fnE a c bs++[Ent.vec oa o.length oc 3 1 (o.map intN),Ent.box p2 [.string ByteArray.empty,.int .i64 0,.int .i64 0,.slice none 0 0] 33,Ent.box p1 [.string xn,.int .i64 xp,.int .i64 xr,.slice a bs.length c] 33]) (List.perm_append_comm (l₁:=[_,_,_])) ?_
  refine h_callS 3 (val:=fun x : Option Addr × Nat × List BRow=>.agg #[.string xn,.int .i64 xp,.int .i64 xr,.slice x.1 x.2.2.length x.2.1]) (E:=fun x=>fnE x.1 x.2.1 x.2.2) (φ:=fun x=>x.2.2.map BRow.blk = keptL bl o∧∀ b ∈ x.2.2,b.Bd) rfl (by decide +kernel) (.cons _ (.cons _ (.cons_cons _ (List.nil_sublist _)))) (fun w hw=>hkcall (oa,oc) _ _ w hw) fun z hz=>?_
  obtain ⟨na,nc,ks⟩:=z
  obtain ⟨hkb,hkd⟩:=hz
  simp only at hkb hkd ⊢
  have hkl : ks.length = o.length:=by
   have:=congrArg List.length hkb
   rwa [List.length_map,keptL_len] at this
  have hbk : BlOk R (ks.map BRow.blk):=by
   rw [hkb]
   exact ⟨keep_funcOk (by rw [hblD]; exact hf) hk,kind_kept hk (by rw [hblD]; exact hkind)⟩
  have hmk : manyL (ks.map BRow.blk) ≤ 1000:=by
   rw [hkb]
   exact Nat.le_trans (many_keep_le hk) (by rw [hblD]; exact hmany)
  refine h_callS 4 (val:=fun x : Option Addr × Nat × List BRow=>.agg #[.string xn,.int .i64 xp,.int .i64 xr,.slice x.1 x.2.2.length x.2.1]) (E:=fun x=>fnE x.1 x.2.1 x.2.2) (φ:=fun x=>x.2.2.map BRow.blk = chainsL (ks.map BRow.blk)∧∀ b ∈ x.2.2,b.Bd) rfl (by decide +kernel) (.cons _ (.cons _ (.cons_cons _ (List.nil_sublist _)))) (fun w hw=>chainsOf_c xn xp xr na nc ks R (by omega) (by omega) hkd hbk hmk w hw.pre) fun z hz=>?_
  obtain ⟨ca,cc,cs⟩:=z
  obtain ⟨hcb,hcd⟩:=hz
  simp only at hcb hcd ⊢
  have hcF : chainsL (keptF ⟨xn,xp,xr,bs.map BRow.blk⟩) = cs.map BRow.blk:=by rw [hkF,hcb,hkb]
  have hmid:=hT.mid
  have hml:=hT.len
  rw [hcF] at hmid hml
  have hTFe : TF = namesF ⟨xn,xp,xr,cs.map BRow.blk⟩:=by
   rw [hTF]
   unfold tidyF
   rw [hcF]
   rfl
  refine h_callS 5 (val:=fun x : Option Addr × Nat × List BRow=>.agg #[.string TF.name,.int .i64 TF.params,.int .i64 TF.regs,.slice x.1 x.2.2.length x.2.1]) (E:=fun x=>fnE x.1 x.2.1 x.2.2) (φ:=fun x=>x.2.2.map BRow.blk = TF.blocks∧(∀ b ∈ x.2.2,b.Bd)∧x.2.2.length ≤ 1000∧inI TF.params∧inI TF.regs) rfl (by decide +kernel) (.cons _ (.cons _ (.cons_cons _ (List.nil_sublist _)))) (fun w hw=>?_) fun z hz=>?_
  ·have h9:=namesOf_c ⟨xn,xp,xr,cs.map BRow.blk⟩ R hmid (by simp only [List.length_map] at hml ⊢; omega) hpar { w with heap:=#[] } ca cc cs w rfl hcd ⟨rfl,rfl,rfl,Nat.zero_le _,fun k hk=>absurd hk (Nat.not_lt_zero k)⟩ (fun _ _=>Nat.zero_le _) hw.pre
   rw [← hTFe] at h9
   exact h9
  obtain ⟨fa,fc,fs⟩:=z
  simp only at hz ⊢
  refine g_permH (H1:=Ent.box p2 [.string ByteArray.empty,.int .i64 0,.int .i64 0,.slice none 0 0] 33::Ent.box p1 [.string xn,.int .i64 xp,.int .i64 xr,.slice a bs.length c] 33::Ent.vec oa o.length oc 3 1 (o.map intN)::fnE fa fc fs) (List.perm_iff_count.2 fun e=>by simp only [List.count_append,List.count_cons,List.count_nil]; omega) ?_
  refine h_storeAgg 6 (by decide +kernel) (.cons _ (.cons_cons _ (List.nil_sublist _))) ?_
  refine h_end (by decide +kernel) ?_
  exact g_mem (fa,fc,fs) hz (by repeat (first|exact trivial|refine ⟨rfl,?_⟩)) (.cons_cons _ (.cons _ (.cons _ (.refl _))))
 repeat (first|refine g_then ?_|refine g_ret ?_)
 rw [hSS]
 exact g_retC rfl fun w hw=>⟨x,rfl,hw.sub (.cons _ (.refl _)),hx⟩
theorem do_bad' (u : LUnit) (hl : light u) (hbad : (checkL u).1 ≠ 0) (g fs : Value) (w0 : World) (hg : SlAt w0 g 3 u.globals GlobalV) (hf : SlAt w0 fs 4 u.funcs FuncV) (hways : CellsAt w0 0 0 waysC) :
  RetV Tryd.prog 6 [.agg #[g,fs]] w0 (.tuple #[.agg #[.slice none 0 0,.slice none 0 0],.agg #[.int .i64 (checkL u).1,.int .i64 (checkL u).2]]):=by
 have hg0:=hg
 have hf0:=hf
 obtain ⟨ga,gn,gc,gb,go,rfl,_⟩:=hg
 obtain ⟨fa,fn,fc,fb,fo,rfl,hfn,_⟩:=hf
 refine ret_enter Tryd.func6 rfl Tryd.ntmps6 rfl (Wd.nil NoS w0) ?_
 repeat (first|refine g_op rfl ?_|refine g_then ?_|refine g_nil ?_|refine g_region ?_|refine g_seq ?_|refine g_box rfl fun _ _=>?_|refine g_alloc rfl fun _ _=>?_)
 rename_i p1 _ p2 _ p3 _
 refine g_callV rfl (fun w hw=>check_c u hl _ _ w (hg0.keep keeps_global hw.chg) (hf0.keep keeps_func hw.chg) (hways.keep hw.chg)) ?_
 repeat (first|refine g_op rfl ?_|refine g_then ?_|refine g_nil ?_|refine g_region ?_|refine g_seq ?_|refine g_alloc rfl fun _ _=>?_|refine g_storeAgg ?_)
 rename_i p4 _
 refine g_cond (fun h1=>?_) (fun h1=>?_)
 ·repeat (refine g_seq ?_)
  refine g_drawW [(2,.pointer (some ⟨p2,0,none⟩)),(3,.pointer (some ⟨p3,0,none⟩))] [Ent.box p3 [.int .i64 (checkL u).1,.int .i64 (checkL u).2] 28,Ent.box p2 [.slice none 0 0,.slice none 0 0] 25] mixed ?_ ?_
  ·repeat' (first|refine g_any0 (by decide +kernel) ?_|refine g_any (by decide +kernel) ?_|refine any_nil|refine any_skip (by decide +kernel) ?_|refine any_cons ?_ ?_|refine g_op rfl ?_|refine g_then ?_|refine g_nil ?_|refine g_storeAgg ?_)
   all_goals exact g_done (by repeat (first|exact trivial|refine ⟨rfl,?_⟩)) (by simp)
  ·repeat (first|refine g_then ?_|refine g_ret ?_|refine g_thenRet ?_)
   exact g_retCC rfl fun _ hw=>⟨rfl,hw.chg⟩
 ·simp at h1
  omega
theorem tidyEach_c (u : LUnit) (hl : light u) (hu : CheckOk u) (hch : (checkL u).1 = 0) (g fs : Value) (w : World) (hg : SlAt w g 3 u.globals GlobalV) (hf : SlAt w fs 4 u.funcs FuncV) :
  Ret Tryd.prog 17 [.agg #[g,fs],.func (.func 18) #[] #[]] w (EachR u tidyF w) :=
 each_c u (check_glim hch) ⟨check_few hl,check_lim hl hch⟩ _ _ w hg hf 18 [] [] tidyF fun X hX=>by
  obtain ⟨k,hk⟩:=List.getElem?_of_mem hX
  obtain ⟨R,hA,hT⟩:=tidyAll hu hk
  have h1:=(hl.2 X hX).1
  have h2:=hA.par
  have h3:=hA.le
  have h4 : manyL X.blocks ≤ 1000:=by
   have hs:=FnTo.same hu hk
   have h5:=hs.size
   rw [← many_size] at h5
   omega
  exact doOf_c X R hA hT (fn_kind hu hk).1 (by omega) h4 ⟨by omega,by omega⟩ w
theorem tidyDo_ok (u : LUnit) (hl : light u) (hu : CheckOk u) (hch : (checkL u).1 = 0) (hN : ∀ X ∈ u.funcs,largeF (tidyF X) = false) (g fs : Value) (w0 : World) (hg : SlAt w0 g 3 u.globals GlobalV) (hf : SlAt w0 fs 4 u.funcs FuncV) (hways : CellsAt w0 0 0 waysC) :
  Ret Tryd.prog 6 [.agg #[g,fs]] w0 fun v w'=>∃ x : (Option Addr × Nat) × (Option Addr × Nat) × (Nat→Prop),v = .tuple #[.agg #[.slice x.1.1 u.globals.length x.1.2,.slice x.2.1.1 u.funcs.length x.2.1.2],.agg #[.int .i64 0,.int .i64 0]]∧Wd NoS w0 [unitE (tidyU u) (.slice x.1.1 u.globals.length x.1.2) (.slice x.2.1.1 u.funcs.length x.2.1.2) x.2.2] w'∧True:=by
 have hg0:=hg
 have hf0:=hf
 obtain ⟨ga,gn,gc,gb,go,rfl,_⟩:=hg
 obtain ⟨fa,fn,fc,fb,fo,rfl,hfn,_⟩:=hf
 refine ret_enter Tryd.func6 rfl Tryd.ntmps6 rfl (Wd.nil NoS w0) ?_
 repeat (first|refine g_op rfl ?_|refine g_then ?_|refine g_nil ?_|refine g_region ?_|refine g_seq ?_|refine g_box rfl fun _ _=>?_|refine g_alloc rfl fun _ _=>?_)
 rename_i p1 _ p2 _ p3 _
 refine g_callV rfl (fun w hw=>check_c u hl _ _ w (hg0.keep keeps_global hw.chg) (hf0.keep keeps_func hw.chg) (hways.keep hw.chg)) ?_
 rw [checkL_zero hch]
 repeat (first|refine g_op rfl ?_|refine g_then ?_|refine g_nil ?_|refine g_region ?_|refine g_seq ?_|refine g_alloc rfl fun _ _=>?_|refine g_storeAgg ?_|refine g_skip ?_|refine g_condF ?_)
 rename_i p4 _
 refine g_callE (val:=fun x : (Option Addr × Nat) × (Option Addr × Nat) × (Nat→Prop)=>.tuple #[.agg #[.slice x.1.1 u.globals.length x.1.2,.slice x.2.1.1 u.funcs.length x.2.1.2],.agg #[.int .i64 0,.int .i64 0]]) (E:=fun x=>[unitE (tidyU u) (.slice x.1.1 u.globals.length x.1.2) (.slice x.2.1.1 u.funcs.length x.2.1.2) x.2.2]) (φ:=fun _=>True) rfl (fun w hw=>(tidyEach_c u hl hu hch _ _ w (hg0.keep keeps_global hw.chg) (hf0.keep keeps_func hw.chg)).mono fun v w' h=>?_) fun x _=>?_
 ·rcases h with ⟨j,Y,h1,h2,_⟩|⟨_,ga,fa,gc,fc,fp,rfl,hw⟩
  ·rw [hN Y (List.mem_of_getElem? h1)] at h2
   cases h2
  ·exact ⟨((ga,gc),(fa,fc),fp),rfl,hw,trivial⟩
 obtain ⟨⟨ya,yc⟩,⟨za,zc⟩,fp⟩:=x
 simp only [List.cons_append,List.nil_append]
 repeat (first|refine g_op rfl ?_|refine g_then ?_|refine g_nil ?_|refine g_storeAgg ?_|refine g_ret ?_)
 refine g_retCC rfl fun w hw=>⟨((ya,yc),(za,zc),fp),rfl,hw.pick inferInstance,trivial⟩
theorem tidyU_small {u : LUnit} (hu : CheckOk u) : ∀ X ∈ u.funcs,largeF (tidyF X) = false:=fun X hX=>by
 obtain ⟨k,hk⟩:=List.getElem?_of_mem hX
 obtain ⟨R,hA,hT⟩:=tidyAll hu hk
 obtain ⟨g1,g2,g3⟩:=tidy_less hA hT
 have hs:=FnTo.same hu hk
 unfold largeF largeL
 have h1:=hs.size
 rw [← many_size] at h1
 have h2:=hs.many
 have h3:=hs.regs
 rw [decide_eq_false (by omega),decide_eq_false (by omega),decide_eq_false (by omega)]
 rfl
theorem tidy_len {u : LUnit} (hu : CheckOk u) {k : Nat} {X : LFunc} (hX : u.funcs[k]? = some X) : (tidyF X).blocks.length ≤ X.blocks.length∧(tidyF X).params = X.params∧0 ≤ (tidyF X).regs∧(tidyF X).regs ≤ X.regs∧manyL (tidyF X).blocks ≤ manyL X.blocks:=by
 obtain ⟨R,hA,hT⟩:=tidyAll hu hX
 obtain ⟨h1,h2,h3⟩:=tidy_less hA hT
 refine ⟨h1,rfl,?_,h3,h2⟩
 show (0 : Int) ≤ ((metL _ _).length : Int)
 omega
end Go.Proofs.YtpadjpplidlfeaaDoor

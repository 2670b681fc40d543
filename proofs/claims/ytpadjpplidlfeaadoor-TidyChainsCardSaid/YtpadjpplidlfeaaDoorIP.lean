/- Texts joined: TidyI TidyQ. -/
import Derived.Test.YtpadjpplidlfeaaDoorGD
import Derived.Test.YtpadjpplidlfeaaDoorGE
import Derived.Test.YtpadjpplidlfeaaDoorGG
import Derived.Test.YtpadjpplidlfeaaDoorGI
import Derived.Test.YtpadjpplidlfeaaDoorHA
import Derived.Test.YtpadjpplidlfeaaDoorHE
import Derived.Test.YtpadjpplidlfeaaDoorHF
import Derived.Test.YtpadjpplidlfeaaDoorHJ
import Derived.Test.YtpadjpplidlfeaaDoorHN
import Derived.Test.YtpadjpplidlfeaaDoorHQ
import Derived.Test.YtpadjpplidlfeaaDoorHS
import Derived.Test.YtpadjpplidlfeaaDoorHW
import Derived.Test.YtpadjpplidlfeaaDoorIB
import Derived.Test.YtpadjpplidlfeaaDoorID
import Derived.Test.YtpadjpplidlfeaaDoorIE
import Derived.Test.YtpadjpplidlfeaaDoorIH
import Derived.Test.YtpadjpplidlfeaaDoorIO
namespace Go.Proofs.YtpadjpplidlfeaaDoor
open Go Go.RowKit
attribute [local irreducible] wpListIn Code.wpIn Exit.then Exit.inBlock bodyPost wpQuiet wpAnyIn wpAnyH bodyPostM oneH
set_option maxHeartbeats 4000000
theorem reached_all {bl : List LBlock} {l : List Nat} (hg : GoodB bl) (h0 : 0 < bl.length) (ho : orderL bl = List.range bl.length) (h : FromR bl (-1) 0 l) : l.length = bl.length:=by
 obtain ⟨h1,h2,h3⟩:=h
 have h4 : l.Perm (List.range bl.length):=(List.perm_ext_iff_of_nodup h1 List.nodup_range).2 fun x=>by
  rw [List.mem_range]
  refine ⟨fun hx=>h2 x hx,fun hx=>(h3 x).2 ⟨by omega,(postL_mem hg h0).1 ?_⟩⟩
  have h5 : x ∈ orderL bl:=by rw [ho]; exact List.mem_range.2 hx
  unfold orderL at h5
  exact List.mem_reverse.1 h5
 rw [h4.length_eq,List.length_range]
theorem tidyChainsLaw_c (u : LUnit) (g fs : Value) (w0 : World) (hg : SlAt w0 g 3 u.globals GlobalV) (hf : SlAt w0 fs 4 u.funcs FuncV) (hways : CellsAt w0 0 0 waysC) :
  RetV Tryd.prog 3 [.agg #[g,fs]] w0 (.bool true):=by
 classical
 have hg0:=hg
 have hf0:=hf
 obtain ⟨ga,gn,gc,gb,go,rfl,hgn,_⟩:=hg
 obtain ⟨fa,fn,fc,fb,fo,rfl,hfn,hfnc,hfnb,hfc,hfa,hfel⟩:=hf
 refine ret_enter Tryd.func3 rfl Tryd.ntmps3 rfl (Wd.nil NoS w0) ?_
 repeat (first|refine g_op rfl ?_|refine g_then ?_|refine g_nil ?_|refine g_region ?_|refine g_seq ?_|refine g_box rfl fun _ _=>?_)
 rename_i p1 _
 refine g_callE (val:=fun b : Bool=>.bool b) (E:=fun _=>[]) (φ:=fun b=>b = false→slim u) rfl (fun w hw=>heavyS_c u _ _ w (hf0.keep keeps_func hw.chg) ⟨_,_,_,rfl⟩) fun b hb=>?_
 simp only [List.nil_append]
 cases b
 case true =>
  repeat (first|refine g_then ?_|refine g_nil ?_|refine g_region ?_|refine g_seq ?_|refine g_opS rfl ?_|refine g_condT ?_|refine g_ret ?_|refine g_thenRet ?_)
  exact g_retV rfl rfl
 have hsl:=hb rfl
 have hl:=hsl.light
 repeat (first|refine g_op rfl ?_|refine g_then ?_|refine g_nil ?_|refine g_region ?_|refine g_seq ?_|refine g_skip ?_|refine g_condF ?_)
 by_cases hbad : (checkL u).1 ≠ 0
 ·refine g_callV rfl (fun w hw=>do_bad' u hl hbad _ _ w (hg0.keep keeps_global hw.chg) (hf0.keep keeps_func hw.chg) (hways.keep hw.chg)) ?_
  repeat (first|refine g_op rfl ?_|refine g_then ?_|refine g_nil ?_|refine g_region ?_|refine g_seq ?_|refine g_alloc rfl fun _ _=>?_|refine g_storeAgg ?_)
  refine g_cond (fun h1=>?_) (fun h1=>?_)
  ·repeat (first|refine g_op rfl ?_|refine g_region ?_|refine g_seq ?_)
   refine g_callV rfl (fun w hw=>noneE_c w) ?_
   repeat (first|refine g_then ?_|refine g_nil ?_|refine g_opS rfl ?_|refine g_ret ?_|refine g_thenRet ?_)
   exact g_retV rfl rfl
  ·exact absurd h1 (by simp [hbad])
 have hch : (checkL u).1 = 0:=by simpa using hbad
 have hu : Whole u:=⟨check_zero.1 hch,nums_of hf0,gnums_of hg0⟩
 have hu2:=(tidyU_whole hu).1
 have hfn2 : (tidyU u).funcs.length = u.funcs.length:=by unfold tidyU; rw [List.length_map]
 refine g_callE (val:=(fun x : (Option Addr × Nat) × (Option Addr × Nat) × (Nat→Prop)=>Value.tuple #[.agg #[.slice x.1.1 gn x.1.2,.slice x.2.1.1 fn x.2.1.2],.agg #[.int .i64 0,.int .i64 0]])) (E:=(fun x : (Option Addr × Nat) × (Option Addr × Nat) × (Nat→Prop)=>[unitE (tidyU u) (.slice x.1.1 gn x.1.2) (.slice x.2.1.1 fn x.2.1.2) x.2.2])) (φ:=fun _=>True) rfl (fun w hw=>by rw [hgn,hfn]; exact tidyDo_ok u hl hu.ok hch (tidyU_small hu.ok) _ _ w (by rw [← hgn]; exact hg0.keep keeps_global hw.chg) (by rw [← hfn]; exact hf0.keep keeps_func hw.chg) (hways.keep hw.chg)) fun x _=>?_
 obtain ⟨⟨ya,yc⟩,⟨za,zc⟩,fp⟩:=x
 simp only [List.cons_append,List.nil_append]
 repeat (first|refine g_op rfl ?_|refine g_then ?_|refine g_nil ?_|refine g_region ?_|refine g_seq ?_|refine g_alloc rfl fun _ _=>?_|refine g_storeAgg ?_|refine g_skip ?_|refine g_condF ?_)
 rename_i p3 _ p4 _
 have hfpos : 0 < u.funcs.length:=by
  have h1:=hu.ok.main
  cases hfs : u.funcs with
  | nil=>rw [hfs] at h1; exact absurd h1 (by decide)
  | cons _ _=>simp
 refine g_callV rfl (fun w hw=>none_c _ _ (tidyU u) w (hw.get (k:=2) rfl).1 (hw.get (k:=2) rfl).2) ?_
 rw [show (decide ((tidyU u).globals.length = 0) && decide ((tidyU u).funcs.length = 0)) = false by rw [hfn2,decide_eq_false (show ¬ u.funcs.length = 0 by omega),Bool.and_false]]
 repeat (first|refine g_op rfl ?_|refine g_then ?_|refine g_nil ?_|refine g_region ?_|refine g_seq ?_|refine g_block ?_|refine g_skip ?_|refine g_condF ?_)
 refine g_sel [1,2] (by decide) ?_
 refine g_eqH (H1:=[Ent.box p3 [.slice ya gn yc,.slice za fn zc] 25]++[unitE (tidyU u) (.slice ya gn yc) (.slice za fn zc) fp]) rfl ?_
 refine g_holdK fun w1 hw1=>?_
 have hun : SlAt (killW (fps [Ent.box p3 [.slice ya gn yc,.slice za fn zc] 25]) w1) (.slice ya gn yc) 3 u.globals GlobalV∧SlAt (killW (fps [Ent.box p3 [.slice ya gn yc,.slice za fn zc] 25]) w1) (.slice za fn zc) 4 (tidyU u).funcs FuncV:=hw1.beside (e:=unitE (tidyU u) (.slice ya gn yc) (.slice za fn zc) fp) (by simp)
 have back : ∀ {E : List Ent} {w : World},Wd (fps [Ent.box p3 [.slice ya gn yc,.slice za fn zc] 25]) (killW (fps [Ent.box p3 [.slice ya gn yc,.slice za fn zc] 25]) w1) E w→Wd NoS w0 (E++[unitE (tidyU u) (.slice ya gn yc) (.slice za fn zc) fp]) w:=fun hw=>hw1.comp hw.unkill
 have hkp : ∀ {E : List Ent} {w : World},Wd (fps [Ent.box p3 [.slice ya gn yc,.slice za fn zc] 25]) (killW (fps [Ent.box p3 [.slice ya gn yc,.slice za fn zc] 25]) w1) E w→∀ p v,(killW (fps [Ent.box p3 [.slice ya gn yc,.slice za fn zc] 25]) w1).cell? p = some v→w.cell? p = some v:=fun hw=>hw.killKeep
 have hold : ∀ {b o : Nat} {v : Value} {l : List Value},CellsAt (killW (fps [Ent.box p3 [.slice ya gn yc,.slice za fn zc] 25]) w1) b o (v::l)→OldIs (fps [Ent.box p3 [.slice ya gn yc,.slice za fn zc] 25]) b:=fun hc=>killOldIs hc (by simp)
 generalize killW (fps [Ent.box p3 [.slice ya gn yc,.slice za fn zc] 25]) w1 = wk at *
 generalize fps [Ent.box p3 [.slice ya gn yc,.slice za fn zc] 25] = SS at *
 obtain ⟨hug,huf⟩:=hun
 have hne2 : (tidyU u).funcs ≠ []:=fun e=>by rw [e] at hfn2; simp at hfn2; omega
 obtain ⟨b2,o2,had2,hold2,hel2⟩:=slKnown huf hold (fun _ _ h=>by obtain ⟨_,e,_⟩:=h; exact ⟨_,_,e⟩) hne2
 refine g_loop (fun (i : Nat)=>i ≤ fn) (fun i=>[(5,.int .i64 i),(3,.pointer (some ⟨p3,0,none⟩))]) (fun _=>[Ent.box p3 [.slice ya gn yc,.slice za fn zc] 25]) (fun i=>fn - i) 0 (Nat.zero_le _) (g_done (by repeat (first|exact trivial|refine ⟨rfl,?_⟩)) (.refl _)) fun i hi=>?_
 repeat (first|refine g_op rfl ?_|refine g_then ?_|refine g_nil ?_|refine g_region ?_|refine g_seq ?_)
 refine g_cond (fun h1=>?_) (fun h1=>?_)
 case refine_2 =>
  repeat (first|refine g_op rfl ?_|refine g_then ?_|refine g_nil ?_|refine g_region ?_|refine g_seq ?_|refine g_exit ?_|refine g_thenExit ?_|refine g_exitHere ?_|refine g_ret ?_)
  exact g_ret1 rfl fun w hw=>⟨rfl,(back hw).chg⟩
 have hlt : i < fn:=by simpa using h1
 obtain ⟨X,hX⟩ : ∃ X,u.funcs[i]? = some X:=⟨_,List.getElem?_eq_getElem (by omega)⟩
 have hY : (tidyU u).funcs[i]? = some (tidyF X):=by unfold tidyU; simp only [List.getElem?_map,hX,Option.map_some]
 obtain ⟨_,hci2,bv2,rfl,_,_,hbv2⟩:=hel2 i _ hY
 obtain ⟨R,hA,hT⟩:=tidyAll hu.ok hX
 have hcn:=tidy_canJ hT
 have hor:=tidy_order hT
 have hlen:=(tidy_len hu.ok hX).1
 have hl24:=(hsl.2 X (List.mem_of_getElem? hX)).1
 obtain ⟨R2,hA2⟩:=fnAll hu2.ok hY
 have hk:=(fn_kind hu2.ok hY).1
 have hgb:=hA2.ok.good
 have hpos:=hA2.pos
 generalize tidyF X = Y at *
 obtain ⟨bl,hblD⟩ : ∃ bl,bl = Y.blocks:=⟨_,rfl⟩
 rw [← hblD] at hbv2 hcn hor hlen hk hgb hpos
 have hbv2':=hbv2
 obtain ⟨va,vn,vc,_,_,rfl,hvn,_⟩:=hbv2
 have hli : LtIs i fn:=⟨hlt⟩
 repeat (first|refine g_op rfl ?_|refine g_then ?_|refine g_nil ?_|refine g_region ?_|refine g_seq ?_|refine g_alloc rfl fun _ _=>?_|refine g_storeAgg ?_|refine g_block ?_|refine g_skip ?_)
 rename_i p6 _
 refine g_drawX [Ent.box p6 [.string Y.name,.int .i64 Y.params,.int .i64 Y.regs,.slice va vn vc] 33,Ent.box p3 [.slice ya gn yc,.slice za fn zc] 25] (fun _ : Unit=>True) (fun _=>[(41,.bool false),(6,.pointer (some ⟨p6,0,none⟩)),(5,.int .i64 i),(3,.pointer (some ⟨p3,0,none⟩))]) (fun _=>[Ent.box p6 [.string Y.name,.int .i64 Y.params,.int .i64 Y.regs,.slice va vn vc] 33,Ent.box p3 [.slice ya gn yc,.slice za fn zc] 25]) mixed (.refl _) ?_ fun _ _=>?_
 ·skip
  refine h_take 0 rfl (by decide +kernel) (.refl _) ?_
  refine h_take 3 rfl (by decide +kernel) (.refl _) ?_
  refine h_take 4 rfl (by decide +kernel) (.refl _) ?_
  refine h_take 5 rfl (by decide +kernel) (.refl _) ?_
  refine h_callE 1 (val:=fun x : Option Addr × Nat × List Nat=>.slice x.1 x.2.2.length x.2.1) (E:=fun x=>[Ent.vec x.1 x.2.2.length x.2.1 3 1 (x.2.2.map intN)]) (φ:=fun x=>FromR bl (-1) 0 x.2.2) rfl (by decide +kernel) (.refl _) (fun w hw=>reached_c _ _ _ bl (.slice va vn vc) ⟨_,_,_,rfl⟩ w (hbv2'.le mono_block (hkp hw)) (by omega) hgb hpos) fun x hx=>?_
  obtain ⟨ra,rc,rl⟩:=x
  have hrl:=reached_all hgb hpos hor hx
  simp only at hrl
  simp only [List.cons_append,List.nil_append]
  refine h_take 2 rfl (by decide +kernel) (.cons _ (.refl _)) ?_
  refine h_take 6 rfl (by decide +kernel) (.cons _ (.refl _)) ?_
  rw [show (!decide ((rl.length : Int) = (vn : Int))) = false by simp; omega]
  refine h_end (by decide +kernel) ?_
  exact g_mem () trivial (by repeat (first|exact trivial|refine ⟨rfl,?_⟩)) (.cons _ (.refl _))
 repeat (first|refine g_op rfl ?_|refine g_then ?_|refine g_nil ?_|refine g_region ?_|refine g_seq ?_|refine g_block ?_|refine g_skip ?_|refine g_condF ?_)
 refine g_loop (fun (b : Nat)=>b ≤ vn) (fun b=>[(7,.int .i64 b),(6,.pointer (some ⟨p6,0,none⟩)),(5,.int .i64 i),(3,.pointer (some ⟨p3,0,none⟩))]) (fun _=>[Ent.box p6 [.string Y.name,.int .i64 Y.params,.int .i64 Y.regs,.slice va vn vc] 33,Ent.box p3 [.slice ya gn yc,.slice za fn zc] 25]) (fun b=>vn - b) 0 (Nat.zero_le _) (g_done (by repeat (first|exact trivial|refine ⟨rfl,?_⟩)) (.refl _)) fun b hb2=>?_
 repeat (first|refine g_op rfl ?_|refine g_then ?_|refine g_nil ?_|refine g_region ?_|refine g_seq ?_)
 refine g_cond (fun h2=>?_) (fun h2=>?_)
 case refine_2 =>
  repeat (first|refine g_op rfl ?_|refine g_then ?_|refine g_nil ?_|refine g_region ?_|refine g_opS rfl ?_|refine g_inBlock ?_|refine g_add rfl (by omega) (by omega) ?_|refine g_exit ?_|refine g_thenExit ?_|refine g_exitHere ?_)
  exact g_next (i + 1) (by omega) (by omega) (by repeat (first|exact trivial|refine ⟨rfl,?_⟩)) (.cons _ (.refl _))
 have hltv : b < vn:=by simpa using h2
 have hlt2 : b < bl.length:=by omega
 obtain ⟨B,hB⟩ : ∃ B,bl[b]? = some B:=⟨_,List.getElem?_eq_getElem hlt2⟩
 obtain ⟨b1,o1,had1,hold1,hel1⟩:=slKnown hbv2' hold (fun _ _ h=>by obtain ⟨_,_,_,e,_⟩:=h; exact ⟨_,_,e⟩) (ne_of_get hB)
 obtain ⟨_,hci1,pv,lv,tv,rfl,_,_,hph,hli2,ht⟩:=hel1 b B hB
 have hlii : LtIs b vn:=⟨hltv⟩
 obtain ⟨ta,tn,tc,_,_,rfl,_⟩:=id ht
 repeat (first|refine g_op rfl ?_|refine g_then ?_|refine g_nil ?_|refine g_region ?_|refine g_seq ?_|refine g_alloc rfl fun _ _=>?_|refine g_storeAgg ?_|refine g_block ?_|refine g_skip ?_)
 rename_i p8 _
 refine g_drawX [Ent.box p8 [.int .i64 B.kind,.bool B.on.reg,.int .i64 B.on.n,.slice ta tn tc] 41,Ent.box p6 [.string Y.name,.int .i64 Y.params,.int .i64 Y.regs,.slice va vn vc] 33,Ent.box p3 [.slice ya gn yc,.slice za fn zc] 25] (fun _ : Unit=>True) (fun _=>[(88,.bool false),(7,.int .i64 b),(6,.pointer (some ⟨p6,0,none⟩)),(5,.int .i64 i),(3,.pointer (some ⟨p3,0,none⟩))]) (fun _=>[Ent.box p6 [.string Y.name,.int .i64 Y.params,.int .i64 Y.regs,.slice va vn vc] 33,Ent.box p3 [.slice ya gn yc,.slice za fn zc] 25]) mixed (.refl _) ?_ fun _ _=>?_
 ·skip
  refine h_take 0 rfl (by decide +kernel) (.refl _) ?_
  refine h_take 1 rfl (by decide +kernel) (.refl _) ?_
  refine h_take 2 rfl (by decide +kernel) (.refl _) ?_
  refine h_take 3 rfl (by decide +kernel) (.refl _) ?_
  have hcb:=hcn b
  by_cases hkd : B.kind = 2
  ·have hkb : (blkAt bl b).kind = 2:=by rw [blkAt_get hB]; exact hkd
   obtain ⟨_,hto,htl⟩:=kind_to hk hgb hkb
   obtain ⟨t,htD⟩ : ∃ t,t = jumpTo bl b:=⟨_,rfl⟩
   rw [← htD] at hto htl
   rw [blkAt_get hB] at hto
   rw [show decide (B.kind = 2) = true by simp [hkd]]
   have htb : (t : Int) ∈ toOf bl b:=by rw [toOf_get hB,hto]; simp
   obtain ⟨htn,_⟩:=ht.at
   rw [hto] at htn
   simp only [List.length_cons,List.length_nil,Nat.zero_add] at htn
   subst htn
   obtain ⟨b5,o5,had5,hold5,hel5⟩:=slKnown ht hold (fun _ _ h=>⟨_,_,h.1⟩) (by rw [hto]; simp)
   obtain ⟨_,hci5,rfl,_⟩:=hel5 0 (t : Int) (by rw [hto]; rfl)
   have hl01 : LtIs 0 1:=⟨by omega⟩
   obtain ⟨C,hC⟩ : ∃ C,bl[t]? = some C:=⟨_,List.getElem?_eq_getElem htl⟩
   obtain ⟨_,hci3,pv2,lv2,tv2,rfl,_,_,hph2,_,_⟩:=hel1 t C hC
   have hlit : LtIs t vn:=⟨by omega⟩
   obtain ⟨pa2,pn2,pc2,_,_,rfl,hpn2,_⟩:=id hph2
   have hcan : canJ bl b = if t ≠ b∧C.phis = []∧(preds bl t).length ≤ 1 then some t else none:=by
    unfold canJ
    rw [← htD,blkAt_get hC]
    by_cases h : t ≠ b∧C.phis = []∧(preds bl t).length ≤ 1
    ·rw [if_pos h,if_pos ⟨hkb,h⟩]
    ·rw [if_neg h,if_neg fun h'=>h h'.2]
   rw [hcan] at hcb
   refine h_takeG 4 rfl (by decide +kernel) (.refl _) ?_
   refine h_takeG 5 rfl (by decide +kernel) (.refl _) ?_
   refine h_takeG 6 rfl (by decide +kernel) (.refl _) ?_
   refine h_takeG 7 rfl (by decide +kernel) (.refl _) ?_
   refine h_takeG 8 rfl (by decide +kernel) (.refl _) ?_
   refine h_takeG 9 rfl (by decide +kernel) (.refl _) ?_
   refine h_take 10 rfl (by decide +kernel) (.refl _) ?_
   refine h_take 11 rfl (by decide +kernel) (.refl _) ?_
   by_cases hne : t = b
   ·rw [show (!decide ((t : Int) = (b : Int))) = false by simp [hne]]
    refine h_takeP 12 rfl (by decide +kernel) (.refl _) ?_
    refine h_takeP 13 rfl (by decide +kernel) (.refl _) ?_
    refine h_takeP 14 rfl (by decide +kernel) (.refl _) ?_
    refine h_takeP 15 rfl (by decide +kernel) (.refl _) ?_
    refine h_takeP 16 rfl (by decide +kernel) (.refl _) ?_
    refine h_takeP 17 rfl (by decide +kernel) (.refl _) ?_
    refine h_takeP 18 rfl (by decide +kernel) (.refl _) ?_
    refine h_takeP 19 rfl (by decide +kernel) (.refl _) ?_
    refine h_takeP 20 rfl (by decide +kernel) (.refl _) ?_
    refine h_takeP 21 rfl (by decide +kernel) (.refl _) ?_
    refine h_takeP 22 rfl (by decide +kernel) (.refl _) ?_
    refine h_take 23 rfl (by decide +kernel) (.refl _) ?_
    refine h_take 24 rfl (by decide +kernel) (.refl _) ?_
    refine h_takeP 25 rfl (by decide +kernel) (.refl _) ?_
    refine h_takeP 26 rfl (by decide +kernel) (.refl _) ?_
    refine h_takeP 27 rfl (by decide +kernel) (.refl _) ?_
    refine h_takeP 28 rfl (by decide +kernel) (.refl _) ?_
    refine h_takeP 29 rfl (by decide +kernel) (.refl _) ?_
    refine h_takeP 30 rfl (by decide +kernel) (.refl _) ?_
    refine h_takeP 31 rfl (by decide +kernel) (.refl _) ?_
    refine h_takeP 32 rfl (by decide +kernel) (.refl _) ?_
    refine h_take 33 rfl (by decide +kernel) (.refl _) ?_
    refine h_end (by decide +kernel) ?_
    exact g_mem () trivial (by repeat (first|exact trivial|refine ⟨rfl,?_⟩)) (.cons _ (.refl _))
   ·rw [show (!decide ((t : Int) = (b : Int))) = true by simp; omega]
    refine h_takeG 12 rfl (by decide +kernel) (.refl _) ?_
    refine h_takeG 13 rfl (by decide +kernel) (.refl _) ?_
    refine h_takeG 14 rfl (by decide +kernel) (.refl _) ?_
    refine h_takeG 15 rfl (by decide +kernel) (.refl _) ?_
    refine h_takeG 16 rfl (by decide +kernel) (.refl _) ?_
    refine h_takeG 17 rfl (by decide +kernel) (.refl _) ?_
    refine h_takeG 18 rfl (by decide +kernel) (.refl _) ?_
    refine h_takeG 19 rfl (by decide +kernel) (.refl _) ?_
    refine h_takeG 20 rfl (by decide +kernel) (.refl _) ?_
    refine h_takeG 21 rfl (by decide +kernel) (.refl _) ?_
    refine h_takeG 22 rfl (by decide +kernel) (.refl _) ?_
    refine h_take 23 rfl (by decide +kernel) (.refl _) ?_
    refine h_take 24 rfl (by decide +kernel) (.refl _) ?_
    by_cases hphs : C.phis = []
    ·rw [show decide ((pn2 : Int) = 0) = true by rw [hpn2,hphs]; rfl]
     have hpb:=preds_mem hlt2 htb
     have hpl:=List.length_pos_of_mem hpb
     have hpl2 : (preds bl t).length ≤ 100:=by
      unfold preds
      exact Nat.le_trans (List.length_filter_le _ _) (by rw [List.length_range]; omega)
     refine h_takeG 25 rfl (by decide +kernel) (.refl _) ?_
     refine h_takeG 26 rfl (by decide +kernel) (.refl _) ?_
     refine h_takeG 27 rfl (by decide +kernel) (.refl _) ?_
     refine h_takeG 28 rfl (by decide +kernel) (.refl _) ?_
     refine h_takeG 29 rfl (by decide +kernel) (.refl _) ?_
     refine h_callGE 30 (val:=fun x : Option Addr × Nat=>.slice x.1 (preds bl t).length x.2) (E:=fun x=>[Ent.vec x.1 (preds bl t).length x.2 3 1 ((preds bl t).map intN)]) (φ:=fun _=>True) rfl (by decide +kernel) (.refl _) (fun w hw=>refAhead_c (.string Y.name) (.int .i64 Y.params) (.int .i64 Y.regs) bl (.slice va vn vc) t w (hbv2'.le mono_block (hkp hw)) (by omega)) fun x _=>?_
     obtain ⟨ea,ec⟩:=x
     simp only [List.cons_append,List.nil_append]
     refine h_takeG 31 rfl (by decide +kernel) (.cons _ (.refl _)) ?_
     refine h_takeG 32 rfl (by decide +kernel) (.cons _ (.refl _)) ?_
     refine h_take 33 rfl (by decide +kernel) (.cons _ (.refl _)) ?_
     have hp1 : ¬ (preds bl t).length ≤ 1:=fun hp1=>by
      rw [if_pos ⟨hne,hphs,hp1⟩] at hcb
      cases hcb
     refine h_end (by decide +kernel) ?_
     rw [show decide (((preds bl t).length : Int) = 1) = false by simp; omega]
     exact g_mem () trivial (by repeat (first|exact trivial|refine ⟨rfl,?_⟩)) (.cons _ (.cons _ (.refl _)))
    ·have hpn0 : C.phis.length ≠ 0:=fun h=>hphs (List.length_eq_zero_iff.1 h)
     rw [show decide ((pn2 : Int) = 0) = false by simp; omega]
     refine h_takeP 25 rfl (by decide +kernel) (.refl _) ?_
     refine h_takeP 26 rfl (by decide +kernel) (.refl _) ?_
     refine h_takeP 27 rfl (by decide +kernel) (.refl _) ?_
     refine h_takeP 28 rfl (by decide +kernel) (.refl _) ?_
     refine h_takeP 29 rfl (by decide +kernel) (.refl _) ?_
     refine h_takeP 30 rfl (by decide +kernel) (.refl _) ?_
     refine h_takeP 31 rfl (by decide +kernel) (.refl _) ?_
     refine h_takeP 32 rfl (by decide +kernel) (.refl _) ?_
     refine h_take 33 rfl (by decide +kernel) (.refl _) ?_
     refine h_end (by decide +kernel) ?_
     exact g_mem () trivial (by repeat (first|exact trivial|refine ⟨rfl,?_⟩)) (.cons _ (.refl _))
  ·rw [show decide (B.kind = 2) = false by simp [hkd]]
   refine h_takeP 4 rfl (by decide +kernel) (.refl _) ?_
   refine h_takeP 5 rfl (by decide +kernel) (.refl _) ?_
   refine h_takeP 6 rfl (by decide +kernel) (.refl _) ?_
   refine h_takeP 7 rfl (by decide +kernel) (.refl _) ?_
   refine h_takeP 8 rfl (by decide +kernel) (.refl _) ?_
   refine h_takeP 9 rfl (by decide +kernel) (.refl _) ?_
   refine h_take 10 rfl (by decide +kernel) (.refl _) ?_
   refine h_take 11 rfl (by decide +kernel) (.refl _) ?_
   refine h_takeP 12 rfl (by decide +kernel) (.refl _) ?_
   refine h_takeP 13 rfl (by decide +kernel) (.refl _) ?_
   refine h_takeP 14 rfl (by decide +kernel) (.refl _) ?_
   refine h_takeP 15 rfl (by decide +kernel) (.refl _) ?_
   refine h_takeP 16 rfl (by decide +kernel) (.refl _) ?_
   refine h_takeP 17 rfl (by decide +kernel) (.refl _) ?_
   refine h_takeP 18 rfl (by decide +kernel) (.refl _) ?_
   refine h_takeP 19 rfl (by decide +kernel) (.refl _) ?_
   refine h_takeP 20 rfl (by decide +kernel) (.refl _) ?_
   refine h_takeP 21 rfl (by decide +kernel) (.refl _) ?_
   refine h_takeP 22 rfl (by decide +kernel) (.refl _) ?_
   refine h_take 23 rfl (by decide +kernel) (.refl _) ?_
   refine h_take 24 rfl (by decide +kernel) (.refl _) ?_
   refine h_takeP 25 rfl (by decide +kernel) (.refl _) ?_
   refine h_takeP 26 rfl (by decide +kernel) (.refl _) ?_
   refine h_takeP 27 rfl (by decide +kernel) (.refl _) ?_
   refine h_takeP 28 rfl (by decide +kernel) (.refl _) ?_
   refine h_takeP 29 rfl (by decide +kernel) (.refl _) ?_
   refine h_takeP 30 rfl (by decide +kernel) (.refl _) ?_
   refine h_takeP 31 rfl (by decide +kernel) (.refl _) ?_
   refine h_takeP 32 rfl (by decide +kernel) (.refl _) ?_
   refine h_take 33 rfl (by decide +kernel) (.refl _) ?_
   refine h_end (by decide +kernel) ?_
   exact g_mem () trivial (by repeat (first|exact trivial|refine ⟨rfl,?_⟩)) (.cons _ (.refl _))
 repeat (first|refine g_op rfl ?_|refine g_then ?_|refine g_nil ?_|refine g_region ?_|refine g_opS rfl ?_|refine g_inBlock ?_|refine g_skip ?_|refine g_condF ?_|refine g_add rfl (by omega) (by omega) ?_)
 exact g_next (b + 1) (by omega) (by omega) (by repeat (first|exact trivial|refine ⟨rfl,?_⟩)) (.refl _)
end Go.Proofs.YtpadjpplidlfeaaDoor

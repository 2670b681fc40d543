/- Texts joined: TidyG TidyH. -/
import Derived.Test.YtpadjpplidlfeaaGreatDoorIO
import Derived.Test.YtpadjpplidlfeaaGreatDoorIR
namespace Go.Proofs.YtpadjpplidlfeaaGreatDoor
open Go Go.RowKit
attribute [local irreducible] wpListIn Code.wpIn Exit.then Exit.inBlock bodyPost wpQuiet wpAnyIn wpAnyH bodyPostM oneH
set_option maxHeartbeats 4000000
theorem tidyMeansLaw_c (u : LUnit) (inp : List Int) (fuel : Int) (_hk : inI fuel) (g fs iv : Value) (w0 : World) (hg : SlAt w0 g 3 u.globals GlobalV) (hf : SlAt w0 fs 4 u.funcs FuncV) (hin : SlAt w0 iv 1 inp IntV) (hways : CellsAt w0 0 0 waysC) :
  RetV Tryz.prog 5 [.agg #[g,fs],iv,.int .i64 fuel] w0 (.bool true):=by
 classical
 have hg0:=hg
 have hf0:=hf
 have hin0:=hin
 obtain ⟨ga,gn,gc,gb,go,rfl,hgn,_⟩:=hg
 obtain ⟨fa,fn,fc,fb,fo,rfl,hfn,hfnc,hfnb,hfc,hfa,hfel⟩:=hf
 obtain ⟨ia,il,ic,_,_,rfl,_⟩:=hin
 refine ret_enter Tryz.func5 rfl Tryz.ntmps5 rfl (Wd.nil NoS w0) ?_
 repeat (first|refine g_op rfl ?_|refine g_then ?_|refine g_nil ?_|refine g_region ?_|refine g_seq ?_|refine g_box rfl fun _ _=>?_)
 rename_i p3 _
 refine g_callE (val:=fun b : Bool=>.bool b) (E:=fun _=>[]) (φ:=fun b=>b = false→slim u) rfl (fun w hw=>heavyS_c u _ _ w (hf0.keep keeps_func hw.chg) ⟨_,_,_,rfl⟩) fun b hb=>?_
 simp only [List.nil_append]
 cases b
 case true =>
  repeat (first|refine g_then ?_|refine g_nil ?_|refine g_region ?_|refine g_seq ?_|refine g_opS rfl ?_|refine g_condT ?_|refine g_ret ?_|refine g_thenRet ?_)
  exact g_retV rfl rfl
 have hsl:=hb rfl
 have hl:=hsl.light
 repeat (first|refine g_op rfl ?_|refine g_then ?_|refine g_nil ?_|refine g_region ?_|refine g_seq ?_|refine g_skip ?_|refine g_condF ?_)
 by_cases hbad : (checkL u).1 ≠ 0
 ·refine g_callV rfl (fun w hw=>do_bad' u hl hbad _ _ w (hg0.keep keeps_global hw.chg) (hf0.keep keeps_func hw.chg) (hways.keep hw.chg)) ?_
  repeat (first|refine g_op rfl ?_|refine g_then ?_|refine g_nil ?_|refine g_region ?_|refine g_seq ?_|refine g_alloc rfl fun _ _=>?_|refine g_storeAgg ?_)
  refine g_cond (fun h1=>?_) (fun h1=>?_)
  ·repeat (first|refine g_op rfl ?_|refine g_region ?_|refine g_seq ?_)
   refine g_callV rfl (fun w hw=>noneE_c w) ?_
   repeat (first|refine g_then ?_|refine g_nil ?_|refine g_opS rfl ?_|refine g_ret ?_|refine g_thenRet ?_)
   exact g_retV rfl rfl
  ·exact absurd h1 (by simp [hbad])
 have hch : (checkL u).1 = 0:=by simpa using hbad
 have hu : Whole u:=⟨check_zero.1 hch,nums_of hf0,gnums_of hg0⟩
 have hu2:=(tidyU_whole hu).1
 have hmore:=(tidyU_whole hu).2
 have hl2:=check_light hu2.ok
 have hfn2 : (tidyU u).funcs.length = u.funcs.length:=by unfold tidyU; rw [List.length_map]
 refine g_callE (val:=(fun x : (Option Addr × Nat) × (Option Addr × Nat) × (Nat→Prop)=>Value.tuple #[.agg #[.slice x.1.1 gn x.1.2,.slice x.2.1.1 fn x.2.1.2],.agg #[.int .i64 0,.int .i64 0]])) (E:=(fun x : (Option Addr × Nat) × (Option Addr × Nat) × (Nat→Prop)=>[unitE (tidyU u) (.slice x.1.1 gn x.1.2) (.slice x.2.1.1 fn x.2.1.2) x.2.2])) (φ:=fun _=>True) rfl (fun w hw=>by rw [hgn,hfn]; exact tidyDo_ok u hl hu.ok hch (tidyU_small hu.ok) _ _ w (by rw [← hgn]; exact hg0.keep keeps_global hw.chg) (by rw [← hfn]; exact hf0.keep keeps_func hw.chg) (hways.keep hw.chg)) fun x _=>?_
 obtain ⟨⟨ya,yc⟩,⟨za,zc⟩,fp⟩:=x
 simp only [List.cons_append,List.nil_append]
 repeat (first|refine g_op rfl ?_|refine g_then ?_|refine g_nil ?_|refine g_region ?_|refine g_seq ?_|refine g_alloc rfl fun _ _=>?_|refine g_storeAgg ?_|refine g_skip ?_|refine g_condF ?_)
 rename_i p7 _ p8 _
 have hfpos : 0 < u.funcs.length:=by
  have h1:=hu.ok.main
  cases hfs : u.funcs with
  | nil=>rw [hfs] at h1; exact absurd h1 (by decide)
  | cons _ _=>simp
 refine g_callV rfl (fun w hw=>none_c _ _ (tidyU u) w (hw.get (k:=2) rfl).1 (hw.get (k:=2) rfl).2) ?_
 repeat (first|refine g_then ?_|refine g_nil ?_)
 rw [show (decide ((tidyU u).globals.length = 0) && decide ((tidyU u).funcs.length = 0)) = false by rw [hfn2,decide_eq_false (show ¬ u.funcs.length = 0 by omega),Bool.and_false]]
 repeat (first|refine g_op rfl ?_|refine g_then ?_|refine g_region ?_|refine g_seq ?_|refine g_skip ?_|refine g_condF ?_)
 refine g_callE (val:=(fun x : (Option Addr × Nat) × (Option Addr × Nat) × (Nat→Prop)=>Value.tuple #[.agg #[.slice x.1.1 gn x.1.2,.slice x.2.1.1 fn x.2.1.2],.agg #[.int .i64 0,.int .i64 0]])) (E:=(fun x : (Option Addr × Nat) × (Option Addr × Nat) × (Nat→Prop)=>[unitE (tidyU u) (.slice x.1.1 gn x.1.2) (.slice x.2.1.1 fn x.2.1.2) x.2.2])) (φ:=fun _=>True) rfl (fun w hw=>?_) fun x _=>?_
 ·have h2:=tidyDo_ok (tidyU u) hl2 hu2.ok (check_zero.2 hu2.ok) (tidyU_small hu2.ok) (.slice ya gn yc) (.slice za fn zc) w (hw.get (k:=2) rfl).1 (hw.get (k:=2) rfl).2 (hways.keep hw.chg)
  rw [tidyU_again hu,hfn2,show (tidyU u).globals.length = gn from hgn.symm,← hfn] at h2
  exact h2
 obtain ⟨⟨xa,xc⟩,⟨va,vc⟩,fp2⟩:=x
 simp only [List.cons_append,List.nil_append]
 repeat (first|refine g_op rfl ?_|refine g_then ?_|refine g_nil ?_|refine g_region ?_|refine g_seq ?_|refine g_open ?_|refine g_alloc rfl fun _ _=>?_|refine g_storeAgg ?_)
 rename_i p9 _ p10 _
 rw [show (!decide ((0 : Int) = 0)) = false by simp]
 skip
 refine g_callV rfl (fun w hw=>unitsSame_c _ _ _ _ (tidyU u) w (hw.get (k:=5) rfl).1 (hw.get (k:=5) rfl).2 (hw.get (k:=2) rfl).1 (hw.get (k:=2) rfl).2) ?_
 repeat (first|refine g_op rfl ?_|refine g_then ?_|refine g_nil ?_|refine g_open ?_)
 rw [show (!decide ((fn : Int) = (fn : Int))) = false by simp]
 repeat (first|refine g_op rfl ?_|refine g_then ?_|refine g_nil ?_|refine g_region ?_|refine g_seq ?_|refine g_block ?_|refine g_skip ?_|refine g_condF ?_)
 refine g_sel [4,6,5] (by decide) ?_
 refine g_eqH (H1:=[Ent.box p7 [.slice ya gn yc,.slice za fn zc] 25,Ent.box p3 [.slice ga gn gc,.slice fa fn fc] 25]++[unitE (tidyU u) (.slice ya gn yc) (.slice za fn zc) fp]) rfl ?_
 refine g_holdK fun w1 hw1=>?_
 have hun : SlAt (killW (fps [Ent.box p7 [.slice ya gn yc,.slice za fn zc] 25,Ent.box p3 [.slice ga gn gc,.slice fa fn fc] 25]) w1) (.slice ya gn yc) 3 u.globals GlobalV∧SlAt (killW (fps [Ent.box p7 [.slice ya gn yc,.slice za fn zc] 25,Ent.box p3 [.slice ga gn gc,.slice fa fn fc] 25]) w1) (.slice za fn zc) 4 (tidyU u).funcs FuncV:=hw1.beside (e:=unitE (tidyU u) (.slice ya gn yc) (.slice za fn zc) fp) (by simp)
 have back : ∀ {E : List Ent} {w : World},Wd (fps [Ent.box p7 [.slice ya gn yc,.slice za fn zc] 25,Ent.box p3 [.slice ga gn gc,.slice fa fn fc] 25]) (killW (fps [Ent.box p7 [.slice ya gn yc,.slice za fn zc] 25,Ent.box p3 [.slice ga gn gc,.slice fa fn fc] 25]) w1) E w→Wd NoS w0 (E++[unitE (tidyU u) (.slice ya gn yc) (.slice za fn zc) fp]) w:=fun hw=>hw1.comp hw.unkill
 have hkp : ∀ {E : List Ent} {w : World},Wd (fps [Ent.box p7 [.slice ya gn yc,.slice za fn zc] 25,Ent.box p3 [.slice ga gn gc,.slice fa fn fc] 25]) (killW (fps [Ent.box p7 [.slice ya gn yc,.slice za fn zc] 25,Ent.box p3 [.slice ga gn gc,.slice fa fn fc] 25]) w1) E w→∀ p v,(killW (fps [Ent.box p7 [.slice ya gn yc,.slice za fn zc] 25,Ent.box p3 [.slice ga gn gc,.slice fa fn fc] 25]) w1).cell? p = some v→w.cell? p = some v:=fun hw=>hw.killKeep
 have hold : ∀ {b o : Nat} {v : Value} {l : List Value},CellsAt (killW (fps [Ent.box p7 [.slice ya gn yc,.slice za fn zc] 25,Ent.box p3 [.slice ga gn gc,.slice fa fn fc] 25]) w1) b o (v::l)→OldIs (fps [Ent.box p7 [.slice ya gn yc,.slice za fn zc] 25,Ent.box p3 [.slice ga gn gc,.slice fa fn fc] 25]) b:=fun hc=>killOldIs hc (by simp)
 have hgk:=hg0.keep keeps_global hw1.killOld
 have hfk:=hf0.keep keeps_func hw1.killOld
 have hink:=hin0.keep keeps_int hw1.killOld
 have hwk:=hways.keep hw1.killOld
 generalize killW (fps [Ent.box p7 [.slice ya gn yc,.slice za fn zc] 25,Ent.box p3 [.slice ga gn gc,.slice fa fn fc] 25]) w1 = wk at *
 generalize fps [Ent.box p7 [.slice ya gn yc,.slice za fn zc] 25,Ent.box p3 [.slice ga gn gc,.slice fa fn fc] 25] = SS at *
 obtain ⟨hug,huf⟩:=hun
 have hne : u.funcs ≠ []:=fun e=>by rw [e] at hfpos; simp at hfpos
 have hne2 : (tidyU u).funcs ≠ []:=fun e=>by rw [e] at hfn2; simp at hfn2; omega
 obtain ⟨b1,o1,had1,hold1,hel1⟩:=slKnown hfk hold (fun _ _ h=>by obtain ⟨_,e,_⟩:=h; exact ⟨_,_,e⟩) hne
 obtain ⟨b2,o2,had2,hold2,hel2⟩:=slKnown huf hold (fun _ _ h=>by obtain ⟨_,e,_⟩:=h; exact ⟨_,_,e⟩) hne2
 refine g_loop (fun (i : Nat)=>i ≤ fn) (fun i=>[(11,.int .i64 i),(7,.pointer (some ⟨p7,0,none⟩)),(3,.pointer (some ⟨p3,0,none⟩)),(1,.slice ia il ic),(2,.int .i64 fuel)]) (fun _=>[Ent.box p7 [.slice ya gn yc,.slice za fn zc] 25,Ent.box p3 [.slice ga gn gc,.slice fa fn fc] 25]) (fun i=>fn - i) 0 (Nat.zero_le _) (g_done (by repeat (first|exact trivial|refine ⟨rfl,?_⟩)) (.refl _)) fun i hi=>?_
 repeat (first|refine g_op rfl ?_|refine g_then ?_|refine g_nil ?_|refine g_region ?_|refine g_seq ?_)
 refine g_cond (fun h1=>?_) (fun h1=>?_)
 ·have hlt : i < fn:=by simpa using h1
  obtain ⟨X,hX⟩ : ∃ X,u.funcs[i]? = some X:=⟨_,List.getElem?_eq_getElem (by omega)⟩
  have hY : (tidyU u).funcs[i]? = some (tidyF X):=by unfold tidyU; simp only [List.getElem?_map,hX,Option.map_some]
  obtain ⟨_,hci1,bv1,rfl,_,_,hbv1⟩:=hel1 i X hX
  obtain ⟨_,hci2,bv2,rfl,_,_,hbv2⟩:=hel2 i _ hY
  obtain ⟨hlen,_,hre0,hre,hmany⟩:=tidy_len hu.ok hX
  have hlx:=check_lim hl (check_zero.2 hu.ok) X (List.mem_of_getElem? hX)
  have hly:=check_lim hl2 (check_zero.2 hu2.ok) _ (List.mem_of_getElem? hY)
  generalize tidyF X = Y at *
  have hbv1':=hbv1
  have hbv2':=hbv2
  obtain ⟨a1,n1,c1,_,_,rfl,hn1,_⟩:=hbv1
  obtain ⟨a2,n2,c2,_,_,rfl,hn2,_⟩:=hbv2
  have hli : LtIs i fn:=⟨hlt⟩
  repeat (first|refine g_then ?_|refine g_seq ?_|refine g_block ?_|refine g_skip ?_)
  refine g_draw mixed (by kernel_rfl) ?_
  repeat (refine q_op rfl ?_)
  rw [show decide ((n1 : Int) < (n2 : Int)) = false by simp; omega]
  repeat (first|refine q_op rfl ?_|refine q_open ?_)
  refine q_call rfl (fun w hw=>many_c _ _ _ Y.blocks _ w (hbv2'.le mono_block (hkp hw)) hly.n fun b hb=>⟨(hly.each b hb).1,(hly.each b hb).2.2.1⟩) ?_
  repeat (first|refine q_op rfl ?_|refine q_open ?_)
  refine q_call rfl (fun w hw=>many_c _ _ _ X.blocks _ w (hbv1'.le mono_block (hkp hw)) hlx.n fun b hb=>⟨(hlx.each b hb).1,(hlx.each b hb).2.2.1⟩) ?_
  repeat (first|refine q_op rfl ?_|refine q_open ?_)
  rw [show decide ((manyL X.blocks : Int) < (manyL Y.blocks : Int)) = false by simp; omega]
  repeat (first|refine q_op rfl ?_|refine q_open ?_|refine q_nil ?_)
  rw [show decide (X.regs < Y.regs) = false by simp; omega]
  repeat (first|refine g_op rfl ?_|refine g_then ?_|refine g_nil ?_|refine g_region ?_|refine g_opS rfl ?_|refine g_inBlock ?_|refine g_skip ?_|refine g_condF ?_|refine g_add rfl (by omega) (by omega) ?_)
  exact g_next (i + 1) (by omega) (by omega) (by repeat (first|exact trivial|refine ⟨rfl,?_⟩)) (.refl _)
 ·refine g_unhold back ?_
  simp only [List.cons_append,List.nil_append]
  repeat (first|refine g_op rfl ?_|refine g_then ?_|refine g_region ?_|refine g_seq ?_|refine g_exit ?_|refine g_thenExit ?_|refine g_exitHere ?_)
  have hini : ∀ x ∈ inp,inI x:=fun x hx=>by obtain ⟨_,_,h9⟩:=hin0.el hx; exact h9
  refine g_callV rfl (fun w hw=>same_c u (tidyU u) hl hl2 _ _ _ _ _ inp fuel w (hg0.keep keeps_global hw.chg) (hf0.keep keeps_func hw.chg) (hw.get (k:=2) rfl).1 (hw.get (k:=2) rfl).2 (hin0.keep keeps_int hw.chg) (hways.keep hw.chg) fun f hf2 hc0 hst=>noMore_comes hmore hu2.ok hini hc0 hst (by omega) (by omega)) ?_
  repeat (first|refine g_op rfl ?_|refine g_then ?_|refine g_nil ?_|refine g_ret ?_)
  exact g_retV rfl rfl
end Go.Proofs.YtpadjpplidlfeaaGreatDoor

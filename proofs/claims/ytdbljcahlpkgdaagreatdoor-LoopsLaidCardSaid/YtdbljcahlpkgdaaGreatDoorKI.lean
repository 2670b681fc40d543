/- Texts joined: LayM. -/
import Derived.Test.YtdbljcahlpkgdaaGreatDoorGB
import Derived.Test.YtdbljcahlpkgdaaGreatDoorGF
import Derived.Test.YtdbljcahlpkgdaaGreatDoorGG
import Derived.Test.YtdbljcahlpkgdaaGreatDoorGI
import Derived.Test.YtdbljcahlpkgdaaGreatDoorHA
import Derived.Test.YtdbljcahlpkgdaaGreatDoorHI
import Derived.Test.YtdbljcahlpkgdaaGreatDoorHJ
import Derived.Test.YtdbljcahlpkgdaaGreatDoorHN
import Derived.Test.YtdbljcahlpkgdaaGreatDoorHP
import Derived.Test.YtdbljcahlpkgdaaGreatDoorHS
import Derived.Test.YtdbljcahlpkgdaaGreatDoorIQ
import Derived.Test.YtdbljcahlpkgdaaGreatDoorKF
namespace Go.Proofs.YtdbljcahlpkgdaaGreatDoor
open Go Go.RowKit
attribute [local irreducible] wpListIn Code.wpIn Exit.then Exit.inBlock bodyPost wpQuiet wpAnyIn wpAnyH bodyPostM oneH
set_option maxHeartbeats 4000000
theorem lay_comes {u : LUnit} (hu : Whole u) (hL : ∀ X ∈ u.funcs,largeF (layF X) = false) {inp : List Int} (hin : ∀ x ∈ inp,inI x) {f m : Nat} (hc : (countsE u inp.length f).1 = 0) (hs : (resultM u inp f).state ≠ 1) (hf : 2 * f ≤ m) (hm : m ≤ 100000) : Comes u (layU u) inp f m:=by
 obtain ⟨_,hil,_⟩:=countsE_zero hc
 obtain ⟨h1,_⟩:=lay_runs hu (layU_laid hu.ok) inp f m hin hs hf
 refine ⟨?_,h1.state,h1.value,h1.out⟩
 unfold countsE
 rw [if_neg (by simp [check_zero.2 (layU_whole hu hL).ok]),if_neg (by omega),if_neg (by simp [within]; omega)]
theorem loopsLaidLaw_c (u : LUnit) (inp : List Int) (fuel : Int) (_hk : inI fuel) (g fs iv : Value) (w0 : World) (hg : SlAt w0 g 3 u.globals GlobalV) (hf : SlAt w0 fs 4 u.funcs FuncV) (hin : SlAt w0 iv 1 inp IntV) (hways : CellsAt w0 0 0 waysC) :
  RetV Tryz.prog 4 [.agg #[g,fs],iv,.int .i64 fuel] w0 (.bool true):=by
 classical
 have hg0:=hg
 have hf0:=hf
 have hin0:=hin
 obtain ⟨ga,gn,gc,gb,go,rfl,hgn,_⟩:=hg
 obtain ⟨fa,fn,fc,fb,fo,rfl,hfn,hfnc,hfnb,hfc,hfa,hfel⟩:=hf
 obtain ⟨ia,il,ic,_,_,rfl,_⟩:=hin
 refine ret_enter Tryz.func4 rfl Tryz.ntmps4 rfl (Wd.nil NoS w0) ?_
 repeat (first|refine g_op rfl ?_|refine g_then ?_|refine g_nil ?_|refine g_region ?_|refine g_seq ?_|refine g_box rfl fun _ _=>?_)
 rename_i p3 _
 refine g_callE (val:=fun b : Bool=>.bool b) (E:=fun _=>[]) (φ:=fun b=>b = false→slim u) rfl (fun w hw=>heavyS_c u _ _ w (hf0.keep keeps_func hw.chg) ⟨_,_,_,rfl⟩) fun b hb=>?_
 simp only [List.nil_append]
 cases b
 case true =>
  repeat (first|refine g_then ?_|refine g_nil ?_|refine g_region ?_|refine g_seq ?_|refine g_opS rfl ?_|refine g_condT ?_|refine g_ret ?_|refine g_thenRet ?_)
  exact g_retV rfl rfl
 have hsl:=hb rfl
 have hl:=hsl.light
 repeat (first|refine g_op rfl ?_|refine g_then ?_|refine g_nil ?_|refine g_region ?_|refine g_seq ?_|refine g_skip ?_|refine g_condF ?_)
 by_cases hbad : (checkL u).1 ≠ 0
 ·refine g_callV rfl (fun w hw=>lay_bad u hl hbad _ _ w (hg0.keep keeps_global hw.chg) (hf0.keep keeps_func hw.chg) (hways.keep hw.chg)) ?_
  repeat (first|refine g_op rfl ?_|refine g_then ?_|refine g_nil ?_|refine g_region ?_|refine g_seq ?_|refine g_alloc rfl fun _ _=>?_|refine g_storeAgg ?_)
  refine g_cond (fun h1=>?_) (fun h1=>?_)
  ·repeat (first|refine g_op rfl ?_|refine g_region ?_|refine g_seq ?_)
   refine g_callV rfl (fun w hw=>noneE_c w) ?_
   repeat (first|refine g_then ?_|refine g_nil ?_|refine g_opS rfl ?_|refine g_ret ?_|refine g_thenRet ?_)
   exact g_retV rfl rfl
  ·exact absurd h1 (by simp [hbad])
 have hch : (checkL u).1 = 0:=by simpa using hbad
 have hu : Whole u:=⟨check_zero.1 hch,nums_of hf0,gnums_of hg0⟩
 have hini : ∀ x ∈ inp,inI x:=fun x hx=>by obtain ⟨_,_,h9⟩:=hin0.el hx; exact h9
 rcases large_or u layF with ⟨i,X,hF⟩|hno
 ·refine g_callV rfl (fun w hw=>lay_big u hl hch i X hF _ _ w (hg0.keep keeps_global hw.chg) (hf0.keep keeps_func hw.chg) (hways.keep hw.chg)) ?_
  repeat (first|refine g_op rfl ?_|refine g_then ?_|refine g_nil ?_|refine g_region ?_|refine g_seq ?_|refine g_alloc rfl fun _ _=>?_|refine g_storeAgg ?_|refine g_condT ?_)
  refine g_callV rfl (fun w hw=>noneE_c w) ?_
  repeat (first|refine g_then ?_|refine g_nil ?_|refine g_opS rfl ?_|refine g_ret ?_|refine g_thenRet ?_)
  exact g_retV rfl rfl
 have hu2:=layU_whole hu hno
 have hch2:=check_zero.2 hu2.ok
 have hl2:=check_light hu2.ok
 have hagain:=layU_again hu.ok
 have hno2 : ∀ Y ∈ (layU u).funcs,largeF (layF Y) = false:=fun Y hY=>by
  unfold layU at hY
  obtain ⟨X,hX,rfl⟩:=List.mem_map.1 hY
  obtain ⟨k,hk⟩:=List.getElem?_of_mem hX
  rw [layF_again hu.ok hk]
  exact hno X hX
 have hfn2 : (layU u).funcs.length = u.funcs.length:=by unfold layU; rw [List.length_map]
 have hfpos : 0 < u.funcs.length:=by
  have h1:=hu.ok.main
  cases hfs : u.funcs with
  | nil=>rw [hfs] at h1; exact absurd h1 (by decide)
  | cons _ _=>simp
 refine g_callE (val:=(fun x : (Option Addr × Nat) × (Option Addr × Nat) × (Nat→Prop)=>Value.tuple #[.agg #[.slice x.1.1 gn x.1.2,.slice x.2.1.1 fn x.2.1.2],.agg #[.int .i64 0,.int .i64 0]])) (E:=(fun x : (Option Addr × Nat) × (Option Addr × Nat) × (Nat→Prop)=>[unitE (layU u) (.slice x.1.1 gn x.1.2) (.slice x.2.1.1 fn x.2.1.2) x.2.2])) (φ:=fun _=>True) rfl (fun w hw=>by rw [hgn,hfn]; exact lay_ok u hl hch hno _ _ w (by rw [← hgn]; exact hg0.keep keeps_global hw.chg) (by rw [← hfn]; exact hf0.keep keeps_func hw.chg) (hways.keep hw.chg)) fun x _=>?_
 obtain ⟨⟨ya,yc⟩,⟨za,zc⟩,fp⟩:=x
 simp only [List.cons_append,List.nil_append]
 repeat (first|refine g_op rfl ?_|refine g_then ?_|refine g_nil ?_|refine g_region ?_|refine g_seq ?_|refine g_alloc rfl fun _ _=>?_|refine g_storeAgg ?_|refine g_skip ?_|refine g_condF ?_)
 rename_i p7 _ p8 _
 refine g_callE (val:=(fun x : (Option Addr × Nat) × (Option Addr × Nat) × (Nat→Prop)=>Value.tuple #[.agg #[.slice x.1.1 gn x.1.2,.slice x.2.1.1 fn x.2.1.2],.agg #[.int .i64 0,.int .i64 0]])) (E:=(fun x : (Option Addr × Nat) × (Option Addr × Nat) × (Nat→Prop)=>[unitE (layU u) (.slice x.1.1 gn x.1.2) (.slice x.2.1.1 fn x.2.1.2) x.2.2])) (φ:=fun _=>True) rfl (fun w hw=>?_) fun x _=>?_
 ·have h2:=lay_ok (layU u) hl2 hch2 hno2 (.slice ya gn yc) (.slice za fn zc) w (hw.get (k:=2) rfl).1 (hw.get (k:=2) rfl).2 (hways.keep hw.chg)
  rw [hagain,hfn2,show (layU u).globals.length = gn from hgn.symm,← hfn] at h2
  exact h2
 obtain ⟨⟨xa,xc⟩,⟨va,vc⟩,fp2⟩:=x
 simp only [List.cons_append,List.nil_append]
 repeat (first|refine g_op rfl ?_|refine g_then ?_|refine g_nil ?_|refine g_region ?_|refine g_seq ?_|refine g_alloc rfl fun _ _=>?_|refine g_storeAgg ?_)
 rename_i p9 _ p10 _
 refine g_callV rfl (fun w hw=>none_c _ _ (layU u) w (hw.get (k:=5) rfl).1 (hw.get (k:=5) rfl).2) ?_
 repeat (refine g_op rfl ?_)
 rw [show (decide ((layU u).globals.length = 0) && decide ((layU u).funcs.length = 0)) = false by rw [hfn2,decide_eq_false (show ¬ u.funcs.length = 0 by omega),Bool.and_false]]
 repeat (first|refine g_op rfl ?_|refine g_open ?_)
 rw [show (!decide ((0 : Int) = 0)) = false by simp]
 skip
 refine g_callV rfl (fun w hw=>unitsSame_c _ _ _ _ (layU u) w (hw.get (k:=5) rfl).1 (hw.get (k:=5) rfl).2 (hw.get (k:=2) rfl).1 (hw.get (k:=2) rfl).2) ?_
 repeat (first|refine g_op rfl ?_|refine g_then ?_|refine g_nil ?_|refine g_region ?_|refine g_seq ?_|refine g_open ?_|refine g_block ?_|refine g_skip ?_|refine g_condF ?_)
 refine g_sel [4,6,5] (by decide) ?_
 refine g_eqH (H1:=[Ent.box p7 [.slice ya gn yc,.slice za fn zc] 25,Ent.box p3 [.slice ga gn gc,.slice fa fn fc] 25]++[unitE (layU u) (.slice ya gn yc) (.slice za fn zc) fp]) rfl ?_
 refine g_holdK fun w1 hw1=>?_
 have hun : SlAt (killW (fps [Ent.box p7 [.slice ya gn yc,.slice za fn zc] 25,Ent.box p3 [.slice ga gn gc,.slice fa fn fc] 25]) w1) (.slice ya gn yc) 3 u.globals GlobalV∧SlAt (killW (fps [Ent.box p7 [.slice ya gn yc,.slice za fn zc] 25,Ent.box p3 [.slice ga gn gc,.slice fa fn fc] 25]) w1) (.slice za fn zc) 4 (layU u).funcs FuncV:=hw1.beside (e:=unitE (layU u) (.slice ya gn yc) (.slice za fn zc) fp) (by simp)
 have back : ∀ {E : List Ent} {w : World},Wd (fps [Ent.box p7 [.slice ya gn yc,.slice za fn zc] 25,Ent.box p3 [.slice ga gn gc,.slice fa fn fc] 25]) (killW (fps [Ent.box p7 [.slice ya gn yc,.slice za fn zc] 25,Ent.box p3 [.slice ga gn gc,.slice fa fn fc] 25]) w1) E w→Wd NoS w0 (E++[unitE (layU u) (.slice ya gn yc) (.slice za fn zc) fp]) w:=fun hw=>hw1.comp hw.unkill
 have hkp : ∀ {E : List Ent} {w : World},Wd (fps [Ent.box p7 [.slice ya gn yc,.slice za fn zc] 25,Ent.box p3 [.slice ga gn gc,.slice fa fn fc] 25]) (killW (fps [Ent.box p7 [.slice ya gn yc,.slice za fn zc] 25,Ent.box p3 [.slice ga gn gc,.slice fa fn fc] 25]) w1) E w→∀ p v,(killW (fps [Ent.box p7 [.slice ya gn yc,.slice za fn zc] 25,Ent.box p3 [.slice ga gn gc,.slice fa fn fc] 25]) w1).cell? p = some v→w.cell? p = some v:=fun hw=>hw.killKeep
 have hkl : ∀ {E1 E2 : List Ent} {w : World},Wd (fps [Ent.box p7 [.slice ya gn yc,.slice za fn zc] 25,Ent.box p3 [.slice ga gn gc,.slice fa fn fc] 25]) (killW (fps [Ent.box p7 [.slice ya gn yc,.slice za fn zc] 25,Ent.box p3 [.slice ga gn gc,.slice fa fn fc] 25]) w1) (E1++E2) w→∀ q v,(killW (fps [Ent.box p7 [.slice ya gn yc,.slice za fn zc] 25,Ent.box p3 [.slice ga gn gc,.slice fa fn fc] 25]) w1).cell? q = some v→(killW (fps E1) w).cell? q = some v:=fun hw=>kill_less hw
 have hold : ∀ {b o : Nat} {v : Value} {l : List Value},CellsAt (killW (fps [Ent.box p7 [.slice ya gn yc,.slice za fn zc] 25,Ent.box p3 [.slice ga gn gc,.slice fa fn fc] 25]) w1) b o (v::l)→OldIs (fps [Ent.box p7 [.slice ya gn yc,.slice za fn zc] 25,Ent.box p3 [.slice ga gn gc,.slice fa fn fc] 25]) b:=fun hc=>killOldIs hc (by simp)
 generalize killW (fps [Ent.box p7 [.slice ya gn yc,.slice za fn zc] 25,Ent.box p3 [.slice ga gn gc,.slice fa fn fc] 25]) w1 = wk at *
 obtain ⟨SS,hSS⟩ : ∃ SS,SS = fps [Ent.box p7 [.slice ya gn yc,.slice za fn zc] 25,Ent.box p3 [.slice ga gn gc,.slice fa fn fc] 25]:=⟨_,rfl⟩
 rw [← hSS] at back hkp hkl hold ⊢
 obtain ⟨hug,huf⟩:=hun
 have hne2 : (layU u).funcs ≠ []:=fun e=>by rw [e] at hfn2; simp at hfn2; omega
 obtain ⟨b2,o2,had2,hold2,hel2⟩:=slKnown huf hold (fun _ _ h=>by obtain ⟨_,e,_⟩:=h; exact ⟨_,_,e⟩) hne2
 refine g_loop (fun (i : Nat)=>i ≤ fn) (fun i=>[(11,.int .i64 i),(7,.pointer (some ⟨p7,0,none⟩)),(3,.pointer (some ⟨p3,0,none⟩)),(1,.slice ia il ic),(2,.int .i64 fuel)]) (fun _=>[Ent.box p7 [.slice ya gn yc,.slice za fn zc] 25,Ent.box p3 [.slice ga gn gc,.slice fa fn fc] 25]) (fun i=>fn - i) 0 (Nat.zero_le _) (g_done (by repeat (first|exact trivial|refine ⟨rfl,?_⟩)) (.refl _)) fun i hi=>?_
 repeat (first|refine g_op rfl ?_|refine g_then ?_|refine g_nil ?_|refine g_region ?_|refine g_seq ?_)
 refine g_cond (fun h1=>?_) (fun h1=>?_)
 ·have hlt : i < fn:=by simpa using h1
  obtain ⟨X,hX⟩ : ∃ X,u.funcs[i]? = some X:=⟨_,List.getElem?_eq_getElem (by omega)⟩
  have hY : (layU u).funcs[i]? = some (layF X):=by unfold layU; simp only [List.getElem?_map,hX,Option.map_some]
  obtain ⟨_,hci2,bv2,rfl,_,_,hbv2⟩:=hel2 i _ hY
  have hpo : ∀ h : Nat,0 < ((loopsL (layF X).blocks).getD h []).length→porchOk (layF X).blocks h ((loopsL (layF X).blocks).getD h []) = true:=fun h h0=>layF_porch hu.ok hX h0
  obtain ⟨RY,_,hRY,hfoY⟩:=check_func hch2 hY
  have hgb:=hfoY.good
  have hlen : (layF X).blocks.length ≤ 100:=Nat.le_trans (hl2.2 _ (List.mem_of_getElem? hY)).1 (by decide)
  have hpos : 0 < (layF X).blocks.length:=check_pos hch2 hY
  generalize layF X = Y at *
  obtain ⟨bl,hblD⟩ : ∃ bl,bl = Y.blocks:=⟨_,rfl⟩
  rw [← hblD] at hbv2 hpo hfoY hgb hlen hpos
  have hbv2':=hbv2
  obtain ⟨a2,n2,c2,_,_,rfl,hn2,_⟩:=hbv2
  have hli : LtIs i fn:=⟨hlt⟩
  repeat (first|refine g_op rfl ?_|refine g_then ?_|refine g_region ?_|refine g_seq ?_|refine g_block ?_|refine g_skip ?_)
  refine g_callK (s:=1) (l:=loopsL bl) (V:=RowV) (mk:=fun v=>v) rfl (fun w hw=>refLoopsK _ _ _ bl _ ⟨_,_,_,rfl⟩ w (hbv2'.le mono_block (hkp hw)) hlen hgb hpos) fun ta tc tf=>?_
  repeat (first|refine g_op rfl ?_|refine g_then ?_|refine g_nil ?_|refine g_region ?_|refine g_seq ?_|refine g_block ?_)
  obtain ⟨n,hn⟩ : ∃ n,n = (loopsL bl).length:=⟨_,rfl⟩
  rw [← hn]
  refine g_permH (H1:=[Ent.box p7 [.slice ya gn yc,.slice za fn zc] 25,Ent.box p3 [.slice ga gn gc,.slice fa fn fc] 25]++[(⟨tf,fun w=>SlAt w (.slice ta n tc) 1 (loopsL bl) RowV⟩ : Ent)]) (List.perm_append_comm (l₁:=[(⟨tf,fun w=>SlAt w (.slice ta n tc) 1 (loopsL bl) RowV⟩ : Ent)])) ?_
  refine g_holdK fun w2 hw2=>?_
  have htb : SlAt (killW (fps [Ent.box p7 [.slice ya gn yc,.slice za fn zc] 25,Ent.box p3 [.slice ga gn gc,.slice fa fn fc] 25]) w2) (.slice ta n tc) 1 (loopsL bl) RowV:=hw2.beside (e:=(⟨tf,fun w=>SlAt w (.slice ta n tc) 1 (loopsL bl) RowV⟩ : Ent)) (by simp)
  have back2 : ∀ {E : List Ent} {w : World},Wd (fps [Ent.box p7 [.slice ya gn yc,.slice za fn zc] 25,Ent.box p3 [.slice ga gn gc,.slice fa fn fc] 25]) (killW (fps [Ent.box p7 [.slice ya gn yc,.slice za fn zc] 25,Ent.box p3 [.slice ga gn gc,.slice fa fn fc] 25]) w2) E w→Wd SS wk (E++[(⟨tf,fun w=>SlAt w (.slice ta n tc) 1 (loopsL bl) RowV⟩ : Ent)]) w:=fun hw=>hw2.comp hw.unkill
  have hkp2 : ∀ {E : List Ent} {w : World},Wd (fps [Ent.box p7 [.slice ya gn yc,.slice za fn zc] 25,Ent.box p3 [.slice ga gn gc,.slice fa fn fc] 25]) (killW (fps [Ent.box p7 [.slice ya gn yc,.slice za fn zc] 25,Ent.box p3 [.slice ga gn gc,.slice fa fn fc] 25]) w2) E w→∀ p v,(killW (fps [Ent.box p7 [.slice ya gn yc,.slice za fn zc] 25,Ent.box p3 [.slice ga gn gc,.slice fa fn fc] 25]) w2).cell? p = some v→w.cell? p = some v:=fun hw=>hw.killKeep
  have hold3 : ∀ {b o : Nat} {v : Value} {l : List Value},CellsAt (killW (fps [Ent.box p7 [.slice ya gn yc,.slice za fn zc] 25,Ent.box p3 [.slice ga gn gc,.slice fa fn fc] 25]) w2) b o (v::l)→OldIs (fps [Ent.box p7 [.slice ya gn yc,.slice za fn zc] 25,Ent.box p3 [.slice ga gn gc,.slice fa fn fc] 25]) b:=fun hc=>killOldIs hc (by simp)
  have huf2:=huf.le mono_func (hkl hw2)
  have hbv3:=hbv2'.le mono_block (hkl hw2)
  generalize killW (fps [Ent.box p7 [.slice ya gn yc,.slice za fn zc] 25,Ent.box p3 [.slice ga gn gc,.slice fa fn fc] 25]) w2 = wz at *
  rw [← hSS] at back2 hkp2 hold3 ⊢
  obtain ⟨b5,o5,had5,hold5,hel5⟩:=slKnown huf2 hold3 (fun _ _ h=>by obtain ⟨_,e,_⟩:=h; exact ⟨_,_,e⟩) hne2
  obtain ⟨_,hci5,bv5,rfl,_,_,hbv5⟩:=hel5 i _ hY
  rw [← hblD] at hbv5
  have hbv6:=hbv5
  obtain ⟨a6,n6,c6,_,_,rfl,hn6,_⟩:=hbv6
  rw [loopsL_len] at hn
  refine g_loop (fun (h : Nat)=>h ≤ n) (fun h=>[(13,.int .i64 h),(12,.slice ta n tc),(11,.int .i64 i),(7,.pointer (some ⟨p7,0,none⟩)),(3,.pointer (some ⟨p3,0,none⟩)),(1,.slice ia il ic),(2,.int .i64 fuel)]) (fun _=>[Ent.box p7 [.slice ya gn yc,.slice za fn zc] 25,Ent.box p3 [.slice ga gn gc,.slice fa fn fc] 25]) (fun h=>n - h) 0 (Nat.zero_le _) (g_done (by repeat (first|exact trivial|refine ⟨rfl,?_⟩)) (.refl _)) fun h hh=>?_
  repeat (first|refine g_op rfl ?_|refine g_then ?_|refine g_nil ?_|refine g_region ?_|refine g_seq ?_)
  refine g_cond (fun h2=>?_) (fun h2=>?_)
  ·have hhn : h < n:=by simpa using h2
   have hlh : LtIs h n:=⟨hhn⟩
   obtain ⟨kb,ko,ra,rc,hadk,hcik,holk,hrow⟩:=tabKnown htb hold3 (loopsL_get (bl:=bl) (h:=h) (by omega))
   have hp1:=hpo h
   rw [List.getD_eq_getElem?_getD,loopsL_get (by omega),Option.getD_some] at hp1
   generalize loopRow bl h = r at *
   repeat (first|refine g_then ?_|refine g_seq ?_|refine g_block ?_|refine g_skip ?_)
   refine g_drawX [Ent.box p7 [.slice ya gn yc,.slice za fn zc] 25] (fun _ : Unit=>True) (fun _=>[(82,.bool false),(13,.int .i64 h),(12,.slice ta n tc),(11,.int .i64 i),(7,.pointer (some ⟨p7,0,none⟩)),(3,.pointer (some ⟨p3,0,none⟩)),(1,.slice ia il ic),(2,.int .i64 fuel)]) (fun _=>[Ent.box p7 [.slice ya gn yc,.slice za fn zc] 25,Ent.box p3 [.slice ga gn gc,.slice fa fn fc] 25]) mixed (.cons_cons _ (List.nil_sublist _)) ?_ fun _ _=>?_
   ·skip
    refine h_take 0 rfl (by decide +kernel) (.cons_cons _ (List.nil_sublist _)) ?_
    refine h_take 1 rfl (by decide +kernel) (.cons_cons _ (List.nil_sublist _)) ?_
    refine h_take 2 rfl (by decide +kernel) (.cons_cons _ (List.nil_sublist _)) ?_
    refine h_take 3 rfl (by decide +kernel) (.cons_cons _ (List.nil_sublist _)) ?_
    refine h_take 4 rfl (by decide +kernel) (.cons_cons _ (List.nil_sublist _)) ?_
    refine h_take 5 rfl (by decide +kernel) (.cons_cons _ (List.nil_sublist _)) ?_
    refine h_take 6 rfl (by decide +kernel) (.cons_cons _ (List.nil_sublist _)) ?_
    by_cases h0 : 0 < r.length
    ·rw [decide_eq_true (show (0 : Int) < (r.length : Int) by omega)]
     have hp2:=hp1 h0
     refine h_takeG 7 rfl (by decide +kernel) (.cons_cons _ (List.nil_sublist _)) ?_
     refine h_takeG 8 rfl (by decide +kernel) (.cons_cons _ (List.nil_sublist _)) ?_
     refine h_takeG 9 rfl (by decide +kernel) (.cons_cons _ (List.nil_sublist _)) ?_
     refine h_takeG 10 rfl (by decide +kernel) (.cons_cons _ (List.nil_sublist _)) ?_
     refine h_takeG 11 rfl (by decide +kernel) (.cons_cons _ (List.nil_sublist _)) ?_
     refine h_takeG 12 rfl (by decide +kernel) (.cons_cons _ (List.nil_sublist _)) ?_
     refine h_takeG 13 rfl (by decide +kernel) (.cons_cons _ (List.nil_sublist _)) ?_
     refine h_takeG 14 rfl (by decide +kernel) (.cons_cons _ (List.nil_sublist _)) ?_
     refine h_takeG 15 rfl (by decide +kernel) (.cons_cons _ (List.nil_sublist _)) ?_
     refine h_takeG 16 rfl (by decide +kernel) (.cons_cons _ (List.nil_sublist _)) ?_
     refine h_callEG 17 (val:=fun x : Int=>.int .i64 x) (E:=fun _=>[]) (φ:=fun x=>¬ x < 0) rfl (by decide +kernel) (.cons_cons _ (List.nil_sublist _)) (fun w hw=>(refPorch_c (.string Y.name) (.int .i64 Y.params) (.int .i64 Y.regs) bl (.slice a6 n6 c6) (.slice ra r.length rc) ⟨_,_,_,rfl⟩ ⟨_,_,_,rfl⟩ h r w (hbv5.le mono_block (hkp2 hw)) (hrow.le mono_int (hkp2 hw)) hlen).mono fun _ _ ⟨x,h7,h8,h9⟩=>⟨x,h7,h8,fun h10=>by rw [h9.1 h10] at hp2; cases hp2⟩) fun x hx=>?_
     simp only [List.nil_append]
     refine h_takeG 18 rfl (by decide +kernel) (.cons_cons _ (List.nil_sublist _)) ?_
     refine h_take 19 rfl (by decide +kernel) (.cons_cons _ (List.nil_sublist _)) ?_
     refine h_end (by decide +kernel) ?_
     rw [show decide (x < 0) = false by simp [hx]]
     exact g_mem () trivial (by repeat (first|exact trivial|refine ⟨rfl,?_⟩)) (.refl _)
    ·rw [decide_eq_false (show ¬ (0 : Int) < (r.length : Int) by omega)]
     refine h_takeP 7 rfl (by decide +kernel) (.cons_cons _ (List.nil_sublist _)) ?_
     refine h_takeP 8 rfl (by decide +kernel) (.cons_cons _ (List.nil_sublist _)) ?_
     refine h_takeP 9 rfl (by decide +kernel) (.cons_cons _ (List.nil_sublist _)) ?_
     refine h_takeP 10 rfl (by decide +kernel) (.cons_cons _ (List.nil_sublist _)) ?_
     refine h_takeP 11 rfl (by decide +kernel) (.cons_cons _ (List.nil_sublist _)) ?_
     refine h_takeP 12 rfl (by decide +kernel) (.cons_cons _ (List.nil_sublist _)) ?_
     refine h_takeP 13 rfl (by decide +kernel) (.cons_cons _ (List.nil_sublist _)) ?_
     refine h_takeP 14 rfl (by decide +kernel) (.cons_cons _ (List.nil_sublist _)) ?_
     refine h_takeP 15 rfl (by decide +kernel) (.cons_cons _ (List.nil_sublist _)) ?_
     refine h_takeP 16 rfl (by decide +kernel) (.cons_cons _ (List.nil_sublist _)) ?_
     refine h_takeP 17 rfl (by decide +kernel) (.cons_cons _ (List.nil_sublist _)) ?_
     refine h_takeP 18 rfl (by decide +kernel) (.cons_cons _ (List.nil_sublist _)) ?_
     refine h_take 19 rfl (by decide +kernel) (.cons_cons _ (List.nil_sublist _)) ?_
     refine h_end (by decide +kernel) ?_
     exact g_mem () trivial (by repeat (first|exact trivial|refine ⟨rfl,?_⟩)) (.refl _)
   ·repeat (first|refine g_op rfl ?_|refine g_then ?_|refine g_nil ?_|refine g_region ?_|refine g_opS rfl ?_|refine g_inBlock ?_|refine g_skip ?_|refine g_condF ?_|refine g_add rfl (by omega) (by omega) ?_)
    exact g_next (h + 1) hhn (by omega) (by repeat (first|exact trivial|refine ⟨rfl,?_⟩)) (.refl _)
  ·refine g_unhold back2 ?_
   simp only [List.cons_append,List.nil_append]
   repeat (first|refine g_op rfl ?_|refine g_then ?_|refine g_nil ?_|refine g_region ?_|refine g_opS rfl ?_|refine g_inBlock ?_|refine g_add rfl (by omega) (by omega) ?_|refine g_exit ?_|refine g_thenExit ?_|refine g_exitHere ?_)
   exact g_next (i + 1) (by omega) (by omega) (by repeat (first|exact trivial|refine ⟨rfl,?_⟩)) (.cons_cons _ (.cons_cons _ (List.nil_sublist _)))
 ·refine g_unhold back ?_
  simp only [List.cons_append,List.nil_append]
  repeat (first|refine g_op rfl ?_|refine g_then ?_|refine g_region ?_|refine g_seq ?_|refine g_exit ?_|refine g_thenExit ?_|refine g_exitHere ?_)
  refine g_callV rfl (fun w hw=>same_c u (layU u) hl hl2 _ _ _ _ _ inp fuel w (hg0.keep keeps_global hw.chg) (hf0.keep keeps_func hw.chg) (hw.get (k:=2) rfl).1 (hw.get (k:=2) rfl).2 (hin0.keep keeps_int hw.chg) (hways.keep hw.chg) fun f hf2 hc0 hst=>lay_comes hu hno hini hc0 hst (by omega) (by omega)) ?_
  repeat (first|refine g_op rfl ?_|refine g_then ?_|refine g_nil ?_|refine g_ret ?_)
  exact g_retV rfl rfl
end Go.Proofs.YtdbljcahlpkgdaaGreatDoor

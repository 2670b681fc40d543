/- Texts joined: LayA LayC LayD. -/
import Derived.Test.YtdbljcahlpkgdaaGreatDoorHJ
import Derived.Test.YtdbljcahlpkgdaaGreatDoorIK
import Derived.Test.YtdbljcahlpkgdaaGreatDoorKC
import Derived.Test.YtdbljcahlpkgdaaGreatDoorKD
namespace Go.Proofs.YtdbljcahlpkgdaaGreatDoor
open Go Go.RowKit
attribute [local irreducible] wpListIn Code.wpIn Exit.then Exit.inBlock bodyPost wpQuiet wpAnyIn wpAnyH bodyPostM oneH
set_option maxHeartbeats 4000000
theorem outTo_pre (bl : List LBlock) (h : Nat) (lp : List Int) (j : Nat) : outTo bl h lp j <+: outQ bl h lp:=by
 unfold outTo outQ
 exact (List.take_prefix j (preds bl h)).filter _
def PorchSt (bl : List LBlock) (h : Nat) (lp : List Int) (j : Nat) (r : Int) : Prop:=(outTo bl h lp j = []∧r = -1) ∨ ∃ a : Nat,outTo bl h lp j = [a]∧r = a∧(blkAt bl a).kind = 2
theorem PorchSt.in' {bl : List LBlock} {h : Nat} {lp : List Int} {j a : Nat} {r : Int} (hs : PorchSt bl h lp j r) (ha : (preds bl h)[j]? = some a) (hm : (a : Int) ∈ lp) : PorchSt bl h lp (j + 1) r:=by
 unfold PorchSt at hs ⊢
 rw [outTo_succ ha,if_pos hm,List.append_nil]
 exact hs
theorem PorchSt.out {bl : List LBlock} {h : Nat} {lp : List Int} {j a : Nat} {r : Int} (hs : PorchSt bl h lp j r) (ha : (preds bl h)[j]? = some a) (hm : (a : Int) ∉ lp) (hr : r < 0) (hk : (blkAt bl a).kind = 2) : PorchSt bl h lp (j + 1) a:=by
 unfold PorchSt at hs ⊢
 rw [outTo_succ ha,if_neg hm]
 rcases hs with ⟨h1,h2⟩|⟨b,h1,h2,_⟩
 ·rw [h1]
  exact .inr ⟨a,rfl,rfl,hk⟩
 ·omega
theorem PorchSt.bad {bl : List LBlock} {h : Nat} {lp : List Int} {j a : Nat} {r : Int} (hs : PorchSt bl h lp j r) (ha : (preds bl h)[j]? = some a) (hm : (a : Int) ∉ lp) (hr : 0 ≤ r ∨ (blkAt bl a).kind ≠ 2) : porchOk bl h lp = false:=by
 obtain ⟨q,hq⟩:=outTo_pre bl h lp (j + 1)
 rw [outTo_succ ha,if_neg hm] at hq
 unfold porchOk
 rw [← hq]
 rcases hs with ⟨h1,h2⟩|⟨b,h1,h2,_⟩
 ·rw [h1]
  have hk : (blkAt bl a).kind ≠ 2:=hr.resolve_left (by omega)
  simp [hk]
 ·rw [h1]
  simp
theorem PorchSt.end {bl : List LBlock} {h : Nat} {lp : List Int} {r : Int} (hs : PorchSt bl h lp (preds bl h).length r) : r < 0 ↔ porchOk bl h lp = false:=by
 unfold PorchSt at hs
 rw [outTo_all] at hs
 unfold porchOk
 rcases hs with ⟨h1,h2⟩|⟨b,h1,h2,h3⟩
 ·rw [h1,h2]; simp
 ·rw [h1,h2]; simp [h3]
theorem porch_c (nm pa re : Value) (bl : List LBlock) (bs lv : Value) (hbsl : ∃ a n c,bs = .slice a n c) (hlvl : ∃ a n c,lv = .slice a n c) (h : Nat) (lp : List Int) (w0 : World) (hbs : SlAt w0 bs 6 bl BlockV) (hlp : SlAt w0 lv 1 lp IntV) (hlen : bl.length ≤ 100) (hok : GoodB bl) (hnd : ∀ (b : Nat) B,bl[b]? = some B→B.to.Nodup) (hh : h < bl.length) :
  Ret Tryz.prog 43 [.agg #[nm,pa,re,bs],.int .i64 h,lv] w0 fun u w'=>∃ r : Int,u = .int .i64 r∧Wd NoS w0 [] w'∧(r < 0 ↔ porchOk bl h lp = false):=by
 obtain ⟨ba,n,bc,rfl⟩:=hbsl
 obtain ⟨la,ln,lc,rfl⟩:=hlvl
 have hn : n = bl.length:=hbs.at.1
 refine ret_enter Tryz.func43 rfl Tryz.ntmps43 rfl (Wd.nil NoS w0) ?_
 repeat (first|refine g_op rfl ?_|refine g_then ?_|refine g_nil ?_|refine g_region ?_|refine g_seq ?_|refine g_box rfl fun _ _=>?_)
 rename_i p3 _
 refine g_callE (val:=fun x : (Option Addr × Nat × Nat) × (Nat→Prop)=>.slice x.1.1 x.1.2.1 x.1.2.2) (E:=fun x=>[⟨x.2,fun w=>SlAt w (.slice x.1.1 x.1.2.1 x.1.2.2) 1 (aheadL bl) RowV⟩]) (φ:=fun _=>True) rfl (fun w hw=>graphAhead_c nm pa re bl _ w (hbs.keep keeps_block hw.chg) hlen hok) fun x _=>?_
 obtain ⟨⟨aa,an,ac⟩,af⟩:=x
 simp only [List.cons_append,List.nil_append]
 refine g_permH (H1:=[Ent.box p3 [nm,pa,re,.slice ba n bc] 35]++[(⟨af,fun w=>SlAt w (.slice aa an ac) 1 (aheadL bl) RowV⟩ : Ent)]) (List.Perm.swap _ _ _) ?_
 refine g_holdK fun w1 hw1=>?_
 have hah : SlAt (killW (fps [Ent.box p3 [nm,pa,re,.slice ba n bc] 35]) w1) (.slice aa an ac) 1 (aheadL bl) RowV:=hw1.beside (e:=(⟨af,fun w=>SlAt w (.slice aa an ac) 1 (aheadL bl) RowV⟩ : Ent)) (by simp)
 have back : ∀ {E : List Ent} {w : World},Wd (fps [Ent.box p3 [nm,pa,re,.slice ba n bc] 35]) (killW (fps [Ent.box p3 [nm,pa,re,.slice ba n bc] 35]) w1) E w→Wd NoS w0 (E++[(⟨af,fun w=>SlAt w (.slice aa an ac) 1 (aheadL bl) RowV⟩ : Ent)]) w:=fun hw=>hw1.comp hw.unkill
 have hkp : ∀ {E : List Ent} {w : World},Wd (fps [Ent.box p3 [nm,pa,re,.slice ba n bc] 35]) (killW (fps [Ent.box p3 [nm,pa,re,.slice ba n bc] 35]) w1) E w→∀ p v,(killW (fps [Ent.box p3 [nm,pa,re,.slice ba n bc] 35]) w1).cell? p = some v→w.cell? p = some v:=fun hw=>hw.killKeep
 have hold : ∀ {b o : Nat} {v : Value} {l : List Value},CellsAt (killW (fps [Ent.box p3 [nm,pa,re,.slice ba n bc] 35]) w1) b o (v::l)→OldIs (fps [Ent.box p3 [nm,pa,re,.slice ba n bc] 35]) b:=fun hc=>killOldIs hc (by simp)
 have hbk:=hbs.keep keeps_block hw1.killOld
 have hlk:=hlp.keep keeps_int hw1.killOld
 generalize killW (fps [Ent.box p3 [nm,pa,re,.slice ba n bc] 35]) w1 = wk at *
 generalize fps [Ent.box p3 [nm,pa,re,.slice ba n bc] 35] = SS at *
 have hrow:=aheadL_get hok hnd hh
 obtain ⟨hanl,_,_,ab,ao,haa,hahel⟩:=hah.at
 have hal : (aheadL bl).length = bl.length:=by unfold aheadL; rw [aheadTo_length]
 obtain ⟨_,hcs,rv,rfl,hrv⟩:=hahel h _ hrow
 have hrv0:=hrv
 obtain ⟨ra,rn,rc,rb,ro,rfl,hrn,_,_,_,hra,hrel⟩:=hrv0
 rw [List.length_map] at hrn
 have had : AddrIs aa ab ao:=⟨haa (ne_of_get hrow)⟩
 have hlt2 : LtIs h an:=⟨by omega⟩
 have hci : CellsIs wk ab (ao + h * 1) _:=⟨hcs⟩
 have hoi:=hold hcs
 repeat (first|refine g_op rfl ?_|refine g_then ?_|refine g_nil ?_|refine g_block ?_)
 refine g_loop (fun x : Nat × Int=>x.1 ≤ rn∧PorchSt bl h lp x.1 x.2) (fun x=>[(16,.int .i64 x.1),(7,.int .i64 x.2),(15,.int .i64 rn),(14,.slice ra rn rc),(3,.pointer (some ⟨p3,0,none⟩)),(1,.int .i64 h),(2,.slice la ln lc)]) (fun _=>[Ent.box p3 [nm,pa,re,.slice ba n bc] 35]) (fun x=>rn - x.1) (0,-1) ⟨Nat.zero_le _,.inl ⟨by unfold outTo; simp,rfl⟩⟩ (g_done (by repeat (first|exact trivial|refine ⟨rfl,?_⟩)) (.refl _)) fun x ⟨hj,hst⟩=>?_
 obtain ⟨j,r⟩:=x
 simp only at hj hst ⊢
 repeat (first|refine g_op rfl ?_|refine g_then ?_|refine g_nil ?_|refine g_region ?_|refine g_seq ?_)
 refine g_cond (fun h1=>?_) (fun h1=>?_)
 ·have hjl : j < rn:=by simpa using h1
  obtain ⟨a,ha⟩ : ∃ a,(preds bl h)[j]? = some a:=⟨_,List.getElem?_eq_getElem (by omega)⟩
  have hai : ((preds bl h).map fun x : Nat=>(x : Int))[j]? = some (a : Int):=by rw [List.getElem?_map,ha]; rfl
  have hal2:=preds_lt _ _ a (List.mem_of_getElem? ha)
  have hadr : AddrIs ra rb ro:=⟨hra (ne_of_get hai)⟩
  have hltj : LtIs j rn:=⟨hjl⟩
  obtain ⟨_,hcr,rfl,_⟩:=hrel j _ hai
  have hcir : CellsIs wk rb (ro + j * 1) _:=⟨hcr⟩
  have hoir:=hold hcr
  repeat (first|refine g_op rfl ?_|refine g_then ?_|refine g_nil ?_|refine g_region ?_|refine g_seq ?_|refine g_block ?_|refine g_skip ?_)
  refine g_callV rfl (fun w hw=>contains_c _ lp a w (SlAt.mono (V:=IntV) (w:=wk) (w':=w) (fun _ _ h=>h) (hkp hw) hlk) ⟨_,_,_,rfl⟩) ?_
  by_cases hm : (a : Int) ∈ lp
  ·rw [show decide ((a : Int) ∈ lp) = true by simp [hm]]
   repeat (first|refine g_op rfl ?_|refine g_then ?_|refine g_nil ?_|refine g_region ?_|refine g_opS rfl ?_|refine g_inBlock ?_|refine g_skip ?_|refine g_condT ?_|refine g_add rfl (by omega) (by omega) ?_)
   exact g_next (j + 1,r) ⟨hjl,hst.in' ha hm⟩ (by simp only; omega) (by repeat (first|exact trivial|refine ⟨rfl,?_⟩)) (.refl _)
  rw [show decide ((a : Int) ∈ lp) = false by simp [hm]]
  obtain ⟨B,hB⟩ : ∃ B,bl[a]? = some B:=⟨_,List.getElem?_eq_getElem hal2⟩
  obtain ⟨_,_,_,bb,bo,hba,hbel⟩:=hbk.at
  obtain ⟨_,hcB,pv,lv,tv,rfl,_⟩:=hbel a B hB
  have hadb : AddrIs ba bb bo:=⟨hba (ne_of_get hB)⟩
  have hlta : LtIs a n:=⟨by omega⟩
  have hciB : CellsIs wk bb (bo + a * 6) _:=⟨hcB⟩
  have hoiB:=hold hcB
  have hbA : blkAt bl a = B:=blkAt_get hB
  repeat (first|refine g_op rfl ?_|refine g_then ?_|refine g_nil ?_|refine g_region ?_|refine g_seq ?_|refine g_condF ?_)
  by_cases hr : 0 ≤ r
  ·rw [show decide (0 ≤ r) = true by simp [hr]]
   repeat (first|refine g_op rfl ?_|refine g_then ?_|refine g_nil ?_|refine g_region ?_|refine g_seq ?_|refine g_pass rfl ?_|refine g_condT ?_|refine g_ret ?_|refine g_thenRet ?_|refine g_blockRet ?_)
   exact g_ret1 rfl fun w hw=>⟨-1,rfl,(back hw).sub (List.nil_sublist _),⟨fun _=>hst.bad ha hm (.inl hr),fun _=>by omega⟩⟩
  rw [show decide (0 ≤ r) = false by simp [hr]]
  repeat (first|refine g_op rfl ?_|refine g_then ?_|refine g_nil ?_|refine g_open ?_)
  by_cases hk : (blkAt bl a).kind = 2
  ·have hk2 : B.kind = 2:=by rw [← hbA]; exact hk
   rw [show (!decide (B.kind = 2)) = false by simp [hk2]]
   repeat (first|refine g_op rfl ?_|refine g_then ?_|refine g_nil ?_|refine g_region ?_|refine g_opS rfl ?_|refine g_inBlock ?_|refine g_condF ?_|refine g_add rfl (by omega) (by omega) ?_)
   exact g_next (j + 1,(a : Int)) ⟨hjl,hst.out ha hm (by omega) hk⟩ (by simp only; omega) (by repeat (first|exact trivial|refine ⟨rfl,?_⟩)) (.refl _)
  ·have hk2 : ¬ B.kind = 2:=by rw [← hbA]; exact hk
   rw [show (!decide (B.kind = 2)) = true by simp [hk2]]
   repeat (first|refine g_op rfl ?_|refine g_then ?_|refine g_nil ?_|refine g_region ?_|refine g_seq ?_|refine g_condT ?_|refine g_ret ?_|refine g_thenRet ?_|refine g_blockRet ?_)
   exact g_ret1 rfl fun w hw=>⟨-1,rfl,(back hw).sub (List.nil_sublist _),⟨fun _=>hst.bad ha hm (.inr hk),fun _=>by omega⟩⟩
 ·obtain rfl : j = rn:=by have:=h1; simp at this; omega
  repeat (first|refine g_op rfl ?_|refine g_then ?_|refine g_nil ?_|refine g_region ?_|refine g_seq ?_|refine g_exit ?_|refine g_thenExit ?_|refine g_exitHere ?_|refine g_ret ?_)
  rw [hrn] at hst
  exact g_ret1 rfl fun w hw=>⟨r,rfl,(back hw).sub (List.nil_sublist _),hst.end⟩
end Go.Proofs.YtdbljcahlpkgdaaGreatDoor
namespace Go.Proofs.YtdbljcahlpkgdaaGreatDoor
open Go Go.RowKit
attribute [local irreducible] wpListIn Code.wpIn Exit.then Exit.inBlock bodyPost wpQuiet wpAnyIn wpAnyH bodyPostM oneH
set_option maxHeartbeats 8000000
theorem kill_stepH {S : Nat→Prop} {w0 w1 : World} {H1 H2 : List Ent} (h : Wd S w0 (H1++H2) w1) : ∀ p v,(killW S w0).cell? p = some v→(killW (fps H1) w1).cell? p = some v:=fun p v hc=>by
 obtain ⟨hn,h1⟩:=kill_cell hc
 have hlt:=World.block_lt_of_cell? _ p h1
 have hno : ¬ fps H1 p.block:=fun ⟨e,he,hb⟩=>(h.own e (List.mem_append_left _ he) _ hb).1.elim hn fun h2=>by omega
 rw [← h1]
 exact World.cell?_of_block ((kill_get w1 hno).trans (h.chg.block _ hlt hn))
theorem lay_c (nm pa : Value) (R p : Nat) (a : Option Addr) (c : Nat) (bs : List BRow) (h : Nat) (lp : List Int) (la : Option Addr) (ln lc : Nat) (w0 : World)
  (hW : Wd (fps (Ent.box p [nm,pa,.int .i64 (R : Nat),.slice a bs.length c] 35::fnE a c bs)) w0 (Ent.box p [nm,pa,.int .i64 (R : Nat),.slice a bs.length c] 35::fnE a c bs) w0)
  (hlp : SlAt (killW (fps (Ent.box p [nm,pa,.int .i64 (R : Nat),.slice a bs.length c] 35::fnE a c bs)) w0) (.slice la ln lc) 1 lp IntV)
  (hlen : bs.length ≤ 100) (hR : R ≤ 100000) (hbd : ∀ b ∈ bs,b.Bd) (hf : FuncOk R (bs.map BRow.blk)) (hh : h < bs.length) (ho : outQ (bs.map BRow.blk) h lp ≠ []) :
  Ret Tryz.prog 44 [.pointer (some ⟨p,0,none⟩),.int .i64 h,.slice la ln lc] w0 fun u w'=>∃ x : Option Addr × Nat × List BRow,u = .tuple #[]∧Wd (fps (Ent.box p [nm,pa,.int .i64 (R : Nat),.slice a bs.length c] 35::fnE a c bs)) w0 (Ent.box p [nm,pa,.int .i64 (layR (bs.map BRow.blk) h lp R : Nat),.slice x.1 x.2.2.length x.2.1] 35::fnE x.1 x.2.1 x.2.2) w' ∧
   (x.2.2.map BRow.blk = layB (bs.map BRow.blk) h lp R∧∀ b ∈ x.2.2,b.Bd):=by
 classical
 refine ret_enter Tryz.func44 rfl Tryz.ntmps44 rfl hW ?_
 obtain ⟨SS,hSS⟩ : ∃ SS,SS = fps (Ent.box p [nm,pa,.int .i64 (R : Nat),.slice a bs.length c] 35::fnE a c bs):=⟨_,rfl⟩
 rw [← hSS] at hlp ⊢
 obtain ⟨bl,hbl⟩ : ∃ bl,bl = bs.map BRow.blk:=⟨_,rfl⟩
 rw [← hbl] at hf ho ⊢
 have hg:=hf.good
 have hnd : ∀ (b : Nat) B,bl[b]? = some B→B.to.Nodup:=fun b B hB=>(hf.block b B hB).to
 have hbll : bl.length = bs.length:=by rw [hbl,List.length_map]
 repeat (first|refine g_op rfl ?_|refine g_then ?_|refine g_nil ?_|refine g_region ?_|refine g_seq ?_|refine g_alloc rfl fun _ _=>?_|refine g_storeAgg ?_|refine g_build1 rfl rfl fun _ _=>?_)
 rename_i tb _ pb _
 have hrd : ∀ w,Wd SS w0 (Ent.box pb [.slice none 0 0,.slice none 0 0,.int .i64 2,.bool false,.int .i64 0,.slice (some ⟨tb,0,none⟩) 1 1] 52::Ent.vec (some ⟨tb,0,none⟩) 1 1 3 1 [.int .i64 (h : Int)]::Ent.box p [nm,pa,.int .i64 (R : Nat),.slice a bs.length c] 35::fnE a c bs) w→SlAt w (.slice a bs.length c) 6 bl BlockV:=fun w hw=>by
  rw [hbl]
  refine Wd.blocks (H:=[]) (hw.sub (.cons _ (.cons _ (.cons _ ?_)))) (by omega) hbd
  rw [List.append_nil]
  exact List.Sublist.refl _
 refine g_callE (val:=fun x : (Option Addr × Nat × Nat) × (Nat→Prop)=>.slice x.1.1 x.1.2.1 x.1.2.2) (E:=fun x=>[⟨x.2,fun w=>SlAt w (.slice x.1.1 x.1.2.1 x.1.2.2) 1 (aheadL bl) RowV⟩]) (φ:=fun _=>True) rfl (fun w hw=>graphAhead_c _ _ _ bl _ w (hrd w hw) (by omega) hg) fun x _=>?_
 obtain ⟨⟨aa,an,ac⟩,af⟩:=x
 simp only [List.cons_append,List.nil_append]
 refine g_permH (H1:=(Ent.box pb [.slice none 0 0,.slice none 0 0,.int .i64 2,.bool false,.int .i64 0,.slice (some ⟨tb,0,none⟩) 1 1] 52::Ent.vec (some ⟨tb,0,none⟩) 1 1 3 1 [.int .i64 (h : Int)]::Ent.box p [nm,pa,.int .i64 (R : Nat),.slice a bs.length c] 35::fnE a c bs)++[(⟨af,fun w=>SlAt w (.slice aa an ac) 1 (aheadL bl) RowV⟩ : Ent)]) (List.perm_append_comm (l₁:=[(⟨af,fun w=>SlAt w (.slice aa an ac) 1 (aheadL bl) RowV⟩ : Ent)])) ?_
 refine g_holdK fun w1 hw1=>?_
 have hah : SlAt (killW (fps (Ent.box pb [.slice none 0 0,.slice none 0 0,.int .i64 2,.bool false,.int .i64 0,.slice (some ⟨tb,0,none⟩) 1 1] 52::Ent.vec (some ⟨tb,0,none⟩) 1 1 3 1 [.int .i64 (h : Int)]::Ent.box p [nm,pa,.int .i64 (R : Nat),.slice a bs.length c] 35::fnE a c bs)) w1) (.slice aa an ac) 1 (aheadL bl) RowV:=hw1.beside (e:=(⟨af,fun w=>SlAt w (.slice aa an ac) 1 (aheadL bl) RowV⟩ : Ent)) (by simp)
 have hlk0 : SlAt (killW (fps (Ent.box pb [.slice none 0 0,.slice none 0 0,.int .i64 2,.bool false,.int .i64 0,.slice (some ⟨tb,0,none⟩) 1 1] 52::Ent.vec (some ⟨tb,0,none⟩) 1 1 3 1 [.int .i64 (h : Int)]::Ent.box p [nm,pa,.int .i64 (R : Nat),.slice a bs.length c] 35::fnE a c bs)) w1) (.slice la ln lc) 1 lp IntV:=SlAt.mono (V:=IntV) (w:=killW SS w0) (w':=killW (fps (Ent.box pb [.slice none 0 0,.slice none 0 0,.int .i64 2,.bool false,.int .i64 0,.slice (some ⟨tb,0,none⟩) 1 1] 52::Ent.vec (some ⟨tb,0,none⟩) 1 1 3 1 [.int .i64 (h : Int)]::Ent.box p [nm,pa,.int .i64 (R : Nat),.slice a bs.length c] 35::fnE a c bs)) w1) (fun _ _ h=>h) (kill_stepH (H1:=Ent.box pb [.slice none 0 0,.slice none 0 0,.int .i64 2,.bool false,.int .i64 0,.slice (some ⟨tb,0,none⟩) 1 1] 52::Ent.vec (some ⟨tb,0,none⟩) 1 1 3 1 [.int .i64 (h : Int)]::Ent.box p [nm,pa,.int .i64 (R : Nat),.slice a bs.length c] 35::fnE a c bs) (H2:=[(⟨af,fun w=>SlAt w (.slice aa an ac) 1 (aheadL bl) RowV⟩ : Ent)]) hw1) hlp
 have back : ∀ {E : List Ent} {w : World},Wd (fps (Ent.box pb [.slice none 0 0,.slice none 0 0,.int .i64 2,.bool false,.int .i64 0,.slice (some ⟨tb,0,none⟩) 1 1] 52::Ent.vec (some ⟨tb,0,none⟩) 1 1 3 1 [.int .i64 (h : Int)]::Ent.box p [nm,pa,.int .i64 (R : Nat),.slice a bs.length c] 35::fnE a c bs)) (killW (fps (Ent.box pb [.slice none 0 0,.slice none 0 0,.int .i64 2,.bool false,.int .i64 0,.slice (some ⟨tb,0,none⟩) 1 1] 52::Ent.vec (some ⟨tb,0,none⟩) 1 1 3 1 [.int .i64 (h : Int)]::Ent.box p [nm,pa,.int .i64 (R : Nat),.slice a bs.length c] 35::fnE a c bs)) w1) E w→Wd SS w0 (E++[(⟨af,fun w=>SlAt w (.slice aa an ac) 1 (aheadL bl) RowV⟩ : Ent)]) w:=fun hw=>hw1.comp hw.unkill
 have hkp : ∀ {E : List Ent} {w : World},Wd (fps (Ent.box pb [.slice none 0 0,.slice none 0 0,.int .i64 2,.bool false,.int .i64 0,.slice (some ⟨tb,0,none⟩) 1 1] 52::Ent.vec (some ⟨tb,0,none⟩) 1 1 3 1 [.int .i64 (h : Int)]::Ent.box p [nm,pa,.int .i64 (R : Nat),.slice a bs.length c] 35::fnE a c bs)) (killW (fps (Ent.box pb [.slice none 0 0,.slice none 0 0,.int .i64 2,.bool false,.int .i64 0,.slice (some ⟨tb,0,none⟩) 1 1] 52::Ent.vec (some ⟨tb,0,none⟩) 1 1 3 1 [.int .i64 (h : Int)]::Ent.box p [nm,pa,.int .i64 (R : Nat),.slice a bs.length c] 35::fnE a c bs)) w1) E w→∀ q v,(killW (fps (Ent.box pb [.slice none 0 0,.slice none 0 0,.int .i64 2,.bool false,.int .i64 0,.slice (some ⟨tb,0,none⟩) 1 1] 52::Ent.vec (some ⟨tb,0,none⟩) 1 1 3 1 [.int .i64 (h : Int)]::Ent.box p [nm,pa,.int .i64 (R : Nat),.slice a bs.length c] 35::fnE a c bs)) w1).cell? q = some v→w.cell? q = some v:=fun hw=>hw.killKeep
 have hold : ∀ {b o : Nat} {v : Value} {l : List Value},CellsAt (killW (fps (Ent.box pb [.slice none 0 0,.slice none 0 0,.int .i64 2,.bool false,.int .i64 0,.slice (some ⟨tb,0,none⟩) 1 1] 52::Ent.vec (some ⟨tb,0,none⟩) 1 1 3 1 [.int .i64 (h : Int)]::Ent.box p [nm,pa,.int .i64 (R : Nat),.slice a bs.length c] 35::fnE a c bs)) w1) b o (v::l)→OldIs (fps (Ent.box pb [.slice none 0 0,.slice none 0 0,.int .i64 2,.bool false,.int .i64 0,.slice (some ⟨tb,0,none⟩) 1 1] 52::Ent.vec (some ⟨tb,0,none⟩) 1 1 3 1 [.int .i64 (h : Int)]::Ent.box p [nm,pa,.int .i64 (R : Nat),.slice a bs.length c] 35::fnE a c bs)) b:=fun hc=>killOldIs hc (by simp)
 generalize killW (fps (Ent.box pb [.slice none 0 0,.slice none 0 0,.int .i64 2,.bool false,.int .i64 0,.slice (some ⟨tb,0,none⟩) 1 1] 52::Ent.vec (some ⟨tb,0,none⟩) 1 1 3 1 [.int .i64 (h : Int)]::Ent.box p [nm,pa,.int .i64 (R : Nat),.slice a bs.length c] 35::fnE a c bs)) w1 = wk at *
 generalize fps (Ent.box pb [.slice none 0 0,.slice none 0 0,.int .i64 2,.bool false,.int .i64 0,.slice (some ⟨tb,0,none⟩) 1 1] 52::Ent.vec (some ⟨tb,0,none⟩) 1 1 3 1 [.int .i64 (h : Int)]::Ent.box p [nm,pa,.int .i64 (R : Nat),.slice a bs.length c] 35::fnE a c bs) = SH at *
 have hrow:=aheadL_get hg hnd (by omega : h < bl.length)
 obtain ⟨hanl,_,_,ab,ao,haa,hahel⟩:=hah.at
 have hal : (aheadL bl).length = bl.length:=by unfold aheadL; rw [aheadTo_length]
 obtain ⟨_,hcs,rv,rfl,hrv⟩:=hahel h _ hrow
 have hrv0:=hrv
 obtain ⟨ra,rn,rc,rb,ro,rfl,hrn,_,_,_,hra,hrel⟩:=hrv0
 rw [List.length_map] at hrn
 have had : AddrIs aa ab ao:=⟨haa (ne_of_get hrow)⟩
 have hlt2 : LtIs h an:=⟨by omega⟩
 have hci : CellsIs wk ab (ao + h * 1) _:=⟨hcs⟩
 have hoi:=hold hcs
 have hrn100 : rn ≤ 100:=by
  rw [hrn]
  exact Nat.le_trans (List.length_filter_le _ _) (by rw [List.length_range]; omega)
 obtain ⟨T,hT⟩ : ∃ T,bs[h]? = some T:=⟨_,List.getElem?_eq_getElem hh⟩
 have hTB : blkAt bl h = T.blk:=blkAt_get (by rw [hbl,List.getElem?_map,hT]; rfl)
 refine g_wd (H':=[Ent.box pb [.slice none 0 0,.slice none 0 0,.int .i64 2,.bool false,.int .i64 0,.slice (some ⟨tb,0,none⟩) 1 1] 52,Ent.vec (some ⟨tb,0,none⟩) 1 1 3 1 [.int .i64 (h : Int)],Ent.box p [nm,pa,.int .i64 (R : Nat),.slice a bs.length c] 35]++(Ent.vec a bs.length c 52 6 (bs.flatMap blkC)::Ent.vec T.pa T.ps.length T.pc 86 2 (T.ps.flatMap phiC)::lvE T::tvE T::(T.ps.map phE++(T.xs.map roE++(bs.eraseIdx h).map blkE)))) (fun w hw=>wd_openB hT (X:=[Ent.box pb [.slice none 0 0,.slice none 0 0,.int .i64 2,.bool false,.int .i64 0,.slice (some ⟨tb,0,none⟩) 1 1] 52,Ent.vec (some ⟨tb,0,none⟩) 1 1 3 1 [.int .i64 (h : Int)],Ent.box p [nm,pa,.int .i64 (R : Nat),.slice a bs.length c] 35]) hw) ?_
 simp only [List.cons_append,List.nil_append]
 refine g_vec 3 rfl (by omega) fun vb vo hva=>?_
 rw [hva]
 have hcell : ∀ (q : Nat) v,(blkC T)[q]? = some v→(bs.flatMap blkC)[h * 6 + q]? = some v:=fun q v hv=>flat_at blkC_len bs h T q v hT hv
 have hltn : LtIs h bs.length:=⟨hh⟩
 have hoc : ∀ (X1 X2 X3 : Ent) (Y : List Ent),OwnCell (X1::X2::X3::Ent.vec (some ⟨vb,vo,none⟩) bs.length c 52 6 (bs.flatMap blkC)::Y) vb (vo + h * 6) (.slice T.pa T.ps.length T.pc):=fun _ _ _ _=>⟨fun _ _ _ hw=>hw.vecCell (k:=3) rfl (hcell 0 _ rfl)⟩
 repeat (first|refine g_op rfl ?_|refine g_then ?_|refine g_nil ?_|refine g_region ?_|refine g_seq ?_|refine g_block ?_)
 obtain ⟨n,hn⟩ : ∃ n,n = bs.length:=⟨_,rfl⟩
 have hltn2 : LtIs h n:=⟨by omega⟩
 have hTd:=hbd T (List.mem_of_getElem? hT)
 have hph : ∀ q ∈ T.ps,q.l.length = rn:=fun q hq=>by
  rw [hrn]
  exact ((hf.block h T.blk (by rw [hbl,List.getElem?_map,hT]; rfl)).phis q.phi (List.mem_map.2 ⟨q,hq,rfl⟩)).len
 have hPB : (blkAt bl h).phis = T.ps.map PRow.phi:=by rw [hTB]; rfl
 have hpsl:=hTd.phis
 have holen : (outQ bl h lp).length ≤ 100:=Nat.le_trans (Nat.le_trans (List.length_filter_le _ _) (by rw [← hrn]; exact Nat.le_refl _)) hrn100
 obtain ⟨many,hmany⟩ : ∃ many,many = decide (1 < (outQ bl h lp).length):=⟨_,rfl⟩
 rw [← hn]
 refine g_nilVec 86 2 ?_
 refine g_loop (fun x : List PRow × List PRow × Option Addr × Nat=>x.1.length ≤ T.ps.length∧x.1.map PRow.phi = phisTo bl h lp R x.1.length∧(∀ q ∈ x.1,inI q.dst∧q.l.length ≤ 1000∧∀ v ∈ q.l,inI v.n)∧x.2.1.map PRow.phi = porchTo bl h lp R x.1.length∧(∀ q ∈ x.2.1,inI q.dst∧q.l.length ≤ 1000∧∀ v ∈ q.l,inI v.n)) (fun x=>[(44,.int .i64 x.1.length),(42,.slice T.pa T.ps.length T.pc),(43,.int .i64 T.ps.length),(8,.slice ra rn rc),(7,.pointer (some ⟨pb,0,none⟩)),(6,.int .i64 n),(0,.pointer (some ⟨p,0,none⟩)),(1,.int .i64 h),(2,.slice la ln lc)])
  (fun x=>match x with|(es,qs,qa,qc)=>Ent.box pb [.slice qa qs.length qc,.slice none 0 0,.int .i64 2,.bool false,.int .i64 0,.slice (some ⟨tb,0,none⟩) 1 1] 52::Ent.vec (some ⟨tb,0,none⟩) 1 1 3 1 [.int .i64 (h : Int)]::Ent.box p [nm,pa,.int .i64 (regTo bl h lp R es.length : Nat),.slice (some ⟨vb,vo,none⟩) n c] 35::Ent.vec (some ⟨vb,vo,none⟩) n c 52 6 (bs.flatMap blkC)::Ent.vec T.pa T.ps.length T.pc 86 2 ((es++T.ps.drop es.length).flatMap phiC)::Ent.vec qa qs.length qc 86 2 (qs.flatMap phiC)::lvE T::tvE T::((es++T.ps.drop es.length).map phE++(qs.map phE++(T.xs.map roE++(bs.eraseIdx h).map blkE)))) (fun x=>T.ps.length - x.1.length) ([],[],none,0) ⟨Nat.zero_le _,by unfold phisTo; simp,by simp,by rw [List.length_nil,porchTo_zero]; rfl,by simp⟩ ?_ fun x ⟨hi,hem,heb,hqm,hqb⟩=>?_
 ·simp only [List.length_nil,regTo_zero,List.drop_zero,List.nil_append,List.map_nil,List.flatMap_nil]
  refine g_permH (H1:=Ent.box pb [.slice none 0 0,.slice none 0 0,.int .i64 2,.bool false,.int .i64 0,.slice (some ⟨tb,0,none⟩) 1 1] 52::Ent.vec (some ⟨tb,0,none⟩) 1 1 3 1 [.int .i64 (h : Int)]::Ent.box p [nm,pa,.int .i64 (R : Nat),.slice (some ⟨vb,vo,none⟩) n c] 35::Ent.vec (some ⟨vb,vo,none⟩) n c 52 6 (bs.flatMap blkC)::Ent.vec T.pa T.ps.length T.pc 86 2 (T.ps.flatMap phiC)::Ent.vec none 0 0 86 2 []::lvE T::tvE T::(T.ps.map phE++(T.xs.map roE++(bs.eraseIdx h).map blkE))) (List.perm_iff_count.2 fun e=>by simp only [List.count_append,List.count_cons]; omega) ?_
  exact g_done (by repeat (first|exact trivial|refine ⟨rfl,?_⟩)) (.refl _)
 obtain ⟨es,qs,qa,qc⟩:=x
 simp only at hi hem heb hqm hqb ⊢
 repeat (first|refine g_op rfl ?_|refine g_then ?_|refine g_nil ?_|refine g_region ?_|refine g_seq ?_)
 refine g_cond (fun h1=>?_) (fun h1=>?_)
 case refine_2 =>
  have hge : es.length = T.ps.length:=by have:=h1; simp at this; omega
  have hreg : regTo bl h lp R es.length = layR bl h lp R:=by rw [hge,show T.ps.length = (blkAt bl h).phis.length by rw [hPB,List.length_map],regTo_all]
  have hphall : es.map PRow.phi = T.blk.phis.mapIdx (layPh bl h lp R):=by
   rw [hem,hge,show T.ps.length = (blkAt bl h).phis.length by rw [hPB,List.length_map],phisTo_all,hTB]
  have hqall : qs.map PRow.phi = porchPs bl h lp R:=by rw [hqm,hge,show T.ps.length = (blkAt bl h).phis.length by rw [hPB,List.length_map],porchTo_all]
  rw [hge,List.drop_length,List.append_nil,← hge,hreg]
  obtain ⟨y0,hy0⟩ : ∃ y0,y0 = bs.set h (withPs T es):=⟨_,rfl⟩
  have hy0l : y0.length = n:=by rw [hy0,List.length_set]; exact hn.symm
  have hy0b : y0.map BRow.blk = bkTo bl h lp R []:=by
   rw [bkTo_nil (B:=T.blk) (by rw [hbl,List.getElem?_map,hT]; rfl),hy0,List.map_set,← hbl]
   congr 1
   show (⟨es.map PRow.phi,_,_,_,_⟩ : LBlock) = _
   rw [hphall]
   rfl
  have hy0d : ∀ q ∈ y0,q.Bd:=fun q hq=>by
   rw [hy0] at hq
   rcases List.mem_or_eq_of_mem_set hq with hq|rfl
   ·exact hbd q hq
   ·exact ⟨hTd.kind,hTd.on,by unfold withPs; simp only; omega,heb,hTd.list,hTd.ins,hTd.to⟩
  refine g_wd (H':=Ent.box p [nm,pa,.int .i64 (layR bl h lp R : Nat),.slice (some ⟨vb,vo,none⟩) n c] 35::(Ent.vec (some ⟨vb,vo,none⟩) n c 52 6 (y0.flatMap blkC)::(y0.map blkE++(Ent.box pb [.slice qa qs.length qc,.slice none 0 0,.int .i64 2,.bool false,.int .i64 0,.slice (some ⟨tb,0,none⟩) 1 1] 52::Ent.vec (some ⟨tb,0,none⟩) 1 1 3 1 [.int .i64 (h : Int)]::Ent.vec qa qs.length qc 86 2 (qs.flatMap phiC)::qs.map phE)))) (fun w hw=>?_) ?_
  ·have h3 : Wd SH wk ((Ent.box pb [.slice qa qs.length qc,.slice none 0 0,.int .i64 2,.bool false,.int .i64 0,.slice (some ⟨tb,0,none⟩) 1 1] 52::Ent.vec (some ⟨tb,0,none⟩) 1 1 3 1 [.int .i64 (h : Int)]::Ent.box p [nm,pa,.int .i64 (layR bl h lp R : Nat),.slice (some ⟨vb,vo,none⟩) n c] 35::Ent.vec qa qs.length qc 86 2 (qs.flatMap phiC)::qs.map phE)++(Ent.vec (some ⟨vb,vo,none⟩) n c 52 6 (bs.flatMap blkC)::Ent.vec T.pa es.length T.pc 86 2 (es.flatMap phiC)::lvE T::tvE T::(es.map phE++(T.xs.map roE++(bs.eraseIdx h).map blkE)))) w:=by
    refine hw.perm (List.perm_iff_count.2 fun e=>?_)
    simp only [List.count_append,List.count_cons]
    omega
   have h4:=wd_shut (X:=Ent.box pb [.slice qa qs.length qc,.slice none 0 0,.int .i64 2,.bool false,.int .i64 0,.slice (some ⟨tb,0,none⟩) 1 1] 52::Ent.vec (some ⟨tb,0,none⟩) 1 1 3 1 [.int .i64 (h : Int)]::Ent.box p [nm,pa,.int .i64 (layR bl h lp R : Nat),.slice (some ⟨vb,vo,none⟩) n c] 35::Ent.vec qa qs.length qc 86 2 (qs.flatMap phiC)::qs.map phE) (ps:=es) hT hn hge (by rw [← hge]; exact h3)
   rw [← hy0] at h4
   unfold fnE at h4
   rw [hy0l] at h4
   refine h4.perm (List.perm_iff_count.2 fun e=>?_)
   simp only [List.count_append,List.count_cons]
   omega
  repeat (first|refine g_op rfl ?_|refine g_then ?_|refine g_nil ?_|refine g_region ?_|refine g_seq ?_|refine g_block ?_|refine g_exit ?_|refine g_thenExit ?_|refine g_exitHere ?_)
  refine g_loop (fun x : Nat × List BRow=>x.1 ≤ rn∧x.2.map BRow.blk = bkTo bl h lp R (outTo bl h lp x.1)∧∀ b ∈ x.2,b.Bd) (fun x=>[(123,.int .i64 x.1),(122,.int .i64 rn),(121,.slice ra rn rc),(7,.pointer (some ⟨pb,0,none⟩)),(6,.int .i64 n),(0,.pointer (some ⟨p,0,none⟩)),(1,.int .i64 h),(2,.slice la ln lc)]) (fun x=>Ent.box p [nm,pa,.int .i64 (layR bl h lp R : Nat),.slice (some ⟨vb,vo,none⟩) n c] 35::(Ent.vec (some ⟨vb,vo,none⟩) n c 52 6 (x.2.flatMap blkC)::(x.2.map blkE++(Ent.box pb [.slice qa qs.length qc,.slice none 0 0,.int .i64 2,.bool false,.int .i64 0,.slice (some ⟨tb,0,none⟩) 1 1] 52::Ent.vec (some ⟨tb,0,none⟩) 1 1 3 1 [.int .i64 (h : Int)]::Ent.vec qa qs.length qc 86 2 (qs.flatMap phiC)::qs.map phE)))) (fun x=>rn - x.1) (0,y0) ⟨Nat.zero_le _,by simp only; rw [hy0b]; unfold outTo; simp,hy0d⟩ (g_done (by repeat (first|exact trivial|refine ⟨rfl,?_⟩)) (.refl _)) fun x ⟨hj,hym,hyd⟩=>?_
  obtain ⟨j,ys⟩:=x
  simp only at hj hym hyd ⊢
  have hysl : ys.length = n:=by
   have h3:=congrArg List.length hym
   rw [List.length_map,bkTo_len] at h3
   omega
  repeat (first|refine g_op rfl ?_|refine g_then ?_|refine g_nil ?_|refine g_region ?_|refine g_seq ?_)
  refine g_cond (fun h2=>?_) (fun h2=>?_)
  case refine_2 =>
   obtain rfl : j = rn:=by have:=h2; simp at this; omega
   rw [hrn,outTo_all] at hym
   have hqsl : qs.length ≤ 1000:=by
    have h3:=congrArg List.length hqall
    rw [List.length_map] at h3
    have h4 : (porchPs bl h lp R).length ≤ (blkAt bl h).phis.length:=by unfold porchPs; split <;> simp
    rw [hPB,List.length_map] at h4
    omega
   obtain ⟨NB,hNB⟩ : ∃ NB : BRow,NB = ⟨qa,qc,qs,none,0,[],2,⟨false,0⟩,some ⟨tb,0,none⟩,1,[(h : Int)]⟩:=⟨_,rfl⟩
   have e5 : blkC NB = [.slice qa qs.length qc,.slice none 0 0,.int .i64 2,.bool false,.int .i64 0,.slice (some ⟨tb,0,none⟩) 1 1]:=by rw [hNB]; rfl
   have e6 : blkPs NB = Ent.vec qa qs.length qc 86 2 (qs.flatMap phiC)::Ent.vec none 0 0 89 8 []::Ent.vec (some ⟨tb,0,none⟩) 1 1 3 1 [.int .i64 (h : Int)]::(qs.map phE++[]):=by rw [hNB]; rfl
   have e7 : ys.flatMap blkC++blkC NB = (ys++[NB]).flatMap blkC:=by rw [List.flatMap_append]; simp only [List.flatMap_cons,List.flatMap_nil,List.append_nil]
   have hNBd : NB.Bd:=by
    rw [hNB]
    refine ⟨show inI (2 : Int) from ⟨by omega,by omega⟩,show inI (0 : Int) from ⟨by omega,by omega⟩,hqsl,hqb,by simp,by simp,by simp,fun t ht=>?_⟩
    simp only [List.mem_singleton] at ht
    subst ht
    exact ⟨by omega,by omega⟩
   refine g_permH (H1:=Ent.box pb [.slice qa qs.length qc,.slice none 0 0,.int .i64 2,.bool false,.int .i64 0,.slice (some ⟨tb,0,none⟩) 1 1] 52::Ent.box p [nm,pa,.int .i64 (layR bl h lp R : Nat),.slice (some ⟨vb,vo,none⟩) n c] 35::Ent.vec (some ⟨tb,0,none⟩) 1 1 3 1 [.int .i64 (h : Int)]::Ent.vec (some ⟨vb,vo,none⟩) n c 52 6 (ys.flatMap blkC)::(ys.map blkE++(Ent.vec qa qs.length qc 86 2 (qs.flatMap phiC)::qs.map phE))) (List.perm_iff_count.2 fun e=>by simp only [List.count_append,List.count_cons]; omega) ?_
   have e8:=e7
   rw [e5] at e8
   repeat (first|refine g_then ?_|refine g_exit ?_|refine g_thenExit ?_|refine g_exitHere ?_)
   refine g_drawX [Ent.box pb [.slice qa qs.length qc,.slice none 0 0,.int .i64 2,.bool false,.int .i64 0,.slice (some ⟨tb,0,none⟩) 1 1] 52] (fun _ : Option Addr × Nat=>True) (fun _=>[]) (fun y=>Ent.box pb [.slice qa qs.length qc,.slice none 0 0,.int .i64 2,.bool false,.int .i64 0,.slice (some ⟨tb,0,none⟩) 1 1] 52::Ent.box p [nm,pa,.int .i64 (layR bl h lp R : Nat),.slice y.1 (n + 1) y.2] 35::Ent.vec (some ⟨tb,0,none⟩) 1 1 3 1 [.int .i64 (h : Int)]::Ent.vec y.1 (n + 1) y.2 52 6 ((ys++[NB]).flatMap blkC)::(ys.map blkE++(Ent.vec qa qs.length qc 86 2 (qs.flatMap phiC)::qs.map phE))) mixed (by first|exact .cons_cons _ (List.nil_sublist _)|exact .cons _ (.cons_cons _ (List.nil_sublist _))) ?_ fun y _=>?_
   ·skip
    refine h_take 0 rfl (by decide +kernel) (by first|exact .cons_cons _ (List.nil_sublist _)|exact .cons _ (.cons_cons _ (List.nil_sublist _))) ?_
    refine h_take 1 rfl (by decide +kernel) (by first|exact .cons_cons _ (List.nil_sublist _)|exact .cons _ (.cons_cons _ (List.nil_sublist _))) ?_
    refine h_take 2 rfl (by decide +kernel) (by first|exact .cons_cons _ (List.nil_sublist _)|exact .cons _ (.cons_cons _ (List.nil_sublist _))) ?_
    refine h_take 3 rfl (by decide +kernel) (by first|exact .cons_cons _ (List.nil_sublist _)|exact .cons _ (.cons_cons _ (List.nil_sublist _))) ?_
    refine h_take 5 rfl (by decide +kernel) (by first|exact .cons_cons _ (List.nil_sublist _)|exact .cons _ (.cons_cons _ (List.nil_sublist _))) ?_
    refine h_two 4 6 (by decide +kernel) ?_ ?_
    ·skip
     refine o_op 4 rfl (by first|exact .cons_cons _ (List.nil_sublist _)|exact .cons _ (.cons_cons _ (List.nil_sublist _))) ?_
     refine h_one 6 (by decide +kernel) ?_
     refine o_build1 6 rfl (by decide +kernel) (by first|exact .cons_cons _ (List.nil_sublist _)|exact .cons _ (.cons_cons _ (List.nil_sublist _))) fun nb _=>?_
     refine h_append 7 4 rfl rfl (by decide +kernel) (by omega) (by omega) (by decide +kernel) (fun _=>(by first|exact .cons_cons _ (List.nil_sublist _)|exact .cons _ (.cons_cons _ (List.nil_sublist _)))) fun na nc=>?_
     simp only [List.set_cons_succ,List.set_cons_zero]
     rw [e8]
     refine h_take 8 rfl (by decide +kernel) (by first|exact .cons_cons _ (List.nil_sublist _)|exact .cons _ (.cons_cons _ (List.nil_sublist _))) ?_
     refine h_take 9 rfl (by decide +kernel) (by first|exact .cons_cons _ (List.nil_sublist _)|exact .cons _ (.cons_cons _ (List.nil_sublist _))) ?_
     refine h_one 10 (by decide +kernel) ?_
     refine o_store 10 (by first|exact .cons_cons _ (List.nil_sublist _)|exact .cons _ (.cons_cons _ (List.nil_sublist _))) ?_
     refine h_end (by decide +kernel) ?_
     exact g_mem (na,nc) trivial (by repeat (first|exact trivial|refine ⟨rfl,?_⟩)) (.cons _ (.refl _))
    ·skip
     refine o_build1 6 rfl (by decide +kernel) (by first|exact .cons_cons _ (List.nil_sublist _)|exact .cons _ (.cons_cons _ (List.nil_sublist _))) fun nb _=>?_
     refine h_one 4 (by decide +kernel) ?_
     refine o_op 4 rfl (by first|exact .cons_cons _ (List.nil_sublist _)|exact .cons _ (.cons_cons _ (List.nil_sublist _))) ?_
     refine h_append 7 4 rfl rfl (by decide +kernel) (by omega) (by omega) (by decide +kernel) (fun _=>(by first|exact .cons_cons _ (List.nil_sublist _)|exact .cons _ (.cons_cons _ (List.nil_sublist _)))) fun na nc=>?_
     simp only [List.set_cons_succ,List.set_cons_zero]
     rw [e8]
     refine h_take 8 rfl (by decide +kernel) (by first|exact .cons_cons _ (List.nil_sublist _)|exact .cons _ (.cons_cons _ (List.nil_sublist _))) ?_
     refine h_take 9 rfl (by decide +kernel) (by first|exact .cons_cons _ (List.nil_sublist _)|exact .cons _ (.cons_cons _ (List.nil_sublist _))) ?_
     refine h_one 10 (by decide +kernel) ?_
     refine o_store 10 (by first|exact .cons_cons _ (List.nil_sublist _)|exact .cons _ (.cons_cons _ (List.nil_sublist _))) ?_
     refine h_end (by decide +kernel) ?_
     exact g_mem (na,nc) trivial (by repeat (first|exact trivial|refine ⟨rfl,?_⟩)) (.cons _ (.refl _))
   obtain ⟨na,nc⟩:=y
   simp only
   have hysn : (ys++[NB]).length = n + 1:=by rw [List.length_append,hysl]; rfl
   refine g_end0 rfl fun w hw=>⟨(na,nc,ys++[NB]),rfl,?_,?_,fun b hb=>?_⟩
   ·have h2:=back hw
    rw [hSS] at h2 ⊢
    have h3:=(h2.nilVec 89 8)
    have h4 : Wd (fps (Ent.box p [nm,pa,.int .i64 (R : Nat),.slice a bs.length c] 35::fnE a c bs)) w0 (blkPs NB++(Ent.box p [nm,pa,.int .i64 (layR bl h lp R : Nat),.slice na (n + 1) nc] 35::Ent.vec na (n + 1) nc 52 6 ((ys++[NB]).flatMap blkC)::ys.map blkE)) w:=by
     refine h3.pick ⟨[Ent.box pb [.slice qa qs.length qc,.slice none 0 0,.int .i64 2,.bool false,.int .i64 0,.slice (some ⟨tb,0,none⟩) 1 1] 52,(⟨af,fun w=>SlAt w (.slice aa an ac) 1 (aheadL bl) RowV⟩ : Ent)],List.perm_iff_count.2 fun e=>?_⟩
     rw [e6]
     simp only [List.count_append,List.count_cons,List.count_nil]
     omega
    refine (Wd.join h4).perm (List.perm_iff_count.2 fun e=>?_)
    unfold fnE
    simp only [hysn,List.map_append,List.map_cons,List.map_nil,blkE,List.count_append,List.count_cons,List.count_nil]
    omega
   ·simp only
    rw [List.map_append,hym,← bkTo_all]
    congr 1
    rw [hNB]
    show [(⟨qs.map PRow.phi,[],2,⟨false,0⟩,[(h : Int)]⟩ : LBlock)] = _
    rw [hqall]
    rfl
   ·rcases List.mem_append.1 hb with hb|hb
    ·exact hyd b hb
    ·rw [List.mem_singleton.1 hb]; exact hNBd
  have hjl : j < rn:=by simpa using h2
  obtain ⟨x,hx⟩ : ∃ x,(preds bl h)[j]? = some x:=⟨_,List.getElem?_eq_getElem (by omega)⟩
  have hxi : ((preds bl h).map fun x : Nat=>(x : Int))[j]? = some (x : Int):=by rw [List.getElem?_map,hx]; rfl
  have hxm:=List.mem_of_getElem? hx
  have hxl:=preds_lt _ _ x hxm
  have hadr : AddrIs ra rb ro:=⟨hra (ne_of_get hxi)⟩
  have hltj : LtIs j rn:=⟨hjl⟩
  obtain ⟨_,hcr,rfl,_⟩:=hrel j _ hxi
  have hcir : CellsIs wk rb (ro + j * 1) _:=⟨hcr⟩
  have hoir:=hold hcr
  repeat (first|refine g_op rfl ?_|refine g_then ?_|refine g_nil ?_|refine g_region ?_|refine g_seq ?_|refine g_block ?_|refine g_skip ?_)
  refine g_callV rfl (fun w hw=>contains_c _ lp x w (SlAt.mono (V:=IntV) (w:=wk) (w':=w) (fun _ _ h=>h) (hkp hw) hlk0) ⟨_,_,_,rfl⟩) ?_
  have hsucc:=outTo_succ (lp:=lp) hx
  by_cases hm : (x : Int) ∈ lp
  ·rw [show decide ((x : Int) ∈ lp) = true by simp [hm]]
   rw [if_pos hm,List.append_nil] at hsucc
   repeat (first|refine g_op rfl ?_|refine g_then ?_|refine g_nil ?_|refine g_region ?_|refine g_opS rfl ?_|refine g_inBlock ?_|refine g_skip ?_|refine g_condF ?_|refine g_add rfl (by omega) (by omega) ?_)
   exact g_next (j + 1,ys) ⟨hjl,by simp only; rw [hsucc]; exact hym,hyd⟩ (by simp only; omega) (by repeat (first|exact trivial|refine ⟨rfl,?_⟩)) (.refl _)
  rw [show decide ((x : Int) ∈ lp) = false by simp [hm]]
  rw [if_neg hm] at hsucc
  obtain ⟨C,hC⟩ : ∃ C,ys[x]? = some C:=⟨_,List.getElem?_eq_getElem (by omega)⟩
  have hCd:=hyd C (List.mem_of_getElem? hC)
  have hnot:=outTo_not (lp:=lp) hx
  have hCb : (bkTo bl h lp R (outTo bl h lp j))[x]? = some C.blk:=by rw [← hym,List.getElem?_map,hC]; rfl
  have hCto : C.to = toOf bl x:=by
   have h3:=bkTo_to (h:=h) (lp:=lp) (R:=R) (D:=outTo bl h lp j) hxl
   have h4 : toOf (bkTo bl h lp R (outTo bl h lp j)) x = C.to:=by unfold toOf; rw [hCb]; rfl
   rw [← h4,h3]
   unfold turnTo
   rw [if_neg hnot]
  have hCn : C.to.Nodup:=by rw [hCto]; exact toOf_nodup hnd x
  have hCh : (h : Int) ∈ C.to:=by rw [hCto]; exact (mem_preds.1 hxm).2
  refine g_permH (H1:=blkE C::Ent.box p [nm,pa,.int .i64 (layR bl h lp R : Nat),.slice (some ⟨vb,vo,none⟩) n c] 35::Ent.vec (some ⟨vb,vo,none⟩) n c 52 6 (ys.flatMap blkC)::((ys.eraseIdx x).map blkE++(Ent.box pb [.slice qa qs.length qc,.slice none 0 0,.int .i64 2,.bool false,.int .i64 0,.slice (some ⟨tb,0,none⟩) 1 1] 52::Ent.vec (some ⟨tb,0,none⟩) 1 1 3 1 [.int .i64 (h : Int)]::Ent.vec qa qs.length qc 86 2 (qs.flatMap phiC)::qs.map phE))) (List.perm_iff_count.2 fun e=>by
   have h3:=List.perm_iff_count.1 (map_pull blkE hC) e
   simp only [List.count_append,List.count_cons] at h3 ⊢
   omega) ?_
  refine g_unjoin ?_
  refine g_permH (H1:=toE C::Ent.box p [nm,pa,.int .i64 (layR bl h lp R : Nat),.slice (some ⟨vb,vo,none⟩) n c] 35::Ent.vec (some ⟨vb,vo,none⟩) n c 52 6 (ys.flatMap blkC)::(rbE C++((ys.eraseIdx x).map blkE++(Ent.box pb [.slice qa qs.length qc,.slice none 0 0,.int .i64 2,.bool false,.int .i64 0,.slice (some ⟨tb,0,none⟩) 1 1] 52::Ent.vec (some ⟨tb,0,none⟩) 1 1 3 1 [.int .i64 (h : Int)]::Ent.vec qa qs.length qc 86 2 (qs.flatMap phiC)::qs.map phE)))) (List.perm_iff_count.2 fun e=>by
   have h3:=List.perm_iff_count.1 (blkPs_to C) e
   simp only [List.count_append,List.count_cons] at h3 ⊢
   omega) ?_
  unfold toE
  refine g_vec 0 rfl (List.length_pos_of_mem hCh) fun ub uz hua=>?_
  have hltx : LtIs x n:=⟨by omega⟩
  have hocx : OwnCell (Ent.vec C.ta C.to.length C.tc 3 1 (C.to.map (.int .i64))::Ent.box p [nm,pa,.int .i64 (layR bl h lp R : Nat),.slice (some ⟨vb,vo,none⟩) n c] 35::Ent.vec (some ⟨vb,vo,none⟩) n c 52 6 (ys.flatMap blkC)::(rbE C++((ys.eraseIdx x).map blkE++(Ent.box pb [.slice qa qs.length qc,.slice none 0 0,.int .i64 2,.bool false,.int .i64 0,.slice (some ⟨tb,0,none⟩) 1 1] 52::Ent.vec (some ⟨tb,0,none⟩) 1 1 3 1 [.int .i64 (h : Int)]::Ent.vec qa qs.length qc 86 2 (qs.flatMap phiC)::qs.map phE)))) vb (vo + x * 6 + 5) (.slice C.ta C.to.length C.tc):=⟨fun _ _ _ hw=>by
   have h5:=hw.vecCell (k:=2) rfl (flat_at blkC_len ys x C 5 _ hC rfl)
   rwa [← Nat.add_assoc] at h5⟩
  rw [hua] at hocx ⊢
  have hix:=List.idxOf_lt_length_of_mem hCh
  have hli : LtIs (C.to.idxOf (h : Int)) C.to.length:=⟨hix⟩
  have hel : ElAt C.to (C.to.idxOf (h : Int)) (h : Int):=⟨by rw [List.getElem?_eq_getElem hix,List.getElem_idxOf hix]⟩
  repeat (first|refine g_op rfl ?_|refine g_then ?_|refine g_nil ?_|refine g_region ?_|refine g_seq ?_|refine g_condT ?_)
  refine g_callV rfl (fun w hw=>indexInt_c _ C.to h w hCh ?_) ?_
  ·refine hw.slAt (k:=0) rfl rfl (by have:=hCd.to.1; omega) fun i x hx=>⟨[.int .i64 x],fun j v hj=>?_,rfl,hCd.to.2 x (List.mem_of_getElem? hx)⟩
   match j,hj with
   | 0,hj=>simpa [hx] using hj
  repeat (first|refine g_op rfl ?_|refine g_then ?_|refine g_nil ?_|refine g_region ?_|refine g_opS rfl ?_|refine g_inBlock ?_|refine g_add rfl (by omega) (by omega) ?_|refine g_storeV ?_)
  obtain ⟨C',hC'⟩ : ∃ C' : BRow,C' = { C with to:=C.to.set (C.to.idxOf (h : Int)) (n : Int) }:=⟨_,rfl⟩
  have hcC : blkC C' = blkC C:=by rw [hC']; simp only [blkC,List.length_set]
  have hto' : C'.to = C.to.map fun t=>if t = (h : Int) then (bl.length : Int) else t:=by
   rw [hC']
   simp only
   rw [set_turn hCn hCh,show (n : Int) = (bl.length : Int) by omega]
  obtain ⟨y2,hy2⟩ : ∃ y2,y2 = ys.set x C':=⟨_,rfl⟩
  have hy2f : y2.flatMap blkC = ys.flatMap blkC:=by rw [hy2]; exact flatMap_set hC hcC
  refine g_wd (H':=Ent.box p [nm,pa,.int .i64 (layR bl h lp R : Nat),.slice (some ⟨vb,vo,none⟩) n c] 35::(Ent.vec (some ⟨vb,vo,none⟩) n c 52 6 (y2.flatMap blkC)::(y2.map blkE++(Ent.box pb [.slice qa qs.length qc,.slice none 0 0,.int .i64 2,.bool false,.int .i64 0,.slice (some ⟨tb,0,none⟩) 1 1] 52::Ent.vec (some ⟨tb,0,none⟩) 1 1 3 1 [.int .i64 (h : Int)]::Ent.vec qa qs.length qc 86 2 (qs.flatMap phiC)::qs.map phE)))) (fun w hw=>?_) ?_
  ·have e1 : toE C' = Ent.vec (some ⟨ub,uz,none⟩) C.to.length C.tc 3 1 ((C.to.set (C.to.idxOf (h : Int)) (n : Int)).map (.int .i64)):=by
    rw [hC']; simp only [toE,List.length_set,hua]
   have e2 : rbE C' = rbE C:=by rw [hC']; rfl
   have h3 : Wd SH wk (blkPs C'++(Ent.box p [nm,pa,.int .i64 (layR bl h lp R : Nat),.slice (some ⟨vb,vo,none⟩) n c] 35::Ent.vec (some ⟨vb,vo,none⟩) n c 52 6 (ys.flatMap blkC)::((ys.eraseIdx x).map blkE++(Ent.box pb [.slice qa qs.length qc,.slice none 0 0,.int .i64 2,.bool false,.int .i64 0,.slice (some ⟨tb,0,none⟩) 1 1] 52::Ent.vec (some ⟨tb,0,none⟩) 1 1 3 1 [.int .i64 (h : Int)]::Ent.vec qa qs.length qc 86 2 (qs.flatMap phiC)::qs.map phE)))) w:=by
    refine hw.perm (List.perm_iff_count.2 fun e=>?_)
    have h4:=List.perm_iff_count.1 (blkPs_to C') e
    rw [e1,e2] at h4
    simp only [List.count_append,List.count_cons] at h4 ⊢
    omega
   refine (Wd.join h3).perm (List.perm_iff_count.2 fun e=>?_)
   have h5:=map_pull blkE (l:=y2) (k:=x) (x:=C') (by rw [hy2]; exact List.getElem?_set_self (by omega))
   rw [show y2.eraseIdx x = ys.eraseIdx x by rw [hy2]; exact List.eraseIdx_set_eq] at h5
   have h6:=List.perm_iff_count.1 h5 e
   rw [hy2f]
   simp only [List.count_append,List.count_cons,blkE] at h6 ⊢
   omega
  refine g_next (j + 1,y2) ⟨hjl,?_,fun q hq=>?_⟩ (by simp only; omega) (by repeat (first|exact trivial|refine ⟨rfl,?_⟩)) (.refl _)
  ·simp only
   rw [hsucc,hy2,List.map_set,hym,← bkTo_add hnot hCb]
   congr 1
   rw [hC'] at hto' ⊢
   simp only at hto'
   show (⟨_,_,_,_,C.to.set _ _⟩ : LBlock) = _
   rw [hto']
   rfl
  ·rw [hy2] at hq
   rcases List.mem_or_eq_of_mem_set hq with hq|rfl
   ·exact hyd q hq
   ·rw [hC']
    refine ⟨hCd.kind,hCd.on,hCd.phis,hCd.phi,hCd.list,hCd.ins,by simp only [List.length_set]; exact hCd.to.1,fun t ht=>?_⟩
    rcases List.mem_or_eq_of_mem_set ht with h|rfl
    ·exact hCd.to.2 t h
    ·exact ⟨by omega,by omega⟩
 have hlt : es.length < T.ps.length:=by simpa using h1
 generalize hiL : es.length = i at *
 obtain ⟨q,hq⟩ : ∃ q,T.ps[i]? = some q:=⟨_,List.getElem?_eq_getElem hlt⟩
 have hqm':=List.mem_of_getElem? hq
 have hql:=hph q hqm'
 obtain ⟨hqd,hqb',hqv⟩:=hTd.phi q hqm'
 have hphi : (blkAt bl h).phis[i]? = some q.phi:=by rw [hPB,List.getElem?_map,hq]; rfl
 have hsrcl : q.phi.src.length = (preds bl h).length:=by show q.l.length = _; omega
 obtain ⟨pd,pla,plc,pl⟩:=q
 simp only at hql hqd hqb' hqv
 have hget : (es++T.ps.drop i)[i]? = some (⟨pd,pla,plc,pl⟩ : PRow):=by
  rw [List.getElem?_append_right (by omega),hiL,Nat.sub_self,List.getElem?_drop,Nat.add_zero]; exact hq
 have hdr : T.ps.drop i = (⟨pd,pla,plc,pl⟩ : PRow)::T.ps.drop (i + 1):=by rw [List.drop_eq_getElem_cons hlt,(List.getElem?_eq_some_iff.1 hq).2]
 refine g_vec 4 rfl (by omega) fun zb zo hza=>?_
 rw [hza] at hoc ⊢
 have hlj : LtIs i T.ps.length:=⟨hlt⟩
 refine g_permH (H1:=phE ⟨pd,pla,plc,pl⟩::Ent.box pb [.slice qa qs.length qc,.slice none 0 0,.int .i64 2,.bool false,.int .i64 0,.slice (some ⟨tb,0,none⟩) 1 1] 52::Ent.vec (some ⟨tb,0,none⟩) 1 1 3 1 [.int .i64 (h : Int)]::Ent.box p [nm,pa,.int .i64 (regTo bl h lp R i : Nat),.slice (some ⟨vb,vo,none⟩) n c] 35::Ent.vec (some ⟨vb,vo,none⟩) n c 52 6 (bs.flatMap blkC)::Ent.vec (some ⟨zb,zo,none⟩) T.ps.length T.pc 86 2 ((es++T.ps.drop i).flatMap phiC)::Ent.vec qa qs.length qc 86 2 (qs.flatMap phiC)::lvE T::tvE T::((es++T.ps.drop (i + 1)).map phE++(qs.map phE++(T.xs.map roE++(bs.eraseIdx h).map blkE)))) ?_ ?_
 ·rw [hdr]
  simp only [List.map_append,List.map_cons]
  exact List.perm_iff_count.2 fun e=>by simp only [List.count_append,List.count_cons]; omega
 simp only [phE]
 have hob : ∀ X : Ent,OwnAgg (X::Ent.box pb [.slice qa qs.length qc,.slice none 0 0,.int .i64 2,.bool false,.int .i64 0,.slice (some ⟨tb,0,none⟩) 1 1] 52::Ent.vec (some ⟨tb,0,none⟩) 1 1 3 1 [.int .i64 (h : Int)]::Ent.box p [nm,pa,.int .i64 (regTo bl h lp R i : Nat),.slice (some ⟨vb,vo,none⟩) n c] 35::Ent.vec (some ⟨vb,vo,none⟩) n c 52 6 (bs.flatMap blkC)::Ent.vec (some ⟨zb,zo,none⟩) T.ps.length T.pc 86 2 ((es++T.ps.drop i).flatMap phiC)::Ent.vec qa qs.length qc 86 2 (qs.flatMap phiC)::lvE T::tvE T::((es++T.ps.drop (i + 1)).map phE++(qs.map phE++(T.xs.map roE++(bs.eraseIdx h).map blkE)))) zb (zo + i * 2) _:=fun X=>ownAgg (k:=5) rfl phiC_len hget
 simp only [phiC] at hob
 repeat (first|refine g_op rfl ?_|refine g_then ?_|refine g_nil ?_|refine g_region ?_|refine g_seq ?_|refine g_alloc rfl fun _ _=>?_|refine g_storeAgg ?_|refine g_block ?_|refine g_skip ?_)
 rename_i p10 _
 obtain ⟨row,hrowD⟩ : ∃ row,row = (preds bl h).map fun x : Nat=>(x : Int):=⟨_,rfl⟩
 obtain ⟨inM,hinM⟩ : ∃ inM : Int→Bool,inM = fun x=>decide (x ∈ lp):=⟨_,rfl⟩
 obtain ⟨ouM,houM⟩ : ∃ ouM : Int→Bool,ouM = fun x=>decide (x ∉ lp):=⟨_,rfl⟩
 have hrowl : row.length = rn:=by rw [hrowD,List.length_map]; omega
 refine g_nilVec 48 2 ?_
 refine g_nilVec 48 2 ?_
 refine g_loop (fun x : Nat × (Option Addr × Nat) × (Option Addr × Nat)=>x.1 ≤ rn) (fun x=>[(51,.int .i64 x.1),(12,.slice x.2.1.1 (pickV inM (row.take x.1) pl).length x.2.1.2),(11,.slice x.2.2.1 (pickV ouM (row.take x.1) pl).length x.2.2.2),(49,.slice ra rn rc),(50,.int .i64 rn),(44,.int .i64 i),(9,.int .i64 i),(10,.pointer (some ⟨p10,0,none⟩)),(42,.slice (some ⟨zb,zo,none⟩) T.ps.length T.pc),(43,.int .i64 T.ps.length),(8,.slice ra rn rc),(7,.pointer (some ⟨pb,0,none⟩)),(6,.int .i64 n),(0,.pointer (some ⟨p,0,none⟩)),(1,.int .i64 h),(2,.slice la ln lc)])
  (fun x=>Ent.vec x.2.1.1 (pickV inM (row.take x.1) pl).length x.2.1.2 48 2 ((pickV inM (row.take x.1) pl).flatMap vlC)::Ent.vec x.2.2.1 (pickV ouM (row.take x.1) pl).length x.2.2.2 48 2 ((pickV ouM (row.take x.1) pl).flatMap vlC)::Ent.box p10 [.int .i64 pd,.slice pla pl.length plc] 86::Ent.vec pla pl.length plc 48 2 (pl.flatMap vlC)::Ent.box pb [.slice qa qs.length qc,.slice none 0 0,.int .i64 2,.bool false,.int .i64 0,.slice (some ⟨tb,0,none⟩) 1 1] 52::Ent.vec (some ⟨tb,0,none⟩) 1 1 3 1 [.int .i64 (h : Int)]::Ent.box p [nm,pa,.int .i64 (regTo bl h lp R i : Nat),.slice (some ⟨vb,vo,none⟩) n c] 35::Ent.vec (some ⟨vb,vo,none⟩) n c 52 6 (bs.flatMap blkC)::Ent.vec (some ⟨zb,zo,none⟩) T.ps.length T.pc 86 2 ((es++T.ps.drop i).flatMap phiC)::Ent.vec qa qs.length qc 86 2 (qs.flatMap phiC)::lvE T::tvE T::((es++T.ps.drop (i + 1)).map phE++(qs.map phE++(T.xs.map roE++(bs.eraseIdx h).map blkE)))) (fun x=>rn - x.1) (0,(none,0),(none,0)) (Nat.zero_le _) (g_done (by simp only [List.take_zero]; exact (by repeat (first|exact trivial|refine ⟨rfl,?_⟩))) (by simp only [List.take_zero]; exact List.Sublist.refl _)) fun x hj=>?_
 obtain ⟨j,⟨ia,ic⟩,⟨oa,oc⟩⟩:=x
 simp only at hj ⊢
 repeat (first|refine g_op rfl ?_|refine g_then ?_|refine g_nil ?_|refine g_region ?_|refine g_seq ?_)
 refine g_cond (fun h2=>?_) (fun h2=>?_)
 ·have hjl : j < rn:=by simpa using h2
  obtain ⟨x,hx⟩ : ∃ x,row[j]? = some x:=⟨_,List.getElem?_eq_getElem (by omega)⟩
  obtain ⟨pv,hpv⟩ : ∃ v,pl[j]? = some v:=⟨_,List.getElem?_eq_getElem (by omega)⟩
  have hadr : AddrIs ra rb ro:=⟨hra (ne_of_get (by rw [← hrowD]; exact hx))⟩
  have hltj : LtIs j rn:=⟨hjl⟩
  obtain ⟨_,hcr,rfl,_⟩:=hrel j x (by rw [← hrowD]; exact hx)
  have hcir : CellsIs wk rb (ro + j * 1) _:=⟨hcr⟩
  have hoir:=hold hcr
  refine g_vec 3 rfl (by omega) fun yb yo hya=>?_
  subst hya
  have hlk : LtIs j pl.length:=⟨by omega⟩
  have hov : ∀ X1 X2 X3 : Ent,OwnAgg (X1::X2::X3::Ent.vec (some ⟨yb,yo,none⟩) pl.length plc 48 2 (pl.flatMap vlC)::Ent.box pb [.slice qa qs.length qc,.slice none 0 0,.int .i64 2,.bool false,.int .i64 0,.slice (some ⟨tb,0,none⟩) 1 1] 52::Ent.vec (some ⟨tb,0,none⟩) 1 1 3 1 [.int .i64 (h : Int)]::Ent.box p [nm,pa,.int .i64 (regTo bl h lp R i : Nat),.slice (some ⟨vb,vo,none⟩) n c] 35::Ent.vec (some ⟨vb,vo,none⟩) n c 52 6 (bs.flatMap blkC)::Ent.vec (some ⟨zb,zo,none⟩) T.ps.length T.pc 86 2 ((es++T.ps.drop i).flatMap phiC)::Ent.vec qa qs.length qc 86 2 (qs.flatMap phiC)::lvE T::tvE T::((es++T.ps.drop (i + 1)).map phE++(qs.map phE++(T.xs.map roE++(bs.eraseIdx h).map blkE)))) yb (yo + j * 2) _:=fun _ _ _=>ownAgg (k:=3) rfl vlC_len hpv
  simp only [vlC] at hov
  repeat (first|refine g_op rfl ?_|refine g_then ?_|refine g_nil ?_|refine g_region ?_|refine g_seq ?_|refine g_block ?_|refine g_skip ?_)
  refine g_callV rfl (fun w hw=>contains_c _ lp x w (SlAt.mono (V:=IntV) (w:=wk) (w':=w) (fun _ _ h=>h) (hkp hw) hlk0) ⟨_,_,_,rfl⟩) ?_
  have hi1:=pickV_succ (m:=inM) hx hpv
  have ho1:=pickV_succ (m:=ouM) hx hpv
  by_cases hm : x ∈ lp
  ·rw [show decide (x ∈ lp) = true by simp [hm]]
   have e1 : inM x = true:=by rw [hinM]; simp [hm]
   have e2 : ouM x = false:=by rw [houM]; simp [hm]
   rw [e1,if_pos rfl] at hi1
   rw [e2,if_neg (by simp),List.append_nil] at ho1
   have e3 : (pickV inM (row.take (j + 1)) pl).length = (pickV inM (row.take j) pl).length + 1:=by rw [hi1,List.length_append]; rfl
   have e4 : (pickV inM (row.take (j + 1)) pl).flatMap vlC = (pickV inM (row.take j) pl).flatMap vlC++[.bool pv.reg,.int .i64 pv.n]:=by rw [hi1,List.flatMap_append]; rfl
   have hle:=pickV_le inM (row.take j) pl
   rw [List.length_take] at hle
   repeat (first|refine g_op rfl ?_|refine g_then ?_|refine g_nil ?_|refine g_region ?_|refine g_condT ?_|refine g_build1 rfl rfl fun _ _=>?_)
   refine g_appendAt 1 rfl rfl (by decide +kernel) (by omega) (by omega) fun na nc=>?_
   simp only [List.set_cons_succ,List.set_cons_zero]
   rw [← e3,← e4,← ho1]
   repeat (first|refine g_then ?_|refine g_nil ?_|refine g_region ?_|refine g_opS rfl ?_|refine g_inBlock ?_|refine g_add rfl (by omega) (by omega) ?_)
   exact g_next (j + 1,(na,nc),(oa,oc)) hjl (by simp only; omega) (by repeat (first|exact trivial|refine ⟨rfl,?_⟩)) (.cons _ (.refl _))
  ·rw [show decide (x ∈ lp) = false by simp [hm]]
   have e1 : inM x = false:=by rw [hinM]; simp [hm]
   have e2 : ouM x = true:=by rw [houM]; simp [hm]
   rw [e2,if_pos rfl] at ho1
   rw [e1,if_neg (by simp),List.append_nil] at hi1
   have e3 : (pickV ouM (row.take (j + 1)) pl).length = (pickV ouM (row.take j) pl).length + 1:=by rw [ho1,List.length_append]; rfl
   have e4 : (pickV ouM (row.take (j + 1)) pl).flatMap vlC = (pickV ouM (row.take j) pl).flatMap vlC++[.bool pv.reg,.int .i64 pv.n]:=by rw [ho1,List.flatMap_append]; rfl
   have hle:=pickV_le ouM (row.take j) pl
   rw [List.length_take] at hle
   repeat (first|refine g_op rfl ?_|refine g_then ?_|refine g_nil ?_|refine g_region ?_|refine g_condF ?_|refine g_build1 rfl rfl fun _ _=>?_)
   refine g_appendAt 2 rfl rfl (by decide +kernel) (by omega) (by omega) fun na nc=>?_
   simp only [List.set_cons_succ,List.set_cons_zero]
   rw [← e3,← e4,← hi1]
   repeat (first|refine g_then ?_|refine g_nil ?_|refine g_region ?_|refine g_opS rfl ?_|refine g_inBlock ?_|refine g_add rfl (by omega) (by omega) ?_)
   exact g_next (j + 1,(ia,ic),(na,nc)) hjl (by simp only; omega) (by repeat (first|exact trivial|refine ⟨rfl,?_⟩)) (.cons _ (.refl _))
 obtain rfl : j = rn:=by have:=h2; simp at this; omega
 obtain ⟨il,hil⟩ : ∃ il,il = (inQ bl h lp).map (srcAt bl h ⟨pd,pl⟩):=⟨_,rfl⟩
 obtain ⟨ol,hol⟩ : ∃ ol,ol = (outQ bl h lp).map (srcAt bl h ⟨pd,pl⟩):=⟨_,rfl⟩
 have hI : pickV inM (row.take j) pl = il:=by
  rw [List.take_of_length_le (by omega),hil,hinM,hrowD]
  exact pickV_in (p:=⟨pd,pl⟩) hsrcl
 have hO : pickV ouM (row.take j) pl = ol:=by
  rw [List.take_of_length_le (by omega),hol,houM,hrowD]
  exact pickV_out (p:=⟨pd,pl⟩) hsrcl
 have hIb : il.length ≤ j∧∀ v ∈ il,inI v.n:=by
  rw [← hI]
  refine ⟨?_,fun v hv=>hqv v (pickV_mem hv)⟩
  have:=pickV_le inM (row.take j) pl
  rw [List.length_take] at this
  omega
 have hOb : ol.length ≤ j∧∀ v ∈ ol,inI v.n:=by
  rw [← hO]
  refine ⟨?_,fun v hv=>hqv v (pickV_mem hv)⟩
  have:=pickV_le ouM (row.take j) pl
  rw [List.length_take] at this
  omega
 rw [hI,hO]
 have holl : ol.length = (outQ bl h lp).length:=by rw [hol,List.length_map]
 have hol0 : 0 < ol.length:=by rw [holl]; exact List.length_pos_iff.2 ho
 obtain ⟨v0,hv0⟩ : ∃ v,ol[0]? = some v:=⟨_,List.getElem?_eq_getElem hol0⟩
 refine g_vec 1 rfl (by omega) fun ob oo hoa=>?_
 subst hoa
 have hl0 : LtIs 0 ol.length:=⟨hol0⟩
 have hov0 : ∀ X1 : Ent,∀ Y,OwnAgg (X1::Ent.vec (some ⟨ob,oo,none⟩) ol.length oc 48 2 (ol.flatMap vlC)::Y) ob (oo + 0 * 2) _:=fun _ _=>ownAgg (k:=1) rfl vlC_len hv0
 simp only [vlC] at hov0
 repeat (first|refine g_op rfl ?_|refine g_then ?_|refine g_nil ?_|refine g_region ?_|refine g_seq ?_|refine g_alloc rfl fun _ _=>?_|refine g_storeAgg ?_|refine g_exit ?_|refine g_thenExit ?_|refine g_exitHere ?_)
 rename_i p15 _
 have hN : (preds bl h).length = j:=hrn.symm
 have hR0 : regTo bl h lp R i ≤ R + i:=by unfold regTo; split <;> omega
 obtain ⟨vv,hvv⟩ : ∃ vv,vv = layV bl h lp R i ⟨pd,pl⟩:=⟨_,rfl⟩
 by_cases hmn : 1 < (outQ bl h lp).length
 rotate_left
 have hone : (outQ bl h lp).length = 1:=by rw [← holl] at hmn ⊢; omega
 rw [show decide ((1 : Int) < (ol.length : Int)) = false by simp; omega]
 repeat (first|refine g_then ?_|refine g_skip ?_|refine g_condF ?_)
 have hvx : vv = v0:=by
  rw [hvv]
  unfold layV
  rw [if_neg hmn]
  rw [hol,List.getElem?_map] at hv0
  obtain ⟨z,hz,rfl⟩:=Option.map_eq_some_iff.1 hv0
  rw [List.getD_eq_getElem?_getD,hz]
  rfl
 have hvi : inI vv.n:=by rw [hvx]; exact hOb.2 _ (List.mem_of_getElem? hv0)
 have hqn : qs.map PRow.phi = porchTo bl h lp R (i + 1):=by rw [porchTo_succ hphi,if_neg hmn,List.append_nil,hqm]
 have hqnb:=hqb
 have hrt2 : regTo bl h lp R (i + 1) = regTo bl h lp R i:=by unfold regTo; rw [if_neg hmn,if_neg hmn]
 refine g_wd (H':=Ent.box p15 [.bool vv.reg,.int .i64 vv.n] 48::Ent.vec ia il.length ic 48 2 (il.flatMap vlC)::Ent.box pb [.slice qa qs.length qc,.slice none 0 0,.int .i64 2,.bool false,.int .i64 0,.slice (some ⟨tb,0,none⟩) 1 1] 52::Ent.vec (some ⟨tb,0,none⟩) 1 1 3 1 [.int .i64 (h : Int)]::Ent.box p [nm,pa,.int .i64 (regTo bl h lp R (i + 1) : Nat),.slice (some ⟨vb,vo,none⟩) n c] 35::Ent.vec (some ⟨vb,vo,none⟩) n c 52 6 (bs.flatMap blkC)::Ent.vec (some ⟨zb,zo,none⟩) T.ps.length T.pc 86 2 ((es++T.ps.drop i).flatMap phiC)::Ent.vec qa qs.length qc 86 2 (qs.flatMap phiC)::lvE T::tvE T::((es++T.ps.drop (i + 1)).map phE++(qs.map phE++(T.xs.map roE++(bs.eraseIdx h).map blkE)))) (fun w hw=>?_) ?_
 ·rw [hvx,hrt2]
  refine hw.pick ⟨[Ent.vec (some ⟨ob,oo,none⟩) ol.length oc 48 2 (ol.flatMap vlC),Ent.box p10 [.int .i64 pd,.slice pla pl.length plc] 86,Ent.vec pla pl.length plc 48 2 (pl.flatMap vlC)],List.perm_iff_count.2 fun e=>?_⟩
  simp only [List.count_append,List.count_cons,List.count_nil]
  omega
 generalize qs = qs2 at *
 generalize qa = na at *
 generalize qc = nc at *
 refine g_fix (L':=[(15,.pointer (some ⟨p15,0,none⟩)),(12,.slice ia il.length ic),(9,.int .i64 i),(44,.int .i64 i),(42,.slice (some ⟨zb,zo,none⟩) T.ps.length T.pc),(43,.int .i64 T.ps.length),(8,.slice ra j rc),(7,.pointer (some ⟨pb,0,none⟩)),(6,.int .i64 n),(0,.pointer (some ⟨p,0,none⟩)),(1,.int .i64 h),(2,.slice la ln lc)]) (by repeat (first|exact trivial|refine ⟨rfl,?_⟩)) (.refl _) ?_
 rotate_left
 have hrt : regTo bl h lp R i = R + i:=by unfold regTo; rw [if_pos hmn]
 rw [show decide ((1 : Int) < (ol.length : Int)) = true by simp; omega]
 refine g_permH (H1:=Ent.box p [nm,pa,.int .i64 (regTo bl h lp R i : Nat),.slice (some ⟨vb,vo,none⟩) n c] 35::Ent.box p15 [.bool v0.reg,.int .i64 v0.n] 48::Ent.vec ia il.length ic 48 2 (il.flatMap vlC)::Ent.vec (some ⟨ob,oo,none⟩) ol.length oc 48 2 (ol.flatMap vlC)::Ent.box p10 [.int .i64 pd,.slice pla pl.length plc] 86::Ent.vec pla pl.length plc 48 2 (pl.flatMap vlC)::Ent.box pb [.slice qa qs.length qc,.slice none 0 0,.int .i64 2,.bool false,.int .i64 0,.slice (some ⟨tb,0,none⟩) 1 1] 52::Ent.vec (some ⟨tb,0,none⟩) 1 1 3 1 [.int .i64 (h : Int)]::Ent.vec (some ⟨vb,vo,none⟩) n c 52 6 (bs.flatMap blkC)::Ent.vec (some ⟨zb,zo,none⟩) T.ps.length T.pc 86 2 ((es++T.ps.drop i).flatMap phiC)::Ent.vec qa qs.length qc 86 2 (qs.flatMap phiC)::lvE T::tvE T::((es++T.ps.drop (i + 1)).map phE++(qs.map phE++(T.xs.map roE++(bs.eraseIdx h).map blkE)))) (List.perm_iff_count.2 fun e=>by simp only [List.count_append,List.count_cons]; omega) ?_
 rw [hrt]
 repeat (first|refine g_op rfl ?_|refine g_then ?_|refine g_nil ?_|refine g_region ?_|refine g_seq ?_|refine g_storeAgg ?_|refine g_condT ?_)
 obtain ⟨nq,hnq⟩ : ∃ nq : PRow,nq = ⟨((R + i : Nat) : Int),some ⟨ob,oo,none⟩,oc,ol⟩:=⟨_,rfl⟩
 have hqsl : qs.length ≤ 1000:=by
  have h3:=congrArg List.length hqm
  rw [List.length_map,porchTo_len (by rw [hPB,List.length_map]; omega),if_pos hmn] at h3
  omega
 have enq : qs.flatMap phiC++[.int .i64 ((R + i : Nat) : Int),.slice (some ⟨ob,oo,none⟩) ol.length oc] = (qs++[nq]).flatMap phiC:=by rw [List.flatMap_append,hnq]; rfl
 have enl : qs.length + 1 = (qs++[nq]).length:=by rw [List.length_append]; rfl
 refine g_drawX [Ent.box p [nm,pa,.int .i64 (R + i : Nat),.slice (some ⟨vb,vo,none⟩) n c] 35] (fun _ : Option Addr × Nat=>True) (fun _=>[(15,.pointer (some ⟨p15,0,none⟩)),(12,.slice ia il.length ic),(9,.int .i64 i),(44,.int .i64 i),(42,.slice (some ⟨zb,zo,none⟩) T.ps.length T.pc),(43,.int .i64 T.ps.length),(8,.slice ra j rc),(7,.pointer (some ⟨pb,0,none⟩)),(6,.int .i64 n),(0,.pointer (some ⟨p,0,none⟩)),(1,.int .i64 h),(2,.slice la ln lc)]) (fun y=>Ent.box p [nm,pa,.int .i64 (R + i : Nat),.slice (some ⟨vb,vo,none⟩) n c] 35::Ent.box p15 [.bool true,.int .i64 (R + i : Nat)] 48::Ent.vec ia il.length ic 48 2 (il.flatMap vlC)::Ent.vec (some ⟨ob,oo,none⟩) ol.length oc 48 2 (ol.flatMap vlC)::Ent.box p10 [.int .i64 pd,.slice pla pl.length plc] 86::Ent.vec pla pl.length plc 48 2 (pl.flatMap vlC)::Ent.box pb [.slice y.1 (qs++[nq]).length y.2,.slice none 0 0,.int .i64 2,.bool false,.int .i64 0,.slice (some ⟨tb,0,none⟩) 1 1] 52::Ent.vec (some ⟨tb,0,none⟩) 1 1 3 1 [.int .i64 (h : Int)]::Ent.vec (some ⟨vb,vo,none⟩) n c 52 6 (bs.flatMap blkC)::Ent.vec (some ⟨zb,zo,none⟩) T.ps.length T.pc 86 2 ((es++T.ps.drop i).flatMap phiC)::Ent.vec y.1 (qs++[nq]).length y.2 86 2 ((qs++[nq]).flatMap phiC)::lvE T::tvE T::((es++T.ps.drop (i + 1)).map phE++(qs.map phE++(T.xs.map roE++(bs.eraseIdx h).map blkE)))) mixed (by first|exact .cons_cons _ (List.nil_sublist _)|exact .cons _ (.cons_cons _ (List.nil_sublist _))) ?_ fun y _=>?_
 ·skip
  refine h_take 0 rfl (by decide +kernel) (by first|exact .cons_cons _ (List.nil_sublist _)|exact .cons _ (.cons_cons _ (List.nil_sublist _))) ?_
  refine h_take 2 rfl (by decide +kernel) (by first|exact .cons_cons _ (List.nil_sublist _)|exact .cons _ (.cons_cons _ (List.nil_sublist _))) ?_
  refine h_take 3 rfl (by decide +kernel) (by first|exact .cons_cons _ (List.nil_sublist _)|exact .cons _ (.cons_cons _ (List.nil_sublist _))) ?_
  refine h_take 4 rfl (by decide +kernel) (by first|exact .cons_cons _ (List.nil_sublist _)|exact .cons _ (.cons_cons _ (List.nil_sublist _))) ?_
  refine h_take 5 rfl (by decide +kernel) (by first|exact .cons_cons _ (List.nil_sublist _)|exact .cons _ (.cons_cons _ (List.nil_sublist _))) ?_
  refine h_take 6 rfl (by decide +kernel) (by first|exact .cons_cons _ (List.nil_sublist _)|exact .cons _ (.cons_cons _ (List.nil_sublist _))) ?_
  refine h_take 7 rfl (by decide +kernel) (by first|exact .cons_cons _ (List.nil_sublist _)|exact .cons _ (.cons_cons _ (List.nil_sublist _))) ?_
  refine h_two 1 8 (by decide +kernel) ?_ ?_
  ·skip
   refine o_op 1 rfl (by first|exact .cons_cons _ (List.nil_sublist _)|exact .cons _ (.cons_cons _ (List.nil_sublist _))) ?_
   refine h_one 8 (by decide +kernel) ?_
   refine o_build1 8 rfl (by decide +kernel) (by first|exact .cons_cons _ (List.nil_sublist _)|exact .cons _ (.cons_cons _ (List.nil_sublist _))) fun nb _=>?_
   refine h_append 9 11 rfl rfl (by decide +kernel) (by omega) (by omega) (by decide +kernel) (fun _=>(by first|exact .cons_cons _ (List.nil_sublist _)|exact .cons _ (.cons_cons _ (List.nil_sublist _)))) fun na nc=>?_
   simp only [List.set_cons_succ,List.set_cons_zero]
   rw [enl,enq]
   refine h_take 10 rfl (by decide +kernel) (by first|exact .cons_cons _ (List.nil_sublist _)|exact .cons _ (.cons_cons _ (List.nil_sublist _))) ?_
   refine h_one 11 (by decide +kernel) ?_
   refine o_store 11 (by first|exact .cons_cons _ (List.nil_sublist _)|exact .cons _ (.cons_cons _ (List.nil_sublist _))) ?_
   refine h_end (by decide +kernel) ?_
   exact g_mem (na,nc) trivial (by repeat (first|exact trivial|refine ⟨rfl,?_⟩)) (.cons _ (.refl _))
  ·skip
   refine o_build1 8 rfl (by decide +kernel) (by first|exact .cons_cons _ (List.nil_sublist _)|exact .cons _ (.cons_cons _ (List.nil_sublist _))) fun nb _=>?_
   refine h_one 1 (by decide +kernel) ?_
   refine o_op 1 rfl (by first|exact .cons_cons _ (List.nil_sublist _)|exact .cons _ (.cons_cons _ (List.nil_sublist _))) ?_
   refine h_append 9 11 rfl rfl (by decide +kernel) (by omega) (by omega) (by decide +kernel) (fun _=>(by first|exact .cons_cons _ (List.nil_sublist _)|exact .cons _ (.cons_cons _ (List.nil_sublist _)))) fun na nc=>?_
   simp only [List.set_cons_succ,List.set_cons_zero]
   rw [enl,enq]
   refine h_take 10 rfl (by decide +kernel) (by first|exact .cons_cons _ (List.nil_sublist _)|exact .cons _ (.cons_cons _ (List.nil_sublist _))) ?_
   refine h_one 11 (by decide +kernel) ?_
   refine o_store 11 (by first|exact .cons_cons _ (List.nil_sublist _)|exact .cons _ (.cons_cons _ (List.nil_sublist _))) ?_
   refine h_end (by decide +kernel) ?_
   exact g_mem (na,nc) trivial (by repeat (first|exact trivial|refine ⟨rfl,?_⟩)) (.cons _ (.refl _))
 obtain ⟨na,nc⟩:=y
 simp only
 repeat (first|refine g_op rfl ?_|refine g_then ?_|refine g_nil ?_|refine g_region ?_|refine g_store ?_|refine g_add rfl (by omega) (by omega) ?_)
 have hrt2 : regTo bl h lp R (i + 1) = R + i + 1:=by unfold regTo; rw [if_pos hmn]; omega
 have hqn : (qs++[nq]).map PRow.phi = porchTo bl h lp R (i + 1):=by
  rw [porchTo_succ hphi,if_pos hmn,List.map_append,hqm,hnq,hol]
  rfl
 have hqnb : ∀ q ∈ qs++[nq],inI q.dst∧q.l.length ≤ 1000∧∀ v ∈ q.l,inI v.n:=fun q hq=>by
  rcases List.mem_append.1 hq with hq|hq
  ·exact hqb q hq
  ·rw [List.mem_singleton.1 hq,hnq]
   exact ⟨⟨by simp only; omega,by simp only; omega⟩,by simp only; omega,hOb.2⟩
 have hvx : vv = ⟨true,((R + i : Nat) : Int)⟩:=by rw [hvv]; unfold layV; rw [if_pos hmn]
 refine g_wd (H':=Ent.box p15 [.bool vv.reg,.int .i64 vv.n] 48::Ent.vec ia il.length ic 48 2 (il.flatMap vlC)::Ent.box pb [.slice na (qs++[nq]).length nc,.slice none 0 0,.int .i64 2,.bool false,.int .i64 0,.slice (some ⟨tb,0,none⟩) 1 1] 52::Ent.vec (some ⟨tb,0,none⟩) 1 1 3 1 [.int .i64 (h : Int)]::Ent.box p [nm,pa,.int .i64 (regTo bl h lp R (i + 1) : Nat),.slice (some ⟨vb,vo,none⟩) n c] 35::Ent.vec (some ⟨vb,vo,none⟩) n c 52 6 (bs.flatMap blkC)::Ent.vec (some ⟨zb,zo,none⟩) T.ps.length T.pc 86 2 ((es++T.ps.drop i).flatMap phiC)::Ent.vec na (qs++[nq]).length nc 86 2 ((qs++[nq]).flatMap phiC)::lvE T::tvE T::((es++T.ps.drop (i + 1)).map phE++((qs++[nq]).map phE++(T.xs.map roE++(bs.eraseIdx h).map blkE)))) (fun w hw=>?_) ?_
 ·have e1 : (qs++[nq]).map phE = qs.map phE++[Ent.vec (some ⟨ob,oo,none⟩) ol.length oc 48 2 (ol.flatMap vlC)]:=by rw [List.map_append,hnq]; rfl
  rw [hvx,e1,hrt2,show ((R + i + 1 : Nat) : Int) = ((R + i : Nat) : Int) + 1 by omega]
  refine hw.pick ⟨[Ent.box p10 [.int .i64 pd,.slice pla pl.length plc] 86,Ent.vec pla pl.length plc 48 2 (pl.flatMap vlC)],List.perm_iff_count.2 fun e=>?_⟩
  simp only [List.count_append,List.count_cons,List.count_nil]
  omega
 have hvi : inI vv.n:=by rw [hvx]; exact ⟨by simp only; omega,by simp only; omega⟩
 generalize qs++[nq] = qs2 at *
 refine g_fix (L':=[(15,.pointer (some ⟨p15,0,none⟩)),(12,.slice ia il.length ic),(9,.int .i64 i),(44,.int .i64 i),(42,.slice (some ⟨zb,zo,none⟩) T.ps.length T.pc),(43,.int .i64 T.ps.length),(8,.slice ra j rc),(7,.pointer (some ⟨pb,0,none⟩)),(6,.int .i64 n),(0,.pointer (some ⟨p,0,none⟩)),(1,.int .i64 h),(2,.slice la ln lc)]) (by repeat (first|exact trivial|refine ⟨rfl,?_⟩)) (.refl _) ?_
 all_goals
  skip
  obtain ⟨nq2,hnq2⟩ : ∃ nq2 : Option Addr × Nat→PRow,nq2 = fun y=>⟨pd,y.1,y.2,il++[vv]⟩:=⟨_,rfl⟩
  have hiv : il.flatMap vlC++[.bool vv.reg,.int .i64 vv.n] = (il++[vv]).flatMap vlC:=by rw [List.flatMap_append]; rfl
  have hivl : il.length + 1 = (il++[vv]).length:=by rw [List.length_append]; rfl
  have hxs : ∀ ma mc,XSet ((es++T.ps.drop i).flatMap phiC) (i * 2 + 1) (.slice ma (il++[vv]).length mc) (((es++[nq2 (ma,mc)])++T.ps.drop (i + 1)).flatMap phiC):=fun ma mc=>⟨by
   rw [flat_set phiC_len hget (k:=1) (by omega) (y:=nq2 (ma,mc)) (by rw [hnq2]; rfl)]
   congr 1
   exact set_mid hiL hlt,by rw [flat_len phiC_len,List.length_append,List.length_drop]; omega⟩
  have hot : ∀ (X0 X1 X2 X3 X4 X5 X6 : Ent) (Y : List Ent),OwnAt (X0::X1::X2::X3::X4::X5::X6::Ent.vec (some ⟨zb,zo,none⟩) T.ps.length T.pc 86 2 ((es++T.ps.drop i).flatMap phiC)::Y) zb (zo + i * 2 + 1) 7 zo (i * 2 + 1) T.ps.length T.pc 86 2 ((es++T.ps.drop i).flatMap phiC):=fun _ _ _ _ _ _ _ _=>⟨rfl,by omega⟩
  have hocR : ∀ (X1 X2 : Ent) (Y : List Ent),OwnCell (X1::X2::Ent.vec (some ⟨vb,vo,none⟩) n c 52 6 (bs.flatMap blkC)::Y) vb (vo + h * 6) (.slice (some ⟨zb,zo,none⟩) T.ps.length T.pc):=fun _ _ _=>⟨fun _ _ _ hw=>by have:=hw.vecCell (k:=2) rfl (hcell 0 _ rfl); rw [hza] at this; exact this⟩
  skip
  refine g_drawX [Ent.box p15 [.bool vv.reg,.int .i64 vv.n] 48,Ent.box p [nm,pa,.int .i64 (regTo bl h lp R (i + 1) : Nat),.slice (some ⟨vb,vo,none⟩) n c] 35,Ent.vec (some ⟨vb,vo,none⟩) n c 52 6 (bs.flatMap blkC)] (fun _ : Option Addr × Nat=>True) (fun _=>[(15,.pointer (some ⟨p15,0,none⟩)),(12,.slice ia il.length ic),(9,.int .i64 i),(44,.int .i64 i),(42,.slice (some ⟨zb,zo,none⟩) T.ps.length T.pc),(43,.int .i64 T.ps.length),(8,.slice ra j rc),(7,.pointer (some ⟨pb,0,none⟩)),(6,.int .i64 n),(0,.pointer (some ⟨p,0,none⟩)),(1,.int .i64 h),(2,.slice la ln lc)]) (fun y=>Ent.box p15 [.bool vv.reg,.int .i64 vv.n] 48::Ent.vec y.1 (il++[vv]).length y.2 48 2 ((il++[vv]).flatMap vlC)::Ent.box pb [.slice na qs2.length nc,.slice none 0 0,.int .i64 2,.bool false,.int .i64 0,.slice (some ⟨tb,0,none⟩) 1 1] 52::Ent.vec (some ⟨tb,0,none⟩) 1 1 3 1 [.int .i64 (h : Int)]::Ent.box p [nm,pa,.int .i64 (regTo bl h lp R (i + 1) : Nat),.slice (some ⟨vb,vo,none⟩) n c] 35::Ent.vec (some ⟨vb,vo,none⟩) n c 52 6 (bs.flatMap blkC)::Ent.vec (some ⟨zb,zo,none⟩) T.ps.length T.pc 86 2 (((es++[nq2 y])++T.ps.drop (i + 1)).flatMap phiC)::Ent.vec na qs2.length nc 86 2 (qs2.flatMap phiC)::lvE T::tvE T::((es++T.ps.drop (i + 1)).map phE++(qs2.map phE++(T.xs.map roE++(bs.eraseIdx h).map blkE)))) mixed (by first|exact .cons_cons _ (.cons _ (.cons _ (.cons _ (.cons_cons _ (.cons_cons _ (List.nil_sublist _))))))|exact .cons _ (.cons_cons _ (.cons _ (.cons _ (.cons _ (.cons_cons _ (.cons_cons _ (List.nil_sublist _)))))))) ?_ fun y _=>?_
  ·skip
   refine h_take 0 rfl (by decide +kernel) (by first|exact .cons_cons _ (.cons _ (.cons _ (.cons _ (.cons_cons _ (.cons_cons _ (List.nil_sublist _))))))|exact .cons _ (.cons_cons _ (.cons _ (.cons _ (.cons _ (.cons_cons _ (.cons_cons _ (List.nil_sublist _)))))))) ?_
   refine h_take 1 rfl (by decide +kernel) (by first|exact .cons_cons _ (.cons _ (.cons _ (.cons _ (.cons_cons _ (.cons_cons _ (List.nil_sublist _))))))|exact .cons _ (.cons_cons _ (.cons _ (.cons _ (.cons _ (.cons_cons _ (.cons_cons _ (List.nil_sublist _)))))))) ?_
   refine h_take 2 rfl (by decide +kernel) (by first|exact .cons_cons _ (.cons _ (.cons _ (.cons _ (.cons_cons _ (.cons_cons _ (List.nil_sublist _))))))|exact .cons _ (.cons_cons _ (.cons _ (.cons _ (.cons _ (.cons_cons _ (.cons_cons _ (List.nil_sublist _)))))))) ?_
   refine h_take 3 rfl (by decide +kernel) (by first|exact .cons_cons _ (.cons _ (.cons _ (.cons _ (.cons_cons _ (.cons_cons _ (List.nil_sublist _))))))|exact .cons _ (.cons_cons _ (.cons _ (.cons _ (.cons _ (.cons_cons _ (.cons_cons _ (List.nil_sublist _)))))))) ?_
   refine h_take 4 rfl (by decide +kernel) (by first|exact .cons_cons _ (.cons _ (.cons _ (.cons _ (.cons_cons _ (.cons_cons _ (List.nil_sublist _))))))|exact .cons _ (.cons_cons _ (.cons _ (.cons _ (.cons _ (.cons_cons _ (.cons_cons _ (List.nil_sublist _)))))))) ?_
   refine h_take 5 rfl (by decide +kernel) (by first|exact .cons_cons _ (.cons _ (.cons _ (.cons _ (.cons_cons _ (.cons_cons _ (List.nil_sublist _))))))|exact .cons _ (.cons_cons _ (.cons _ (.cons _ (.cons _ (.cons_cons _ (.cons_cons _ (List.nil_sublist _)))))))) ?_
   refine h_take 6 rfl (by decide +kernel) (by first|exact .cons_cons _ (.cons _ (.cons _ (.cons _ (.cons_cons _ (.cons_cons _ (List.nil_sublist _))))))|exact .cons _ (.cons_cons _ (.cons _ (.cons _ (.cons _ (.cons_cons _ (.cons_cons _ (List.nil_sublist _)))))))) ?_
   refine h_take 7 rfl (by decide +kernel) (by first|exact .cons_cons _ (.cons _ (.cons _ (.cons _ (.cons_cons _ (.cons_cons _ (List.nil_sublist _))))))|exact .cons _ (.cons_cons _ (.cons _ (.cons _ (.cons _ (.cons_cons _ (.cons_cons _ (List.nil_sublist _)))))))) ?_
   refine h_take 8 rfl (by decide +kernel) (by first|exact .cons_cons _ (.cons _ (.cons _ (.cons _ (.cons_cons _ (.cons_cons _ (List.nil_sublist _))))))|exact .cons _ (.cons_cons _ (.cons _ (.cons _ (.cons _ (.cons_cons _ (.cons_cons _ (List.nil_sublist _)))))))) ?_
   refine h_take 9 rfl (by decide +kernel) (by first|exact .cons_cons _ (.cons _ (.cons _ (.cons _ (.cons_cons _ (.cons_cons _ (List.nil_sublist _))))))|exact .cons _ (.cons_cons _ (.cons _ (.cons _ (.cons _ (.cons_cons _ (.cons_cons _ (List.nil_sublist _)))))))) ?_
   refine h_take 10 rfl (by decide +kernel) (by first|exact .cons_cons _ (.cons _ (.cons _ (.cons _ (.cons_cons _ (.cons_cons _ (List.nil_sublist _))))))|exact .cons _ (.cons_cons _ (.cons _ (.cons _ (.cons _ (.cons_cons _ (.cons_cons _ (List.nil_sublist _)))))))) ?_
   refine h_build1 11 rfl (by decide +kernel) (by decide +kernel) (by first|exact .cons_cons _ (.cons _ (.cons _ (.cons _ (.cons_cons _ (.cons_cons _ (List.nil_sublist _))))))|exact .cons _ (.cons_cons _ (.cons _ (.cons _ (.cons _ (.cons_cons _ (.cons_cons _ (List.nil_sublist _)))))))) fun nb _=>?_
   refine h_append 12 2 rfl rfl (by decide +kernel) (by omega) (by omega) (by decide +kernel) (fun _=>(by first|exact .cons_cons _ (.cons _ (.cons _ (.cons _ (.cons_cons _ (.cons_cons _ (List.nil_sublist _))))))|exact .cons _ (.cons_cons _ (.cons _ (.cons _ (.cons _ (.cons_cons _ (.cons_cons _ (List.nil_sublist _))))))))) fun ma mc=>?_
   simp only [List.set_cons_succ,List.set_cons_zero]
   rw [hiv,hivl]
   refine h_take 13 rfl (by decide +kernel) (by first|exact .cons_cons _ (.cons _ (.cons _ (.cons _ (.cons_cons _ (.cons_cons _ (List.nil_sublist _))))))|exact .cons _ (.cons_cons _ (.cons _ (.cons _ (.cons _ (.cons_cons _ (.cons_cons _ (List.nil_sublist _)))))))) ?_
   refine h_take 14 rfl (by decide +kernel) (by first|exact .cons_cons _ (.cons _ (.cons _ (.cons _ (.cons_cons _ (.cons_cons _ (List.nil_sublist _))))))|exact .cons _ (.cons_cons _ (.cons _ (.cons _ (.cons _ (.cons_cons _ (.cons_cons _ (List.nil_sublist _)))))))) ?_
   refine h_one 15 (by decide +kernel) ?_
   refine o_storeV 15 (by first|exact .cons_cons _ (.cons _ (.cons _ (.cons _ (.cons_cons _ (.cons_cons _ (List.nil_sublist _))))))|exact .cons _ (.cons_cons _ (.cons _ (.cons _ (.cons _ (.cons_cons _ (.cons_cons _ (List.nil_sublist _)))))))) ?_
   refine h_end (by decide +kernel) ?_
   exact g_mem (ma,mc) trivial (by repeat (first|exact trivial|refine ⟨rfl,?_⟩)) (.cons _ (.refl _))
  obtain ⟨ma,mc⟩:=y
  simp only
  have hl1 : (es++[nq2 (ma,mc)]).length = i + 1:=by rw [List.length_append,hiL]; rfl
  have hnE : phE (nq2 (ma,mc)) = Ent.vec ma (il++[vv]).length mc 48 2 ((il++[vv]).flatMap vlC):=by rw [hnq2]; rfl
  refine g_wd (H':=Ent.box pb [.slice na qs2.length nc,.slice none 0 0,.int .i64 2,.bool false,.int .i64 0,.slice (some ⟨tb,0,none⟩) 1 1] 52::Ent.vec (some ⟨tb,0,none⟩) 1 1 3 1 [.int .i64 (h : Int)]::Ent.box p [nm,pa,.int .i64 (regTo bl h lp R (es++[nq2 (ma,mc)]).length : Nat),.slice (some ⟨vb,vo,none⟩) n c] 35::Ent.vec (some ⟨vb,vo,none⟩) n c 52 6 (bs.flatMap blkC)::Ent.vec (some ⟨zb,zo,none⟩) T.ps.length T.pc 86 2 (((es++[nq2 (ma,mc)])++T.ps.drop (es++[nq2 (ma,mc)]).length).flatMap phiC)::Ent.vec na qs2.length nc 86 2 (qs2.flatMap phiC)::lvE T::tvE T::(((es++[nq2 (ma,mc)])++T.ps.drop (es++[nq2 (ma,mc)]).length).map phE++(qs2.map phE++(T.xs.map roE++(bs.eraseIdx h).map blkE)))) (fun w hw=>?_) ?_
  ·rw [hl1]
   refine hw.pick ⟨[Ent.box p15 [.bool vv.reg,.int .i64 vv.n] 48],List.perm_iff_count.2 fun e=>?_⟩
   simp only [List.map_append,List.map_cons,List.map_nil,hnE,List.count_append,List.count_cons,List.count_nil]
   omega
  repeat (first|refine g_then ?_|refine g_nil ?_|refine g_region ?_|refine g_opS rfl ?_|refine g_inBlock ?_|refine g_add rfl (by omega) (by omega) ?_)
  refine g_fix (L':=[(44,.int .i64 ((es++[nq2 (ma,mc)]).length : Nat)),(42,.slice (some ⟨zb,zo,none⟩) T.ps.length T.pc),(43,.int .i64 T.ps.length),(8,.slice ra j rc),(7,.pointer (some ⟨pb,0,none⟩)),(6,.int .i64 n),(0,.pointer (some ⟨p,0,none⟩)),(1,.int .i64 h),(2,.slice la ln lc)]) ?_ (.refl _) ?_
  ·rw [hl1]
   exact (by repeat (first|exact trivial|refine ⟨rfl,?_⟩))
  refine g_next (es++[nq2 (ma,mc)],qs2,na,nc) ⟨by simp only; rw [hl1]; omega,?_,fun q hq=>?_,by simp only; rw [hl1]; exact hqn,hqnb⟩ (by simp only; rw [hl1]; omega) (by repeat (first|exact trivial|refine ⟨rfl,?_⟩)) (.refl _)
  ·simp only
   rw [hl1,phisTo_succ hphi,List.map_append,hem,hnq2,hil,hvv]
   rfl
  ·rcases List.mem_append.1 hq with hq|hq
   ·exact heb q hq
   ·rw [List.mem_singleton.1 hq,hnq2]
    refine ⟨hqd,by simp only [List.length_append,List.length_singleton]; omega,fun v hv=>?_⟩
    rcases List.mem_append.1 hv with hv|hv
    ·exact hIb.2 v hv
    ·rw [List.mem_singleton.1 hv]; exact hvi
end Go.Proofs.YtdbljcahlpkgdaaGreatDoor
namespace Go.Proofs.YtdbljcahlpkgdaaGreatDoor
open Go Go.RowKit
attribute [local irreducible] wpListIn Code.wpIn Exit.then Exit.inBlock bodyPost wpQuiet wpAnyIn wpAnyH bodyPostM oneH
set_option maxHeartbeats 4000000
theorem kill_less {S : Nat→Prop} {w1 w : World} {H1 H2 : List Ent} (h : Wd S (killW S w1) (H1++H2) w) : ∀ p v,(killW S w1).cell? p = some v→(killW (fps H1) w).cell? p = some v:=fun p v hc=>by
 have hn:=(kill_cell hc).1
 have hlt:=World.block_lt_of_cell? _ p hc
 have hno : ¬ fps H1 p.block:=fun ⟨e,he,hb⟩=>(h.own e (List.mem_append_left _ he) _ hb).1.elim hn fun h2=>by omega
 rw [← hc]
 exact World.cell?_of_block ((kill_get w hno).trans (h.chg.block _ hlt hn))
theorem many_le_take (bl : List LBlock) (i : Nat) : manyL (bl.take i) ≤ manyL bl:=by
 unfold manyL
 conv=>rhs; rw [← List.take_append_drop i bl,List.map_append,List.sum_append]
 omega
theorem layOf_c (X : LFunc) (R : Nat) (hXR : X.regs = R) (hR : R ≤ 100) (hlen : X.blocks.length ≤ 50) (hmany : manyL X.blocks ≤ 1000) (hpar : inI X.params) (hf : FuncOk R X.blocks) (hp : PosOk X.blocks) (hpos : 0 < X.blocks.length) (w0 : World) : Turns w0 17 [] [] layF X:=by
 classical
 have hF:=layF_eq hXR
 obtain ⟨xn,xp,xr,xb⟩:=X
 simp only at hXR hlen hmany hpar hf hp hpos hF
 subst hXR
 intro a c bs w hbs hbd hch hfr hw
 simp only at hbs
 obtain ⟨bl,hbl⟩ : ∃ bl,bl = bs.map BRow.blk:=⟨_,rfl⟩
 rw [← hbs,← hbl] at hf hlen hmany hp hpos
 have hbe : xb = bl:=by rw [hbl,hbs]
 rw [hF]
 simp only
 rw [hbe]
 have hg:=hf.good
 have hnd : ∀ (b : Nat) B,bl[b]? = some B→B.to.Nodup:=fun b B hB=>(hf.block b B hB).to
 have hbll : bl.length = bs.length:=by rw [hbl,List.length_map]
 obtain ⟨lps,hlps⟩ : ∃ lps,lps = loopsL bl:=⟨_,rfl⟩
 have hIs : IsLoops bl lps:=by rw [hlps]; exact loopsL_is bl
 have hll : lps.length = bl.length:=by rw [hlps,loopsL_len]
 have hst:=fun i hi=>lays_st (R:=R) hIs hf hp i hi
 rw [← hlps]
 have hregs : ∀ i,i ≤ bl.length→(laysTo lps (bl,R) i).2 ≤ 1100:=fun i hi=>by
  have h1:=(hst i hi).regs.2
  have h2:=many_le_take bl i
  omega
 refine Ret.mono (R:=fun u w'=>∃ x : Option Addr × Nat × List BRow,u = .agg #[.string xn,.int .i64 xp,.int .i64 ((laysTo lps (bl,R) bl.length).2 : Nat),.slice x.1 x.2.2.length x.2.1]∧Wd (fps (fnE a c bs)) w (fnE x.1 x.2.1 x.2.2) w'∧x.2.2.map BRow.blk = (laysTo lps (bl,R) bl.length).1∧∀ b ∈ x.2.2,b.Bd) ?_ fun u w' ⟨x,h1,h2,h3,h4⟩=>⟨x,h1,h2,h3,h4,?_,hpar,?_⟩
 case refine_2 =>
  have h5:=congrArg List.length h3
  rw [List.length_map] at h5
  have:=(hst bl.length (Nat.le_refl _)).len
  omega
 case refine_3 =>
  have:=hregs bl.length (Nat.le_refl _)
  exact ⟨by omega,by omega⟩
 simp only [List.nil_append,List.append_nil,List.cons_append]
 refine ret_enter Tryz.func17 rfl Tryz.ntmps17 rfl hw ?_
 generalize fps (fnE a c bs) = SS at *
 repeat (first|refine g_op rfl ?_|refine g_then ?_|refine g_nil ?_|refine g_region ?_|refine g_seq ?_|refine g_box rfl fun _ _=>?_|refine g_alloc rfl fun _ _=>?_)
 rename_i p1 _ p2 _
 refine g_callK (s:=1) (l:=lps) (V:=RowV) (mk:=fun v=>v) rfl (fun w hw=>by
  rw [hlps]
  refine allOfK _ _ _ bl _ ⟨_,_,_,rfl⟩ w ?_ (by omega) hg hnd hpos
  rw [hbl]
  refine Wd.blocks (H:=[]) (hw.sub (.cons _ (.cons _ ?_))) (by omega) hbd
  rw [List.append_nil]
  exact List.Sublist.refl _) fun ta tc tf=>?_
 refine g_permH (H1:=(Ent.box p2 [.string ByteArray.empty,.int .i64 0,.int .i64 0,.slice none 0 0] 35::Ent.box p1 [.string xn,.int .i64 xp,.int .i64 (R : Nat),.slice a bs.length c] 35::fnE a c bs)++[(⟨tf,fun w=>SlAt w (.slice ta lps.length tc) 1 lps RowV⟩ : Ent)]) (List.perm_append_comm (l₁:=[(⟨tf,fun w=>SlAt w (.slice ta lps.length tc) 1 lps RowV⟩ : Ent)])) ?_
 refine g_holdK fun w1 hw1=>?_
 have htb : SlAt (killW (fps (Ent.box p2 [.string ByteArray.empty,.int .i64 0,.int .i64 0,.slice none 0 0] 35::Ent.box p1 [.string xn,.int .i64 xp,.int .i64 (R : Nat),.slice a bs.length c] 35::fnE a c bs)) w1) (.slice ta lps.length tc) 1 lps RowV:=hw1.beside (e:=(⟨tf,fun w=>SlAt w (.slice ta lps.length tc) 1 lps RowV⟩ : Ent)) (by simp)
 have back : ∀ {E : List Ent} {w' : World},Wd (fps (Ent.box p2 [.string ByteArray.empty,.int .i64 0,.int .i64 0,.slice none 0 0] 35::Ent.box p1 [.string xn,.int .i64 xp,.int .i64 (R : Nat),.slice a bs.length c] 35::fnE a c bs)) (killW (fps (Ent.box p2 [.string ByteArray.empty,.int .i64 0,.int .i64 0,.slice none 0 0] 35::Ent.box p1 [.string xn,.int .i64 xp,.int .i64 (R : Nat),.slice a bs.length c] 35::fnE a c bs)) w1) E w'→Wd SS w (E++[(⟨tf,fun w=>SlAt w (.slice ta lps.length tc) 1 lps RowV⟩ : Ent)]) w':=fun hw=>hw1.comp hw.unkill
 have hkp : ∀ {E : List Ent} {w : World},Wd (fps (Ent.box p2 [.string ByteArray.empty,.int .i64 0,.int .i64 0,.slice none 0 0] 35::Ent.box p1 [.string xn,.int .i64 xp,.int .i64 (R : Nat),.slice a bs.length c] 35::fnE a c bs)) (killW (fps (Ent.box p2 [.string ByteArray.empty,.int .i64 0,.int .i64 0,.slice none 0 0] 35::Ent.box p1 [.string xn,.int .i64 xp,.int .i64 (R : Nat),.slice a bs.length c] 35::fnE a c bs)) w1) E w→∀ q v,(killW (fps (Ent.box p2 [.string ByteArray.empty,.int .i64 0,.int .i64 0,.slice none 0 0] 35::Ent.box p1 [.string xn,.int .i64 xp,.int .i64 (R : Nat),.slice a bs.length c] 35::fnE a c bs)) w1).cell? q = some v→w.cell? q = some v:=fun hw=>hw.killKeep
 have hkl : ∀ {E1 E2 : List Ent} {w : World},Wd (fps (Ent.box p2 [.string ByteArray.empty,.int .i64 0,.int .i64 0,.slice none 0 0] 35::Ent.box p1 [.string xn,.int .i64 xp,.int .i64 (R : Nat),.slice a bs.length c] 35::fnE a c bs)) (killW (fps (Ent.box p2 [.string ByteArray.empty,.int .i64 0,.int .i64 0,.slice none 0 0] 35::Ent.box p1 [.string xn,.int .i64 xp,.int .i64 (R : Nat),.slice a bs.length c] 35::fnE a c bs)) w1) (E1++E2) w→∀ q v,(killW (fps (Ent.box p2 [.string ByteArray.empty,.int .i64 0,.int .i64 0,.slice none 0 0] 35::Ent.box p1 [.string xn,.int .i64 xp,.int .i64 (R : Nat),.slice a bs.length c] 35::fnE a c bs)) w1).cell? q = some v→(killW (fps E1) w).cell? q = some v:=fun hw=>kill_less hw
 have hold : ∀ {b o : Nat} {v : Value} {l : List Value},CellsAt (killW (fps (Ent.box p2 [.string ByteArray.empty,.int .i64 0,.int .i64 0,.slice none 0 0] 35::Ent.box p1 [.string xn,.int .i64 xp,.int .i64 (R : Nat),.slice a bs.length c] 35::fnE a c bs)) w1) b o (v::l)→OldIs (fps (Ent.box p2 [.string ByteArray.empty,.int .i64 0,.int .i64 0,.slice none 0 0] 35::Ent.box p1 [.string xn,.int .i64 xp,.int .i64 (R : Nat),.slice a bs.length c] 35::fnE a c bs)) b:=fun hc=>killOldIs hc (by simp)
 generalize killW (fps (Ent.box p2 [.string ByteArray.empty,.int .i64 0,.int .i64 0,.slice none 0 0] 35::Ent.box p1 [.string xn,.int .i64 xp,.int .i64 (R : Nat),.slice a bs.length c] 35::fnE a c bs)) w1 = wk at *
 generalize fps (Ent.box p2 [.string ByteArray.empty,.int .i64 0,.int .i64 0,.slice none 0 0] 35::Ent.box p1 [.string xn,.int .i64 xp,.int .i64 (R : Nat),.slice a bs.length c] 35::fnE a c bs) = SH at *
 obtain ⟨n,hn⟩ : ∃ n,n = lps.length:=⟨_,rfl⟩
 rw [← hn] at htb ⊢
 repeat (first|refine g_op rfl ?_|refine g_then ?_|refine g_nil ?_|refine g_block ?_)
 refine g_loop (fun x : Nat × Option Addr × Nat × List BRow=>x.1 ≤ n∧x.2.2.2.map BRow.blk = (laysTo lps (bl,R) x.1).1∧∀ b ∈ x.2.2.2,b.Bd) (fun x=>[(8,.int .i64 x.1),(7,.int .i64 n),(6,.slice ta n tc),(1,.pointer (some ⟨p1,0,none⟩)),(2,.pointer (some ⟨p2,0,none⟩))]) (fun x=>match x with|(i,a,c,ys)=>Ent.box p1 [.string xn,.int .i64 xp,.int .i64 ((laysTo lps (bl,R) i).2 : Nat),.slice a ys.length c] 35::(fnE a c ys++[Ent.box p2 [.string ByteArray.empty,.int .i64 0,.int .i64 0,.slice none 0 0] 35])) (fun x=>n - x.1) (0,a,c,bs) ⟨Nat.zero_le _,by simp only; rw [← hbl]; rfl,hbd⟩ ?_ fun x ⟨hi,hym,hyd⟩=>?_
 ·refine g_permH (H1:=Ent.box p1 [.string xn,.int .i64 xp,.int .i64 (R : Nat),.slice a bs.length c] 35::(fnE a c bs++[Ent.box p2 [.string ByteArray.empty,.int .i64 0,.int .i64 0,.slice none 0 0] 35])) (List.perm_iff_count.2 fun e=>by simp only [List.count_append,List.count_cons,List.count_nil]; omega) ?_
  exact g_done (by repeat (first|exact trivial|refine ⟨rfl,?_⟩)) (.refl _)
 obtain ⟨i,a,c,ys⟩:=x
 simp only at hi hym hyd ⊢
 repeat (first|refine g_op rfl ?_|refine g_then ?_|refine g_nil ?_|refine g_region ?_|refine g_seq ?_)
 refine g_cond (fun h1=>?_) (fun h1=>?_)
 case refine_2 =>
  obtain rfl : i = n:=by have:=h1; simp at this; omega
  refine g_permH (H1:=Ent.box p1 [.string xn,.int .i64 xp,.int .i64 ((laysTo lps (bl,R) i).2 : Nat),.slice a ys.length c] 35::Ent.box p2 [.string ByteArray.empty,.int .i64 0,.int .i64 0,.slice none 0 0] 35::fnE a c ys) (List.perm_iff_count.2 fun e=>by simp only [List.count_append,List.count_cons,List.count_nil]; omega) ?_
  have hnb : i = bl.length:=by omega
  rw [← hnb]
  repeat (first|refine g_op rfl ?_|refine g_then ?_|refine g_nil ?_|refine g_region ?_|refine g_seq ?_|refine g_storeAgg ?_|refine g_exit ?_|refine g_thenExit ?_|refine g_exitHere ?_|refine g_ret ?_)
  refine g_retC rfl fun w hw=>⟨(a,c,ys),rfl,(back hw).sub (.cons _ (.cons _ (List.sublist_append_left _ _))),hym,hyd⟩
 have hil : i < n:=by simpa using h1
 obtain ⟨lp,hlp⟩ : ∃ lp,lps[i]? = some lp:=⟨_,List.getElem?_eq_getElem (by omega)⟩
 obtain ⟨_,_,_,ab,ao,haa,hahel⟩:=htb.at
 obtain ⟨_,hcs,rv,rfl,hrv⟩:=hahel i _ hlp
 have hrv0:=hrv
 obtain ⟨la,ln,lc,_,_,rfl,hln,_⟩:=hrv0
 have had : AddrIs ta ab ao:=⟨haa (ne_of_get hlp)⟩
 have hlt : LtIs i n:=⟨hil⟩
 have hci : CellsIs wk ab (ao + i * 1) _:=⟨hcs⟩
 have hoi:=hold hcs
 have hlpd : lps.getD i [] = lp:=by rw [List.getD_eq_getElem?_getD,hlp]; rfl
 have hsti:=hst i (by omega)
 have hri:=hregs i (by omega)
 have hsucc : laysTo lps (bl,R) (i + 1) = layAt lps (laysTo lps (bl,R) i) i:=laysTo_succ _ _ _
 have hysl : ys.length = (laysTo lps (bl,R) i).1.length:=by rw [← hym,List.length_map]
 have hst1:=hsti.len
 have hlnl : ln = lp.length:=hln
 repeat (first|refine g_op rfl ?_|refine g_then ?_|refine g_nil ?_|refine g_region ?_|refine g_seq ?_|refine g_block ?_|refine g_skip ?_)
 by_cases h0 : 0 < ln
 case neg =>
  rw [show decide ((0 : Int) < (ln : Int)) = false by simp; omega]
  repeat (first|refine g_op rfl ?_|refine g_then ?_|refine g_nil ?_|refine g_region ?_|refine g_opS rfl ?_|refine g_pass rfl ?_|refine g_inBlock ?_|refine g_skip ?_|refine g_condF ?_|refine g_add rfl (by omega) (by omega) ?_)
  refine g_next (i + 1,a,c,ys) ⟨hil,?_,hyd⟩ (by simp only; omega) ?_ ?_
  ·simp only
   rw [hsucc,layAt,if_neg (fun h=>by rw [hlpd] at h; omega)]
   exact hym
  ·exact (by repeat (first|exact trivial|refine ⟨rfl,?_⟩))
  ·simp only
   rw [hsucc,layAt,if_neg (fun h=>by rw [hlpd] at h; omega)]
   exact List.Sublist.refl _
 rw [show decide ((0 : Int) < (ln : Int)) = true by simp; omega]
 have hrd : ∀ w,Wd SH wk (Ent.box p1 [.string xn,.int .i64 xp,.int .i64 ((laysTo lps (bl,R) i).2 : Nat),.slice a ys.length c] 35::(fnE a c ys++[Ent.box p2 [.string ByteArray.empty,.int .i64 0,.int .i64 0,.slice none 0 0] 35])) w→SlAt w (.slice a ys.length c) 6 (laysTo lps (bl,R) i).1 BlockV:=fun w hw=>by
  rw [← hym]
  exact Wd.blocks (H:=[Ent.box p2 [.string ByteArray.empty,.int .i64 0,.int .i64 0,.slice none 0 0] 35]) (hw.sub (.cons _ (.refl _))) (by omega) hyd
 have hlk : SlAt wk (.slice la ln lc) 1 lp IntV:=hrv
 repeat (first|refine g_op rfl ?_|refine g_open ?_)
 refine g_callE (val:=fun r : Int=>.int .i64 r) (E:=fun _=>[]) (φ:=fun r=>r < 0 ↔ porchOk (laysTo lps (bl,R) i).1 i lp = false) rfl (fun w hw=>porch_c _ _ _ (laysTo lps (bl,R) i).1 _ _ ⟨_,_,_,rfl⟩ ⟨_,_,_,rfl⟩ i lp w (hrd w hw) (SlAt.mono (V:=IntV) (w:=wk) (w':=w) (fun _ _ h=>h) (hkp hw) hlk) (by omega) hsti.ok.good (fun b B hB=>(hsti.ok.block b B hB).to) (by omega)) fun r hr=>?_
 simp only [List.nil_append]
 repeat (first|refine g_op rfl ?_|refine g_then ?_|refine g_nil ?_|refine g_open ?_)
 have h0' : 0 < (lps.getD i []).length:=by rw [hlpd]; omega
 cases hpo : porchOk (laysTo lps (bl,R) i).1 i lp with
 | true =>
  have hr2 : ¬ r < 0:=fun h=>by rw [hr.1 h] at hpo; cases hpo
  rw [show decide (r < 0) = false by simp [hr2]]
  repeat (first|refine g_then ?_|refine g_nil ?_|refine g_region ?_|refine g_opS rfl ?_|refine g_inBlock ?_|refine g_skip ?_|refine g_condF ?_|refine g_add rfl (by omega) (by omega) ?_)
  have hc : ¬ (0 < (lps.getD i []).length∧porchOk (laysTo lps (bl,R) i).1 i (lps.getD i []) = false):=fun h=>by rw [hlpd,hpo] at h; cases h.2
  refine g_next (i + 1,a,c,ys) ⟨hil,?_,hyd⟩ (by simp only; omega) ?_ ?_
  ·simp only
   rw [hsucc,layAt,if_neg hc]
   exact hym
  ·exact (by repeat (first|exact trivial|refine ⟨rfl,?_⟩))
  ·simp only
   rw [hsucc,layAt,if_neg hc]
   exact List.Sublist.refl _
 | false =>
  have hr2 : r < 0:=hr.2 hpo
  rw [show decide (r < 0) = true by simp [hr2]]
  have hlay : laysTo lps (bl,R) (i + 1) = (layB (laysTo lps (bl,R) i).1 i lp (laysTo lps (bl,R) i).2,layR (laysTo lps (bl,R) i).1 i lp (laysTo lps (bl,R) i).2):=by
   rw [hsucc,layAt,if_pos ⟨h0',by rw [hlpd]; exact hpo⟩,hlpd]
  have ho : outQ (laysTo lps (bl,R) i).1 i lp ≠ []:=by
   rw [outQ_congr (hsti.pre i (Nat.le_refl _) (by omega)),← hlpd]
   exact (hIs.out hg hp h0').2
  generalize laysTo lps (bl,R) i = s at *
  obtain ⟨sb,sr⟩:=s
  simp only at hym hysl hri hsti ho hlay hst1 ⊢
  refine g_eqH (H1:=(Ent.box p1 [.string xn,.int .i64 xp,.int .i64 (sr : Nat),.slice a ys.length c] 35::fnE a c ys)++[Ent.box p2 [.string ByteArray.empty,.int .i64 0,.int .i64 0,.slice none 0 0] 35]) rfl ?_
  repeat (first|refine g_op rfl ?_|refine g_region ?_|refine g_condT ?_)
  refine g_eqH (H1:=(Ent.box p1 [.string xn,.int .i64 xp,.int .i64 (sr : Nat),.slice a ys.length c] 35::fnE a c ys)++[Ent.box p2 [.string ByteArray.empty,.int .i64 0,.int .i64 0,.slice none 0 0] 35]) rfl ?_
  refine g_callS (val:=fun _ : Option Addr × Nat × List BRow=>.tuple #[]) (E:=fun x=>Ent.box p1 [.string xn,.int .i64 xp,.int .i64 (layR sb i lp sr : Nat),.slice x.1 x.2.2.length x.2.1] 35::fnE x.1 x.2.1 x.2.2) (φ:=fun x=>x.2.2.map BRow.blk = layB sb i lp sr∧∀ B ∈ x.2.2,B.Bd) rfl (fun w hw=>?_) fun x hx=>?_
  ·have h9:=lay_c (.string xn) (.int .i64 xp) sr p1 a c ys i lp la ln lc w hw.pre (SlAt.mono (V:=IntV) (w:=wk) (w':=killW (fps (Ent.box p1 [.string xn,.int .i64 xp,.int .i64 (sr : Nat),.slice a ys.length c] 35::fnE a c ys)) w) (fun _ _ h=>h) (hkl (E1:=Ent.box p1 [.string xn,.int .i64 xp,.int .i64 (sr : Nat),.slice a ys.length c] 35::fnE a c ys) (E2:=[Ent.box p2 [.string ByteArray.empty,.int .i64 0,.int .i64 0,.slice none 0 0] 35]) hw) hlk) (by omega) (by omega) hyd (by rw [hym]; exact hsti.ok) (by omega) (by rw [hym]; exact ho)
   rw [hym] at h9
   exact h9
  obtain ⟨na,nc,zs⟩:=x
  obtain ⟨hx1,hx2⟩:=hx
  simp only at hx1 hx2
  simp only [List.cons_append]
  repeat (first|refine g_then ?_|refine g_nil ?_|refine g_region ?_|refine g_opS rfl ?_|refine g_inBlock ?_|refine g_add rfl (by omega) (by omega) ?_)
  refine g_next (i + 1,na,nc,zs) ⟨hil,?_,hx2⟩ (by simp only; omega) ?_ ?_
  ·simp only
   rw [hlay]
   exact hx1
  ·exact (by repeat (first|exact trivial|refine ⟨rfl,?_⟩))
  ·simp only
   rw [hlay]
   exact List.Sublist.refl _
theorem lay_bad (u : LUnit) (hl : light u) (hbad : (checkL u).1 ≠ 0) (g fs : Value) (w0 : World) (hg : SlAt w0 g 3 u.globals GlobalV) (hf : SlAt w0 fs 4 u.funcs FuncV) (hways : CellsAt w0 0 0 waysC) :
  RetV Tryz.prog 6 [.agg #[g,fs]] w0 (.tuple #[.agg #[.slice none 0 0,.slice none 0 0],.agg #[.int .i64 (checkL u).1,.int .i64 (checkL u).2]]):=by
 have hg0:=hg
 have hf0:=hf
 obtain ⟨ga,gn,gc,gb,go,rfl,_⟩:=hg
 obtain ⟨fa,fn,fc,fb,fo,rfl,hfn,_⟩:=hf
 refine ret_enter Tryz.func6 rfl Tryz.ntmps6 rfl (Wd.nil NoS w0) ?_
 repeat (first|refine g_op rfl ?_|refine g_then ?_|refine g_nil ?_|refine g_region ?_|refine g_seq ?_|refine g_box rfl fun _ _=>?_|refine g_alloc rfl fun _ _=>?_)
 rename_i p1 _ p2 _ p3 _
 refine g_callV rfl (fun w hw=>check_c u hl _ _ w (hg0.keep keeps_global hw.chg) (hf0.keep keeps_func hw.chg) (hways.keep hw.chg)) ?_
 repeat (first|refine g_op rfl ?_|refine g_then ?_|refine g_nil ?_|refine g_region ?_|refine g_seq ?_|refine g_alloc rfl fun _ _=>?_|refine g_storeAgg ?_)
 rename_i p4 _
 refine g_cond (fun h1=>?_) (fun h1=>?_)
 ·repeat (refine g_seq ?_)
  refine g_drawW [(2,.pointer (some ⟨p2,0,none⟩)),(3,.pointer (some ⟨p3,0,none⟩))] [Ent.box p3 [.int .i64 (checkL u).1,.int .i64 (checkL u).2] 28,Ent.box p2 [.slice none 0 0,.slice none 0 0] 25] mixed ?_ ?_
  ·repeat' (first|refine g_any0 (by decide +kernel) ?_|refine g_any (by decide +kernel) ?_|refine any_nil|refine any_skip (by decide +kernel) ?_|refine any_cons ?_ ?_|refine g_op rfl ?_|refine g_then ?_|refine g_nil ?_|refine g_storeAgg ?_)
   all_goals exact g_done (by repeat (first|exact trivial|refine ⟨rfl,?_⟩)) (by simp)
  ·repeat (first|refine g_then ?_|refine g_ret ?_|refine g_thenRet ?_)
   exact g_retCC rfl fun _ hw=>⟨rfl,hw.chg⟩
 ·simp at h1
  omega
theorem layEach_c (u : LUnit) (hl : light u) (hch : (checkL u).1 = 0) (g fs : Value) (w : World) (hg : SlAt w g 3 u.globals GlobalV) (hf : SlAt w fs 4 u.funcs FuncV) :
  Ret Tryz.prog 16 [.agg #[g,fs],.func (.func 17) #[] #[]] w (EachR u layF w) :=
 each_c u (check_glim hch) ⟨check_few hl,check_lim hl hch⟩ _ _ w hg hf 17 [] [] layF fun X hX=>by
  obtain ⟨k,hk⟩:=List.getElem?_of_mem hX
  have hc:=check_zero.1 hch
  obtain ⟨R,hXR,hR,hfo⟩:=check_func hch hk
  obtain ⟨h1,_,h2,_⟩:=check_small hc hX
  have hs:=FnTo.same hc hk
  have h3:=hs.many
  have h4:=hs.size
  rw [← many_size] at h4
  exact layOf_c X R hXR hR (by omega) (by omega) ⟨by omega,by omega⟩ hfo (fn_kind hc hk).2 (by omega) w
theorem lay_big (u : LUnit) (hl : light u) (hch : (checkL u).1 = 0) (i : Nat) (X : LFunc) (hF : FirstLarge u layF i X) (g fs : Value) (w0 : World) (hg : SlAt w0 g 3 u.globals GlobalV) (hf : SlAt w0 fs 4 u.funcs FuncV) (hways : CellsAt w0 0 0 waysC) :
  RetV Tryz.prog 6 [.agg #[g,fs]] w0 (.tuple #[.agg #[.slice none 0 0,.slice none 0 0],.agg #[.int .i64 10,.int .i64 i]]):=by
 have hg0:=hg
 have hf0:=hf
 obtain ⟨ga,gn,gc,gb,go,rfl,_⟩:=hg
 obtain ⟨fa,fn,fc,fb,fo,rfl,hfn,_⟩:=hf
 refine ret_enter Tryz.func6 rfl Tryz.ntmps6 rfl (Wd.nil NoS w0) ?_
 repeat (first|refine g_op rfl ?_|refine g_then ?_|refine g_nil ?_|refine g_region ?_|refine g_seq ?_|refine g_box rfl fun _ _=>?_|refine g_alloc rfl fun _ _=>?_)
 rename_i p1 _ p2 _ p3 _
 refine g_callV rfl (fun w hw=>check_c u hl _ _ w (hg0.keep keeps_global hw.chg) (hf0.keep keeps_func hw.chg) (hways.keep hw.chg)) ?_
 rw [checkL_zero hch]
 repeat (first|refine g_op rfl ?_|refine g_then ?_|refine g_nil ?_|refine g_region ?_|refine g_seq ?_|refine g_alloc rfl fun _ _=>?_|refine g_storeAgg ?_|refine g_skip ?_|refine g_condF ?_)
 rename_i p4 _
 refine g_callV (u:=.tuple #[.agg #[.slice none 0 0,.slice none 0 0],.agg #[.int .i64 10,.int .i64 i]]) rfl (fun w hw=>(layEach_c u hl hch _ _ w (hg0.keep keeps_global hw.chg) (hf0.keep keeps_func hw.chg)).mono fun v w' h=>?_) ?_
 ·rcases h with ⟨j,Y,h1,h2,h3,h4,h5⟩|⟨h1,_⟩
  ·obtain rfl : j = i:=FirstLarge.one ⟨h1,h2,h3⟩ hF
   exact ⟨h4,h5⟩
  ·exact absurd hF.large (by rw [h1 X (List.mem_of_getElem? hF.at')]; simp)
 repeat (first|refine g_op rfl ?_|refine g_then ?_|refine g_nil ?_|refine g_storeAgg ?_|refine g_ret ?_)
 exact g_retCC rfl fun _ hw=>⟨rfl,hw.chg⟩
theorem lay_ok (u : LUnit) (hl : light u) (hch : (checkL u).1 = 0) (hN : ∀ X ∈ u.funcs,largeF (layF X) = false) (g fs : Value) (w0 : World) (hg : SlAt w0 g 3 u.globals GlobalV) (hf : SlAt w0 fs 4 u.funcs FuncV) (hways : CellsAt w0 0 0 waysC) :
  Ret Tryz.prog 6 [.agg #[g,fs]] w0 fun v w'=>∃ x : (Option Addr × Nat) × (Option Addr × Nat) × (Nat→Prop),v = .tuple #[.agg #[.slice x.1.1 u.globals.length x.1.2,.slice x.2.1.1 u.funcs.length x.2.1.2],.agg #[.int .i64 0,.int .i64 0]]∧Wd NoS w0 [unitE (layU u) (.slice x.1.1 u.globals.length x.1.2) (.slice x.2.1.1 u.funcs.length x.2.1.2) x.2.2] w'∧True:=by
 have hg0:=hg
 have hf0:=hf
 obtain ⟨ga,gn,gc,gb,go,rfl,_⟩:=hg
 obtain ⟨fa,fn,fc,fb,fo,rfl,hfn,_⟩:=hf
 refine ret_enter Tryz.func6 rfl Tryz.ntmps6 rfl (Wd.nil NoS w0) ?_
 repeat (first|refine g_op rfl ?_|refine g_then ?_|refine g_nil ?_|refine g_region ?_|refine g_seq ?_|refine g_box rfl fun _ _=>?_|refine g_alloc rfl fun _ _=>?_)
 rename_i p1 _ p2 _ p3 _
 refine g_callV rfl (fun w hw=>check_c u hl _ _ w (hg0.keep keeps_global hw.chg) (hf0.keep keeps_func hw.chg) (hways.keep hw.chg)) ?_
 rw [checkL_zero hch]
 repeat (first|refine g_op rfl ?_|refine g_then ?_|refine g_nil ?_|refine g_region ?_|refine g_seq ?_|refine g_alloc rfl fun _ _=>?_|refine g_storeAgg ?_|refine g_skip ?_|refine g_condF ?_)
 rename_i p4 _
 refine g_callE (val:=fun x : (Option Addr × Nat) × (Option Addr × Nat) × (Nat→Prop)=>.tuple #[.agg #[.slice x.1.1 u.globals.length x.1.2,.slice x.2.1.1 u.funcs.length x.2.1.2],.agg #[.int .i64 0,.int .i64 0]]) (E:=fun x=>[unitE (layU u) (.slice x.1.1 u.globals.length x.1.2) (.slice x.2.1.1 u.funcs.length x.2.1.2) x.2.2]) (φ:=fun _=>True) rfl (fun w hw=>(layEach_c u hl hch _ _ w (hg0.keep keeps_global hw.chg) (hf0.keep keeps_func hw.chg)).mono fun v w' h=>?_) fun x _=>?_
 ·rcases h with ⟨j,Y,h1,h2,_⟩|⟨_,ga,fa,gc,fc,fp,rfl,hw⟩
  ·rw [hN Y (List.mem_of_getElem? h1)] at h2
   cases h2
  ·exact ⟨((ga,gc),(fa,fc),fp),rfl,hw,trivial⟩
 obtain ⟨⟨ya,yc⟩,⟨za,zc⟩,fp⟩:=x
 simp only [List.cons_append,List.nil_append]
 repeat (first|refine g_op rfl ?_|refine g_then ?_|refine g_nil ?_|refine g_storeAgg ?_|refine g_ret ?_)
 refine g_retCC rfl fun w hw=>⟨((ya,yc),(za,zc),fp),rfl,hw.pick inferInstance,trivial⟩
end Go.Proofs.YtdbljcahlpkgdaaGreatDoor

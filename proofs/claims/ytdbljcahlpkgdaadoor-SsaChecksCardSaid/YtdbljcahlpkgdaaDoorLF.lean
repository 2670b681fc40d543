/- Texts joined: SsaL. -/
import Derived.Test.YtdbljcahlpkgdaaDoorHJ
import Derived.Test.YtdbljcahlpkgdaaDoorLE
namespace Go.Proofs.YtdbljcahlpkgdaaDoor
open Go Go.RowKit
attribute [local irreducible] wpListIn Code.wpIn Exit.then Exit.inBlock bodyPost wpQuiet wpAnyIn wpAnyH bodyPostM oneH
set_option maxHeartbeats 4000000
def badB : List LBlock:=[⟨[],[],2,⟨false,0⟩,[1]⟩,⟨[],[⟨22,-1,⟨true,0⟩,⟨false,0⟩,0,[]⟩],2,⟨false,0⟩,[1]⟩]
def badF : LFunc:=⟨mainN,0,1,badB⟩
def badU : LUnit:=⟨[],[badF]⟩
theorem bad_light : light badU:=⟨by decide,fun f hf=>by
 simp only [badU,List.mem_singleton] at hf
 subst hf
 exact ⟨by decide,by decide⟩⟩
theorem bad_check : checkL badU = (0,0):=by decide +kernel
theorem bad_rch {b : Nat} (hb : b < badB.length) : Rch badB (-1) 0 b:=by
 match b,hb with
 | 0,_=>exact .refl
 | 1,_=>exact Rch.refl.step (by unfold Edge toOf badB; simp) (by omega)
theorem bad_uses (W : List Wr) (hW : W = []) : ¬ UsesOk badB W:=fun h=>by
 subst hW
 obtain ⟨x,l,e,_⟩:=(h 1 _ rfl).list 0 _ rfl ⟨true,0⟩ (by decide) rfl
 cases e
theorem bad_wrong : wrongF badF = 6:=by
 classical
 show wrongL 0 1 badB = 6
 unfold wrongL
 rw [if_neg fun ⟨b,hb,hn⟩=>hn (bad_rch hb),if_neg (by decide),if_pos (bad_uses (allW 0 badB) rfl)]
theorem bad_ssa : ssaF badU = (6,0):=by
 unfold ssaF
 rw [bad_check,if_neg (by simp)]
 show ssaL [badF] 0 = (6,0)
 unfold ssaL
 rw [bad_wrong,if_pos (by decide)]
 rfl
theorem ringE_c (w0 : World) : Ret Tryd.prog 9 [] w0 fun u w'=>∃ x : Nat × Nat × Nat × Nat,u = .agg #[.slice none 0 0,.slice (some ⟨x.1,0,none⟩) 1 1]∧Wd NoS w0 [Ent.vec (some ⟨x.1,0,none⟩) 1 1 33 4 [.string mainN,.int .i64 0,.int .i64 0,.slice (some ⟨x.2.1,0,none⟩) 2 2],Ent.vec (some ⟨x.2.1,0,none⟩) 2 2 47 6 [.slice none 0 0,.slice none 0 0,.int .i64 2,.bool false,.int .i64 0,.slice (some ⟨x.2.2.1,0,none⟩) 1 1,.slice none 0 0,.slice none 0 0,.int .i64 2,.bool false,.int .i64 0,.slice (some ⟨x.2.2.2,0,none⟩) 1 1],Ent.vec (some ⟨x.2.2.2,0,none⟩) 1 1 3 1 [.int .i64 1],Ent.vec (some ⟨x.2.2.1,0,none⟩) 1 1 3 1 [.int .i64 1]] w'∧True:=by
 refine ret_enter Tryd.func9 rfl Tryd.ntmps9 rfl (Wd.nil NoS w0) ?_
 repeat (first|refine g_op rfl ?_|refine g_then ?_|refine g_nil ?_|refine g_region ?_|refine g_seq ?_|refine g_alloc rfl fun _ _=>?_|refine g_storeAgg ?_|refine g_build1 rfl rfl fun _ _=>?_)
 rename_i p0 _ t1 _ p1 _ t2 _ p2 _
 refine g_build2 rfl rfl fun bb _=>?_
 repeat (first|refine g_op rfl ?_|refine g_then ?_|refine g_nil ?_|refine g_storeAgg ?_|refine g_ret ?_|refine g_build1 rfl rfl fun _ _=>?_)
 rename_i fb _
 exact fun a w hS=>g_retC (P:=Tryd.prog) rfl (fun w hw=>⟨(fb,bb,t1,t2),rfl,hw.sel [0,1,3,5] (by decide),trivial⟩) a w hS
theorem bad_sl {S : Nat→Prop} {w0 w : World} {H : List Ent} {zf zb z1 z2 pI : Nat} (hw : Wd S w0 H w) (kf kb k2 k1 ki : Nat) (hf : H[kf]? = some (Ent.vec (some ⟨zf,0,none⟩) 1 1 33 4 [Value.string mainN,.int .i64 0,.int .i64 1,.slice (some ⟨zb,0,none⟩) 2 2])) (hb : H[kb]? = some (Ent.vec (some ⟨zb,0,none⟩) 2 2 47 6 [Value.slice none 0 0,.slice none 0 0,.int .i64 2,.bool false,.int .i64 0,.slice (some ⟨z1,0,none⟩) 1 1,.slice none 0 0,.slice (some ⟨pI,0,none⟩) 1 1,.int .i64 2,.bool false,.int .i64 0,.slice (some ⟨z2,0,none⟩) 1 1])) (h2 : H[k2]? = some (Ent.vec (some ⟨z2,0,none⟩) 1 1 3 1 [.int .i64 1])) (h1 : H[k1]? = some (Ent.vec (some ⟨z1,0,none⟩) 1 1 3 1 [.int .i64 1])) (hi : H[ki]? = some (Ent.vec (some ⟨pI,0,none⟩) 1 1 40 8 [.int .i64 22,.int .i64 (-1),.bool true,.int .i64 0,.bool false,.int .i64 0,.int .i64 0,.slice none 0 0])) :
  SlAt w (.slice (some ⟨zf,0,none⟩) 1 1) 4 badU.funcs FuncV:=by
 refine hw.slAt (k:=kf) hf rfl (by decide) fun i x hx=>?_
 match i,hx with
 | 0,hx =>
  simp only [badU,List.getElem?_cons_zero,Option.some.injEq] at hx
  subst hx
  refine ⟨[Value.string mainN,.int .i64 0,.int .i64 1,.slice (some ⟨zb,0,none⟩) 2 2],fun j v hj=>by simpa using hj,_,rfl,by simp [badF,inI],by simp [badF,inI],?_⟩
  refine hw.slAt (k:=kb) hb rfl (by omega) fun i x hx=>?_
  match i,hx with
  | 0,hx =>
   simp only [badF,badB,List.getElem?_cons_zero,Option.some.injEq] at hx
   subst hx
   refine ⟨[.slice none 0 0,.slice none 0 0,.int .i64 2,.bool false,.int .i64 0,.slice (some ⟨z1,0,none⟩) 1 1],fun j v hj=>?_,_,_,_,rfl,by simp [inI],by simp [inI],nil_sl _ _ _,nil_sl _ _ _,hw.slAt (k:=k1) h1 rfl (by omega) fun i x hx=>⟨[.int .i64 x],fun j v hj=>?_,rfl,?_⟩⟩
   ·match j,hj with
    | 0,hj|1,hj|2,hj|3,hj|4,hj|5,hj=>simpa using hj
   ·match i,j,hx,hj with
    | 0,0,hx,hj=>simp at hx hj ⊢; rw [hx]; exact hj
   ·match i,hx with
    | 0,hx=>simp at hx; subst hx; simp [inI]
  | 1,hx =>
   simp only [badF,badB,List.getElem?_cons_succ,List.getElem?_cons_zero,Option.some.injEq] at hx
   subst hx
   refine ⟨[.slice none 0 0,.slice (some ⟨pI,0,none⟩) 1 1,.int .i64 2,.bool false,.int .i64 0,.slice (some ⟨z2,0,none⟩) 1 1],fun j v hj=>?_,_,_,_,rfl,by simp [inI],by simp [inI],nil_sl _ _ _,hw.slAt (k:=ki) hi rfl (by omega) fun i x hx=>?_,hw.slAt (k:=k2) h2 rfl (by omega) fun i x hx=>⟨[.int .i64 x],fun j v hj=>?_,rfl,?_⟩⟩
   ·match j,hj with
    | 0,hj|1,hj|2,hj|3,hj|4,hj|5,hj=>simpa using hj
   ·match i,hx with
    | 0,hx =>
     simp only [List.getElem?_cons_zero,Option.some.injEq] at hx
     subst hx
     exact ⟨[.int .i64 22,.int .i64 (-1),.bool true,.int .i64 0,.bool false,.int .i64 0,.int .i64 0,.slice none 0 0],fun j v hj=>by simpa using hj,_,rfl,by simp [inI],by simp [inI],by simp [inI],by simp [inI],by simp [inI],nil_sl _ _ _⟩
   ·match i,j,hx,hj with
    | 0,0,hx,hj=>simp at hx hj ⊢; rw [hx]; exact hj
   ·match i,hx with
    | 0,hx=>simp at hx; subst hx; simp [inI]
theorem allW_count (n : Nat) (bl : List LBlock) : ((allW n bl).length : Int) ≤ n + sizeOfBs bl:=by
 have h1 : ∀ (i : Nat) (l : List LIns) (j : Nat),(listW i l j).length ≤ l.length:=by
  intro i l
  induction l with
  | nil=>intro j; simp [listW]
  | cons x l ih =>
   intro j
   have:=ih (j + 1)
   unfold listW
   rw [List.length_append,List.length_cons]
   split
   ·simp only [List.length_nil]; omega
   ·simp only [List.length_singleton]; omega
 have h2 : ∀ (l : List LBlock) (i : Nat),((blocksW l i).length : Int) ≤ sizeOfBs l:=by
  intro l
  induction l with
  | nil=>intro i; simp [blocksW,sizeOfBs]
  | cons B l ih =>
   intro i
   have h3:=ih (i + 1)
   have h4:=h1 i B.list 0
   unfold sizeOfBs at h3 ⊢
   simp only [blocksW,blockW,phisW,List.length_append,List.length_map,List.map_cons,List.sum_cons]
   omega
 have:=h2 bl 0
 unfold allW paramsW
 rw [List.length_append,List.length_map,List.length_range]
 omega
theorem list_size {bl : List LBlock} {B : LBlock} (hB : B ∈ bl) : (B.list.length : Int) ≤ sizeOfBs bl:=by
 induction bl with
 | nil=>cases hB
 | cons C l ih =>
  have hnn : ∀ m : List LBlock,0 ≤ (m.map fun b=>((b.phis.length + b.list.length : Nat) : Int)).sum:=fun m=>by
   induction m with
   | nil=>simp
   | cons b m ih=>simp only [List.map_cons,List.sum_cons]; omega
  unfold sizeOfBs at ih ⊢
  rw [List.map_cons,List.sum_cons]
  rcases List.mem_cons.1 hB with rfl|h
  ·have:=hnn l
   omega
  ·have:=ih h
   omega
theorem wrongF_c (u : LUnit) (hl : light u) (hch : (checkL u).1 = 0) {k : Nat} {X : LFunc} (hX : u.funcs[k]? = some X) (bs : Value) (w0 : World) (hbs : SlAt w0 bs 6 X.blocks BlockV) :
  RetV Tryd.prog 7 [.agg #[.string X.name,.int .i64 X.params,.int .i64 X.regs,bs]] w0 (.int .i64 (wrongF X)):=by
 have hhd:=check_head hch hX
 have hpos:=check_pos hch hX
 have hargs:=check_args hch hX
 have hl24:=hl.2 X (List.mem_of_getElem? hX)
 obtain ⟨R,hXR,hR,hfo⟩:=check_func hch hX
 obtain ⟨n,hXn⟩ : ∃ n : Nat,X.params = n:=⟨X.params.toNat,by omega⟩
 have hwf : wrongF X = wrongL n R X.blocks:=by unfold wrongF; rw [hXn,hXR]; rfl
 have hcnt:=allW_count n X.blocks
 rw [hXn,hXR,hwf]
 exact refWrong_c (.string X.name) n R X.blocks bs w0 hbs (by omega) hR hfo (by have:=hl24.1; omega) hpos hargs (by have:=hl24.2; omega) fun B hB=>by have:=list_size hB; have:=hl24.2; omega
theorem ssaChecksLaw_c (u : LUnit) (g fs : Value) (w0 : World) (hg : SlAt w0 g 3 u.globals GlobalV) (hf : SlAt w0 fs 4 u.funcs FuncV) (hways : CellsAt w0 0 0 waysC) :
  RetV Tryd.prog 3 [.agg #[g,fs]] w0 (.bool true):=by
 classical
 have hg0:=hg
 have hf0:=hf
 obtain ⟨ga,gn,gc,gb,go,rfl,hgn,_⟩:=hg
 obtain ⟨fa,fn,fc,fb,fo,rfl,hfn,hfnc,hfnb,hfc,hfa,hfel⟩:=hf
 refine ret_enter Tryd.func3 rfl Tryd.ntmps3 rfl (Wd.nil NoS w0) ?_
 repeat (first|refine g_op rfl ?_|refine g_then ?_|refine g_nil ?_|refine g_region ?_|refine g_seq ?_|refine g_box rfl fun _ _=>?_)
 rename_i p1 _
 refine g_callE (val:=fun b : Bool=>.bool b) (E:=fun _=>[]) (φ:=fun b=>b = false→slim u) rfl (fun w hw=>heavyS_c u _ _ w (hf0.keep keeps_func hw.chg) ⟨_,_,_,rfl⟩) fun b hb=>?_
 simp only [List.nil_append]
 cases b
 case true =>
  repeat (first|refine g_then ?_|refine g_nil ?_|refine g_region ?_|refine g_seq ?_|refine g_opS rfl ?_|refine g_condT ?_|refine g_ret ?_|refine g_thenRet ?_)
  exact g_retV rfl rfl
 have hsl:=hb rfl
 have hl:=hsl.light
 repeat (first|refine g_op rfl ?_|refine g_then ?_|refine g_nil ?_|refine g_region ?_|refine g_seq ?_|refine g_skip ?_|refine g_condF ?_)
 refine g_callV rfl (fun w hw=>ssaCheck_c u hl _ _ w (hg0.keep keeps_global hw.chg) (hf0.keep keeps_func hw.chg) (hways.keep hw.chg)) ?_
 repeat (first|refine g_op rfl ?_|refine g_then ?_|refine g_nil ?_|refine g_region ?_|refine g_seq ?_|refine g_alloc rfl fun _ _=>?_|refine g_storeAgg ?_)
 rename_i p3 _
 refine g_callV rfl (fun w hw=>check_c u hl _ _ w (hg0.keep keeps_global hw.chg) (hf0.keep keeps_func hw.chg) (hways.keep hw.chg)) ?_
 repeat (first|refine g_op rfl ?_|refine g_then ?_|refine g_nil ?_|refine g_region ?_|refine g_seq ?_|refine g_alloc rfl fun _ _=>?_|refine g_storeAgg ?_|refine g_block ?_)
 rename_i p4 _
 refine g_loop (fun x : Nat × Int × Int=>x.1 ≤ fn∧((x.2.1 ≠ 0∧x.2 = ssaF u) ∨ (x.2 = (0,0)∧(checkL u).1 = 0∧∀ j X,j < x.1→u.funcs[j]? = some X→wrongF X = 0))) (fun x=>[(5,.int .i64 x.1),(4,.pointer (some ⟨p4,0,none⟩)),(3,.pointer (some ⟨p3,0,none⟩)),(1,.pointer (some ⟨p1,0,none⟩))]) (fun x=>[Ent.box p4 [.int .i64 x.2.1,.int .i64 x.2.2] 28,Ent.box p3 [.int .i64 (ssaF u).1,.int .i64 (ssaF u).2] 28,Ent.box p1 [.slice ga gn gc,.slice fa fn fc] 25]) (fun x=>fn - x.1) (0,checkL u) ⟨Nat.zero_le _,?_⟩ (g_done (by repeat (first|exact trivial|refine ⟨rfl,?_⟩)) (.refl _)) fun x ⟨hk,hx⟩=>?_
 ·by_cases hbad : (checkL u).1 ≠ 0
  ·exact .inl ⟨hbad,(if_pos hbad).symm⟩
  ·have hch : (checkL u).1 = 0:=by simpa using hbad
   exact .inr ⟨checkL_zero hch,hch,fun _ _ h=>absurd h (Nat.not_lt_zero _)⟩
 obtain ⟨k,c,a⟩:=x
 simp only at hk hx ⊢
 repeat (first|refine g_op rfl ?_|refine g_region ?_|refine g_seq ?_)
 by_cases hgo : k < fn∧c = 0
 ·obtain ⟨hlt,rfl⟩:=hgo
  rw [decide_eq_true (show (k : Int) < (fn : Int) by omega)]
  obtain ⟨h,_⟩|⟨hca,hch,hall⟩:=hx
  ·exact absurd rfl h
  obtain ⟨_,rfl⟩:=Prod.mk.inj hca
  obtain ⟨X,hX⟩ : ∃ X,u.funcs[k]? = some X:=⟨_,List.getElem?_eq_getElem (by omega)⟩
  have had : AddrIs fa fb fo:=⟨hfa (ne_of_get hX)⟩
  have hli : LtIs k fn:=⟨hlt⟩
  obtain ⟨cs,hcs,bv,rfl,hpi,hri,hbv⟩:=hfel k X hX
  have hci : CellsIs w0 fb (fo + k * 4) _:=⟨hcs⟩
  have hssa : ssaF u = if wrongF X ≠ 0 then (wrongF X,(k : Int)) else ssaL (u.funcs.drop (k + 1)) (k + 1):=(if_neg (by simp [hch])).trans (ssaL_at hX hall)
  obtain ⟨ba,bn,bc,_,_,rfl,_⟩:=id hbv
  repeat (first|refine g_op rfl ?_|refine g_then ?_|refine g_nil ?_|refine g_region ?_|refine g_seq ?_|refine g_open ?_|refine g_block ?_|refine g_skip ?_|refine g_condT ?_)
  refine g_callV rfl (fun w hw=>wrongF_c u hl hch hX _ w (hbv.keep keeps_block hw.chg)) ?_
  repeat (first|refine g_op rfl ?_|refine g_then ?_|refine g_nil ?_)
  by_cases hw : wrongF X = 0
  ·rw [show (!decide (wrongF X = 0)) = false by simp [hw]]
   repeat (first|refine g_op rfl ?_|refine g_then ?_|refine g_nil ?_|refine g_region ?_|refine g_opS rfl ?_|refine g_inBlock ?_|refine g_skip ?_|refine g_condF ?_|refine g_add rfl (by omega) (by omega) ?_)
   exact g_next (k + 1,0,0) ⟨hlt,.inr ⟨rfl,hch,fun j Y hj hY=>by
    by_cases e : j = k
    ·subst e
     rw [hX] at hY
     obtain rfl:=Option.some.inj hY
     exact hw
    ·exact hall j Y (by simp only at hj; omega) hY⟩⟩ (by simp only; omega) (by repeat (first|exact trivial|refine ⟨rfl,?_⟩)) (.refl _)
  ·rw [show (!decide (wrongF X = 0)) = true by simp [hw]]
   repeat (first|refine g_op rfl ?_|refine g_region ?_|refine g_condT ?_)
   refine g_callV rfl (fun w hw=>wrongF_c u hl hch hX _ w (hbv.keep keeps_block hw.chg)) ?_
   repeat (refine g_op rfl ?_)
   refine g_callV rfl (fun w hw=>sameFault_c (wrongF X) (k : Int) w) ?_
   repeat (first|refine g_op rfl ?_|refine g_then ?_|refine g_nil ?_|refine g_region ?_|refine g_opS rfl ?_|refine g_storeAgg ?_|refine g_inBlock ?_|refine g_add rfl (by omega) (by omega) ?_)
   exact g_next (k + 1,wrongF X,(k : Int)) ⟨hlt,.inl ⟨hw,by rw [hssa,if_pos hw]⟩⟩ (by simp only; omega) (by repeat (first|exact trivial|refine ⟨rfl,?_⟩)) (.refl _)
 have hend : (c,a) = ssaF u:=by
  rcases hx with ⟨_,h⟩|⟨hca,hch,hall⟩
  ·exact h
  ·have hc0 : c = 0:=congrArg Prod.fst hca
   have hke : k = fn:=by
    refine Classical.byContradiction fun h=>hgo ⟨by omega,hc0⟩
   rw [hca]
   refine Eq.symm ((if_neg (by simp [hch])).trans ?_)
   rw [ssaL_drop (k:=k) (by omega) hall,List.drop_eq_nil_of_le (by omega)]
   rfl
 rw [← hend]
 refine g_joinTo 22 (.bool false) ?_ ?_
 ·by_cases h1 : k < fn
  ·rw [decide_eq_true (show (k : Int) < (fn : Int) by omega)]
   have hc0 : ¬ c = 0:=fun h=>hgo ⟨h1,h⟩
   repeat (first|refine g_op rfl ?_|refine g_then ?_|refine g_nil ?_|refine g_open ?_)
   rw [decide_eq_false hc0]
   skip
   exact g_done (by repeat (first|exact trivial|refine ⟨rfl,?_⟩)) (.refl _)
  ·rw [decide_eq_false (show ¬ (k : Int) < (fn : Int) by omega)]
   repeat (first|refine g_op rfl ?_|refine g_then ?_|refine g_nil ?_|refine g_pass rfl ?_)
   exact g_done (by repeat (first|exact trivial|refine ⟨rfl,?_⟩)) (.refl _)
 repeat (first|refine g_then ?_|refine g_nil ?_|refine g_region ?_|refine g_seq ?_|refine g_condF ?_|refine g_exit ?_|refine g_thenExit ?_|refine g_exitHere ?_)
 refine g_callE (val:=fun x : Nat × Nat × Nat × Nat=>.agg #[.slice none 0 0,.slice (some ⟨x.1,0,none⟩) 1 1]) (E:=fun x=>[(fun (x : Nat × Nat × Nat × Nat) (r : Int)=>Ent.vec (some ⟨x.1,0,none⟩) 1 1 33 4 [.string mainN,.int .i64 0,.int .i64 r,.slice (some ⟨x.2.1,0,none⟩) 2 2]) x 0,(fun (x : Nat × Nat × Nat × Nat) (v : Value)=>Ent.vec (some ⟨x.2.1,0,none⟩) 2 2 47 6 [.slice none 0 0,.slice none 0 0,.int .i64 2,.bool false,.int .i64 0,.slice (some ⟨x.2.2.1,0,none⟩) 1 1,.slice none 0 0,v,.int .i64 2,.bool false,.int .i64 0,.slice (some ⟨x.2.2.2,0,none⟩) 1 1]) x (.slice none 0 0),(fun t : Nat=>Ent.vec (some ⟨t,0,none⟩) 1 1 3 1 [.int .i64 1]) x.2.2.2,(fun t : Nat=>Ent.vec (some ⟨t,0,none⟩) 1 1 3 1 [.int .i64 1]) x.2.2.1]) (φ:=fun _=>True) rfl (fun w hw=>ringE_c w) fun x _=>?_
 obtain ⟨zf,zb,z1,z2⟩:=x
 simp only [List.cons_append,List.nil_append]
 have hl0 : LtIs 0 1:=⟨by omega⟩
 have hl1 : LtIs 1 2:=⟨by omega⟩
 have hl2 : LtIs 0 2:=⟨by omega⟩
 repeat (first|refine g_op rfl ?_|refine g_then ?_|refine g_nil ?_|refine g_region ?_|refine g_seq ?_|refine g_alloc rfl fun _ _=>?_|refine g_storeAgg ?_)
 rename_i p6 _
 have ho1 : OwnAt [Ent.box p6 [.slice none 0 0,.slice (some ⟨zf,0,none⟩) 1 1] 25,(fun (x : Nat × Nat × Nat × Nat) (r : Int)=>Ent.vec (some ⟨x.1,0,none⟩) 1 1 33 4 [.string mainN,.int .i64 0,.int .i64 r,.slice (some ⟨x.2.1,0,none⟩) 2 2]) (zf,zb,z1,z2) 0,(fun (x : Nat × Nat × Nat × Nat) (v : Value)=>Ent.vec (some ⟨x.2.1,0,none⟩) 2 2 47 6 [.slice none 0 0,.slice none 0 0,.int .i64 2,.bool false,.int .i64 0,.slice (some ⟨x.2.2.1,0,none⟩) 1 1,.slice none 0 0,v,.int .i64 2,.bool false,.int .i64 0,.slice (some ⟨x.2.2.2,0,none⟩) 1 1]) (zf,zb,z1,z2) (.slice none 0 0),(fun t : Nat=>Ent.vec (some ⟨t,0,none⟩) 1 1 3 1 [.int .i64 1]) z2,(fun t : Nat=>Ent.vec (some ⟨t,0,none⟩) 1 1 3 1 [.int .i64 1]) z1,Ent.box p4 [.int .i64 c,.int .i64 a] 28,Ent.box p3 [.int .i64 c,.int .i64 a] 28,Ent.box p1 [.slice ga gn gc,.slice fa fn fc] 25] zf (0 + 0 * 4 + 2) 1 0 (0 * 4 + 2) 1 1 33 4 ((fun r : Int=>[Value.string mainN,.int .i64 0,.int .i64 r,.slice (some ⟨zb,0,none⟩) 2 2]) 0):=⟨rfl,by omega⟩
 have hx1 : XSet ((fun r : Int=>[Value.string mainN,.int .i64 0,.int .i64 r,.slice (some ⟨zb,0,none⟩) 2 2]) 0) (0 * 4 + 2) (.int .i64 1) ((fun r : Int=>[Value.string mainN,.int .i64 0,.int .i64 r,.slice (some ⟨zb,0,none⟩) 2 2]) 1):=⟨rfl,by simp⟩
 have ho2 : OwnAt [Ent.box p6 [.slice none 0 0,.slice (some ⟨zf,0,none⟩) 1 1] 25,(fun (x : Nat × Nat × Nat × Nat) (r : Int)=>Ent.vec (some ⟨x.1,0,none⟩) 1 1 33 4 [.string mainN,.int .i64 0,.int .i64 r,.slice (some ⟨x.2.1,0,none⟩) 2 2]) (zf,zb,z1,z2) 1,(fun (x : Nat × Nat × Nat × Nat) (v : Value)=>Ent.vec (some ⟨x.2.1,0,none⟩) 2 2 47 6 [.slice none 0 0,.slice none 0 0,.int .i64 2,.bool false,.int .i64 0,.slice (some ⟨x.2.2.1,0,none⟩) 1 1,.slice none 0 0,v,.int .i64 2,.bool false,.int .i64 0,.slice (some ⟨x.2.2.2,0,none⟩) 1 1]) (zf,zb,z1,z2) (.slice none 0 0),(fun t : Nat=>Ent.vec (some ⟨t,0,none⟩) 1 1 3 1 [.int .i64 1]) z2,(fun t : Nat=>Ent.vec (some ⟨t,0,none⟩) 1 1 3 1 [.int .i64 1]) z1,Ent.box p4 [.int .i64 c,.int .i64 a] 28,Ent.box p3 [.int .i64 c,.int .i64 a] 28,Ent.box p1 [.slice ga gn gc,.slice fa fn fc] 25] zf (0 + 0 * 4 + 3) 1 0 (0 * 4 + 3) 1 1 33 4 ((fun r : Int=>[Value.string mainN,.int .i64 0,.int .i64 r,.slice (some ⟨zb,0,none⟩) 2 2]) 1):=⟨rfl,by omega⟩
 have hx2 : XAt ((fun r : Int=>[Value.string mainN,.int .i64 0,.int .i64 r,.slice (some ⟨zb,0,none⟩) 2 2]) 1) (0 * 4 + 3) (.slice (some ⟨zb,0,none⟩) 2 2):=⟨rfl⟩
 simp only at ho1 hx1 ho2 hx2
 repeat (first|refine g_op rfl ?_|refine g_then ?_|refine g_nil ?_|refine g_region ?_|refine g_seq ?_|refine g_storeV ?_|refine g_build1 rfl rfl fun _ _=>?_)
 rename_i pI _
 have hx3 : XSet ((fun v : Value=>[Value.slice none 0 0,.slice none 0 0,.int .i64 2,.bool false,.int .i64 0,.slice (some ⟨z1,0,none⟩) 1 1,.slice none 0 0,v,.int .i64 2,.bool false,.int .i64 0,.slice (some ⟨z2,0,none⟩) 1 1]) (.slice none 0 0)) 7 (.slice (some ⟨pI,0,none⟩) 1 1) ((fun v : Value=>[Value.slice none 0 0,.slice none 0 0,.int .i64 2,.bool false,.int .i64 0,.slice (some ⟨z1,0,none⟩) 1 1,.slice none 0 0,v,.int .i64 2,.bool false,.int .i64 0,.slice (some ⟨z2,0,none⟩) 1 1]) (.slice (some ⟨pI,0,none⟩) 1 1)):=⟨rfl,by simp⟩
 have ho3 : OwnAt [Ent.vec (some ⟨pI,0,none⟩) 1 1 40 8 [.int .i64 22,.int .i64 (-1),.bool true,.int .i64 0,.bool false,.int .i64 0,.int .i64 0,.slice none 0 0],Ent.box p6 [.slice none 0 0,.slice (some ⟨zf,0,none⟩) 1 1] 25,(fun (x : Nat × Nat × Nat × Nat) (r : Int)=>Ent.vec (some ⟨x.1,0,none⟩) 1 1 33 4 [.string mainN,.int .i64 0,.int .i64 r,.slice (some ⟨x.2.1,0,none⟩) 2 2]) (zf,zb,z1,z2) 1,(fun (x : Nat × Nat × Nat × Nat) (v : Value)=>Ent.vec (some ⟨x.2.1,0,none⟩) 2 2 47 6 [.slice none 0 0,.slice none 0 0,.int .i64 2,.bool false,.int .i64 0,.slice (some ⟨x.2.2.1,0,none⟩) 1 1,.slice none 0 0,v,.int .i64 2,.bool false,.int .i64 0,.slice (some ⟨x.2.2.2,0,none⟩) 1 1]) (zf,zb,z1,z2) (.slice none 0 0),(fun t : Nat=>Ent.vec (some ⟨t,0,none⟩) 1 1 3 1 [.int .i64 1]) z2,(fun t : Nat=>Ent.vec (some ⟨t,0,none⟩) 1 1 3 1 [.int .i64 1]) z1,Ent.box p4 [.int .i64 c,.int .i64 a] 28,Ent.box p3 [.int .i64 c,.int .i64 a] 28,Ent.box p1 [.slice ga gn gc,.slice fa fn fc] 25] zb (0 + 7) 3 0 7 2 2 47 6 ((fun v : Value=>[Value.slice none 0 0,.slice none 0 0,.int .i64 2,.bool false,.int .i64 0,.slice (some ⟨z1,0,none⟩) 1 1,.slice none 0 0,v,.int .i64 2,.bool false,.int .i64 0,.slice (some ⟨z2,0,none⟩) 1 1]) (.slice none 0 0)):=⟨rfl,rfl⟩
 simp only at hx3 ho3
 repeat (first|refine g_op rfl ?_|refine g_then ?_|refine g_nil ?_|refine g_region ?_|refine g_seq ?_|refine g_storeV ?_)
 rw [show (decide (c = c) && decide (a = a)) = true by simp]
 repeat (first|refine g_op rfl ?_|refine g_open ?_)
 refine g_callV rfl (fun w hw=>ssaCheck_c badU bad_light _ _ w (nil_sl _ _ _) (bad_sl hw 2 3 4 5 0 rfl rfl rfl rfl rfl) (hways.keep hw.chg)) ?_
 rw [bad_ssa]
 repeat (refine g_open ?_)
 refine g_callV rfl (fun w hw=>sameFault_c 6 0 w) ?_
 repeat (first|refine g_op rfl ?_|refine g_then ?_|refine g_nil ?_|refine g_open ?_|refine g_ret ?_)
 exact g_retV rfl rfl
end Go.Proofs.YtdbljcahlpkgdaaDoor

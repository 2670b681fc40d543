/- Texts joined: LayL. -/
import Derived.Test.YtdbljcahlpkgdaaGreatDoorHJ
import Derived.Test.YtdbljcahlpkgdaaGreatDoorHQ
import Derived.Test.YtdbljcahlpkgdaaGreatDoorKF
namespace Go.Proofs.YtdbljcahlpkgdaaGreatDoor
open Go Go.RowKit
attribute [local irreducible] wpListIn Code.wpIn Exit.then Exit.inBlock bodyPost wpQuiet wpAnyIn wpAnyH bodyPostM oneH
set_option maxHeartbeats 4000000
theorem fn_lay {u : LUnit} (hc : CheckOk u) {k : Nat} {X : LFunc} (hX : u.funcs[k]? = some X) : ∃ R : Nat,X.regs = R∧R ≤ 100∧FuncOk R X.blocks∧PosOk X.blocks∧0 < X.blocks.length∧manyL X.blocks ≤ 1000:=by
 obtain ⟨R,hXR,hR,hfo⟩:=check_func (check_zero.2 hc) hX
 have hs:=FnTo.same hc hX
 have h3:=hs.many
 have h4:=hs.size
 rw [← many_size] at h4
 exact ⟨R,hXR,hR,hfo,(fn_kind hc hX).2,by omega,by omega⟩
theorem layF_st {u : LUnit} (hc : CheckOk u) {k : Nat} {X : LFunc} (hX : u.funcs[k]? = some X) : (layF X).blocks.length ≤ 2 * X.blocks.length∧0 ≤ (layF X).regs∧(layF X).regs ≤ 1100:=by
 obtain ⟨R,hXR,hR,hfo,hp,_,hm⟩:=fn_lay hc hX
 have hst:=lays_st (loopsL_is X.blocks) hfo hp _ (Nat.le_refl _)
 have h1:=hst.len
 have h2:=hst.regs.2
 have h3:=many_le_take X.blocks X.blocks.length
 rw [layF_eq hXR]
 simp only
 omega
theorem layF_regs {u : LUnit} (hc : CheckOk u) {k : Nat} {X : LFunc} (hX : u.funcs[k]? = some X) : inI (layF X).regs:=by
 have:=layF_st hc hX
 exact ⟨by omega,by omega⟩
theorem layRow_c (u : LUnit) (hc : CheckOk u) (k : Nat) (X : LFunc) (hX : u.funcs[k]? = some X) (bs0 : Value) (w0 : World) (hbs : SlAt w0 bs0 6 X.blocks BlockV) (hlen : X.blocks.length ≤ 24) (hlim : FnLim X) :
  Ret Tryz.prog 10 [.agg #[.string X.name,.int .i64 X.params,.int .i64 X.regs,bs0]] w0 fun u w'=>∃ y : URow,u = .agg #[.string y.name,.int .i64 y.params,.int .i64 y.regs,.slice y.a y.bs.length y.c]∧Wd NoS w0 [uE y] w'∧(y.fn = layF X∧y.bs.length ≤ 1000∧∀ b ∈ y.bs,b.Bd):=by
 obtain ⟨R,hXR,hR,hfo,hp,hpos,hm⟩:=fn_lay hc hX
 have hst:=layF_st hc hX
 have hF:=layF_eq hXR
 obtain ⟨xn,xp,xr,xb⟩:=X
 simp only at *
 subst hXR
 refine (refLay_c xn xp R xb bs0 w0 hbs hlen hlim hR hm hfo hp hpos).mono fun u w' ⟨x,h1,h2,h3,h5⟩=>⟨⟨xn,xp,_,x.1,x.2.1,x.2.2⟩,h1,?_,?_,?_,h5⟩
 ·have h6 : Wd NoS w0 (fnE x.1 x.2.1 x.2.2++[]) w':=by rw [List.append_nil]; exact h2
  exact h6.join
 ·unfold URow.fn
  simp only [h3]
  rw [hF]
 ·have h4:=congrArg List.length h3
  rw [List.length_map] at h4
  rw [hF] at hst
  simp only at hst ⊢
  omega
theorem lay_told (u : LUnit) (hsl : slim u) (hch : (checkL u).1 = 0) (g fs : Value) (w0 : World) (hg : SlAt w0 g 3 u.globals GlobalV) (hf : SlAt w0 fs 4 u.funcs FuncV) (hways : CellsAt w0 0 0 waysC) :
  Ret Tryz.prog 6 [.agg #[g,fs]] w0 fun v w'=>∃ x : (Option Addr × Nat × Nat) × (Option Addr × Nat × Nat) × (Int × Int) × Ent,v = .tuple #[.agg #[.slice x.1.1 x.1.2.1 x.1.2.2,.slice x.2.1.1 x.2.1.2.1 x.2.1.2.2],.agg #[.int .i64 x.2.2.1.1,.int .i64 x.2.2.1.2]]∧Wd NoS w0 [x.2.2.2] w' ∧
   (inI x.2.2.1.2∧∀ w,x.2.2.2.ok w→Told (layU u) w (.slice x.1.1 x.1.2.1 x.1.2.2) (.slice x.2.1.1 x.2.1.2.1 x.2.1.2.2) x.2.2.1.1 x.2.2.1.2):=by
 have hN : ∀ j : Nat,(layU u).funcs[j]? = (u.funcs[j]?).map layF:=fun j=>by unfold layU; simp only [List.getElem?_map]
 rcases large_or u layF with ⟨i,X,hF⟩|hno
 ·refine (lay_big u hsl.light hch i X hF g fs w0 hg hf hways).mono fun v w' ⟨h1,h2⟩=>⟨((none,0,0),(none,0,0),(10,(i : Int)),⟨fps [],fun _=>True⟩),h1,?_,?_,fun w _=>.inl ⟨i,layF X,by rw [hN,hF.at']; rfl,hF.large,fun j Y hj hY=>?_,rfl,rfl,rfl,rfl⟩⟩
  ·exact Wd.pack (E:=[]) (H:=[]) ⟨h2,by simp,by simp,List.Pairwise.nil⟩ (fun _=>True) fun _ _=>trivial
  ·have h3:=(List.getElem?_eq_some_iff.1 hF.at').1
   have h4:=hsl.1
   exact ⟨by simp only; omega,by simp only; omega⟩
  ·rw [hN] at hY
   obtain ⟨Z,hZ,rfl⟩:=Option.map_eq_some_iff.1 hY
   exact hF.before j Z hj hZ
 ·refine (lay_ok u hsl.light hch hno g fs w0 hg hf hways).mono fun v w' ⟨x,h1,h2,_⟩=>⟨((x.1.1,u.globals.length,x.1.2),(x.2.1.1,u.funcs.length,x.2.1.2),(0,0),unitE (layU u) (.slice x.1.1 u.globals.length x.1.2) (.slice x.2.1.1 u.funcs.length x.2.1.2) x.2.2),h1,h2,⟨by simp,by simp⟩,fun w hw=>.inr ⟨fun Y hY=>?_,rfl,rfl,hw.1,hw.2⟩⟩
  unfold layU at hY
  obtain ⟨X,hX,rfl⟩:=List.mem_map.1 hY
  exact hno X hX
theorem loopsLaysLaw_c (u : LUnit) (g fs : Value) (w0 : World) (hg : SlAt w0 g 3 u.globals GlobalV) (hf : SlAt w0 fs 4 u.funcs FuncV) (hways : CellsAt w0 0 0 waysC) :
  RetV Tryz.prog 3 [.agg #[g,fs]] w0 (.bool true):=by
 classical
 have hg0:=hg
 have hf0:=hf
 obtain ⟨ga,gn,gc,gb,go,rfl,hgn,_⟩:=hg
 obtain ⟨fa,fn,fc,fb,fo,rfl,hfn,hfnc,hfnb,hfc,hfa,hfel⟩:=hf
 refine ret_enter Tryz.func3 rfl Tryz.ntmps3 rfl (Wd.nil NoS w0) ?_
 repeat (first|refine g_op rfl ?_|refine g_then ?_|refine g_nil ?_|refine g_region ?_|refine g_seq ?_|refine g_box rfl fun _ _=>?_)
 rename_i p1 _
 refine g_callE (val:=fun b : Bool=>.bool b) (E:=fun _=>[]) (φ:=fun b=>b = false→slim u) rfl (fun w hw=>heavyS_c u _ _ w (hf0.keep keeps_func hw.chg) ⟨_,_,_,rfl⟩) fun b hb=>?_
 simp only [List.nil_append]
 cases b
 case true =>
  repeat (first|refine g_then ?_|refine g_nil ?_|refine g_region ?_|refine g_seq ?_|refine g_opS rfl ?_|refine g_condT ?_|refine g_ret ?_|refine g_thenRet ?_)
  exact g_retV rfl rfl
 have hsl:=hb rfl
 have hl:=hsl.light
 repeat (first|refine g_op rfl ?_|refine g_then ?_|refine g_nil ?_|refine g_region ?_|refine g_seq ?_|refine g_skip ?_|refine g_condF ?_)
 by_cases hbad : (checkL u).1 ≠ 0
 ·refine g_callV rfl (fun w hw=>lay_bad u hl hbad _ _ w (hg0.keep keeps_global hw.chg) (hf0.keep keeps_func hw.chg) (hways.keep hw.chg)) ?_
  repeat (first|refine g_op rfl ?_|refine g_then ?_|refine g_nil ?_|refine g_region ?_|refine g_seq ?_|refine g_alloc rfl fun _ _=>?_|refine g_storeAgg ?_)
  refine g_callV rfl (fun w hw=>check_c u hl _ _ w (hg0.keep keeps_global hw.chg) (hf0.keep keeps_func hw.chg) (hways.keep hw.chg)) ?_
  repeat (first|refine g_op rfl ?_|refine g_then ?_|refine g_nil ?_|refine g_region ?_|refine g_seq ?_|refine g_alloc rfl fun _ _=>?_|refine g_storeAgg ?_)
  refine g_cond (fun h1=>?_) (fun h1=>?_)
  ·repeat (first|refine g_op rfl ?_|refine g_region ?_|refine g_seq ?_)
   rw [show (decide ((checkL u).1 = (checkL u).1) && decide ((checkL u).2 = (checkL u).2)) = true by simp]
   repeat (first|refine g_op rfl ?_|refine g_open ?_)
   refine g_callV rfl (fun w hw=>noneE_c w) ?_
   repeat (first|refine g_op rfl ?_|refine g_then ?_|refine g_nil ?_|refine g_opS rfl ?_|refine g_ret ?_|refine g_thenRet ?_)
   exact g_retV rfl rfl
  ·exact absurd h1 (by simp [hbad])
 have hch : (checkL u).1 = 0:=by simpa using hbad
 have hok:=check_zero.1 hch
 refine g_callE (val:=fun x : (Option Addr × Nat × Nat) × (Option Addr × Nat × Nat) × (Int × Int) × Ent=>.tuple #[.agg #[.slice x.1.1 x.1.2.1 x.1.2.2,.slice x.2.1.1 x.2.1.2.1 x.2.1.2.2],.agg #[.int .i64 x.2.2.1.1,.int .i64 x.2.2.1.2]]) (E:=fun x=>[x.2.2.2]) (φ:=fun x=>inI x.2.2.1.2∧∀ w,x.2.2.2.ok w→Told (layU u) w (.slice x.1.1 x.1.2.1 x.1.2.2) (.slice x.2.1.1 x.2.1.2.1 x.2.1.2.2) x.2.2.1.1 x.2.2.1.2) rfl (fun w hw=>lay_told u hsl hch _ _ w (hg0.keep keeps_global hw.chg) (hf0.keep keeps_func hw.chg) (hways.keep hw.chg)) fun x hx=>?_
 obtain ⟨⟨ya,yn,yc⟩,⟨za,zn,zc⟩,⟨vc,vk⟩,UE⟩:=x
 obtain ⟨hvk,htold⟩:=hx
 simp only at hvk htold
 simp only [List.cons_append,List.nil_append]
 repeat (first|refine g_op rfl ?_|refine g_then ?_|refine g_nil ?_|refine g_region ?_|refine g_seq ?_|refine g_alloc rfl fun _ _=>?_|refine g_storeAgg ?_)
 rename_i p3 _ p4 _
 refine g_callV rfl (fun w hw=>check_c u hl _ _ w (hg0.keep keeps_global hw.chg) (hf0.keep keeps_func hw.chg) (hways.keep hw.chg)) ?_
 rw [checkL_zero hch]
 repeat (first|refine g_op rfl ?_|refine g_then ?_|refine g_nil ?_|refine g_region ?_|refine g_seq ?_|refine g_alloc rfl fun _ _=>?_|refine g_storeAgg ?_|refine g_skip ?_|refine g_condF ?_)
 rename_i p5 _
 refine g_callE (val:=UMem.val) (E:=UMem.ents) (φ:=fun m=>m.unit = u∧m.Bd) rfl (fun w hw=>unitR_c u (check_glim hch) (check_few hl) (check_lim hl hch) _ _ w (hg0.keep keeps_global hw.chg) (hf0.keep keeps_func hw.chg)) fun m ⟨hmu,hmb⟩=>?_
 unfold UMem.val
 repeat (first|refine g_op rfl ?_|refine g_then ?_|refine g_nil ?_|refine g_region ?_|refine g_seq ?_|refine g_alloc rfl fun _ _=>?_|refine g_storeAgg ?_|refine g_block ?_)
 rename_i p6 _
 refine g_fix (L':=[(7,.int .i64 0),(6,.pointer (some ⟨p6,0,none⟩)),(4,.pointer (some ⟨p4,0,none⟩)),(3,.pointer (some ⟨p3,0,none⟩)),(1,.pointer (some ⟨p1,0,none⟩))]) (by repeat (first|exact trivial|refine ⟨rfl,?_⟩)) (.refl _) ?_
 have hmf : m.fs.length = fn:=by rw [hfn,← hmu]; unfold UMem.unit; simp only [List.length_map]
 refine g_wd (H':=Ent.box p6 [.slice m.ga m.gs.length m.gc,.slice m.fa fn m.fc] 25::Ent.box p1 [.slice ga gn gc,.slice fa fn fc] 25::Ent.box p3 [.slice ya yn yc,.slice za zn zc] 25::Ent.box p4 [.int .i64 vc,.int .i64 vk] 28::UE::(Ent.vec m.fa fn m.fc 35 4 (m.fs.flatMap uC)::gvE m::(m.gs.map gloE++m.fs.map uE))) (fun w hw=>?_) ?_
 ·refine hw.pick ⟨[Ent.box p5 [.int .i64 (0,0).1,.int .i64 (0,0).2] 28],?_⟩
  unfold UMem.ents gvE
  rw [hmf]
  classical
  refine List.perm_iff_count.2 fun e=>?_
  simp only [List.count_append,List.count_cons,List.count_nil]
  omega
 skip
 skip
 refine g_loop (fun x : Nat × List URow=>x.1 ≤ fn∧x.2.length = fn∧x.2.map URow.fn = (u.funcs.take x.1).map (layF)++u.funcs.drop x.1∧∀ y ∈ x.2,(inI y.params∧inI y.regs)∧(∀ b ∈ y.bs,b.Bd)∧y.bs.length ≤ 1000) (fun x=>[(7,.int .i64 x.1),(6,.pointer (some ⟨p6,0,none⟩)),(4,.pointer (some ⟨p4,0,none⟩)),(3,.pointer (some ⟨p3,0,none⟩)),(1,.pointer (some ⟨p1,0,none⟩))]) (fun x=>Ent.box p6 [.slice m.ga m.gs.length m.gc,.slice m.fa fn m.fc] 25::Ent.box p1 [.slice ga gn gc,.slice fa fn fc] 25::Ent.box p3 [.slice ya yn yc,.slice za zn zc] 25::Ent.box p4 [.int .i64 vc,.int .i64 vk] 28::UE::(Ent.vec m.fa fn m.fc 35 4 (x.2.flatMap uC)::gvE m::(m.gs.map gloE++x.2.map uE))) (fun x=>fn - x.1) (0,m.fs) ⟨Nat.zero_le _,hmf,?_,fun y hy=>?_⟩ (g_done (by repeat (first|exact trivial|refine ⟨rfl,?_⟩)) (.refl _)) fun x ⟨hi,hxl,hxm,hxb⟩=>?_
 ·rw [List.take_zero,List.drop_zero,List.map_nil,List.nil_append,← hmu]
  rfl
 ·have h2:=hmb.func y hy
  refine ⟨h2.1,h2.2,?_⟩
  have h3 : y.fn ∈ u.funcs:=by rw [← hmu]; exact List.mem_map.2 ⟨y,hy,rfl⟩
  have:=(check_lim hl hch _ h3).n
  simpa [URow.fn] using this
 obtain ⟨k,ys⟩:=x
 simp only at hi hxl hxm hxb ⊢
 repeat (first|refine g_op rfl ?_|refine g_then ?_|refine g_nil ?_|refine g_region ?_|refine g_seq ?_)
 refine g_cond (fun h1=>?_) (fun h1=>?_)
 ·have hlt : k < fn:=by simpa using h1
  obtain ⟨X,hX⟩ : ∃ X,u.funcs[k]? = some X:=⟨_,List.getElem?_eq_getElem (by omega)⟩
  have hXm:=List.mem_of_getElem? hX
  obtain ⟨y0,hy0⟩ : ∃ y0,ys[k]? = some y0:=⟨_,List.getElem?_eq_getElem (by omega)⟩
  have had : AddrIs fa fb fo:=⟨hfa (ne_of_get hX)⟩
  have hli : LtIs k fn:=⟨hlt⟩
  obtain ⟨_,hcs,bv,rfl,hpi,hri,hbv⟩:=hfel k X hX
  have hci : CellsIs w0 fb (fo + k * 4) _:=⟨hcs⟩
  have hbv0:=hbv
  obtain ⟨ba,bn,bc,_,_,rfl,hbn,_⟩:=hbv
  obtain ⟨R,hXR,hR,hFO⟩:=check_func hch hX
  have hlim:=check_lim hl hch X hXm
  have hsm:=(check_small hok hXm).2.2.1
  refine g_vec 5 rfl (by omega) fun vb vo hva=>?_
  rw [hva]
  repeat (first|refine g_then ?_|refine g_seq ?_|refine g_block ?_|refine g_skip ?_)
  refine g_drawX [Ent.box p6 [.slice m.ga m.gs.length m.gc,.slice (some ⟨vb,vo,none⟩) fn m.fc] 25,Ent.box p1 [.slice ga gn gc,.slice fa fn fc] 25] (fun y : URow=>y.fn = layF X∧y.bs.length ≤ 1000∧∀ b ∈ y.bs,b.Bd) (fun _=>[(7,.int .i64 k),(6,.pointer (some ⟨p6,0,none⟩)),(4,.pointer (some ⟨p4,0,none⟩)),(3,.pointer (some ⟨p3,0,none⟩)),(1,.pointer (some ⟨p1,0,none⟩))]) (fun y=>uE y::Ent.box p6 [.slice m.ga m.gs.length m.gc,.slice (some ⟨vb,vo,none⟩) fn m.fc] 25::Ent.box p1 [.slice ga gn gc,.slice fa fn fc] 25::Ent.box p3 [.slice ya yn yc,.slice za zn zc] 25::Ent.box p4 [.int .i64 vc,.int .i64 vk] 28::UE::(Ent.vec (some ⟨vb,vo,none⟩) fn m.fc 35 4 ((ys.set k y).flatMap uC)::gvE m::(m.gs.map gloE++ys.map uE))) mixed (by first|exact .cons_cons _ (.cons_cons _ (List.nil_sublist _))|exact .cons _ (.cons_cons _ (.cons_cons _ (List.nil_sublist _)))) ?_ fun y hy=>?_
  ·skip
   refine h_take 0 rfl (by decide +kernel) (by first|exact .cons_cons _ (.cons_cons _ (List.nil_sublist _))|exact .cons _ (.cons_cons _ (.cons_cons _ (List.nil_sublist _)))) ?_
   refine h_take 1 rfl (by decide +kernel) (by first|exact .cons_cons _ (.cons_cons _ (List.nil_sublist _))|exact .cons _ (.cons_cons _ (.cons_cons _ (List.nil_sublist _)))) ?_
   refine h_take 2 rfl (by decide +kernel) (by first|exact .cons_cons _ (.cons_cons _ (List.nil_sublist _))|exact .cons _ (.cons_cons _ (.cons_cons _ (List.nil_sublist _)))) ?_
   refine h_take 3 rfl (by decide +kernel) (by first|exact .cons_cons _ (.cons_cons _ (List.nil_sublist _))|exact .cons _ (.cons_cons _ (.cons_cons _ (List.nil_sublist _)))) ?_
   refine h_take 4 rfl (by decide +kernel) (by first|exact .cons_cons _ (.cons_cons _ (List.nil_sublist _))|exact .cons _ (.cons_cons _ (.cons_cons _ (List.nil_sublist _)))) ?_
   refine h_take 5 rfl (by decide +kernel) (by first|exact .cons_cons _ (.cons_cons _ (List.nil_sublist _))|exact .cons _ (.cons_cons _ (.cons_cons _ (List.nil_sublist _)))) ?_
   refine h_take 6 rfl (by decide +kernel) (by first|exact .cons_cons _ (.cons_cons _ (List.nil_sublist _))|exact .cons _ (.cons_cons _ (.cons_cons _ (List.nil_sublist _)))) ?_
   refine h_take 7 rfl (by decide +kernel) (by first|exact .cons_cons _ (.cons_cons _ (List.nil_sublist _))|exact .cons _ (.cons_cons _ (.cons_cons _ (List.nil_sublist _)))) ?_
   refine h_callE 8 (val:=fun y : URow=>.agg #[.string y.name,.int .i64 y.params,.int .i64 y.regs,.slice y.a y.bs.length y.c]) (E:=fun y=>[uE y]) (φ:=fun y=>y.fn = layF X∧y.bs.length ≤ 1000∧∀ b ∈ y.bs,b.Bd) rfl (by decide +kernel) (by first|exact .cons_cons _ (.cons_cons _ (List.nil_sublist _))|exact .cons _ (.cons_cons _ (.cons_cons _ (List.nil_sublist _)))) (fun w hw=>layRow_c u hok k X hX _ w (hbv0.keep keeps_block hw.chg) (hsl.2 X hXm).1 hlim) fun y hy=>?_
   simp only [List.cons_append,List.nil_append]
   refine h_take 9 rfl (by decide +kernel) (by first|exact .cons_cons _ (.cons_cons _ (List.nil_sublist _))|exact .cons _ (.cons_cons _ (.cons_cons _ (List.nil_sublist _)))) ?_
   refine h_one 10 (by decide +kernel) ?_
   refine o_storeVA 10 6 (j:=k * 4) rfl rfl (by rw [flat_len uC_len]; omega) (by first|exact .cons_cons _ (.cons_cons _ (List.nil_sublist _))|exact .cons _ (.cons_cons _ (.cons_cons _ (List.nil_sublist _)))) ?_
   rw [show [Value.string y.name,.int .i64 y.params,.int .i64 y.regs,.slice y.a y.bs.length y.c] = uC y from rfl,flat_put uC_len (by omega)]
   simp only [List.set_cons_zero,List.set_cons_succ]
   refine h_end (by decide +kernel) ?_
   exact g_mem y hy (by repeat (first|exact trivial|refine ⟨rfl,?_⟩)) (.refl _)
  ·obtain ⟨hy1,hy2,hy3⟩:=hy
   refine g_wd (H':=Ent.box p6 [.slice m.ga m.gs.length m.gc,.slice (some ⟨vb,vo,none⟩) fn m.fc] 25::Ent.box p1 [.slice ga gn gc,.slice fa fn fc] 25::Ent.box p3 [.slice ya yn yc,.slice za zn zc] 25::Ent.box p4 [.int .i64 vc,.int .i64 vk] 28::UE::(Ent.vec (some ⟨vb,vo,none⟩) fn m.fc 35 4 ((ys.set k y).flatMap uC)::gvE m::(m.gs.map gloE++(ys.set k y).map uE))) (fun w hw=>?_) ?_
   ·refine hw.pick ⟨[uE y0],?_⟩
    have h2:=map_pull uE hy0
    have h3:=map_pull uE (l:=ys.set k y) (k:=k) (x:=y) (List.getElem?_set_self (by omega))
    rw [List.eraseIdx_set_eq] at h3
    classical
    refine List.perm_iff_count.2 fun e=>?_
    have h4:=List.perm_iff_count.1 h2 e
    have h5:=List.perm_iff_count.1 h3 e
    simp only [List.count_append,List.count_cons,List.count_nil] at h4 h5 ⊢
    omega
   repeat (first|refine g_op rfl ?_|refine g_then ?_|refine g_nil ?_|refine g_region ?_|refine g_opS rfl ?_|refine g_inBlock ?_|refine g_add rfl (by omega) (by omega) ?_)
   refine g_next (k + 1,ys.set k y) ⟨hlt,by simp only; rw [List.length_set]; exact hxl,?_,fun z hz=>?_⟩ (by simp only; omega) ?_ ?_
   ·simp only
    rw [List.map_set,hxm,hy1,set_mid (by rw [List.length_map,List.length_take]; omega) (by omega),List.take_add_one,hX,List.map_append]
    rfl
   ·rcases List.mem_or_eq_of_mem_set hz with hz|rfl
    ·exact hxb z hz
    ·have h6 : z.params = X.params:=congrArg LFunc.params hy1
     have h7 : z.regs = (layF X).regs:=congrArg LFunc.regs hy1
     rw [h6,h7]
     exact ⟨⟨hpi,layF_regs hok hX⟩,hy3,by omega⟩
   ·exact (by repeat (first|exact trivial|refine ⟨rfl,?_⟩))
   ·exact List.Sublist.refl _
 ·obtain rfl : fn = k:=by have:=h1; simp at this; omega
  have hfin : (UMem.unit { m with fs:=ys }).funcs = (layU u).funcs:=by
   unfold UMem.unit layU
   simp only
   rw [hxm,hfn,List.take_length,List.drop_length,List.append_nil]
  have hfing : (UMem.unit { m with fs:=ys }).globals = (layU u).globals:=by
   unfold layU
   simp only
   rw [← hmu]
   rfl
  have hglen : m.gs.length = u.globals.length:=by rw [← hmu]; unfold UMem.unit; simp only [List.length_map]
  have hms : ∀ w,Wd NoS w0 (Ent.box p6 [.slice m.ga m.gs.length m.gc,.slice m.fa fn m.fc] 25::Ent.box p1 [.slice ga gn gc,.slice fa fn fc] 25::Ent.box p3 [.slice ya yn yc,.slice za zn zc] 25::Ent.box p4 [.int .i64 vc,.int .i64 vk] 28::UE::(Ent.vec m.fa fn m.fc 35 4 (ys.flatMap uC)::gvE m::(m.gs.map gloE++ys.map uE))) w→SlAt w (.slice m.ga m.gs.length m.gc) 3 (layU u).globals GlobalV∧SlAt w (.slice m.fa fn m.fc) 4 (layU u).funcs FuncV:=fun w hw=>by
   have h2 : Wd NoS w0 ((UMem.ents { m with fs:=ys })++[]) w:=by
    rw [List.append_nil]
    unfold UMem.ents
    simp only
    rw [hxl]
    exact hw.sub (.cons _ (.cons _ (.cons _ (.cons _ (.cons _ (.refl _))))))
   have h3:=UMem.sl (m:={ m with fs:=ys }) ⟨hmb.glob,fun y hy=>⟨(hxb y hy).1,(hxb y hy).2.1⟩⟩ ⟨by have:=hok.globs; simp only; omega,by have:=hl.1; simp only; omega,fun y hy=>(hxb y hy).2.2⟩ h2
   rw [hfin,hfing] at h3
   simp only [hxl] at h3
   exact h3
  repeat (first|refine g_op rfl ?_|refine g_then ?_|refine g_region ?_|refine g_seq ?_|refine g_exit ?_|refine g_thenExit ?_|refine g_exitHere ?_)
  refine g_callV rfl (fun w hw=>given_c _ _ _ _ vc vk _ _ (layU u) w (hms w hw).1 (hms w hw).2 (fun X hX=>?_) hvk (htold w (hw.get (k:=4) rfl))) ?_
  ·rw [← hfin] at hX
   unfold UMem.unit at hX
   obtain ⟨y,hy,rfl⟩:=List.mem_map.1 hX
   obtain ⟨_,h8,h9⟩:=hxb y hy
   refine ⟨by unfold URow.fn; simp only [List.length_map]; exact h9,fun C hC=>?_⟩
   obtain ⟨r,hr,rfl⟩:=List.mem_map.1 hC
   have h10:=h8 r hr
   unfold BRow.blk
   simp only [List.length_map]
   exact ⟨h10.phis,h10.list⟩
  repeat (first|refine g_op rfl ?_|refine g_then ?_|refine g_nil ?_|refine g_ret ?_)
  exact g_retV rfl rfl
end Go.Proofs.YtdbljcahlpkgdaaGreatDoor

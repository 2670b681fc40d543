/- Texts joined: RunI RunJ Vis RunK RunDo Means. -/
import Derived.Test.YtdbljcahlpkgdaaGreatDoorGE
import Derived.Test.YtdbljcahlpkgdaaGreatDoorGG
import Derived.Test.YtdbljcahlpkgdaaGreatDoorHE
import Derived.Test.YtdbljcahlpkgdaaGreatDoorHF
namespace Go.Proofs.YtdbljcahlpkgdaaGreatDoor
open Go Go.RowKit
attribute [local irreducible] wpListIn Code.wpIn Exit.then Exit.inBlock bodyPost wpQuiet wpAnyIn wpAnyH bodyPostM oneH
set_option maxHeartbeats 8000000
theorem perm_row {α : Type} (x y a b c d e f g : α) (T C : List α) : (x::y::a::b::c::d::e::f::g::(T++C)).Perm (a::b::c::d::e::f::g::((T++[y])++(C++[x]))):=by
 classical
 exact List.perm_iff_count.2 fun z=>by simp only [List.count_append,List.count_cons,List.count_nil]; omega
theorem counts_c (u : LUnit) (hl : light u) (h0 : (checkL u).1 = 0) (hs : StartOk u) (hu : UnitFit u) (g fs iv : Value) (inp : List Int) (fuel : Nat) (hfu : fuel ≤ 100000) (hinl : inp.length ≤ 30) (w0 : World) (hg : SlAt w0 g 3 u.globals GlobalV) (hf : SlAt w0 fs 4 u.funcs FuncV) (hin : SlAt w0 iv 1 inp IntV) (hways : CellsAt w0 0 0 waysC) :
  Ret Tryz.prog 59 [.agg #[g,fs],iv,.int .i64 fuel] w0 fun v w'=>∃ m : MacV,v = .tuple #[.slice m.ca m.cs.length m.cc,.agg #[.int .i64 m.state,.int .i64 m.value,.slice m.oa m.out.length m.oc,.int .i64 m.steps],.agg #[.int .i64 0,.int .i64 0]] ∧
   Wd NoS w0 (outE m::cnsE m::m.cs.map cnE) w'∧FinRep m (resultM u inp fuel):=by
 have hg0:=hg
 have hf0:=hf
 have hin0:=hin
 obtain ⟨ga,gn,gc,gb,go,rfl,hgn,hgnc,hgnb,hgc,hga,hgel⟩:=hg
 obtain ⟨fa,fn,fc,fb,fo,rfl,hfn,hfnc,hfnb,hfc,hfa,hfel⟩:=hf
 obtain ⟨ia,il,ic,ib,io,rfl,hil,hilc,hilb,hicb,hia,hiel⟩:=hin
 refine ret_enter Tryz.func59 rfl Tryz.ntmps59 rfl (Wd.nil NoS w0) ?_
 repeat (first|refine g_op rfl ?_|refine g_then ?_|refine g_nil ?_|refine g_region ?_|refine g_seq ?_|refine g_box rfl fun _ _=>?_|refine g_alloc rfl fun _ _=>?_)
 refine g_callV rfl (fun w hw=>check_c u hl _ _ w (hg0.keep keeps_global hw.chg) (hf0.keep keeps_func hw.chg) (hways.keep hw.chg)) ?_
 rw [checkL_zero h0]
 repeat (first|refine g_op rfl ?_|refine g_then ?_|refine g_nil ?_|refine g_region ?_|refine g_seq ?_|refine g_alloc rfl fun _ _=>?_|refine g_storeAgg ?_|refine g_skip ?_|refine g_condF ?_)
 rw [show decide ((30 : Int) < (il : Int)) = false by simp; omega]
 repeat (first|refine g_op rfl ?_|refine g_then ?_|refine g_region ?_|refine g_seq ?_|refine g_skip ?_|refine g_condF ?_)
 refine g_callV rfl (fun w _=>within_c _ _ _ w) ?_
 rw [show within (fuel : Int) 0 100000 = true by simp [within]; omega]
 repeat (first|refine g_op rfl ?_|refine g_then ?_|refine g_nil ?_|refine g_region ?_|refine g_seq ?_|refine g_box rfl fun _ _=>?_|refine g_block ?_|refine g_skip ?_|refine g_condF ?_)
 rename_i p3 _ p7 _ p8 _ p9 _ p _
 refine g_nilVecs 3 1 1 ?_
 refine g_loop (fun (x : Nat × Option Addr × Nat)=>x.1 ≤ gn) (fun x=>[(41,.int .i64 x.1),(39,(Value.slice ga gn gc)),(40,.int .i64 gn),(10,.pointer (some ⟨p,0,none⟩)),(3,.pointer (some ⟨p3,0,none⟩)),(7,.pointer (some ⟨p7,0,none⟩)),(8,.pointer (some ⟨p8,0,none⟩)),(2,.int .i64 fuel)]) (fun x=>[Ent.box p [(Value.slice ga gn gc),(Value.slice fa fn fc),(Value.slice none 0 0),.slice x.2.1 (memL (u.globals.take x.1)).length x.2.2,(Value.slice ia il ic),.int .i64 0,.int .i64 0,(Value.slice none 0 0),.int .i64 0,(Value.slice none 0 0),(Value.slice none 0 0)] 126,Ent.box p8 [.int .i64 0,.int .i64 0] 28,Ent.box p7 [.int .i64 0,.int .i64 0,.slice none 0 0,.int .i64 0] 73,Ent.box p3 [(Value.slice ga gn gc),(Value.slice fa fn fc)] 25,Ent.vec x.2.1 (memL (u.globals.take x.1)).length x.2.2 3 1 ((memL (u.globals.take x.1)).map (.int .i64))]) (fun x=>gn - x.1) (0,none,0)
  (Nat.zero_le _) (g_done (by repeat (first|exact trivial|refine ⟨rfl,?_⟩)) (.cons_cons _ (.cons _ (.refl _)))) fun x hi=>?_
 obtain ⟨i,ma,mc⟩:=x
 simp only at hi ⊢
 repeat (first|refine g_op rfl ?_|refine g_then ?_|refine g_nil ?_|refine g_region ?_|refine g_seq ?_)
 refine g_cond (fun h1=>?_) (fun h1=>?_)
 ·have hlt : i < gn:=by simpa using h1
  obtain ⟨G,hG⟩:=get_lt hgn hlt
  have hadg : AddrIs ga gb go:=⟨hga (ne_of_get hG)⟩
  have hli : LtIs i gn:=⟨hlt⟩
  obtain ⟨cs,hcs,Iv,rfl,hsz,hiv⟩:=hgel i G hG
  have hcig : CellsIs w0 gb (go + i * 3) _:=⟨hcs⟩
  have hiv0:=hiv
  obtain ⟨na,nn,nc,nb,no,rfl,hnn,hnnc,hnnb,hncb,hna,hnel⟩:=hiv
  have hGm:=List.mem_of_getElem? hG
  have hgl:=hs.glob G hGm
  have hml : (memL (u.globals.take i)).length ≤ 2000:=by
   have:=memL_len (l:=u.globals.take i) fun g hg=>hs.glob g (List.mem_of_mem_take hg)
   have h9:=hs.globs
   rw [List.length_take] at this
   omega
  repeat (first|refine g_op rfl ?_|refine g_then ?_|refine g_nil ?_|refine g_region ?_|refine g_seq ?_|refine g_alloc rfl fun _ _=>?_|refine g_storeAgg ?_|refine g_block ?_|refine g_skip ?_)
  rename_i p12 _
  obtain ⟨ml,hml'⟩ : ∃ ml,ml = memL (u.globals.take i):=⟨_,rfl⟩
  rw [← hml'] at hml ⊢
  refine g_drawX [Ent.box p12 [.string G.name,.int .i64 G.size,.slice na nn nc] 57] (fun _ : Option Addr × Nat=>True) (fun _=>[(12,.pointer (some ⟨p12,0,none⟩)),(41,.int .i64 i),(39,(Value.slice ga gn gc)),(40,.int .i64 gn),(10,.pointer (some ⟨p,0,none⟩)),(3,.pointer (some ⟨p3,0,none⟩)),(7,.pointer (some ⟨p7,0,none⟩)),(8,.pointer (some ⟨p8,0,none⟩)),(2,.int .i64 fuel)]) (fun x=>[Ent.box p12 [.string G.name,.int .i64 G.size,.slice na nn nc] 57,Ent.box p [(Value.slice ga gn gc),(Value.slice fa fn fc),(Value.slice none 0 0),.slice x.1 (ml.length + nn) x.2,(Value.slice ia il ic),.int .i64 0,.int .i64 0,(Value.slice none 0 0),.int .i64 0,(Value.slice none 0 0),(Value.slice none 0 0)] 126,Ent.box p8 [.int .i64 0,.int .i64 0] 28,Ent.box p7 [.int .i64 0,.int .i64 0,.slice none 0 0,.int .i64 0] 73,Ent.box p3 [(Value.slice ga gn gc),(Value.slice fa fn fc)] 25,Ent.vec x.1 (ml.length + nn) x.2 3 1 (ml.map (.int .i64)++G.init.flatMap fun y=>[.int .i64 y])]) mixed (by repeat (first|exact List.Sublist.refl _|exact List.nil_sublist _|refine List.Sublist.cons_cons _ ?_)) ?_ fun x _=>?_
  ·skip
   refine h_take 0 rfl (by decide +kernel) (by repeat (first|exact List.Sublist.refl _|exact List.nil_sublist _|refine List.Sublist.cons_cons _ ?_)) ?_
   refine h_take 1 rfl (by decide +kernel) (by repeat (first|exact List.Sublist.refl _|exact List.nil_sublist _|refine List.Sublist.cons_cons _ ?_)) ?_
   refine h_take 2 rfl (by decide +kernel) (by repeat (first|exact List.Sublist.refl _|exact List.nil_sublist _|refine List.Sublist.cons_cons _ ?_)) ?_
   refine h_take 3 rfl (by decide +kernel) (by repeat (first|exact List.Sublist.refl _|exact List.nil_sublist _|refine List.Sublist.cons_cons _ ?_)) ?_
   refine h_take 5 rfl (by decide +kernel) (by repeat (first|exact List.Sublist.refl _|exact List.nil_sublist _|refine List.Sublist.cons_cons _ ?_)) ?_
   refine h_take 6 rfl (by decide +kernel) (by repeat (first|exact List.Sublist.refl _|exact List.nil_sublist _|refine List.Sublist.cons_cons _ ?_)) ?_
   refine h_one 4 (by decide +kernel) (o_op 4 rfl (by repeat (first|exact List.Sublist.refl _|exact List.nil_sublist _|refine List.Sublist.cons_cons _ ?_)) ?_)
   refine h_one 7 (by decide +kernel) (o_appendF 7 rfl rfl G.init (V:=IntV) (fun y=>[.int .i64 y]) (fun _ _ _ h=>h.1) (fun _=>rfl) (fun _ v hv=>by rw [List.mem_singleton.1 hv]; rfl) (fun w hw=>hiv0.keep keeps_int hw.chg) (by omega) (by omega) (fun _=>(by repeat (first|exact List.Sublist.refl _|exact List.nil_sublist _|refine List.Sublist.cons_cons _ ?_))) fun a' c'=>?_)
   simp only [List.set_cons_zero,List.set_cons_succ]
   refine h_take 8 rfl (by decide +kernel) (by repeat (first|exact List.Sublist.refl _|exact List.nil_sublist _|refine List.Sublist.cons_cons _ ?_)) ?_
   refine h_take 9 rfl (by decide +kernel) (by repeat (first|exact List.Sublist.refl _|exact List.nil_sublist _|refine List.Sublist.cons_cons _ ?_)) ?_
   refine h_store 10 (by decide +kernel) (by repeat (first|exact List.Sublist.refl _|exact List.nil_sublist _|refine List.Sublist.cons_cons _ ?_)) ?_
   refine h_end (by decide +kernel) ?_
   exact g_mem (a',c') trivial (by repeat (first|exact trivial|refine ⟨rfl,?_⟩)) (.refl _)
  obtain ⟨a1,c1⟩:=x
  simp only
  have hfm : (ml.map (.int .i64)++G.init.flatMap fun y=>[Value.int .i64 y]) = (ml++G.init).map (.int .i64):=by rw [flat_one,← List.map_append]
  obtain ⟨k,hk⟩ : ∃ k : Nat,k = G.size.toNat - G.init.length:=⟨_,rfl⟩
  have hks : G.size - (nn : Int) = k:=by omega
  have hkl : k ≤ 200:=by omega
  repeat (refine g_then ?_)
  refine g_drawX [Ent.box p12 [.string G.name,.int .i64 G.size,.slice na nn nc] 57] (fun _ : Option Addr × Nat=>True) (fun _=>[(41,.int .i64 i),(39,(Value.slice ga gn gc)),(40,.int .i64 gn),(10,.pointer (some ⟨p,0,none⟩)),(3,.pointer (some ⟨p3,0,none⟩)),(7,.pointer (some ⟨p7,0,none⟩)),(8,.pointer (some ⟨p8,0,none⟩)),(2,.int .i64 fuel)]) (fun x=>[Ent.box p [(Value.slice ga gn gc),(Value.slice fa fn fc),(Value.slice none 0 0),.slice x.1 (ml.length + nn + k) x.2,(Value.slice ia il ic),.int .i64 0,.int .i64 0,(Value.slice none 0 0),.int .i64 0,(Value.slice none 0 0),(Value.slice none 0 0)] 126,Ent.box p8 [.int .i64 0,.int .i64 0] 28,Ent.box p7 [.int .i64 0,.int .i64 0,.slice none 0 0,.int .i64 0] 73,Ent.box p3 [(Value.slice ga gn gc),(Value.slice fa fn fc)] 25,Ent.vec x.1 (ml.length + nn + k) x.2 3 1 ((ml.map (.int .i64)++G.init.flatMap fun y=>[.int .i64 y])++List.replicate k (.int .i64 0))]) mixed (by repeat (first|exact List.Sublist.refl _|exact List.nil_sublist _|refine List.Sublist.cons_cons _ ?_)) ?_ fun x _=>?_
  ·skip
   refine h_take 0 rfl (by decide +kernel) (by repeat (first|exact List.Sublist.refl _|exact List.nil_sublist _|refine List.Sublist.cons_cons _ ?_)) ?_
   refine h_take 1 rfl (by decide +kernel) (by repeat (first|exact List.Sublist.refl _|exact List.nil_sublist _|refine List.Sublist.cons_cons _ ?_)) ?_
   refine h_take 2 rfl (by decide +kernel) (by repeat (first|exact List.Sublist.refl _|exact List.nil_sublist _|refine List.Sublist.cons_cons _ ?_)) ?_
   refine h_take 3 rfl (by decide +kernel) (by repeat (first|exact List.Sublist.refl _|exact List.nil_sublist _|refine List.Sublist.cons_cons _ ?_)) ?_
   refine h_take 5 rfl (by decide +kernel) (by repeat (first|exact List.Sublist.refl _|exact List.nil_sublist _|refine List.Sublist.cons_cons _ ?_)) ?_
   refine h_take 6 rfl (by decide +kernel) (by repeat (first|exact List.Sublist.refl _|exact List.nil_sublist _|refine List.Sublist.cons_cons _ ?_)) ?_
   refine h_take 7 rfl (by decide +kernel) (by repeat (first|exact List.Sublist.refl _|exact List.nil_sublist _|refine List.Sublist.cons_cons _ ?_)) ?_
   refine h_take 8 rfl (by decide +kernel) (by repeat (first|exact List.Sublist.refl _|exact List.nil_sublist _|refine List.Sublist.cons_cons _ ?_)) ?_
   refine h_take 9 rfl (by decide +kernel) (by repeat (first|exact List.Sublist.refl _|exact List.nil_sublist _|refine List.Sublist.cons_cons _ ?_)) ?_
   refine h_take (h:=runs_sub (by unfold inI at hsz; omega) (by unfold inI at hsz; omega)) 10 rfl (by decide +kernel) (by repeat (first|exact List.Sublist.refl _|exact List.nil_sublist _|refine List.Sublist.cons_cons _ ?_)) ?_
   rw [hks]
   refine h_one 4 (by decide +kernel) (o_op 4 rfl (by repeat (first|exact List.Sublist.refl _|exact List.nil_sublist _|refine List.Sublist.cons_cons _ ?_)) ?_)
   refine h_one 11 (by decide +kernel) (o_appendZ 11 (kd:=.i64) Tryz.underlying3 rfl rfl (by omega) (by omega) (by decide) (fun _=>(by repeat (first|exact List.Sublist.refl _|exact List.nil_sublist _|refine List.Sublist.cons_cons _ ?_))) fun a' c'=>?_)
   simp only [List.set_cons_zero,List.set_cons_succ]
   refine h_take 12 rfl (by decide +kernel) (by repeat (first|exact List.Sublist.refl _|exact List.nil_sublist _|refine List.Sublist.cons_cons _ ?_)) ?_
   refine h_take 13 rfl (by decide +kernel) (by repeat (first|exact List.Sublist.refl _|exact List.nil_sublist _|refine List.Sublist.cons_cons _ ?_)) ?_
   refine h_store 14 (by decide +kernel) (by repeat (first|exact List.Sublist.refl _|exact List.nil_sublist _|refine List.Sublist.cons_cons _ ?_)) ?_
   refine h_end (by decide +kernel) ?_
   exact g_mem (a',c') trivial (by repeat (first|exact trivial|refine ⟨rfl,?_⟩)) (List.sublist_cons_self _ _)
  obtain ⟨a2,c2⟩:=x
  simp only
  rw [hfm]
  have hmt:=memL_take hG
  rw [← hml',← hk,← List.append_assoc] at hmt
  repeat (first|refine g_then ?_|refine g_nil ?_|refine g_region ?_|refine g_opS rfl ?_|refine g_inBlock ?_|refine g_add rfl (by omega) (by omega) ?_)
  rw [show (i : Int) + 1 = ((i + 1 : Nat) : Int) by omega]
  skip
  refine g_next (i + 1,a2,c2) hlt (by simp only; omega) (by repeat (first|exact trivial|refine ⟨rfl,?_⟩)) ?_
  simp only [hmt,List.map_append,List.map_replicate,List.length_append,List.length_replicate,← hnn]
  exact List.Sublist.refl _
 have hig : gn = i:=by have:=h1; simp at this; omega
 subst hig
 rw [show u.globals.take gn = u.globals by rw [hgn,List.take_length]]
 repeat (first|refine g_op rfl ?_|refine g_then ?_|refine g_nil ?_|refine g_region ?_|refine g_seq ?_|refine g_block ?_|refine g_exit ?_|refine g_thenExit ?_|refine g_exitHere ?_)
 refine g_nilVecs 40 1 1 ?_
 refine g_nilVecs 38 1 1 ?_
 obtain ⟨ml,hml⟩ : ∃ ml,ml = memL u.globals:=⟨_,rfl⟩
 rw [← hml]
 refine g_loop (fun (x : Nat × (Option Addr × Nat × List TabR) × (Option Addr × Nat × List CRow))=>x.1 ≤ fn∧x.2.1.2.2.map (·.l) = (aheadsL u).take x.1∧x.2.2.2.2.map (·.l) = (u.funcs.take x.1).map fun X=>List.replicate X.blocks.length 0) (fun x=>[(73,.int .i64 x.1),(71,(Value.slice fa fn fc)),(72,.int .i64 fn),(10,.pointer (some ⟨p,0,none⟩)),(3,.pointer (some ⟨p3,0,none⟩)),(7,.pointer (some ⟨p7,0,none⟩)),(8,.pointer (some ⟨p8,0,none⟩)),(2,.int .i64 fuel)])
  (fun x=>Ent.box p [(Value.slice ga gn gc),(Value.slice fa fn fc),.slice x.2.1.1 x.2.1.2.2.length x.2.1.2.1,.slice ma ml.length mc,(Value.slice ia il ic),.int .i64 0,.int .i64 0,(Value.slice none 0 0),.int .i64 0,(Value.slice none 0 0),.slice x.2.2.1 x.2.2.2.2.length x.2.2.2.1] 126::Ent.box p8 [.int .i64 0,.int .i64 0] 28::Ent.box p7 [.int .i64 0,.int .i64 0,.slice none 0 0,.int .i64 0] 73::Ent.box p3 [(Value.slice ga gn gc),(Value.slice fa fn fc)] 25::Ent.vec ma ml.length mc 3 1 (ml.map (.int .i64))::Ent.vec x.2.1.1 x.2.1.2.2.length x.2.1.2.1 40 1 (x.2.1.2.2.map tabV)::Ent.vec x.2.2.1 x.2.2.2.2.length x.2.2.2.1 38 1 (x.2.2.2.2.map cnV)::(x.2.1.2.2.map tabE++x.2.2.2.2.map cnE)) (fun x=>fn - x.1) (0,(none,0,[]),(none,0,[]))
  ⟨Nat.zero_le _,rfl,rfl⟩ (g_done (by repeat (first|exact trivial|refine ⟨rfl,?_⟩)) (.refl _)) fun x hi=>?_
 obtain ⟨k,⟨aa,ac,ts⟩,⟨ca,cc,cs⟩⟩:=x
 simp only at hi ⊢
 obtain ⟨hk,hts,hcs⟩:=hi
 have hahl : (aheadsL u).length = fn:=by simp [aheadsL,hfn]
 have htl : ts.length = k:=by have:=congrArg List.length hts; rw [List.length_map,List.length_take] at this; omega
 have hcl : cs.length = k:=by have:=congrArg List.length hcs; rw [List.length_map,List.length_map,List.length_take] at this; omega
 have hf10:=hs.funcs
 repeat (first|refine g_op rfl ?_|refine g_then ?_|refine g_nil ?_|refine g_region ?_|refine g_seq ?_)
 refine g_cond (fun h1=>?_) (fun h1=>?_)
 ·have hlt : k < fn:=by simpa using h1
  obtain ⟨X,hX⟩:=get_lt hfn hlt
  have hadf : AddrIs fa fb fo:=⟨hfa (ne_of_get hX)⟩
  have hli : LtIs k fn:=⟨hlt⟩
  obtain ⟨fcs,hfcs,bv,rfl,_,_,hbv⟩:=hfel k X hX
  have hcif : CellsIs w0 fb (fo + k * 4) _:=⟨hfcs⟩
  obtain ⟨ba,bn,bc,_,_,rfl,hbn,_⟩:=hbv
  obtain ⟨R,hfit⟩:=hu.2 k X hX
  have hbl:=hfit.few
  repeat (first|refine g_op rfl ?_|refine g_then ?_|refine g_nil ?_|refine g_region ?_|refine g_seq ?_|refine g_alloc rfl fun _ _=>?_|refine g_storeAgg ?_|refine g_block ?_|refine g_skip ?_)
  rename_i p14 _
  refine g_callE (val:=fun x : (Option Addr × Nat × Nat) × (Nat→Prop)=>.tuple #[.slice x.1.1 x.1.2.1 x.1.2.2,.agg #[.int .i64 0,.int .i64 0]]) (E:=fun x=>[⟨x.2,fun w=>SlAt w (.slice x.1.1 x.1.2.1 x.1.2.2) 1 (aheadL X.blocks) RowV⟩]) (φ:=fun _=>True) rfl (fun w hw=>tabOf_c u hl h0 k X hX hbl hfit.ok.good _ _ w (hg0.keep keeps_global hw.chg) (hf0.keep keeps_func hw.chg) (hways.keep hw.chg)) fun x _=>?_
  obtain ⟨⟨ta,tn,tc⟩,tf⟩:=x
  simp only [List.cons_append,List.nil_append]
  repeat (first|refine g_op rfl ?_|refine g_then ?_|refine g_nil ?_|refine g_region ?_|refine g_seq ?_|refine g_alloc rfl fun _ _=>?_|refine g_storeAgg ?_|refine g_build1 rfl rfl fun _ _=>?_)
  rename_i p16 _ q1 _
  refine g_appendAt 9 rfl rfl (by decide +kernel) (by omega) (by omega) fun na nc=>?_
  simp only [List.set_cons_succ,List.set_cons_zero]
  repeat (first|refine g_op rfl ?_|refine g_then ?_|refine g_nil ?_|refine g_store ?_)
  refine g_drawX [Ent.box p14 [.string X.name,.int .i64 X.params,.int .i64 X.regs,.slice ba bn bc] 35] (fun _ : (Option Addr × Nat) × Nat=>True) (fun _=>[(73,.int .i64 k),(71,(Value.slice fa fn fc)),(72,.int .i64 fn),(10,.pointer (some ⟨p,0,none⟩)),(3,.pointer (some ⟨p3,0,none⟩)),(7,.pointer (some ⟨p7,0,none⟩)),(8,.pointer (some ⟨p8,0,none⟩)),(2,.int .i64 fuel)]) (fun x=>Ent.vec (some ⟨x.2,0,none⟩) bn bn 3 1 (List.replicate bn (.int .i64 0))::tabE (⟨ta,tn,tc,tf,aheadL X.blocks⟩ : TabR)::Ent.box p [(Value.slice ga gn gc),(Value.slice fa fn fc),.slice na (ts.length + 1) nc,.slice ma ml.length mc,(Value.slice ia il ic),.int .i64 0,.int .i64 0,(Value.slice none 0 0),.int .i64 0,(Value.slice none 0 0),.slice x.1.1 (cs.length + 1) x.1.2] 126::Ent.box p8 [.int .i64 0,.int .i64 0] 28::Ent.box p7 [.int .i64 0,.int .i64 0,.slice none 0 0,.int .i64 0] 73::Ent.box p3 [(Value.slice ga gn gc),(Value.slice fa fn fc)] 25::Ent.vec ma ml.length mc 3 1 (ml.map (.int .i64))::Ent.vec na (ts.length + 1) nc 40 1 (ts.map tabV++[tabV (⟨ta,tn,tc,tf,aheadL X.blocks⟩ : TabR)])::Ent.vec x.1.1 (cs.length + 1) x.1.2 38 1 (cs.map cnV++[.slice (some ⟨x.2,0,none⟩) bn bn])::(ts.map tabE++cs.map cnE)) mixed (.cons _ (.cons _ (.cons _ (.cons_cons _ (List.nil_sublist _))))) ?_ fun x _=>?_
  ·skip
   refine h_take 0 rfl (by decide +kernel) (.cons _ (.cons _ (.cons _ (.cons_cons _ (List.nil_sublist _))))) ?_
   refine h_take 1 rfl (by decide +kernel) (.cons _ (.cons _ (.cons _ (.cons_cons _ (List.nil_sublist _))))) ?_
   refine h_take 2 rfl (by decide +kernel) (.cons _ (.cons _ (.cons _ (.cons_cons _ (List.nil_sublist _))))) ?_
   refine h_take 3 rfl (by decide +kernel) (.cons _ (.cons _ (.cons _ (.cons_cons _ (List.nil_sublist _))))) ?_
   refine h_take 5 rfl (by decide +kernel) (.cons _ (.cons _ (.cons _ (.cons_cons _ (List.nil_sublist _))))) ?_
   refine h_take 6 rfl (by decide +kernel) (.cons _ (.cons _ (.cons _ (.cons_cons _ (List.nil_sublist _))))) ?_
   refine h_take 7 rfl (by decide +kernel) (.cons _ (.cons _ (.cons _ (.cons_cons _ (List.nil_sublist _))))) ?_
   refine h_two 4 8 (by decide +kernel) ?_ ?_
   ·refine o_op 4 rfl (.cons _ (.cons _ (.cons _ (.cons_cons _ (List.nil_sublist _))))) ?_
    refine h_one 8 (by decide +kernel) (o_make 8 (n:=bn) rfl (by omega) (by omega) (.cons _ (.cons _ (.cons _ (.cons_cons _ (List.nil_sublist _))))) fun q2 _=>?_)
    refine h_one 9 (by decide +kernel) (o_build1 9 rfl (by decide +kernel) (.cons _ (.cons _ (.cons _ (.cons _ (.cons_cons _ (List.nil_sublist _)))))) fun q3 _=>?_)
    refine h_append 10 12 rfl rfl (by decide +kernel) (by omega) (by omega) (by decide +kernel) (fun _=>(.cons _ (.cons _ (.cons _ (.cons _ (.cons _ (.cons_cons _ (List.nil_sublist _)))))))) fun nd ne=>?_
    simp only [List.set_cons_succ,List.set_cons_zero]
    refine h_take 11 rfl (by decide +kernel) (.cons _ (.cons _ (.cons _ (.cons _ (.cons _ (.cons_cons _ (List.nil_sublist _))))))) ?_
    refine h_take 12 rfl (by decide +kernel) (.cons _ (.cons _ (.cons _ (.cons _ (.cons _ (.cons_cons _ (List.nil_sublist _))))))) ?_
    refine h_store 13 (by decide +kernel) (.cons _ (.cons _ (.cons _ (.cons _ (.cons _ (.cons_cons _ (List.nil_sublist _))))))) ?_
    refine h_end (by decide +kernel) ?_
    exact g_mem ((nd,ne),q2) trivial (by repeat (first|exact trivial|refine ⟨rfl,?_⟩)) (by repeat (first|exact List.Sublist.refl _|refine List.Sublist.cons_cons _ ?_|refine List.Sublist.cons _ ?_))
   ·refine o_make 8 (n:=bn) rfl (by omega) (by omega) (.cons _ (.cons _ (.cons _ (.cons_cons _ (List.nil_sublist _))))) fun q2 _=>?_
    refine h_two 4 9 (by decide +kernel) ?_ ?_
    ·refine o_op 4 rfl (.cons _ (.cons _ (.cons _ (.cons _ (.cons_cons _ (List.nil_sublist _)))))) ?_
     refine h_one 9 (by decide +kernel) (o_build1 9 rfl (by decide +kernel) (.cons _ (.cons _ (.cons _ (.cons _ (.cons_cons _ (List.nil_sublist _)))))) fun q3 _=>?_)
     refine h_append 10 12 rfl rfl (by decide +kernel) (by omega) (by omega) (by decide +kernel) (fun _=>(.cons _ (.cons _ (.cons _ (.cons _ (.cons _ (.cons_cons _ (List.nil_sublist _)))))))) fun nd ne=>?_
     simp only [List.set_cons_succ,List.set_cons_zero]
     refine h_take 11 rfl (by decide +kernel) (.cons _ (.cons _ (.cons _ (.cons _ (.cons _ (.cons_cons _ (List.nil_sublist _))))))) ?_
     refine h_take 12 rfl (by decide +kernel) (.cons _ (.cons _ (.cons _ (.cons _ (.cons _ (.cons_cons _ (List.nil_sublist _))))))) ?_
     refine h_store 13 (by decide +kernel) (.cons _ (.cons _ (.cons _ (.cons _ (.cons _ (.cons_cons _ (List.nil_sublist _))))))) ?_
     refine h_end (by decide +kernel) ?_
     exact g_mem ((nd,ne),q2) trivial (by repeat (first|exact trivial|refine ⟨rfl,?_⟩)) (by repeat (first|exact List.Sublist.refl _|refine List.Sublist.cons_cons _ ?_|refine List.Sublist.cons _ ?_))
    ·refine o_build1 9 rfl (by decide +kernel) (.cons _ (.cons _ (.cons _ (.cons _ (.cons_cons _ (List.nil_sublist _)))))) fun q3 _=>?_
     refine h_one 4 (by decide +kernel) (o_op 4 rfl (.cons _ (.cons _ (.cons _ (.cons _ (.cons _ (.cons_cons _ (List.nil_sublist _))))))) ?_)
     refine h_append 10 12 rfl rfl (by decide +kernel) (by omega) (by omega) (by decide +kernel) (fun _=>(.cons _ (.cons _ (.cons _ (.cons _ (.cons _ (.cons_cons _ (List.nil_sublist _)))))))) fun nd ne=>?_
     simp only [List.set_cons_succ,List.set_cons_zero]
     refine h_take 11 rfl (by decide +kernel) (.cons _ (.cons _ (.cons _ (.cons _ (.cons _ (.cons_cons _ (List.nil_sublist _))))))) ?_
     refine h_take 12 rfl (by decide +kernel) (.cons _ (.cons _ (.cons _ (.cons _ (.cons _ (.cons_cons _ (List.nil_sublist _))))))) ?_
     refine h_store 13 (by decide +kernel) (.cons _ (.cons _ (.cons _ (.cons _ (.cons _ (.cons_cons _ (List.nil_sublist _))))))) ?_
     refine h_end (by decide +kernel) ?_
     exact g_mem ((nd,ne),q2) trivial (by repeat (first|exact trivial|refine ⟨rfl,?_⟩)) (by repeat (first|exact List.Sublist.refl _|refine List.Sublist.cons_cons _ ?_|refine List.Sublist.cons _ ?_))
  obtain ⟨⟨nd,ne⟩,q2⟩:=x
  simp only
  repeat (first|refine g_then ?_|refine g_nil ?_|refine g_region ?_|refine g_opS rfl ?_|refine g_inBlock ?_|refine g_add rfl (by omega) (by omega) ?_)
  rw [show (k : Int) + 1 = ((k + 1 : Nat) : Int) by omega]
  have hXl : u.funcs.take (k + 1) = u.funcs.take k++[X]:=by rw [List.take_add_one,hX]; rfl
  have hAl : (aheadsL u).take (k + 1) = (aheadsL u).take k++[aheadL X.blocks]:=by rw [List.take_add_one]; simp only [aheadsL,List.getElem?_map,hX]; rfl
  refine g_permH (perm_row _ _ _ _ _ _ _ _ _ (ts.map tabE) (cs.map cnE)) ?_
  refine g_next (k + 1,(na,nc,ts++[(⟨ta,tn,tc,tf,aheadL X.blocks⟩ : TabR)]),(nd,ne,cs++[⟨some ⟨q2,0,none⟩,bn,List.replicate X.blocks.length 0⟩])) ⟨hlt,by simp only [List.map_append,List.map_cons,List.map_nil,hts,hAl],by simp only [List.map_append,List.map_cons,List.map_nil,hcs,hXl]⟩ (by simp only; omega) (by repeat (first|exact trivial|refine ⟨rfl,?_⟩)) ?_
  subst hbn
  simp only [List.map_append,List.map_cons,List.map_nil,List.length_append,List.length_singleton,cnV,cnE,List.length_replicate,List.map_replicate]
  exact List.Sublist.refl _
 have hkf : fn = k:=by have:=h1; simp at this; omega
 subst hkf
 rw [List.take_of_length_le (by omega)] at hts
 rw [List.take_of_length_le (by omega)] at hcs
 obtain ⟨fm,M,hmain,hM⟩:=hs.main
 obtain ⟨R,hfitM⟩:=hu.2 fm M hM
 repeat (first|refine g_op rfl ?_|refine g_then ?_|refine g_region ?_|refine g_seq ?_|refine g_exit ?_|refine g_thenExit ?_|refine g_exitHere ?_)
 refine g_callV rfl (fun w hw=>mainF_c _ u.funcs w (hf0.keep keeps_func hw.chg)) ?_
 rw [hmain]
 refine g_nilVecs 145 5 1 ?_
 refine g_nilVecs 3 1 1 ?_
 obtain ⟨m0,hm0⟩ : ∃ m0 : MacV,m0 = ⟨ma,mc,ml,(Value.slice ia il ic),inp,0,0,none,0,[],0,none,0,[],ca,cc,cs⟩:=⟨_,rfl⟩
 refine g_permH (H1:=macL p (Value.slice ga gn gc) (Value.slice fa fn fc) (Value.slice aa ts.length ac) m0++(Ent.vec aa ts.length ac 40 1 (ts.map tabV)::(ts.map tabE++[Ent.box p8 [.int .i64 0,.int .i64 0] 28,Ent.box p7 [.int .i64 0,.int .i64 0,.slice none 0 0,.int .i64 0] 73,Ent.box p3 [(Value.slice ga gn gc),(Value.slice fa fn fc)] 25]))) (by rw [hm0]; exact perm_start _ _ _ _ _ _ _ _ _ (ts.map tabE) (cs.map cnE)) ?_
 have hcsl : ∀ r ∈ cs,∃ X ∈ u.funcs,r.l = List.replicate X.blocks.length 0:=fun r hr=>by
  have h9 : r.l ∈ cs.map (·.l):=List.mem_map.2 ⟨r,hr,rfl⟩
  rw [hcs] at h9
  obtain ⟨X,hX,e⟩:=List.mem_map.1 h9
  exact ⟨X,hX,e.symm⟩
 have hb0 : m0.Bd:=by
  have h8:=memL_len hs.glob
  have h9:=hs.globs
  rw [hm0,hml]
  refine ⟨by simp,by simp,⟨by simp only; omega,memL_in hs.init⟩,by simp,by simp only; omega,fun r hr=>?_,by simp⟩
  obtain ⟨X,hX,e⟩:=hcsl r hr
  obtain ⟨k,hk⟩:=List.getElem?_of_mem hX
  obtain ⟨_,hfit⟩:=hu.2 k X hk
  have:=hfit.few
  exact ⟨by rw [e]; simp; omega,fun x hx=>by rw [e] at hx; rw [List.eq_of_mem_replicate hx]; omega⟩
 obtain ⟨cr,hcr,hcrl⟩ : ∃ cr,cs[fm]? = some cr∧cr.l = List.replicate M.blocks.length 0:=by
  have h9 : (cs.map (·.l))[fm]? = some (List.replicate M.blocks.length 0):=by rw [hcs,List.getElem?_map,hM]; rfl
  rw [List.getElem?_map] at h9
  exact Option.map_eq_some_iff.1 h9
 refine g_callC (H1:=macL p (Value.slice ga gn gc) (Value.slice fa fn fc) (Value.slice aa ts.length ac) m0) (val:=fun _ : Option Addr × Nat × Option Addr × Nat=>.tuple #[]) (E:=fun x=>macL p (Value.slice ga gn gc) (Value.slice fa fn fc) (Value.slice aa ts.length ac) { m0 with fa:=x.1,fc:=x.2.1,rows:=m0.rows++[⟨⟨fm,0,0,enterR R [],-1⟩,x.2.2.1,x.2.2.2⟩],cs:=bumpC m0.cs fm 0 }) (φ:=fun _=>True) (clean_no w0) rfl (fun wz' w hcl' hle _ hw=>enter_c hcl' u p _ _ _ (hf0.le mono_func hle) m0 hb0 fm M hM R hfitM.regs hfitM.le (-1) [] none 0 0 ⟨none,0,0,0,0,rfl,rfl,Nat.le_refl _,by omega,by omega,fun h=>absurd rfl h,by simp⟩ (Nat.zero_le _) cr (by rw [hm0]; exact hcr) (by rw [hcrl,List.length_replicate]; exact hfitM.pos) w hw) fun x _=>?_
 obtain ⟨na,nc,nb,nd⟩:=x
 obtain ⟨m1,hm1⟩ : ∃ m1 : MacV,m1 = { m0 with fa:=na,fc:=nc,rows:=m0.rows++[⟨⟨fm,0,0,enterR R [],-1⟩,nb,nd⟩],cs:=bumpC m0.cs fm 0 }:=⟨_,rfl⟩
 simp only
 rw [← hm1]
 have hr1 : ∃ rest t,Rep m1 (startM u inp) rest t:=by
  rw [start_eq hmain hM hfitM.regs,hm1,hm0]
  exact ⟨[],⟨⟨fm,0,0,enterR R [],-1⟩,nb,nd⟩,rfl,rfl,rfl,hml,rfl,rfl,rfl,by simp only [bumpC_l,hcs],rfl,rfl⟩
 have hini : ∀ x ∈ inp,inI x:=fun x hx=>by
  obtain ⟨k,hk⟩:=List.getElem?_of_mem hx
  obtain ⟨_,_,_,h9⟩:=hiel k x hk
  exact h9
 have hiv1 : SlAt w0 m1.iv 1 m1.inp IntV:=by rw [hm1,hm0]; exact hin0
 repeat (first|refine g_then ?_|refine g_nil ?_|refine g_seq ?_)
 refine g_midX (fun m : MacV=>FinRep m (resultM u inp fuel)) (fun _=>[(10,.pointer (some ⟨p,0,none⟩)),(3,.pointer (some ⟨p3,0,none⟩)),(7,.pointer (some ⟨p7,0,none⟩)),(8,.pointer (some ⟨p8,0,none⟩)),(2,.int .i64 fuel)]) (fun m=>macL p (Value.slice ga gn gc) (Value.slice fa fn fc) (Value.slice aa ts.length ac) m++(Ent.vec aa ts.length ac 40 1 (ts.map tabV)::(ts.map tabE++[Ent.box p8 [.int .i64 0,.int .i64 0] 28,Ent.box p7 [.int .i64 0,.int .i64 0,.slice none 0 0,.int .i64 0] 73,Ent.box p3 [(Value.slice ga gn gc),(Value.slice fa fn fc)] 25]))) ?_ fun m hm=>?_
 ·repeat (refine g_block ?_)
  refine g_loop (fun x : MacV × Mac=>(∃ rest t,Rep x.1 x.2 rest t)∧MacOk u (x.2.steps + 1) x.2∧x.2.steps ≤ fuel∧SlAt w0 x.1.iv 1 x.1.inp IntV∧runM u (fuel - x.2.steps) x.2 = resultM u inp fuel) (fun _=>[(10,.pointer (some ⟨p,0,none⟩)),(3,.pointer (some ⟨p3,0,none⟩)),(7,.pointer (some ⟨p7,0,none⟩)),(8,.pointer (some ⟨p8,0,none⟩)),(2,.int .i64 fuel)]) (fun x=>macL p (Value.slice ga gn gc) (Value.slice fa fn fc) (Value.slice aa ts.length ac) x.1++(Ent.vec aa ts.length ac 40 1 (ts.map tabV)::(ts.map tabE++[Ent.box p8 [.int .i64 0,.int .i64 0] 28,Ent.box p7 [.int .i64 0,.int .i64 0,.slice none 0 0,.int .i64 0] 73,Ent.box p3 [(Value.slice ga gn gc),(Value.slice fa fn fc)] 25]))) (fun x=>fuel - x.2.steps) (m1,startM u inp) ⟨hr1,start_ok hu hs hini,Nat.zero_le _,hiv1,rfl⟩ (g_done (by repeat (first|exact trivial|refine ⟨rfl,?_⟩)) (.refl _)) fun x hx=>?_
  obtain ⟨m,s⟩:=x
  obtain ⟨⟨rest,t,hr⟩,hok,hsf,hiv,hrun⟩:=hx
  simp only at hr hok hsf hiv hrun ⊢
  refine g_eqH (H1:=Ent.box p [(Value.slice ga gn gc),(Value.slice fa fn fc),(Value.slice aa ts.length ac),.slice m.ma m.mem.length m.mc,m.iv,.int .i64 m.state,.int .i64 m.value,.slice m.oa m.out.length m.oc,.int .i64 m.steps,.slice m.fa m.rows.length m.fc,.slice m.ca m.cs.length m.cc] 126::((frsE m::memE m::outE m::cnsE m::(m.rows.map frE++m.cs.map cnE))++(Ent.vec aa ts.length ac 40 1 (ts.map tabV)::(ts.map tabE++[Ent.box p8 [.int .i64 0,.int .i64 0] 28,Ent.box p7 [.int .i64 0,.int .i64 0,.slice none 0 0,.int .i64 0] 73,Ent.box p3 [(Value.slice ga gn gc),(Value.slice fa fn fc)] 25])))) rfl ?_
  repeat (first|refine g_op rfl ?_|refine g_then ?_|refine g_nil ?_|refine g_region ?_|refine g_seq ?_|refine g_block ?_)
  have hms:=hr.steps
  have hz:=hr.zero
  refine Or.elim (Classical.em (s.steps = fuel)) (fun he=>?_) (fun he=>?_)
  ·rw [show decide ((m.steps : Int) = (fuel : Int)) = true by simp; omega]
   repeat (first|refine g_op rfl ?_|refine g_region ?_|refine g_seq ?_|refine g_condT ?_)
   refine g_eqH (H1:=macL p (Value.slice ga gn gc) (Value.slice fa fn fc) (Value.slice aa ts.length ac) m++(Ent.vec aa ts.length ac 40 1 (ts.map tabV)::(ts.map tabE++[Ent.box p8 [.int .i64 0,.int .i64 0] 28,Ent.box p7 [.int .i64 0,.int .i64 0,.slice none 0 0,.int .i64 0] 73,Ent.box p3 [(Value.slice ga gn gc),(Value.slice fa fn fc)] 25]))) rfl ?_
   refine g_callC (H1:=macL p (Value.slice ga gn gc) (Value.slice fa fn fc) (Value.slice aa ts.length ac) m) (val:=fun _ : Unit=>.bool false) (E:=fun _=>macL p (Value.slice ga gn gc) (Value.slice fa fn fc) (Value.slice aa ts.length ac) { m with state:=1 }) (φ:=fun _=>True) (clean_no w0) rfl (fun wz' w _ _ _ hw=>wstop_c p _ _ _ m 1 w hw) fun _ _=>?_
   repeat (first|refine g_then ?_|refine g_nil ?_|refine g_exit ?_|refine g_thenExit ?_|refine g_exitHere ?_|refine g_exitOn rfl ?_)
   refine g_mem { m with state:=1 } ?_ (by repeat (first|exact trivial|refine ⟨rfl,?_⟩)) (.refl _)
   rw [← hrun,he,Nat.sub_self]
   exact ⟨rfl,hz.2,hr.out,hr.steps,hr.cnt⟩
  ·rw [show decide ((m.steps : Int) = (fuel : Int)) = false by simp; omega]
   repeat (first|refine g_op rfl ?_|refine g_then ?_|refine g_region ?_|refine g_seq ?_|refine g_skip ?_|refine g_condF ?_)
   refine g_eqH (H1:=macL p (Value.slice ga gn gc) (Value.slice fa fn fc) (Value.slice aa ts.length ac) m++(Ent.vec aa ts.length ac 40 1 (ts.map tabV)::(ts.map tabE++[Ent.box p8 [.int .i64 0,.int .i64 0] 28,Ent.box p7 [.int .i64 0,.int .i64 0,.slice none 0 0,.int .i64 0] 73,Ent.box p3 [(Value.slice ga gn gc),(Value.slice fa fn fc)] 25]))) rfl ?_
   refine g_callC (H1:=macL p (Value.slice ga gn gc) (Value.slice fa fn fc) (Value.slice aa ts.length ac) m) (val:=fun y : MacV × Bool=>.bool y.2) (E:=fun y=>macL p (Value.slice ga gn gc) (Value.slice fa fn fc) (Value.slice aa ts.length ac) y.1) (φ:=fun y=>After m (stepM u s) y) (clean_no w0) rfl (fun wz' w hcl' hle hwd hw=>wstep_c hcl' u hu p _ _ _ (hf0.le mono_func hle) (by have h9:=tabs_sl hwd rfl (by omega); rw [hts] at h9; exact h9) m s rest t hr hok (by omega) (hiv.le mono_int hle) w hw) fun y hy=>?_
   obtain ⟨m',b⟩:=y
   obtain ⟨hvs,hst⟩:=hy
   simp only at hvs hst ⊢
   have hfs : fuel - s.steps = (fuel - (s.steps + 1)) + 1:=by omega
   rw [hfs,runM] at hrun
   cases he2 : stepM u s with
   | inl s' =>
    rw [he2] at hst hrun
    simp only at hst hrun
    obtain ⟨rfl,hr'⟩:=hst
    obtain ⟨hok',hss⟩:=step_ok hu hok he2
    repeat (first|refine g_op rfl ?_|refine g_then ?_|refine g_nil ?_|refine g_inBlock ?_|refine g_skip ?_|refine g_condF ?_)
    refine g_next (m',s') ⟨hr',hok',by simp only; omega,hvs.sl hiv,by simp only; rw [hss]; exact hrun⟩ (by simp only; omega) (by repeat (first|exact trivial|refine ⟨rfl,?_⟩)) (.refl _)
   | inr f =>
    rw [he2] at hst hrun
    simp only at hst hrun
    obtain ⟨rfl,hr'⟩:=hst
    repeat (first|refine g_op rfl ?_|refine g_then ?_|refine g_nil ?_|refine g_condT ?_|refine g_exit ?_|refine g_thenExit ?_|refine g_exitHere ?_|refine g_exitOn rfl ?_)
    exact g_mem m' (by rw [← hrun]; exact hr') (by repeat (first|exact trivial|refine ⟨rfl,?_⟩)) (.refl _)
 refine g_permH (H1:=Ent.box p [(Value.slice ga gn gc),(Value.slice fa fn fc),(Value.slice aa ts.length ac),.slice m.ma m.mem.length m.mc,m.iv,.int .i64 m.state,.int .i64 m.value,.slice m.oa m.out.length m.oc,.int .i64 m.steps,.slice m.fa m.rows.length m.fc,.slice m.ca m.cs.length m.cc] 126::Ent.box p8 [.int .i64 0,.int .i64 0] 28::Ent.box p7 [.int .i64 0,.int .i64 0,.slice none 0 0,.int .i64 0] 73::outE m::cnsE m::(m.cs.map cnE++(frsE m::memE m::Ent.vec aa ts.length ac 40 1 (ts.map tabV)::Ent.box p3 [(Value.slice ga gn gc),(Value.slice fa fn fc)] 25::(m.rows.map frE++ts.map tabE)))) (perm_last _ _ _ _ _ _ _ _ _ (m.rows.map frE) (ts.map tabE) (m.cs.map cnE)) ?_
 refine g_fix (L':=[(10,.pointer (some ⟨p,0,none⟩)),(3,.pointer (some ⟨p3,0,none⟩)),(7,.pointer (some ⟨p7,0,none⟩)),(8,.pointer (some ⟨p8,0,none⟩)),(2,.int .i64 fuel)]) (H':=Ent.box p [(Value.slice ga gn gc),(Value.slice fa fn fc),(Value.slice aa ts.length ac),.slice m.ma m.mem.length m.mc,m.iv,.int .i64 m.state,.int .i64 m.value,.slice m.oa m.out.length m.oc,.int .i64 m.steps,.slice m.fa m.rows.length m.fc,.slice m.ca m.cs.length m.cc] 126::Ent.box p8 [.int .i64 0,.int .i64 0] 28::Ent.box p7 [.int .i64 0,.int .i64 0,.slice none 0 0,.int .i64 0] 73::outE m::cnsE m::m.cs.map cnE) (by repeat (first|exact trivial|refine ⟨rfl,?_⟩)) (.cons_cons _ (.cons_cons _ (.cons_cons _ (.cons_cons _ (.cons_cons _ (List.sublist_append_left _ _)))))) ?_
 repeat (refine g_seq ?_)
 refine g_drawX [Ent.box p [(Value.slice ga gn gc),(Value.slice fa fn fc),(Value.slice aa ts.length ac),.slice m.ma m.mem.length m.mc,m.iv,.int .i64 m.state,.int .i64 m.value,.slice m.oa m.out.length m.oc,.int .i64 m.steps,.slice m.fa m.rows.length m.fc,.slice m.ca m.cs.length m.cc] 126] (fun _ : Unit=>True) (fun _=>[(6,.slice m.ca m.cs.length m.cc),(7,.pointer (some ⟨p7,0,none⟩)),(8,.pointer (some ⟨p8,0,none⟩))]) (fun _=>Ent.box p8 [.int .i64 0,.int .i64 0] 28::Ent.box p7 [.int .i64 m.state,.int .i64 m.value,.slice m.oa m.out.length m.oc,.int .i64 m.steps] 73::outE m::cnsE m::m.cs.map cnE) mixed (.cons_cons _ (List.nil_sublist _)) ?_ fun _ _=>?_
 ·skip
  refine h_take 0 rfl (by decide +kernel) (.cons_cons _ (List.nil_sublist _)) ?_
  refine h_take 1 rfl (by decide +kernel) (.cons_cons _ (List.nil_sublist _)) ?_
  refine h_take 2 rfl (by decide +kernel) (.cons_cons _ (List.nil_sublist _)) ?_
  refine h_take 3 rfl (by decide +kernel) (.cons_cons _ (List.nil_sublist _)) ?_
  refine h_take 4 rfl (by decide +kernel) (.cons_cons _ (List.nil_sublist _)) ?_
  refine h_take 5 rfl (by decide +kernel) (.cons_cons _ (List.nil_sublist _)) ?_
  refine h_take 6 rfl (by decide +kernel) (.cons_cons _ (List.nil_sublist _)) ?_
  refine h_take 7 rfl (by decide +kernel) (.cons_cons _ (List.nil_sublist _)) ?_
  refine h_take 8 rfl (by decide +kernel) (.cons_cons _ (List.nil_sublist _)) ?_
  refine h_take 9 rfl (by decide +kernel) (.cons_cons _ (List.nil_sublist _)) ?_
  refine h_storeAgg 10 (by decide +kernel) (.cons_cons _ (List.nil_sublist _)) ?_
  refine h_storeAgg 11 (by decide +kernel) (.cons_cons _ (List.nil_sublist _)) ?_
  refine h_end (by decide +kernel) ?_
  exact g_mem () trivial (by repeat (first|exact trivial|refine ⟨rfl,?_⟩)) (List.sublist_cons_self _ _)
 repeat (first|refine g_then ?_|refine g_ret ?_)
 exact g_retTCC rfl fun w' hw'=>⟨m,rfl,hw'.sub (.cons _ (.cons _ (.refl _))),hm⟩
def countsE (u : LUnit) (n : Nat) (fuel : Int) : Int × Int:=if (checkL u).1 ≠ 0 then checkL u else if 30 < n then (2,-1) else if !within fuel 0 100000 then (3,-1) else (0,0)
theorem counts_bad (u : LUnit) (hl : light u) (g fs iv : Value) (inp : List Int) (fuel : Int) (hbad : (countsE u inp.length fuel).1 ≠ 0) (w0 : World) (hg : SlAt w0 g 3 u.globals GlobalV) (hf : SlAt w0 fs 4 u.funcs FuncV) (hin : SlAt w0 iv 1 inp IntV) (hways : CellsAt w0 0 0 waysC) :
  RetV Tryz.prog 59 [.agg #[g,fs],iv,.int .i64 fuel] w0 (.tuple #[.slice none 0 0,.agg #[.int .i64 0,.int .i64 0,.slice none 0 0,.int .i64 0],.agg #[.int .i64 (countsE u inp.length fuel).1,.int .i64 (countsE u inp.length fuel).2]]):=by
 have hg0:=hg
 have hf0:=hf
 obtain ⟨ga,gn,gc,gb,go,rfl,_⟩:=hg
 obtain ⟨fa,fn,fc,fb,fo,rfl,_⟩:=hf
 obtain ⟨ia,il,ic,ib,io,rfl,hil,_⟩:=hin
 refine ret_enter Tryz.func59 rfl Tryz.ntmps59 rfl (Wd.nil NoS w0) ?_
 repeat (first|refine g_op rfl ?_|refine g_then ?_|refine g_nil ?_|refine g_region ?_|refine g_seq ?_|refine g_box rfl fun _ _=>?_|refine g_alloc rfl fun _ _=>?_)
 refine g_callV rfl (fun w hw=>check_c u hl _ _ w (hg0.keep keeps_global hw.chg) (hf0.keep keeps_func hw.chg) (hways.keep hw.chg)) ?_
 repeat (first|refine g_op rfl ?_|refine g_then ?_|refine g_nil ?_|refine g_region ?_|refine g_seq ?_|refine g_alloc rfl fun _ _=>?_|refine g_storeAgg ?_)
 rename_i p3 _ p7 _ p8 _ p9 _
 refine g_cond (fun h1=>?_) (fun h1=>?_)
 ·have hne : (checkL u).1 ≠ 0:=by
   intro h0
   rw [checkL_zero h0] at h1
   simp at h1
  rw [show countsE u inp.length fuel = checkL u by unfold countsE; rw [if_pos hne]]
  repeat (refine g_seq ?_)
  refine g_fix (L':=[(7,.pointer (some ⟨p7,0,none⟩)),(8,.pointer (some ⟨p8,0,none⟩)),(9,.pointer (some ⟨p9,0,none⟩))]) (by repeat (first|exact trivial|refine ⟨rfl,?_⟩)) (.refl _) ?_
  refine g_drawX [Ent.box p9 [.int .i64 (checkL u).1,.int .i64 (checkL u).2] 28] (fun _ : Unit=>True) (fun _=>[(6,.slice none 0 0),(7,.pointer (some ⟨p7,0,none⟩)),(8,.pointer (some ⟨p8,0,none⟩))]) (fun _=>[Ent.box p9 [.int .i64 (checkL u).1,.int .i64 (checkL u).2] 28,Ent.box p8 [.int .i64 (checkL u).1,.int .i64 (checkL u).2] 28,Ent.box p7 [.int .i64 0,.int .i64 0,.slice none 0 0,.int .i64 0] 73]) mixed (.cons_cons _ (List.nil_sublist _)) ?_ fun _ _=>?_
  ·skip
   refine h_take 0 rfl (by decide +kernel) (.cons_cons _ (List.nil_sublist _)) ?_
   refine h_take 1 rfl (by decide +kernel) (.cons_cons _ (List.nil_sublist _)) ?_
   refine h_take 2 rfl (by decide +kernel) (.cons_cons _ (List.nil_sublist _)) ?_
   refine h_storeAgg 3 (by decide +kernel) (.cons_cons _ (List.nil_sublist _)) ?_
   refine h_storeAgg 4 (by decide +kernel) (.cons_cons _ (List.nil_sublist _)) ?_
   refine h_end (by decide +kernel) ?_
   exact g_mem () trivial (by repeat (first|exact trivial|refine ⟨rfl,?_⟩)) (by simp)
  repeat (first|refine g_then ?_|refine g_ret ?_|refine g_thenRet ?_)
  exact g_retTCC rfl fun w' hw'=>⟨rfl,hw'.chg⟩
 have h1' : ¬ (checkL u).1 ≠ 0:=by simp at h1; omega
 repeat (first|refine g_op rfl ?_|refine g_then ?_|refine g_nil ?_|refine g_region ?_|refine g_seq ?_|refine g_skip ?_)
 refine g_cond (fun h2=>?_) (fun h2=>?_)
 ·have h2' : 30 < inp.length:=by simp at h2; omega
  rw [show countsE u inp.length fuel = (2,-1) by unfold countsE; rw [if_neg h1',if_pos h2']]
  repeat (first|refine g_op rfl ?_|refine g_region ?_|refine g_seq ?_)
  refine g_callV rfl (fun w _=>fault_c _ _ w) ?_
  repeat (first|refine g_then ?_|refine g_nil ?_|refine g_opS rfl ?_|refine g_storeAgg ?_|refine g_ret ?_|refine g_thenRet ?_)
  exact g_retTCC rfl fun w' hw'=>⟨rfl,hw'.chg⟩
 have h2' : ¬ 30 < inp.length:=by simp at h2; omega
 repeat (first|refine g_op rfl ?_|refine g_then ?_|refine g_region ?_|refine g_seq ?_|refine g_skip ?_)
 refine g_callV rfl (fun w _=>within_c _ _ _ w) ?_
 repeat (first|refine g_op rfl ?_|refine g_then ?_|refine g_nil ?_)
 refine g_cond (fun h3=>?_) (fun h3=>?_)
 ·rw [show countsE u inp.length fuel = (3,-1) by unfold countsE; rw [if_neg h1',if_neg h2',if_pos (by simpa using h3)]]
  repeat (first|refine g_op rfl ?_|refine g_region ?_|refine g_seq ?_)
  refine g_callV rfl (fun w _=>fault_c _ _ w) ?_
  repeat (first|refine g_then ?_|refine g_nil ?_|refine g_opS rfl ?_|refine g_storeAgg ?_|refine g_ret ?_|refine g_thenRet ?_)
  exact g_retTCC rfl fun w' hw'=>⟨rfl,hw'.chg⟩
 ·exact absurd (by unfold countsE; rw [if_neg h1',if_neg h2',if_neg (by simpa using h3)]) hbad
end Go.Proofs.YtdbljcahlpkgdaaGreatDoor
namespace Go.Proofs.YtdbljcahlpkgdaaGreatDoor
open Go Go.RowKit
set_option maxHeartbeats 2000000
theorem countsE_zero {u : LUnit} {n : Nat} {fuel : Int} (h : (countsE u n fuel).1 = 0) : (checkL u).1 = 0∧n ≤ 30∧∃ k : Nat,fuel = k∧k ≤ 100000:=by
 unfold countsE at h
 split at h
 ·rename_i h1; exact absurd h h1
 rename_i h1
 split at h
 ·cases h
 split at h
 ·cases h
 rename_i h3
 simp only [within,Bool.not_eq_true',Bool.and_eq_false_iff,decide_eq_false_iff_not,not_or,Decidable.not_not] at h3
 exact ⟨by simpa using h1,by omega,fuel.toNat,by omega,by omega⟩
end Go.Proofs.YtdbljcahlpkgdaaGreatDoor
namespace Go.Proofs.YtdbljcahlpkgdaaGreatDoor
open Go Go.RowKit
attribute [local irreducible] wpListIn Code.wpIn Exit.then Exit.inBlock bodyPost wpQuiet wpAnyIn wpAnyH bodyPostM oneH
set_option maxHeartbeats 4000000
theorem step_finO {u : LUnit} {s : Mac} {f : Fin} (he : stepM u s = .inr f) : f.out = s.out:=by
 rw [stepM_eq] at he
 split at he
 ·unfold endM at he
  split at he
  ·cases he
  split at he
  ·cases he
  split at he
  ·rw [← Sum.inr.inj he]; rfl
  ·cases he
 ·unfold insM at he
  simp only at he
  repeat' (split at he)
  all_goals first
   | (cases he; done)
   | (rw [← Sum.inr.inj he] <;> rfl)
theorem run_out {u : LUnit} (hu : UnitFit u) : ∀ (n : Nat) (s : Mac),MacOk u (s.steps + 1) s→(runM u n s).out.length ≤ 200∧∀ x ∈ (runM u n s).out,inI x
 | 0,s,h=>h.out
 | n + 1,s,h=>by
  rw [runM]
  cases he : stepM u s with
  | inl s'=>exact run_out hu n s' (step_ok hu h he).1
  | inr f=>simp only; rw [step_finO he]; exact h.out
theorem result_out {u : LUnit} (hu : UnitFit u) (hs : StartOk u) {inp : List Int} (hin : ∀ x ∈ inp,inI x) (fuel : Nat) : (resultM u inp fuel).out.length ≤ 200∧∀ x ∈ (resultM u inp fuel).out,inI x :=
 run_out hu fuel (startM u inp) (start_ok hu hs hin)
theorem do_bad (u : LUnit) (hl : light u) (g fs iv : Value) (inp : List Int) (fuel : Int) (hbad : (countsE u inp.length fuel).1 ≠ 0) (w0 : World) (hg : SlAt w0 g 3 u.globals GlobalV) (hf : SlAt w0 fs 4 u.funcs FuncV) (hin : SlAt w0 iv 1 inp IntV) (hways : CellsAt w0 0 0 waysC) :
  RetV Tryz.prog 35 [.agg #[g,fs],iv,.int .i64 fuel] w0 (.tuple #[.agg #[.int .i64 0,.int .i64 0,.slice none 0 0,.int .i64 0],.agg #[.int .i64 (countsE u inp.length fuel).1,.int .i64 (countsE u inp.length fuel).2]]):=by
 have hg0:=hg
 have hf0:=hf
 have hin0:=hin
 obtain ⟨ga,gn,gc,gb,go,rfl,_⟩:=hg
 obtain ⟨fa,fn,fc,fb,fo,rfl,_⟩:=hf
 obtain ⟨ia,il,ic,ib,io,rfl,hil,_⟩:=hin
 refine ret_enter Tryz.func35 rfl Tryz.ntmps35 rfl (Wd.nil NoS w0) ?_
 repeat (first|refine g_op rfl ?_|refine g_then ?_|refine g_nil ?_|refine g_region ?_|refine g_seq ?_|refine g_box rfl fun _ _=>?_|refine g_alloc rfl fun _ _=>?_)
 refine g_callV rfl (fun w hw=>counts_bad u hl _ _ _ inp fuel hbad w (hg0.keep keeps_global hw.chg) (hf0.keep keeps_func hw.chg) (hin0.keep keeps_int hw.chg) (hways.keep hw.chg)) ?_
 repeat (first|refine g_op rfl ?_|refine g_then ?_|refine g_nil ?_|refine g_seq ?_|refine g_alloc rfl fun _ _=>?_|refine g_storeAgg ?_)
 rename_i p3 _ p6 _ p7 _ p9 _ p10 _
 refine g_fix (L':=[(6,.pointer (some ⟨p6,0,none⟩)),(7,.pointer (some ⟨p7,0,none⟩)),(9,.pointer (some ⟨p9,0,none⟩)),(10,.pointer (some ⟨p10,0,none⟩))]) (by repeat (first|exact trivial|refine ⟨rfl,?_⟩)) (.refl _) ?_
 refine g_drawX [Ent.box p10 [.int .i64 (countsE u inp.length fuel).1,.int .i64 (countsE u inp.length fuel).2] 28,Ent.box p9 [.int .i64 0,.int .i64 0,.slice none 0 0,.int .i64 0] 73] (fun _ : Unit=>True) (fun _=>[(6,.pointer (some ⟨p6,0,none⟩)),(7,.pointer (some ⟨p7,0,none⟩))]) (fun _=>[Ent.box p7 [.int .i64 (countsE u inp.length fuel).1,.int .i64 (countsE u inp.length fuel).2] 28,Ent.box p6 [.int .i64 0,.int .i64 0,.slice none 0 0,.int .i64 0] 73]) mixed (.cons_cons _ (.cons_cons _ (List.nil_sublist _))) ?_ fun _ _=>?_
 ·skip
  refine h_take 0 rfl (by decide +kernel) (.cons_cons _ (.cons_cons _ (List.nil_sublist _))) ?_
  refine h_take 1 rfl (by decide +kernel) (.cons_cons _ (.cons_cons _ (List.nil_sublist _))) ?_
  refine h_storeAgg 2 (by decide +kernel) (.cons_cons _ (.cons_cons _ (List.nil_sublist _))) ?_
  refine h_storeAgg 3 (by decide +kernel) (.cons_cons _ (.cons_cons _ (List.nil_sublist _))) ?_
  refine h_end (by decide +kernel) ?_
  exact g_mem () trivial (by repeat (first|exact trivial|refine ⟨rfl,?_⟩)) (by simp)
 repeat (first|refine g_then ?_|refine g_ret ?_)
 exact g_retCC rfl fun w' hw'=>⟨rfl,hw'.chg⟩
theorem do_ok (u : LUnit) (hl : light u) (g fs iv : Value) (inp : List Int) (fuel : Nat) (hgood : (countsE u inp.length fuel).1 = 0) (w0 : World) (hg : SlAt w0 g 3 u.globals GlobalV) (hf : SlAt w0 fs 4 u.funcs FuncV) (hin : SlAt w0 iv 1 inp IntV) (hways : CellsAt w0 0 0 waysC) :
  Ret Tryz.prog 35 [.agg #[g,fs],iv,.int .i64 fuel] w0 fun v w'=>∃ x : Option Addr × Nat × (Nat→Prop),
   v = .tuple #[.agg #[.int .i64 (resultM u inp fuel).state,.int .i64 (resultM u inp fuel).value,.slice x.1 (resultM u inp fuel).out.length x.2.1,.int .i64 (resultM u inp fuel).steps],.agg #[.int .i64 0,.int .i64 0]] ∧
   Wd NoS w0 [⟨x.2.2,fun w=>SlAt w (.slice x.1 (resultM u inp fuel).out.length x.2.1) 1 (resultM u inp fuel).out IntV⟩] w'∧True:=by
 obtain ⟨h0,hil',k,hk,hk'⟩:=countsE_zero hgood
 have hkf : fuel = k:=by omega
 have hu:=unit_fit hl h0 (nums_of hf)
 have hs:=check_start h0 (gnums_of hg)
 have hini : ∀ x ∈ inp,inI x:=fun x hx=>by obtain ⟨_,_,h9⟩:=hin.el hx; exact h9
 have hout:=result_out hu hs hini fuel
 have hg0:=hg
 have hf0:=hf
 have hin0:=hin
 obtain ⟨ga,gn,gc,gb,go,rfl,_⟩:=hg
 obtain ⟨fa,fn,fc,fb,fo,rfl,_⟩:=hf
 obtain ⟨ia,il,ic,ib,io,rfl,hil,_⟩:=hin
 refine ret_enter Tryz.func35 rfl Tryz.ntmps35 rfl (Wd.nil NoS w0) ?_
 repeat (first|refine g_op rfl ?_|refine g_then ?_|refine g_nil ?_|refine g_region ?_|refine g_seq ?_|refine g_box rfl fun _ _=>?_|refine g_alloc rfl fun _ _=>?_)
 refine g_callE (val:=fun m : MacV=>.tuple #[.slice m.ca m.cs.length m.cc,.agg #[.int .i64 m.state,.int .i64 m.value,.slice m.oa m.out.length m.oc,.int .i64 m.steps],.agg #[.int .i64 0,.int .i64 0]]) (E:=fun m=>[outE m]) (φ:=fun m=>FinRep m (resultM u inp fuel)) rfl (fun w hw =>
  (counts_c u hl h0 hs hu _ _ _ inp fuel (by omega) hil' w (hg0.keep keeps_global hw.chg) (hf0.keep keeps_func hw.chg) (hin0.keep keeps_int hw.chg) (hways.keep hw.chg)).mono fun v w' ⟨m,h1,h2,h3⟩=>⟨m,h1,h2.sub (.cons_cons _ (List.nil_sublist _)),h3⟩) fun m hm=>?_
 simp only [List.cons_append,List.nil_append]
 repeat (first|refine g_op rfl ?_|refine g_then ?_|refine g_nil ?_|refine g_seq ?_|refine g_alloc rfl fun _ _=>?_|refine g_storeAgg ?_)
 rename_i p3 _ p6 _ p7 _ p9 _ p10 _
 refine g_fix (L':=[(6,.pointer (some ⟨p6,0,none⟩)),(7,.pointer (some ⟨p7,0,none⟩)),(9,.pointer (some ⟨p9,0,none⟩)),(10,.pointer (some ⟨p10,0,none⟩))]) (by repeat (first|exact trivial|refine ⟨rfl,?_⟩)) (.refl _) ?_
 refine g_drawX [Ent.box p10 [.int .i64 0,.int .i64 0] 28,Ent.box p9 [.int .i64 m.state,.int .i64 m.value,.slice m.oa m.out.length m.oc,.int .i64 m.steps] 73] (fun _ : Unit=>True) (fun _=>[(6,.pointer (some ⟨p6,0,none⟩)),(7,.pointer (some ⟨p7,0,none⟩))]) (fun _=>[outE m,Ent.box p7 [.int .i64 0,.int .i64 0] 28,Ent.box p6 [.int .i64 m.state,.int .i64 m.value,.slice m.oa m.out.length m.oc,.int .i64 m.steps] 73]) mixed (.cons_cons _ (.cons_cons _ (List.nil_sublist _))) ?_ fun _ _=>?_
 ·skip
  refine h_take 0 rfl (by decide +kernel) (.cons_cons _ (.cons_cons _ (List.nil_sublist _))) ?_
  refine h_take 1 rfl (by decide +kernel) (.cons_cons _ (.cons_cons _ (List.nil_sublist _))) ?_
  refine h_storeAgg 2 (by decide +kernel) (.cons_cons _ (.cons_cons _ (List.nil_sublist _))) ?_
  refine h_storeAgg 3 (by decide +kernel) (.cons_cons _ (.cons_cons _ (List.nil_sublist _))) ?_
  refine h_end (by decide +kernel) ?_
  exact g_mem () trivial (by repeat (first|exact trivial|refine ⟨rfl,?_⟩)) (by simp)
 repeat (first|refine g_then ?_|refine g_ret ?_)
 refine g_retCC rfl fun w' hw'=>⟨(m.oa,m.oc,fps [outE m]),?_,?_,trivial⟩
 ·rw [← hm.state,← hm.value,← hm.out,← hm.steps]
 ·have h1 : Wd NoS w0 ([outE m]++[]) w':=hw'.sub (.cons_cons _ (List.nil_sublist _))
  have h2:=h1.pack (fun w=>SlAt w (.slice m.oa m.out.length m.oc) 1 m.out IntV) fun w2 hw2=>?_
  ·rw [← hm.out]; exact h2
  ·refine hw2.slAt (k:=0) rfl rfl (by rw [hm.out]; omega) fun i x hx=>⟨[.int .i64 x],fun j v hj=>?_,rfl,hout.2 x (by rw [← hm.out]; exact List.mem_of_getElem? hx)⟩
   match j,hj with
   | 0,hj=>simpa [hx] using hj
theorem comes_c (s v t1 t2 : Int) (a1 a2 : Option Addr) (c1 c2 : Nat) (l : List Int) (w0 : World) (h1 : SlAt w0 (.slice a1 l.length c1) 1 l IntV) (h2 : SlAt w0 (.slice a2 l.length c2) 1 l IntV) :
  RetV Tryz.prog 36 [.agg #[.int .i64 s,.int .i64 v,.slice a1 l.length c1,.int .i64 t1],.agg #[.int .i64 s,.int .i64 v,.slice a2 l.length c2,.int .i64 t2]] w0 (.bool true):=by
 refine ret_enter Tryz.func36 rfl Tryz.ntmps36 rfl (Wd.nil NoS w0) ?_
 repeat (first|refine g_op rfl ?_|refine g_then ?_|refine g_nil ?_|refine g_region ?_|refine g_seq ?_|refine g_box rfl fun _ _=>?_)
 rw [show decide (s = s) = true by simp]
 repeat (first|refine g_op rfl ?_|refine g_open ?_)
 rw [show decide (v = v) = true by simp]
 repeat (first|refine g_op rfl ?_|refine g_open ?_)
 refine g_callV rfl (fun w hw=>ints_c _ _ l l w (h1.keep (fun _ _ _ _ _ h=>h) hw.chg) (h2.keep (fun _ _ _ _ _ h=>h) hw.chg)) ?_
 rw [show decide (l = l) = true by simp]
 repeat (first|refine g_op rfl ?_|refine g_then ?_|refine g_nil ?_|refine g_opS rfl ?_|refine g_ret ?_)
 exact g_retV rfl rfl
structure Comes (a b : LUnit) (inp : List Int) (f k : Nat) : Prop where
 ok : (countsE b inp.length k).1 = 0
 state : (resultM b inp k).state = (resultM a inp f).state
 value : (resultM b inp k).value = (resultM a inp f).value
 out : (resultM b inp k).out = (resultM a inp f).out
theorem same_c (a b : LUnit) (hla : light a) (hlb : light b) (ga fa gb fb iv : Value) (inp : List Int) (fuel : Int) (w0 : World) (hga : SlAt w0 ga 3 a.globals GlobalV) (hfa : SlAt w0 fa 4 a.funcs FuncV) (hgb : SlAt w0 gb 3 b.globals GlobalV) (hfb : SlAt w0 fb 4 b.funcs FuncV) (hin : SlAt w0 iv 1 inp IntV) (hways : CellsAt w0 0 0 waysC)
  (hsame : ∀ f : Nat,f ≤ 2000→(countsE a inp.length f).1 = 0→(resultM a inp f).state ≠ 1→Comes a b inp f (20 * f + 200)) :
  RetV Tryz.prog 15 [.agg #[ga,fa],.agg #[gb,fb],iv,.int .i64 fuel] w0 (.bool true):=by
 have hga0:=hga
 have hfa0:=hfa
 have hgb0:=hgb
 have hfb0:=hfb
 have hin0:=hin
 obtain ⟨ga1,gan,gac,_,_,rfl,_⟩:=hga
 obtain ⟨fa1,fan,fac,_,_,rfl,_⟩:=hfa
 obtain ⟨gb1,gbn,gbc,_,_,rfl,_⟩:=hgb
 obtain ⟨fb1,fbn,fbc,_,_,rfl,_⟩:=hfb
 obtain ⟨ia,il,ic,_,_,rfl,_⟩:=hin
 refine ret_enter Tryz.func15 rfl Tryz.ntmps15 rfl (Wd.nil NoS w0) ?_
 repeat (first|refine g_op rfl ?_|refine g_then ?_|refine g_nil ?_|refine g_region ?_|refine g_seq ?_|refine g_box rfl fun _ _=>?_)
 by_cases h1 : fuel < 0
 ·rw [show decide (fuel < 0) = true by simp [h1]]
  repeat (first|refine g_op rfl ?_|refine g_then ?_|refine g_nil ?_|refine g_region ?_|refine g_seq ?_|refine g_opS rfl ?_|refine g_pass rfl ?_|refine g_condT ?_|refine g_ret ?_|refine g_thenRet ?_)
  exact g_retV rfl rfl
 rw [show decide (fuel < 0) = false by simp [h1]]
 repeat (first|refine g_op rfl ?_|refine g_then ?_|refine g_nil ?_|refine g_open ?_)
 refine g_cond (fun h2=>?_) (fun h2=>?_)
 ·repeat (first|refine g_then ?_|refine g_nil ?_|refine g_region ?_|refine g_seq ?_|refine g_opS rfl ?_|refine g_ret ?_|refine g_thenRet ?_)
  exact g_retV rfl rfl
 obtain ⟨f,rfl⟩ : ∃ f : Nat,fuel = f:=⟨fuel.toNat,by omega⟩
 have hf2 : f ≤ 2000:=by simp at h2; omega
 repeat (first|refine g_op rfl ?_|refine g_then ?_|refine g_region ?_|refine g_seq ?_|refine g_skip ?_)
 by_cases hbad : (countsE a inp.length f).1 ≠ 0
 ·refine g_callV rfl (fun w hw=>do_bad a hla _ _ _ inp f hbad w (hga0.keep keeps_global hw.chg) (hfa0.keep keeps_func hw.chg) (hin0.keep keeps_int hw.chg) (hways.keep hw.chg)) ?_
  repeat (first|refine g_op rfl ?_|refine g_then ?_|refine g_nil ?_|refine g_region ?_|refine g_seq ?_|refine g_alloc rfl fun _ _=>?_|refine g_storeAgg ?_)
  refine g_cond (fun h2=>?_) (fun h2=>?_)
  ·repeat (first|refine g_then ?_|refine g_nil ?_|refine g_region ?_|refine g_seq ?_|refine g_opS rfl ?_|refine g_ret ?_|refine g_thenRet ?_)
   exact g_retV rfl rfl
  ·exact absurd h2 (by simp [hbad])
 have hgood : (countsE a inp.length f).1 = 0:=by simpa using hbad
 refine g_callE (val:=fun x : Option Addr × Nat × (Nat→Prop)=>.tuple #[.agg #[.int .i64 (resultM a inp f).state,.int .i64 (resultM a inp f).value,.slice x.1 (resultM a inp f).out.length x.2.1,.int .i64 (resultM a inp f).steps],.agg #[.int .i64 0,.int .i64 0]]) (E:=fun x=>[⟨x.2.2,fun w=>SlAt w (.slice x.1 (resultM a inp f).out.length x.2.1) 1 (resultM a inp f).out IntV⟩]) (φ:=fun _=>True) rfl (fun w hw=>do_ok a hla _ _ _ inp f hgood w (hga0.keep keeps_global hw.chg) (hfa0.keep keeps_func hw.chg) (hin0.keep keeps_int hw.chg) (hways.keep hw.chg)) fun x _=>?_
 obtain ⟨oa,oc,op⟩:=x
 simp only [List.cons_append,List.nil_append]
 repeat (first|refine g_op rfl ?_|refine g_then ?_|refine g_nil ?_|refine g_region ?_|refine g_seq ?_|refine g_alloc rfl fun _ _=>?_|refine g_storeAgg ?_|refine g_skip ?_|refine g_condF ?_)
 rw [show (!decide ((0 : Int) = 0)) = false by simp]
 skip
 refine g_cond (fun h3=>?_) (fun h3=>?_)
 ·repeat (first|refine g_then ?_|refine g_nil ?_|refine g_region ?_|refine g_seq ?_|refine g_opS rfl ?_|refine g_ret ?_|refine g_thenRet ?_)
  exact g_retV rfl rfl
 obtain ⟨h4,h5,h6,h7⟩:=hsame f hf2 hgood (by simpa using h3)
 repeat (first|refine g_op rfl ?_|refine g_then ?_|refine g_region ?_|refine g_seq ?_|refine g_skip ?_)
 refine g_mul rfl (by omega) (by omega) ?_
 repeat (refine g_add rfl (by omega) (by omega) ?_)
 rw [show (20 : Int) * (f : Int) + 200 = ((20 * f + 200 : Nat) : Int) by omega]
 refine g_callE (val:=fun x : Option Addr × Nat × (Nat→Prop)=>.tuple #[.agg #[.int .i64 (resultM b inp (20 * f + 200)).state,.int .i64 (resultM b inp (20 * f + 200)).value,.slice x.1 (resultM b inp (20 * f + 200)).out.length x.2.1,.int .i64 (resultM b inp (20 * f + 200)).steps],.agg #[.int .i64 0,.int .i64 0]]) (E:=fun x=>[⟨x.2.2,fun w=>SlAt w (.slice x.1 (resultM b inp (20 * f + 200)).out.length x.2.1) 1 (resultM b inp (20 * f + 200)).out IntV⟩]) (φ:=fun _=>True) rfl (fun w hw=>do_ok b hlb _ _ _ inp _ h4 w (hgb0.keep keeps_global hw.chg) (hfb0.keep keeps_func hw.chg) (hin0.keep keeps_int hw.chg) (hways.keep hw.chg)) fun x _=>?_
 obtain ⟨na,nc,np⟩:=x
 simp only [List.cons_append,List.nil_append]
 rw [h5,h6,h7]
 repeat (first|refine g_op rfl ?_|refine g_then ?_|refine g_nil ?_|refine g_region ?_|refine g_seq ?_|refine g_open ?_|refine g_alloc rfl fun _ _=>?_|refine g_storeAgg ?_)
 rw [show decide ((0 : Int) = 0) = true by simp]
 skip
 refine g_callV rfl (fun w hw=>comes_c _ _ _ _ _ _ _ _ _ w ?_ ?_) ?_
 ·exact hw.get (k:=5) rfl
 ·exact hw.get (k:=2) rfl
 repeat (first|refine g_op rfl ?_|refine g_then ?_|refine g_nil ?_|refine g_opS rfl ?_|refine g_ret ?_)
 exact g_retV rfl rfl
end Go.Proofs.YtdbljcahlpkgdaaGreatDoor

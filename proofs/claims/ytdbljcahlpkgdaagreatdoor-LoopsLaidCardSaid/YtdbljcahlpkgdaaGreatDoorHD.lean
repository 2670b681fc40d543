/- Texts joined: RunE RunF RunG. -/
import Derived.Test.YtdbljcahlpkgdaaGreatDoorHA
import Derived.Test.YtdbljcahlpkgdaaGreatDoorHB
import Derived.Test.YtdbljcahlpkgdaaGreatDoorHC
namespace Go.Proofs.YtdbljcahlpkgdaaGreatDoor
open Go Go.RowKit
attribute [local irreducible] wpListIn Code.wpIn Exit.then Exit.inBlock bodyPost wpQuiet wpAnyIn wpAnyH bodyPostM oneH
set_option maxHeartbeats 8000000
structure Rep (m : MacV) (s : Mac) (rest : List FRow) (t : FRow) : Prop where
 rows : m.rows = rest++[t]
 below : rest.map (·.f) = s.rest
 top : t.f = s.top
 mem : m.mem = s.mem
 inp : m.inp = s.inp
 out : m.out = s.out
 steps : m.steps = s.steps
 cnt : m.cs.map (·.l) = s.counts
 zero : m.state = 0∧m.value = 0
structure FinRep (m : MacV) (f : Fin) : Prop where
 state : m.state = f.state
 value : m.value = f.value
 out : m.out = f.out
 steps : m.steps = f.steps
 cnt : m.cs.map (·.l) = f.counts
def IvStep (v v' : Value) (l l' : List Int) : Prop:=(v' = v∧l' = l) ∨ ∃ (a a' : Option Addr) (n c : Nat),v = .slice a n c∧l ≠ []∧v' = .slice a' (n - 1) (c - 1)∧l' = l.tail∧∀ b o,1 < c→a = some ⟨b,o,none⟩→a' = some ⟨b,o + 1,none⟩
theorem IvStep.sl {w : World} {v v' : Value} {l l' : List Int} (h : IvStep v v' l l') (hs : SlAt w v 1 l IntV) : SlAt w v' 1 l' IntV:=by
 rcases h with ⟨rfl,rfl⟩|⟨a,a',n,c,rfl,hne,rfl,rfl,ha'⟩
 ·exact hs
 ·obtain ⟨a0,n0,c0,b,o,e,hn,hnc,hb,hc,ha,hel⟩:=hs
  simp only [Value.slice.injEq] at e
  obtain ⟨rfl,rfl,rfl⟩:=e
  have hpos:=List.length_pos_iff.2 hne
  refine ⟨a',n - 1,c - 1,b,o + 1,rfl,by rw [List.length_tail,hn],by omega,by omega,by omega,fun ht=>?_,fun i x hx=>?_⟩
  ·refine ha' b o ?_ (ha hne)
   have:=List.length_pos_iff.2 ht
   rw [List.length_tail] at this
   omega
  ·rw [List.getElem?_tail] at hx
   obtain ⟨cs,h1,h2⟩:=hel (i + 1) x hx
   exact ⟨cs,by rw [show o + 1 + i * 1 = o + (i + 1) * 1 by omega]; exact h1,h2⟩
def After (m : MacV) (r : Mac ⊕ Fin) (x : MacV × Bool) : Prop:=IvStep m.iv x.1.iv m.inp x.1.inp∧match r with
 | .inl s'=>x.2 = true∧∃ rest t,Rep x.1 s' rest t
 | .inr f=>x.2 = false∧FinRep x.1 f
theorem bd_of {u : LUnit} (hu : UnitFit u) {m : MacV} {s : Mac} {rest : List FRow} {t : FRow} (hr : Rep m s rest t) {c : Nat} (h : MacOk u c s) (hc : c ≤ s.steps + 1) (hs : s.steps ≤ 1000000) : m.Bd:=by
 have hfr : ∀ r ∈ m.rows,∃ X R,FrmOk u r.f X R:=fun r hm=>by
  rw [hr.rows] at hm
  rcases List.mem_append.1 hm with hm|hm
  ·exact h.rest r.f (by rw [← hr.below]; exact List.mem_map.2 ⟨r,hm,rfl⟩)
  ·rw [List.mem_singleton.1 hm,hr.top]; exact h.top
 refine ⟨?_,fun r hm=>?_,by rw [hr.mem]; exact h.mem,?_,?_,fun r hm=>?_,by rw [hr.steps]; exact hs⟩
 ·have:=h.deep
  rw [← hr.below,List.length_map] at this
  rw [hr.rows]; simp; omega
 ·obtain ⟨X,R,hf⟩:=hfr r hm
  have:=hf.fit.le
  exact ⟨by rw [hf.regs]; omega,hf.nums,hf.dst⟩
 ·rw [hr.out]; exact ⟨by have:=h.out.1; omega,h.out.2⟩
 ·have:=h.cnt.1
  rw [← hr.cnt,List.length_map] at this
  have:=hu.1
  omega
 ·obtain ⟨k,hk⟩:=List.getElem?_of_mem hm
  have hkl:=(List.getElem?_eq_some_iff.1 hk).1
  have hl:=h.cnt.1
  rw [← hr.cnt,List.length_map] at hl
  obtain ⟨l,h1,h2,h3⟩:=h.cnt.2 k _ (List.getElem?_eq_getElem (by omega))
  rw [← hr.cnt,List.getElem?_map,hk] at h1
  have h1 : r.l = l:=Option.some.inj h1
  obtain ⟨R,hfit⟩:=hu.2 k _ (List.getElem?_eq_getElem (by omega : k < u.funcs.length))
  have:=hfit.few
  exact ⟨by rw [h1,h2]; omega,fun x hx=>by rw [h1] at hx; have:=h3 x hx; rw [hr.steps]; omega⟩
theorem row_of {u : LUnit} {m : MacV} {s : Mac} {rest : List FRow} {t : FRow} (hr : Rep m s rest t) {c : Nat} (h : MacOk u c s) {k : Nat} {X : LFunc} (hX : u.funcs[k]? = some X) : ∃ cr : CRow,m.cs[k]? = some cr∧cr.l.length = X.blocks.length:=by
 obtain ⟨l,h1,h2,_⟩:=h.cnt.2 k X hX
 rw [← hr.cnt,List.getElem?_map] at h1
 obtain ⟨cr,h3,rfl⟩:=Option.map_eq_some_iff.1 h1
 exact ⟨cr,h3,h2⟩
theorem bumpC_l (cs : List CRow) (k b : Nat) : (bumpC cs k b).map (·.l) = bump (cs.map (·.l)) k b:=by
 unfold bumpC bump
 apply List.ext_getElem?
 intro i
 rw [List.getElem?_map,List.getElem?_modify,List.getElem?_modify,List.getElem?_map]
 cases cs[i]? with
 | none=>rfl
 | some r=>by_cases e : k = i <;> simp [e]
theorem goJump_c {S : Nat→Prop} {wz : World} (hcl : Clean S wz) (u : LUnit) (hu : UnitFit u) (p : Nat) (g fs av : Value) (hfs : SlAt wz fs 4 u.funcs FuncV) (hav : SlAt wz av 1 (aheadsL u) TabV) (m : MacV) (s : Mac) (rest : List FRow) (t : FRow) (hr : Rep m s rest t) (hok : MacOk u s.steps s) (hs : s.steps ≤ 1000000) (X : LFunc) (R : Nat) (hf : FrmOk u s.top X R) (to : Nat) (T : LBlock) (hg : GoTo X s.top.block to T) (w : World) (hw : Wd S wz (macL p g fs av m) w) :
  Ret Tryz.prog 118 [.pointer (some ⟨p,0,none⟩),.int .i64 to] w fun u' w'=>∃ x : MacV,u' = .tuple #[]∧Wd S wz (macL p g fs av x) w'∧(x.iv = m.iv∧x.inp = m.inp∧∃ rest t,Rep x (jumpM u s to) rest t):=by
 have hb:=bd_of hu hr hok (Nat.le_succ _) hs
 obtain ⟨cr,hcr,hcl'⟩:=row_of hr hok hf.get
 rw [← hr.top] at hf hg
 have hX : AtFn u t.f X R:=⟨hf.get,hf.fit.ok,hf.regs⟩
 have htl:=(List.getElem?_eq_some_iff.1 hg.get).1
 rw [← hr.top] at hcr
 refine (jump_c hcl u p g fs av hfs hav m hb hr.rows X R hX hf.fit.few to T hg.get hg.mem (hf.fit.blk T (List.mem_of_getElem? hg.get)).phis.1 cr hcr (by omega) w hw).mono fun u' w' ⟨_,h1,h2,_⟩=>⟨_,h1,h2,rfl,rfl,rest,⟨{ t.f with regs:=phisM t.f ((preds X.blocks to).idxOf t.f.block) T.phis,block:=to,at':=0 },t.a,t.c⟩,?_⟩
 rw [jumpM_eq (by rw [← hr.top]; exact hf.get) hg.get]
 exact ⟨rfl,hr.below,by rw [← hr.top],hr.mem,hr.inp,hr.out,hr.steps,by rw [bumpC_l,hr.cnt,← hr.top],hr.zero⟩
theorem rest_last {m : MacV} {s : Mac} {rest : List FRow} {t : FRow} (hr : Rep m s rest t) : (rest = []∧s.rest.getLast? = none) ∨ ∃ rest' t',rest = rest'++[t']∧s.rest.getLast? = some t'.f∧s.rest.dropLast = rest'.map (·.f):=by
 rcases List.eq_nil_or_concat rest with rfl|⟨r',t',rfl⟩
 ·left
  have:=hr.below
  simp at this
  exact ⟨rfl,by rw [this]; rfl⟩
 ·right
  refine ⟨r',t',by simp,?_,?_⟩
  ·rw [← hr.below]; simp
  ·rw [← hr.below]; simp
theorem wend_c {S : Nat→Prop} {wz : World} (hcl : Clean S wz) (u : LUnit) (hu : UnitFit u) (p : Nat) (g fs av : Value) (hfs : SlAt wz fs 4 u.funcs FuncV) (hav : SlAt wz av 1 (aheadsL u) TabV) (m : MacV) (s : Mac) (rest : List FRow) (t : FRow) (hr : Rep m s rest t) (hok : MacOk u s.steps s) (hs : s.steps ≤ 1000000) (X : LFunc) (R : Nat) (hf : FrmOk u s.top X R) (B : LBlock) (hB : X.blocks[s.top.block]? = some B) (tv : Value) (htv : SlAt wz tv 1 B.to IntV) (w : World) (hw : Wd S wz (macL p g fs av m) w) :
  Ret Tryz.prog 100 [.pointer (some ⟨p,0,none⟩),.agg #[.int .i64 B.kind,.bool B.on.reg,.int .i64 B.on.n,tv]] w fun u' w'=>∃ x : MacV × Bool,u' = .bool x.2∧Wd S wz (macL p g fs av x.1) w'∧After m (endM u s B) x:=by
 have hb:=bd_of hu hr hok (Nat.le_succ _) hs
 obtain ⟨_,fb,fo,hfa,_⟩:=mac_top (H:=[]) (by rw [List.append_nil]; exact hw) hb hr.rows
 have hlen : m.rows.length = rest.length + 1:=by rw [hr.rows]; simp
 have hfit:=hf.fit.blk B (List.mem_of_getElem? hB)
 have htop : ∀ w,Wd S wz (macL p g fs av m) w→TopAt w p fb fo m.rows.length t:=fun w hw=>top_at (H:=[]) (by rw [List.append_nil]; exact hw) hb hr.rows hfa
 have htopc : ∀ w,Wd S wz (macL p g fs av m) w→RetV Tryz.prog 99 [.pointer (some ⟨p,0,none⟩)] w (.pointer (some ⟨fb,fo + rest.length * 5,none⟩)):=fun w hw=>by
  have:=(htop w hw).top_c
  rwa [hlen,Nat.add_sub_cancel] at this
 have hvok : ValOk t.f.regs.length B.on:=by rw [hr.top,hf.regs]; exact hfit.on.1
 obtain ⟨ta,tn,tc,tb,to',rfl,htn,htnc,htnb,htc,hta,htel⟩:=htv
 refine ret_enterZ Tryz.func100 rfl Tryz.ntmps100 rfl hw ?_
 repeat (first|refine g_op rfl ?_|refine g_then ?_|refine g_nil ?_|refine g_region ?_|refine g_seq ?_|refine g_box rfl fun _ _=>?_|refine g_block ?_)
 rename_i p3 _
 have goto : ∀ (i : Nat) (hi : i < B.to.length),∃ (to : Nat) (T : LBlock),B.to[i]? = some (to : Int)∧GoTo X s.top.block to T:=fun i hi=>by
  obtain ⟨to,T,e,hg⟩:=goTo hf hB (List.getElem_mem hi)
  exact ⟨to,T,by rw [List.getElem?_eq_getElem hi,e],hg⟩
 by_cases h2 : B.kind = 2
 ·rw [decide_eq_true h2]
  have htl : B.to.length = 1:=by have:=hfit.kind.2; omega
  obtain ⟨to,T,hto,hg⟩:=goto 0 (by omega)
  obtain ⟨_,htcl,rfl,_⟩:=htel 0 _ hto
  have had : AddrIs ta tb to':=⟨hta (ne_of_get hto)⟩
  have hl0 : LtIs 0 tn:=⟨by omega⟩
  have hci : CellsIs wz tb (to' + 0 * 1) _:=⟨htcl⟩
  have hol : OldIs S tb:=hcl.old htcl
  repeat (first|refine g_op rfl ?_|refine g_region ?_|refine g_condT ?_)
  refine g_permH (List.perm_append_comm (l₁:=[_])) ?_
  refine g_callC (H1:=macL p g fs av m) (val:=fun _ : MacV=>.tuple #[]) (E:=fun x=>macL p g fs av x) (φ:=fun x=>x.iv = m.iv∧x.inp = m.inp∧∃ rest t,Rep x (jumpM u s to) rest t) hcl rfl (fun wz' w hcl' hle _ hw=>goJump_c hcl' u hu p g fs av (hfs.le mono_func hle) (hav.le mono_tab hle) m s rest t hr hok hs X R hf to T hg w hw) fun x hx=>?_
  obtain ⟨hx1,hx2,hx3⟩:=hx
  repeat (first|refine g_then ?_|refine g_nil ?_|refine g_region ?_|refine g_seq ?_|refine g_opS rfl ?_|refine g_inBlock ?_|refine g_ret ?_)
  refine g_ret1 rfl fun w' hw'=>⟨(x,true),rfl,hw'.sub (List.sublist_append_left _ _),.inl ⟨hx1,hx2⟩,?_⟩
  unfold endM
  rw [if_pos h2,show B.to.getD 0 0 = (to : Int) by rw [List.getD_eq_getElem?_getD,hto]; rfl]
  exact ⟨rfl,hx3⟩
 rw [decide_eq_false h2]
 repeat (first|refine g_op rfl ?_|refine g_then ?_|refine g_nil ?_|refine g_region ?_|refine g_seq ?_|refine g_condF ?_)
 by_cases h3 : B.kind = 3
 ·rw [decide_eq_true h3]
  have htl : B.to.length = 2:=by have:=hfit.kind.2; omega
  repeat (first|refine g_op rfl ?_|refine g_region ?_|refine g_seq ?_|refine g_condT ?_)
  refine g_callV rfl (fun w hw=>wval_c (htop w (hw.sub (.cons _ (.refl _)))) B.on hvok) ?_
  repeat (first|refine g_op rfl ?_|refine g_then ?_|refine g_nil ?_)
  rw [hr.top]
  by_cases hv : valM s.top B.on = 0
  ·rw [show (!decide (valM s.top B.on = 0)) = false by simp [hv]]
   obtain ⟨to,T,hto,hg⟩:=goto 1 (by omega)
   obtain ⟨_,htcl,rfl,_⟩:=htel 1 _ hto
   have had : AddrIs ta tb to':=⟨hta (ne_of_get hto)⟩
   have hl0 : LtIs 1 tn:=⟨by omega⟩
   have hci : CellsIs wz tb (to' + 1 * 1) _:=⟨htcl⟩
   have hol : OldIs S tb:=hcl.old htcl
   repeat (first|refine g_op rfl ?_|refine g_region ?_|refine g_condF ?_)
   refine g_permH (List.perm_append_comm (l₁:=[_])) ?_
   refine g_callC (H1:=macL p g fs av m) (val:=fun _ : MacV=>.tuple #[]) (E:=fun x=>macL p g fs av x) (φ:=fun x=>x.iv = m.iv∧x.inp = m.inp∧∃ rest t,Rep x (jumpM u s to) rest t) hcl rfl (fun wz' w hcl' hle _ hw=>goJump_c hcl' u hu p g fs av (hfs.le mono_func hle) (hav.le mono_tab hle) m s rest t hr hok hs X R hf to T hg w hw) fun x hx=>?_
   obtain ⟨hx1,hx2,hx3⟩:=hx
   repeat (first|refine g_then ?_|refine g_nil ?_|refine g_region ?_|refine g_seq ?_|refine g_opS rfl ?_|refine g_inBlock ?_|refine g_ret ?_)
   refine g_ret1 rfl fun w' hw'=>⟨(x,true),rfl,hw'.sub (List.sublist_append_left _ _),.inl ⟨hx1,hx2⟩,?_⟩
   unfold endM
   rw [if_neg h2,if_pos h3,if_neg (by simp [hv]),show B.to.getD 1 0 = (to : Int) by rw [List.getD_eq_getElem?_getD,hto]; rfl]
   exact ⟨rfl,hx3⟩
  ·rw [show (!decide (valM s.top B.on = 0)) = true by simp [hv]]
   obtain ⟨to,T,hto,hg⟩:=goto 0 (by omega)
   obtain ⟨_,htcl,rfl,_⟩:=htel 0 _ hto
   have had : AddrIs ta tb to':=⟨hta (ne_of_get hto)⟩
   have hl0 : LtIs 0 tn:=⟨by omega⟩
   have hci : CellsIs wz tb (to' + 0 * 1) _:=⟨htcl⟩
   have hol : OldIs S tb:=hcl.old htcl
   repeat (first|refine g_op rfl ?_|refine g_region ?_|refine g_condT ?_)
   refine g_permH (List.perm_append_comm (l₁:=[_])) ?_
   refine g_callC (H1:=macL p g fs av m) (val:=fun _ : MacV=>.tuple #[]) (E:=fun x=>macL p g fs av x) (φ:=fun x=>x.iv = m.iv∧x.inp = m.inp∧∃ rest t,Rep x (jumpM u s to) rest t) hcl rfl (fun wz' w hcl' hle _ hw=>goJump_c hcl' u hu p g fs av (hfs.le mono_func hle) (hav.le mono_tab hle) m s rest t hr hok hs X R hf to T hg w hw) fun x hx=>?_
   obtain ⟨hx1,hx2,hx3⟩:=hx
   repeat (first|refine g_then ?_|refine g_nil ?_|refine g_region ?_|refine g_seq ?_|refine g_opS rfl ?_|refine g_inBlock ?_|refine g_ret ?_)
   refine g_ret1 rfl fun w' hw'=>⟨(x,true),rfl,hw'.sub (List.sublist_append_left _ _),.inl ⟨hx1,hx2⟩,?_⟩
   unfold endM
   rw [if_neg h2,if_pos h3,if_pos hv,show B.to.getD 0 0 = (to : Int) by rw [List.getD_eq_getElem?_getD,hto]; rfl]
   exact ⟨rfl,hx3⟩
 rw [decide_eq_false h3]
 have h1 : B.kind = 1:=by rcases hfit.kind.1 with h|h|h <;> simp_all
 repeat (first|refine g_op rfl ?_|refine g_then ?_|refine g_nil ?_|refine g_region ?_|refine g_seq ?_|refine g_condF ?_)
 rw [decide_eq_true h1]
 repeat (first|refine g_seq ?_|refine g_condT ?_)
 refine g_eqH (H1:=Ent.box p3 [.int .i64 B.kind,.bool B.on.reg,.int .i64 B.on.n,.slice ta tn tc] 50::Ent.box p [g,fs,av,.slice m.ma m.mem.length m.mc,m.iv,.int .i64 m.state,.int .i64 m.value,.slice m.oa m.out.length m.oc,.int .i64 m.steps,.slice m.fa m.rows.length m.fc,.slice m.ca m.cs.length m.cc] 126::frsE m::memE m::outE m::cnsE m::(m.rows.map frE++m.cs.map cnE)) rfl ?_
 have hg2 : m.rows[rest.length]? = some t:=by rw [hr.rows]; simp
 have hoc : OwnCell (Ent.box p3 [.int .i64 B.kind,.bool B.on.reg,.int .i64 B.on.n,.slice ta tn tc] 50::Ent.box p [g,fs,av,.slice m.ma m.mem.length m.mc,m.iv,.int .i64 m.state,.int .i64 m.value,.slice m.oa m.out.length m.oc,.int .i64 m.steps,.slice m.fa m.rows.length m.fc,.slice m.ca m.cs.length m.cc] 126::frsE m::memE m::outE m::cnsE m::(m.rows.map frE++m.cs.map cnE)) fb (fo + rest.length * 5 + 4) (.int .i64 t.f.dst):=⟨fun _ _ w' hw'=>by
  have hk : (Ent.box p3 [.int .i64 B.kind,.bool B.on.reg,.int .i64 B.on.n,.slice ta tn tc] 50::Ent.box p [g,fs,av,.slice m.ma m.mem.length m.mc,m.iv,.int .i64 m.state,.int .i64 m.value,.slice m.oa m.out.length m.oc,.int .i64 m.steps,.slice m.fa m.rows.length m.fc,.slice m.ca m.cs.length m.cc] 126::frsE m::memE m::outE m::cnsE m::(m.rows.map frE++m.cs.map cnE))[2]? = some (Ent.vec (some ⟨fb,fo,none⟩) m.rows.length m.fc 145 5 (m.rows.flatMap frC)):=by rw [← hfa]; rfl
  rw [Nat.add_assoc]
  exact hw'.vecCell hk (flat_at frC_len m.rows rest.length t 4 _ hg2 rfl)⟩
 refine g_draw mixed (by kernel_rfl) ?_
 repeat (refine q_op rfl ?_)
 refine q_call rfl (fun w hw=>wval_c (htop w (hw.sub (.cons _ (.refl _)))) B.on hvok) ?_
 repeat (refine q_op rfl ?_)
 refine q_call rfl (fun w hw=>htopc w (hw.sub (.cons _ (.refl _)))) ?_
 repeat (first|refine q_op rfl ?_|refine q_nil ?_)
 repeat (first|refine g_then ?_|refine g_seq ?_)
 have hfc : m.rows.length ≤ m.fc:=(hw.vecAt (k:=1) (show (macL p g fs av m)[1]? = some (Ent.vec (some ⟨fb,fo,none⟩) m.rows.length m.fc 145 5 (m.rows.flatMap frC)) by rw [← hfa]; rfl)).2.1
 have hch : CutHi rest.length m.fc:=⟨by omega⟩
 have hbr:=hb.rows
 refine g_drawX [] (fun _ : Unit=>True) (fun _=>[(0,.pointer (some ⟨p,0,none⟩)),(5,.int .i64 (valM t.f B.on)),(6,.int .i64 t.f.dst),(3,.pointer (some ⟨p3,0,none⟩))]) (fun _=>Ent.box p3 [.int .i64 B.kind,.bool B.on.reg,.int .i64 B.on.n,.slice ta tn tc] 50::Ent.box p [g,fs,av,.slice m.ma m.mem.length m.mc,m.iv,.int .i64 m.state,.int .i64 m.value,.slice m.oa m.out.length m.oc,.int .i64 m.steps,.slice m.fa rest.length m.fc,.slice m.ca m.cs.length m.cc] 126::frsE m::memE m::outE m::cnsE m::(m.rows.map frE++m.cs.map cnE)) mixed (List.nil_sublist _) ?_ fun _ _=>?_
 ·skip
  refine h_take 0 rfl (by decide +kernel) (List.nil_sublist _) ?_
  refine h_take 1 rfl (by decide +kernel) (List.nil_sublist _) ?_
  refine h_take 2 rfl (by decide +kernel) (List.nil_sublist _) ?_
  refine h_take 3 rfl (by decide +kernel) (List.nil_sublist _) ?_
  refine h_take 5 rfl (by decide +kernel) (List.nil_sublist _) ?_
  refine h_take 6 rfl (by decide +kernel) (List.nil_sublist _) ?_
  refine h_take 7 rfl (by decide +kernel) (List.nil_sublist _) ?_
  refine h_two 4 8 (by decide +kernel) ?_ ?_
  refine o_op 4 rfl (List.nil_sublist _) ?_
  refine h_one 8 (by decide +kernel) (o_op 8 rfl (List.nil_sublist _) ?_)
  refine h_take 9 rfl (by decide +kernel) (List.nil_sublist _) ?_
  refine h_take (h:=runs_sub (by omega) (by omega)) 10 rfl (by decide +kernel) (List.nil_sublist _) ?_
  rw [show (m.rows.length : Int) - 1 = (rest.length : Int) by omega]
  rotate_left
  refine o_op 8 rfl (List.nil_sublist _) ?_
  refine h_take 9 rfl (by decide +kernel) (List.nil_sublist _) ?_
  refine h_take (h:=runs_sub (by omega) (by omega)) 10 rfl (by decide +kernel) (List.nil_sublist _) ?_
  rw [show (m.rows.length : Int) - 1 = (rest.length : Int) by omega]
  refine h_one 4 (by decide +kernel) (o_op 4 rfl (List.nil_sublist _) ?_)
  rotate_left
  all_goals
   refine h_take 11 rfl (by decide +kernel) (List.nil_sublist _) ?_
   refine h_take 12 rfl (by decide +kernel) (List.nil_sublist _) ?_
   refine h_take 13 rfl (by decide +kernel) (List.nil_sublist _) ?_
   refine h_one 14 (by decide +kernel) (o_store 14 (List.nil_sublist _) ?_)
   refine h_end (by decide +kernel) ?_
   exact g_mem () trivial (by repeat (first|exact trivial|refine ⟨rfl,?_⟩)) (.refl _)
 obtain ⟨m',hm'⟩ : ∃ m' : MacV,m' = { m with rows:=rest }:=⟨_,rfl⟩
 refine g_eqH (H1:=Ent.box p3 [.int .i64 B.kind,.bool B.on.reg,.int .i64 B.on.n,.slice ta tn tc] 50::Ent.box p [g,fs,av,.slice m.ma m.mem.length m.mc,m.iv,.int .i64 m.state,.int .i64 m.value,.slice m.oa m.out.length m.oc,.int .i64 m.steps,.slice m.fa rest.length m.fc,.slice m.ca m.cs.length m.cc] 126::Ent.vec (some ⟨fb,fo,none⟩) m.rows.length m.fc 145 5 (m.rows.flatMap frC)::memE m::outE m::cnsE m::(m.rows.map frE++m.cs.map cnE)) (by rw [← hfa]; rfl) ?_
 refine g_shrink 2 rfl rest.length (by omega) ?_
 simp only [List.set_cons_succ,List.set_cons_zero]
 have htk : (m.rows.flatMap frC).take (rest.length * 5) = rest.flatMap frC:=by
  rw [(flat_cut frC_len m.rows rest.length).1,hr.rows,List.take_left]
 rw [htk]
 refine g_fix (L':=[(0,.pointer (some ⟨p,0,none⟩)),(5,.int .i64 (valM t.f B.on)),(6,.int .i64 t.f.dst),(3,.pointer (some ⟨p3,0,none⟩))]) (H':=Ent.box p3 [.int .i64 B.kind,.bool B.on.reg,.int .i64 B.on.n,.slice ta tn tc] 50::macL p g fs av m') (by repeat (first|exact trivial|refine ⟨rfl,?_⟩)) ?_ ?_
 ·rw [hm',hr.rows]
  unfold macL wbox frsE memE outE cnsE
  simp only [hfa,List.map_append,List.map_cons,List.map_nil,List.append_assoc]
  exact List.Sublist.cons_cons _ (.cons_cons _ (.cons_cons _ (.cons_cons _ (.cons_cons _ (.cons_cons _ (List.Sublist.append_left (List.sublist_cons_self _ _) _))))))
 have hend : endM u s B = match s.rest.getLast? with|none=>.inr (s.stop 0 (valM s.top B.on))|some t=>.inl { s with rest:=s.rest.dropLast,top:=t.set s.top.dst (valM s.top B.on) }:=by
  unfold endM
  rw [if_neg h2,if_neg h3]
  cases s.rest.getLast? <;> rfl
 refine g_eqH (H1:=Ent.box p3 [.int .i64 B.kind,.bool B.on.reg,.int .i64 B.on.n,.slice ta tn tc] 50::Ent.box p [g,fs,av,.slice m'.ma m'.mem.length m'.mc,m'.iv,.int .i64 m'.state,.int .i64 m'.value,.slice m'.oa m'.out.length m'.oc,.int .i64 m'.steps,.slice m'.fa m'.rows.length m'.fc,.slice m'.ca m'.cs.length m'.cc] 126::frsE m'::memE m'::outE m'::cnsE m'::(m'.rows.map frE++m'.cs.map cnE)) rfl ?_
 repeat (first|refine g_op rfl ?_|refine g_then ?_|refine g_nil ?_|refine g_region ?_|refine g_seq ?_)
 rcases rest_last hr with ⟨hr0,hl0⟩|⟨rest',t',hr',hl',hd'⟩
 ·rw [show decide ((m'.rows.length : Int) = 0) = true by rw [hm',hr0]; rfl]
  repeat (first|refine g_op rfl ?_|refine g_then ?_|refine g_nil ?_|refine g_region ?_|refine g_seq ?_|refine g_store ?_|refine g_condT ?_)
  refine g_permH (List.perm_append_comm (l₁:=[_])) ?_
  refine g_callC (H1:=macL p g fs av { m' with value:=valM t.f B.on }) (val:=fun _ : Unit=>.bool false) (E:=fun _=>macL p g fs av { m' with value:=valM t.f B.on,state:=0 }) (φ:=fun _=>True) hcl rfl (fun wz' w hcl' hle _ hw=>wstop_c p g fs av _ 0 w hw) fun _ _=>?_
  repeat (first|refine g_op rfl ?_|refine g_then ?_|refine g_nil ?_|refine g_ret ?_|refine g_thenRet ?_|refine g_blockRet ?_)
  refine g_ret1 rfl fun w' hw'=>⟨({ m' with value:=valM t.f B.on,state:=0 },false),rfl,hw'.sub (List.sublist_append_left _ _),.inl (by rw [hm']; exact ⟨rfl,rfl⟩),?_⟩
  rw [hend,hl0]
  exact ⟨rfl,rfl,by rw [hr.top]; rfl,by rw [hm']; exact hr.out,by rw [hm']; exact hr.steps,by rw [hm']; exact hr.cnt⟩
 ·rw [show decide ((m'.rows.length : Int) = 0) = false by rw [hm',hr']; simp; omega]
  repeat (first|refine g_op rfl ?_|refine g_then ?_|refine g_region ?_|refine g_skip ?_|refine g_condF ?_)
  have hb' : m'.Bd:=by
   rw [hm']
   refine ⟨by have:=hb.rows; simp only; omega,fun r hrm=>hb.regs r (by rw [hr.rows]; exact List.mem_append_left _ hrm),hb.mem,hb.out,hb.cs,hb.cnt,hb.steps⟩
  have hdst : 0 ≤ t.f.dst→t.f.dst < t'.f.regs.length:=by
   have h5:=hok.dst
   rw [← hr.below,hr',← hr.top] at h5
   simp only [List.map_append,List.map_cons,List.map_nil] at h5
   exact h5.last
  refine g_permH (List.perm_append_comm (l₁:=[_])) ?_
  refine g_callC (H1:=macL p g fs av m') (val:=fun _ : Unit=>.tuple #[]) (E:=fun _=>macL p g fs av { m' with rows:=rest'++[t'.set t.f.dst (valM t.f B.on)] }) (φ:=fun _=>True) hcl rfl (fun wz' w hcl' hle _ hw=>wset_c p g fs av m' hb' (by rw [hm',hr']) t.f.dst (valM t.f B.on) hdst w hw) fun _ _=>?_
  repeat (first|refine g_op rfl ?_|refine g_then ?_|refine g_nil ?_|refine g_region ?_|refine g_seq ?_|refine g_inBlock ?_|refine g_ret ?_)
  refine g_ret1 rfl fun w' hw'=>⟨({ m' with rows:=rest'++[t'.set t.f.dst (valM t.f B.on)] },true),rfl,hw'.sub (List.sublist_append_left _ _),.inl (by rw [hm']; exact ⟨rfl,rfl⟩),?_⟩
  rw [hend,hl']
  refine ⟨rfl,rest',t'.set t.f.dst (valM t.f B.on),?_⟩
  rw [hm']
  exact ⟨rfl,hd'.symm,by rw [← hr.top]; rfl,hr.mem,hr.inp,hr.out,hr.steps,hr.cnt,hr.zero⟩
theorem wins_c {S : Nat→Prop} {wz : World} (hcl : Clean S wz) (u : LUnit) (hu : UnitFit u) (p : Nat) (g fs av : Value) (hfs : SlAt wz fs 4 u.funcs FuncV) (m : MacV) (s : Mac) (rest : List FRow) (t : FRow) (hr : Rep m s rest t) (hok : MacOk u s.steps s) (hs : s.steps ≤ 1000000) (X : LFunc) (R : Nat) (hf : FrmOk u s.top X R) (hin : SlAt wz m.iv 1 m.inp IntV) (x : LIns) (hx : InsFit u R x) (xv : Value) (hxv : SlAt wz xv 2 x.args ValV) (w : World) (hw : Wd S wz (macL p g fs av m) w) :
  Ret Tryz.prog 101 [.pointer (some ⟨p,0,none⟩),.agg #[.int .i64 x.op,.int .i64 x.dst,.bool x.a.reg,.int .i64 x.a.n,.bool x.b.reg,.int .i64 x.b.n,.int .i64 x.fn,xv]] w fun u' w'=>∃ y : MacV × Bool,u' = .bool y.2∧Wd S wz (macL p g fs av y.1) w'∧After m (insM u s x) y:=by
 have hb:=bd_of hu hr hok (Nat.le_succ _) hs
 obtain ⟨_,fb,fo,hfa,_⟩:=mac_top (H:=[]) (by rw [List.append_nil]; exact hw) hb hr.rows
 have hlen : m.rows.length = rest.length + 1:=by rw [hr.rows]; simp
 have htop : ∀ w,Wd S wz (macL p g fs av m) w→TopAt w p fb fo m.rows.length t:=fun w hw=>top_at (H:=[]) (by rw [List.append_nil]; exact hw) hb hr.rows hfa
 have hvok : ∀ v,ValOk R v→ValOk t.f.regs.length v:=fun v hv=>by rw [hr.top,hf.regs]; exact hv
 obtain ⟨xa,xn,xc,xb,xo,rfl,hxn,hxnc,hxnb,hxc,hxa,hxel⟩:=hxv
 refine ret_enterZ Tryz.func101 rfl Tryz.ntmps101 rfl hw ?_
 repeat (first|refine g_op rfl ?_|refine g_then ?_|refine g_nil ?_|refine g_region ?_|refine g_seq ?_|refine g_box rfl fun _ _=>?_)
 rename_i p3 _
 refine g_draw mixed (by kernel_rfl) ?_
 repeat (refine q_op rfl ?_)
 refine q_call rfl (fun w hw=>wval_c (htop w (hw.sub (.cons _ (.refl _)))) x.a (hvok _ hx.a)) ?_
 repeat (refine q_op rfl ?_)
 refine q_call rfl (fun w hw=>wval_c (htop w (hw.sub (.cons _ (.refl _)))) x.b (hvok _ hx.b)) ?_
 repeat (first|refine q_op rfl ?_|refine q_nil ?_)
 repeat (first|refine g_op rfl ?_|refine g_then ?_|refine g_nil ?_|refine g_region ?_|refine g_seq ?_|refine g_block ?_)
 have hrt:=hr.top
 rw [hrt]
 obtain ⟨va,hva⟩ : ∃ va,valM s.top x.a = va:=⟨_,rfl⟩
 obtain ⟨vb,hvb⟩ : ∃ vb,valM s.top x.b = vb:=⟨_,rfl⟩
 have hva':=valM_in hf hx.a hx.nums.2.1
 have hvb':=valM_in hf hx.b hx.nums.2.2.1
 rw [hva] at hva' ⊢
 rw [hvb] at hvb' ⊢
 have hml:=hb.mem.1
 refine g_eqH (H1:=Ent.box p3 [.int .i64 x.op,.int .i64 x.dst,.bool x.a.reg,.int .i64 x.a.n,.bool x.b.reg,.int .i64 x.b.n,.int .i64 x.fn,.slice xa xn xc] 89::Ent.box p [g,fs,av,.slice m.ma m.mem.length m.mc,m.iv,.int .i64 m.state,.int .i64 m.value,.slice m.oa m.out.length m.oc,.int .i64 m.steps,.slice m.fa m.rows.length m.fc,.slice m.ca m.cs.length m.cc] 126::frsE m::memE m::outE m::cnsE m::(m.rows.map frE++m.cs.map cnE)) rfl ?_
 have hz:=hr.zero
 have hfin : ∀ (st : Int) (w' : World),Wd S wz (macL p g fs av { m with state:=st }++[Ent.box p3 [.int .i64 x.op,.int .i64 x.dst,.bool x.a.reg,.int .i64 x.a.n,.bool x.b.reg,.int .i64 x.b.n,.int .i64 x.fn,.slice xa xn xc] 89]) w'→insM u s x = .inr (s.stop st 0)→∃ y : MacV × Bool,Value.bool false = .bool y.2∧Wd S wz (macL p g fs av y.1) w'∧After m (insM u s x) y:=fun st w' hw' he =>
  ⟨({ m with state:=st },false),rfl,hw'.sub (List.sublist_append_left _ _),.inl ⟨rfl,rfl⟩,by rw [he]; exact ⟨rfl,rfl,hz.2,hr.out,hr.steps,hr.cnt⟩⟩
 by_cases h18 : x.op = 18 ∨ x.op = 19
 ·have hins : insM u s x = if !within va 0 ((s.mem.length : Int) - 1) then .inr (s.stop 3 0) else if x.op = 19 then .inl { s with mem:=s.mem.set va.toNat vb } else .inl (s.set x.dst (s.mem.getD va.toNat 0)):=by
   unfold insM
   simp only [hva,hvb]
   rw [if_pos h18]
  refine Or.elim (Classical.em (x.op = 18)) (fun h=>?_) (fun h=>?_)
  rw [decide_eq_true h]
  repeat (first|refine g_op rfl ?_|refine g_then ?_|refine g_region ?_|refine g_seq ?_|refine g_skip ?_|refine g_condT ?_|refine g_sub rfl (by omega) (by omega) ?_)
  rotate_left
  rw [decide_eq_false h]
  repeat (first|refine g_op rfl ?_|refine g_then ?_|refine g_nil ?_|refine g_region ?_|refine g_opS rfl ?_|refine g_condF ?_)
  rw [decide_eq_true (h18.resolve_left h)]
  repeat (first|refine g_op rfl ?_|refine g_region ?_|refine g_seq ?_|refine g_condT ?_|refine g_sub rfl (by omega) (by omega) ?_)
  rotate_left
  all_goals
   refine g_callV rfl (fun w _=>within_c va 0 ((m.mem.length : Int) - 1) w) ?_
   by_cases hw1 : within va 0 ((m.mem.length : Int) - 1) = true
   ·rw [hw1]
    repeat (first|refine g_op rfl ?_|refine g_then ?_|refine g_nil ?_|refine g_region ?_|refine g_seq ?_|refine g_skip ?_|refine g_condF ?_)
    simp only [within,Bool.and_eq_true,decide_eq_true_eq] at hw1
    obtain ⟨k,hk⟩ : ∃ k : Nat,va = k:=⟨va.toNat,by omega⟩
    subst hk
    obtain ⟨y,hy⟩ : ∃ y,m.mem[k]? = some y:=⟨_,List.getElem?_eq_getElem (by omega)⟩
    have hwi : within (k : Int) 0 ((s.mem.length : Int) - 1) = true:=by rw [← hr.mem]; simp [within]; omega
    have hlk : LtIs k m.mem.length:=⟨by omega⟩
    have hely : ElAt m.mem k y:=⟨hy⟩
    unfold memE
    refine g_vec 3 rfl (by omega) fun mb mo hma=>?_
    by_cases h19 : x.op = 19
    ·rw [decide_eq_true h19]
     rw [hma]
     repeat (first|refine g_op rfl ?_|refine g_then ?_|refine g_nil ?_|refine g_region ?_|refine g_seq ?_|refine g_opS rfl ?_|refine g_inBlock ?_|refine g_condT ?_|refine g_ret ?_|refine g_storeV ?_)
     refine g_ret1 rfl fun w' hw'=>⟨({ m with mem:=m.mem.set k vb },true),rfl,?_,.inl ⟨rfl,rfl⟩,?_⟩
     ·have h5:=hw'.sub (List.sublist_cons_self _ _)
      unfold macL wbox memE
      simp only [List.length_set,hma]
      exact h5
     ·rw [hins,hwi]
      simp only [Bool.not_true,Bool.false_eq_true,if_false,if_pos h19,Int.toNat_natCast]
      exact ⟨trivial,rest,t,hr.rows,hr.below,hr.top,by simp only [hr.mem],hr.inp,hr.out,hr.steps,hr.cnt,hr.zero⟩
    ·rw [decide_eq_false h19]
     rw [hma]
     repeat (refine g_condF ?_)
     refine g_drawX [Ent.box p3 [.int .i64 x.op,.int .i64 x.dst,.bool x.a.reg,.int .i64 x.a.n,.bool x.b.reg,.int .i64 x.b.n,.int .i64 x.fn,.slice xa xn xc] 89] (fun _ : Unit=>True) (fun _=>[(0,.pointer (some ⟨p,0,none⟩))]) (fun _=>macL p g fs av { m with rows:=rest++[t.set x.dst y] }) mixed (.cons_cons _ (List.nil_sublist _)) ?_ fun _ _=>?_
     ·skip
      refine h_take 0 rfl (by decide +kernel) (.cons_cons _ (List.nil_sublist _)) ?_
      refine h_take 1 rfl (by decide +kernel) (.cons_cons _ (List.nil_sublist _)) ?_
      refine h_take 2 rfl (by decide +kernel) (.cons_cons _ (List.nil_sublist _)) ?_
      refine h_take 3 rfl (by decide +kernel) (.cons_cons _ (List.nil_sublist _)) ?_
      refine h_take 4 rfl (by decide +kernel) (.cons_cons _ (List.nil_sublist _)) ?_
      refine h_take 5 rfl (by decide +kernel) (.cons_cons _ (List.nil_sublist _)) ?_
      refine h_take 7 rfl (by decide +kernel) (.cons_cons _ (List.nil_sublist _)) ?_
      refine h_one 6 (by decide +kernel) (o_op 6 rfl (.cons_cons _ (List.nil_sublist _)) ?_)
      refine h_take 8 rfl (by decide +kernel) (.cons_cons _ (List.nil_sublist _)) ?_
      refine h_one 9 (by decide +kernel) (o_op 9 rfl (.cons_cons _ (List.nil_sublist _)) ?_)
      refine g_eqH (H1:=[Ent.box p3 [.int .i64 x.op,.int .i64 x.dst,.bool x.a.reg,.int .i64 x.a.n,.bool x.b.reg,.int .i64 x.b.n,.int .i64 x.fn,.slice xa xn xc] 89]++macL p g fs av m) (by unfold macL wbox memE; rw [hma]; rfl) ?_
      refine g_permH (List.perm_append_comm (l₁:=[_])) ?_
      refine h_callC 10 (val:=fun _ : Unit=>.tuple #[]) (E:=fun _=>macL p g fs av { m with rows:=rest++[t.set x.dst y] }) (φ:=fun _=>True) hcl rfl (by decide +kernel) (.refl _) (fun wz' w hcl' hle _ hw=>wset_c p g fs av m hb hr.rows x.dst y (fun h0=>by rw [hrt,hf.regs]; exact hx.dst h0) w hw) fun _ _=>?_
      refine h_end (by decide +kernel) ?_
      exact g_mem () trivial (by repeat (first|exact trivial|refine ⟨rfl,?_⟩)) (List.sublist_append_left _ _)
     repeat (first|refine g_op rfl ?_|refine g_then ?_|refine g_nil ?_|refine g_region ?_|refine g_seq ?_|refine g_inBlock ?_|refine g_ret ?_)
     refine g_ret1 rfl fun w' hw'=>⟨({ m with rows:=rest++[t.set x.dst y] },true),rfl,hw',.inl ⟨rfl,rfl⟩,?_⟩
     rw [hins,hwi]
     simp only [Bool.not_true,Bool.false_eq_true,if_false,if_neg h19,Int.toNat_natCast]
     have hgy : s.mem.getD k 0 = y:=by rw [← hr.mem,List.getD_eq_getElem?_getD,hy]; rfl
     rw [hgy]
     exact ⟨trivial,rest,t.set x.dst y,rfl,hr.below,by simp only [Mac.set,FRow.set,hrt],hr.mem,hr.inp,hr.out,hr.steps,hr.cnt,hr.zero⟩
   ·have hw2 : within va 0 ((m.mem.length : Int) - 1) = false:=by simpa using hw1
    rw [hw2]
    repeat (first|refine g_op rfl ?_|refine g_then ?_|refine g_nil ?_|refine g_region ?_|refine g_seq ?_|refine g_condT ?_)
    refine g_permH (H1:=macL p g fs av m++[Ent.box p3 [.int .i64 x.op,.int .i64 x.dst,.bool x.a.reg,.int .i64 x.a.n,.bool x.b.reg,.int .i64 x.b.n,.int .i64 x.fn,.slice xa xn xc] 89]) (List.perm_append_comm (l₁:=[_])) ?_
    refine g_callC (H1:=macL p g fs av m) (val:=fun _ : Unit=>.bool false) (E:=fun _=>macL p g fs av { m with state:=3 }) (φ:=fun _=>True) hcl rfl (fun wz' w hcl' hle _ hw=>wstop_c p g fs av m 3 w hw) fun _ _=>?_
    repeat (first|refine g_then ?_|refine g_nil ?_|refine g_opS rfl ?_|refine g_ret ?_|refine g_thenRet ?_|refine g_blockRet ?_)
    refine g_ret1 rfl fun w' hw'=>hfin 3 w' hw' ?_
    rw [hins,← hr.mem,hw2]
    rfl
 obtain ⟨h180,h190⟩:=not_or.1 h18
 rw [decide_eq_false h180]
 repeat (first|refine g_op rfl ?_|refine g_then ?_|refine g_nil ?_|refine g_region ?_|refine g_opS rfl ?_|refine g_condF ?_)
 rw [decide_eq_false h190]
 repeat (first|refine g_op rfl ?_|refine g_then ?_|refine g_nil ?_|refine g_region ?_|refine g_seq ?_|refine g_condF ?_)
 by_cases h20 : x.op = 20
 ·have hins : insM u s x = if s.rest.length + 1 = 30 then .inr (s.stop 4 0) else .inl (enterM u s x.fn.toNat x.dst (x.args.map (valM s.top))):=by
   unfold insM
   simp only
   rw [if_neg h18,if_pos h20]
  have hrl : m.rows.length = s.rest.length + 1:=by rw [hlen,← hr.below,List.length_map]
  rw [decide_eq_true h20]
  repeat (first|refine g_op rfl ?_|refine g_then ?_|refine g_nil ?_|refine g_region ?_|refine g_seq ?_|refine g_condT ?_)
  by_cases hd : s.rest.length + 1 = 30
  ·rw [show decide ((m.rows.length : Int) = 30) = true by simp; omega]
   repeat (first|refine g_op rfl ?_|refine g_region ?_|refine g_seq ?_|refine g_condT ?_)
   refine g_permH (H1:=macL p g fs av m++[Ent.box p3 [.int .i64 x.op,.int .i64 x.dst,.bool x.a.reg,.int .i64 x.a.n,.bool x.b.reg,.int .i64 x.b.n,.int .i64 x.fn,.slice xa xn xc] 89]) (List.perm_append_comm (l₁:=[_])) ?_
   refine g_callC (H1:=macL p g fs av m) (val:=fun _ : Unit=>.bool false) (E:=fun _=>macL p g fs av { m with state:=4 }) (φ:=fun _=>True) hcl rfl (fun wz' w hcl' hle _ hw=>wstop_c p g fs av m 4 w hw) fun _ _=>?_
   repeat (first|refine g_then ?_|refine g_nil ?_|refine g_opS rfl ?_|refine g_ret ?_|refine g_thenRet ?_|refine g_blockRet ?_)
   refine g_ret1 rfl fun w' hw'=>hfin 4 w' hw' ?_
   rw [hins,if_pos hd]
  ·rw [show decide ((m.rows.length : Int) = 30) = false by simp; omega]
   obtain ⟨fk,Y,hfn,hY,hal⟩:=hx.call h20
   repeat (first|refine g_op rfl ?_|refine g_then ?_|refine g_nil ?_|refine g_region ?_|refine g_seq ?_|refine g_block ?_|refine g_skip ?_|refine g_condF ?_)
   refine g_nilVec 3 1 ?_
   refine g_loop (fun y : Nat × Option Addr × Nat=>y.1 ≤ x.args.length) (fun y=>[(88,.int .i64 y.1),(7,.slice y.2.1 y.1 y.2.2),(86,.slice xa xn xc),(87,.int .i64 xn),(6,.int .i64 vb),(5,.int .i64 va),(3,.pointer (some ⟨p3,0,none⟩)),(0,.pointer (some ⟨p,0,none⟩))]) (fun y=>Ent.vec y.2.1 y.1 y.2.2 3 1 (((x.args.take y.1).map (valM s.top)).map (.int .i64))::Ent.box p3 [.int .i64 x.op,.int .i64 x.dst,.bool x.a.reg,.int .i64 x.a.n,.bool x.b.reg,.int .i64 x.b.n,.int .i64 x.fn,.slice xa xn xc] 89::Ent.box p [g,fs,av,.slice m.ma m.mem.length m.mc,m.iv,.int .i64 m.state,.int .i64 m.value,.slice m.oa m.out.length m.oc,.int .i64 m.steps,.slice m.fa m.rows.length m.fc,.slice m.ca m.cs.length m.cc] 126::frsE m::memE m::outE m::cnsE m::(m.rows.map frE++m.cs.map cnE)) (fun y=>x.args.length - y.1) (0,none,0) (Nat.zero_le _) (g_done (by repeat (first|exact trivial|refine ⟨rfl,?_⟩)) (.refl _)) fun y hi=>?_
   obtain ⟨i,na,nc⟩:=y
   simp only at hi ⊢
   repeat (first|refine g_op rfl ?_|refine g_then ?_|refine g_nil ?_|refine g_region ?_|refine g_seq ?_)
   refine g_cond (fun h1=>?_) (fun h1=>?_)
   ·have hlt' : i < xn:=by simpa using h1
    obtain ⟨v,hv⟩ : ∃ v,x.args[i]? = some v:=⟨_,List.getElem?_eq_getElem (by omega)⟩
    obtain ⟨_,hvc,rfl,hvn⟩:=hxel i v hv
    have hadx : AddrIs xa xb xo:=⟨hxa (ne_of_get hv)⟩
    have hlix : LtIs i xn:=⟨hlt'⟩
    have hcix : CellsIs wz xb (xo + i * 2) _:=⟨hvc⟩
    have holx : OldIs S xb:=hcl.old hvc
    have hfew:=hx.few
    repeat (first|refine g_op rfl ?_|refine g_then ?_|refine g_nil ?_|refine g_region ?_|refine g_seq ?_|refine g_alloc rfl fun _ _=>?_|refine g_storeAgg ?_|refine g_block ?_|refine g_skip ?_)
    refine g_callV rfl (fun w hw=>wval_c (htop w (hw.sub (.cons _ (.cons _ (.cons _ (.refl _)))))) v (hvok _ (hx.args v (List.mem_of_getElem? hv)))) ?_
    rw [hrt]
    repeat (refine g_build1 rfl rfl fun _ _=>?_)
    rename_i b9 _ bb9 _
    refine g_appendAt 2 rfl rfl (by decide +kernel) (by omega) (by omega) fun na' nc'=>?_
    simp only [List.set_cons_succ,List.set_cons_zero]
    repeat (first|refine g_then ?_|refine g_nil ?_|refine g_region ?_|refine g_opS rfl ?_|refine g_inBlock ?_|refine g_add rfl (by omega) (by omega) ?_)
    refine g_next (i + 1,na',nc') (by simp only; omega) (by simp only; omega) (by repeat (first|exact trivial|refine ⟨rfl,?_⟩)) ?_
    rw [take_getB hv]
    simp only [List.map_append,List.map_cons,List.map_nil]
    exact List.Sublist.cons _ (.cons _ (.refl _))
   ·have hge : i = x.args.length:=by have:=h1; simp at this; omega
    subst hge
    rw [List.take_length]
    repeat (first|refine g_op rfl ?_|refine g_then ?_|refine g_region ?_|refine g_exit ?_|refine g_thenExit ?_|refine g_exitHere ?_)
    obtain ⟨R',hfit⟩:=hu.2 fk Y hY
    obtain ⟨cr,hcr,hcrl⟩:=row_of hr hok hY
    have hvals : ∀ z ∈ x.args.map (valM s.top),inI z:=fun z hz=>by
     obtain ⟨v,hv,rfl⟩:=List.mem_map.1 hz
     exact valM_in hf (hx.args v hv) (hx.nums.2.2.2 v hv)
    have hpp:=hfit.params
    rw [hfn]
    refine g_permH (H1:=macL p g fs av m++[Ent.vec na x.args.length nc 3 1 ((x.args.map (valM s.top)).map (.int .i64)),_]) (List.perm_append_comm (l₁:=[_,_])) ?_
    have hfew:=hx.few
    refine g_callC (H1:=macL p g fs av m) (val:=fun _ : Option Addr × Nat × Option Addr × Nat=>.tuple #[]) (E:=fun z=>macL p g fs av { m with fa:=z.1,fc:=z.2.1,rows:=m.rows++[⟨⟨fk,0,0,enterR R' (x.args.map (valM s.top)),x.dst⟩,z.2.2.1,z.2.2.2⟩],cs:=bumpC m.cs fk 0 }) (φ:=fun _=>True) hcl rfl (fun wz' w hcl' hle hw2 hw=>enter_c hcl' u p g fs av (hfs.le mono_func hle) m hb fk Y hY R' hfit.regs hfit.le x.dst (x.args.map (valM s.top)) na x.args.length nc (hw2.slAt (k:=0) rfl (by simp) (by omega) fun i z hz=>⟨[.int .i64 z],fun j v hj=>by
     match j,hj with
     | 0,hj =>
      rw [List.getElem?_map,Nat.mul_one,Nat.add_zero,hz]
      simpa using hj,rfl,hvals z (List.mem_of_getElem? hz)⟩) (by rw [List.length_map]; omega) cr hcr (by rw [hcrl]; exact hfit.pos) w hw) fun z _=>?_
    repeat (first|refine g_op rfl ?_|refine g_then ?_|refine g_nil ?_|refine g_region ?_|refine g_seq ?_|refine g_inBlock ?_|refine g_ret ?_)
    refine g_ret1 rfl fun w' hw'=>⟨({ m with fa:=z.1,fc:=z.2.1,rows:=m.rows++[⟨⟨fk,0,0,enterR R' (x.args.map (valM s.top)),x.dst⟩,z.2.2.1,z.2.2.2⟩],cs:=bumpC m.cs fk 0 },true),rfl,hw'.sub (List.sublist_append_left _ _),.inl ⟨rfl,rfl⟩,?_⟩
    rw [hins,if_neg hd,hfn,Int.toNat_natCast,enterM_eq hY hfit.regs]
    refine ⟨rfl,m.rows,⟨⟨fk,0,0,enterR R' (x.args.map (valM s.top)),x.dst⟩,z.2.2.1,z.2.2.2⟩,rfl,?_,rfl,hr.mem,hr.inp,hr.out,hr.steps,by simp only; rw [bumpC_l,hr.cnt],hr.zero⟩
    rw [hr.rows,List.map_append,hr.below,List.map_cons,List.map_nil,hrt]
 rw [decide_eq_false h20]
 repeat (first|refine g_op rfl ?_|refine g_then ?_|refine g_nil ?_|refine g_region ?_|refine g_seq ?_|refine g_condF ?_)
 have hdl : 0 ≤ x.dst→x.dst < t.f.regs.length:=fun h0=>by rw [hrt,hf.regs]; exact hx.dst h0
 have hno : ∀ k : Int,x.op ≠ k→x.op ≠ k:=fun _ h=>h
 by_cases h21 : x.op = 21
 ·have hins : insM u s x = .inl { s with top:=s.top.set x.dst (s.inp.headD (-1)),inp:=s.inp.tail }:=by
   unfold insM
   simp only
   rw [if_neg h18,if_neg h20,if_pos h21]
  rw [decide_eq_true h21]
  obtain ⟨ia,il,ic,ib,io,hiv,hil,hilc,hilb,hicb,hia,hiel⟩:=hin
  rw [hiv]
  repeat (first|refine g_op rfl ?_|refine g_then ?_|refine g_nil ?_|refine g_region ?_|refine g_seq ?_|refine g_condT ?_)
  cases hmi : m.inp with
  | nil =>
   rw [hmi] at hil
   rw [show decide ((0 : Int) < (il : Int)) = false by rw [hil]; rfl]
   repeat (first|refine g_op rfl ?_|refine g_then ?_|refine g_region ?_|refine g_skip ?_|refine g_condF ?_)
   rw [← hiv]
   refine g_eqH (H1:=[Ent.box p3 [.int .i64 x.op,.int .i64 x.dst,.bool x.a.reg,.int .i64 x.a.n,.bool x.b.reg,.int .i64 x.b.n,.int .i64 x.fn,.slice xa xn xc] 89]++macL p g fs av m) rfl ?_
   refine g_permH (List.perm_append_comm (l₁:=[_])) ?_
   refine g_callC (H1:=macL p g fs av m) (val:=fun _ : Unit=>.tuple #[]) (E:=fun _=>macL p g fs av { m with rows:=rest++[t.set x.dst (-1)] }) (φ:=fun _=>True) hcl rfl (fun wz' w hcl' hle _ hw=>wset_c p g fs av m hb hr.rows x.dst (-1) hdl w hw) fun _ _=>?_
   repeat (first|refine g_then ?_|refine g_nil ?_|refine g_region ?_|refine g_seq ?_|refine g_opS rfl ?_|refine g_inBlock ?_|refine g_ret ?_)
   refine g_ret1 rfl fun w' hw'=>⟨({ m with rows:=rest++[t.set x.dst (-1)] },true),rfl,hw'.sub (List.sublist_append_left _ _),.inl ⟨rfl,rfl⟩,?_⟩
   rw [hins,← hr.inp,hmi]
   exact ⟨rfl,rest,t.set x.dst (-1),rfl,hr.below,by simp only [FRow.set,hrt]; rfl,hr.mem,rfl,hr.out,hr.steps,hr.cnt,hr.zero⟩
  | cons z l =>
   have hi0 : m.inp[0]? = some z:=by rw [hmi]; rfl
   obtain ⟨_,hic0,rfl,_⟩:=hiel 0 z hi0
   have hilp : 0 < il:=by rw [hil,hmi]; simp
   have hadi : AddrIs ia ib io:=⟨hia (ne_of_get hi0)⟩
   have hli : LtIs 0 il:=⟨hilp⟩
   have hcii : CellsIs wz ib (io + 0 * 1) _:=⟨hic0⟩
   have holi : OldIs S ib:=hcl.old hic0
   rw [show decide ((0 : Int) < (il : Int)) = true by simp; omega]
   repeat (first|refine g_op rfl ?_|refine g_then ?_|refine g_nil ?_|refine g_region ?_|refine g_seq ?_|refine g_opS rfl ?_|refine g_condT ?_)
   refine g_cutTail rfl hilp fun ia' hia'=>?_
   repeat (first|refine g_op rfl ?_|refine g_then ?_|refine g_nil ?_|refine g_region ?_|refine g_store ?_)
   have hb1 : MacV.Bd { m with iv:=Value.slice ia' (il - 1) (ic - 1),inp:=l }:=⟨hb.rows,hb.regs,hb.mem,hb.out,hb.cs,hb.cnt,hb.steps⟩
   refine g_eqH (H1:=[Ent.box p3 [.int .i64 x.op,.int .i64 x.dst,.bool x.a.reg,.int .i64 x.a.n,.bool x.b.reg,.int .i64 x.b.n,.int .i64 x.fn,.slice xa xn xc] 89]++macL p g fs av { m with iv:=Value.slice ia' (il - 1) (ic - 1),inp:=l }) rfl ?_
   refine g_permH (List.perm_append_comm (l₁:=[_])) ?_
   refine g_callC (H1:=macL p g fs av { m with iv:=Value.slice ia' (il - 1) (ic - 1),inp:=l }) (val:=fun _ : Unit=>.tuple #[]) (E:=fun _=>macL p g fs av { { m with iv:=Value.slice ia' (il - 1) (ic - 1),inp:=l } with rows:=rest++[t.set x.dst z] }) (φ:=fun _=>True) hcl rfl (fun wz' w hcl' hle _ hw=>wset_c p g fs av { m with iv:=Value.slice ia' (il - 1) (ic - 1),inp:=l } hb1 hr.rows x.dst z hdl w hw) fun _ _=>?_
   repeat (first|refine g_then ?_|refine g_nil ?_|refine g_region ?_|refine g_seq ?_|refine g_opS rfl ?_|refine g_inBlock ?_|refine g_ret ?_)
   refine g_ret1 rfl fun w' hw'=>⟨({ { m with iv:=Value.slice ia' (il - 1) (ic - 1),inp:=l } with rows:=rest++[t.set x.dst z] },true),rfl,hw'.sub (List.sublist_append_left _ _),.inr ⟨ia,ia',il,ic,hiv,by rw [hmi]; simp,rfl,by rw [hmi]; rfl,hia'⟩,?_⟩
   rw [hins,← hr.inp,hmi]
   exact ⟨rfl,rest,t.set x.dst z,rfl,hr.below,by simp only [FRow.set,hrt]; rfl,hr.mem,rfl,hr.out,hr.steps,hr.cnt,hr.zero⟩
 rw [decide_eq_false h21]
 repeat (first|refine g_op rfl ?_|refine g_then ?_|refine g_nil ?_|refine g_region ?_|refine g_seq ?_|refine g_condF ?_)
 by_cases h22 : x.op = 22
 ·have hins : insM u s x = if s.out.length = 200 then .inr (s.stop 5 0) else .inl { s with out:=s.out++[va] }:=by
   unfold insM
   simp only [hva]
   rw [if_neg h18,if_neg h20,if_neg h21,if_pos h22]
  rw [decide_eq_true h22]
  repeat (first|refine g_op rfl ?_|refine g_then ?_|refine g_nil ?_|refine g_region ?_|refine g_seq ?_|refine g_condT ?_)
  by_cases hd : s.out.length = 200
  ·rw [show decide ((m.out.length : Int) = 200) = true by rw [hr.out]; simp; omega]
   repeat (first|refine g_op rfl ?_|refine g_region ?_|refine g_seq ?_|refine g_condT ?_)
   refine g_permH (H1:=macL p g fs av m++[Ent.box p3 [.int .i64 x.op,.int .i64 x.dst,.bool x.a.reg,.int .i64 x.a.n,.bool x.b.reg,.int .i64 x.b.n,.int .i64 x.fn,.slice xa xn xc] 89]) (List.perm_append_comm (l₁:=[_])) ?_
   refine g_callC (H1:=macL p g fs av m) (val:=fun _ : Unit=>.bool false) (E:=fun _=>macL p g fs av { m with state:=5 }) (φ:=fun _=>True) hcl rfl (fun wz' w hcl' hle _ hw=>wstop_c p g fs av m 5 w hw) fun _ _=>?_
   repeat (first|refine g_then ?_|refine g_nil ?_|refine g_opS rfl ?_|refine g_ret ?_|refine g_thenRet ?_|refine g_blockRet ?_)
   refine g_ret1 rfl fun w' hw'=>hfin 5 w' hw' ?_
   rw [hins,if_pos hd]
  ·rw [show decide ((m.out.length : Int) = 200) = false by rw [hr.out]; simp; omega]
   have hol:=hb.out.1
   unfold outE
   repeat (first|refine g_op rfl ?_|refine g_then ?_|refine g_region ?_|refine g_skip ?_|refine g_condF ?_|refine g_build1 rfl rfl fun _ _=>?_)
   rename_i bb _
   refine g_appendAt 5 rfl rfl (by decide +kernel) (by omega) (by omega) fun na nc=>?_
   simp only [List.set_cons_succ,List.set_cons_zero]
   repeat (first|refine g_op rfl ?_|refine g_then ?_|refine g_nil ?_|refine g_region ?_|refine g_seq ?_|refine g_opS rfl ?_|refine g_store ?_|refine g_inBlock ?_|refine g_ret ?_)
   refine g_ret1 rfl fun w' hw'=>⟨({ m with oa:=na,oc:=nc,out:=m.out++[va] },true),rfl,?_,.inl ⟨rfl,rfl⟩,?_⟩
   ·have h5:=hw'.sub (.cons _ (List.sublist_cons_self _ _))
    unfold macL wbox outE
    simp only [List.length_append,List.length_singleton,List.map_append,List.map_cons,List.map_nil]
    exact h5
   ·rw [hins,if_neg hd]
    exact ⟨rfl,rest,t,hr.rows,hr.below,hr.top,hr.mem,hr.inp,by simp only [hr.out],hr.steps,hr.cnt,hr.zero⟩
 rw [decide_eq_false h22]
 repeat (first|refine g_op rfl ?_|refine g_region ?_|refine g_seq ?_|refine g_condF ?_)
 have hins : insM u s x = match twoL x.op va vb with|none=>.inr (s.stop 2 0)|some n=>.inl (s.set x.dst n):=by
  unfold insM
  simp only [hva,hvb]
  rw [if_neg h18,if_neg h20,if_neg h21,if_neg h22]
  cases twoL x.op va vb <;> rfl
 refine g_callV rfl (fun w _=>two_c x.op va vb w) ?_
 unfold twoV
 cases ht : twoL x.op va vb with
 | none =>
  simp only
  repeat (first|refine g_op rfl ?_|refine g_then ?_|refine g_nil ?_|refine g_region ?_|refine g_seq ?_|refine g_condT ?_)
  refine g_permH (H1:=macL p g fs av m++[Ent.box p3 [.int .i64 x.op,.int .i64 x.dst,.bool x.a.reg,.int .i64 x.a.n,.bool x.b.reg,.int .i64 x.b.n,.int .i64 x.fn,.slice xa xn xc] 89]) (List.perm_append_comm (l₁:=[_])) ?_
  refine g_callC (H1:=macL p g fs av m) (val:=fun _ : Unit=>.bool false) (E:=fun _=>macL p g fs av { m with state:=2 }) (φ:=fun _=>True) hcl rfl (fun wz' w hcl' hle _ hw=>wstop_c p g fs av m 2 w hw) fun _ _=>?_
  repeat (first|refine g_then ?_|refine g_nil ?_|refine g_opS rfl ?_|refine g_ret ?_|refine g_thenRet ?_|refine g_blockRet ?_)
  refine g_ret1 rfl fun w' hw'=>hfin 2 w' hw' ?_
  rw [hins,ht]
 | some n =>
  simp only
  repeat (first|refine g_op rfl ?_|refine g_then ?_|refine g_nil ?_|refine g_region ?_|refine g_seq ?_|refine g_skip ?_|refine g_condF ?_)
  refine g_eqH (H1:=[Ent.box p3 [.int .i64 x.op,.int .i64 x.dst,.bool x.a.reg,.int .i64 x.a.n,.bool x.b.reg,.int .i64 x.b.n,.int .i64 x.fn,.slice xa xn xc] 89]++macL p g fs av m) rfl ?_
  refine g_permH (List.perm_append_comm (l₁:=[_])) ?_
  refine g_callC (H1:=macL p g fs av m) (val:=fun _ : Unit=>.tuple #[]) (E:=fun _=>macL p g fs av { m with rows:=rest++[t.set x.dst n] }) (φ:=fun _=>True) hcl rfl (fun wz' w hcl' hle _ hw=>wset_c p g fs av m hb hr.rows x.dst n hdl w hw) fun _ _=>?_
  repeat (first|refine g_then ?_|refine g_nil ?_|refine g_region ?_|refine g_seq ?_|refine g_opS rfl ?_|refine g_inBlock ?_|refine g_ret ?_)
  refine g_ret1 rfl fun w' hw'=>⟨({ m with rows:=rest++[t.set x.dst n] },true),rfl,hw'.sub (List.sublist_append_left _ _),.inl ⟨rfl,rfl⟩,?_⟩
  rw [hins,ht]
  exact ⟨rfl,rest,t.set x.dst n,rfl,hr.below,by simp only [FRow.set,hrt]; rfl,hr.mem,hr.inp,hr.out,hr.steps,hr.cnt,hr.zero⟩
theorem wstep_c {S : Nat→Prop} {wz : World} (hcl : Clean S wz) (u : LUnit) (hu : UnitFit u) (p : Nat) (g fs av : Value) (hfs : SlAt wz fs 4 u.funcs FuncV) (hav : SlAt wz av 1 (aheadsL u) TabV) (m : MacV) (s : Mac) (rest : List FRow) (t : FRow) (hr : Rep m s rest t) (hok : MacOk u (s.steps + 1) s) (hs : s.steps ≤ 100000) (hin : SlAt wz m.iv 1 m.inp IntV) (w : World) (hw : Wd S wz (macL p g fs av m) w) :
  Ret Tryz.prog 88 [.pointer (some ⟨p,0,none⟩)] w fun u' w'=>∃ y : MacV × Bool,u' = .bool y.2∧Wd S wz (macL p g fs av y.1) w'∧After m (stepM u s) y:=by
 have hb:=bd_of hu hr hok (Nat.le_refl _) (by omega)
 obtain ⟨_,fb,fo,hfa,_⟩:=mac_top (H:=[]) (by rw [List.append_nil]; exact hw) hb hr.rows
 have hlen : m.rows.length = rest.length + 1:=by rw [hr.rows]; simp
 have htop : ∀ w,Wd S wz (macL p g fs av m) w→TopAt w p fb fo m.rows.length t:=fun w hw=>top_at (H:=[]) (by rw [List.append_nil]; exact hw) hb hr.rows hfa
 have htopc : ∀ w,Wd S wz (macL p g fs av m) w→RetV Tryz.prog 99 [.pointer (some ⟨p,0,none⟩)] w (.pointer (some ⟨fb,fo + rest.length * 5,none⟩)):=fun w hw=>by
  have:=(htop w hw).top_c
  rwa [hlen,Nat.add_sub_cancel] at this
 obtain ⟨X,R,hf⟩:=hok.top
 obtain ⟨B,hB⟩ : ∃ B,X.blocks[s.top.block]? = some B:=⟨_,List.getElem?_eq_getElem hf.block⟩
 have hfit:=hf.fit.blk B (List.mem_of_getElem? hB)
 have hst:=stepM_eq u s
 rw [blockM_eq hf hB] at hst
 have hfs0:=hfs
 obtain ⟨ua,ul,uc,ub,uo,rfl,hul,hulc,hulb,huc,hua,huel⟩:=hfs
 obtain ⟨cs,hcs,bv,rfl,_,_,hbv⟩:=huel s.top.fn X hf.get
 have hfnl : s.top.fn < ul:=by rw [hul]; exact (List.getElem?_eq_some_iff.1 hf.get).1
 have had : AddrIs ua ub uo:=⟨hua (ne_of_get hf.get)⟩
 have hlf : LtIs s.top.fn ul:=⟨hfnl⟩
 have hci : CellsIs wz ub (uo + s.top.fn * 4) _:=⟨hcs⟩
 have hold : OldIs S ub:=hcl.old hcs
 obtain ⟨ba,bn,bc,bb,bo,rfl,hbn,hbnc,hbnb,hbc,hba,hbel⟩:=hbv
 obtain ⟨_,hTc,pv,lv,tv,rfl,_,_,hpv,hlv,htv⟩:=hbel s.top.block B hB
 have had2 : AddrIs ba bb bo:=⟨hba (ne_of_get hB)⟩
 have hlt : LtIs s.top.block bn:=⟨by rw [hbn]; exact hf.block⟩
 have hci2 : CellsIs wz bb (bo + s.top.block * 6) _:=⟨hTc⟩
 have hold2 : OldIs S bb:=hcl.old hTc
 obtain ⟨la,ln,lc,lb,lo,rfl,hln,hlnc,hlnb,hlc,hla,hlel⟩:=hlv
 have htv0:=htv
 obtain ⟨ta,tn,tc,_,_,rfl,_⟩:=htv
 obtain ⟨pa,pn,pc,_,_,rfl,_⟩:=hpv
 refine ret_enterZ Tryz.func88 rfl Tryz.ntmps88 rfl hw ?_
 repeat (first|refine g_op rfl ?_|refine g_then ?_|refine g_nil ?_|refine g_region ?_|refine g_seq ?_)
 refine g_callV rfl (fun w hw=>htopc w hw) ?_
 repeat (first|refine g_op rfl ?_|refine g_then ?_|refine g_nil ?_|refine g_seq ?_)
 refine g_eqH (H1:=Ent.box p [g,Value.slice ua ul uc,av,.slice m.ma m.mem.length m.mc,m.iv,.int .i64 m.state,.int .i64 m.value,.slice m.oa m.out.length m.oc,.int .i64 m.steps,.slice m.fa m.rows.length m.fc,.slice m.ca m.cs.length m.cc] 126::frsE m::memE m::outE m::cnsE m::(m.rows.map frE++m.cs.map cnE)) rfl ?_
 have hg2 : m.rows[rest.length]? = some t:=by rw [hr.rows]; simp
 have hoc : ∀ j v,(frC t)[j]? = some v→OwnCell (Ent.box p [g,Value.slice ua ul uc,av,.slice m.ma m.mem.length m.mc,m.iv,.int .i64 m.state,.int .i64 m.value,.slice m.oa m.out.length m.oc,.int .i64 m.steps,.slice m.fa m.rows.length m.fc,.slice m.ca m.cs.length m.cc] 126::frsE m::memE m::outE m::cnsE m::(m.rows.map frE++m.cs.map cnE)) fb (fo + rest.length * 5 + j) v:=fun j v hj=>⟨fun _ _ w' hw'=>by
  have hk : (Ent.box p [g,Value.slice ua ul uc,av,.slice m.ma m.mem.length m.mc,m.iv,.int .i64 m.state,.int .i64 m.value,.slice m.oa m.out.length m.oc,.int .i64 m.steps,.slice m.fa m.rows.length m.fc,.slice m.ca m.cs.length m.cc] 126::frsE m::memE m::outE m::cnsE m::(m.rows.map frE++m.cs.map cnE))[1]? = some (Ent.vec (some ⟨fb,fo,none⟩) m.rows.length m.fc 145 5 (m.rows.flatMap frC)):=by rw [← hfa]; rfl
  rw [Nat.add_assoc]
  exact hw'.vecCell hk (flat_at frC_len m.rows rest.length t j _ hg2 hj)⟩
 have htf:=hr.top
 have hoc0:=hoc 0 (.int .i64 (s.top.fn : Nat)) (by rw [← htf]; rfl)
 have hoc1:=hoc 1 (.int .i64 (s.top.block : Nat)) (by rw [← htf]; rfl)
 have hoc2:=hoc 2 (.int .i64 (s.top.at' : Nat)) (by rw [← htf]; rfl)
 simp only [Nat.add_zero] at hoc0
 refine g_drawX (Ent.box p [g,Value.slice ua ul uc,av,.slice m.ma m.mem.length m.mc,m.iv,.int .i64 m.state,.int .i64 m.value,.slice m.oa m.out.length m.oc,.int .i64 m.steps,.slice m.fa m.rows.length m.fc,.slice m.ca m.cs.length m.cc] 126::frsE m::memE m::outE m::cnsE m::(m.rows.map frE++m.cs.map cnE)) (fun _ : Nat=>True) (fun b=>[(3,.pointer (some ⟨fb,fo + rest.length * 5,none⟩)),(4,.pointer (some ⟨b,0,none⟩)),(0,.pointer (some ⟨p,0,none⟩))])
  (fun b=>Ent.box b [.slice pa pn pc,.slice la ln lc,.int .i64 B.kind,.bool B.on.reg,.int .i64 B.on.n,.slice ta tn tc] 52::Ent.box p [g,Value.slice ua ul uc,av,.slice m.ma m.mem.length m.mc,m.iv,.int .i64 m.state,.int .i64 m.value,.slice m.oa m.out.length m.oc,.int .i64 m.steps,.slice m.fa m.rows.length m.fc,.slice m.ca m.cs.length m.cc] 126::frsE m::memE m::outE m::cnsE m::(m.rows.map frE++m.cs.map cnE)) mixed (.refl _) ?_ fun b4 _=>?_
 ·skip
  refine h_take 0 rfl (by decide +kernel) (by repeat (first|exact List.Sublist.refl _|refine List.Sublist.cons _ ?_)) ?_
  refine h_take 1 rfl (by decide +kernel) (by repeat (first|exact List.Sublist.refl _|refine List.Sublist.cons _ ?_)) ?_
  refine h_take 2 rfl (by decide +kernel) (by repeat (first|exact List.Sublist.refl _|refine List.Sublist.cons _ ?_)) ?_
  refine h_take 3 rfl (by decide +kernel) (by repeat (first|exact List.Sublist.refl _|refine List.Sublist.cons _ ?_)) ?_
  refine h_take 4 rfl (by decide +kernel) (by repeat (first|exact List.Sublist.refl _|refine List.Sublist.cons _ ?_)) ?_
  refine h_take 5 rfl (by decide +kernel) (by repeat (first|exact List.Sublist.refl _|refine List.Sublist.cons _ ?_)) ?_
  refine h_take 6 rfl (by decide +kernel) (by repeat (first|exact List.Sublist.refl _|refine List.Sublist.cons _ ?_)) ?_
  refine h_take 7 rfl (by decide +kernel) (by repeat (first|exact List.Sublist.refl _|refine List.Sublist.cons _ ?_)) ?_
  refine h_take 8 rfl (by decide +kernel) (by repeat (first|exact List.Sublist.refl _|refine List.Sublist.cons _ ?_)) ?_
  refine h_take 9 rfl (by decide +kernel) (by repeat (first|exact List.Sublist.refl _|refine List.Sublist.cons _ ?_)) ?_
  refine h_take 10 rfl (by decide +kernel) (by repeat (first|exact List.Sublist.refl _|refine List.Sublist.cons _ ?_)) ?_
  refine h_take 11 rfl (by decide +kernel) (by repeat (first|exact List.Sublist.refl _|refine List.Sublist.cons _ ?_)) ?_
  refine h_take 12 rfl (by decide +kernel) (by repeat (first|exact List.Sublist.refl _|refine List.Sublist.cons _ ?_)) ?_
  refine h_take 13 rfl (by decide +kernel) (by repeat (first|exact List.Sublist.refl _|refine List.Sublist.cons _ ?_)) ?_
  refine h_take 14 rfl (by decide +kernel) (by repeat (first|exact List.Sublist.refl _|refine List.Sublist.cons _ ?_)) ?_
  refine h_take 15 rfl (by decide +kernel) (by repeat (first|exact List.Sublist.refl _|refine List.Sublist.cons _ ?_)) ?_
  refine h_take 16 rfl (by decide +kernel) (by repeat (first|exact List.Sublist.refl _|refine List.Sublist.cons _ ?_)) ?_
  refine h_take 17 rfl (by decide +kernel) (by repeat (first|exact List.Sublist.refl _|refine List.Sublist.cons _ ?_)) ?_
  refine h_one 18 (by decide +kernel) (o_alloc 18 rfl (by repeat (first|exact List.Sublist.refl _|refine List.Sublist.cons _ ?_)) fun b4 _=>?_)
  refine h_storeAgg 19 (by decide +kernel) (by repeat (first|exact List.Sublist.refl _|refine List.Sublist.cons _ ?_)) ?_
  refine h_end (by decide +kernel) ?_
  exact g_mem b4 trivial (by repeat (first|exact trivial|refine ⟨rfl,?_⟩)) (.refl _)
 have hsb:=hb.steps
 have hms:=hr.steps
 have hao : AddOk (m.steps : Int) 1:=⟨by omega,by omega⟩
 repeat (first|refine g_op rfl ?_|refine g_then ?_|refine g_nil ?_|refine g_region ?_|refine g_seq ?_|refine g_store ?_)
 rw [show (m.steps : Int) + 1 = ((m.steps + 1 : Nat) : Int) by omega]
 skip
 obtain ⟨m1,hm1⟩ : ∃ m1 : MacV,m1 = { m with steps:=m.steps + 1 }:=⟨_,rfl⟩
 have hr1 : Rep m1 (tick s) rest t:=by
  rw [hm1]
  exact ⟨hr.rows,hr.below,hr.top,hr.mem,hr.inp,hr.out,by simp only [tick,hms],hr.cnt,hr.zero⟩
 have hok1:=tick_ok hok
 have hb1:=bd_of hu hr1 hok1 (by simp only [tick]; omega) (by simp only [tick]; omega)
 have hocn : ∀ (A : Ent) (j : Nat) v,(frC t)[j]? = some v→OwnCell (A::frsE m::memE m::outE m::cnsE m::(m.rows.map frE++m.cs.map cnE)) fb (fo + rest.length * 5 + j) v:=fun A j v hj=>⟨fun _ _ w' hw'=>by
  have hk : (A::frsE m::memE m::outE m::cnsE m::(m.rows.map frE++m.cs.map cnE))[1]? = some (Ent.vec (some ⟨fb,fo,none⟩) m.rows.length m.fc 145 5 (m.rows.flatMap frC)):=by rw [← hfa]; rfl
  rw [Nat.add_assoc]
  exact hw'.vecCell hk (flat_at frC_len m.rows rest.length t j _ hg2 hj)⟩
 have hocd : ∀ A : Ent,OwnCell (A::frsE m::memE m::outE m::cnsE m::(m.rows.map frE++m.cs.map cnE)) fb (fo + rest.length * 5 + 2) (.int .i64 (s.top.at' : Nat)):=fun A=>hocn A 2 _ (by rw [← htf]; rfl)
 refine g_draw mixed (by kernel_rfl) ?_
 repeat (first|refine q_op rfl ?_|refine q_nil ?_)
 repeat (refine g_then ?_)
 by_cases hend : s.top.at' = ln
 ·rw [show decide ((s.top.at' : Int) = (ln : Int)) = true by simp; omega]
  repeat (first|refine g_op rfl ?_|refine g_region ?_|refine g_seq ?_|refine g_condT ?_)
  refine g_eqH (H1:=[Ent.box b4 [.slice pa pn pc,.slice la ln lc,.int .i64 B.kind,.bool B.on.reg,.int .i64 B.on.n,.slice ta tn tc] 52]++macL p g (Value.slice ua ul uc) av m1) (by rw [hm1]; rfl) ?_
  refine g_permH (List.perm_append_comm (l₁:=[_])) ?_
  refine g_callC (H1:=macL p g (Value.slice ua ul uc) av m1) (val:=fun y : MacV × Bool=>.bool y.2) (E:=fun y=>macL p g (Value.slice ua ul uc) av y.1) (φ:=fun y=>After m1 (endM u (tick s) B) y) hcl rfl (fun wz' w hcl' hle _ hw=>wend_c hcl' u hu p g _ av (hfs0.le mono_func hle) (hav.le mono_tab hle) m1 (tick s) rest t hr1 hok1 (by simp only [tick]; omega) X R hf B hB _ (htv0.le mono_int hle) w hw) fun y hy=>?_
  repeat (first|refine g_op rfl ?_|refine g_then ?_|refine g_nil ?_|refine g_ret ?_|refine g_thenRet ?_)
  refine g_ret1 rfl fun w' hw'=>⟨y,rfl,hw'.sub (List.sublist_append_left _ _),?_⟩
  have hnone : B.list[s.top.at']? = none:=List.getElem?_eq_none (by omega)
  rw [hst,hnone]
  have h9:=hy
  rw [hm1] at h9
  exact h9
 ·rw [show decide ((s.top.at' : Int) = (ln : Int)) = false by simp; omega]
  have hal:=hf.at' B hB
  have hlt9 : s.top.at' < B.list.length:=by omega
  obtain ⟨x,hx⟩ : ∃ x,B.list[s.top.at']? = some x:=⟨_,List.getElem?_eq_getElem hlt9⟩
  have hbl:=hfit.list.1
  have hao2 : AddOk (s.top.at' : Int) 1:=⟨by omega,by omega⟩
  repeat (first|refine g_op rfl ?_|refine g_then ?_|refine g_region ?_|refine g_seq ?_|refine g_skip ?_|refine g_condF ?_)
  rw [show (s.top.at' : Int) + 1 = ((s.top.at' + 1 : Nat) : Int) by omega]
  obtain ⟨t2,ht2⟩ : ∃ t2 : FRow,t2 = ⟨{ t.f with at':=s.top.at' + 1 },t.a,t.c⟩:=⟨_,rfl⟩
  have hput : XSet (m.rows.flatMap frC) (rest.length * 5 + 2) (.int .i64 ((s.top.at' + 1 : Nat) : Int)) ((rest++[t2]).flatMap frC):=⟨by
   rw [flat_set frC_len hg2 (k:=2) (by omega) (y:=t2) (by rw [ht2]; simp [frC]),hr.rows,List.set_append_right _ _ (Nat.le_refl _),Nat.sub_self,List.set_cons_zero],by rw [flat_len frC_len]; omega⟩
  unfold frsE
  rw [hfa]
  have hot : ∀ (A B : Ent) (Y : List Ent),OwnAt (A::B::Ent.vec (some ⟨fb,fo,none⟩) m.rows.length m.fc 145 5 (m.rows.flatMap frC)::Y) fb (fo + rest.length * 5 + 2) 2 fo (rest.length * 5 + 2) m.rows.length m.fc 145 5 (m.rows.flatMap frC):=fun _ _ _=>⟨rfl,by omega⟩
  repeat (first|refine g_then ?_|refine g_nil ?_|refine g_seq ?_|refine g_storeV ?_)
  obtain ⟨m2,hm2⟩ : ∃ m2 : MacV,m2 = { m1 with rows:=rest++[t2] }:=⟨_,rfl⟩
  have hr2 : Rep m2 (goOn (tick s)) rest t2:=by
   rw [hm2,hm1]
   exact ⟨rfl,hr.below,by rw [ht2]; simp only [goOn,tick,← htf],hr.mem,hr.inp,hr.out,by simp only [goOn,tick,hms],hr.cnt,hr.zero⟩
  obtain ⟨hok2,hf2⟩:=goOn_ok (tick_ok hok) (s:=tick s) hf hB hlt9
  have hE : frE t2 = frE t:=by rw [ht2]; rfl
  have hml2 : macL p g (Value.slice ua ul uc) av m2 = Ent.box p [g,Value.slice ua ul uc,av,.slice m.ma m.mem.length m.mc,m.iv,.int .i64 m.state,.int .i64 m.value,.slice m.oa m.out.length m.oc,.int .i64 ((m.steps + 1 : Nat) : Int),.slice (some ⟨fb,fo,none⟩) m.rows.length m.fc,.slice m.ca m.cs.length m.cc] 126::Ent.vec (some ⟨fb,fo,none⟩) m.rows.length m.fc 145 5 ((rest++[t2]).flatMap frC)::memE m::outE m::cnsE m::(m.rows.map frE++m.cs.map cnE):=by
   rw [hm2,hm1]
   simp only [macL,wbox,frsE,memE,outE,cnsE,hfa,hr.rows,List.length_append,List.length_singleton,List.map_append,List.map_cons,List.map_nil,hE]
  have hoce : OwnCell (Ent.box b4 [.slice pa pn pc,.slice la ln lc,.int .i64 B.kind,.bool B.on.reg,.int .i64 B.on.n,.slice ta tn tc] 52::macL p g (Value.slice ua ul uc) av m2) fb (fo + rest.length * 5 + 2) (.int .i64 ((s.top.at' + 1 : Nat) : Int)):=⟨fun _ _ w' hw'=>by
   rw [hml2] at hw'
   rw [Nat.add_assoc]
   have:=hw'.vecCell (k:=2) rfl (flat_at frC_len (rest++[t2]) rest.length t2 2 _ (by simp) rfl)
   rw [ht2] at this
   exact this⟩
  have hxin:=hfit.list.2 x (List.mem_of_getElem? hx)
  obtain ⟨_,hxc,xv,rfl,_,_,_,_,_,hxv⟩:=hlel s.top.at' x hx
  have hadl : AddrIs la lb lo:=⟨hla (ne_of_get hx)⟩
  have hll : LtIs s.top.at' ln:=⟨by omega⟩
  have hcil : CellsIs wz lb (lo + s.top.at' * 8) _:=⟨hxc⟩
  have holl : OldIs S lb:=hcl.old hxc
  refine g_eqH (H1:=Ent.box b4 [.slice pa pn pc,.slice la ln lc,.int .i64 B.kind,.bool B.on.reg,.int .i64 B.on.n,.slice ta tn tc] 52::macL p g (Value.slice ua ul uc) av m2) (by rw [hml2]) ?_
  refine g_drawX [Ent.box b4 [.slice pa pn pc,.slice la ln lc,.int .i64 B.kind,.bool B.on.reg,.int .i64 B.on.n,.slice ta tn tc] 52] (fun y : MacV × Bool=>After m2 (insM u (goOn (tick s)) x) y) (fun y=>[(2,.bool y.2)]) (fun y=>macL p g (Value.slice ua ul uc) av y.1) mixed (.cons_cons _ (List.nil_sublist _)) ?_ fun y hy=>?_
  ·skip
   refine h_take 0 rfl (by decide +kernel) (.cons_cons _ (List.nil_sublist _)) ?_
   refine h_take 1 rfl (by decide +kernel) (.cons_cons _ (List.nil_sublist _)) ?_
   refine h_take 2 rfl (by decide +kernel) (.cons_cons _ (List.nil_sublist _)) ?_
   refine h_take 3 rfl (by decide +kernel) (.cons_cons _ (List.nil_sublist _)) ?_
   refine h_take 4 rfl (by decide +kernel) (.cons_cons _ (List.nil_sublist _)) ?_
   refine h_take 5 rfl (by decide +kernel) (.cons_cons _ (List.nil_sublist _)) ?_
   refine h_one 6 (by decide +kernel) (o_op 6 rfl (.cons_cons _ (List.nil_sublist _)) ?_)
   refine h_take (h:=runs_sub (by omega) (by omega)) 7 rfl (by decide +kernel) (.cons_cons _ (List.nil_sublist _)) ?_
   rw [show ((s.top.at' + 1 : Nat) : Int) - 1 = (s.top.at' : Int) by omega]
   refine h_take 8 rfl (by decide +kernel) (.cons_cons _ (List.nil_sublist _)) ?_
   refine h_take 9 rfl (by decide +kernel) (.cons_cons _ (List.nil_sublist _)) ?_
   refine g_eqH (H1:=[Ent.box b4 [.slice pa pn pc,.slice la ln lc,.int .i64 B.kind,.bool B.on.reg,.int .i64 B.on.n,.slice ta tn tc] 52]++macL p g (Value.slice ua ul uc) av m2) rfl ?_
   refine g_permH (List.perm_append_comm (l₁:=[_])) ?_
   refine h_callC 10 (H1:=macL p g (Value.slice ua ul uc) av m2) (val:=fun y : MacV × Bool=>.bool y.2) (E:=fun y=>macL p g (Value.slice ua ul uc) av y.1) (φ:=fun y=>After m2 (insM u (goOn (tick s)) x) y) hcl rfl (by decide +kernel) (.refl _) (fun wz' w hcl' hle _ hw=>wins_c hcl' u hu p g _ av (hfs0.le mono_func hle) m2 (goOn (tick s)) rest t2 hr2 hok2 (by simp only [goOn,tick]; omega) X R hf2 (by rw [hm2,hm1]; exact hin.le mono_int hle) x hxin _ (hxv.le mono_val hle) w hw) fun y hy=>?_
   refine h_take 11 rfl (by decide +kernel) (List.sublist_append_right _ _) ?_
   refine h_end (by decide +kernel) ?_
   exact g_mem y hy (by repeat (first|exact trivial|refine ⟨rfl,?_⟩)) (List.sublist_append_left _ _)
  ·skip
   repeat (first|refine g_then ?_|refine g_ret ?_)
   refine g_ret1 rfl fun w' hw'=>⟨y,rfl,hw',?_⟩
   rw [hst,hx]
   have h9:=hy
   rw [hm2,hm1] at h9
   exact h9
end Go.Proofs.YtdbljcahlpkgdaaGreatDoor

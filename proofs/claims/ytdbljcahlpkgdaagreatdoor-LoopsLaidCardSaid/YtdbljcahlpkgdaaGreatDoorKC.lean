/- Texts joined: LoopQ LoopR Tame LoopS TameL LoopT LoopU Deep Nest. -/
import Derived.Test.YtdbljcahlpkgdaaGreatDoorGM
import Derived.Test.YtdbljcahlpkgdaaGreatDoorKA
import Derived.Test.YtdbljcahlpkgdaaGreatDoorKB
namespace Go.Proofs.YtdbljcahlpkgdaaGreatDoor
open Go Go.RowKit
def Tail (bl : List LBlock) (h t : Nat) : Prop:=BackE bl t h∧Dom bl h t
def InLoop (bl : List LBlock) (h x : Nat) : Prop:=∃ t,Tail bl h t∧(x = h ∨ (x ≠ h∧Rch bl (-1) 0 x∧Rch bl h x t))
theorem inLoop_iff {bl : List LBlock} {h : Nat} {ts : List Nat} (hts : ∀ t,t ∈ ts ↔ Tail bl h t) (x : Nat) : InT bl h ts x ↔ InLoop bl h x :=
 ⟨fun ⟨t,ht,k⟩=>⟨t,(hts t).1 ht,k⟩,fun ⟨t,ht,k⟩=>⟨t,(hts t).2 ht,k⟩⟩
theorem Rch.first {bl : List LBlock} {x h : Nat} (hr : Rch bl (-1) x h) (hne : x ≠ h) : ∃ u,Rch bl h x u∧Edge bl u h:=by
 have key : ∀ y,Rch bl (-1) x y→Rch bl h x y ∨ ∃ u,Rch bl h x u∧Edge bl u h:=by
  intro y hy
  induction hy with
  | refl=>exact .inl .refl
  | @step a b _ he _ ih =>
   rcases ih with k|k
   ·by_cases e : b = h
    ·subst e; exact .inr ⟨a,k,he⟩
    ·exact .inl (k.step he (by omega))
   ·exact .inr k
 rcases key h hr with k|k
 ·exact absurd rfl (k.ends (by omega))
 ·exact k
theorem InLoop.dom {bl : List LBlock} {h x : Nat} (hl : InLoop bl h x) : Dom bl h x:=by
 obtain ⟨t,⟨hb,hd⟩,rfl|⟨hne,hr,hw⟩⟩:=hl
 ·exact .refl hd.1
 ·refine ⟨hd.1,hr,?_⟩
  by_cases hz : h = 0
  ·exact .inr (.inl hz)
  ·refine .inr (.inr fun hx=>?_)
   rcases hd.2.2 with e|e|e
   ·subst e; exact hw.ends (by omega) rfl
   ·exact hz e
   ·exact e (hx.trans hw)
theorem nodup_lenI {l : List Int} {n : Nat} (hn : l.Nodup) (h : ∀ x ∈ l,∃ c : Nat,x = c∧c < n) : l.length ≤ n:=by
 have h1 : (l.map Int.toNat).Nodup:=by
  refine List.pairwise_map.2 (List.Pairwise.imp_of_mem (fun {x y} hx hy hne e=>?_) hn)
  obtain ⟨c,rfl,_⟩:=h x hx
  obtain ⟨d,rfl,_⟩:=h y hy
  exact hne (by simp at e; omega)
 have h2:=nodup_len n (l.map Int.toNat) h1 fun x hx=>by
  obtain ⟨y,hy,rfl⟩:=List.mem_map.1 hx
  obtain ⟨c,rfl,hc⟩:=h y hy
  simpa using hc
 rwa [List.length_map] at h2
noncomputable def tailsOf (bl : List LBlock) (ps : List (Nat × Nat)) (h : Nat) : List Nat:=(ps.filter fun p=>(open Classical in decide (p.2 = h∧Dom bl h p.1))).map (·.1)
theorem tailsOf_mem {bl : List LBlock} {ps : List (Nat × Nat)} {h t : Nat} : t ∈ tailsOf bl ps h ↔ (t,h) ∈ ps∧Dom bl h t:=by
 classical
 unfold tailsOf
 rw [List.mem_map]
 constructor
 ·rintro ⟨⟨a,b⟩,hm,rfl⟩
  have h1:=List.mem_filter.1 hm
  simp only [decide_eq_true_eq] at h1
  obtain ⟨h1,rfl,h3⟩:=h1
  exact ⟨h1,h3⟩
 ·rintro ⟨h1,h2⟩
  exact ⟨(t,h),List.mem_filter.2 ⟨h1,by simp [h2]⟩,rfl⟩
theorem tailsOf_add (bl : List LBlock) (ps : List (Nat × Nat)) (p : Nat × Nat) (h : Nat) : tailsOf bl (ps++[p]) h = tailsOf bl ps h++if (open Classical in decide (p.2 = h∧Dom bl h p.1)) then [p.1] else []:=by
 classical
 unfold tailsOf
 rw [List.filter_append,List.map_append]
 congr 1
 by_cases hp : p.2 = h∧Dom bl h p.1 <;> simp [hp]
noncomputable def loopAt (bl : List LBlock) (ps : List (Nat × Nat)) (h : Nat) : List Int:=((List.range bl.length).filter fun x=>(open Classical in decide (InT bl h (tailsOf bl ps h) x))).map fun x : Nat=>(x : Int)
theorem InT.rch {bl : List LBlock} {h x : Nat} {ts : List Nat} (hts : ∀ t ∈ ts,Dom bl h t) (hx : InT bl h ts x) : Rch bl (-1) 0 x:=by
 obtain ⟨t,ht,rfl|⟨_,hr,_⟩⟩:=hx
 ·exact (hts t ht).1
 ·exact hr
theorem loopAt_mem {bl : List LBlock} (hok : GoodB bl) (h0 : 0 < bl.length) {ps : List (Nat × Nat)} {h : Nat} {x : Int} : x ∈ loopAt bl ps h ↔ ∃ c : Nat,x = c∧InT bl h (tailsOf bl ps h) c:=by
 classical
 unfold loopAt
 rw [List.mem_map]
 constructor
 ·rintro ⟨c,hc,rfl⟩
  exact ⟨c,rfl,by simpa using (List.mem_filter.1 hc).2⟩
 ·rintro ⟨c,rfl,hc⟩
  exact ⟨c,List.mem_filter.2 ⟨List.mem_range.2 (hok.rch h0 (InT.rch (fun t ht=>(tailsOf_mem.1 ht).2) hc)),by simpa using hc⟩,rfl⟩
theorem loopAt_nodup (bl : List LBlock) (ps : List (Nat × Nat)) (h : Nat) : (loopAt bl ps h).Nodup:=by
 classical
 exact (filter_rise bl.length fun x=>decide (InT bl h (tailsOf bl ps h) x)).imp fun h e=>by omega
theorem loopAt_lt {bl : List LBlock} {ps : List (Nat × Nat)} {h : Nat} {x : Int} (hx : x ∈ loopAt bl ps h) : ∃ c : Nat,x = c∧c < bl.length:=by
 classical
 unfold loopAt at hx
 obtain ⟨c,hc,rfl⟩:=List.mem_map.1 hx
 exact ⟨c,rfl,List.mem_range.1 (List.mem_filter.1 hc).1⟩
theorem loopAt_row {bl : List LBlock} (hok : GoodB bl) (h0 : 0 < bl.length) (ps : List (Nat × Nat)) (h : Nat) : LRow bl h (tailsOf bl ps h) [] (loopAt bl ps h):=by
 have hd : ∀ t ∈ tailsOf bl ps h,Dom bl h t:=fun t ht=>(tailsOf_mem.1 ht).2
 have e : ∀ y,y ∈ loopAt bl ps h++([] : List Int) ↔ ∃ c : Nat,y = c∧InT bl h (tailsOf bl ps h) c:=fun y=>by rw [List.append_nil]; exact loopAt_mem hok h0
 refine ⟨loopAt_nodup bl ps h,fun x hx=>?_,fun b hb hne a ha he=>?_,fun t ht=>(e _).2 ⟨t,rfl,?_⟩,fun hne=>(e _).2 ⟨h,rfl,?_⟩⟩
 ·obtain ⟨c,rfl,hc⟩:=(e x).1 hx
  exact ⟨c,rfl,hc.rch hd,hc⟩
 ·obtain ⟨c,hc,t,ht,hin⟩:=(loopAt_mem hok h0).1 hb
  have : b = c:=by omega
  subst this
  rcases hin with k|⟨_,_,hw⟩
  ·exact absurd k hne
  ·refine (e _).2 ⟨a,rfl,t,ht,?_⟩
   by_cases hah : a = h
   ·exact .inl hah
   ·exact .inr ⟨hah,ha,hw.cons he (by omega)⟩
 ·by_cases k : t = h
  ·exact ⟨t,ht,.inl k⟩
  ·exact ⟨t,ht,.inr ⟨k,(hd t ht).2.1,.refl⟩⟩
 ·obtain ⟨t,ht⟩:=List.exists_mem_of_ne_nil _ hne
  exact ⟨t,ht,.inl rfl⟩
theorem loopAt_next {bl : List LBlock} (hok : GoodB bl) (h0 : 0 < bl.length) {ps : List (Nat × Nat)} {t h : Nat} {inn : List Int} (hd : Dom bl h t) (hL : LRow bl h (tailsOf bl ps h++[t]) [] inn) : sorted inn = loopAt bl (ps++[(t,h)]) h:=by
 classical
 have e : tailsOf bl (ps++[(t,h)]) h = tailsOf bl ps h++[t]:=by rw [tailsOf_add]; simp [hd]
 have hdm : ∀ s ∈ tailsOf bl ps h++[t],Dom bl h s:=fun s hs=>by
  rw [← e] at hs
  exact (tailsOf_mem.1 hs).2
 unfold loopAt
 rw [e]
 refine sorted_filter hL.nodup fun x=>?_
 rw [hL.mem fun s hs=>(hdm s hs).2.1]
 exact ⟨fun ⟨c,e,hc⟩=>⟨c,e,hok.rch h0 (hc.rch hdm),by simpa using hc⟩,fun ⟨c,e,_,hc⟩=>⟨c,e,by simpa using hc⟩⟩
theorem loopAt_other {bl : List LBlock} {ps : List (Nat × Nat)} {t h g : Nat} (hn : ¬ (h = g∧Dom bl g t)) : loopAt bl (ps++[(t,h)]) g = loopAt bl ps g:=by
 classical
 unfold loopAt
 rw [tailsOf_add]
 simp [hn]
noncomputable def loopsL (bl : List LBlock) : List (List Int):=gridL (fun h x=>InLoop bl h x) bl.length
theorem loopAt_all {bl : List LBlock} (hok : GoodB bl) (h0 : 0 < bl.length) {h : Nat} (hh : h < bl.length) : (loopsL bl)[h]? = some (loopAt bl (backL bl) h):=by
 classical
 unfold loopsL gridL loopAt
 rw [List.getElem?_map,List.getElem?_range hh,Option.map_some]
 congr 2
 refine List.filter_congr fun x _=>?_
 rw [decide_eq_decide]
 refine (inLoop_iff (fun t=>?_) x).symm
 rw [tailsOf_mem,backL_mem hok h0]
 rfl
theorem loopsL_len (bl : List LBlock) : (loopsL bl).length = bl.length:=by unfold loopsL gridL; rw [List.length_map,List.length_range]
theorem tree_pos {bl : List LBlock} (hok : GoodB bl) (h0 : 0 < bl.length) {b : Nat} (hb0 : b ≠ 0) : decide (0 ≤ treeN bl b) = (open Classical in decide (Rch bl (-1) 0 b)):=by
 classical
 have:=tree_neg hok h0 hb0
 by_cases h : Rch bl (-1) 0 b
 ·rw [decide_eq_true h] at this ⊢
  simp only [Bool.not_true,decide_eq_false_iff_not] at this
  rw [decide_eq_true (by omega)]
 ·rw [decide_eq_false h] at this ⊢
  simp only [Bool.not_false,decide_eq_true_eq] at this
  rw [decide_eq_false (by omega)]
end Go.Proofs.YtdbljcahlpkgdaaGreatDoor
namespace Go.Proofs.YtdbljcahlpkgdaaGreatDoor
open Go Go.RowKit
attribute [local irreducible] wpListIn Code.wpIn Exit.then Exit.inBlock bodyPost wpQuiet wpAnyIn wpAnyH bodyPostM
set_option maxHeartbeats 4000000
theorem rules_c (v : Value) (bl : List LBlock) (hok : GoodB bl) (hpos : 0 < bl.length) (a b : Nat) (hb : Rch bl (-1) 0 b) (w0 : World) (hv : SlAt w0 v 1 ((List.range bl.length).map (treeN bl)) IntV) : RetV Tryz.prog 67 [v,.int .i64 a,.int .i64 b] w0 (.bool (open Classical in decide (Dom bl a b))):=by
 classical
 obtain ⟨va,vn,vc,vb,vo,rfl,hn,hnc,hnb,hc,hva,hel⟩:=hv
 rw [List.length_map,List.length_range] at hn
 refine ret_enter Tryz.func67 rfl Tryz.ntmps67 rfl (Wd.nil NoS w0) ?_
 repeat (first|refine g_op rfl ?_|refine g_then ?_|refine g_nil ?_|refine g_region ?_|refine g_seq ?_|refine g_block ?_)
 refine g_loop (fun (z : Int)=>((z < 0∧z = -1) ∨ ∃ c : Nat,z = c∧Dom bl c b)∧(Dom bl a b ↔ DomI bl a z)) (fun z=>[(2,.int .i64 z),(0,.slice va vn vc),(1,.int .i64 a)]) (fun _=>[]) (fun z=>wayM bl z) (b : Int) ⟨.inr ⟨b,rfl,.refl hb⟩,⟨fun h=>⟨b,rfl,h⟩,fun ⟨c,e,h⟩=>(show b = c by omega) ▸ h⟩⟩ (g_done (by repeat (first|exact trivial|refine ⟨rfl,?_⟩)) (by simp)) fun z ⟨hz,hd⟩=>?_
 repeat (first|refine g_op rfl ?_|refine g_region ?_|refine g_seq ?_)
 rcases hz with ⟨hz0,rfl⟩|⟨c,rfl,hcd⟩
 ·rw [show decide ((0 : Int) ≤ -1) = false from rfl]
  repeat (first|refine g_op rfl ?_|refine g_then ?_|refine g_nil ?_|refine g_region ?_|refine g_seq ?_|refine g_pass rfl ?_|refine g_condF ?_|refine g_exit ?_|refine g_thenExit ?_|refine g_exitHere ?_|refine g_ret ?_)
  refine g_retV rfl ?_
  rw [decide_eq_false fun h=>?_,decide_eq_false fun h=>?_]
  ·obtain ⟨d,hd1,_⟩:=hd.1 h
   omega
  ·omega
 ·rw [show decide ((0 : Int) ≤ (c : Int)) = true by simp]
  have hcn : c < vn:=by have:=hok.rch hpos hcd.1; omega
  repeat (first|refine g_op rfl ?_|refine g_then ?_|refine g_nil ?_|refine g_open ?_)
  refine g_cond (fun h1=>?_) (fun h1=>?_)
  ·have hne : c ≠ a:=by have:=h1; simp at this; omega
   have hlc : LtIs c vn:=⟨hcn⟩
   obtain ⟨_,hcs,rfl,_⟩:=hel c (treeN bl c) (by rw [List.getElem?_map,List.getElem?_range (by omega)]; rfl)
   have had : AddrIs va vb vo:=⟨hva (fun e=>by have:=congrArg List.length e; rw [List.length_map,List.length_range,List.length_nil] at this; omega)⟩
   have hci : CellsIs w0 vb (vo + c * 1) _:=⟨hcs⟩
   repeat (first|refine g_op rfl ?_|refine g_then ?_|refine g_nil ?_|refine g_region ?_|refine g_opS rfl ?_|refine g_inBlock ?_|refine g_block ?_|refine g_skip ?_)
   refine g_next (treeN bl c) ⟨treeN_dom hok hpos hcd,hd.trans ?_⟩ (wayM_lt hok hpos hcd.1) (by repeat (first|exact trivial|refine ⟨rfl,?_⟩)) (by simp)
   have h3:=domI_tree hok hpos (a:=c) (i:=a) hcd.1
   exact ⟨fun ⟨d,e,h⟩=>(h3.1 ((show c = d by omega) ▸ h)).resolve_right (Ne.symm hne),fun h=>⟨c,rfl,h3.2 (.inl h)⟩⟩
  ·have he : c = a:=by have:=h1; simp at this; omega
   subst he
   repeat (first|refine g_op rfl ?_|refine g_then ?_|refine g_nil ?_|refine g_region ?_|refine g_seq ?_|refine g_exit ?_|refine g_thenExit ?_|refine g_exitHere ?_|refine g_ret ?_)
   refine g_retV rfl ?_
   rw [decide_eq_true rfl,decide_eq_true (hd.2 ⟨c,rfl,.refl hcd.1⟩)]
theorem treeOfK (nm pa re : Value) (bl : List LBlock) (bs : Value) (hbsl : ∃ a n c,bs = .slice a n c) (w0 : World) (hbs : SlAt w0 bs 6 bl BlockV) (hlen : bl.length ≤ 100) (hok : GoodB bl) (hto : ∀ (b : Nat) (B : LBlock),bl[b]? = some B→B.to.Nodup) (hpos : 0 < bl.length) :
  RetK Tryz.prog 64 [.agg #[nm,pa,re,bs]] w0 1 ((List.range bl.length).map (treeN bl)) IntV fun v=>v :=
 retK_of (treeOf_c nm pa re bl bs hbsl w0 hbs hlen hok hto hpos) fun x _=>⟨some ⟨x,0,none⟩,bl.length,by rw [List.length_map,List.length_range],fun w2 hw=>by rw [List.length_map,List.length_range]; exact treeL_sl hw (k:=0) rfl rfl hok hpos hlen⟩
end Go.Proofs.YtdbljcahlpkgdaaGreatDoor
namespace Go.Proofs.YtdbljcahlpkgdaaGreatDoor
open Go Go.RowKit
attribute [local irreducible] wpListIn Code.wpIn Exit.then Exit.inBlock bodyPost wpQuiet wpAnyIn wpAnyH bodyPostM
set_option maxHeartbeats 8000000
theorem g_sel' {N : Nat} {ds : List Deferred} {S : Nat→Prop} {w0 : World} {L : List (Nat × Value)} {H H1 : List Ent} {p : Act→World→Prop} (h : H1.Sublist H) (k : G N ds S w0 L H1 p) : G N ds S w0 L H p:=fun a w hS=>k a w ⟨hS.fr,hS.wd.sub h⟩
theorem loopsAllOf_c (nm pa re : Value) (bl : List LBlock) (bs : Value) (hbsl : ∃ a n c,bs = .slice a n c) (w0 : World) (hbs : SlAt w0 bs 6 bl BlockV) (hlen : bl.length ≤ 100) (hok : GoodB bl) (hto : ∀ (b : Nat) (B : LBlock),bl[b]? = some B→B.to.Nodup) (hpos : 0 < bl.length) :
  Ret Tryz.prog 42 [.agg #[nm,pa,re,bs]] w0 fun u w'=>∃ x : Nat × List Row,u = .slice (some ⟨x.1,0,none⟩) bl.length bl.length∧Wd NoS w0 (Ent.vec (some ⟨x.1,0,none⟩) bl.length bl.length 38 1 (x.2.map valR)::x.2.map entR) w'∧x.2.map (·.l) = loopsL bl:=by
 classical
 obtain ⟨ba,n,bc,rfl⟩:=hbsl
 have hn : n = bl.length:=hbs.at.1
 have hbkl:=backL_len hlen
 refine ret_enter Tryz.func42 rfl Tryz.ntmps42 rfl (Wd.nil NoS w0) ?_
 repeat (first|refine g_op rfl ?_|refine g_then ?_|refine g_nil ?_|refine g_region ?_|refine g_seq ?_|refine g_box rfl fun _ _=>?_)
 rename_i p1 _
 refine g_drawH [Ent.box p1 [nm,pa,re,.slice ba n bc] 35] mixed (.refl _) ?_
 refine h_take 0 rfl (by decide +kernel) (.refl _) ?_
 refine h_take 2 rfl (by decide +kernel) (.refl _) ?_
 refine h_callE 1 (val:=fun x : Option Addr × Nat × (Nat→Prop)=>.slice x.1 ((List.range bl.length).map (treeN bl)).length x.2.1) (E:=fun x=>[⟨x.2.2,fun w=>SlAt w (.slice x.1 ((List.range bl.length).map (treeN bl)).length x.2.1) 1 ((List.range bl.length).map (treeN bl)) IntV⟩]) (φ:=fun _=>True) rfl (by decide +kernel) (.refl _) (fun w hw=>treeOfK _ _ _ bl _ ⟨_,_,_,rfl⟩ w (hbs.keep keeps_block hw.chg) hlen hok hto hpos) fun x _=>?_
 obtain ⟨ua,uc,up⟩:=x
 simp only [List.cons_append,List.nil_append]
 refine h_callE 3 (val:=fun x : (Option Addr × Nat × Nat) × (Nat→Prop)=>.slice x.1.1 x.1.2.1 x.1.2.2) (E:=fun x=>[⟨x.2,fun w=>SlAt w (.slice x.1.1 x.1.2.1 x.1.2.2) 1 (aheadL bl) RowV⟩]) (φ:=fun _=>True) rfl (by decide +kernel) (.cons _ (.refl _)) (fun w hw=>graphAhead_c _ _ _ bl _ w (hbs.keep keeps_block hw.chg) hlen hok) fun x _=>?_
 obtain ⟨⟨aa,an,ac⟩,fp⟩:=x
 simp only [List.cons_append,List.nil_append]
 refine h_take 4 rfl (by decide +kernel) (.cons _ (.cons _ (.refl _))) ?_
 refine h_take 5 rfl (by decide +kernel) (.cons _ (.cons _ (.refl _))) ?_
 refine h_end (by decide +kernel) ?_
 repeat (first|refine g_op rfl ?_|refine g_then ?_|refine g_nil ?_|refine g_region ?_|refine g_seq ?_|refine g_make rfl (by omega) (by omega) fun _ _=>?_)
 rename_i bo _
 refine g_callK (s:=2) (l:=backL bl) (V:=PairV) (mk:=fun v=>v) rfl (fun w hw=>backOfK _ _ _ bl _ ⟨_,_,_,rfl⟩ w (hbs.keep keeps_block hw.chg) hlen hok hto hpos) fun ka kc kp=>?_
 repeat (first|refine g_op rfl ?_|refine g_then ?_|refine g_nil ?_|refine g_block ?_)
 refine g_sel [1,0,2,3] (by decide) ?_
 refine g_nilVecs 3 1 n ?_
 rw [show (List.replicate n (Value.slice none 0 0)) = (List.replicate n (⟨none,0,[]⟩ : Row)).map valR by simp [valR],show (List.replicate n (Ent.vec none 0 0 3 1 [])) = (List.replicate n (⟨none,0,[]⟩ : Row)).map entR by simp [entR]]
 refine g_permH (H1:=(Ent.vec (some ⟨bo,0,none⟩) n n 38 1 ((List.replicate n (⟨none,0,[]⟩ : Row)).map valR)::(List.replicate n (⟨none,0,[]⟩ : Row)).map entR)++[(⟨kp,fun w=>SlAt w (.slice ka (backL bl).length kc) 2 (backL bl) PairV⟩ : Ent),(⟨fp,fun w=>SlAt w (.slice aa an ac) 1 (aheadL bl) RowV⟩ : Ent),(⟨up,fun w=>SlAt w (.slice ua ((List.range bl.length).map (treeN bl)).length uc) 1 ((List.range bl.length).map (treeN bl)) IntV⟩ : Ent)]) (List.Perm.cons _ (List.perm_append_comm (l₁:=[(⟨kp,fun w=>SlAt w (.slice ka (backL bl).length kc) 2 (backL bl) PairV⟩ : Ent),(⟨fp,fun w=>SlAt w (.slice aa an ac) 1 (aheadL bl) RowV⟩ : Ent),(⟨up,fun w=>SlAt w (.slice ua ((List.range bl.length).map (treeN bl)).length uc) 1 ((List.range bl.length).map (treeN bl)) IntV⟩ : Ent)]))) ?_
 refine g_holdK fun w1 hw1=>?_
 have hbkk : SlAt (killW (fps (Ent.vec (some ⟨bo,0,none⟩) n n 38 1 ((List.replicate n (⟨none,0,[]⟩ : Row)).map valR)::(List.replicate n (⟨none,0,[]⟩ : Row)).map entR)) w1) (.slice ka (backL bl).length kc) 2 (backL bl) PairV:=hw1.beside (e:=(⟨kp,fun w=>SlAt w (.slice ka (backL bl).length kc) 2 (backL bl) PairV⟩ : Ent)) (by simp)
 have hahk : SlAt (killW (fps (Ent.vec (some ⟨bo,0,none⟩) n n 38 1 ((List.replicate n (⟨none,0,[]⟩ : Row)).map valR)::(List.replicate n (⟨none,0,[]⟩ : Row)).map entR)) w1) (.slice aa an ac) 1 (aheadL bl) RowV:=hw1.beside (e:=(⟨fp,fun w=>SlAt w (.slice aa an ac) 1 (aheadL bl) RowV⟩ : Ent)) (by simp)
 have hupk : SlAt (killW (fps (Ent.vec (some ⟨bo,0,none⟩) n n 38 1 ((List.replicate n (⟨none,0,[]⟩ : Row)).map valR)::(List.replicate n (⟨none,0,[]⟩ : Row)).map entR)) w1) (.slice ua ((List.range bl.length).map (treeN bl)).length uc) 1 ((List.range bl.length).map (treeN bl)) IntV:=hw1.beside (e:=(⟨up,fun w=>SlAt w (.slice ua ((List.range bl.length).map (treeN bl)).length uc) 1 ((List.range bl.length).map (treeN bl)) IntV⟩ : Ent)) (by simp)
 have back : ∀ {E : List Ent} {w : World},Wd (fps (Ent.vec (some ⟨bo,0,none⟩) n n 38 1 ((List.replicate n (⟨none,0,[]⟩ : Row)).map valR)::(List.replicate n (⟨none,0,[]⟩ : Row)).map entR)) (killW (fps (Ent.vec (some ⟨bo,0,none⟩) n n 38 1 ((List.replicate n (⟨none,0,[]⟩ : Row)).map valR)::(List.replicate n (⟨none,0,[]⟩ : Row)).map entR)) w1) E w→Wd NoS w0 (E++[(⟨kp,fun w=>SlAt w (.slice ka (backL bl).length kc) 2 (backL bl) PairV⟩ : Ent),(⟨fp,fun w=>SlAt w (.slice aa an ac) 1 (aheadL bl) RowV⟩ : Ent),(⟨up,fun w=>SlAt w (.slice ua ((List.range bl.length).map (treeN bl)).length uc) 1 ((List.range bl.length).map (treeN bl)) IntV⟩ : Ent)]) w:=fun hw=>hw1.comp hw.unkill
 have hkk : ∀ {E : List Ent} {w : World},Wd (fps (Ent.vec (some ⟨bo,0,none⟩) n n 38 1 ((List.replicate n (⟨none,0,[]⟩ : Row)).map valR)::(List.replicate n (⟨none,0,[]⟩ : Row)).map entR)) (killW (fps (Ent.vec (some ⟨bo,0,none⟩) n n 38 1 ((List.replicate n (⟨none,0,[]⟩ : Row)).map valR)::(List.replicate n (⟨none,0,[]⟩ : Row)).map entR)) w1) E w→∀ p v,(killW (fps (Ent.vec (some ⟨bo,0,none⟩) n n 38 1 ((List.replicate n (⟨none,0,[]⟩ : Row)).map valR)::(List.replicate n (⟨none,0,[]⟩ : Row)).map entR)) w1).cell? p = some v→w.cell? p = some v:=fun hw=>hw.killKeep
 have hold : ∀ {b o : Nat} {v : Value} {l : List Value},CellsAt (killW (fps (Ent.vec (some ⟨bo,0,none⟩) n n 38 1 ((List.replicate n (⟨none,0,[]⟩ : Row)).map valR)::(List.replicate n (⟨none,0,[]⟩ : Row)).map entR)) w1) b o (v::l)→OldIs (fps (Ent.vec (some ⟨bo,0,none⟩) n n 38 1 ((List.replicate n (⟨none,0,[]⟩ : Row)).map valR)::(List.replicate n (⟨none,0,[]⟩ : Row)).map entR)) b:=fun hc=>killOldIs hc (by simp)
 generalize killW (fps (Ent.vec (some ⟨bo,0,none⟩) n n 38 1 ((List.replicate n (⟨none,0,[]⟩ : Row)).map valR)::(List.replicate n (⟨none,0,[]⟩ : Row)).map entR)) w1 = wk at *
 generalize fps (Ent.vec (some ⟨bo,0,none⟩) n n 38 1 ((List.replicate n (⟨none,0,[]⟩ : Row)).map valR)::(List.replicate n (⟨none,0,[]⟩ : Row)).map entR) = SS at *
 obtain ⟨hanl,hanc,_,ab,ao,haa,hahel⟩:=hahk.at
 have hal : (aheadL bl).length = n:=by unfold aheadL; rw [aheadTo_length,hn]
 rw [hal] at hanl
 have hanl':=hanl.symm
 subst hanl'
 obtain ⟨_,_,_,kb,ko,hka,hkel⟩:=hbkk.at
 obtain ⟨_,_,_,ub,uo,hua,huel⟩:=hupk.at
 have htl : ((List.range bl.length).map (treeN bl)).length = n:=by rw [List.length_map,List.length_range,hn]
 rw [htl] at hupk ⊢
 have tree : ∀ b,b < n→CellsIs wk ub (uo + b * 1) [.int .i64 (treeN bl b)]∧OldIs SS ub∧AddrIs ua ub uo:=by
  intro b hb
  have hg : ((List.range bl.length).map (treeN bl))[b]? = some (treeN bl b):=by rw [List.getElem?_map,List.getElem?_range (by omega)]; rfl
  obtain ⟨_,hc,rfl,_⟩:=huel b (treeN bl b) hg
  exact ⟨⟨hc⟩,hold hc,⟨hua (ne_of_get hg)⟩⟩
 refine g_loop (fun (x : Nat × List Row)=>x.1 ≤ (backL bl).length∧x.2.length = n∧∀ i r,x.2[i]? = some r→r.l = loopAt bl ((backL bl).take x.1) i) (fun x=>[(26,.int .i64 x.1),(25,.int .i64 (backL bl).length),(24,.slice ka (backL bl).length kc),(3,.slice ua n uc),(4,.slice aa n ac),(5,.slice (some ⟨bo,0,none⟩) n n)])
  (fun x=>Ent.vec (some ⟨bo,0,none⟩) n n 38 1 (x.2.map valR)::x.2.map entR) (fun x=>(backL bl).length - x.1) (0,List.replicate n ⟨none,0,[]⟩)
  ⟨Nat.zero_le _,by simp,fun i r hr=>?_⟩ (g_done (by repeat (first|exact trivial|refine ⟨rfl,?_⟩)) (.refl _)) fun x ⟨hm,hrl,hrows⟩=>?_
 ·simp only [List.getElem?_replicate] at hr
  split at hr
  ·simp only [Option.some.injEq] at hr
   subst hr
   simp [loopAt,tailsOf,InT]
  ·cases hr
 obtain ⟨m,rs⟩:=x
 simp only at hm hrl hrows ⊢
 repeat (first|refine g_op rfl ?_|refine g_then ?_|refine g_nil ?_|refine g_region ?_|refine g_seq ?_)
 refine g_cond (fun h1=>?_) (fun h1=>?_)
 ·have hlt : m < (backL bl).length:=by simpa using h1
  obtain ⟨⟨t,h⟩,hp⟩ : ∃ p,(backL bl)[m]? = some p:=⟨_,List.getElem?_eq_getElem hlt⟩
  have hpb : BackE bl t h:=(backL_mem hok hpos).1 (List.mem_of_getElem? hp)
  have htk : (backL bl).take (m + 1) = (backL bl).take m++[(t,h)]:=by rw [List.take_add_one,hp]; rfl
  have hhn : h < n:=by have:=hok.edge hpb.2.1; omega
  have htn : t < n:=by have:=hok.rch hpos hpb.1; omega
  obtain ⟨_,hcp,rfl⟩:=hkel m _ hp
  have hadk : AddrIs ka kb ko:=⟨hka (ne_of_get hp)⟩
  have hlm : LtIs m (backL bl).length:=⟨hlt⟩
  have hcik : CellsIs wk kb (ko + m * 2) [.int .i64 (t : Int),.int .i64 (h : Int)]:=⟨hcp⟩
  have hok1 : OldIs SS kb:=hold hcp
  have hl0 : LtIs 0 2:=⟨by omega⟩
  have hl1 : LtIs 1 2:=⟨by omega⟩
  repeat (first|refine g_op rfl ?_|refine g_then ?_|refine g_nil ?_|refine g_region ?_|refine g_seq ?_|refine g_alloc rfl fun _ _=>?_|refine g_storeAgg ?_|refine g_block ?_|refine g_skip ?_)
  rename_i p7 _
  refine g_draw mixed (by kernel_rfl) ?_
  repeat (refine q_op rfl ?_)
  rw [show 0 + 0 * 1 = 0 from rfl]
  repeat (first|refine q_op rfl ?_|refine q_nil ?_)
  repeat (first|refine g_op rfl ?_|refine g_then ?_|refine g_region ?_|refine g_seq ?_)
  refine g_callV rfl (fun w hw=>rules_c _ bl hok hpos h t hpb.1 w (SlAt.mono (V:=IntV) (w:=wk) (w':=w) (fun _ _ h=>h) (hkk hw) hupk)) ?_
  generalize hd1 : decide (Dom bl h t) = d1
  cases d1
  ·have hno : ¬ Dom bl h t:=by simpa using hd1
   repeat (first|refine g_op rfl ?_|refine g_then ?_|refine g_nil ?_|refine g_region ?_|refine g_opS rfl ?_|refine g_condT ?_|refine g_add rfl (by omega) (by omega) ?_|refine g_exit ?_|refine g_thenExit ?_|refine g_exitHere ?_)
   refine g_next (m + 1,rs) ⟨hlt,hrl,fun i r hr=>?_⟩ (by simp only; omega) (by repeat (first|exact trivial|refine ⟨rfl,?_⟩)) (.cons _ (.refl _))
   rw [hrows i r hr]
   simp only
   rw [htk,loopAt_other fun ⟨e,k⟩=>hno (by rw [e]; exact k)]
  have hd : Dom bl h t:=by simpa using hd1
  obtain ⟨r0,hr0⟩ : ∃ r,rs[h]? = some r:=⟨_,List.getElem?_eq_getElem (by omega)⟩
  have hxa : XAt (rs.map valR) (h * 1) (.slice r0.a r0.l.length r0.c):=⟨by simp [hr0,valR]⟩
  have hlh : LtIs h n:=⟨hhn⟩
  have hhl : h < rs.length:=by omega
  have hr0l:=hrows h r0 hr0
  repeat (first|refine g_op rfl ?_|refine g_then ?_|refine g_nil ?_|refine g_region ?_|refine g_seq ?_|refine g_block ?_|refine g_skip ?_|refine g_condF ?_|refine g_buildN rfl rfl fun _ _=>?_)
  rename_i rb _
  refine g_eqH (H1:=Ent.vec (some ⟨rb,0,none⟩) 2 2 3 1 (([(h : Int),(t : Int)]).map (.int .i64))::Ent.box p7 [.int .i64 t,.int .i64 h] 97::Ent.vec (some ⟨bo,0,none⟩) n n 38 1 (rs.map valR)::(rs.set h ⟨r0.a,r0.c,r0.l⟩).map entR) (by rw [show (⟨r0.a,r0.c,r0.l⟩ : Row) = r0 from rfl,set_self hr0]; rfl) ?_
  refine g_loop (fun (x : List Int × (Option Addr × Nat) × List Int × (Option Addr × Nat))=>LRow bl h (tailsOf bl ((backL bl).take m) h++[t]) x.1 x.2.2.1∧x.1.length ≤ 2 + n * x.2.2.1.length) (fun x=>[(11,.slice x.2.1.1 x.1.length x.2.1.2),(10,.slice x.2.2.2.1 x.2.2.1.length x.2.2.2.2),(9,.int .i64 h),(8,.int .i64 t),(26,.int .i64 m),(25,.int .i64 (backL bl).length),(24,.slice ka (backL bl).length kc),(3,.slice ua n uc),(4,.slice aa n ac),(5,.slice (some ⟨bo,0,none⟩) n n)])
   (fun x=>Ent.vec x.2.1.1 x.1.length x.2.1.2 3 1 (x.1.map (.int .i64))::Ent.vec (some ⟨bo,0,none⟩) n n 38 1 (rs.map valR)::(rs.set h ⟨x.2.2.2.1,x.2.2.2.2,x.2.2.1⟩).map entR) (fun x=>(n - x.2.2.1.length) * (n + 1) + x.1.length) ([(h : Int),(t : Int)],(some ⟨rb,0,none⟩,2),r0.l,(r0.a,r0.c))
   ⟨by simp only; rw [hr0l]; exact (loopAt_row hok hpos _ h).more hd.1 hd.2.1,by simp⟩ (g_done (by repeat (first|exact trivial|refine ⟨rfl,?_⟩)) (.cons_cons _ (.cons _ (.refl _)))) fun x ⟨hL,hrow⟩=>?_
  obtain ⟨row,⟨ra,rc⟩,inn,⟨ia,ic⟩⟩:=x
  simp only at hL hrow ⊢
  have hinn : ∀ x ∈ inn,∃ c : Nat,x = c∧c < n:=fun x hx=>by
   obtain ⟨c,e,hc,_⟩:=hL.sound x (List.mem_append_left _ hx)
   exact ⟨c,e,by have:=hok.rch hpos hc; omega⟩
  have hil:=nodup_lenI hL.nodup hinn
  have hin1 : inn.length ≤ 1000∧∀ x ∈ inn,inI x:=⟨by omega,fun x hx=>by
   obtain ⟨c,rfl,hc⟩:=hinn x hx
   simp only [inI]; omega⟩
  have hnl : n * inn.length ≤ 100 * 100:=Nat.mul_le_mul (by omega) (by omega)
  have hset : (rs.set h ⟨ia,ic,inn⟩)[h]? = some ⟨ia,ic,inn⟩:=List.getElem?_set_self hhl
  repeat (first|refine g_op rfl ?_|refine g_then ?_|refine g_nil ?_|refine g_region ?_|refine g_seq ?_)
  refine g_cond (fun h2=>?_) (fun h2=>?_)
  ·obtain ⟨z,rest,rfl⟩ : ∃ z rest,row = z::rest:=by
    cases row with
    | nil=>simp at h2
    | cons z rest=>exact ⟨z,rest,rfl⟩
   obtain ⟨c,rfl,hcr,hcin⟩:=hL.sound z (by simp)
   have hcn : c < n:=by have:=hok.rch hpos hcr; omega
   have hlc : LtIs c n:=⟨hcn⟩
   have hrl1 : (((c : Int)::rest).length) = rest.length + 1:=rfl
   rw [hrl1] at hrow ⊢
   refine g_vec 0 rfl (by omega) fun qb qo hqa=>?_
   subst hqa
   have hl00 : LtIs 0 (rest.length + 1):=⟨by omega⟩
   repeat (first|refine g_op rfl ?_|refine g_then ?_|refine g_nil ?_|refine g_region ?_|refine g_seq ?_|refine g_block ?_|refine g_skip ?_)
   refine g_callV rfl (fun w hw=>contains_c _ inn c w (row_sl (E:=[_,_]) (H:=[]) (by rw [List.append_nil]; exact hw) hset hin1) ⟨_,_,_,rfl⟩) ?_
   generalize hd2 : decide ((c : Int) ∈ inn) = d2
   cases d2
   ·have hno : (c : Int) ∉ inn:=by simpa using hd2
    have hil2 : inn.length + 1 ≤ n:=by
     have h1 : (inn++[(c : Int)]).Nodup:=List.nodup_append.2 ⟨hL.nodup,by simp,fun x hx y hy e=>hno (by rw [List.mem_singleton.1 hy] at e; rw [← e]; exact hx)⟩
     have:=nodup_lenI (n:=n) h1 fun x hx=>(List.mem_append.1 hx).elim (hinn x) fun e=>⟨c,List.mem_singleton.1 e,hcn⟩
     rwa [List.length_append,List.length_singleton] at this
    have hmul : (n - (inn.length + 1)) * (n + 1) + (n + 1) = (n - inn.length) * (n + 1):=by
     rw [← Nat.succ_mul,show (n - (inn.length + 1)).succ = n - inn.length by omega]
    have hmul2 : n * (inn.length + 1) = n * inn.length + n:=Nat.mul_succ _ _
    repeat (first|refine g_op rfl ?_|refine g_then ?_|refine g_nil ?_|refine g_region ?_|refine g_seq ?_|refine g_skip ?_|refine g_condF ?_|refine g_build1 rfl rfl fun _ _=>?_)
    rename_i bt _
    refine g_appendAt (h + 3) (xs:=inn.map (.int .i64)) (e:=3) (by simp [hhl,entR]) rfl rfl (by omega) (by omega) fun a' c'=>?_
    refine g_eqH (H1:=Ent.vec (some ⟨bt,0,none⟩) 1 1 3 1 [.int .i64 c]::Ent.vec (some ⟨qb,qo,none⟩) (rest.length + 1) rc 3 1 (((c : Int)::rest).map (.int .i64))::Ent.vec (some ⟨bo,0,none⟩) n n 38 1 (rs.map valR)::(rs.set h (⟨a',c',inn++[(c : Int)]⟩ : Row)).map entR) (by simp [entR,List.map_set]) ?_
    refine g_sel' (H1:=Ent.vec (some ⟨qb,qo,none⟩) (rest.length + 1) rc 3 1 (((c : Int)::rest).map (.int .i64))::Ent.vec (some ⟨bo,0,none⟩) n n 38 1 (rs.map valR)::(rs.set h (⟨a',c',inn++[(c : Int)]⟩ : Row)).map entR) (List.sublist_cons_self _ _) ?_
    have hnil : (inn++[(c : Int)]).length = inn.length + 1:=by simp
    repeat (first|refine g_op rfl ?_|refine g_then ?_|refine g_nil ?_|refine g_region ?_|refine g_seq ?_|refine g_opS rfl ?_)
    by_cases hch : c = h
    ·rw [show decide ((c : Int) = (h : Int)) = true by simp [hch]]
     repeat (first|refine g_op rfl ?_|refine g_then ?_|refine g_region ?_|refine g_condT ?_|refine g_exit ?_|refine g_thenExit ?_|refine g_exitHere ?_)
     refine g_tail rfl (by omega) fun a2=>?_
     repeat (first|refine g_then ?_|refine g_nil ?_|refine g_opS rfl ?_)
     have hadd:=hL.add (ps:=[]) hno (fun k=>absurd hch k) fun _=>rfl
     rw [List.append_nil] at hadd
     refine g_fix (L':=[(11,.slice a2 rest.length (rc - 1)),(10,.slice a' (inn++[(c : Int)]).length c'),(9,.int .i64 h),(8,.int .i64 t),(26,.int .i64 m),(25,.int .i64 (backL bl).length),(24,.slice ka (backL bl).length kc),(3,.slice ua n uc),(4,.slice aa n ac),(5,.slice (some ⟨bo,0,none⟩) n n)]) (by rw [hnil]; exact (by repeat (first|exact trivial|refine ⟨rfl,?_⟩))) (.refl _) ?_
     exact g_next (rest,(a2,rc - 1),inn++[(c : Int)],(a',c')) ⟨hadd,by simp only [hnil]; omega⟩ (by simp only [hnil,List.length_cons]; omega) (by repeat (first|exact trivial|refine ⟨rfl,?_⟩)) (.refl _)
    rw [show decide ((c : Int) = (h : Int)) = false by simp; omega]
    have harow:=aheadL_get hok hto (t:=c) (by omega)
    obtain ⟨_,hc2,v,rfl,hprow⟩:=hahel c _ harow
    have hada : AddrIs aa ab ao:=⟨haa (ne_of_get harow)⟩
    have hca : CellsIs wk ab (ao + c * 1) [v]:=⟨hc2⟩
    have ol2 : OldIs SS ab:=hold hc2
    have hprow0:=hprow
    obtain ⟨pa,pn,pc,_,_,rfl,_⟩:=hprow0
    obtain ⟨hpn,hpnc,hpm,pb,po,hpa,hpel⟩:=hprow.at
    rw [List.length_map] at hpn
    have hps : ∀ p,p ∈ preds bl c ↔ (p < bl.length∧Edge bl p c):=fun p=>by simp [preds,Edge]
    have hpl : (preds bl c).length ≤ n:=by have:=List.length_filter_le (fun i=>decide ((c : Int) ∈ toOf bl i)) (List.range bl.length); rw [List.length_range] at this; unfold preds; omega
    generalize preds bl c = ps at *
    repeat (first|refine g_op rfl ?_|refine g_then ?_|refine g_nil ?_|refine g_region ?_|refine g_seq ?_|refine g_block ?_|refine g_skip ?_|refine g_condF ?_)
    refine g_loop (fun (x : Nat × List Int × Option Addr × Nat)=>x.1 ≤ pn∧x.2.1 = rest++(fun j=>((ps.take j).filter fun p=>decide (Rch bl (-1) 0 p)).map fun x : Nat=>(x : Int)) x.1) (fun x=>[(69,.int .i64 x.1),(11,.slice x.2.2.1 (x.2.1.length + 1) x.2.2.2),(67,.slice pa pn pc),(68,.int .i64 pn),(12,.int .i64 c),(10,.slice a' (inn.length + 1) c'),(9,.int .i64 h),(8,.int .i64 t),(26,.int .i64 m),(25,.int .i64 (backL bl).length),(24,.slice ka (backL bl).length kc),(3,.slice ua n uc),(4,.slice aa n ac),(5,.slice (some ⟨bo,0,none⟩) n n)])
     (fun x=>Ent.vec x.2.2.1 (x.2.1.length + 1) x.2.2.2 3 1 (((c : Int)::x.2.1).map (.int .i64))::Ent.vec (some ⟨bo,0,none⟩) n n 38 1 (rs.map valR)::(rs.set h (⟨a',c',inn++[(c : Int)]⟩ : Row)).map entR) (fun x=>pn - x.1) (0,rest,some ⟨qb,qo,none⟩,rc) ⟨Nat.zero_le _,by simp⟩ (g_done (by repeat (first|exact trivial|refine ⟨rfl,?_⟩)) (.refl _)) fun x ⟨hj,hR⟩=>?_
    obtain ⟨j,R,ra1,rc1⟩:=x
    simp only at hj hR ⊢
    have hRl : R.length ≤ rest.length + j:=by
     rw [hR,List.length_append,List.length_map]
     have:=List.length_filter_le (fun p=>decide (Rch bl (-1) 0 p)) (ps.take j)
     rw [List.length_take] at this
     omega
    repeat (first|refine g_op rfl ?_|refine g_then ?_|refine g_nil ?_|refine g_region ?_|refine g_seq ?_)
    refine g_cond (fun h3=>?_) (fun h3=>?_)
    ·have hjl : j < pn:=by simpa using h3
     obtain ⟨p,hp⟩ : ∃ p,ps[j]? = some p:=⟨_,List.getElem?_eq_getElem (by omega)⟩
     have hpm2:=(hps p).1 (List.mem_of_getElem? hp)
     have htk2 : ps.take (j + 1) = ps.take j++[p]:=by rw [List.take_add_one,hp]; rfl
     have hpg : (ps.map fun x : Nat=>(x : Int))[j]? = some (p : Int):=by rw [List.getElem?_map,hp]; rfl
     obtain ⟨_,hc3,rfl,_⟩:=hpel j (p : Int) hpg
     have hadp : AddrIs pa pb po:=⟨hpa (ne_of_get hpg)⟩
     have hlj : LtIs j pn:=⟨hjl⟩
     have hcp2 : CellsIs wk pb (po + j * 1) [.int .i64 (p : Int)]:=⟨hc3⟩
     have ol4 : OldIs SS pb:=hold hc3
     have hlp : LtIs p n:=⟨by omega⟩
     obtain ⟨htp,olu,hadu⟩:=tree p (by omega)
     repeat (first|refine g_op rfl ?_|refine g_then ?_|refine g_nil ?_|refine g_region ?_|refine g_seq ?_|refine g_block ?_|refine g_skip ?_)
     refine g_joinTo 81 (.bool (decide (Rch bl (-1) 0 p))) ?_ ?_
     ·by_cases hp0 : p = 0
      ·subst hp0
       rw [show decide (((0 : Nat) : Int) = 0) = true from rfl,show decide (Rch bl (-1) 0 0) = true by simp [Rch.refl]]
       repeat (first|refine g_op rfl ?_|refine g_then ?_|refine g_nil ?_|refine g_pass rfl ?_)
       exact g_done (by repeat (first|exact trivial|refine ⟨rfl,?_⟩)) (.refl _)
      ·rw [show decide ((p : Int) = 0) = false by simp; omega,← tree_pos hok hpos hp0]
       repeat (first|refine g_op rfl ?_|refine g_then ?_|refine g_nil ?_|refine g_open ?_)
       exact g_done (by repeat (first|exact trivial|refine ⟨rfl,?_⟩)) (.refl _)
     generalize he2 : decide (Rch bl (-1) 0 p) = e2
     cases e2
     ·repeat (first|refine g_then ?_|refine g_nil ?_|refine g_region ?_|refine g_opS rfl ?_|refine g_inBlock ?_|refine g_skip ?_|refine g_condF ?_|refine g_add rfl (by omega) (by omega) ?_)
      refine g_next (j + 1,R,ra1,rc1) ⟨hjl,?_⟩ (by simp only; omega) (by repeat (first|exact trivial|refine ⟨rfl,?_⟩)) (.refl _)
      simp only
      rw [hR,htk2,List.filter_append]
      simp [he2]
     ·repeat (first|refine g_op rfl ?_|refine g_then ?_|refine g_nil ?_|refine g_region ?_|refine g_condT ?_|refine g_build1 rfl rfl fun _ _=>?_)
      rename_i bt2 _
      refine g_append rfl rfl (by omega) (by omega) fun a3 c3=>?_
      refine g_eqH (H1:=Ent.vec (some ⟨bt2,0,none⟩) 1 1 3 1 [.int .i64 p]::Ent.vec a3 ((R++[(p : Int)]).length + 1) c3 3 1 (((c : Int)::(R++[(p : Int)])).map (.int .i64))::Ent.vec (some ⟨bo,0,none⟩) n n 38 1 (rs.map valR)::(rs.set h (⟨a',c',inn++[(c : Int)]⟩ : Row)).map entR) (by simp) ?_
      repeat (first|refine g_then ?_|refine g_nil ?_|refine g_region ?_|refine g_opS rfl ?_|refine g_inBlock ?_|refine g_add rfl (by omega) (by omega) ?_)
      refine g_fix (L':=[(69,.int .i64 ((j : Int) + 1)),(11,.slice a3 ((R++[(p : Int)]).length + 1) c3),(67,.slice pa pn pc),(68,.int .i64 pn),(12,.int .i64 c),(10,.slice a' (inn.length + 1) c'),(9,.int .i64 h),(8,.int .i64 t),(26,.int .i64 m),(25,.int .i64 (backL bl).length),(24,.slice ka (backL bl).length kc),(3,.slice ua n uc),(4,.slice aa n ac),(5,.slice (some ⟨bo,0,none⟩) n n)]) (by rw [List.length_append]; exact (by repeat (first|exact trivial|refine ⟨rfl,?_⟩))) (.refl _) ?_
      refine g_next (j + 1,R++[(p : Int)],a3,c3) ⟨hjl,?_⟩ (by simp only; omega) (by repeat (first|exact trivial|refine ⟨rfl,?_⟩)) (.cons _ (.refl _))
      simp only
      rw [hR,htk2,List.filter_append]
      simp [he2]
    ·have hjp : j = ps.length:=by have:=h3; simp at this; omega
     rw [hjp,List.take_length] at hR
     repeat (first|refine g_op rfl ?_|refine g_then ?_|refine g_region ?_|refine g_inBlock ?_|refine g_exit ?_|refine g_thenExit ?_|refine g_exitHere ?_)
     refine g_tail rfl (by omega) fun a2=>?_
     repeat (first|refine g_then ?_|refine g_nil ?_|refine g_opS rfl ?_)
     have hadd:=hL.add (ps:=(fun j=>((ps.take j).filter fun p=>decide (Rch bl (-1) 0 p)).map fun x : Nat=>(x : Int)) ps.length) hno (fun _ x=>by
      simp only [List.take_length]
      rw [List.mem_map]
      constructor
      ·rintro ⟨q,hq,rfl⟩
       have:=List.mem_filter.1 hq
       exact ⟨q,rfl,by simpa using this.2,((hps q).1 this.1).2⟩
      ·rintro ⟨q,rfl,h1,h2⟩
       exact ⟨q,List.mem_filter.2 ⟨(hps q).2 ⟨hok.rch hpos h1,h2⟩,by simpa using h1⟩,rfl⟩) fun k=>absurd k hch
     simp only [List.take_length] at hadd
     rw [← hR] at hadd
     refine g_fix (L':=[(11,.slice a2 R.length (rc1 - 1)),(10,.slice a' (inn++[(c : Int)]).length c'),(9,.int .i64 h),(8,.int .i64 t),(26,.int .i64 m),(25,.int .i64 (backL bl).length),(24,.slice ka (backL bl).length kc),(3,.slice ua n uc),(4,.slice aa n ac),(5,.slice (some ⟨bo,0,none⟩) n n)]) (by rw [hnil]; exact (by repeat (first|exact trivial|refine ⟨rfl,?_⟩))) (.refl _) ?_
     exact g_next (R,(a2,rc1 - 1),inn++[(c : Int)],(a',c')) ⟨hadd,by simp only [hnil]; omega⟩ (by simp only [hnil,List.length_cons]; omega) (by repeat (first|exact trivial|refine ⟨rfl,?_⟩)) (.refl _)
   ·have hyes : (c : Int) ∈ inn:=by simpa using hd2
    repeat (first|refine g_op rfl ?_|refine g_then ?_|refine g_nil ?_|refine g_region ?_|refine g_condT ?_|refine g_exit ?_|refine g_thenExit ?_|refine g_exitHere ?_)
    refine g_tail rfl (by omega) fun a'=>?_
    repeat (first|refine g_then ?_|refine g_nil ?_|refine g_opS rfl ?_)
    exact g_next (rest,(a',rc - 1),inn,(ia,ic)) ⟨hL.skip hyes,by simp only; omega⟩ (by simp only [List.length_cons]; omega) (by repeat (first|exact trivial|refine ⟨rfl,?_⟩)) (.refl _)
  ·have hnil : row = []:=by
    cases row with
    | nil=>rfl
    | cons z rest=>simp at h2
   subst hnil
   repeat (first|refine g_op rfl ?_|refine g_then ?_|refine g_region ?_|refine g_seq ?_|refine g_exit ?_|refine g_thenExit ?_|refine g_exitHere ?_)
   refine g_callAt (h + 2) (e:=Ent.vec ia inn.length ic 3 1 (inn.map (.int .i64))) (val:=fun _ : Unit=>.tuple #[]) (E:=fun _=>Ent.vec ia inn.length ic 3 1 ((sorted inn).map (.int .i64))) (φ:=fun _=>True) (by simp [hhl,entR]) rfl (fun w hw=>sort_c ia ic inn (by omega) w hw.pre) fun _ _=>?_
   refine g_eqH (H1:=Ent.vec ra 0 rc 3 1 []::Ent.vec (some ⟨bo,0,none⟩) n n 38 1 (rs.map valR)::(rs.set h (⟨ia,ic,sorted inn⟩ : Row)).map entR) (by simp [entR,List.map_set,sorted_len]) ?_
   have hxs : XSet (rs.map valR) (h * 1) (.slice ia inn.length ic) ((rs.set h (⟨ia,ic,sorted inn⟩ : Row)).map valR):=⟨by simp [valR,List.map_set,sorted_len],by simpa using hhl⟩
   repeat (first|refine g_op rfl ?_|refine g_then ?_|refine g_nil ?_|refine g_region ?_|refine g_opS rfl ?_|refine g_inBlock ?_|refine g_add rfl (by omega) (by omega) ?_|refine g_storeV ?_)
   refine g_next (m + 1,rs.set h (⟨ia,ic,sorted inn⟩ : Row)) ⟨hlt,by simpa using hrl,fun i r hr=>?_⟩ (by simp only; omega) (by repeat (first|exact trivial|refine ⟨rfl,?_⟩)) (.cons _ (.refl _))
   simp only
   rw [htk]
   by_cases hih : i = h
   ·subst hih
    rw [List.getElem?_set_self hhl] at hr
    simp only [Option.some.injEq] at hr
    subst hr
    exact loopAt_next hok hpos hd hL
   ·rw [List.getElem?_set_ne (Ne.symm hih)] at hr
    rw [hrows i r hr,loopAt_other fun ⟨e,_⟩=>hih e.symm]
 ·have hge : m = (backL bl).length:=by have:=h1; simp at this; omega
  rw [hge,List.take_length] at hrows
  repeat (first|refine g_op rfl ?_|refine g_then ?_|refine g_nil ?_|refine g_region ?_|refine g_seq ?_|refine g_exit ?_|refine g_thenExit ?_|refine g_exitHere ?_|refine g_ret ?_)
  refine g_ret1 rfl fun w hw=>⟨(bo,rs),by rw [hn],?_,?_⟩
  ·simp only
   rw [← hn]
   exact (back hw).sub (List.sublist_append_left _ _)
  ·show rs.map (·.l) = loopsL bl
   apply List.ext_getElem?
   intro i
   by_cases hin : i < n
   ·rw [List.getElem?_map,List.getElem?_eq_getElem (by omega : i < rs.length),loopAt_all hok hpos (by omega),Option.map_some,hrows i _ (List.getElem?_eq_getElem (by omega))]
   ·rw [List.getElem?_map,List.getElem?_eq_none (by omega),List.getElem?_eq_none (by rw [loopsL_len]; omega)]
    rfl
end Go.Proofs.YtdbljcahlpkgdaaGreatDoor
namespace Go.Proofs.YtdbljcahlpkgdaaGreatDoor
open Go Go.RowKit
attribute [local irreducible] wpListIn Code.wpIn Exit.then Exit.inBlock bodyPost wpQuiet wpAnyIn wpAnyH bodyPostM
set_option maxHeartbeats 4000000
section
variable {P : Program} {N : Nat} {ds : List Deferred} {S : Nat→Prop} {w0 : World} {L L' : List (Nat × Value)} {H H' Hr : List Ent} {Q : Exit→Act→World→Prop} {x y : Operand} {M : Act→World→Prop} {l : List Oper} {fuel : Nat} {listed : Array Bool}
theorem h_callVG {d ty f j t : Nat} (i : Nat) {want : Bool} {args : List Operand} {vs : List Value} {tys : Array Nat} {pos : String} {aft : Array Go.Edge} {u : Value} [ho : ListAt l i ⟨some d,.call { callee:=.value (.func f),args:=args.toArray,argTypes:=tys },ty,pos,aft,some (j,want)⟩] [hj : DstOf l.toArray j t] [hb : SlotIs L t (.bool want)] [h : EnterOk P f] [hx : Evs L args vs] (hd : okPut d N L = true)
  (hr : decide (Region.ready .any l.toArray listed = [i]) = true) (hH : Hr.Sublist H)
  (hc : ∀ w,Wd S w0 H w→RetV P f vs w u)
  (k : G N ds S w0 ((d,u)::L) H (wpAnyH P .any l.toArray (OnlyN M) (Wd S w0 Hr) fuel (listed.setIfInBounds i true))) : G N ds S w0 L H (wpAnyH P .any l.toArray (OnlyN M) (Wd S w0 Hr) (fuel + 1) listed):=by
 intro a w hS
 refine wpAnyH_all (of_decide_eq_true hr) (by simp) fun i' hi'=>?_
 simp only [List.mem_singleton] at hi'
 subst hi'
 unfold wpOp
 rw [show l.toArray[i']? = some ⟨some d,.call { callee:=.value (.func f),args:=args.toArray,argTypes:=tys },ty,pos,aft,some (j,want)⟩ by simpa using ho.at']
 simp only
 rw [if_pos (show Region.wanted (⟨some d,.call { callee:=.value (.func f),args:=args.toArray,argTypes:=tys },ty,pos,aft,some (j,want)⟩ : Oper) (yielded l.toArray a.tmps) = true by
  simp only [Region.wanted,hS.fr.yield (ops:=l.toArray) (j:=j) (b:=want)]
  simp)]
 left
 unfold Oper.wp
 have hrun : (execOp a.eval ⟨some d,.call { callee:=.value (.func f),args:=args.toArray,argTypes:=tys },ty,pos,aft,some (j,want)⟩).run P w = .ok (.enter f vs.toArray) w:=by
  simp [execOp,resolve,Act.eval,Deferred.ofValue,invoke,hx.eq _ _ _ hS.fr,h.run]
 rw [hrun]
 refine Calls.mono (callsIn_wide.1 (hc w hS.wd)) fun e w' ⟨v,he,hR⟩=>?_
 subst he
 have hw2 : Wd S w0 H w':=hS.wd.call hR.2
 exact ⟨hw2.sub hH,k _ w' ⟨by rw [hR.1]; exact hS.fr.putOk hd u,hw2⟩⟩
end
theorem fromR_sl {S : Nat→Prop} {w0 w : World} {H : List Ent} {k c : Nat} {a : Option Addr} {bl : List LBlock} {wo : Int} {b : Nat} {l : List Nat} (h : Wd S w0 H w) (hk : H[k]? = some (Ent.vec a l.length c 3 1 (l.map intN))) (hl : FromR bl wo b l) (hlen : bl.length ≤ 100) : SlAt w (.slice a l.length c) 1 (l.map fun x : Nat=>(x : Int)) IntV :=
 ints_sl h hk rfl (by have:=nodup_len _ l hl.1 hl.2.1; omega) fun x hx=>by have:=hl.2.1 x hx; omega
theorem refRules_c (nm pa re : Value) (bl : List LBlock) (bs : Value) (hbsl : ∃ a n c,bs = .slice a n c) (a b : Nat) (w0 : World) (hbs : SlAt w0 bs 6 bl BlockV) (hlen : bl.length ≤ 100) (hok : GoodB bl) (hpos : 0 < bl.length) :
  RetV Tryz.prog 55 [.agg #[nm,pa,re,bs],.int .i64 a,.int .i64 b] w0 (.bool (open Classical in decide (Dom bl a b))):=by
 classical
 obtain ⟨ba,n,bc,rfl⟩:=hbsl
 refine ret_enter Tryz.func55 rfl Tryz.ntmps55 rfl (Wd.nil NoS w0) ?_
 repeat (first|refine g_op rfl ?_|refine g_then ?_|refine g_nil ?_|refine g_region ?_|refine g_seq ?_|refine g_box rfl fun _ _=>?_)
 rename_i p3 _
 refine g_callE (val:=fun x : Option Addr × Nat × List Nat=>.slice x.1 x.2.2.length x.2.1) (E:=fun x=>[Ent.vec x.1 x.2.2.length x.2.1 3 1 (x.2.2.map intN)]) (φ:=fun x=>FromR bl (-1) 0 x.2.2) rfl (fun w hw=>reached_c _ _ _ bl _ ⟨_,_,_,rfl⟩ w (hbs.keep keeps_block hw.chg) hlen hok hpos) fun x hx=>?_
 obtain ⟨xa,xc,l⟩:=x
 simp only [List.cons_append,List.nil_append] at hx ⊢
 repeat (first|refine g_op rfl ?_|refine g_then ?_|refine g_nil ?_|refine g_region ?_|refine g_seq ?_)
 have hrl : ∀ x : Nat,decide ((x : Int) ∈ l.map fun x : Nat=>(x : Int)) = decide (Rch bl (-1) 0 x):=fun x=>by
  rw [decide_eq_decide,mem_ints,hx.2.2]
  exact ⟨fun h=>h.2,fun h=>⟨by omega,h⟩⟩
 refine g_callV rfl (fun w hw=>has_c _ (l.map fun x : Nat=>(x : Int)) a w (fromR_sl hw (k:=0) rfl hx hlen)) ?_
 rw [hrl]
 generalize hd1 : decide (Rch bl (-1) 0 a) = d1
 cases d1
 ·have hno : ¬ Dom bl a b:=fun h=>by simp [h.1] at hd1
  repeat (first|refine g_op rfl ?_|refine g_then ?_|refine g_nil ?_|refine g_opS rfl ?_|refine g_pass rfl ?_|refine g_ret ?_|refine g_passU rfl ?_)
  exact g_retV rfl (by rw [decide_eq_false hno])
 have hra : Rch bl (-1) 0 a:=by simpa using hd1
 repeat (first|refine g_op rfl ?_|refine g_open ?_)
 refine g_callV rfl (fun w hw=>has_c _ (l.map fun x : Nat=>(x : Int)) b w (fromR_sl hw (k:=0) rfl hx hlen)) ?_
 rw [hrl]
 generalize hd2 : decide (Rch bl (-1) 0 b) = d2
 cases d2
 ·have hno : ¬ Dom bl a b:=fun h=>by simp [h.2.1] at hd2
  repeat (first|refine g_op rfl ?_|refine g_then ?_|refine g_nil ?_|refine g_opS rfl ?_|refine g_pass rfl ?_|refine g_ret ?_|refine g_passU rfl ?_)
  exact g_retV rfl (by rw [decide_eq_false hno])
 have hrb : Rch bl (-1) 0 b:=by simpa using hd2
 repeat (first|refine g_op rfl ?_|refine g_open ?_)
 by_cases he : a = b
 ·subst he
  rw [show decide ((a : Int) = (a : Int)) = true by simp]
  repeat (first|refine g_op rfl ?_|refine g_then ?_|refine g_nil ?_|refine g_opS rfl ?_|refine g_open ?_|refine g_pass rfl ?_|refine g_ret ?_)
  exact g_retV rfl (by rw [decide_eq_true (Dom.refl hra)])
 rw [show decide ((a : Int) = (b : Int)) = false by simp; omega]
 repeat (first|refine g_op rfl ?_|refine g_open ?_)
 refine g_callE (val:=fun x : Option Addr × Nat × List Nat=>.slice x.1 x.2.2.length x.2.1) (E:=fun x=>[Ent.vec x.1 x.2.2.length x.2.1 3 1 (x.2.2.map intN)]) (φ:=fun x=>FromR bl a 0 x.2.2) rfl (fun w hw=>refFrom_c _ _ _ bl _ 0 a w (hbs.keep keeps_block hw.chg) hlen hok hpos) fun x hx2=>?_
 obtain ⟨ya,yc,m⟩:=x
 simp only [List.cons_append,List.nil_append] at hx2 ⊢
 repeat (first|refine g_op rfl ?_|refine g_open ?_)
 refine g_callV rfl (fun w hw=>has_c _ (m.map fun x : Nat=>(x : Int)) b w (fromR_sl hw (k:=0) rfl hx2 hlen)) ?_
 rw [show decide ((b : Int) ∈ m.map fun x : Nat=>(x : Int)) = !decide (Dom bl a b) by
  by_cases h : Dom bl a b
  ·rw [decide_eq_true h]
   simp only [Bool.not_true,decide_eq_false_iff_not]
   intro hm
   rw [mem_ints,hx2.2.2] at hm
   rcases h.2.2 with k|k|k
   ·exact he k
   ·subst k; exact hm.1 rfl
   ·exact k hm.2
  ·rw [decide_eq_false h]
   simp only [Bool.not_false,decide_eq_true_eq]
   rw [mem_ints,hx2.2.2]
   by_cases h0 : a = 0
   ·exact absurd ⟨hra,hrb,.inr (.inl h0)⟩ h
   ·refine ⟨by omega,?_⟩
    by_cases k : Rch bl a 0 b
    ·exact k
    ·exact absurd ⟨hra,hrb,.inr (.inr k)⟩ h]
 repeat (first|refine g_op rfl ?_|refine g_then ?_|refine g_nil ?_|refine g_opS rfl ?_|refine g_open ?_|refine g_ret ?_)
 exact g_retV rfl (by simp)
end Go.Proofs.YtdbljcahlpkgdaaGreatDoor
namespace Go.Proofs.YtdbljcahlpkgdaaGreatDoor
open Go Go.RowKit
section
variable {P : Program} {N : Nat} {ds : List Deferred} {S : Nat→Prop} {w0 : World} {L L' : List (Nat × Value)} {H H' Hr : List Ent} {Q : Exit→Act→World→Prop} {x y : Operand} {M : Act→World→Prop} {l : List Oper} {fuel : Nat} {listed : Array Bool}
theorem h_callEG {α : Type} {val : α→Value} {E : α→List Ent} {φ : α→Prop} {d ty f j t : Nat} (i : Nat) {want : Bool} {args : List Operand} {vs : List Value} {tys : Array Nat} {pos : String} {aft : Array Go.Edge} [ho : ListAt l i ⟨some d,.call { callee:=.value (.func f),args:=args.toArray,argTypes:=tys },ty,pos,aft,some (j,want)⟩] [hj : DstOf l.toArray j t] [hb : SlotIs L t (.bool want)] [h : EnterOk P f] [hx : Evs L args vs] (hd : okPut d N L = true)
  (hr : decide (Region.ready .any l.toArray listed = [i]) = true) (hH : Hr.Sublist H)
  (hc : ∀ w,Wd S w0 H w→Ret P f vs w fun u w'=>∃ x,u = val x∧Wd NoS w (E x) w'∧φ x)
  (k : ∀ x,φ x→G N ds S w0 ((d,val x)::L) (E x++H) (wpAnyH P .any l.toArray (OnlyN M) (Wd S w0 Hr) fuel (listed.setIfInBounds i true))) : G N ds S w0 L H (wpAnyH P .any l.toArray (OnlyN M) (Wd S w0 Hr) (fuel + 1) listed):=by
 intro a w hS
 refine wpAnyH_all (of_decide_eq_true hr) (by simp) fun i' hi'=>?_
 simp only [List.mem_singleton] at hi'
 subst hi'
 unfold wpOp
 rw [show l.toArray[i']? = some ⟨some d,.call { callee:=.value (.func f),args:=args.toArray,argTypes:=tys },ty,pos,aft,some (j,want)⟩ by simpa using ho.at']
 simp only
 rw [if_pos (show Region.wanted (⟨some d,.call { callee:=.value (.func f),args:=args.toArray,argTypes:=tys },ty,pos,aft,some (j,want)⟩ : Oper) (yielded l.toArray a.tmps) = true by
  simp only [Region.wanted,hS.fr.yield (ops:=l.toArray) (j:=j) (b:=want)]
  simp)]
 left
 unfold Oper.wp
 have hrun : (execOp a.eval ⟨some d,.call { callee:=.value (.func f),args:=args.toArray,argTypes:=tys },ty,pos,aft,some (j,want)⟩).run P w = .ok (.enter f vs.toArray) w:=by
  simp [execOp,resolve,Act.eval,Deferred.ofValue,invoke,hx.eq _ _ _ hS.fr,h.run]
 rw [hrun]
 refine Calls.mono (callsIn_wide.1 (hc w hS.wd)) fun e w' ⟨v,he,q,hv,h2,h3⟩=>?_
 subst he hv
 have hw2 : Wd S w0 (E q++H) w':=hS.wd.more h2
 exact ⟨hw2.sub (hH.trans (List.sublist_append_right _ _)),k q h3 _ w' ⟨hS.fr.putOk hd _,hw2⟩⟩
end
attribute [local irreducible] wpListIn Code.wpIn Exit.then Exit.inBlock bodyPost wpQuiet wpAnyIn wpAnyH bodyPostM
set_option maxHeartbeats 8000000
def LoopTo (bl : List LBlock) (h : Nat) (ts : List Nat) (t b : Nat) (x : Int) : Prop:=∃ c : Nat,x = c∧(InT bl h ts c ∨ c = h ∨ (c < b∧c ≠ h∧Rch bl (-1) 0 c∧Rch bl h c t))
theorem loopTo_all {bl : List LBlock} (hok : GoodB bl) (h0 : 0 < bl.length) {h t : Nat} {ts : List Nat} {x : Int} : LoopTo bl h ts t bl.length x ↔ ∃ c : Nat,x = c∧InT bl h (ts++[t]) c:=by
 constructor
 ·rintro ⟨c,e,⟨s,hs,k⟩|k|⟨_,k1,k2,k3⟩⟩
  ·exact ⟨c,e,s,List.mem_append_left _ hs,k⟩
  ·exact ⟨c,e,t,by simp,.inl k⟩
  ·exact ⟨c,e,t,by simp,.inr ⟨k1,k2,k3⟩⟩
 ·rintro ⟨c,e,s,hs,k⟩
  rcases List.mem_append.1 hs with hs|hs
  ·exact ⟨c,e,.inl ⟨s,hs,k⟩⟩
  ·rw [List.mem_singleton.1 hs] at k
   rcases k with k|⟨k1,k2,k3⟩
   ·exact ⟨c,e,.inr (.inl k)⟩
   ·exact ⟨c,e,.inr (.inr ⟨hok.rch h0 k2,k1,k2,k3⟩)⟩
theorem refLoop_c (nm pa re : Value) (bl : List LBlock) (bs : Value) (hbsl : ∃ a n c,bs = .slice a n c) (h : Nat) (hh : h < bl.length) (w0 : World) (hbs : SlAt w0 bs 6 bl BlockV) (hlen : bl.length ≤ 100) (hok : GoodB bl) (hpos : 0 < bl.length) :
  Ret Tryz.prog 32 [.agg #[nm,pa,re,bs],.int .i64 h] w0 fun u w'=>∃ x : Option Addr × Nat,u = .slice x.1 (loopAt bl (backL bl) h).length x.2∧Wd NoS w0 [Ent.vec x.1 (loopAt bl (backL bl) h).length x.2 3 1 ((loopAt bl (backL bl) h).map (.int .i64))] w'∧True:=by
 classical
 obtain ⟨ba,n,bc,rfl⟩:=hbsl
 have hn : n = bl.length:=hbs.at.1
 have hbkl:=backL_len hlen
 refine ret_enter Tryz.func32 rfl Tryz.ntmps32 rfl (Wd.nil NoS w0) ?_
 repeat (first|refine g_op rfl ?_|refine g_then ?_|refine g_nil ?_|refine g_region ?_|refine g_seq ?_|refine g_box rfl fun _ _=>?_)
 rename_i p2 _
 refine g_callK (s:=2) (l:=backL bl) (V:=PairV) (mk:=fun v=>v) rfl (fun w hw=>refBackK _ _ _ bl _ ⟨_,_,_,rfl⟩ w (hbs.keep keeps_block hw.chg) hlen hok hpos) fun ka kc kp=>?_
 repeat (first|refine g_op rfl ?_|refine g_then ?_|refine g_nil ?_|refine g_region ?_|refine g_seq ?_|refine g_block ?_)
 refine g_nilVec 3 1 ?_
 refine g_loop (fun (x : Nat × List Int × Option Addr × Nat)=>x.1 ≤ (backL bl).length∧x.2.1.length ≤ x.1 * 101∧∀ y,y ∈ x.2.1 ↔ ∃ c : Nat,y = c∧InT bl h (tailsOf bl ((backL bl).take x.1) h) c) (fun x=>[(7,.int .i64 x.1),(6,.slice x.2.2.1 x.2.1.length x.2.2.2),(5,.slice ka (backL bl).length kc),(1,.int .i64 h),(2,.pointer (some ⟨p2,0,none⟩))])
  (fun x=>[Ent.vec x.2.2.1 x.2.1.length x.2.2.2 3 1 (x.2.1.map (.int .i64)),(⟨kp,fun w=>SlAt w (.slice ka (backL bl).length kc) 2 (backL bl) PairV⟩ : Ent),Ent.box p2 [nm,pa,re,.slice ba n bc] 35]) (fun x=>(backL bl).length - x.1) (0,[],none,0) ⟨Nat.zero_le _,by simp,by simp [tailsOf,InT]⟩ (g_done (by repeat (first|exact trivial|refine ⟨rfl,?_⟩)) (.refl _)) fun x ⟨hi,hll,hl⟩=>?_
 obtain ⟨i,l,la,lc⟩:=x
 simp only at hi hll hl ⊢
 repeat (first|refine g_op rfl ?_|refine g_then ?_|refine g_nil ?_|refine g_region ?_|refine g_seq ?_)
 refine g_cond (fun h1=>?_) (fun h1=>?_)
 ·have hlt : i < (backL bl).length:=by simpa using h1
  obtain ⟨⟨t,g⟩,hp⟩ : ∃ p,(backL bl)[i]? = some p:=⟨_,List.getElem?_eq_getElem hlt⟩
  have hpb : BackE bl t g:=(backL_mem hok hpos).1 (List.mem_of_getElem? hp)
  have htk : (backL bl).take (i + 1) = (backL bl).take i++[(t,g)]:=by rw [List.take_add_one,hp]; rfl
  have htn : t < n:=by have:=hok.rch hpos hpb.1; omega
  refine g_know 1 rfl (φ:=∃ b o,ka = some ⟨b,o,none⟩) (fun w h=>by
   obtain ⟨_,_,_,b,o,ha,_⟩:=SlAt.at h
   exact ⟨b,o,ha (ne_of_get hp)⟩) fun ⟨kb,ko,e⟩=>?_
  subst e
  have hcell : ∀ S w0 w (H : List Ent),Wd S w0 ((⟨kp,fun w=>SlAt w (.slice (some ⟨kb,ko,none⟩) (backL bl).length kc) 2 (backL bl) PairV⟩ : Ent)::H) w→CellsAt w kb (ko + i * 2) [.int .i64 (t : Int),.int .i64 (g : Int)]:=fun _ _ w H hw=>by
   have h : SlAt w (.slice (some ⟨kb,ko,none⟩) (backL bl).length kc) 2 (backL bl) PairV:=hw.get (k:=0) rfl
   obtain ⟨cs,hc,rfl⟩:=h.known i _ hp
   exact hc
  have hoc1 : ∀ H : List Ent,OwnCell ((⟨kp,fun w=>SlAt w (.slice (some ⟨kb,ko,none⟩) (backL bl).length kc) 2 (backL bl) PairV⟩ : Ent)::H) kb (ko + i * 2 + 1 * 1) (.int .i64 (g : Int)):=fun H=>⟨fun _ _ w hw=>hcell _ _ w _ hw 1 _ rfl⟩
  have hoc0 : ∀ H : List Ent,OwnCell ((⟨kp,fun w=>SlAt w (.slice (some ⟨kb,ko,none⟩) (backL bl).length kc) 2 (backL bl) PairV⟩ : Ent)::H) kb (ko + i * 2) (.int .i64 (t : Int)):=fun H=>⟨fun _ _ w hw=>hcell _ _ w _ hw 0 _ rfl⟩
  have hl0 : LtIs 0 2:=⟨by omega⟩
  have hl1 : LtIs 1 2:=⟨by omega⟩
  have hlj : LtIs i (backL bl).length:=⟨hlt⟩
  have hother : ¬ (g = h∧Dom bl h t)→∀ y,y ∈ l ↔ ∃ c : Nat,y = c∧InT bl h (tailsOf bl ((backL bl).take (i + 1)) h) c:=fun hno y=>by
   rw [hl,htk,tailsOf_add]
   simp [hno]
  repeat (first|refine g_then ?_|refine g_seq ?_|refine g_block ?_|refine g_skip ?_)
  refine g_drawH [Ent.vec la l.length lc 3 1 (l.map (.int .i64)),(⟨kp,fun w=>SlAt w (.slice (some ⟨kb,ko,none⟩) (backL bl).length kc) 2 (backL bl) PairV⟩ : Ent),Ent.box p2 [nm,pa,re,.slice ba n bc] 35] mixed (.refl _) ?_
  have hi101 : i * 101 ≤ 10000 * 101:=Nat.mul_le_mul (by omega) (Nat.le_refl _)
  by_cases hgh : g ≠ h
  ·skip
   refine h_take 0 rfl (by decide +kernel) (.refl _) ?_
   refine h_take 1 rfl (by decide +kernel) (.refl _) ?_
   refine h_take 2 rfl (by decide +kernel) (.refl _) ?_
   refine h_take 3 rfl (by decide +kernel) (.refl _) ?_
   refine h_take 4 rfl (by decide +kernel) (.refl _) ?_
   refine h_take 5 rfl (by decide +kernel) (.refl _) ?_
   refine h_take 6 rfl (by decide +kernel) (.refl _) ?_
   rw [show (!decide ((g : Int) = (h : Int))) = true by simp; omega]
   refine h_take 7 rfl (by decide +kernel) (.refl _) ?_
   refine h_takeP 8 rfl (by decide +kernel) (.refl _) ?_
   refine h_takeP 9 rfl (by decide +kernel) (.refl _) ?_
   refine h_takeP 10 rfl (by decide +kernel) (.refl _) ?_
   refine h_takeP 11 rfl (by decide +kernel) (.refl _) ?_
   refine h_takeP 12 rfl (by decide +kernel) (.refl _) ?_
   refine h_takeP 13 rfl (by decide +kernel) (.refl _) ?_
   refine h_takeP 14 rfl (by decide +kernel) (.refl _) ?_
   refine h_takeP 15 rfl (by decide +kernel) (.refl _) ?_
   refine h_takeP 16 rfl (by decide +kernel) (.refl _) ?_
   refine h_take 17 rfl (by decide +kernel) (.refl _) ?_
   refine h_end (by decide +kernel) ?_
   repeat (first|refine g_op rfl ?_|refine g_then ?_|refine g_nil ?_|refine g_region ?_|refine g_opS rfl ?_|refine g_condT ?_|refine g_add rfl (by omega) (by omega) ?_|refine g_exit ?_|refine g_thenExit ?_|refine g_exitHere ?_)
   exact g_next (i + 1,l,la,lc) ⟨hlt,by simp only; omega,hother fun k=>hgh k.1⟩ (by simp only; omega) (by repeat (first|exact trivial|refine ⟨rfl,?_⟩)) (.refl _)
  have hgh : g = h:=Classical.byContradiction fun k=>hgh k
  subst hgh
  refine h_take 0 rfl (by decide +kernel) (.refl _) ?_
  refine h_take 1 rfl (by decide +kernel) (.refl _) ?_
  refine h_take 2 rfl (by decide +kernel) (.refl _) ?_
  refine h_take 3 rfl (by decide +kernel) (.refl _) ?_
  refine h_take 4 rfl (by decide +kernel) (.refl _) ?_
  refine h_take 5 rfl (by decide +kernel) (.refl _) ?_
  refine h_take 6 rfl (by decide +kernel) (.refl _) ?_
  rw [show (!decide ((g : Int) = (g : Int))) = false by simp]
  refine h_take 7 rfl (by decide +kernel) (.refl _) ?_
  refine h_takeG 8 rfl (by decide +kernel) (.refl _) ?_
  refine h_takeG 9 rfl (by decide +kernel) (.refl _) ?_
  refine h_takeG 10 rfl (by decide +kernel) (.refl _) ?_
  refine h_takeG 11 rfl (by decide +kernel) (.refl _) ?_
  refine h_takeG 12 rfl (by decide +kernel) (.refl _) ?_
  refine h_takeG 13 rfl (by decide +kernel) (.refl _) ?_
  rw [show ko + i * 2 + 0 * 1 = ko + i * 2 from rfl]
  refine h_takeG 14 rfl (by decide +kernel) (.refl _) ?_
  refine h_callVG 15 rfl (by decide +kernel) (.refl _) (fun w hw=>refRules_c _ _ _ bl _ ⟨_,_,_,rfl⟩ g t w (hbs.keep keeps_block hw.chg) hlen hok hpos) ?_
  generalize hd1 : decide (Dom bl g t) = d1
  refine h_takeG 16 rfl (by decide +kernel) (.refl _) ?_
  refine h_take 17 rfl (by decide +kernel) (.refl _) ?_
  refine h_end (by decide +kernel) ?_
  repeat (refine g_then ?_)
  cases d1
  ·have hno : ¬ Dom bl g t:=by simpa using hd1
   rw [show (!false) = true from rfl]
   repeat (first|refine g_op rfl ?_|refine g_then ?_|refine g_nil ?_|refine g_region ?_|refine g_opS rfl ?_|refine g_condT ?_|refine g_add rfl (by omega) (by omega) ?_|refine g_exit ?_|refine g_thenExit ?_|refine g_exitHere ?_)
   exact g_next (i + 1,l,la,lc) ⟨hlt,by simp only; omega,hother fun k=>hno k.2⟩ (by simp only; omega) (by repeat (first|exact trivial|refine ⟨rfl,?_⟩)) (.refl _)
  have hd : Dom bl g t:=by simpa using hd1
  rw [show (!true) = false from rfl]
  repeat (first|refine g_op rfl ?_|refine g_then ?_|refine g_region ?_|refine g_seq ?_|refine g_skip ?_|refine g_condF ?_|refine g_build1 rfl rfl fun _ _=>?_)
  rename_i bt _
  refine g_append rfl rfl (by omega) (by omega) fun a1 c1=>?_
  refine g_eqH (H1:=[Ent.vec (some ⟨bt,0,none⟩) 1 1 3 1 [.int .i64 g],Ent.vec a1 (l++[(g : Int)]).length c1 3 1 ((l++[(g : Int)]).map (.int .i64)),(⟨kp,fun w=>SlAt w (.slice (some ⟨kb,ko,none⟩) (backL bl).length kc) 2 (backL bl) PairV⟩ : Ent),Ent.box p2 [nm,pa,re,.slice ba n bc] 35]) (by simp) ?_
  repeat (first|refine g_op rfl ?_|refine g_then ?_|refine g_nil ?_|refine g_region ?_|refine g_seq ?_|refine g_opS rfl ?_|refine g_block ?_)
  refine g_fix (L':=[(8,.int .i64 ((0 : Nat) : Int)),(6,.slice a1 (l++[(g : Int)]).length c1),(7,.int .i64 i),(5,.slice (some ⟨kb,ko,none⟩) (backL bl).length kc),(1,.int .i64 g),(2,.pointer (some ⟨p2,0,none⟩))]) (by rw [List.length_append]; exact (by repeat (first|exact trivial|refine ⟨rfl,?_⟩))) (.refl _) ?_
  refine g_loop (fun (x : Nat × List Int × Option Addr × Nat)=>x.1 ≤ n∧x.2.1.length ≤ i * 101 + 1 + x.1∧∀ y,y ∈ x.2.1 ↔ LoopTo bl g (tailsOf bl ((backL bl).take i) g) t x.1 y) (fun x=>[(8,.int .i64 x.1),(6,.slice x.2.2.1 x.2.1.length x.2.2.2),(7,.int .i64 i),(5,.slice (some ⟨kb,ko,none⟩) (backL bl).length kc),(1,.int .i64 g),(2,.pointer (some ⟨p2,0,none⟩))])
   (fun x=>[Ent.vec x.2.2.1 x.2.1.length x.2.2.2 3 1 (x.2.1.map (.int .i64)),(⟨kp,fun w=>SlAt w (.slice (some ⟨kb,ko,none⟩) (backL bl).length kc) 2 (backL bl) PairV⟩ : Ent),Ent.box p2 [nm,pa,re,.slice ba n bc] 35]) (fun x=>n - x.1) (0,l++[(g : Int)],a1,c1) ⟨Nat.zero_le _,by simp; omega,fun y=>?_⟩ (g_done (by repeat (first|exact trivial|refine ⟨rfl,?_⟩)) (.cons _ (.refl _))) fun x ⟨hb,hml,hm⟩=>?_
  ·simp only [List.mem_append,List.mem_singleton]
   rw [hl]
   constructor
   ·rintro (⟨c,e,k⟩|e)
    ·exact ⟨c,e,.inl k⟩
    ·exact ⟨g,e,.inr (.inl rfl)⟩
   ·rintro ⟨c,e,k|k|k⟩
    ·exact .inl ⟨c,e,k⟩
    ·exact .inr (by rw [e,k])
    ·omega
  obtain ⟨b,m,ma,mc⟩:=x
  simp only at hb hml hm ⊢
  repeat (first|refine g_op rfl ?_|refine g_then ?_|refine g_nil ?_|refine g_region ?_|refine g_seq ?_)
  refine g_cond (fun h2=>?_) (fun h2=>?_)
  ·have hbn : b < n:=by simpa using h2
   have hstay : ¬ (b ≠ g∧Rch bl (-1) 0 b∧Rch bl g b t)→∀ y,y ∈ m ↔ LoopTo bl g (tailsOf bl ((backL bl).take i) g) t (b + 1) y:=fun hno y=>by
    rw [hm]
    constructor
    ·rintro ⟨c,e,k|k|⟨k0,k⟩⟩
     ·exact ⟨c,e,.inl k⟩
     ·exact ⟨c,e,.inr (.inl k)⟩
     ·exact ⟨c,e,.inr (.inr ⟨by omega,k⟩)⟩
    ·rintro ⟨c,e,k|k|⟨k0,k⟩⟩
     ·exact ⟨c,e,.inl k⟩
     ·exact ⟨c,e,.inr (.inl k)⟩
     ·refine ⟨c,e,.inr (.inr ⟨Nat.lt_of_le_of_ne (by omega) fun ec=>hno (ec ▸ k),k⟩)⟩
   repeat (first|refine g_then ?_|refine g_seq ?_|refine g_block ?_|refine g_skip ?_)
   refine g_drawH [Ent.vec ma m.length mc 3 1 (m.map (.int .i64)),(⟨kp,fun w=>SlAt w (.slice (some ⟨kb,ko,none⟩) (backL bl).length kc) 2 (backL bl) PairV⟩ : Ent),Ent.box p2 [nm,pa,re,.slice ba n bc] 35] mixed (.refl _) ?_
   refine h_take 0 rfl (by decide +kernel) (.refl _) ?_
   refine h_take 1 rfl (by decide +kernel) (.refl _) ?_
   refine h_take 2 rfl (by decide +kernel) (.refl _) ?_
   by_cases hbg : b = g
   ·rw [show (!decide ((b : Int) = (g : Int))) = false by simp [hbg]]
    refine h_take 3 rfl (by decide +kernel) (.refl _) ?_
    refine h_takeP 4 rfl (by decide +kernel) (.refl _) ?_
    refine h_takeP 5 rfl (by decide +kernel) (.refl _) ?_
    refine h_takeP 6 rfl (by decide +kernel) (.refl _) ?_
    refine h_takeP 7 rfl (by decide +kernel) (.refl _) ?_
    refine h_take 8 rfl (by decide +kernel) (.refl _) ?_
    refine h_take 9 rfl (by decide +kernel) (.refl _) ?_
    refine h_takeP 10 rfl (by decide +kernel) (.refl _) ?_
    refine h_takeP 11 rfl (by decide +kernel) (.refl _) ?_
    refine h_takeP 12 rfl (by decide +kernel) (.refl _) ?_
    refine h_takeP 13 rfl (by decide +kernel) (.refl _) ?_
    refine h_takeP 14 rfl (by decide +kernel) (.refl _) ?_
    refine h_takeP 15 rfl (by decide +kernel) (.refl _) ?_
    refine h_takeP 16 rfl (by decide +kernel) (.refl _) ?_
    refine h_takeP 17 rfl (by decide +kernel) (.refl _) ?_
    refine h_takeP 18 rfl (by decide +kernel) (.refl _) ?_
    refine h_takeP 19 rfl (by decide +kernel) (.refl _) ?_
    refine h_take 20 rfl (by decide +kernel) (.refl _) ?_
    refine h_end (by decide +kernel) ?_
    repeat (first|refine g_op rfl ?_|refine g_then ?_|refine g_nil ?_|refine g_region ?_|refine g_opS rfl ?_|refine g_inBlock ?_|refine g_skip ?_|refine g_condF ?_|refine g_add rfl (by omega) (by omega) ?_)
    exact g_next (b + 1,m,ma,mc) ⟨hbn,by simp only; omega,hstay fun k=>k.1 hbg⟩ (by simp only; omega) (by repeat (first|exact trivial|refine ⟨rfl,?_⟩)) (.refl _)
   rw [show (!decide ((b : Int) = (g : Int))) = true by simp; omega]
   refine h_take 3 rfl (by decide +kernel) (.refl _) ?_
   refine h_takeG 4 rfl (by decide +kernel) (.refl _) ?_
   refine h_takeG 6 rfl (by decide +kernel) (.refl _) ?_
   refine h_callEG 5 (val:=fun x : Option Addr × Nat × List Nat=>.slice x.1 x.2.2.length x.2.1) (E:=fun x=>[Ent.vec x.1 x.2.2.length x.2.1 3 1 (x.2.2.map intN)]) (φ:=fun x=>FromR bl (-1) 0 x.2.2) rfl (by decide +kernel) (.refl _) (fun w hw=>reached_c _ _ _ bl _ ⟨_,_,_,rfl⟩ w (hbs.keep keeps_block hw.chg) hlen hok hpos) fun x hx=>?_
   obtain ⟨xa,xc,rl⟩:=x
   simp only [List.cons_append,List.nil_append] at hx ⊢
   refine h_callVG 7 rfl (by decide +kernel) (.cons _ (.refl _)) (fun w hw=>has_c _ (rl.map fun x : Nat=>(x : Int)) b w (fromR_sl hw (k:=0) rfl hx hlen)) ?_
   rw [show decide ((b : Int) ∈ rl.map fun x : Nat=>(x : Int)) = decide (Rch bl (-1) 0 b) by
    rw [decide_eq_decide,mem_ints,hx.2.2]
    exact ⟨fun h=>h.2,fun h=>⟨by omega,h⟩⟩]
   generalize hd2 : decide (Rch bl (-1) 0 b) = d2
   cases d2
   ·have hno : ¬ Rch bl (-1) 0 b:=by simpa using hd2
    refine h_take 8 rfl (by decide +kernel) (.cons _ (.refl _)) ?_
    refine h_take 9 rfl (by decide +kernel) (.cons _ (.refl _)) ?_
    refine h_takeP 10 rfl (by decide +kernel) (.cons _ (.refl _)) ?_
    refine h_takeP 11 rfl (by decide +kernel) (.cons _ (.refl _)) ?_
    refine h_takeP 12 rfl (by decide +kernel) (.cons _ (.refl _)) ?_
    refine h_takeP 13 rfl (by decide +kernel) (.cons _ (.refl _)) ?_
    refine h_takeP 14 rfl (by decide +kernel) (.cons _ (.refl _)) ?_
    refine h_takeP 15 rfl (by decide +kernel) (.cons _ (.refl _)) ?_
    refine h_takeP 16 rfl (by decide +kernel) (.cons _ (.refl _)) ?_
    refine h_takeP 17 rfl (by decide +kernel) (.cons _ (.refl _)) ?_
    refine h_takeP 18 rfl (by decide +kernel) (.cons _ (.refl _)) ?_
    refine h_takeP 19 rfl (by decide +kernel) (.cons _ (.refl _)) ?_
    refine h_take 20 rfl (by decide +kernel) (.cons _ (.refl _)) ?_
    refine h_end (by decide +kernel) ?_
    repeat (first|refine g_op rfl ?_|refine g_then ?_|refine g_nil ?_|refine g_region ?_|refine g_opS rfl ?_|refine g_inBlock ?_|refine g_skip ?_|refine g_condF ?_|refine g_add rfl (by omega) (by omega) ?_)
    exact g_next (b + 1,m,ma,mc) ⟨hbn,by simp only; omega,hstay fun k=>hno k.2.1⟩ (by simp only; omega) (by repeat (first|exact trivial|refine ⟨rfl,?_⟩)) (.cons _ (.refl _))
   have hrb : Rch bl (-1) 0 b:=by simpa using hd2
   refine h_take 8 rfl (by decide +kernel) (.cons _ (.refl _)) ?_
   refine h_take 9 rfl (by decide +kernel) (.cons _ (.refl _)) ?_
   refine h_takeG 10 rfl (by decide +kernel) (.cons _ (.refl _)) ?_
   refine h_takeG 11 rfl (by decide +kernel) (.cons _ (.refl _)) ?_
   refine h_takeG 12 rfl (by decide +kernel) (.cons _ (.refl _)) ?_
   refine h_takeG 14 rfl (by decide +kernel) (.cons _ (.refl _)) ?_
   refine h_takeG 15 rfl (by decide +kernel) (.cons _ (.refl _)) ?_
   refine h_takeG 16 rfl (by decide +kernel) (.cons _ (.refl _)) ?_
   refine h_takeG 17 rfl (by decide +kernel) (.cons _ (.refl _)) ?_
   rw [show ko + i * 2 + 0 * 1 = ko + i * 2 from rfl]
   refine h_takeG 18 rfl (by decide +kernel) (.cons _ (.refl _)) ?_
   refine h_callEG 13 (val:=fun x : Option Addr × Nat × List Nat=>.slice x.1 x.2.2.length x.2.1) (E:=fun x=>[Ent.vec x.1 x.2.2.length x.2.1 3 1 (x.2.2.map intN)]) (φ:=fun x=>FromR bl g b x.2.2) rfl (by decide +kernel) (.cons _ (.refl _)) (fun w hw=>refFrom_c _ _ _ bl _ b g w (hbs.keep keeps_block hw.chg) hlen hok (by omega)) fun x hx2=>?_
   obtain ⟨ya,yc,fl⟩:=x
   simp only [List.cons_append,List.nil_append] at hx2 ⊢
   refine h_callVG 19 rfl (by decide +kernel) (.cons _ (.cons _ (.refl _))) (fun w hw=>has_c _ (fl.map fun x : Nat=>(x : Int)) t w (fromR_sl hw (k:=0) rfl hx2 hlen)) ?_
   rw [show decide ((t : Int) ∈ fl.map fun x : Nat=>(x : Int)) = decide (Rch bl g b t) by
    rw [decide_eq_decide,mem_ints,hx2.2.2]
    exact ⟨fun h=>h.2,fun h=>⟨by omega,h⟩⟩]
   generalize hd3 : decide (Rch bl g b t) = d3
   refine h_take 20 rfl (by decide +kernel) (.cons _ (.cons _ (.refl _))) ?_
   refine h_end (by decide +kernel) ?_
   repeat (refine g_then ?_)
   cases d3
   ·have hno : ¬ Rch bl g b t:=by simpa using hd3
    repeat (first|refine g_op rfl ?_|refine g_then ?_|refine g_nil ?_|refine g_region ?_|refine g_opS rfl ?_|refine g_inBlock ?_|refine g_skip ?_|refine g_condF ?_|refine g_add rfl (by omega) (by omega) ?_)
    exact g_next (b + 1,m,ma,mc) ⟨hbn,by simp only; omega,hstay fun k=>hno k.2.2⟩ (by simp only; omega) (by repeat (first|exact trivial|refine ⟨rfl,?_⟩)) (.cons _ (.cons _ (.refl _)))
   have hrt : Rch bl g b t:=by simpa using hd3
   repeat (first|refine g_op rfl ?_|refine g_region ?_|refine g_condT ?_|refine g_build1 rfl rfl fun _ _=>?_)
   rename_i bt2 _
   refine g_sel [0,3,4,5] (by decide) ?_
   refine g_append rfl rfl (by omega) (by omega) fun a2 c2=>?_
   refine g_eqH (H1:=[Ent.vec (some ⟨bt2,0,none⟩) 1 1 3 1 [.int .i64 b],Ent.vec a2 (m++[(b : Int)]).length c2 3 1 ((m++[(b : Int)]).map (.int .i64)),(⟨kp,fun w=>SlAt w (.slice (some ⟨kb,ko,none⟩) (backL bl).length kc) 2 (backL bl) PairV⟩ : Ent),Ent.box p2 [nm,pa,re,.slice ba n bc] 35]) (by simp) ?_
   repeat (first|refine g_op rfl ?_|refine g_then ?_|refine g_nil ?_|refine g_region ?_|refine g_opS rfl ?_|refine g_inBlock ?_|refine g_add rfl (by omega) (by omega) ?_)
   refine g_fix (L':=[(8,.int .i64 ((b : Int) + 1)),(6,.slice a2 (m++[(b : Int)]).length c2),(7,.int .i64 i),(5,.slice (some ⟨kb,ko,none⟩) (backL bl).length kc),(1,.int .i64 g),(2,.pointer (some ⟨p2,0,none⟩))]) (by rw [List.length_append]; exact (by repeat (first|exact trivial|refine ⟨rfl,?_⟩))) (.refl _) ?_
   refine g_next (b + 1,m++[(b : Int)],a2,c2) ⟨hbn,by simp only [List.length_append,List.length_singleton]; omega,fun y=>?_⟩ (by simp only; omega) (by repeat (first|exact trivial|refine ⟨rfl,?_⟩)) (.cons _ (.refl _))
   simp only [List.mem_append,List.mem_singleton]
   rw [hm]
   constructor
   ·rintro (⟨c,e,k|k|⟨k0,k⟩⟩|e)
    ·exact ⟨c,e,.inl k⟩
    ·exact ⟨c,e,.inr (.inl k)⟩
    ·exact ⟨c,e,.inr (.inr ⟨by omega,k⟩)⟩
    ·exact ⟨b,e,.inr (.inr ⟨by omega,hbg,hrb,hrt⟩)⟩
   ·rintro ⟨c,e,k|k|⟨k0,k⟩⟩
    ·exact .inl ⟨c,e,.inl k⟩
    ·exact .inl ⟨c,e,.inr (.inl k)⟩
    ·by_cases ec : c = b
     ·exact .inr (by rw [e,ec])
     ·exact .inl ⟨c,e,.inr (.inr ⟨by omega,k⟩)⟩
  ·have hge : b = bl.length:=by have:=h2; simp at this; omega
   repeat (first|refine g_op rfl ?_|refine g_then ?_|refine g_nil ?_|refine g_region ?_|refine g_opS rfl ?_|refine g_inBlock ?_|refine g_add rfl (by omega) (by omega) ?_|refine g_exit ?_|refine g_thenExit ?_|refine g_exitHere ?_)
   refine g_next (i + 1,m,ma,mc) ⟨hlt,by simp only; omega,fun y=>?_⟩ (by simp only; omega) (by repeat (first|exact trivial|refine ⟨rfl,?_⟩)) (.refl _)
   rw [hm,hge,loopTo_all hok hpos,htk,tailsOf_add]
   simp [hd]
 ·have hge : i = (backL bl).length:=by have:=h1; simp at this; omega
  have hi101 : i * 101 ≤ 10000 * 101:=Nat.mul_le_mul (by omega) (Nat.le_refl _)
  rw [hge,List.take_length] at hl
  have hs : (sortL l n).map (fun x : Nat=>(x : Int)) = loopAt bl (backL bl) h:=by
   unfold sortL loopAt
   rw [hn]
   congr 1
   refine List.filter_congr fun c _=>?_
   rw [decide_eq_decide,hl]
   exact ⟨fun ⟨d,e,k⟩=>(show c = d by omega) ▸ k,fun k=>⟨c,rfl,k⟩⟩
  have hsl : (loopAt bl (backL bl) h).length = (sortL l n).length:=by rw [← hs,List.length_map]
  repeat (first|refine g_op rfl ?_|refine g_then ?_|refine g_region ?_|refine g_seq ?_|refine g_exit ?_|refine g_thenExit ?_|refine g_exitHere ?_)
  refine g_callE (val:=fun x : Option Addr × Nat=>.slice x.1 (sortL l n).length x.2) (E:=fun x=>[Ent.vec x.1 (sortL l n).length x.2 3 1 ((sortL l n).map intN)]) (φ:=fun _=>True) rfl (fun w hw=>sorted_c _ ⟨_,_,_,rfl⟩ l n (by omega) w (hw.slAt (k:=0) rfl rfl (by omega) fun i x hx=>⟨[.int .i64 x],fun q v hq=>?_,rfl,?_⟩)) fun x _=>?_
  ·match q,hq with
   | 0,hq=>simpa [hx] using hq
  ·obtain ⟨c,rfl,hc⟩:=(hl x).1 (List.mem_of_getElem? hx)
   have:=hok.rch hpos (hc.rch fun s hs=>(tailsOf_mem.1 hs).2)
   simp only [inI]; omega
  obtain ⟨sa,sc⟩:=x
  simp only [List.cons_append,List.nil_append]
  repeat (first|refine g_op rfl ?_|refine g_then ?_|refine g_nil ?_|refine g_ret ?_)
  refine g_ret1 rfl fun w hw=>⟨(sa,sc),by rw [hsl],?_,trivial⟩
  rw [hsl,← hs,map_intN]
  exact hw.sel [0] (by decide)
end Go.Proofs.YtdbljcahlpkgdaaGreatDoor
namespace Go.Proofs.YtdbljcahlpkgdaaGreatDoor
open Go Go.RowKit
attribute [local irreducible] wpListIn Code.wpIn Exit.then Exit.inBlock bodyPost wpQuiet wpAnyIn wpAnyH bodyPostM
set_option maxHeartbeats 4000000
theorem rows_slA {S : Nat→Prop} {w0 w : World} {rs : List Row} {a : Option Addr} {c e : Nat} {H : List Ent} (h : Wd S w0 (Ent.vec a rs.length c e 1 (rs.map valR)::(rs.map entR++H)) w) (hb : rs.length ≤ 100000) (hl : ∀ r ∈ rs,r.l.length ≤ 1000∧∀ x ∈ r.l,inI x) : SlAt w (.slice a rs.length c) 1 (rs.map (·.l)) RowV:=by
 refine h.slAt (k:=0) rfl (by rw [List.length_map]) (by omega) fun i x hx=>?_
 rw [List.getElem?_map] at hx
 obtain ⟨r,hr,rfl⟩:=Option.map_eq_some_iff.1 hx
 refine ⟨[valR r],fun j v hj=>?_,_,rfl,row_sl (E:=[_]) (H:=H) h hr (hl r (List.mem_of_getElem? hr))⟩
 match j,hj with
 | 0,hj=>simpa [hr] using hj
theorem loopAt_bd {bl : List LBlock} (hlen : bl.length ≤ 100) (ps : List (Nat × Nat)) (h : Nat) : (loopAt bl ps h).length ≤ 100∧∀ x ∈ loopAt bl ps h,inI x:=by
 refine ⟨by have:=nodup_lenI (loopAt_nodup bl ps h) fun x hx=>loopAt_lt hx; omega,fun x hx=>?_⟩
 obtain ⟨c,rfl,hc⟩:=loopAt_lt hx
 simp only [inI]; omega
theorem refLoops_c (nm pa re : Value) (bl : List LBlock) (bs : Value) (hbsl : ∃ a n c,bs = .slice a n c) (w0 : World) (hbs : SlAt w0 bs 6 bl BlockV) (hlen : bl.length ≤ 100) (hok : GoodB bl) (hpos : 0 < bl.length) :
  Ret Tryz.prog 13 [.agg #[nm,pa,re,bs]] w0 fun u w'=>∃ x : Option Addr × Nat × List Row,u = .slice x.1 x.2.2.length x.2.1∧Wd NoS w0 (Ent.vec x.1 x.2.2.length x.2.1 38 1 (x.2.2.map valR)::x.2.2.map entR) w'∧x.2.2.map (·.l) = loopsL bl:=by
 classical
 obtain ⟨ba,n,bc,rfl⟩:=hbsl
 have hn : n = bl.length:=hbs.at.1
 refine ret_enter Tryz.func13 rfl Tryz.ntmps13 rfl (Wd.nil NoS w0) ?_
 repeat (first|refine g_op rfl ?_|refine g_then ?_|refine g_nil ?_|refine g_region ?_|refine g_seq ?_|refine g_box rfl fun _ _=>?_|refine g_block ?_)
 rename_i p1 _
 refine g_nilVec 38 1 ?_
 refine g_loop (fun (x : List Row × Option Addr × Nat)=>x.1.length ≤ n∧∀ i r,x.1[i]? = some r→r.l = loopAt bl (backL bl) i) (fun x=>[(4,.int .i64 x.1.length),(3,.slice x.2.1 x.1.length x.2.2),(1,.pointer (some ⟨p1,0,none⟩))])
  (fun x=>Ent.vec x.2.1 x.1.length x.2.2 38 1 (x.1.map valR)::Ent.box p1 [nm,pa,re,.slice ba n bc] 35::x.1.map entR) (fun x=>n - x.1.length) ([],none,0) ⟨Nat.zero_le _,by simp⟩ (g_done (by repeat (first|exact trivial|refine ⟨rfl,?_⟩)) (.refl _)) fun x ⟨hi,hrows⟩=>?_
 obtain ⟨rs,oa,oc⟩:=x
 simp only at hi hrows ⊢
 repeat (first|refine g_op rfl ?_|refine g_then ?_|refine g_nil ?_|refine g_region ?_|refine g_seq ?_)
 refine g_cond (fun h1=>?_) (fun h1=>?_)
 ·have hlt : rs.length < n:=by simpa using h1
  generalize hb : rs.length = b at *
  have hbd:=(loopAt_bd hlen (backL bl) b).1
  repeat (first|refine g_op rfl ?_|refine g_then ?_|refine g_region ?_|refine g_seq ?_|refine g_block ?_|refine g_skip ?_)
  refine g_callE (val:=fun x : Option Addr × Nat=>.slice x.1 (loopAt bl (backL bl) b).length x.2) (E:=fun x=>[Ent.vec x.1 (loopAt bl (backL bl) b).length x.2 3 1 ((loopAt bl (backL bl) b).map (.int .i64))]) (φ:=fun _=>True) rfl (fun w hw=>refLoop_c _ _ _ bl _ ⟨_,_,_,rfl⟩ b (by omega) w (hbs.keep keeps_block hw.chg) hlen hok hpos) fun x _=>?_
  obtain ⟨sa,sc⟩:=x
  simp only [List.cons_append,List.nil_append]
  repeat (refine g_build1 rfl rfl fun _ _=>?_)
  rename_i bt _
  refine g_append rfl rfl (by omega) (by omega) fun a' c'=>?_
  refine g_permH (H1:=Ent.vec (some ⟨bt,0,none⟩) 1 1 38 1 [.slice sa (loopAt bl (backL bl) b).length sc]::Ent.vec a' (b + 1) c' 38 1 (rs.map valR++[.slice sa (loopAt bl (backL bl) b).length sc])::Ent.box p1 [nm,pa,re,.slice ba n bc] 35::(rs.map entR++[Ent.vec sa (loopAt bl (backL bl) b).length sc 3 1 ((loopAt bl (backL bl) b).map (.int .i64))])) (List.Perm.cons _ (List.perm_append_comm (l₁:=[Ent.vec sa (loopAt bl (backL bl) b).length sc 3 1 ((loopAt bl (backL bl) b).map (.int .i64))]))) ?_
  refine g_eqH (H1:=Ent.vec (some ⟨bt,0,none⟩) 1 1 38 1 [.slice sa (loopAt bl (backL bl) b).length sc]::Ent.vec a' (rs++[(⟨sa,sc,loopAt bl (backL bl) b⟩ : Row)]).length c' 38 1 ((rs++[(⟨sa,sc,loopAt bl (backL bl) b⟩ : Row)]).map valR)::Ent.box p1 [nm,pa,re,.slice ba n bc] 35::(rs++[(⟨sa,sc,loopAt bl (backL bl) b⟩ : Row)]).map entR) (by simp [hb,valR,entR]) ?_
  repeat (first|refine g_op rfl ?_|refine g_then ?_|refine g_nil ?_|refine g_region ?_|refine g_opS rfl ?_|refine g_inBlock ?_|refine g_add rfl (by omega) (by omega) ?_)
  have hl1 : (rs++[(⟨sa,sc,loopAt bl (backL bl) b⟩ : Row)]).length = b + 1:=by simp [hb]
  refine g_fix (L':=[(4,.int .i64 ((rs++[(⟨sa,sc,loopAt bl (backL bl) b⟩ : Row)]).length : Nat)),(3,.slice a' (rs++[(⟨sa,sc,loopAt bl (backL bl) b⟩ : Row)]).length c'),(1,.pointer (some ⟨p1,0,none⟩))]) (by rw [hl1]; exact (by repeat (first|exact trivial|refine ⟨rfl,?_⟩))) (.refl _) ?_
  refine g_next (rs++[(⟨sa,sc,loopAt bl (backL bl) b⟩ : Row)],a',c') ⟨by rw [hl1]; omega,fun i r hr=>?_⟩ (by simp only [hl1,hb]; omega) (by repeat (first|exact trivial|refine ⟨rfl,?_⟩)) (.cons _ (.refl _))
  by_cases hib : i < b
  ·rw [List.getElem?_append_left (by omega)] at hr
   exact hrows i r hr
  ·have:=(List.getElem?_eq_some_iff.1 hr).1
   rw [hl1] at this
   have : i = b:=by omega
   subst this
   rw [List.getElem?_append_right (by omega),hb,Nat.sub_self] at hr
   simp only [List.getElem?_cons_zero,Option.some.injEq] at hr
   subst hr; rfl
 ·have hge : rs.length = n:=by have:=h1; simp at this; omega
  repeat (first|refine g_op rfl ?_|refine g_then ?_|refine g_nil ?_|refine g_region ?_|refine g_seq ?_|refine g_exit ?_|refine g_thenExit ?_|refine g_exitHere ?_|refine g_ret ?_)
  refine g_ret1 rfl fun w hw=>⟨(oa,oc,rs),rfl,hw.sub (.cons_cons _ (List.sublist_cons_self _ _)),?_⟩
  show rs.map (·.l) = loopsL bl
  apply List.ext_getElem?
  intro i
  by_cases hin : i < n
  ·rw [List.getElem?_map,List.getElem?_eq_getElem (by omega : i < rs.length),loopAt_all hok hpos (by omega),Option.map_some,hrows i _ (List.getElem?_eq_getElem (by omega))]
  ·rw [List.getElem?_map,List.getElem?_eq_none (by omega),List.getElem?_eq_none (by rw [loopsL_len]; omega)]
   rfl
theorem loopsL_bd {bl : List LBlock} (hlen : bl.length ≤ 100) {l : List Int} (h : l ∈ loopsL bl) : l.length ≤ 1000∧∀ x ∈ l,inI x:=gridL_bd hlen h
theorem refLoopsK (nm pa re : Value) (bl : List LBlock) (bs : Value) (hbsl : ∃ a n c,bs = .slice a n c) (w0 : World) (hbs : SlAt w0 bs 6 bl BlockV) (hlen : bl.length ≤ 100) (hok : GoodB bl) (hpos : 0 < bl.length) :
  RetK Tryz.prog 13 [.agg #[nm,pa,re,bs]] w0 1 (loopsL bl) RowV fun v=>v :=
 retK_of (refLoops_c nm pa re bl bs hbsl w0 hbs hlen hok hpos) fun x hx=>⟨x.1,x.2.1,by rw [← hx,List.length_map],fun w2 hw=>by
  rw [← hx,List.length_map]
  exact rows_slA (H:=[]) (by rw [List.append_nil]; exact hw) (by have:=congrArg List.length hx; rw [List.length_map,loopsL_len] at this; omega) fun r hr=>loopsL_bd hlen (hx ▸ List.mem_map.2 ⟨r,hr,rfl⟩)⟩
theorem allOfK (nm pa re : Value) (bl : List LBlock) (bs : Value) (hbsl : ∃ a n c,bs = .slice a n c) (w0 : World) (hbs : SlAt w0 bs 6 bl BlockV) (hlen : bl.length ≤ 100) (hok : GoodB bl) (hto : ∀ (b : Nat) (B : LBlock),bl[b]? = some B→B.to.Nodup) (hpos : 0 < bl.length) :
  RetK Tryz.prog 42 [.agg #[nm,pa,re,bs]] w0 1 (loopsL bl) RowV fun v=>v :=
 retK_of (loopsAllOf_c nm pa re bl bs hbsl w0 hbs hlen hok hto hpos) fun x hx=>⟨some ⟨x.1,0,none⟩,bl.length,by rw [loopsL_len],fun w2 hw=>by
  have hl : x.2.length = bl.length:=by have:=congrArg List.length hx; rwa [List.length_map,loopsL_len] at this
  rw [← hx,List.length_map]
  rw [← hl] at hw ⊢
  exact rows_slA (H:=[]) (by rw [List.append_nil]; exact hw) (by omega) fun r hr=>loopsL_bd hlen (hx ▸ List.mem_map.2 ⟨r,hr,rfl⟩)⟩
end Go.Proofs.YtdbljcahlpkgdaaGreatDoor
namespace Go.Proofs.YtdbljcahlpkgdaaGreatDoor
open Go Go.RowKit
attribute [local irreducible] wpListIn Code.wpIn Exit.then Exit.inBlock bodyPost wpQuiet wpAnyIn wpAnyH bodyPostM
set_option maxHeartbeats 8000000
theorem tabKnown {w : World} {S : Nat→Prop} {a : Option Addr} {n c : Nat} {T : List (List Int)} (h : SlAt w (.slice a n c) 1 T RowV) (hold : ∀ {b o : Nat} {v : Value} {l : List Value},CellsAt w b o (v::l)→OldIs S b) {i : Nat} {l : List Int} (hi : T[i]? = some l) :
  ∃ (b o : Nat) (ra : Option Addr) (rc : Nat),AddrIs a b o∧CellsIs w b (o + i * 1) [.slice ra l.length rc]∧OldIs S b∧SlAt w (.slice ra l.length rc) 1 l IntV:=by
 obtain ⟨_,_,_,b,o,ha,hel⟩:=h.at
 obtain ⟨_,hc,v,rfl,hv⟩:=hel i l hi
 have hv0:=hv
 obtain ⟨ra,rn,rc,_,_,rfl,hrn,_⟩:=hv0
 subst hrn
 exact ⟨b,o,ra,rc,⟨ha (ne_of_get hi)⟩,⟨hc⟩,hold hc,hv⟩
noncomputable def loopRow (bl : List LBlock) (h : Nat) : List Int:=((List.range bl.length).filter fun x=>(open Classical in decide (InLoop bl h x))).map fun x : Nat=>(x : Int)
theorem loopsL_get {bl : List LBlock} {h : Nat} (hh : h < bl.length) : (loopsL bl)[h]? = some (loopRow bl h):=by
 unfold loopsL gridL
 rw [List.getElem?_map,List.getElem?_range hh]; rfl
theorem loopRow_mem {bl : List LBlock} {h : Nat} {x : Nat} : (x : Int) ∈ loopRow bl h ↔ x < bl.length∧InLoop bl h x:=by
 classical
 unfold loopRow
 rw [mem_ints,List.mem_filter,List.mem_range]
 simp
theorem loopRow_lt {bl : List LBlock} {a : Nat} {x : Int} (hx : x ∈ loopRow bl a) : ∃ c : Nat,x = c∧c < bl.length∧Dom bl a c:=by
 classical
 have hx0:=hx
 unfold loopRow at hx0
 obtain ⟨z,hz,rfl⟩:=List.mem_map.1 hx0
 exact ⟨z,rfl,(loopRow_mem.1 hx).1,(loopRow_mem.1 hx).2.dom⟩
end Go.Proofs.YtdbljcahlpkgdaaGreatDoor

/- Texts joined: CheckD Ahead CheckC CheckE CheckF Check Ask. -/
import Derived.Test.YtdbljcahlpkgdaaDoorGB
namespace Go.Proofs.YtdbljcahlpkgdaaDoor
open Go Go.RowKit
attribute [local irreducible] wpListIn Code.wpIn Exit.then Exit.inBlock bodyPost wpQuiet wpAnyIn
set_option maxHeartbeats 2000000
def waysC : List Value:=[.int .i64 0,.int .i64 0,.int .i64 1,.int .i64 2]
theorem end_c (g fs nm pa ah : Value) (bn bc : Nat) (ba : Option Addr) (hbn : bn ≤ 100) (regs : Int) (hr : 0 ≤ regs∧regs ≤ 100) (kind : Int) (on : LVal) (to : List Int) (tv : Value) (w0 : World) (ht : SlAt w0 tv 1 to IntV) (hw : CellsAt w0 0 0 waysC) :
  RetV Tryd.prog 31 [.agg #[g,fs,nm,pa,.int .i64 regs,.slice ba bn bc,ah],.agg #[.int .i64 kind,.bool on.reg,.int .i64 on.n,tv]] w0 (.int .i64 (endE bn regs kind on to)):=by
 have ht0:=ht
 obtain ⟨ta,tn,tc,tb,to',rfl,htn,htnc,htnb,htc,hta,htel⟩:=ht
 refine ret_enter Tryd.func31 rfl Tryd.ntmps31 rfl (Wd.nil NoS w0) ?_
 repeat (first|refine g_op rfl ?_|refine g_then ?_|refine g_nil ?_|refine g_region ?_|refine g_seq ?_|refine g_box rfl fun _ _=>?_|refine g_block ?_)
 refine g_callV rfl (fun w _=>within_c _ _ _ w) ?_
 repeat (first|refine g_op rfl ?_|refine g_then ?_|refine g_nil ?_)
 refine g_cond (fun h1=>?_) (fun h1=>?_)
 ·repeat (first|refine g_then ?_|refine g_nil ?_|refine g_region ?_|refine g_seq ?_|refine g_opS rfl ?_|refine g_ret ?_|refine g_thenRet ?_|refine g_blockRet ?_)
  exact g_retV rfl (by simp only [endE,h1]; rfl)
 have hwk : within kind 1 3 = true:=by simpa using h1
 have hkr : 1 ≤ kind∧kind ≤ 3:=by simpa [within] using hwk
 obtain ⟨i,hi⟩ : ∃ i : Nat,kind = i:=⟨kind.toNat,by omega⟩
 have hni : NatIs kind i:=⟨hi⟩
 have hli : LtIs i 4:=⟨by omega⟩
 have hci : CellIs w0 0 (0 + i * 1) (.int .i64 (kind - 1)):=⟨by
  have : i = 1 ∨ i = 2 ∨ i = 3:=by omega
  rw [hi]
  rcases this with rfl|rfl|rfl
  ·exact hw 1 _ rfl
  ·exact hw 2 _ rfl
  ·exact hw 3 _ rfl⟩
 repeat (refine g_seq ?_)
 rename_i p2 _ p3 _
 refine g_draw mixed (by kernel_rfl) ?_
 repeat (first|refine q_op rfl ?_|refine q_nil ?_)
 repeat (refine g_then ?_)
 refine g_cond (fun h2=>?_) (fun h2=>?_)
 ·repeat (first|refine g_then ?_|refine g_nil ?_|refine g_region ?_|refine g_seq ?_|refine g_opS rfl ?_|refine g_ret ?_|refine g_thenRet ?_|refine g_blockRet ?_)
  refine g_retV rfl ?_
  have : (to.length : Int) ≠ kind - 1:=by rw [← htn]; simpa using h2
  simp only [endE,hwk,if_pos this]
  rfl
 have h2' : ¬ (to.length : Int) ≠ kind - 1:=by rw [← htn]; simpa using h2
 repeat (first|refine g_op rfl ?_|refine g_region ?_|refine g_seq ?_)
 refine g_callV rfl (fun w hw=>containsFI_c (f:=48) [.pointer (some ⟨p2,0,none⟩)] (fun t=>!within t 1 (bn - 1)) _ to w (ht0.keep keeps_int hw.chg) fun w1 hw1 x _=>endOne_c _ _ _ _ _ _ bn bc p2 ba hbn x w1 ((hw.boxCells p2).keep hw1)) ?_
 repeat (first|refine g_op rfl ?_|refine g_then ?_|refine g_nil ?_)
 refine g_cond (fun h3=>?_) (fun h3=>?_)
 ·repeat (first|refine g_then ?_|refine g_nil ?_|refine g_region ?_|refine g_seq ?_|refine g_opS rfl ?_|refine g_ret ?_|refine g_thenRet ?_|refine g_blockRet ?_)
  exact g_retV rfl (by simp only [endE,hwk,if_neg h2',h3]; rfl)
 repeat (refine g_seq ?_)
 refine g_draw mixed (by kernel_rfl) ?_
 repeat (refine q_op rfl ?_)
 have fin : ∀ (bq : Bool),bq = ((decide (kind = 3) && decide (to[0]?.getD 0 = to[1]?.getD 0)) || (decide (kind = 2) && !noVal on)) →
   endE bn regs kind on to = if bq then 5 else valErr regs on:=by
  intro bq hb
  subst hb
  simp only [endE,hwk,if_neg h2',h3]
  rfl
 generalize hk3 : decide (kind = 3) = k3
 cases k3
 ·repeat (first|refine q_op rfl ?_|refine q_open ?_|refine q_pass rfl ?_)
  generalize hk2 : decide (kind = 2) = k2
  cases k2
  ·repeat (first|refine q_op rfl ?_|refine q_open ?_|refine q_pass rfl ?_|refine q_nil ?_)
   repeat (first|refine g_op rfl ?_|refine g_then ?_|refine g_region ?_|refine g_seq ?_|refine g_inBlock ?_|refine g_skip ?_|refine g_condF ?_)
   refine g_callV rfl (fun w _=>val_c _ _ _ _ _ _ regs hr on w) ?_
   repeat (first|refine g_then ?_|refine g_nil ?_|refine g_opS rfl ?_|refine g_ret ?_)
   exact g_retV rfl (by rw [fin false (by simp [hk3,hk2])]; rfl)
  ·repeat (first|refine q_op rfl ?_|refine q_open ?_|refine q_nil ?_)
   repeat (refine g_then ?_)
   refine g_cond (fun h4=>?_) (fun h4=>?_)
   ·repeat (first|refine g_then ?_|refine g_nil ?_|refine g_region ?_|refine g_seq ?_|refine g_opS rfl ?_|refine g_ret ?_|refine g_thenRet ?_|refine g_blockRet ?_)
    exact g_retV rfl (by rw [fin true (by simp only [hk3,hk2,noVal]; simpa using h4.symm)]; rfl)
   ·repeat (first|refine g_op rfl ?_|refine g_then ?_|refine g_region ?_|refine g_seq ?_|refine g_inBlock ?_|refine g_skip ?_)
    refine g_callV rfl (fun w _=>val_c _ _ _ _ _ _ regs hr on w) ?_
    repeat (first|refine g_then ?_|refine g_nil ?_|refine g_opS rfl ?_|refine g_ret ?_)
    exact g_retV rfl (by rw [fin false (by simp only [hk3,hk2,noVal]; simpa using h4.symm)]; rfl)
 ·have hk3' : kind = 3:=by simpa using hk3
  have htl : tn = 2:=by have:=h2'; rw [← htn] at this; omega
  obtain ⟨x0,hx0⟩:=get_lt htn (show 0 < tn by omega)
  obtain ⟨x1,hx1⟩:=get_lt htn (show 1 < tn by omega)
  have had : AddrIs ta tb to':=⟨hta (ne_of_get hx0)⟩
  have hl0 : LtIs 0 tn:=⟨by omega⟩
  have hl1 : LtIs 1 tn:=⟨by omega⟩
  obtain ⟨cs0,hcs0,rfl,_⟩:=htel 0 x0 hx0
  obtain ⟨cs1,hcs1,rfl,_⟩:=htel 1 x1 hx1
  have hc0 : CellsIs w0 tb (to' + 0 * 1) _:=⟨hcs0⟩
  have hc1 : CellsIs w0 tb (to' + 1 * 1) _:=⟨hcs1⟩
  have hk2 : decide (kind = 2) = false:=by simp [hk3']
  repeat (first|refine q_op rfl ?_|refine q_open ?_)
  generalize hx : decide (x0 = x1) = xx
  have fin' : ∀ bq : Bool,xx = bq→endE bn regs kind on to = if bq then 5 else valErr regs on:=fun bq hb=>by
   refine fin bq ?_
   rw [hk3,hk2,hx0,hx1]
   simp [hx,hb]
  cases xx
  ·repeat (first|refine q_op rfl ?_|refine q_open ?_)
   generalize hk2g : decide (kind = 2) = k2
   obtain rfl : k2 = false:=by rw [← hk2g,hk2]
   repeat (first|refine q_op rfl ?_|refine q_open ?_|refine q_pass rfl ?_|refine q_nil ?_)
   repeat (first|refine g_op rfl ?_|refine g_then ?_|refine g_region ?_|refine g_seq ?_|refine g_inBlock ?_|refine g_skip ?_|refine g_condF ?_)
   refine g_callV rfl (fun w _=>val_c _ _ _ _ _ _ regs hr on w) ?_
   repeat (first|refine g_then ?_|refine g_nil ?_|refine g_opS rfl ?_|refine g_ret ?_)
   exact g_retV rfl (by rw [fin' false rfl]; rfl)
  ·repeat (first|refine q_op rfl ?_|refine q_pass rfl ?_|refine q_passU rfl ?_|refine q_nil ?_)
   repeat (first|refine g_then ?_|refine g_nil ?_|refine g_region ?_|refine g_seq ?_|refine g_opS rfl ?_|refine g_condT ?_|refine g_ret ?_|refine g_thenRet ?_|refine g_blockRet ?_)
   exact g_retV rfl (by rw [fin' true rfl]; rfl)
def RowV (w : World) (l : List Int) (cs : List Value) : Prop:=∃ v,cs = [v]∧SlAt w v 1 l IntV
theorem phi_c (g fs nm pa bs ah : Value) (regs : Int) (hr : 0 ≤ regs∧regs ≤ 100) (rows : List (List Int)) (row : List Int) (block : Nat) (hrow : rows[block]? = some row) (p : LPhi) (sv : Value) (w0 : World) (hah : SlAt w0 ah 1 rows RowV) (hs : SlAt w0 sv 2 p.src ValV) :
  RetV Tryd.prog 33 [.agg #[g,fs,nm,pa,.int .i64 regs,bs,ah],.int .i64 block,.agg #[.int .i64 p.dst,sv]] w0 (.int .i64 (phiE regs block row.length p)):=by
 obtain ⟨aa,an,ac,ab,ao,rfl,han,hanc,hanb,hac,haa,hael⟩:=hah
 obtain ⟨va,vn,vc,vb,vo,rfl,hvn,hvnc,hvnb,hvc,hva,hvel⟩:=hs
 obtain ⟨cs,hcs,rv,rfl,hrv⟩:=hael block row hrow
 obtain ⟨ra,rn,rc,rb,ro,rfl,hrn,_⟩:=hrv
 have hbl : block < rows.length:=(List.getElem?_eq_some_iff.1 hrow).1
 have had : AddrIs aa ab ao:=⟨haa (ne_of_get hrow)⟩
 have hli : LtIs block an:=⟨by omega⟩
 have hci : CellsIs w0 ab (ao + block * 1) _:=⟨hcs⟩
 refine ret_enter Tryd.func33 rfl Tryd.ntmps33 rfl (Wd.nil NoS w0) ?_
 repeat (first|refine g_op rfl ?_|refine g_then ?_|refine g_nil ?_|refine g_region ?_|refine g_seq ?_|refine g_box rfl fun _ _=>?_)
 refine g_cond (fun h1=>?_) (fun h1=>?_)
 ·repeat (first|refine g_then ?_|refine g_nil ?_|refine g_region ?_|refine g_seq ?_|refine g_opS rfl ?_|refine g_ret ?_|refine g_thenRet ?_)
  exact g_retV rfl (by rw [phiE,if_pos (by simpa using h1)])
 have h1' : ¬ (block : Int) = 0:=by simpa using h1
 repeat (first|refine g_op rfl ?_|refine g_then ?_|refine g_region ?_|refine g_seq ?_|refine g_skip ?_)
 refine g_callV rfl (fun w _=>dst_c _ _ _ _ _ _ regs hr _ w) ?_
 repeat (first|refine g_op rfl ?_|refine g_then ?_|refine g_nil ?_|refine g_region ?_|refine g_seq ?_)
 refine g_cond (fun h2=>?_) (fun h2=>?_)
 ·repeat (first|refine g_op rfl ?_|refine g_then ?_|refine g_nil ?_|refine g_region ?_|refine g_seq ?_|refine g_opS rfl ?_|refine g_ret ?_|refine g_thenRet ?_)
  exact g_retV rfl (by rw [phiE,if_neg h1',if_pos (by simpa using h2)])
 have h2' : ¬ (dstErr regs p.dst ≠ 0):=by simpa using h2
 repeat (first|refine g_then ?_|refine g_seq ?_|refine g_skip ?_)
 refine g_draw mixed (by kernel_rfl) ?_
 repeat (first|refine q_op rfl ?_|refine q_nil ?_)
 repeat (refine g_then ?_)
 refine g_cond (fun h3=>?_) (fun h3=>?_)
 ·repeat (first|refine g_then ?_|refine g_nil ?_|refine g_region ?_|refine g_seq ?_|refine g_opS rfl ?_|refine g_ret ?_|refine g_thenRet ?_)
  exact g_retV rfl (by rw [phiE,if_neg h1',if_neg h2',if_pos (by rw [← hrn,← hvn]; simpa using h3)])
 have hgoal : phiE regs block row.length p = (firstI (at0 p.src (valErr regs)) p.src.length).1:=by rw [phiE,if_neg h1',if_neg h2',if_neg (by rw [← hrn,← hvn]; simpa using h3)]
 rw [hgoal]
 repeat (first|refine g_op rfl ?_|refine g_then ?_|refine g_nil ?_|refine g_region ?_|refine g_seq ?_|refine g_block ?_|refine g_skip ?_)
 rename_i p3 _ p5 _
 refine g_loop (fun (i : Nat)=>i ≤ vn∧∀ j,j < i→at0 p.src (valErr regs) j = 0) (fun i=>[(33,.int .i64 i),(31,.slice va vn vc),(32,.int .i64 vn),(3,.pointer (some ⟨p3,0,none⟩))]) (fun _=>[Ent.box p3 [g,fs,nm,pa,.int .i64 regs,bs,.slice aa an ac] 56]) (fun i=>vn - i) 0 ⟨Nat.zero_le _,by simp⟩ (g_done (by repeat (first|exact trivial|refine ⟨rfl,?_⟩)) (by simp)) fun i ⟨hi,hall⟩=>?_
 repeat (first|refine g_op rfl ?_|refine g_then ?_|refine g_nil ?_|refine g_region ?_|refine g_seq ?_)
 refine g_cond (fun h1=>?_) (fun h1=>?_)
 ·have hlt : i < vn:=by simpa using h1
  obtain ⟨y,hy⟩:=get_lt hvn hlt
  have had : AddrIs va vb vo:=⟨hva (ne_of_get hy)⟩
  have hli : LtIs i vn:=⟨hlt⟩
  obtain ⟨cs,hcs,rfl,hyi⟩:=hvel i y hy
  have hci : CellsIs w0 vb (vo + i * 2) _:=⟨hcs⟩
  have hat : at0 p.src (valErr regs) i = valErr regs y:=by simp [at0,hy]
  repeat (first|refine g_op rfl ?_|refine g_then ?_|refine g_nil ?_|refine g_region ?_|refine g_seq ?_|refine g_alloc rfl fun _ _=>?_|refine g_storeAgg ?_|refine g_block ?_|refine g_skip ?_)
  refine g_callV rfl (fun w _=>val_c _ _ _ _ _ _ regs hr y w) ?_
  repeat (first|refine g_op rfl ?_|refine g_then ?_|refine g_nil ?_|refine g_region ?_|refine g_seq ?_)
  refine g_cond (fun h2=>?_) (fun h2=>?_)
  ·repeat (first|refine g_op rfl ?_|refine g_then ?_|refine g_nil ?_|refine g_region ?_|refine g_seq ?_|refine g_ret ?_|refine g_thenRet ?_|refine g_blockRet ?_)
   refine g_retV rfl ?_
   rw [firstI_hit hall (hvn ▸ hlt) (by rw [hat]; simpa using h2),hat]
  ·repeat (first|refine g_then ?_|refine g_nil ?_|refine g_region ?_|refine g_opS rfl ?_|refine g_inBlock ?_|refine g_skip ?_|refine g_add rfl (by omega) (by omega) ?_)
   refine g_next (i + 1) ⟨hlt,fun j hj=>?_⟩ (by omega) (by repeat (first|exact trivial|refine ⟨rfl,?_⟩)) (by simp)
   by_cases hji : j = i
   ·subst hji; rw [hat]; simpa using h2
   ·exact hall j (by omega)
 ·have hge : i = vn:=by have:=h1; simp at this; omega
  repeat (first|refine g_op rfl ?_|refine g_then ?_|refine g_nil ?_|refine g_region ?_|refine g_seq ?_|refine g_exit ?_|refine g_thenExit ?_|refine g_exitHere ?_|refine g_ret ?_)
  exact g_retV rfl (by rw [← hvn,← hge,firstI_none hall])
theorem Wd.pack {S : Nat→Prop} {w0 w : World} {E H : List Ent} (h : Wd S w0 (E++H) w) (F : World→Prop) (hF : ∀ w2,Wd (fps E) w2 E w2→F w2) : Wd S w0 (⟨fps E,F⟩::H) w:=by
 have hap:=List.pairwise_append.1 h.apart
 refine ⟨h.chg,?_,?_,?_⟩
 ·intro e he b hb
  rcases List.mem_cons.1 he with rfl|he
  ·obtain ⟨x,hx,hxb⟩:=hb
   exact h.own x (List.mem_append_left _ hx) b hxb
  ·exact h.own e (List.mem_append_right _ he) b hb
 ·intro e he w2 hs2 hw2
  rcases List.mem_cons.1 he with rfl|he
  ·refine hF w2 ⟨Chg.refl _ _,fun x hx b hb=>⟨.inl ⟨x,hx,hb⟩,?_⟩,fun x hx w3 hs3 hw3=>?_,hap.1⟩
   ·by_cases hlt : b < w2.heap.size
    ·exact hlt
    ·have h1:=hw2 b ⟨x,hx,hb⟩
     rw [Array.getElem?_eq_none (by omega)] at h1
     have h2:=(h.own x (List.mem_append_left _ hx) b hb).2
     rw [Array.getElem?_eq_getElem h2] at h1
     cases h1
   ·exact h.ok x (List.mem_append_left _ hx) w3 (Nat.le_trans hs2 hs3) fun b hb=>(hw3 b hb).trans (hw2 b ⟨x,hx,hb⟩)
  ·exact h.ok e (List.mem_append_right _ he) w2 hs2 hw2
 ·refine List.pairwise_cons.2 ⟨fun f hf b ⟨x,hx,hxb⟩ hfb=>hap.2.2 x hx f hf b hxb hfb,hap.2.1⟩
structure Row where
 a : Option Addr
 c : Nat
 l : List Int
def valR (r : Row) : Value:=.slice r.a r.l.length r.c
def entR (r : Row) : Ent:=Ent.vec r.a r.l.length r.c 3 1 (r.l.map (.int .i64))
theorem map_set_modify {α β : Type} {f : α→β} {g : β→β} {l : List α} {k : Nat} {r r' : α} (h : l[k]? = some r) (hr : f r' = g (f r)) : (l.set k r').map f = (l.map f).modify k g:=by
 apply List.ext_getElem?
 intro i
 rw [List.getElem?_map,List.getElem?_set,List.getElem?_modify,List.getElem?_map]
 by_cases hi : k = i
 ·subst hi
  have hlt : k < l.length:=(List.getElem?_eq_some_iff.1 h).1
  have h2:=(List.getElem?_eq_some_iff.1 h).2
  simp [hlt,hr,h2]
 ·simp [hi]
theorem rows_sl {S : Nat→Prop} {w0 w : World} {rs : List Row} {bo n e : Nat} {H : List Ent} (h : Wd S w0 (Ent.vec (some ⟨bo,0,none⟩) n n e 1 (rs.map valR)::(rs.map entR++H)) w) (hn : n = rs.length) (hb : n ≤ 100) (hl : ∀ r ∈ rs,r.l.length ≤ 1000∧∀ x ∈ r.l,inI x) :
  SlAt w (.slice (some ⟨bo,0,none⟩) n n) 1 (rs.map (·.l)) RowV:=by
 refine h.slAt (k:=0) rfl (by simpa using hn) (by omega) fun i x hx=>?_
 rw [List.getElem?_map] at hx
 obtain ⟨r,hr,rfl⟩:=Option.map_eq_some_iff.1 hx
 have hlt : i < rs.length:=(List.getElem?_eq_some_iff.1 hr).1
 have hb':=hl r (List.mem_of_getElem? hr)
 refine ⟨[valR r],fun j v hj=>?_,valR r,rfl,?_⟩
 ·match j,hj with
  | 0,hj=>simpa [hr] using hj
 ·refine h.slAt (k:=i + 1) (a:=r.a) (n:=r.l.length) (c:=r.c) (e:=3) (s:=1) (xs:=r.l.map (.int .i64)) ?_ rfl (by omega) fun j y hy=>⟨[.int .i64 y],fun k v hk=>?_,rfl,hb'.2 y (List.mem_of_getElem? hy)⟩
  ·rw [List.getElem?_cons_succ,List.getElem?_append_left (by simpa using hlt),List.getElem?_map,hr]; rfl
  ·match k,hk with
   | 0,hk=>simpa [hy] using hk
def toOk (n : Nat) (l : List Int) : Prop:=l.length ≤ 2∧∀ t ∈ l,0 ≤ t∧t < n
theorem ahead_c (nm pa re : Value) (bl : List LBlock) (bs : Value) (w0 : World) (hbs : SlAt w0 bs 6 bl BlockV) (hlen : bl.length ≤ 100) (hok : ∀ b ∈ bl,toOk bl.length b.to) :
  Ret Tryd.prog 32 [.agg #[nm,pa,re,bs]] w0 fun u w'=>∃ x : (Option Addr × Nat × Nat) × (Nat→Prop),u = .slice x.1.1 x.1.2.1 x.1.2.2∧Wd NoS w0 [⟨x.2,fun w=>SlAt w (.slice x.1.1 x.1.2.1 x.1.2.2) 1 (aheadL bl) RowV⟩] w'∧True:=by
 obtain ⟨ba,n,bc,bb,bo',rfl,hn,hnc,hnb,hbc,hba,hel⟩:=hbs
 refine ret_enter Tryd.func32 rfl Tryd.ntmps32 rfl (Wd.nil NoS w0) ?_
 repeat (first|refine g_op rfl ?_|refine g_then ?_|refine g_nil ?_|refine g_region ?_|refine g_seq ?_|refine g_box rfl fun _ _=>?_|refine g_block ?_|refine g_make rfl (by omega) (by omega) fun _ _=>?_)
 rename_i b1 _ bo _
 refine g_nilVecs 3 1 n ?_
 rw [show (List.replicate n (Value.slice none 0 0)) = (List.replicate n (⟨none,0,[]⟩ : Row)).map valR by simp [valR],show (List.replicate n (Ent.vec none 0 0 3 1 [])) = (List.replicate n (⟨none,0,[]⟩ : Row)).map entR by simp [entR]]
 refine g_loop (fun (x : Nat × List Row)=>x.1 ≤ n∧x.2.map (·.l) = aheadTo bl x.1∧x.2.length = n∧∀ r ∈ x.2,r.l.length ≤ 2 * x.1∧∀ y ∈ r.l,inI y) (fun x=>[(15,.int .i64 x.1),(13,.slice ba n bc),(14,.int .i64 n),(3,.slice (some ⟨bo,0,none⟩) n n)]) (fun x=>Ent.vec (some ⟨bo,0,none⟩) n n 43 1 (x.2.map valR)::x.2.map entR) (fun x=>n - x.1) (0,List.replicate n ⟨none,0,[]⟩)
  ⟨Nat.zero_le _,by simp [aheadTo,hn],by simp,by simp⟩ (g_done (by repeat (first|exact trivial|refine ⟨rfl,?_⟩)) (.cons_cons _ (.cons _ (.refl _)))) fun x ⟨hi,hrows,hrl,hbd⟩=>?_
 obtain ⟨i,rs⟩:=x
 simp only at hi hrows hrl hbd ⊢
 repeat (first|refine g_op rfl ?_|refine g_then ?_|refine g_nil ?_|refine g_region ?_|refine g_seq ?_)
 refine g_cond (fun h1=>?_) (fun h1=>?_)
 ·have hlt : i < n:=by simpa using h1
  obtain ⟨B,hB⟩:=get_lt hn hlt
  have had : AddrIs ba bb bo':=⟨hba (ne_of_get hB)⟩
  have hli : LtIs i n:=⟨hlt⟩
  obtain ⟨cs,hcs,pv,lv,tv,rfl,_,_,hphis,hlist,ht⟩:=hel i B hB
  obtain ⟨pa',pn,pc,_,_,rfl,_⟩:=hphis
  obtain ⟨la,ln,lc,_,_,rfl,_⟩:=hlist
  obtain ⟨ta,tn,tc,tb,to',rfl,htn,htnc,htnb,htc,hta,htel⟩:=ht
  have hci : CellsIs w0 bb (bo' + i * 6) _:=⟨hcs⟩
  have htok:=hok B (List.mem_of_getElem? hB)
  repeat (first|refine g_op rfl ?_|refine g_then ?_|refine g_nil ?_|refine g_region ?_|refine g_seq ?_|refine g_alloc rfl fun _ _=>?_|refine g_storeAgg ?_|refine g_block ?_|refine g_skip ?_)
  refine g_loop (fun (x : Nat × List Row)=>x.1 ≤ tn∧x.2.map (·.l) = (B.to.take x.1).foldl (aheadIn i) (aheadTo bl i)∧x.2.length = n∧∀ r ∈ x.2,r.l.length ≤ 2 * i + x.1∧∀ y ∈ r.l,inI y) (fun x=>[(24,.int .i64 x.1),(22,.slice ta tn tc),(23,.int .i64 tn),(4,.int .i64 i),(15,.int .i64 i),(13,.slice ba n bc),(14,.int .i64 n),(3,.slice (some ⟨bo,0,none⟩) n n)])
   (fun x=>Ent.vec (some ⟨bo,0,none⟩) n n 43 1 (x.2.map valR)::x.2.map entR) (fun x=>tn - x.1) (0,rs)
   ⟨Nat.zero_le _,by simpa using hrows,hrl,fun r hr=>by simpa using hbd r hr⟩ (g_done (by repeat (first|exact trivial|refine ⟨rfl,?_⟩)) (.cons _ (.refl _))) fun x ⟨hj,hrows',hrl',hbd'⟩=>?_
  obtain ⟨j,rs'⟩:=x
  simp only at hj hrows' hrl' hbd' ⊢
  repeat (first|refine g_op rfl ?_|refine g_then ?_|refine g_nil ?_|refine g_region ?_|refine g_seq ?_)
  refine g_cond (fun h2=>?_) (fun h2=>?_)
  ·have hjlt : j < tn:=by simpa using h2
   obtain ⟨t,htj⟩:=get_lt htn hjlt
   have htt:=htok.2 t (List.mem_of_getElem? htj)
   obtain ⟨k,hk⟩ : ∃ k : Nat,t = k:=⟨t.toNat,by omega⟩
   have hkn : k < n:=by omega
   have hkl : k < rs'.length:=by omega
   obtain ⟨r,hr⟩ : ∃ r,rs'[k]? = some r:=⟨_,List.getElem?_eq_getElem hkl⟩
   have had2 : AddrIs ta tb to':=⟨hta (ne_of_get htj)⟩
   have hli2 : LtIs j tn:=⟨hjlt⟩
   have hli3 : LtIs k n:=⟨hkn⟩
   have hni : NatIs t k:=⟨hk⟩
   obtain ⟨cs2,hcs2,rfl,_⟩:=htel j t htj
   have hci2 : CellsIs w0 tb (to' + j * 1) _:=⟨hcs2⟩
   have hxa : XAt (rs'.map valR) (k * 1) (.slice r.a r.l.length r.c):=⟨by simp [hr,valR]⟩
   have hrb:=hbd' r (List.mem_of_getElem? hr)
   repeat (first|refine g_op rfl ?_|refine g_then ?_|refine g_nil ?_|refine g_region ?_|refine g_seq ?_|refine g_block ?_|refine g_skip ?_|refine g_build1 rfl rfl fun _ _=>?_)
   rename_i bt _
   have htok1:=htok.1
   refine g_appendAt (k + 2) (xs:=r.l.map (.int .i64)) (e:=3) (by simp [hr,entR]) rfl rfl (by omega) (by omega) fun a' c'=>?_
   refine g_eqH (H1:=Ent.vec (some ⟨bt,0,none⟩) 1 1 3 1 [.int .i64 i]::Ent.vec (some ⟨bo,0,none⟩) n n 43 1 (rs'.map valR)::(rs'.set k ⟨a',c',r.l++[(i : Int)]⟩).map entR) (by simp [entR,List.map_set]) ?_
   have hxs : XSet (rs'.map valR) (k * 1) (.slice a' (r.l.length + 1) c') ((rs'.set k ⟨a',c',r.l++[(i : Int)]⟩).map valR):=⟨by simp [valR,List.map_set],by simpa using hkl⟩
   repeat (first|refine g_op rfl ?_|refine g_then ?_|refine g_nil ?_|refine g_region ?_|refine g_opS rfl ?_|refine g_inBlock ?_|refine g_add rfl (by omega) (by omega) ?_|refine g_storeV ?_)
   refine g_next (j + 1,rs'.set k ⟨a',c',r.l++[(i : Int)]⟩) ⟨hjlt,?_,by simpa using hrl',?_⟩ (by simp only; omega) (by repeat (first|exact trivial|refine ⟨rfl,?_⟩)) (.cons _ (.refl _))
   ·simp only
    rw [List.take_add_one,htj]
    simp only [Option.toList_some,List.foldl_append,List.foldl_cons,List.foldl_nil]
    rw [← hrows',aheadIn,show t.toNat = k by omega]
    exact map_set_modify hr rfl
   ·intro q hq
    rcases List.mem_or_eq_of_mem_set hq with hq|rfl
    ·have:=hbd' q hq
     exact ⟨by simp only; omega,this.2⟩
    ·refine ⟨by simp only [List.length_append,List.length_singleton]; omega,fun y hy=>?_⟩
     rcases List.mem_append.1 hy with hy|hy
     ·exact hrb.2 y hy
     ·simp only [List.mem_singleton] at hy
      subst hy
      simp only [inI]; omega
  ·have hge : j = tn:=by have:=h2; simp at this; omega
   repeat (first|refine g_then ?_|refine g_nil ?_|refine g_region ?_|refine g_opS rfl ?_|refine g_inBlock ?_|refine g_add rfl (by omega) (by omega) ?_|refine g_exit ?_|refine g_thenExit ?_|refine g_exitHere ?_)
   refine g_next (i + 1,rs') ⟨hlt,?_,hrl',fun r hr=>?_⟩ (by simp only; omega) (by repeat (first|exact trivial|refine ⟨rfl,?_⟩)) (.refl _)
   ·simp only [aheadTo,hB]
    rw [hrows',hge,htn,List.take_length]
   ·have:=hbd' r hr
    have htok1:=htok.1
    exact ⟨by simp only; omega,this.2⟩
 ·have hge : i = n:=by have:=h1; simp at this; omega
  repeat (first|refine g_op rfl ?_|refine g_then ?_|refine g_nil ?_|refine g_region ?_|refine g_seq ?_|refine g_exit ?_|refine g_thenExit ?_|refine g_exitHere ?_|refine g_ret ?_)
  refine g_ret1 rfl fun w hw=>⟨((some ⟨bo,0,none⟩,n,n),fps (Ent.vec (some ⟨bo,0,none⟩) n n 43 1 (rs.map valR)::rs.map entR)),rfl,?_,trivial⟩
  have hw' : Wd NoS w0 ((Ent.vec (some ⟨bo,0,none⟩) n n 43 1 (rs.map valR)::rs.map entR)++[]) w:=by rw [List.append_nil]; exact hw
  refine hw'.pack _ fun w2 hw2=>?_
  have:=rows_sl (H:=[]) (by rw [List.append_nil]; exact hw2) hrl.symm (by omega) fun r hr=>⟨by have:=(hbd r hr).1; omega,(hbd r hr).2⟩
  rw [hrows,hge,hn] at this
  exact hn ▸ this
theorem ins_c (g fs nm pa bs ah : Value) (fl : List LFunc) (hfs : fl.length ≤ 100) (regs : Int) (hr : 0 ≤ regs∧regs ≤ 100) (x : LIns) (hfn : inI x.fn) (xv : Value) (w0 : World) (hf : SlAt w0 fs 4 fl FuncV) (hv : SlAt w0 xv 2 x.args ValV) :
  RetV Tryd.prog 34 [.agg #[g,fs,nm,pa,.int .i64 regs,bs,ah],.agg #[.int .i64 x.op,.int .i64 x.dst,.bool x.a.reg,.int .i64 x.a.n,.bool x.b.reg,.int .i64 x.b.n,.int .i64 x.fn,xv]] w0 (.int .i64 (insErr fl regs x)):=by
 have hv0:=hv
 obtain ⟨va,vn,vc,vb,vo,rfl,hvn,hvnc,hvnb,hvc,hva,hvel⟩:=hv
 refine ret_enter Tryd.func34 rfl Tryd.ntmps34 rfl (Wd.nil NoS w0) ?_
 repeat (first|refine g_op rfl ?_|refine g_then ?_|refine g_nil ?_|refine g_region ?_|refine g_seq ?_|refine g_box rfl fun _ _=>?_)
 refine g_callV rfl (fun w _=>within_c _ _ _ w) ?_
 repeat (first|refine g_op rfl ?_|refine g_then ?_|refine g_nil ?_)
 refine g_cond (fun h1=>?_) (fun h1=>?_)
 ·repeat (first|refine g_then ?_|refine g_nil ?_|refine g_region ?_|refine g_seq ?_|refine g_opS rfl ?_|refine g_ret ?_|refine g_thenRet ?_)
  exact g_retV rfl (by simp at h1; simp [insErr,h1])
 have hw1 : within x.op 1 22 = true:=by simpa using h1
 repeat (first|refine g_op rfl ?_|refine g_then ?_|refine g_region ?_|refine g_seq ?_|refine g_skip ?_)
 refine g_callV rfl (fun w _=>shapes_c _ w) ?_
 generalize hsd : (shape x.op).1 = sd
 generalize hsa : (shape x.op).2.1 = sa
 generalize hsb : (shape x.op).2.2 = sb
 generalize h20 : decide (x.op = 20) = c
 repeat (first|refine g_op rfl ?_|refine g_then ?_|refine g_nil ?_|refine g_region ?_|refine g_seq ?_|refine g_store ?_|refine g_alloc rfl fun _ _=>?_|refine g_storeAgg ?_)
 rw [h20]
 rename_i p2 _ p3 _ p5 _ p6 _
 generalize hns : (!sd) = nsd
 refine g_joinTo 25 (.bool (nsd && !decide (x.dst = -1))) ?_ ?_
 ·cases nsd
  ·repeat (first|refine g_op rfl ?_|refine g_then ?_|refine g_nil ?_|refine g_pass rfl ?_)
   exact g_done (by repeat (first|exact trivial|refine ⟨rfl,?_⟩)) (by simp)
  ·repeat (first|refine g_op rfl ?_|refine g_then ?_|refine g_nil ?_|refine g_open ?_)
   exact g_done (by repeat (first|exact trivial|refine ⟨rfl,?_⟩)) (by simp)
 generalize e1 : (nsd && !decide (x.dst = -1)) = b1
 repeat (refine g_op rfl ?_)
 refine g_joinTo 36 (.bool (b1 || (!sa && !noVal x.a))) ?_ ?_
 ·cases b1
  ·repeat (first|refine g_op rfl ?_|refine g_open ?_)
   generalize (!sa) = na
   cases na
   ·repeat (first|refine g_op rfl ?_|refine g_then ?_|refine g_nil ?_|refine g_open ?_|refine g_pass rfl ?_)
    exact g_done (by repeat (first|exact trivial|refine ⟨rfl,?_⟩)) (by simp)
   ·repeat (first|refine g_op rfl ?_|refine g_then ?_|refine g_nil ?_|refine g_open ?_)
    exact g_done (by repeat (first|exact trivial|refine ⟨rfl,?_⟩)) (by simp)
  ·repeat (first|refine g_op rfl ?_|refine g_then ?_|refine g_nil ?_|refine g_pass rfl ?_|refine g_passU rfl ?_)
   exact g_done (by repeat (first|exact trivial|refine ⟨rfl,?_⟩)) (by simp)
 generalize e2 : (b1 || (!sa && !noVal x.a)) = b2
 repeat (refine g_op rfl ?_)
 refine g_joinTo 47 (.bool (b2 || (!sb && !noVal x.b))) ?_ ?_
 ·cases b2
  ·repeat (first|refine g_op rfl ?_|refine g_open ?_)
   generalize (!sb) = nb
   cases nb
   ·repeat (first|refine g_op rfl ?_|refine g_then ?_|refine g_nil ?_|refine g_open ?_|refine g_pass rfl ?_)
    exact g_done (by repeat (first|exact trivial|refine ⟨rfl,?_⟩)) (by simp)
   ·repeat (first|refine g_op rfl ?_|refine g_then ?_|refine g_nil ?_|refine g_open ?_)
    exact g_done (by repeat (first|exact trivial|refine ⟨rfl,?_⟩)) (by simp)
  ·repeat (first|refine g_op rfl ?_|refine g_then ?_|refine g_nil ?_|refine g_pass rfl ?_|refine g_passU rfl ?_)
   exact g_done (by repeat (first|exact trivial|refine ⟨rfl,?_⟩)) (by simp)
 generalize e3 : (b2 || (!sb && !noVal x.b)) = b3
 repeat (refine g_op rfl ?_)
 refine g_joinTo 62 (.bool (b3 || (!c && (!decide (x.fn = 0) || decide (0 < (vn : Int)))))) ?_ ?_
 ·cases b3
  ·repeat (first|refine g_op rfl ?_|refine g_open ?_)
   generalize (!c) = nc
   cases nc
   ·repeat (first|refine g_op rfl ?_|refine g_then ?_|refine g_nil ?_|refine g_open ?_|refine g_pass rfl ?_|refine g_passU rfl ?_)
    exact g_done (by repeat (first|exact trivial|refine ⟨rfl,?_⟩)) (by simp)
   ·repeat (first|refine g_op rfl ?_|refine g_open ?_)
    generalize e4 : (!decide (x.fn = 0)) = b4
    cases b4
    ·repeat (first|refine g_op rfl ?_|refine g_then ?_|refine g_nil ?_|refine g_open ?_)
     exact g_done (by repeat (first|exact trivial|refine ⟨rfl,?_⟩)) (by simp)
    ·repeat (first|refine g_op rfl ?_|refine g_then ?_|refine g_nil ?_|refine g_open ?_|refine g_pass rfl ?_)
     exact g_done (by repeat (first|exact trivial|refine ⟨rfl,?_⟩)) (by simp)
  ·repeat (first|refine g_op rfl ?_|refine g_then ?_|refine g_nil ?_|refine g_pass rfl ?_|refine g_passU rfl ?_)
   exact g_done (by repeat (first|exact trivial|refine ⟨rfl,?_⟩)) (by simp)
 have hst : strayB x = (b3 || (!c && (!decide (x.fn = 0) || decide (0 < (vn : Int))))):=by
  subst e3 e2 e1 hns
  simp only [strayB,hsd,hsa,hsb,h20,hvn]
 rw [← hst]
 repeat (first|refine g_then ?_|refine g_nil ?_)
 refine g_cond (fun h2=>?_) (fun h2=>?_)
 ·repeat (first|refine g_then ?_|refine g_nil ?_|refine g_region ?_|refine g_seq ?_|refine g_opS rfl ?_|refine g_ret ?_|refine g_thenRet ?_)
  exact g_retV rfl (by simp only [insErr,hw1,h2]; rfl)
 repeat (first|refine g_op rfl ?_|refine g_then ?_|refine g_region ?_|refine g_seq ?_|refine g_skip ?_)
 refine g_joinTo 73 (.bool (sd && !(c && decide (x.dst = -1)))) ?_ ?_
 ·cases sd
  ·repeat (first|refine g_op rfl ?_|refine g_then ?_|refine g_nil ?_|refine g_pass rfl ?_|refine g_passU rfl ?_)
   exact g_done (by repeat (first|exact trivial|refine ⟨rfl,?_⟩)) (by simp)
  ·repeat (first|refine g_op rfl ?_|refine g_open ?_)
   cases c
   ·repeat (first|refine g_op rfl ?_|refine g_then ?_|refine g_nil ?_|refine g_open ?_|refine g_pass rfl ?_)
    exact g_done (by repeat (first|exact trivial|refine ⟨rfl,?_⟩)) (by simp)
   ·repeat (first|refine g_op rfl ?_|refine g_then ?_|refine g_nil ?_|refine g_open ?_)
    exact g_done (by repeat (first|exact trivial|refine ⟨rfl,?_⟩)) (by simp)
 have rest : ((sd && !(c && decide (x.dst = -1))) && !decide (dstErr regs x.dst = 0)) = false→insErr fl regs x = (firstI (at0 [⟨53,[.pointer (some ⟨p2,0,none⟩),.pointer (some ⟨p3,0,none⟩)],valErr regs x.a⟩,⟨54,[.pointer (some ⟨p2,0,none⟩),.pointer (some ⟨p3,0,none⟩)],valErr regs x.b⟩,⟨55,[.pointer (some ⟨p6,0,none⟩),.pointer (some ⟨p3,0,none⟩),.pointer (some ⟨p2,0,none⟩)],callErr fl regs x⟩] (fun y : Clos=>y.err)) 3).1:=by
  intro h
  simp only [insErr,hw1,h2,hsd,h20,h,Bool.not_true]
  have e : ∀ a b c : Int,(firstI (fun i=>([a,b,c] : List Int)[i]?.getD 0) 3).1 = if a ≠ 0 then a else if b ≠ 0 then b else c:=by
   intro a b c
   by_cases ha : a = 0
   ·by_cases hb : b = 0
    ·by_cases hc : c = 0
     ·rw [firstI_none (fun j hj=>by match j,hj with|0,_=>exact ha|1,_=>exact hb|2,_=>exact hc)]
      simp [ha,hb,hc]
     ·rw [firstI_hit (i:=2) (fun j hj=>by match j,hj with|0,_=>exact ha|1,_=>exact hb) (by omega) hc]
      simp [ha,hb]
    ·rw [firstI_hit (i:=1) (fun j hj=>by match j,hj with|0,_=>exact ha) (by omega) hb]
     simp [ha,hb]
   ·rw [firstI_hit (i:=0) (fun j hj=>by omega) (by omega) ha]
    simp [ha]
  have e2 : (at0 [(⟨53,[.pointer (some ⟨p2,0,none⟩),.pointer (some ⟨p3,0,none⟩)],valErr regs x.a⟩ : Clos),⟨54,[.pointer (some ⟨p2,0,none⟩),.pointer (some ⟨p3,0,none⟩)],valErr regs x.b⟩,⟨55,[.pointer (some ⟨p6,0,none⟩),.pointer (some ⟨p3,0,none⟩),.pointer (some ⟨p2,0,none⟩)],callErr fl regs x⟩] (fun y : Clos=>y.err)) = fun i=>([valErr regs x.a,valErr regs x.b,callErr fl regs x] : List Int)[i]?.getD 0:=by
   funext i
   match i with
   | 0=>rfl
   | 1=>rfl
   | 2=>rfl
   | i + 3=>rfl
  rw [e2,e]
  rfl
 have tail : ((sd && !(c && decide (x.dst = -1))) && !decide (dstErr regs x.dst = 0)) = false→∀ w,Wd NoS w0 [Ent.box p6 [.bool c] 4,Ent.box p5 [.bool sd,.bool sa,.bool sb] 106,Ent.box p3 [.int .i64 x.op,.int .i64 x.dst,.bool x.a.reg,.int .i64 x.a.n,.bool x.b.reg,.int .i64 x.b.n,.int .i64 x.fn,.slice va vn vc] 40,Ent.box p2 [g,fs,nm,pa,.int .i64 regs,bs,ah] 56] w →
   ∀ v,SlAt w v 1 [(⟨53,[.pointer (some ⟨p2,0,none⟩),.pointer (some ⟨p3,0,none⟩)],valErr regs x.a⟩ : Clos),⟨54,[.pointer (some ⟨p2,0,none⟩),.pointer (some ⟨p3,0,none⟩)],valErr regs x.b⟩,⟨55,[.pointer (some ⟨p6,0,none⟩),.pointer (some ⟨p3,0,none⟩),.pointer (some ⟨p2,0,none⟩)],callErr fl regs x⟩] ClosV→RetV Tryd.prog 52 [v] w (.int .i64 (insErr fl regs x)):=by
  intro h w hw v hsl
  rw [rest h]
  refine first_c v _ w hsl ?_ ?_
  ·intro y hy
   simp only [List.mem_cons,List.not_mem_nil,or_false] at hy
   rcases hy with rfl|rfl|rfl <;> exact inferInstance
  ·intro y hy w1 hw1
   simp only [List.mem_cons,List.not_mem_nil,or_false] at hy
   rcases hy with rfl|rfl|rfl
   ·exact insOne_c _ _ _ _ _ _ regs hr x _ p2 p3 w1 ((hw.boxCells p2).keep hw1) ((hw.boxCells p3).keep hw1)
   ·exact insTwo_c _ _ _ _ _ _ regs hr x _ p2 p3 w1 ((hw.boxCells p2).keep hw1) ((hw.boxCells p3).keep hw1)
   ·exact insThree_c _ _ _ _ _ _ fl hfs regs hr x hfn _ p2 p3 p6 w1 ((hw.boxCells p2).keep hw1) ((hw.boxCells p3).keep hw1) (by rw [h20]; exact (hw.boxCells p6).keep hw1) (hf.keep keeps_func (hw.chg.trans hw1)) (hv0.keep keeps_val (hw.chg.trans hw1))
 have go : ∀ w (pv : Nat),Wd NoS w0 [Ent.vec (some ⟨pv,0,none⟩) 3 3 58 1 [.func (.func 53) #[] #[.pointer (some ⟨p2,0,none⟩),.pointer (some ⟨p3,0,none⟩)],.func (.func 54) #[] #[.pointer (some ⟨p2,0,none⟩),.pointer (some ⟨p3,0,none⟩)],.func (.func 55) #[] #[.pointer (some ⟨p6,0,none⟩),.pointer (some ⟨p3,0,none⟩),.pointer (some ⟨p2,0,none⟩)]],
   Ent.box p6 [.bool c] 4,Ent.box p5 [.bool sd,.bool sa,.bool sb] 106,Ent.box p3 [.int .i64 x.op,.int .i64 x.dst,.bool x.a.reg,.int .i64 x.a.n,.bool x.b.reg,.int .i64 x.b.n,.int .i64 x.fn,.slice va vn vc] 40,Ent.box p2 [g,fs,nm,pa,.int .i64 regs,bs,ah] 56] w →
   ((sd && !(c && decide (x.dst = -1))) && !decide (dstErr regs x.dst = 0)) = false→RetV Tryd.prog 52 [.slice (some ⟨pv,0,none⟩) 3 3] w (.int .i64 (insErr fl regs x)):=by
  intro w pv hw h
  refine tail h w (hw.sub (List.sublist_cons_self _ _)) _ ?_
  refine hw.slAt (k:=0) rfl rfl (by omega) fun i y hy=>?_
  match i,hy with
  | 0,hy=>simp only [List.getElem?_cons_zero,Option.some.injEq] at hy; subst hy; exact ⟨_,fun j v hj=>by match j,hj with|0,hj=>exact hj,rfl⟩
  | 1,hy=>simp only [List.getElem?_cons_succ,List.getElem?_cons_zero,Option.some.injEq] at hy; subst hy; exact ⟨_,fun j v hj=>by match j,hj with|0,hj=>exact hj,rfl⟩
  | 2,hy=>simp only [List.getElem?_cons_succ,List.getElem?_cons_zero,Option.some.injEq] at hy; subst hy; exact ⟨_,fun j v hj=>by match j,hj with|0,hj=>exact hj,rfl⟩
 repeat (first|refine g_then ?_|refine g_nil ?_)
 refine g_cond (fun h3=>?_) (fun h3=>?_)
 ·repeat (first|refine g_op rfl ?_|refine g_region ?_|refine g_seq ?_)
  refine g_callV rfl (fun w _=>dst_c _ _ _ _ _ _ regs hr _ w) ?_
  repeat (first|refine g_op rfl ?_|refine g_then ?_|refine g_nil ?_|refine g_region ?_|refine g_seq ?_)
  refine g_cond (fun h4=>?_) (fun h4=>?_)
  ·repeat (first|refine g_op rfl ?_|refine g_then ?_|refine g_nil ?_|refine g_region ?_|refine g_seq ?_|refine g_opS rfl ?_|refine g_ret ?_|refine g_thenRet ?_)
   refine g_retV rfl ?_
   simp only [insErr,hw1,h2,hsd,h20,h3,h4,Bool.not_true,Bool.true_and]
   rfl
  ·repeat (first|refine g_op rfl ?_|refine g_then ?_|refine g_region ?_|refine g_seq ?_|refine g_skip ?_|refine g_buildN rfl rfl fun _ _=>?_)
   refine g_callV rfl (fun w hw=>go w _ hw (by simp only [h3,h4,Bool.true_and])) ?_
   repeat (first|refine g_then ?_|refine g_nil ?_|refine g_opS rfl ?_|refine g_ret ?_)
   exact g_retV rfl rfl
 ·repeat (first|refine g_op rfl ?_|refine g_then ?_|refine g_region ?_|refine g_seq ?_|refine g_skip ?_|refine g_buildN rfl rfl fun _ _=>?_)
  refine g_callV rfl (fun w hw=>go w _ hw (by simp only [h3,Bool.false_and])) ?_
  repeat (first|refine g_then ?_|refine g_nil ?_|refine g_opS rfl ?_|refine g_ret ?_)
  exact g_retV rfl rfl
def lightF (f : LFunc) : Prop:=f.blocks.length ≤ 40∧sizeOfBs f.blocks ≤ 300
theorem sizeTo_succ {l : List LBlock} {i : Nat} {x : LBlock} (h : l[i]? = some x) : sizeTo l (i + 1) = sizeTo l i + ((x.phis.length + x.list.length : Nat) : Int):=by
 simp [sizeTo,List.take_add_one,h,List.sum_append]
theorem sizeTo_all (l : List LBlock) : sizeTo l l.length = sizeOfBs l:=by simp [sizeTo,sizeOfBs]
theorem sizeTo_mono (l : List LBlock) (i : Nat) : 0 ≤ sizeTo l i∧sizeTo l i ≤ sizeOfBs l:=by
 have hnn : ∀ m : List LBlock,0 ≤ (m.map fun b=>((b.phis.length + b.list.length : Nat) : Int)).sum:=by
  intro m
  induction m with
  | nil=>simp
  | cons x m ih=>simp only [List.map_cons,List.sum_cons]; omega
 refine ⟨hnn _,?_⟩
 have : sizeOfBs l = sizeTo l i + ((l.drop i).map fun b=>((b.phis.length + b.list.length : Nat) : Int)).sum:=by
  rw [sizeOfBs,sizeTo,← List.sum_append,← List.map_append,List.take_append_drop]
 have:=hnn (l.drop i)
 omega
theorem endE_ok {n : Nat} {regs kind : Int} {on : LVal} {to : List Int} (h : endE n regs kind on to = 0) : toOk n to:=by
 unfold endE at h
 by_cases h1 : within kind 1 3 = true
 ·simp only [h1,Bool.not_true] at h
  by_cases h2 : (to.length : Int) ≠ kind - 1
  ·rw [if_pos h2] at h; cases h
  ·rw [if_neg h2] at h
   have hk : 1 ≤ kind∧kind ≤ 3:=by simpa [within] using h1
   refine ⟨by omega,fun t ht=>?_⟩
   by_cases h3 : (to.any fun t=>!within t 1 (n - 1)) = true
   ·simp only [h3] at h; cases h
   ·have:=fun hh=>h3 (List.any_eq_true.2 ⟨t,ht,hh⟩)
    simp [within] at this
    omega
 ·have h1 : within kind 1 3 = false:=by simpa using h1
  simp only [h1] at h; cases h
theorem head_c (g fs ah : Value) (f : LFunc) (hf : lightF f) (bs nv : Value) (nl : List ByteArray) (w0 : World) (hbs : SlAt w0 bs 6 f.blocks BlockV) (hnv : SlAt w0 nv 1 nl StrV) :
  RetV Tryd.prog 15 [.agg #[g,fs,.string f.name,.int .i64 f.params,.int .i64 f.regs,bs,ah],nv] w0 (.int .i64 (headErr nl f)):=by
 obtain ⟨ba,n,bc,bb,bo',rfl,hn,hnc,hnb,hbc,hba,hel⟩:=hbs
 refine ret_enter Tryd.func15 rfl Tryd.ntmps15 rfl (Wd.nil NoS w0) ?_
 repeat (first|refine g_op rfl ?_|refine g_then ?_|refine g_nil ?_|refine g_region ?_|refine g_seq ?_|refine g_box rfl fun _ _=>?_|refine g_block ?_)
 rename_i p2 _
 have h24:=hf.1
 have h120:=hf.2
 refine g_loop (fun (i : Nat)=>i ≤ n) (fun i=>[(12,.int .i64 i),(5,.int .i64 (sizeTo f.blocks i)),(10,.slice ba n bc),(11,.int .i64 n),(2,.pointer (some ⟨p2,0,none⟩)),(1,nv)]) (fun _=>[Ent.box p2 [g,fs,.string f.name,.int .i64 f.params,.int .i64 f.regs,.slice ba n bc,ah] 56]) (fun i=>n - i) 0 (Nat.zero_le _) (g_done (by repeat (first|exact trivial|refine ⟨rfl,?_⟩)) (by simp)) fun i hi=>?_
 repeat (first|refine g_op rfl ?_|refine g_then ?_|refine g_nil ?_|refine g_region ?_|refine g_seq ?_)
 refine g_cond (fun h1=>?_) (fun h1=>?_)
 ·have hlt : i < n:=by simpa using h1
  obtain ⟨B,hB⟩:=get_lt hn hlt
  have had : AddrIs ba bb bo':=⟨hba (ne_of_get hB)⟩
  have hli : LtIs i n:=⟨hlt⟩
  obtain ⟨cs,hcs,pv,lv,tv,rfl,_,_,hphis,hlist,ht⟩:=hel i B hB
  obtain ⟨pa',pn,pc,_,_,rfl,hpn,_,hpnb,_⟩:=hphis
  obtain ⟨la,ln,lc,_,_,rfl,hln,_,hlnb,_⟩:=hlist
  obtain ⟨ta,tn,tc,tb,to',rfl,htn,htnc,htnb,htc,hta,htel⟩:=ht
  have hci : CellsIs w0 bb (bo' + i * 6) _:=⟨hcs⟩
  have hs1:=sizeTo_succ hB
  have hm1:=sizeTo_mono f.blocks i
  have hm2:=sizeTo_mono f.blocks (i + 1)
  repeat (first|refine g_op rfl ?_|refine g_then ?_|refine g_nil ?_|refine g_region ?_|refine g_seq ?_|refine g_opS rfl ?_|refine g_alloc rfl fun _ _=>?_|refine g_storeAgg ?_|refine g_inBlock ?_|refine g_block ?_|refine g_skip ?_|refine g_add rfl (by omega) (by omega) ?_)
  refine g_next (i + 1) hlt (by omega) ?_ (.cons _ (.refl _))
  rw [hs1,← hpn,← hln,Int.natCast_add]
  exact (by repeat (first|exact trivial|refine ⟨rfl,?_⟩))
 ·have hge : i = n:=by have:=h1; simp at this; omega
  have hsz : sizeTo f.blocks i = sizeOfBs f.blocks:=by rw [hge,hn,sizeTo_all]
  rw [hsz]
  repeat (first|refine g_op rfl ?_|refine g_then ?_|refine g_region ?_|refine g_seq ?_|refine g_block ?_|refine g_exit ?_|refine g_thenExit ?_|refine g_exitHere ?_)
  refine g_callV rfl (fun w _=>name_c _ w) ?_
  repeat (first|refine g_op rfl ?_|refine g_then ?_|refine g_nil ?_)
  refine g_cond (fun h2=>?_) (fun h2=>?_)
  ·repeat (first|refine g_op rfl ?_|refine g_then ?_|refine g_nil ?_|refine g_region ?_|refine g_seq ?_|refine g_ret ?_|refine g_thenRet ?_|refine g_blockRet ?_)
   exact g_retV rfl (by simp only [headErr,h2]; rfl)
  repeat (first|refine g_op rfl ?_|refine g_region ?_|refine g_seq ?_)
  refine g_callV rfl (fun w hw=>containsS_c _ nl _ w (hnv.keep keeps_str hw.chg)) ?_
  repeat (first|refine g_op rfl ?_|refine g_then ?_|refine g_nil ?_)
  refine g_cond (fun h3=>?_) (fun h3=>?_)
  ·repeat (first|refine g_op rfl ?_|refine g_then ?_|refine g_nil ?_|refine g_region ?_|refine g_seq ?_|refine g_ret ?_|refine g_thenRet ?_|refine g_blockRet ?_)
   exact g_retV rfl (by simp only [headErr,h2,h3]; rfl)
  repeat (first|refine g_op rfl ?_|refine g_region ?_|refine g_seq ?_)
  refine g_callV rfl (fun w _=>within_c _ _ _ w) ?_
  repeat (refine g_op rfl ?_)
  generalize hb1 : (!within f.params 0 6) = b1
  refine g_joinTo 53 (.bool (b1 || !within f.regs f.params 100)) ?_ ?_
  ·cases b1
   ·repeat (first|refine g_op rfl ?_|refine g_open ?_)
    refine g_callV rfl (fun w _=>within_c _ _ _ w) ?_
    repeat (first|refine g_op rfl ?_|refine g_then ?_|refine g_nil ?_|refine g_open ?_)
    exact g_done (by repeat (first|exact trivial|refine ⟨rfl,?_⟩)) (by simp)
   ·repeat (first|refine g_op rfl ?_|refine g_then ?_|refine g_nil ?_|refine g_pass rfl ?_)
    exact g_done (by repeat (first|exact trivial|refine ⟨rfl,?_⟩)) (by simp)
  repeat (first|refine g_op rfl ?_|refine g_then ?_|refine g_nil ?_)
  refine g_cond (fun h4=>?_) (fun h4=>?_)
  ·repeat (first|refine g_op rfl ?_|refine g_then ?_|refine g_nil ?_|refine g_region ?_|refine g_seq ?_|refine g_ret ?_|refine g_thenRet ?_|refine g_blockRet ?_)
   exact g_retV rfl (by simp only [headErr,h2,h3,hb1,h4]; rfl)
  repeat (first|refine g_op rfl ?_|refine g_region ?_|refine g_seq ?_)
  refine g_callV rfl (fun w _=>within_c _ _ _ w) ?_
  repeat (refine g_op rfl ?_)
  generalize hb2 : (!within (n : Int) 1 40) = b2
  refine g_joinTo 64 (.bool (b2 || decide (300 < sizeOfBs f.blocks))) ?_ ?_
  ·cases b2
   ·repeat (first|refine g_op rfl ?_|refine g_then ?_|refine g_nil ?_|refine g_open ?_)
    exact g_done (by repeat (first|exact trivial|refine ⟨rfl,?_⟩)) (by simp)
   ·repeat (first|refine g_op rfl ?_|refine g_then ?_|refine g_nil ?_|refine g_pass rfl ?_)
    exact g_done (by repeat (first|exact trivial|refine ⟨rfl,?_⟩)) (by simp)
  repeat (first|refine g_op rfl ?_|refine g_then ?_|refine g_nil ?_)
  refine g_cond (fun h5=>?_) (fun h5=>?_)
  ·repeat (first|refine g_op rfl ?_|refine g_then ?_|refine g_nil ?_|refine g_region ?_|refine g_seq ?_|refine g_ret ?_|refine g_thenRet ?_|refine g_blockRet ?_)
   exact g_retV rfl (by simp only [headErr,h2,h3,hb1,h4,← hn,hb2,h5]; rfl)
  ·repeat (first|refine g_op rfl ?_|refine g_then ?_|refine g_nil ?_|refine g_region ?_|refine g_seq ?_|refine g_inBlock ?_|refine g_skip ?_|refine g_ret ?_)
   exact g_retV rfl (by simp only [headErr,h2,h3,hb1,h4,← hn,hb2,h5]; rfl)
theorem aheadTo_length (bs : List LBlock) : ∀ i,(aheadTo bs i).length = bs.length
 | 0=>by simp [aheadTo]
 | i + 1=>by
  have hf : ∀ (l : List Int) (rows : List (List Int)),(l.foldl (aheadIn i) rows).length = rows.length:=by
   intro l
   induction l with
   | nil=>intro rows; rfl
   | cons t l ih=>intro rows; rw [List.foldl_cons,ih]; simp [aheadIn]
  rw [aheadTo,hf,aheadTo_length bs i]
theorem body_c (g fs ah : Value) (fl : List LFunc) (hfl : fl.length ≤ 100) (f : LFunc) (hf : lightF f) (hr : 0 ≤ f.regs∧f.regs ≤ 100) (bs : Value) (w0 : World) (hfs : SlAt w0 fs 4 fl FuncV) (hbs : SlAt w0 bs 6 f.blocks BlockV) (hways : CellsAt w0 0 0 waysC) (hah : ah = .slice none 0 0) :
  RetV Tryd.prog 16 [.agg #[g,fs,.string f.name,.int .i64 f.params,.int .i64 f.regs,bs,ah]] w0 (.int .i64 (bodyErr fl f)):=by
 subst hah
 have hbs0:=hbs
 obtain ⟨ba,n,bc,bb,bo',rfl,hn,hnc,hnb,hbc,hba,hel⟩:=hbs
 refine ret_enter Tryd.func16 rfl Tryd.ntmps16 rfl (Wd.nil NoS w0) ?_
 have h24:=hf.1
 repeat (first|refine g_op rfl ?_|refine g_then ?_|refine g_nil ?_|refine g_region ?_|refine g_seq ?_|refine g_box rfl fun _ _=>?_|refine g_block ?_)
 rename_i p1 _
 refine g_loop (fun (i : Nat)=>i ≤ n∧∀ j,j < i→at0 f.blocks (endErr f.blocks.length f.regs) j = 0) (fun i=>[(18,.int .i64 i),(16,.slice ba n bc),(17,.int .i64 n),(1,.pointer (some ⟨p1,0,none⟩))]) (fun _=>[Ent.box p1 [g,fs,.string f.name,.int .i64 f.params,.int .i64 f.regs,.slice ba n bc,.slice none 0 0] 56]) (fun i=>n - i) 0 ⟨Nat.zero_le _,by simp⟩ (g_done (by repeat (first|exact trivial|refine ⟨rfl,?_⟩)) (by simp)) fun i ⟨hi,hall⟩=>?_
 repeat (first|refine g_op rfl ?_|refine g_then ?_|refine g_nil ?_|refine g_region ?_|refine g_seq ?_)
 refine g_cond (fun h1=>?_) (fun h1=>?_)
 ·have hlt : i < n:=by simpa using h1
  obtain ⟨B,hB⟩:=get_lt hn hlt
  have had : AddrIs ba bb bo':=⟨hba (ne_of_get hB)⟩
  have hli : LtIs i n:=⟨hlt⟩
  obtain ⟨cs,hcs,pv,lv,tv,rfl,_,_,hphis,hlist,ht⟩:=hel i B hB
  obtain ⟨pa',pn,pc,_,_,rfl,hpn,_,hpnb,_⟩:=hphis
  obtain ⟨la,ln,lc,_,_,rfl,hln,_,hlnb,_⟩:=hlist
  have ht0:=ht
  obtain ⟨ta,tn,tc,tb,to',rfl,htn,htnc,htnb,htc,hta,htel⟩:=ht
  have hci : CellsIs w0 bb (bo' + i * 6) _:=⟨hcs⟩
  have hat : at0 f.blocks (endErr f.blocks.length f.regs) i = endE n f.regs B.kind B.on B.to:=by simp [at0,hB,endErr,hn]
  repeat (first|refine g_op rfl ?_|refine g_then ?_|refine g_nil ?_|refine g_region ?_|refine g_seq ?_|refine g_alloc rfl fun _ _=>?_|refine g_storeAgg ?_|refine g_block ?_|refine g_skip ?_)
  refine g_callV rfl (fun w hw=>end_c g fs _ _ _ n bc ba (by omega) f.regs hr B.kind B.on B.to _ w (ht0.keep keeps_int hw.chg) (hways.keep hw.chg)) ?_
  repeat (first|refine g_op rfl ?_|refine g_then ?_|refine g_nil ?_|refine g_region ?_|refine g_seq ?_)
  refine g_cond (fun h2=>?_) (fun h2=>?_)
  ·repeat (first|refine g_op rfl ?_|refine g_then ?_|refine g_nil ?_|refine g_region ?_|refine g_seq ?_|refine g_ret ?_|refine g_thenRet ?_|refine g_blockRet ?_)
   refine g_retV rfl ?_
   have h2' : endE n f.regs B.kind B.on B.to ≠ 0:=by simpa using h2
   rw [bodyErr,firstI_hit hall (hn ▸ hlt) (by rw [hat]; exact h2'),if_pos (by rw [hat]; exact h2'),hat]
  ·repeat (first|refine g_then ?_|refine g_nil ?_|refine g_region ?_|refine g_opS rfl ?_|refine g_inBlock ?_|refine g_skip ?_|refine g_add rfl (by omega) (by omega) ?_)
   refine g_next (i + 1) ⟨hlt,fun j hj=>?_⟩ (by omega) (by repeat (first|exact trivial|refine ⟨rfl,?_⟩)) (.cons _ (.refl _))
   by_cases hji : j = i
   ·subst hji; rw [hat]; simpa using h2
   ·exact hall j (by omega)
 have hge : i = n:=by have:=h1; simp at this; omega
 rw [hge] at hall
 have hgo : bodyErr fl f = (firstI (blockErr fl f) f.blocks.length).1:=by rw [bodyErr,← hn,firstI_none (hn ▸ hall)]; rfl
 rw [hgo]
 have hto : ∀ b ∈ f.blocks,toOk f.blocks.length b.to:=by
  intro b hb
  obtain ⟨j,hj⟩:=List.getElem?_of_mem hb
  have hjl : j < n:=by rw [hn]; exact (List.getElem?_eq_some_iff.1 hj).1
  have:=hall j hjl
  simp only [at0,hj] at this
  exact endE_ok this
 repeat (first|refine g_op rfl ?_|refine g_then ?_|refine g_region ?_|refine g_seq ?_|refine g_exit ?_|refine g_thenExit ?_|refine g_exitHere ?_)
 refine g_callE (val:=fun x : (Option Addr × Nat × Nat) × (Nat→Prop)=>.slice x.1.1 x.1.2.1 x.1.2.2) (E:=fun x=>[⟨x.2,fun w=>SlAt w (.slice x.1.1 x.1.2.1 x.1.2.2) 1 (aheadL f.blocks) RowV⟩]) (φ:=fun _=>True) rfl (fun w hw=>ahead_c _ _ _ f.blocks _ w (hbs0.keep keeps_block hw.chg) (by omega) hto) fun x _=>?_
 obtain ⟨⟨xa,xn,xc⟩,fp⟩:=x
 simp only [List.cons_append,List.nil_append]
 repeat (first|refine g_op rfl ?_|refine g_then ?_|refine g_nil ?_|refine g_region ?_|refine g_seq ?_|refine g_store ?_|refine g_block ?_)
 refine g_loop (fun (i : Nat)=>i ≤ n∧∀ j,j < i→blockErr fl f j = 0) (fun i=>[(38,.int .i64 i),(36,.slice ba n bc),(37,.int .i64 n),(1,.pointer (some ⟨p1,0,none⟩))]) (fun _=>[⟨fp,fun w=>SlAt w (.slice xa xn xc) 1 (aheadL f.blocks) RowV⟩,Ent.box p1 [g,fs,.string f.name,.int .i64 f.params,.int .i64 f.regs,.slice ba n bc,.slice xa xn xc] 56]) (fun i=>n - i) 0 ⟨Nat.zero_le _,by simp⟩ (g_done (by repeat (first|exact trivial|refine ⟨rfl,?_⟩)) (by simp)) fun i ⟨hi,hall2⟩=>?_
 repeat (first|refine g_op rfl ?_|refine g_then ?_|refine g_nil ?_|refine g_region ?_|refine g_seq ?_)
 refine g_cond (fun h1=>?_) (fun h1=>?_)
 ·have hlt : i < n:=by simpa using h1
  obtain ⟨B,hB⟩:=get_lt hn hlt
  have had : AddrIs ba bb bo':=⟨hba (ne_of_get hB)⟩
  have hli : LtIs i n:=⟨hlt⟩
  obtain ⟨cs,hcs,pv,lv,tv,rfl,_,_,hphis,hlist,ht⟩:=hel i B hB
  obtain ⟨pa',pn,pc,pb,po,rfl,hpn,_,hpnb,hpc,hpa,hpel⟩:=hphis
  obtain ⟨la,ln,lc,lb,lo,rfl,hln,_,hlnb,hlc,hla,hlel⟩:=hlist
  obtain ⟨ta,tn,tc,tb,to',rfl,htn,htnc,htnb,htc,hta,htel⟩:=ht
  have hci : CellsIs w0 bb (bo' + i * 6) _:=⟨hcs⟩
  have hbe : blockErr fl f i = if (firstI (at0 B.phis (phiErr f.regs f.blocks i)) B.phis.length).1 ≠ 0 then (firstI (at0 B.phis (phiErr f.regs f.blocks i)) B.phis.length).1 else (firstI (at0 B.list (insErr fl f.regs)) B.list.length).1:=by simp [blockErr,hB]
  have hrow : ∃ row,(aheadL f.blocks)[i]? = some row:=⟨_,List.getElem?_eq_getElem (by rw [aheadL,aheadTo_length]; omega)⟩
  obtain ⟨row,hrow⟩:=hrow
  have hfail : ∀ c : Int,c ≠ 0→blockErr fl f i = c→Value.int .i64 c = .int .i64 (firstI (blockErr fl f) f.blocks.length).1:=by
   intro c hc hb
   rw [firstI_hit hall2 (hn ▸ hlt) (by rw [hb]; exact hc),hb]
  repeat (first|refine g_op rfl ?_|refine g_then ?_|refine g_nil ?_|refine g_region ?_|refine g_seq ?_|refine g_alloc rfl fun _ _=>?_|refine g_storeAgg ?_|refine g_block ?_|refine g_skip ?_)
  rename_i p7 _
  refine g_loop (fun (j : Nat)=>j ≤ pn∧∀ k,k < j→at0 B.phis (phiErr f.regs f.blocks i) k = 0) (fun j=>[(46,.int .i64 j),(44,.slice pa' pn pc),(45,.int .i64 pn),(6,.int .i64 i),(7,.pointer (some ⟨p7,0,none⟩)),(38,.int .i64 i),(36,.slice ba n bc),(37,.int .i64 n),(1,.pointer (some ⟨p1,0,none⟩))])
   (fun _=>[Ent.box p7 [.slice pa' pn pc,.slice la ln lc,.int .i64 B.kind,.bool B.on.reg,.int .i64 B.on.n,.slice ta tn tc] 47,⟨fp,fun w=>SlAt w (.slice xa xn xc) 1 (aheadL f.blocks) RowV⟩,Ent.box p1 [g,fs,.string f.name,.int .i64 f.params,.int .i64 f.regs,.slice ba n bc,.slice xa xn xc] 56]) (fun j=>pn - j) 0 ⟨Nat.zero_le _,by simp⟩ (g_done (by repeat (first|exact trivial|refine ⟨rfl,?_⟩)) (by simp)) fun j ⟨hj,hall3⟩=>?_
  repeat (first|refine g_op rfl ?_|refine g_then ?_|refine g_nil ?_|refine g_region ?_|refine g_seq ?_)
  refine g_cond (fun h2=>?_) (fun h2=>?_)
  ·have hjlt : j < pn:=by simpa using h2
   obtain ⟨p,hp⟩:=get_lt hpn hjlt
   have had2 : AddrIs pa' pb po:=⟨hpa (ne_of_get hp)⟩
   have hli2 : LtIs j pn:=⟨hjlt⟩
   obtain ⟨cs2,hcs2,sv,rfl,hpi,hsv⟩:=hpel j p hp
   have hsv0:=hsv
   obtain ⟨sa,sn,sc,_,_,rfl,_⟩:=hsv
   have hci2 : CellsIs w0 pb (po + j * 2) _:=⟨hcs2⟩
   have hat : at0 B.phis (phiErr f.regs f.blocks i) j = phiE f.regs i row.length p:=by simp [at0,hp,phiErr,hrow]
   repeat (first|refine g_op rfl ?_|refine g_then ?_|refine g_nil ?_|refine g_region ?_|refine g_seq ?_|refine g_alloc rfl fun _ _=>?_|refine g_storeAgg ?_|refine g_block ?_|refine g_skip ?_)
   refine g_callV rfl (fun w hw=>phi_c g fs _ _ _ _ f.regs hr (aheadL f.blocks) row i hrow p _ w (hw.get (k:=2) rfl) (hsv0.keep keeps_val hw.chg)) ?_
   repeat (first|refine g_op rfl ?_|refine g_then ?_|refine g_nil ?_|refine g_region ?_|refine g_seq ?_)
   refine g_cond (fun h3=>?_) (fun h3=>?_)
   ·repeat (first|refine g_op rfl ?_|refine g_then ?_|refine g_nil ?_|refine g_region ?_|refine g_seq ?_|refine g_ret ?_|refine g_thenRet ?_|refine g_blockRet ?_)
    have h3' : phiE f.regs i row.length p ≠ 0:=by simpa using h3
    refine g_retV rfl (hfail _ h3' ?_)
    rw [hbe,firstI_hit hall3 (hpn ▸ hjlt) (by rw [hat]; exact h3'),if_pos (by rw [hat]; exact h3'),hat]
   ·repeat (first|refine g_then ?_|refine g_nil ?_|refine g_region ?_|refine g_opS rfl ?_|refine g_inBlock ?_|refine g_skip ?_|refine g_add rfl (by omega) (by omega) ?_)
    refine g_next (j + 1) ⟨hjlt,fun k hk=>?_⟩ (by omega) (by repeat (first|exact trivial|refine ⟨rfl,?_⟩)) (.cons _ (.refl _))
    by_cases hkj : k = j
    ·subst hkj; rw [hat]; simpa using h3
    ·exact hall3 k (by omega)
  have hgej : j = pn:=by have:=h2; simp at this; omega
  have hbe2 : blockErr fl f i = (firstI (at0 B.list (insErr fl f.regs)) B.list.length).1:=by rw [hbe,← hpn,← hgej,firstI_none hall3]; rfl
  repeat (first|refine g_op rfl ?_|refine g_then ?_|refine g_nil ?_|refine g_region ?_|refine g_seq ?_|refine g_block ?_|refine g_exit ?_|refine g_thenExit ?_|refine g_exitHere ?_)
  refine g_loop (fun (j : Nat)=>j ≤ ln∧∀ k,k < j→at0 B.list (insErr fl f.regs) k = 0) (fun j=>[(61,.int .i64 j),(59,.slice la ln lc),(60,.int .i64 ln),(38,.int .i64 i),(36,.slice ba n bc),(37,.int .i64 n),(1,.pointer (some ⟨p1,0,none⟩))])
   (fun _=>[⟨fp,fun w=>SlAt w (.slice xa xn xc) 1 (aheadL f.blocks) RowV⟩,Ent.box p1 [g,fs,.string f.name,.int .i64 f.params,.int .i64 f.regs,.slice ba n bc,.slice xa xn xc] 56]) (fun j=>ln - j) 0 ⟨Nat.zero_le _,by simp⟩ (g_done (by repeat (first|exact trivial|refine ⟨rfl,?_⟩)) (.cons _ (.refl _))) fun j ⟨hj,hall4⟩=>?_
  repeat (first|refine g_op rfl ?_|refine g_then ?_|refine g_nil ?_|refine g_region ?_|refine g_seq ?_)
  refine g_cond (fun h3=>?_) (fun h3=>?_)
  ·have hjlt : j < ln:=by simpa using h3
   obtain ⟨x,hx⟩:=get_lt hln hjlt
   have had2 : AddrIs la lb lo:=⟨hla (ne_of_get hx)⟩
   have hli2 : LtIs j ln:=⟨hjlt⟩
   obtain ⟨cs2,hcs2,av,rfl,_,_,_,_,hfn,hav⟩:=hlel j x hx
   have hav0:=hav
   obtain ⟨aa,an,ac,_,_,rfl,_⟩:=hav
   have hci2 : CellsIs w0 lb (lo + j * 8) _:=⟨hcs2⟩
   have hat : at0 B.list (insErr fl f.regs) j = insErr fl f.regs x:=by simp [at0,hx]
   repeat (first|refine g_op rfl ?_|refine g_then ?_|refine g_nil ?_|refine g_region ?_|refine g_seq ?_|refine g_alloc rfl fun _ _=>?_|refine g_storeAgg ?_|refine g_block ?_|refine g_skip ?_)
   refine g_callV rfl (fun w hw=>ins_c g fs _ _ _ _ fl hfl f.regs hr x hfn _ w (hfs.keep keeps_func hw.chg) (hav0.keep keeps_val hw.chg)) ?_
   repeat (first|refine g_op rfl ?_|refine g_then ?_|refine g_nil ?_|refine g_region ?_|refine g_seq ?_)
   refine g_cond (fun h4=>?_) (fun h4=>?_)
   ·repeat (first|refine g_op rfl ?_|refine g_then ?_|refine g_nil ?_|refine g_region ?_|refine g_seq ?_|refine g_ret ?_|refine g_thenRet ?_|refine g_blockRet ?_)
    have h4' : insErr fl f.regs x ≠ 0:=by simpa using h4
    refine g_retV rfl (hfail _ h4' ?_)
    rw [hbe2,firstI_hit hall4 (hln ▸ hjlt) (by rw [hat]; exact h4'),hat]
   ·repeat (first|refine g_then ?_|refine g_nil ?_|refine g_region ?_|refine g_opS rfl ?_|refine g_inBlock ?_|refine g_skip ?_|refine g_add rfl (by omega) (by omega) ?_)
    refine g_next (j + 1) ⟨hjlt,fun k hk=>?_⟩ (by omega) (by repeat (first|exact trivial|refine ⟨rfl,?_⟩)) (.cons _ (.refl _))
    by_cases hkj : k = j
    ·subst hkj; rw [hat]; simpa using h4
    ·exact hall4 k (by omega)
  ·have hgel : j = ln:=by have:=h3; simp at this; omega
   have hz : blockErr fl f i = 0:=by rw [hbe2,← hln,← hgel,firstI_none hall4]
   repeat (first|refine g_then ?_|refine g_nil ?_|refine g_region ?_|refine g_opS rfl ?_|refine g_inBlock ?_|refine g_add rfl (by omega) (by omega) ?_|refine g_exit ?_|refine g_thenExit ?_|refine g_exitHere ?_)
   refine g_next (i + 1) ⟨hlt,fun k hk=>?_⟩ (by omega) (by repeat (first|exact trivial|refine ⟨rfl,?_⟩)) (.refl _)
   by_cases hki : k = i
   ·subst hki; exact hz
   ·exact hall2 k (by omega)
 ·have hge2 : i = n:=by have:=h1; simp at this; omega
  repeat (first|refine g_op rfl ?_|refine g_then ?_|refine g_nil ?_|refine g_region ?_|refine g_seq ?_|refine g_exit ?_|refine g_thenExit ?_|refine g_exitHere ?_|refine g_ret ?_)
  exact g_retV rfl (by rw [← hn,← hge2,firstI_none hall2])
def light (u : LUnit) : Prop:=u.funcs.length ≤ 10∧∀ f ∈ u.funcs,lightF f
theorem indexFF_c (v : Value) (l : List LFunc) (w0 : World) (hv : SlAt w0 v 4 l FuncV) :
  RetV Tryd.prog 17 [v,.func (.func 18) #[] #[]] w0 (.int .i64 (mainAt l)):=by
 obtain ⟨a,n,c,b,o,rfl,hn,hnc,hnb,hc,ha,hel⟩:=hv
 have one : ∀ (w : World) (x : LFunc) (v : Value),RetV Tryd.prog 18 [.agg #[.string x.name,.int .i64 x.params,.int .i64 x.regs,v]] w (.bool (isMain x)):=by
  intro w x v
  refine ret_enter Tryd.func18 rfl Tryd.ntmps18 rfl (Wd.nil NoS w) ?_
  repeat (first|refine g_op rfl ?_|refine g_then ?_|refine g_nil ?_|refine g_region ?_|refine g_seq ?_|refine g_opS rfl ?_|refine g_box rfl fun _ _=>?_|refine g_ret ?_)
  exact g_retV rfl rfl
 refine ret_enter Tryd.func17 rfl Tryd.ntmps17 rfl (Wd.nil NoS w0) ?_
 repeat (first|refine g_op rfl ?_|refine g_then ?_|refine g_nil ?_|refine g_region ?_|refine g_seq ?_|refine g_block ?_)
 refine g_loop (fun (i : Nat)=>i ≤ n∧∀ j t,j < i→l[j]? = some t→isMain t = false) (fun i=>[(8,.int .i64 i),(0,.slice a n c),(1,.func (.func 18) #[] #[]),(7,.int .i64 n)]) (fun _=>[]) (fun i=>n - i) 0 ⟨Nat.zero_le _,by simp⟩ (g_done (by repeat (first|exact trivial|refine ⟨rfl,?_⟩)) (by simp)) fun i ⟨hi,hall⟩=>?_
 repeat (first|refine g_op rfl ?_|refine g_then ?_|refine g_nil ?_|refine g_region ?_|refine g_seq ?_)
 refine g_cond (fun h1=>?_) (fun h1=>?_)
 ·have hlt : i < n:=by simpa using h1
  obtain ⟨x,hx⟩:=get_lt hn hlt
  have had : AddrIs a b o:=⟨ha (ne_of_get hx)⟩
  have hli : LtIs i n:=⟨hlt⟩
  obtain ⟨cs,hcs,bv,rfl,_⟩:=hel i x hx
  have hci : CellsIs w0 b (o + i * 4) _:=⟨hcs⟩
  repeat (first|refine g_op rfl ?_|refine g_then ?_|refine g_nil ?_|refine g_region ?_|refine g_seq ?_|refine g_block ?_|refine g_skip ?_)
  refine g_callFV rfl (us:=[]) (vs:=[.agg #[.string x.name,.int .i64 x.params,.int .i64 x.regs,bv]]) (xs:=[]) (fun w _=>one w x bv) ?_
  repeat (first|refine g_then ?_|refine g_nil ?_)
  refine g_cond (fun h2=>?_) (fun h2=>?_)
  ·repeat (first|refine g_op rfl ?_|refine g_then ?_|refine g_nil ?_|refine g_region ?_|refine g_seq ?_|refine g_ret ?_|refine g_thenRet ?_|refine g_blockRet ?_)
   refine g_retV rfl ?_
   have : l.findIdx? isMain = some i:=by
    rw [List.findIdx?_eq_some_iff_getElem]
    have hil : i < l.length:=by omega
    have hxi : l[i] = x:=(List.getElem?_eq_some_iff.1 hx).2
    exact ⟨hil,by rw [hxi]; exact h2,fun j hj=>by have:=hall j l[j] hj (List.getElem?_eq_getElem (by omega)); simp [this]⟩
   simp [mainAt,this]
  ·repeat (first|refine g_then ?_|refine g_nil ?_|refine g_region ?_|refine g_opS rfl ?_|refine g_inBlock ?_|refine g_skip ?_|refine g_add rfl (by omega) (by omega) ?_)
   refine g_next (i + 1) ⟨hlt,fun j t hj ht=>?_⟩ (by omega) (by repeat (first|exact trivial|refine ⟨rfl,?_⟩)) (by simp)
   by_cases hji : j = i
   ·subst hji
    rw [hx] at ht
    simp only [Option.some.injEq] at ht
    subst ht; exact h2
   ·exact hall j t (by omega) ht
 ·have hge : i = n:=by have:=h1; simp at this; omega
  repeat (first|refine g_op rfl ?_|refine g_then ?_|refine g_nil ?_|refine g_region ?_|refine g_seq ?_|refine g_exit ?_|refine g_thenExit ?_|refine g_exitHere ?_|refine g_ret ?_)
  refine g_retV rfl ?_
  have : l.findIdx? isMain = none:=by
   rw [List.findIdx?_eq_none_iff]
   intro t ht
   obtain ⟨j,hj⟩:=List.getElem?_of_mem ht
   exact hall j t (by have:=(List.getElem?_eq_some_iff.1 hj).1; omega) hj
  simp [mainAt,this]
theorem names_sl {S : Nat→Prop} {w0 w : World} {H : List Ent} {k c n e : Nat} {a : Option Addr} {l : List ByteArray} (h : Wd S w0 H w) (hk : H[k]? = some (Ent.vec a n c e 1 (l.map .string))) (hn : n = l.length) (hb : n ≤ 1000) : SlAt w (.slice a n c) 1 l StrV:=by
 refine h.slAt hk hn (by omega) fun i x hx=>⟨[.string x],fun j v hj=>?_,rfl⟩
 match j,hj with
 | 0,hj=>simpa [hx] using hj
theorem totTo_succ {l : List LGlobal} {i : Nat} {x : LGlobal} (h : l[i]? = some x) : totTo l (i + 1) = totTo l i + x.size:=by
 simp [totTo,List.take_add_one,h,List.sum_append]
theorem check_c (u : LUnit) (hl : light u) (g fs : Value) (w0 : World) (hg : SlAt w0 g 3 u.globals GlobalV) (hf : SlAt w0 fs 4 u.funcs FuncV) (hways : CellsAt w0 0 0 waysC) :
  RetV Tryd.prog 6 [.agg #[g,fs]] w0 (.agg #[.int .i64 (checkL u).1,.int .i64 (checkL u).2]):=by
 have hg0:=hg
 have hf0:=hf
 obtain ⟨ga,gn,gc,gb,go,rfl,hgn,hgnc,hgnb,hgc,hga,hgel⟩:=hg
 obtain ⟨fa,fn,fc,fb,fo,rfl,hfn,hfnc,hfnb,hfc,hfa,hfel⟩:=hf
 have hl10:=hl.1
 refine ret_enter Tryd.func6 rfl Tryd.ntmps6 rfl (Wd.nil NoS w0) ?_
 repeat (first|refine g_op rfl ?_|refine g_then ?_|refine g_nil ?_|refine g_region ?_|refine g_seq ?_|refine g_box rfl fun _ _=>?_|refine g_alloc rfl fun _ _=>?_)
 rename_i p1 _ p2 _
 generalize hb1 : decide (10 < (gn : Int)) = b1
 refine g_joinTo 26 (.bool (b1 || decide (10 < (fn : Int)))) ?_ ?_
 ·cases b1
  ·repeat (first|refine g_op rfl ?_|refine g_then ?_|refine g_nil ?_|refine g_open ?_)
   exact g_done (by repeat (first|exact trivial|refine ⟨rfl,?_⟩)) (by simp)
  ·repeat (first|refine g_op rfl ?_|refine g_then ?_|refine g_nil ?_|refine g_pass rfl ?_)
   exact g_done (by repeat (first|exact trivial|refine ⟨rfl,?_⟩)) (by simp)
 repeat (first|refine g_then ?_|refine g_nil ?_)
 refine g_cond (fun h1=>?_) (fun h1=>?_)
 ·repeat (first|refine g_region ?_|refine g_seq ?_)
  refine g_callV rfl (fun w _=>fault_c _ _ w) ?_
  repeat (first|refine g_then ?_|refine g_nil ?_|refine g_storeAgg ?_|refine g_ret ?_|refine g_thenRet ?_)
  refine g_retC rfl fun _ hw=>⟨?_,hw.chg⟩
  have : 10 < (u.globals.length : Int) ∨ 10 < (u.funcs.length : Int):=by subst hb1; rw [← hgn,← hfn]; simpa using h1
  simp only [checkL,if_pos this]
 have h1' : ¬ (10 < (u.globals.length : Int) ∨ 10 < (u.funcs.length : Int)):=by subst hb1; rw [← hgn,← hfn]; simpa using h1
 have hgl : gn ≤ 10:=by omega
 repeat (first|refine g_op rfl ?_|refine g_then ?_|refine g_nil ?_|refine g_region ?_|refine g_seq ?_|refine g_block ?_|refine g_skip ?_)
 refine g_nilVec 9 1 ?_
 refine g_loop (fun (x : Nat × Option Addr × Nat)=>x.1 ≤ gn∧(0 ≤ totTo u.globals x.1∧totTo u.globals x.1 ≤ 200)∧∀ j,j < x.1→globAt u.globals j = 0) (fun x=>[(31,.int .i64 x.1),(29,.slice ga gn gc),(30,.int .i64 gn),(3,.slice x.2.1 x.1 x.2.2),(4,.int .i64 (totTo u.globals x.1)),(1,.pointer (some ⟨p1,0,none⟩)),(2,.pointer (some ⟨p2,0,none⟩))])
  (fun x=>[Ent.vec x.2.1 x.1 x.2.2 9 1 (((u.globals.take x.1).map (·.name)).map .string),Ent.box p2 [.int .i64 0,.int .i64 0] 28,Ent.box p1 [.slice ga gn gc,.slice fa fn fc] 25]) (fun x=>gn - x.1) (0,none,0) ⟨Nat.zero_le _,by simp [totTo],by simp⟩ (g_done (by repeat (first|exact trivial|refine ⟨rfl,?_⟩)) (by simp)) fun x ⟨hi,htot,hall⟩=>?_
 obtain ⟨i,na,nc⟩:=x
 simp only at hi htot hall ⊢
 repeat (first|refine g_op rfl ?_|refine g_then ?_|refine g_nil ?_|refine g_region ?_|refine g_seq ?_)
 refine g_cond (fun h2=>?_) (fun h2=>?_)
 ·have hlt : i < gn:=by simpa using h2
  obtain ⟨X,hX⟩:=get_lt hgn hlt
  have had : AddrIs ga gb go:=⟨hga (ne_of_get hX)⟩
  have hli : LtIs i gn:=⟨hlt⟩
  obtain ⟨cs,hcs,iv,rfl,hxs,hiv⟩:=hgel i X hX
  obtain ⟨ia,inn,ic,_,_,rfl,hin,_,hinb,_⟩:=hiv
  have hci : CellsIs w0 gb (go + i * 3) _:=⟨hcs⟩
  have hat : globAt u.globals i = globErr ((u.globals.take i).map (·.name)) (totTo u.globals i) X:=by simp [globAt,at0,hX]
  have hnl : i = ((u.globals.take i).map (·.name)).length:=by rw [List.length_map,List.length_take]; omega
  have hts:=totTo_succ hX
  repeat (first|refine g_then ?_|refine g_seq ?_|refine g_skip ?_)
  refine g_block ?_
  repeat (first|refine g_op rfl ?_|refine g_then ?_|refine g_nil ?_|refine g_region ?_|refine g_seq ?_|refine g_alloc rfl fun _ _=>?_|refine g_storeAgg ?_)
  rename_i p6 _
  refine g_mid [(7,.int .i64 (globAt u.globals i)),(5,.int .i64 i),(6,.pointer (some ⟨p6,0,none⟩)),(31,.int .i64 i),(29,.slice ga gn gc),(30,.int .i64 gn),(3,.slice na i nc),(4,.int .i64 (totTo u.globals i)),(1,.pointer (some ⟨p1,0,none⟩)),(2,.pointer (some ⟨p2,0,none⟩))]
   [Ent.box p6 [.string X.name,.int .i64 X.size,.slice ia inn ic] 50,Ent.vec na i nc 9 1 (((u.globals.take i).map (·.name)).map .string),Ent.box p2 [.int .i64 0,.int .i64 0] 28,Ent.box p1 [.slice ga gn gc,.slice fa fn fc] 25] ?_ ?_
  ·rw [hat]
   repeat (first|refine g_op rfl ?_|refine g_region ?_|refine g_seq ?_|refine g_block ?_)
   refine g_callV rfl (fun w _=>name_c _ w) ?_
   repeat (first|refine g_op rfl ?_|refine g_then ?_|refine g_nil ?_)
   refine g_cond (fun k1=>?_) (fun k1=>?_)
   ·rw [show globErr ((u.globals.take i).map (·.name)) (totTo u.globals i) X = 12 by simp only [globErr,k1]; rfl]
    repeat (first|refine g_then ?_|refine g_nil ?_|refine g_region ?_|refine g_opS rfl ?_|refine g_inBlock ?_)
    exact g_done (by repeat (first|exact trivial|refine ⟨rfl,?_⟩)) (.refl _)
   repeat (first|refine g_op rfl ?_|refine g_region ?_|refine g_seq ?_)
   refine g_callV rfl (fun w hw=>containsS_c _ ((u.globals.take i).map (·.name)) _ w (names_sl hw (k:=1) rfl hnl (by omega))) ?_
   repeat (first|refine g_op rfl ?_|refine g_then ?_|refine g_nil ?_)
   refine g_cond (fun k2=>?_) (fun k2=>?_)
   ·rw [show globErr ((u.globals.take i).map (·.name)) (totTo u.globals i) X = 7 by simp only [globErr,k1,k2]; rfl]
    repeat (first|refine g_then ?_|refine g_nil ?_|refine g_region ?_|refine g_opS rfl ?_|refine g_inBlock ?_)
    exact g_done (by repeat (first|exact trivial|refine ⟨rfl,?_⟩)) (.refl _)
   repeat (first|refine g_op rfl ?_|refine g_region ?_|refine g_seq ?_)
   refine g_callV rfl (fun w _=>within_c _ _ _ w) ?_
   repeat (first|refine g_op rfl ?_|refine g_then ?_|refine g_nil ?_)
   refine g_cond (fun k3=>?_) (fun k3=>?_)
   ·rw [show globErr ((u.globals.take i).map (·.name)) (totTo u.globals i) X = 3 by simp only [globErr,k1,k2,k3]; rfl]
    repeat (first|refine g_then ?_|refine g_nil ?_|refine g_region ?_|refine g_opS rfl ?_|refine g_inBlock ?_)
    exact g_done (by repeat (first|exact trivial|refine ⟨rfl,?_⟩)) (.refl _)
   have hsz : 1 ≤ X.size∧X.size ≤ 200:=by simpa [within] using k3
   repeat (first|refine g_op rfl ?_|refine g_then ?_|refine g_nil ?_|refine g_region ?_|refine g_seq ?_)
   refine g_cond (fun k4=>?_) (fun k4=>?_)
   ·rw [show globErr ((u.globals.take i).map (·.name)) (totTo u.globals i) X = 9 by simp only [globErr,k1,k2,k3]; rw [← hin]; simp only [decide_eq_true_eq] at k4; rw [if_pos k4]; rfl]
    repeat (first|refine g_then ?_|refine g_nil ?_|refine g_region ?_|refine g_opS rfl ?_|refine g_inBlock ?_)
    exact g_done (by repeat (first|exact trivial|refine ⟨rfl,?_⟩)) (.refl _)
   simp only [decide_eq_false_iff_not] at k4
   repeat (first|refine g_op rfl ?_|refine g_then ?_|refine g_nil ?_|refine g_region ?_|refine g_seq ?_|refine g_add rfl (by omega) (by omega) ?_)
   refine g_cond (fun k5=>?_) (fun k5=>?_)
   ·rw [show globErr ((u.globals.take i).map (·.name)) (totTo u.globals i) X = 10 by simp only [globErr,k1,k2,k3]; rw [← hin]; simp only [decide_eq_true_eq] at k5; rw [if_neg k4,if_pos k5]; rfl]
    repeat (first|refine g_then ?_|refine g_nil ?_|refine g_region ?_|refine g_opS rfl ?_|refine g_inBlock ?_)
    exact g_done (by repeat (first|exact trivial|refine ⟨rfl,?_⟩)) (.refl _)
   ·rw [show globErr ((u.globals.take i).map (·.name)) (totTo u.globals i) X = 0 by simp only [globErr,k1,k2,k3]; rw [← hin]; simp only [decide_eq_false_iff_not] at k5; rw [if_neg k4,if_neg k5]; rfl]
    repeat (first|refine g_then ?_|refine g_inBlock ?_|refine g_skip ?_)
    exact g_done (by repeat (first|exact trivial|refine ⟨rfl,?_⟩)) (.refl _)
  repeat (first|refine g_op rfl ?_|refine g_then ?_|refine g_nil ?_|refine g_region ?_|refine g_seq ?_)
  refine g_cond (fun h3=>?_) (fun h3=>?_)
  ·have h3' : globAt u.globals i ≠ 0:=by simpa using h3
   repeat (first|refine g_op rfl ?_|refine g_region ?_|refine g_seq ?_)
   refine g_callV rfl (fun w _=>fault_c _ _ w) ?_
   repeat (first|refine g_then ?_|refine g_nil ?_|refine g_storeAgg ?_|refine g_ret ?_|refine g_thenRet ?_|refine g_blockRet ?_)
   refine g_retC rfl fun _ hw=>⟨?_,hw.chg⟩
   have hh:=firstI_hit hall (hgn ▸ hlt) h3'
   simp only [checkL,if_neg h1',hh]
   rw [if_pos h3']
  have h3' : globAt u.globals i = 0:=by simpa using h3
  have hok : (1 ≤ X.size∧X.size ≤ 200)∧totTo u.globals i + X.size ≤ 200:=by
   rw [hat] at h3'
   unfold globErr at h3'
   by_cases q1 : nameOk X.name = true <;> simp only [q1,Bool.not_true,Bool.not_false] at h3'
   ·by_cases q2 : hasName ((u.globals.take i).map (·.name)) X.name = true <;> simp only [q2] at h3'
    ·cases h3'
    ·by_cases q3 : within X.size 1 200 = true <;> simp only [q3,Bool.not_true,Bool.not_false] at h3'
     ·have hsz : 1 ≤ X.size∧X.size ≤ 200:=by simpa [within] using q3
      refine ⟨hsz,?_⟩
      by_cases q4 : X.size < (X.init.length : Int)
      ·simp only [q4] at h3'; cases h3'
      ·by_cases q5 : 200 < totTo u.globals i + X.size
       ·simp only [q4,q5] at h3'; cases h3'
       ·omega
     ·cases h3'
   ·cases h3'
  obtain ⟨hsz,htt⟩:=hok
  repeat (first|refine g_op rfl ?_|refine g_then ?_|refine g_region ?_|refine g_seq ?_|refine g_skip ?_|refine g_build1 rfl rfl fun _ _=>?_)
  refine g_append rfl rfl (by omega) (by omega) fun a' c'=>?_
  rw [show ((u.globals.take i).map (·.name)).map Value.string++[.string X.name] = ((u.globals.take (i + 1)).map (·.name)).map Value.string by simp [List.take_add_one,hX]]
  repeat (first|refine g_op rfl ?_|refine g_then ?_|refine g_nil ?_|refine g_region ?_|refine g_opS rfl ?_|refine g_inBlock ?_|refine g_add rfl (by omega) (by omega) ?_)
  refine g_next (i + 1,a',c') ⟨hlt,by simp only [hts]; omega,fun j hj=>?_⟩ (by simp only; omega) ?_ ?_
  ·by_cases hji : j = i
   ·subst hji; exact h3'
   ·exact hall j (by simp only at hj; omega)
  ·rw [hts]
   exact (by repeat (first|exact trivial|refine ⟨rfl,?_⟩))
  ·exact List.Sublist.cons _ (.cons _ (.refl _))
 have hge : i = gn:=by have:=h2; simp at this; omega
 have hgz : (firstI (globAt u.globals) u.globals.length) = (0,0):=firstI_none (by rw [← hgn,← hge]; exact hall)
 have htk : (u.globals.take i).map (·.name) = u.globals.map (·.name):=by rw [hge,hgn,List.take_length]
 rw [htk]
 subst hge
 repeat (first|refine g_op rfl ?_|refine g_then ?_|refine g_nil ?_|refine g_region ?_|refine g_seq ?_|refine g_block ?_|refine g_exit ?_|refine g_thenExit ?_|refine g_exitHere ?_)
 refine g_loop (fun (x : Nat × Option Addr × Nat)=>x.1 ≤ fn∧∀ j,j < x.1→headAt u j = 0) (fun x=>[(82,.int .i64 x.1),(80,.slice fa fn fc),(81,.int .i64 fn),(3,.slice x.2.1 (i + x.1) x.2.2),(1,.pointer (some ⟨p1,0,none⟩)),(2,.pointer (some ⟨p2,0,none⟩))])
  (fun x=>[Ent.vec x.2.1 (i + x.1) x.2.2 9 1 ((u.globals.map (·.name)++(u.funcs.take x.1).map (·.name)).map .string),Ent.box p2 [.int .i64 0,.int .i64 0] 28,Ent.box p1 [.slice ga i gc,.slice fa fn fc] 25]) (fun x=>fn - x.1) (0,na,nc) ⟨Nat.zero_le _,by simp⟩ (by simp only [List.take_zero,List.map_nil,List.append_nil,Nat.add_zero]; exact g_done (by repeat (first|exact trivial|refine ⟨rfl,?_⟩)) (.refl _)) fun x ⟨hi2,hall2⟩=>?_
 obtain ⟨k,ma,mc⟩:=x
 simp only at hi2 hall2 ⊢
 repeat (first|refine g_op rfl ?_|refine g_then ?_|refine g_nil ?_|refine g_region ?_|refine g_seq ?_)
 refine g_cond (fun h4=>?_) (fun h4=>?_)
 ·have hlt : k < fn:=by simpa using h4
  obtain ⟨X,hX⟩:=get_lt hfn hlt
  have had : AddrIs fa fb fo:=⟨hfa (ne_of_get hX)⟩
  have hli : LtIs k fn:=⟨hlt⟩
  obtain ⟨cs,hcs,bv,rfl,hpi,hri,hbv⟩:=hfel k X hX
  have hbv0:=hbv
  obtain ⟨ba,bn,bc,_,_,rfl,_⟩:=hbv
  have hci : CellsIs w0 fb (fo + k * 4) _:=⟨hcs⟩
  have hlx:=hl.2 X (List.mem_of_getElem? hX)
  have hat : headAt u k = headErr (u.globals.map (·.name)++(u.funcs.take k).map (·.name)) X:=by simp [headAt,at0,hX]
  have hnl : i + k = (u.globals.map (·.name)++(u.funcs.take k).map (·.name)).length:=by rw [List.length_append,List.length_map,List.length_map,List.length_take]; omega
  repeat (first|refine g_op rfl ?_|refine g_then ?_|refine g_nil ?_|refine g_region ?_|refine g_seq ?_|refine g_alloc rfl fun _ _=>?_|refine g_storeAgg ?_|refine g_block ?_|refine g_skip ?_)
  refine g_callV rfl (fun w hw=>head_c _ _ _ X hlx _ _ (u.globals.map (·.name)++(u.funcs.take k).map (·.name)) w (hbv0.keep keeps_block hw.chg) (names_sl hw (k:=2) rfl hnl (by omega))) ?_
  repeat (first|refine g_op rfl ?_|refine g_then ?_|refine g_nil ?_|refine g_region ?_|refine g_seq ?_)
  refine g_cond (fun h3=>?_) (fun h3=>?_)
  ·have h3' : headAt u k ≠ 0:=by rw [hat]; simpa using h3
   repeat (first|refine g_op rfl ?_|refine g_region ?_|refine g_seq ?_)
   refine g_callV rfl (fun w _=>fault_c _ _ w) ?_
   repeat (first|refine g_then ?_|refine g_nil ?_|refine g_storeAgg ?_|refine g_ret ?_|refine g_thenRet ?_|refine g_blockRet ?_)
   refine g_retC rfl fun _ hw=>⟨?_,hw.chg⟩
   have hh:=firstI_hit hall2 (hfn ▸ hlt) h3'
   simp only [checkL,if_neg h1',hgz,hh]
   rw [if_neg (by simp),if_pos h3',hat]
  have h3' : headAt u k = 0:=by rw [hat]; simpa using h3
  repeat (first|refine g_op rfl ?_|refine g_then ?_|refine g_region ?_|refine g_skip ?_|refine g_build1 rfl rfl fun _ _=>?_)
  refine g_append rfl rfl (by omega) (by omega) fun a' c'=>?_
  rw [show (u.globals.map (·.name)++(u.funcs.take k).map (·.name)).map Value.string++[.string X.name] = (u.globals.map (·.name)++(u.funcs.take (k + 1)).map (·.name)).map Value.string by simp [List.take_add_one,hX]]
  repeat (first|refine g_then ?_|refine g_nil ?_|refine g_region ?_|refine g_opS rfl ?_|refine g_inBlock ?_|refine g_add rfl (by omega) (by omega) ?_)
  refine g_next (k + 1,a',c') ⟨hlt,fun j hj=>?_⟩ (by simp only; omega) (by repeat (first|exact trivial|refine ⟨rfl,?_⟩)) ?_
  ·by_cases hji : j = k
   ·subst hji; exact h3'
   ·exact hall2 j (by simp only at hj; omega)
  ·exact List.Sublist.cons _ (.cons _ (.cons _ (.refl _)))
 have hgek : k = fn:=by have:=h4; simp at this; omega
 have hhz : (firstI (headAt u) u.funcs.length) = (0,0):=firstI_none (by rw [← hfn,← hgek]; exact hall2)
 have hregs : ∀ X ∈ u.funcs,0 ≤ X.regs∧X.regs ≤ 100:=by
  intro X hX
  obtain ⟨j,hj⟩:=List.getElem?_of_mem hX
  have hjl : j < k:=by rw [hgek,hfn]; exact (List.getElem?_eq_some_iff.1 hj).1
  have hz:=hall2 j hjl
  simp only [headAt,at0,hj] at hz
  unfold headErr at hz
  by_cases q1 : nameOk X.name = true <;> simp only [q1,Bool.not_true,Bool.not_false] at hz
  ·by_cases q2 : hasName (u.globals.map (·.name)++(u.funcs.take j).map (·.name)) X.name = true <;> simp only [q2] at hz
   ·cases hz
   ·by_cases q3 : (!within X.params 0 6 || !within X.regs X.params 100) = true
    ·simp only [q3] at hz; cases hz
    ·simp [within] at q3; omega
  ·cases hz
 repeat (first|refine g_op rfl ?_|refine g_then ?_|refine g_nil ?_|refine g_region ?_|refine g_seq ?_|refine g_block ?_|refine g_exit ?_|refine g_thenExit ?_|refine g_exitHere ?_)
 refine g_loop (fun (j : Nat)=>j ≤ fn∧∀ q,q < j→at0 u.funcs (bodyErr u.funcs) q = 0) (fun j=>[(107,.int .i64 j),(105,.slice fa fn fc),(106,.int .i64 fn),(1,.pointer (some ⟨p1,0,none⟩)),(2,.pointer (some ⟨p2,0,none⟩))])
  (fun _=>[Ent.box p2 [.int .i64 0,.int .i64 0] 28,Ent.box p1 [.slice ga i gc,.slice fa fn fc] 25]) (fun j=>fn - j) 0 ⟨Nat.zero_le _,by simp⟩ (g_done (by repeat (first|exact trivial|refine ⟨rfl,?_⟩)) (.cons _ (.refl _))) fun j ⟨hj,hall3⟩=>?_
 repeat (first|refine g_op rfl ?_|refine g_then ?_|refine g_nil ?_|refine g_region ?_|refine g_seq ?_)
 refine g_cond (fun h5=>?_) (fun h5=>?_)
 ·have hlt : j < fn:=by simpa using h5
  obtain ⟨X,hX⟩:=get_lt hfn hlt
  have had : AddrIs fa fb fo:=⟨hfa (ne_of_get hX)⟩
  have hli : LtIs j fn:=⟨hlt⟩
  obtain ⟨cs,hcs,bv,rfl,hpi,hri,hbv⟩:=hfel j X hX
  have hbv0:=hbv
  obtain ⟨ba,bn,bc,_,_,rfl,_⟩:=hbv
  have hci : CellsIs w0 fb (fo + j * 4) _:=⟨hcs⟩
  have hXm:=List.mem_of_getElem? hX
  have hat : at0 u.funcs (bodyErr u.funcs) j = bodyErr u.funcs X:=by simp [at0,hX]
  repeat (first|refine g_op rfl ?_|refine g_then ?_|refine g_nil ?_|refine g_region ?_|refine g_seq ?_|refine g_alloc rfl fun _ _=>?_|refine g_storeAgg ?_|refine g_block ?_|refine g_skip ?_)
  refine g_callV rfl (fun w hw=>body_c _ _ _ u.funcs (by omega) X (hl.2 X hXm) (hregs X hXm) _ w (hf0.keep keeps_func hw.chg) (hbv0.keep keeps_block hw.chg) (hways.keep hw.chg) rfl) ?_
  repeat (first|refine g_op rfl ?_|refine g_then ?_|refine g_nil ?_|refine g_region ?_|refine g_seq ?_)
  refine g_cond (fun h3=>?_) (fun h3=>?_)
  ·have h3' : at0 u.funcs (bodyErr u.funcs) j ≠ 0:=by rw [hat]; simpa using h3
   repeat (first|refine g_op rfl ?_|refine g_region ?_|refine g_seq ?_)
   refine g_callV rfl (fun w _=>fault_c _ _ w) ?_
   repeat (first|refine g_then ?_|refine g_nil ?_|refine g_storeAgg ?_|refine g_ret ?_|refine g_thenRet ?_|refine g_blockRet ?_)
   refine g_retC rfl fun _ hw=>⟨?_,hw.chg⟩
   have hh:=firstI_hit hall3 (hfn ▸ hlt) h3'
   simp only [checkL,if_neg h1',hgz,hhz,hh]
   rw [if_neg (by simp),if_neg (by simp),if_pos h3',hat]
  ·have h3' : at0 u.funcs (bodyErr u.funcs) j = 0:=by rw [hat]; simpa using h3
   repeat (first|refine g_then ?_|refine g_nil ?_|refine g_region ?_|refine g_opS rfl ?_|refine g_inBlock ?_|refine g_skip ?_|refine g_add rfl (by omega) (by omega) ?_)
   refine g_next (j + 1) ⟨hlt,fun q hq=>?_⟩ (by omega) (by repeat (first|exact trivial|refine ⟨rfl,?_⟩)) (.cons _ (.cons _ (.refl _)))
   by_cases hqj : q = j
   ·subst hqj; exact h3'
   ·exact hall3 q (by omega)
 have hgej : j = fn:=by have:=h5; simp at this; omega
 have hbz : (firstI (at0 u.funcs (bodyErr u.funcs)) u.funcs.length) = (0,0):=firstI_none (by rw [← hfn,← hgej]; exact hall3)
 have hcl : checkL u = if mainAt u.funcs < 0 then (6,0) else if 0 < at0 u.funcs (·.params) (mainAt u.funcs).toNat then (5,mainAt u.funcs) else (0,0):=by
  simp only [checkL,if_neg h1',hgz,hhz,hbz]
  rfl
 rw [hcl]
 repeat (first|refine g_op rfl ?_|refine g_then ?_|refine g_region ?_|refine g_seq ?_|refine g_exit ?_|refine g_thenExit ?_|refine g_exitHere ?_)
 refine g_callV rfl (fun w hw=>indexFF_c _ u.funcs w (hf0.keep keeps_func hw.chg)) ?_
 repeat (first|refine g_op rfl ?_|refine g_then ?_|refine g_nil ?_|refine g_region ?_|refine g_seq ?_)
 refine g_cond (fun h6=>?_) (fun h6=>?_)
 ·repeat (first|refine g_region ?_|refine g_seq ?_)
  refine g_callV rfl (fun w _=>fault_c _ _ w) ?_
  repeat (first|refine g_then ?_|refine g_nil ?_|refine g_storeAgg ?_|refine g_ret ?_|refine g_thenRet ?_)
  refine g_retC rfl fun _ hw=>⟨?_,hw.chg⟩
  rw [if_pos (by simpa using h6)]
 have h6' : ¬ mainAt u.funcs < 0:=by simpa using h6
 rw [if_neg h6']
 obtain ⟨m,hm⟩ : ∃ m : Nat,mainAt u.funcs = m:=⟨(mainAt u.funcs).toNat,by omega⟩
 have hml : m < fn:=by
  unfold mainAt at hm
  split at hm
  ·rename_i q hq
   have:=(List.findIdx?_eq_some_iff_getElem.1 hq).1
   omega
  ·omega
 obtain ⟨X,hX⟩:=get_lt hfn hml
 have had : AddrIs fa fb fo:=⟨hfa (ne_of_get hX)⟩
 have hli : LtIs m fn:=⟨hml⟩
 have hni : NatIs (mainAt u.funcs) m:=⟨hm⟩
 obtain ⟨cs,hcs,bv,rfl,hpi,hri,hbv⟩:=hfel m X hX
 have hci : CellsIs w0 fb (fo + m * 4) _:=⟨hcs⟩
 have hat : at0 u.funcs (·.params) (mainAt u.funcs).toNat = X.params:=by rw [hm]; simp [at0,hX]
 rw [hat]
 repeat (first|refine g_op rfl ?_|refine g_then ?_|refine g_nil ?_|refine g_region ?_|refine g_seq ?_|refine g_skip ?_)
 refine g_cond (fun h7=>?_) (fun h7=>?_)
 ·repeat (first|refine g_op rfl ?_|refine g_region ?_|refine g_seq ?_)
  refine g_callV rfl (fun w _=>fault_c _ _ w) ?_
  repeat (first|refine g_then ?_|refine g_nil ?_|refine g_storeAgg ?_|refine g_ret ?_|refine g_thenRet ?_)
  refine g_retC rfl fun _ hw=>⟨?_,hw.chg⟩
  rw [if_pos (by simpa using h7)]
 ·repeat (first|refine g_op rfl ?_|refine g_then ?_|refine g_nil ?_|refine g_region ?_|refine g_seq ?_|refine g_storeAgg ?_|refine g_skip ?_|refine g_ret ?_)
  refine g_retC rfl fun _ hw=>⟨?_,hw.chg⟩
  rw [if_neg (by simpa using h7)]
theorem checkL_zero {u : LUnit} (h : (checkL u).1 = 0) : checkL u = (0,0):=by
 unfold checkL at h ⊢
 split
 ·rename_i h1; rw [if_pos h1] at h; cases h
 ·rename_i h1; rw [if_neg h1] at h
  split
  ·rename_i h2; rw [if_pos h2] at h; exact absurd h h2
  ·rename_i h2; rw [if_neg h2] at h
   split
   ·rename_i h3; rw [if_pos h3] at h; exact absurd h h3
   ·rename_i h3; rw [if_neg h3] at h
    split
    ·rename_i h4; rw [if_pos h4] at h; exact absurd h h4
    ·rename_i h4; rw [if_neg h4] at h
     split
     ·rename_i h5; rw [if_pos h5] at h; cases h
     ·rename_i h5; rw [if_neg h5] at h
      split
      ·rename_i h6; rw [if_pos h6] at h; cases h
      ·rfl
theorem sameFault_c (code at' : Int) (w0 : World) : RetV Tryd.prog 8 [.int .i64 code,.int .i64 at'] w0 (.agg #[.int .i64 code,.int .i64 at']):=by
 refine ret_enter Tryd.func8 rfl Tryd.ntmps8 rfl (Wd.nil NoS w0) ?_
 repeat (first|refine g_op rfl ?_|refine g_then ?_|refine g_nil ?_|refine g_region ?_|refine g_seq ?_|refine g_alloc rfl fun _ _=>?_|refine g_storeAgg ?_|refine g_ret ?_)
 exact g_retC rfl fun _ hw=>⟨rfl,hw.chg⟩
end Go.Proofs.YtdbljcahlpkgdaaDoor

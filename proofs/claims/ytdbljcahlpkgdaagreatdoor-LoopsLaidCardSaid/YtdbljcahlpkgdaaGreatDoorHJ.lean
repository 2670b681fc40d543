/- Texts joined: TwoC ChkP RefU UMem UOpen Lim Slim. -/
import Derived.Test.YtdbljcahlpkgdaaGreatDoorGC
import Derived.Test.YtdbljcahlpkgdaaGreatDoorGG
import Derived.Test.YtdbljcahlpkgdaaGreatDoorGI
import Derived.Test.YtdbljcahlpkgdaaGreatDoorGX
import Derived.Test.YtdbljcahlpkgdaaGreatDoorHF
import Derived.Test.YtdbljcahlpkgdaaGreatDoorHI
namespace Go.Proofs.YtdbljcahlpkgdaaGreatDoor
open Go Go.RowKit
class PullIs (e : Ent) (H : List Ent) (H' : outParam (List Ent)) : Prop where
 perm : H.Perm (e::H')
instance (priority:=high) (e : Ent) (H : List Ent) : PullIs e (e::H) H:=⟨.refl _⟩
class SubP (H1 H : List Ent) : Prop where
 sub : ∃ r,H.Perm (H1++r)
instance (priority:=high) (H : List Ent) : SubP [] H:=⟨⟨H,.refl _⟩⟩
instance (e : Ent) (H1 H H' : List Ent) [h : PullIs e H H'] [h2 : SubP H1 H'] : SubP (e::H1) H:=⟨by
 obtain ⟨r,hr⟩:=h2.sub
 exact ⟨r,h.perm.trans (hr.cons e)⟩⟩
theorem Wd.pick {S : Nat→Prop} {w0 w : World} {H H1 : List Ent} (h : Wd S w0 H w) (hs : SubP H1 H) : Wd S w0 H1 w:=by
 obtain ⟨r,hr⟩:=hs.sub
 exact (h.perm hr).sub (List.sublist_append_left _ _)
theorem slKnown {w : World} {S : Nat→Prop} {α : Type} {s : Nat} {V : World→α→List Value→Prop} {a : Option Addr} {n c : Nat} {l : List α} (h : SlAt w (.slice a n c) s l V) (hold : ∀ {b o : Nat} {v : Value} {l : List Value},CellsAt w b o (v::l)→OldIs S b) (hV : ∀ x cs,V w x cs→∃ v r,cs = v::r) (h0 : l ≠ []) :
  ∃ b o : Nat,AddrIs a b o∧OldIs S b∧∀ i x,l[i]? = some x→∃ cs,CellsIs w b (o + i * s) cs∧V w x cs:=by
 obtain ⟨_,_,_,b,o,ha,hel⟩:=h.at
 refine ⟨b,o,⟨ha h0⟩,?_,fun i x hi=>?_⟩
 ·obtain ⟨x,hx⟩ : ∃ x,l[0]? = some x:=⟨_,List.getElem?_eq_getElem (List.length_pos_iff.2 h0)⟩
  obtain ⟨cs,hc,hv⟩:=hel 0 x hx
  obtain ⟨v,r,rfl⟩:=hV x cs hv
  exact hold hc
 ·obtain ⟨cs,hc,hv⟩:=hel i x hi
  exact ⟨cs,⟨hc⟩,hv⟩
theorem g_unhold {N : Nat} {ds : List Deferred} {S S1 : Nat→Prop} {w0 w1 : World} {L : List (Nat × Value)} {H H2 : List Ent} {p : Act→World→Prop} (back : ∀ {w : World},Wd S1 w1 H w→Wd S w0 (H++H2) w) (k : G N ds S w0 L (H++H2) p) : G N ds S1 w1 L H p:=fun a w hS=>k a w ⟨hS.fr,back hS.wd⟩
theorem at0_zero {α : Type} {f : α→Int} {l : List α} : (firstI (at0 l f) l.length).1 = 0 ↔ ∀ x ∈ l,f x = 0:=by
 refine ⟨at0_all,fun h=>?_⟩
 rw [firstI_none]
 intro j hj
 simp only [at0,List.getElem?_eq_getElem hj]
 exact h _ (List.getElem_mem _)
theorem firstI_zero' {f : Nat→Int} {n : Nat} : (firstI f n).1 = 0 ↔ ∀ j,j < n→f j = 0:=⟨firstI_zero,fun h=>by rw [firstI_none h]⟩
structure BodyOk (fs : List LFunc) (X : LFunc) : Prop where
 ends : ∀ B ∈ X.blocks,endErr X.blocks.length X.regs B = 0
 phis : ∀ (b : Nat) (B : LBlock),X.blocks[b]? = some B→∀ p ∈ B.phis,phiErr X.regs X.blocks b p = 0
 list : ∀ (b : Nat) (B : LBlock),X.blocks[b]? = some B→∀ x ∈ B.list,insErr fs X.regs x = 0
theorem body_zero {fs : List LFunc} {X : LFunc} : bodyErr fs X = 0 ↔ BodyOk fs X:=by
 unfold bodyErr
 constructor
 ·intro h
  split at h
  ·rename_i h1; exact absurd h h1
  rename_i h1
  have h2:=at0_zero.1 (by simpa using h1 : (firstI (at0 X.blocks (endErr X.blocks.length X.regs)) X.blocks.length).1 = 0)
  have h3:=firstI_zero'.1 h
  have h4 : ∀ (b : Nat) (B : LBlock),X.blocks[b]? = some B→(∀ p ∈ B.phis,phiErr X.regs X.blocks b p = 0)∧∀ x ∈ B.list,insErr fs X.regs x = 0:=fun b B hB=>by
   have:=h3 b (List.getElem?_eq_some_iff.1 hB).1
   simp only [blockErr,hB] at this
   split at this
   ·rename_i h5; exact absurd this h5
   rename_i h5
   exact ⟨at0_zero.1 (by simpa using h5),at0_zero.1 this⟩
  exact ⟨h2,fun b B hB=>(h4 b B hB).1,fun b B hB=>(h4 b B hB).2⟩
 ·intro h
  have h1:=at0_zero.2 h.ends
  rw [if_neg (by simp [h1])]
  refine firstI_zero'.2 fun b hb=>?_
  have hB : X.blocks[b]? = some X.blocks[b]:=List.getElem?_eq_getElem hb
  simp only [blockErr,hB]
  have h5:=at0_zero.2 (h.phis b _ hB)
  rw [if_neg (by simp [h5])]
  exact at0_zero.2 (h.list b _ hB)
structure CheckOk (u : LUnit) : Prop where
 globs : u.globals.length ≤ 10
 funcs : u.funcs.length ≤ 10
 glob : ∀ i,i < u.globals.length→globAt u.globals i = 0
 head : ∀ i,i < u.funcs.length→headAt u i = 0
 body : ∀ X ∈ u.funcs,BodyOk u.funcs X
 main : 0 ≤ mainAt u.funcs
 none : at0 u.funcs (·.params) (mainAt u.funcs).toNat ≤ 0
theorem check_zero {u : LUnit} : (checkL u).1 = 0 ↔ CheckOk u:=by
 unfold checkL
 constructor
 ·intro h
  split at h
  ·cases h
  rename_i h1
  split at h
  ·rename_i h2; exact absurd h h2
  rename_i h2
  split at h
  ·rename_i h3; exact absurd h h3
  rename_i h3
  split at h
  ·rename_i h4; exact absurd h h4
  rename_i h4
  split at h
  ·cases h
  rename_i h5
  split at h
  ·cases h
  rename_i h6
  refine ⟨by omega,by omega,firstI_zero'.1 (by simpa using h2),firstI_zero'.1 (by simpa using h3),fun X hX=>body_zero.1 (at0_zero.1 (by simpa using h4) X hX),by omega,by omega⟩
 ·intro h
  have h1:=h.globs
  have h2:=h.funcs
  rw [if_neg (by omega),if_neg (by simp [firstI_zero'.2 h.glob]),if_neg (by simp [firstI_zero'.2 h.head]),if_neg (by simp [at0_zero.2 fun X hX=>body_zero.2 (h.body X hX)]),if_neg (by have:=h.main; omega),if_neg (by have:=h.none; omega)]
theorem callErr_same {fs fs' : List LFunc} (hl : fs'.length = fs.length) (hp : ∀ i : Nat,(fs'[i]?).map LFunc.params = (fs[i]?).map LFunc.params) (R : Int) (x : LIns) : callErr fs' R x = callErr fs R x:=by
 have : ∀ i,at0 fs' (·.params) i = at0 fs (·.params) i:=fun i=>by
  have:=hp i
  unfold at0
  cases h1 : fs[i]? <;> cases h2 : fs'[i]? <;> simp [h1,h2] at this ⊢
  exact this
 unfold callErr
 rw [hl,this]
theorem insErr_same {fs fs' : List LFunc} (hl : fs'.length = fs.length) (hp : ∀ i : Nat,(fs'[i]?).map LFunc.params = (fs[i]?).map LFunc.params) (R : Int) (x : LIns) : insErr fs' R x = insErr fs R x:=by
 unfold insErr
 rw [callErr_same hl hp]
end Go.Proofs.YtdbljcahlpkgdaaGreatDoor
namespace Go.Proofs.YtdbljcahlpkgdaaGreatDoor
open Go Go.RowKit
attribute [local irreducible] wpListIn Code.wpIn Exit.then Exit.inBlock bodyPost wpQuiet wpAnyIn wpAnyH bodyPostM oneH
set_option maxHeartbeats 8000000
structure URow where
 name : ByteArray
 params : Int
 regs : Int
 a : Option Addr
 c : Nat
 bs : List BRow
structure UMem where
 ga : Option Addr
 gc : Nat
 gs : List GRow
 fa : Option Addr
 fc : Nat
 fs : List URow
end Go.Proofs.YtdbljcahlpkgdaaGreatDoor
namespace Go.Proofs.YtdbljcahlpkgdaaGreatDoor
open Go Go.RowKit
set_option maxHeartbeats 2000000
def lvE (b : BRow) : Ent:=Ent.vec b.la b.xs.length b.lc 89 8 (b.xs.flatMap rowC)
def tvE (b : BRow) : Ent:=Ent.vec b.ta b.to.length b.tc 3 1 (b.to.map (.int .i64))
theorem map_pull {α β : Type} {l : List α} {k : Nat} {x : α} (f : α→β) (h : l[k]? = some x) : (l.map f).Perm (f x::(l.eraseIdx k).map f):=(perm_pull h).map f
section
variable {S : Nat→Prop} {w0 w : World} {H : List Ent} {m : UMem} {k i : Nat} {y : URow} {b : BRow}
theorem flatMap_set {α : Type} {f : α→List Value} {l : List α} {k : Nat} {x y : α} (h : l[k]? = some x) (he : f y = f x) : (l.set k y).flatMap f = l.flatMap f:=by
 rw [List.flatMap_def,List.flatMap_def,List.map_set,he]
 congr 1
 exact set_self (by rw [List.getElem?_map,h]; rfl)
end
end Go.Proofs.YtdbljcahlpkgdaaGreatDoor
namespace Go.Proofs.YtdbljcahlpkgdaaGreatDoor
open Go Go.RowKit
theorem end_len {n : Nat} {R : Int} {B : LBlock} (h : endErr n R B = 0) : B.to.length ≤ 2:=by
 unfold endErr endE at h
 split at h
 ·cases h
 rename_i h1
 split at h
 ·cases h
 rename_i h2
 simp only [within,Bool.not_eq_true',Bool.and_eq_false_iff,decide_eq_false_iff_not,not_or,Decidable.not_not] at h1
 simp only [ne_eq,Decidable.not_not] at h2
 omega
theorem check_lim {u : LUnit} (hl : light u) (h : (checkL u).1 = 0) : ∀ X ∈ u.funcs,FnLim X:=fun X hX=>by
 obtain ⟨k,hk⟩:=List.getElem?_of_mem hX
 obtain ⟨R,_,_,hf⟩:=check_func h hk
 have hl1:=(hl.2 X hX).1
 have hlen:=light_lens (hl.2 X hX)
 have hbody:=(check_zero.1 h).body X hX
 refine ⟨by omega,fun B hB=>?_⟩
 obtain ⟨b,hb⟩:=List.getElem?_of_mem hB
 have hbk:=hf.block b B hb
 have hpl : (preds X.blocks b).length ≤ X.blocks.length:=by
  unfold preds
  exact Nat.le_trans (List.length_filter_le _ _) (by rw [List.length_range]; exact Nat.le_refl _)
 exact ⟨(hlen B hB).2,fun p hp=>by have:=(hbk.phis p hp).len; omega,(hlen B hB).1,check_args h hk B hB,by have:=end_len (hbody.ends B hB); omega⟩
theorem check_glim {u : LUnit} (h : (checkL u).1 = 0) : u.globals.length ≤ 100000∧∀ g ∈ u.globals,g.init.length ≤ 100000:=by
 have hc:=check_zero.1 h
 have:=hc.globs
 refine ⟨by omega,fun g hg=>?_⟩
 obtain ⟨i,hi⟩:=List.getElem?_of_mem hg
 have hz:=hc.glob i (List.getElem?_eq_some_iff.1 hi).1
 unfold globAt at0 at hz
 rw [hi] at hz
 simp only at hz
 unfold globErr at hz
 split at hz
 ·cases hz
 split at hz
 ·cases hz
 split at hz
 ·cases hz
 rename_i h1
 split at hz
 ·cases hz
 rename_i h2
 simp only [within,Bool.not_eq_true',Bool.and_eq_false_iff,decide_eq_false_iff_not,not_or,Decidable.not_not] at h1
 omega
theorem check_few {u : LUnit} (hl : light u) : u.funcs.length ≤ 1000:=by have:=hl.1; omega
end Go.Proofs.YtdbljcahlpkgdaaGreatDoor
namespace Go.Proofs.YtdbljcahlpkgdaaGreatDoor
open Go Go.RowKit
attribute [local irreducible] wpListIn Code.wpIn Exit.then Exit.inBlock bodyPost wpQuiet wpAnyIn wpAnyH
set_option maxHeartbeats 4000000
def slimF (f : LFunc) : Prop:=f.blocks.length ≤ 24∧sizeOfBs f.blocks ≤ 120
def slim (u : LUnit) : Prop:=u.funcs.length ≤ 10∧∀ f ∈ u.funcs,slimF f
theorem slim.light {u : LUnit} (h : slim u) : light u:=⟨h.1,fun f hf=>⟨by have:=(h.2 f hf).1; omega,by have:=(h.2 f hf).2; omega⟩⟩
theorem heavyS_c (u : LUnit) (g fs : Value) (w0 : World) (hf : SlAt w0 fs 4 u.funcs FuncV) (hg : ∃ a n c,g = .slice a n c) :
  Ret Tryz.prog 5 [.agg #[g,fs]] w0 fun v w'=>∃ b : Bool,v = .bool b∧Wd NoS w0 [] w'∧(b = false→slim u):=by
 obtain ⟨ga,gn,gc,rfl⟩:=hg
 obtain ⟨fa,fn,fc,fb,fo,rfl,hfn,hfnc,hfnb,hfc,hfa,hfel⟩:=hf
 refine ret_enter Tryz.func5 rfl Tryz.ntmps5 rfl (Wd.nil NoS w0) ?_
 repeat (first|refine g_op rfl ?_|refine g_then ?_|refine g_nil ?_|refine g_region ?_|refine g_seq ?_|refine g_box rfl fun _ _=>?_|refine g_block ?_)
 rename_i p1 _
 have noWd : ∀ w H,Wd NoS w0 H w→Wd NoS w0 [] w:=fun w H hw=>⟨hw.chg,by simp,by simp,by simp⟩
 refine g_loop (fun (i : Nat)=>i ≤ fn∧∀ k X,k < i→u.funcs[k]? = some X→slimF X) (fun i=>[(3,.int .i64 i),(2,.bool false),(1,.pointer (some ⟨p1,0,none⟩))]) (fun _=>[Ent.box p1 [.slice ga gn gc,.slice fa fn fc] 25]) (fun i=>fn - i) 0 ⟨Nat.zero_le _,by simp⟩ (g_done (by repeat (first|exact trivial|refine ⟨rfl,?_⟩)) (.refl _)) fun i ⟨hi,hall⟩=>?_
 repeat (first|refine g_op rfl ?_|refine g_then ?_|refine g_nil ?_|refine g_region ?_|refine g_seq ?_)
 refine g_cond (fun h1=>?_) (fun h1=>?_)
 ·have hlt : i < fn:=by simpa using h1
  obtain ⟨X,hX⟩:=get_lt hfn hlt
  have had : AddrIs fa fb fo:=⟨hfa (ne_of_get hX)⟩
  have hli : LtIs i fn:=⟨hlt⟩
  obtain ⟨cs,hcs,bv,rfl,hpi,hri,hbv⟩:=hfel i X hX
  obtain ⟨ba,n,bc,bb,bo',rfl,hn,hnc,hnb,hbc,hba,hel⟩:=hbv
  have hci : CellsIs w0 fb (fo + i * 4) _:=⟨hcs⟩
  repeat (first|refine g_op rfl ?_|refine g_then ?_|refine g_nil ?_|refine g_region ?_|refine g_seq ?_|refine g_block ?_|refine g_skip ?_)
  refine g_loop (fun (x : Nat × Int)=>x.1 ≤ n∧(n ≤ 24→x.2 = sizeTo X.blocks x.1∧x.2 ≤ x.1 * 281474976710656)) (fun x=>[(5,.int .i64 x.1),(4,.int .i64 x.2),(3,.int .i64 i),(2,.bool false),(1,.pointer (some ⟨p1,0,none⟩))]) (fun _=>[Ent.box p1 [.slice ga gn gc,.slice fa fn fc] 25]) (fun x=>n - x.1) (0,0) ⟨Nat.zero_le _,by simp [sizeTo]⟩ (g_done (by repeat (first|exact trivial|refine ⟨rfl,?_⟩)) (.refl _)) fun x ⟨hj,hsum⟩=>?_
  obtain ⟨j,s⟩:=x
  simp only at hj hsum ⊢
  repeat (first|refine g_op rfl ?_|refine g_then ?_|refine g_nil ?_|refine g_region ?_|refine g_seq ?_)
  refine g_cond (fun h2=>?_) (fun h2=>?_)
  ·have hjlt : j < n:=by simpa using h2
   obtain ⟨B,hB⟩:=get_lt hn hjlt
   have had2 : AddrIs ba bb bo':=⟨hba (ne_of_get hB)⟩
   have hli2 : LtIs j n:=⟨hjlt⟩
   obtain ⟨cs2,hcs2,pv,lv,tv,rfl,_,_,hphis,hlist,ht⟩:=hel j B hB
   obtain ⟨pa',pn,pc,_,_,rfl,hpn,_,hpnb,_⟩:=hphis
   obtain ⟨la,ln,lc,_,_,rfl,hln,_,hlnb,_⟩:=hlist
   have hci2 : CellsIs w0 bb (bo' + j * 6) _:=⟨hcs2⟩
   have hs1:=sizeTo_succ hB
   have hm1:=sizeTo_mono X.blocks j
   have hkey : n ≤ 24→IntKind.i64.wrap (IntKind.i64.wrap (s + pn) + ln) = sizeTo X.blocks (j + 1)∧IntKind.i64.wrap (IntKind.i64.wrap (s + pn) + ln) ≤ ((j + 1 : Nat) : Int) * 281474976710656:=by
    intro h24
    obtain ⟨e1,e2⟩:=hsum h24
    rw [wrap_in (s + pn) (by omega) (by omega),wrap_in (s + pn + ln) (by omega) (by omega),hs1]
    constructor
    ·rw [e1,hpn,hln]; omega
    ·omega
   repeat (first|refine g_then ?_|refine g_seq ?_|refine g_block ?_|refine g_skip ?_)
   refine g_draw mixed (by kernel_rfl) ?_
   repeat (refine q_op rfl ?_)
   refine q_addW rfl ?_
   repeat (refine q_op rfl ?_)
   refine q_addW rfl ?_
   repeat (first|refine q_opS rfl ?_|refine q_nil ?_)
   repeat (first|refine g_op rfl ?_|refine g_then ?_|refine g_nil ?_|refine g_region ?_|refine g_opS rfl ?_|refine g_inBlock ?_|refine g_add rfl (by omega) (by omega) ?_)
   exact g_next (j + 1,IntKind.i64.wrap (IntKind.i64.wrap (s + pn) + ln)) ⟨hjlt,hkey⟩ (by simp only; omega) (by repeat (first|exact trivial|refine ⟨rfl,?_⟩)) (.refl _)
  ·have hge : j = n:=by have:=h2; simp at this; omega
   repeat (first|refine g_op rfl ?_|refine g_then ?_|refine g_region ?_|refine g_seq ?_|refine g_exit ?_|refine g_thenExit ?_|refine g_exitHere ?_)
   generalize hb1 : decide (24 < (n : Int)) = b1
   refine g_joinTo 60 (.bool (b1 || decide (120 < s))) ?_ ?_
   ·cases b1
    ·repeat (first|refine g_op rfl ?_|refine g_then ?_|refine g_nil ?_|refine g_open ?_)
     exact g_done (by repeat (first|exact trivial|refine ⟨rfl,?_⟩)) (.refl _)
    ·repeat (first|refine g_op rfl ?_|refine g_then ?_|refine g_nil ?_|refine g_pass rfl ?_)
     exact g_done (by repeat (first|exact trivial|refine ⟨rfl,?_⟩)) (.refl _)
   repeat (first|refine g_then ?_|refine g_nil ?_)
   refine g_cond (fun h3=>?_) (fun h3=>?_)
   ·repeat (first|refine g_then ?_|refine g_nil ?_|refine g_region ?_|refine g_seq ?_|refine g_opS rfl ?_|refine g_ret ?_|refine g_thenRet ?_|refine g_blockRet ?_)
    exact g_ret1 rfl fun w hw=>⟨_,rfl,noWd _ _ hw,by simp⟩
   ·have h3' : n ≤ 24∧s ≤ 120:=by subst hb1; simp at h3; omega
    repeat (first|refine g_op rfl ?_|refine g_then ?_|refine g_nil ?_|refine g_region ?_|refine g_opS rfl ?_|refine g_inBlock ?_|refine g_skip ?_|refine g_add rfl (by omega) (by omega) ?_)
    refine g_next (i + 1) ⟨hlt,fun k Y hk hY=>?_⟩ (by omega) (by repeat (first|exact trivial|refine ⟨rfl,?_⟩)) (.refl _)
    by_cases hki : k = i
    ·subst hki
     rw [hX] at hY
     simp only [Option.some.injEq] at hY
     subst hY
     refine ⟨by omega,?_⟩
     have:=(hsum h3'.1).1
     rw [hge,hn,sizeTo_all] at this
     omega
    ·exact hall k Y (by omega) hY
 ·have hge : i = fn:=by have:=h1; simp at this; omega
  repeat (first|refine g_op rfl ?_|refine g_then ?_|refine g_nil ?_|refine g_region ?_|refine g_seq ?_|refine g_opS rfl ?_|refine g_exit ?_|refine g_thenExit ?_|refine g_exitHere ?_|refine g_ret ?_)
  refine g_ret1 rfl fun w hw=>⟨_,rfl,noWd _ _ hw,fun hb=>⟨by simp at hb; omega,fun Y hY=>?_⟩⟩
  obtain ⟨k,hk⟩:=List.getElem?_of_mem hY
  exact hall k Y (by have:=(List.getElem?_eq_some_iff.1 hk).1; omega) hk
end Go.Proofs.YtdbljcahlpkgdaaGreatDoor

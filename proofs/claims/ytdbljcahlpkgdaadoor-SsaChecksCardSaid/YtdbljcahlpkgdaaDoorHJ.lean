/- Texts joined: TwoC Slim. -/
import Derived.Test.YtdbljcahlpkgdaaDoorGC
import Derived.Test.YtdbljcahlpkgdaaDoorGG
import Derived.Test.YtdbljcahlpkgdaaDoorGX
namespace Go.Proofs.YtdbljcahlpkgdaaDoor
open Go Go.RowKit
theorem slKnown {w : World} {S : Nat→Prop} {α : Type} {s : Nat} {V : World→α→List Value→Prop} {a : Option Addr} {n c : Nat} {l : List α} (h : SlAt w (.slice a n c) s l V) (hold : ∀ {b o : Nat} {v : Value} {l : List Value},CellsAt w b o (v::l)→OldIs S b) (hV : ∀ x cs,V w x cs→∃ v r,cs = v::r) (h0 : l ≠ []) :
  ∃ b o : Nat,AddrIs a b o∧OldIs S b∧∀ i x,l[i]? = some x→∃ cs,CellsIs w b (o + i * s) cs∧V w x cs:=by
 obtain ⟨_,_,_,b,o,ha,hel⟩:=h.at
 refine ⟨b,o,⟨ha h0⟩,?_,fun i x hi=>?_⟩
 ·obtain ⟨x,hx⟩ : ∃ x,l[0]? = some x:=⟨_,List.getElem?_eq_getElem (List.length_pos_iff.2 h0)⟩
  obtain ⟨cs,hc,hv⟩:=hel 0 x hx
  obtain ⟨v,r,rfl⟩:=hV x cs hv
  exact hold hc
 ·obtain ⟨cs,hc,hv⟩:=hel i x hi
  exact ⟨cs,⟨hc⟩,hv⟩
theorem g_unhold {N : Nat} {ds : List Deferred} {S S1 : Nat→Prop} {w0 w1 : World} {L : List (Nat × Value)} {H H2 : List Ent} {p : Act→World→Prop} (back : ∀ {w : World},Wd S1 w1 H w→Wd S w0 (H++H2) w) (k : G N ds S w0 L (H++H2) p) : G N ds S1 w1 L H p:=fun a w hS=>k a w ⟨hS.fr,back hS.wd⟩
end Go.Proofs.YtdbljcahlpkgdaaDoor
namespace Go.Proofs.YtdbljcahlpkgdaaDoor
open Go Go.RowKit
attribute [local irreducible] wpListIn Code.wpIn Exit.then Exit.inBlock bodyPost wpQuiet wpAnyIn wpAnyH
set_option maxHeartbeats 4000000
def slimF (f : LFunc) : Prop:=f.blocks.length ≤ 24∧sizeOfBs f.blocks ≤ 120
def slim (u : LUnit) : Prop:=u.funcs.length ≤ 10∧∀ f ∈ u.funcs,slimF f
theorem slim.light {u : LUnit} (h : slim u) : light u:=⟨h.1,fun f hf=>⟨by have:=(h.2 f hf).1; omega,by have:=(h.2 f hf).2; omega⟩⟩
theorem heavyS_c (u : LUnit) (g fs : Value) (w0 : World) (hf : SlAt w0 fs 4 u.funcs FuncV) (hg : ∃ a n c,g = .slice a n c) :
  Ret Tryd.prog 4 [.agg #[g,fs]] w0 fun v w'=>∃ b : Bool,v = .bool b∧Wd NoS w0 [] w'∧(b = false→slim u):=by
 obtain ⟨ga,gn,gc,rfl⟩:=hg
 obtain ⟨fa,fn,fc,fb,fo,rfl,hfn,hfnc,hfnb,hfc,hfa,hfel⟩:=hf
 refine ret_enter Tryd.func4 rfl Tryd.ntmps4 rfl (Wd.nil NoS w0) ?_
 repeat (first|refine g_op rfl ?_|refine g_then ?_|refine g_nil ?_|refine g_region ?_|refine g_seq ?_|refine g_box rfl fun _ _=>?_|refine g_block ?_)
 rename_i p1 _
 have noWd : ∀ w H,Wd NoS w0 H w→Wd NoS w0 [] w:=fun w H hw=>⟨hw.chg,by simp,by simp,by simp⟩
 refine g_loop (fun (i : Nat)=>i ≤ fn∧∀ k X,k < i→u.funcs[k]? = some X→slimF X) (fun i=>[(3,.int .i64 i),(2,.bool false),(1,.pointer (some ⟨p1,0,none⟩))]) (fun _=>[Ent.box p1 [.slice ga gn gc,.slice fa fn fc] 25]) (fun i=>fn - i) 0 ⟨Nat.zero_le _,by simp⟩ (g_done (by repeat (first|exact trivial|refine ⟨rfl,?_⟩)) (.refl _)) fun i ⟨hi,hall⟩=>?_
 repeat (first|refine g_op rfl ?_|refine g_then ?_|refine g_nil ?_|refine g_region ?_|refine g_seq ?_)
 refine g_cond (fun h1=>?_) (fun h1=>?_)
 ·have hlt : i < fn:=by simpa using h1
  obtain ⟨X,hX⟩:=get_lt hfn hlt
  have had : AddrIs fa fb fo:=⟨hfa (ne_of_get hX)⟩
  have hli : LtIs i fn:=⟨hlt⟩
  obtain ⟨cs,hcs,bv,rfl,hpi,hri,hbv⟩:=hfel i X hX
  obtain ⟨ba,n,bc,bb,bo',rfl,hn,hnc,hnb,hbc,hba,hel⟩:=hbv
  have hci : CellsIs w0 fb (fo + i * 4) _:=⟨hcs⟩
  repeat (first|refine g_op rfl ?_|refine g_then ?_|refine g_nil ?_|refine g_region ?_|refine g_seq ?_|refine g_block ?_|refine g_skip ?_)
  refine g_loop (fun (x : Nat × Int)=>x.1 ≤ n∧(n ≤ 24→x.2 = sizeTo X.blocks x.1∧x.2 ≤ x.1 * 281474976710656)) (fun x=>[(5,.int .i64 x.1),(4,.int .i64 x.2),(3,.int .i64 i),(2,.bool false),(1,.pointer (some ⟨p1,0,none⟩))]) (fun _=>[Ent.box p1 [.slice ga gn gc,.slice fa fn fc] 25]) (fun x=>n - x.1) (0,0) ⟨Nat.zero_le _,by simp [sizeTo]⟩ (g_done (by repeat (first|exact trivial|refine ⟨rfl,?_⟩)) (.refl _)) fun x ⟨hj,hsum⟩=>?_
  obtain ⟨j,s⟩:=x
  simp only at hj hsum ⊢
  repeat (first|refine g_op rfl ?_|refine g_then ?_|refine g_nil ?_|refine g_region ?_|refine g_seq ?_)
  refine g_cond (fun h2=>?_) (fun h2=>?_)
  ·have hjlt : j < n:=by simpa using h2
   obtain ⟨B,hB⟩:=get_lt hn hjlt
   have had2 : AddrIs ba bb bo':=⟨hba (ne_of_get hB)⟩
   have hli2 : LtIs j n:=⟨hjlt⟩
   obtain ⟨cs2,hcs2,pv,lv,tv,rfl,_,_,hphis,hlist,ht⟩:=hel j B hB
   obtain ⟨pa',pn,pc,_,_,rfl,hpn,_,hpnb,_⟩:=hphis
   obtain ⟨la,ln,lc,_,_,rfl,hln,_,hlnb,_⟩:=hlist
   have hci2 : CellsIs w0 bb (bo' + j * 6) _:=⟨hcs2⟩
   have hs1:=sizeTo_succ hB
   have hm1:=sizeTo_mono X.blocks j
   have hkey : n ≤ 24→IntKind.i64.wrap (IntKind.i64.wrap (s + pn) + ln) = sizeTo X.blocks (j + 1)∧IntKind.i64.wrap (IntKind.i64.wrap (s + pn) + ln) ≤ ((j + 1 : Nat) : Int) * 281474976710656:=by
    intro h24
    obtain ⟨e1,e2⟩:=hsum h24
    rw [wrap_in (s + pn) (by omega) (by omega),wrap_in (s + pn + ln) (by omega) (by omega),hs1]
    constructor
    ·rw [e1,hpn,hln]; omega
    ·omega
   repeat (first|refine g_then ?_|refine g_seq ?_|refine g_block ?_|refine g_skip ?_)
   refine g_draw mixed (by kernel_rfl) ?_
   repeat (refine q_op rfl ?_)
   refine q_addW rfl ?_
   repeat (refine q_op rfl ?_)
   refine q_addW rfl ?_
   repeat (first|refine q_opS rfl ?_|refine q_nil ?_)
   repeat (first|refine g_op rfl ?_|refine g_then ?_|refine g_nil ?_|refine g_region ?_|refine g_opS rfl ?_|refine g_inBlock ?_|refine g_add rfl (by omega) (by omega) ?_)
   exact g_next (j + 1,IntKind.i64.wrap (IntKind.i64.wrap (s + pn) + ln)) ⟨hjlt,hkey⟩ (by simp only; omega) (by repeat (first|exact trivial|refine ⟨rfl,?_⟩)) (.refl _)
  ·have hge : j = n:=by have:=h2; simp at this; omega
   repeat (first|refine g_op rfl ?_|refine g_then ?_|refine g_region ?_|refine g_seq ?_|refine g_exit ?_|refine g_thenExit ?_|refine g_exitHere ?_)
   generalize hb1 : decide (24 < (n : Int)) = b1
   refine g_joinTo 60 (.bool (b1 || decide (120 < s))) ?_ ?_
   ·cases b1
    ·repeat (first|refine g_op rfl ?_|refine g_then ?_|refine g_nil ?_|refine g_open ?_)
     exact g_done (by repeat (first|exact trivial|refine ⟨rfl,?_⟩)) (.refl _)
    ·repeat (first|refine g_op rfl ?_|refine g_then ?_|refine g_nil ?_|refine g_pass rfl ?_)
     exact g_done (by repeat (first|exact trivial|refine ⟨rfl,?_⟩)) (.refl _)
   repeat (first|refine g_then ?_|refine g_nil ?_)
   refine g_cond (fun h3=>?_) (fun h3=>?_)
   ·repeat (first|refine g_then ?_|refine g_nil ?_|refine g_region ?_|refine g_seq ?_|refine g_opS rfl ?_|refine g_ret ?_|refine g_thenRet ?_|refine g_blockRet ?_)
    exact g_ret1 rfl fun w hw=>⟨_,rfl,noWd _ _ hw,by simp⟩
   ·have h3' : n ≤ 24∧s ≤ 120:=by subst hb1; simp at h3; omega
    repeat (first|refine g_op rfl ?_|refine g_then ?_|refine g_nil ?_|refine g_region ?_|refine g_opS rfl ?_|refine g_inBlock ?_|refine g_skip ?_|refine g_add rfl (by omega) (by omega) ?_)
    refine g_next (i + 1) ⟨hlt,fun k Y hk hY=>?_⟩ (by omega) (by repeat (first|exact trivial|refine ⟨rfl,?_⟩)) (.refl _)
    by_cases hki : k = i
    ·subst hki
     rw [hX] at hY
     simp only [Option.some.injEq] at hY
     subst hY
     refine ⟨by omega,?_⟩
     have:=(hsum h3'.1).1
     rw [hge,hn,sizeTo_all] at this
     omega
    ·exact hall k Y (by omega) hY
 ·have hge : i = fn:=by have:=h1; simp at this; omega
  repeat (first|refine g_op rfl ?_|refine g_then ?_|refine g_nil ?_|refine g_region ?_|refine g_seq ?_|refine g_opS rfl ?_|refine g_exit ?_|refine g_thenExit ?_|refine g_exitHere ?_|refine g_ret ?_)
  refine g_ret1 rfl fun w hw=>⟨_,rfl,noWd _ _ hw,fun hb=>⟨by simp at hb; omega,fun Y hY=>?_⟩⟩
  obtain ⟨k,hk⟩:=List.getElem?_of_mem hY
  exact hall k Y (by have:=(List.getElem?_eq_some_iff.1 hk).1; omega) hk
end Go.Proofs.YtdbljcahlpkgdaaDoor

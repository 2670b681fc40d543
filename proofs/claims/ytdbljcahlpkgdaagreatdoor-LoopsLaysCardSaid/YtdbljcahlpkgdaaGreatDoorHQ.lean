/- Texts joined: LiveL DoA OnceP DoB QuietB Given. -/
import Derived.Test.YtdbljcahlpkgdaaGreatDoorGB
import Derived.Test.YtdbljcahlpkgdaaGreatDoorGF
import Derived.Test.YtdbljcahlpkgdaaGreatDoorGG
import Derived.Test.YtdbljcahlpkgdaaGreatDoorGI
import Derived.Test.YtdbljcahlpkgdaaGreatDoorHA
import Derived.Test.YtdbljcahlpkgdaaGreatDoorHI
import Derived.Test.YtdbljcahlpkgdaaGreatDoorHJ
import Derived.Test.YtdbljcahlpkgdaaGreatDoorHN
namespace Go.Proofs.YtdbljcahlpkgdaaGreatDoor
open Go Go.RowKit
attribute [local irreducible] wpListIn Code.wpIn Exit.then Exit.inBlock bodyPost wpQuiet wpAnyIn wpAnyH oneH
set_option maxHeartbeats 4000000
section
variable {P : Program} {N : Nat} {ds : List Deferred} {S : Nat→Prop} {w0 : World} {L L' : List (Nat × Value)} {H H' Hr : List Ent} {x y : Operand} {M : Act→World→Prop} {l : List Oper} {fuel : Nat} {listed : Array Bool}
theorem o_storeVA {ty T b o off j n c e s m : Nat} (i k : Nat) {xs vs : List Value} {pos : String} {aft : Array Go.Edge} [ho : ListAt l i ⟨none,.store T x y,ty,pos,aft,none⟩] [h : AggSize P T m] [hx : Ev L x (.pointer (some ⟨b,off,none⟩))] [hy : Ev L y (.agg vs.toArray)] [hn : LenIs vs m] [h1 : OneVs vs]
  (hk : H[k]? = some (Ent.vec (some ⟨b,o,none⟩) n c e s xs)) (hoff : off = o + j) (hfit : j + m ≤ xs.length) (hHr : Hr.Sublist (H.set k (Ent.vec (some ⟨b,o,none⟩) n c e s (xs.take j++vs++xs.drop (j + m)))))
  (kk : G N ds S w0 L (H.set k (Ent.vec (some ⟨b,o,none⟩) n c e s (xs.take j++vs++xs.drop (j + m)))) (wpAnyH P .any l.toArray (OnlyN M) (Wd S w0 Hr) fuel (listed.setIfInBounds i true))) : G N ds S w0 L H (oneH P l M (Wd S w0 Hr) fuel listed i):=by
 refine o_skip i rfl fun a w hS=>?_
 subst hoff
 have hvm:=hn.eq
 obtain ⟨w',hs,hW'⟩:=hS.wd.writeAt (P:=P) hk j (vs:=vs) h1.all (by omega)
 rw [hvm] at hW'
 refine ⟨w',?_,hW'.sub hHr,kk _ _ ⟨hS.fr,hW'⟩⟩
 simp [execOp,hx.eq _ _ _ hS.fr,hy.eq _ _ _ hS.fr,Instr.storeAt,Instr.sureAddr,storeVar,h.sz,Value.cells,hvm,hs]
end
end Go.Proofs.YtdbljcahlpkgdaaGreatDoor
namespace Go.Proofs.YtdbljcahlpkgdaaGreatDoor
open Go Go.RowKit
attribute [local irreducible] wpListIn Code.wpIn Exit.then Exit.inBlock bodyPost wpQuiet wpAnyIn wpAnyH bodyPostM
set_option maxHeartbeats 4000000
def Told (want : LUnit) (w : World) (g f : Value) (c k : Int) : Prop :=
 (∃ (i : Nat) (X : LFunc),want.funcs[i]? = some X∧largeF X = true∧(∀ (j : Nat) (Y : LFunc),j < i→want.funcs[j]? = some Y→largeF Y = false)∧g = .slice none 0 0∧f = .slice none 0 0∧c = 10∧k = i) ∨
 ((∀ X ∈ want.funcs,largeF X = false)∧c = 0∧k = 0∧SlAt w g 3 want.globals GlobalV∧SlAt w f 4 want.funcs FuncV)
structure FnSmall (X : LFunc) : Prop where
 n : X.blocks.length ≤ 1000
 each : ∀ b ∈ X.blocks,b.phis.length ≤ 1000∧b.list.length ≤ 1000
theorem given_c (ug uf g f : Value) (c k : Int) (wg wf : Value) (want : LUnit) (w0 : World) (hwg : SlAt w0 wg 3 want.globals GlobalV) (hwf : SlAt w0 wf 4 want.funcs FuncV) (hlim : ∀ X ∈ want.funcs,FnSmall X) (hkb : inI k) (hT : Told want w0 g f c k) :
  RetV Tryz.prog 11 [.agg #[ug,uf],.agg #[g,f],.agg #[.int .i64 c,.int .i64 k],.agg #[wg,wf]] w0 (.bool true):=by
 have hwg0:=hwg
 have hwf0:=hwf
 obtain ⟨ga,gn,gc,_,_,rfl,_⟩:=hwg
 obtain ⟨fa,fn,fc,fb,fo,rfl,rfl,_,_,_,hfa,hfel⟩:=hwf
 refine ret_enter Tryz.func11 rfl Tryz.ntmps11 rfl (Wd.nil NoS w0) ?_
 repeat (first|refine g_op rfl ?_|refine g_then ?_|refine g_nil ?_|refine g_region ?_|refine g_seq ?_|refine g_box rfl fun _ _=>?_|refine g_block ?_)
 rename_i p4 _ p5 _ p6 _ p7 _
 refine g_loop (fun (i : Nat)=>i ≤ want.funcs.length∧∀ (j : Nat) (Y : LFunc),j < i→want.funcs[j]? = some Y→largeF Y = false) (fun i=>[(9,.int .i64 i),(5,.pointer (some ⟨p5,0,none⟩)),(6,.pointer (some ⟨p6,0,none⟩)),(7,.pointer (some ⟨p7,0,none⟩))]) (fun _=>[Ent.box p7 [.slice ga gn gc,.slice fa want.funcs.length fc] 25,Ent.box p6 [.int .i64 c,.int .i64 k] 28,Ent.box p5 [g,f] 25,Ent.box p4 [ug,uf] 25]) (fun i=>want.funcs.length - i) 0 ⟨Nat.zero_le _,fun j Y hj=>by omega⟩ (g_done (by repeat (first|exact trivial|refine ⟨rfl,?_⟩)) (by simp)) fun i ⟨hi,hall⟩=>?_
 repeat (first|refine g_op rfl ?_|refine g_then ?_|refine g_nil ?_|refine g_region ?_|refine g_seq ?_)
 refine g_cond (fun h2=>?_) (fun h2=>?_)
 ·have hlt : i < want.funcs.length:=by simpa using h2
  obtain ⟨X,hX⟩ : ∃ X,want.funcs[i]? = some X:=⟨_,List.getElem?_eq_getElem hlt⟩
  have had : AddrIs fa fb fo:=⟨hfa (ne_of_get hX)⟩
  have hli : LtIs i want.funcs.length:=⟨hlt⟩
  obtain ⟨_,hcs,bv,rfl,hpi,hri,hbv⟩:=hfel i X hX
  have hci : CellsIs w0 fb (fo + i * 4) _:=⟨hcs⟩
  have hXl:=hlim X (List.mem_of_getElem? hX)
  repeat (first|refine g_op rfl ?_|refine g_then ?_|refine g_region ?_|refine g_seq ?_|refine g_block ?_|refine g_skip ?_)
  refine g_callV rfl (fun w hw=>refLarge_c _ _ X.regs X.blocks _ w (hbv.keep keeps_block hw.chg) hXl.n hXl.each) ?_
  repeat (first|refine g_then ?_|refine g_nil ?_)
  refine g_cond (fun h3=>?_) (fun h3=>?_)
  ·have hlg : largeF X = true:=h3
   rcases hT with ⟨i0,X0,h4,h5,h6,rfl,rfl,rfl,rfl⟩|⟨h4,_⟩
   ·have hii : i0 = i:=by
     rcases Nat.lt_trichotomy i0 i with h7|h7|h7
     ·rw [hall i0 X0 h7 h4] at h5; cases h5
     ·exact h7
     ·rw [h6 i X h7 hX] at hlg; cases hlg
    subst hii
    repeat (refine g_seq ?_)
    refine g_draw mixed (by kernel_rfl) ?_
    repeat (refine q_op rfl ?_)
    refine q_call rfl (fun w _=>sameFault_c _ _ w) ?_
    repeat (refine q_op rfl ?_)
    rw [dec_self,dec_self,Bool.and_self]
    repeat (first|refine q_op rfl ?_|refine q_open ?_)
    refine q_call rfl (fun w _=>noneE_c w) ?_
    repeat (first|refine q_op rfl ?_|refine q_nil ?_)
    repeat (first|refine g_then ?_|refine g_ret ?_|refine g_thenRet ?_|refine g_blockRet ?_)
    exact g_retV rfl rfl
   ·rw [h4 X (List.mem_of_getElem? hX)] at hlg; cases hlg
  ·have hlg : largeF X = false:=by unfold largeF; simpa using h3
   repeat (first|refine g_op rfl ?_|refine g_then ?_|refine g_nil ?_|refine g_region ?_|refine g_opS rfl ?_|refine g_inBlock ?_|refine g_skip ?_|refine g_add rfl (by omega) (by omega) ?_)
   rw [show (i : Int) + 1 = ((i + 1 : Nat) : Int) by omega]
   refine g_next (i + 1) ⟨hlt,fun j Y hj hY=>?_⟩ (by omega) (by repeat (first|exact trivial|refine ⟨rfl,?_⟩)) (.refl _)
   by_cases e : j = i
   ·subst e
    rw [hX] at hY
    rw [← Option.some.inj hY]; exact hlg
   ·exact hall j Y (by omega) hY
 have hge : i = want.funcs.length:=by have:=h2; simp at this; omega
 rcases hT with ⟨i0,X0,h4,h5,_⟩|⟨_,rfl,rfl,h8,h9⟩
 ·rw [hall i0 X0 (by have:=(List.getElem?_eq_some_iff.1 h4).1; omega) h4] at h5; cases h5
 have h80:=h8
 have h90:=h9
 obtain ⟨_,_,_,_,_,rfl,_⟩:=h8
 obtain ⟨_,_,_,_,_,rfl,_⟩:=h9
 repeat (first|refine g_op rfl ?_|refine g_then ?_|refine g_region ?_|refine g_seq ?_|refine g_open ?_|refine g_exit ?_|refine g_thenExit ?_|refine g_exitHere ?_)
 rw [dec_self,Bool.and_self]
 skip
 refine g_callV rfl (fun w hw=>unitsSame_c _ _ _ _ want w (h80.keep keeps_global hw.chg) (h90.keep keeps_func hw.chg) (hwg0.keep keeps_global hw.chg) (hwf0.keep keeps_func hw.chg)) ?_
 repeat (first|refine g_op rfl ?_|refine g_then ?_|refine g_nil ?_|refine g_ret ?_)
 exact g_retV rfl rfl
end Go.Proofs.YtdbljcahlpkgdaaGreatDoor

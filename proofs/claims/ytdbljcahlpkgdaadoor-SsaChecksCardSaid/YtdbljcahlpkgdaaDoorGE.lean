/- Texts joined: ReachG SureC HangA HangB HangC HangLaw OrderA PostB OrderB. -/
import Derived.Test.YtdbljcahlpkgdaaDoorGD
namespace Go.Proofs.YtdbljcahlpkgdaaDoor
open Go Go.RowKit
attribute [local irreducible] wpListIn Code.wpIn Exit.then Exit.inBlock bodyPost wpQuiet wpAnyIn
set_option maxHeartbeats 4000000
theorem check_pos {u : LUnit} (h : (checkL u).1 = 0) {k : Nat} {X : LFunc} (hX : u.funcs[k]? = some X) : 0 < X.blocks.length:=by
 unfold checkL at h
 split at h
 ·cases h
 ·split at h
  ·rename_i h2; exact absurd h h2
  ·split at h
   ·rename_i h2; exact absurd h h2
   ·rename_i h3
    have hz:=firstI_zero (by simpa using h3)
    have:=hz k (List.getElem?_eq_some_iff.1 hX).1
    simp only [headAt,at0,hX,headErr] at this
    refine Classical.byContradiction fun hn=>?_
    have e : X.blocks.length = 0:=by omega
    rw [e] at this
    simp [within] at this
    split at this
    ·omega
    ·split at this
     ·omega
     ·split at this <;> omega
theorem reached_c (nm pa re : Value) (bl : List LBlock) (bs : Value) (hbsl : ∃ a n c,bs = .slice a n c) (w0 : World) (hbs : SlAt w0 bs 6 bl BlockV) (hlen : bl.length ≤ 100) (hok : GoodB bl) (hb : 0 < bl.length) :
  Ret Tryd.prog 19 [.agg #[nm,pa,re,bs]] w0 fun u w'=>∃ x : Option Addr × Nat × List Nat,u = .slice x.1 x.2.2.length x.2.1∧Wd NoS w0 [Ent.vec x.1 x.2.2.length x.2.1 3 1 (x.2.2.map intN)] w'∧FromR bl (-1) 0 x.2.2:=by
 obtain ⟨ba,n,bc,rfl⟩:=hbsl
 refine ret_enter Tryd.func19 rfl Tryd.ntmps19 rfl (Wd.nil NoS w0) ?_
 repeat (first|refine g_op rfl ?_|refine g_then ?_|refine g_nil ?_|refine g_region ?_|refine g_seq ?_|refine g_box rfl fun _ _=>?_)
 refine g_callE (val:=fun x : Option Addr × Nat × List Nat=>.slice x.1 x.2.2.length x.2.1) (E:=fun x=>[Ent.vec x.1 x.2.2.length x.2.1 3 1 (x.2.2.map intN)]) (φ:=fun x=>FromR bl (-1) 0 x.2.2) rfl (fun w hw=>refFrom_c _ _ _ bl _ 0 (-1) w (hbs.keep keeps_block hw.chg) hlen hok hb) fun x hx=>?_
 obtain ⟨xa,xc,l⟩:=x
 simp only [List.cons_append,List.nil_append] at hx ⊢
 repeat (first|refine g_then ?_|refine g_nil ?_|refine g_opS rfl ?_|refine g_ret ?_)
 exact g_ret1 rfl fun w hw=>⟨(xa,xc,l),rfl,hw.sel [0] (by decide),hx⟩
end Go.Proofs.YtdbljcahlpkgdaaDoor
namespace Go.Proofs.YtdbljcahlpkgdaaDoor
open Go Go.RowKit
section
variable {P : Program} {ro : Option Nat} {N : Nat} {ds : List Deferred} {S : Nat→Prop} {w0 : World} {L L' : List (Nat × Value)} {H H' : List Ent} {ops : Array Oper} {rest : List Oper} {Q : Exit→Act→World→Prop} {x y : Operand}
theorem set_self {α : Type} {l : List α} {k : Nat} {e : α} (h : l[k]? = some e) : l.set k e = l:=by
 apply List.ext_getElem?
 intro i
 rw [List.getElem?_set]
 split
 ·rename_i hi; subst hi
  rw [if_pos (List.getElem?_eq_some_iff.1 h).1,h]
 ·rfl
end
attribute [local irreducible] wpListIn Code.wpIn Exit.then Exit.inBlock bodyPost wpQuiet wpAnyIn
set_option maxHeartbeats 4000000
instance (x : Nat) : OneV (intN x):=⟨rfl⟩
theorem rev_swap {l l' : List Nat} {i j : Nat} {x y : Nat} (hl : l'.length = l.length) (hij : i < j) (hj : i + j + 1 = l.length) (h : ∀ k,k < l.length→l'[k]? = if k < i ∨ j < k then l[l.length - 1 - k]? else l[k]?) (hx : l'[i]? = some x) (hy : l'[j]? = some y) :
  ∀ k,k < l.length→((l'.set i y).set j x)[k]? = if k < i + 1 ∨ j - 1 < k then l[l.length - 1 - k]? else l[k]?:=by
 intro k hk
 have hi:=h i (by omega)
 have hjj:=h j (by omega)
 rw [if_neg (by omega),hx] at hi
 rw [if_neg (by omega),hy] at hjj
 rw [List.getElem?_set,List.getElem?_set]
 by_cases e1 : j = k
 ·subst e1
  rw [if_pos rfl,if_pos (by simp; omega),if_pos (by omega),show l.length - 1 - j = i by omega,hi]
 ·rw [if_neg e1]
  by_cases e2 : i = k
  ·subst e2
   rw [if_pos rfl,if_pos (by omega),if_pos (by omega),show l.length - 1 - i = j by omega,hjj]
  ·rw [if_neg e2,h k hk]
   by_cases e3 : k < i ∨ j < k
   ·rw [if_pos e3,if_pos (by omega)]
   ·rw [if_neg e3,if_neg (by omega)]
theorem rev_done {l l' : List Nat} {i : Nat} (hl : l'.length = l.length) (hi : l.length ≤ 2 * i + 1) (h : ∀ k,k < l.length→l'[k]? = if k < i ∨ (l.length : Int) - 1 - i < k then l[l.length - 1 - k]? else l[k]?) : l' = l.reverse:=by
 apply List.ext_getElem?
 intro k
 by_cases hk : k < l.length
 ·rw [h k hk,List.getElem?_reverse hk]
  by_cases e : k < i ∨ (l.length : Int) - 1 - i < k
  ·rw [if_pos e]
  ·rw [if_neg e,show l.length - 1 - k = k by omega]
 ·rw [List.getElem?_eq_none (by omega),List.getElem?_eq_none (by rw [List.length_reverse]; omega)]
theorem reverse_c (a : Option Addr) (c : Nat) (l : List Nat) (hlen : l.length ≤ 100000) (w : World) (hw : Wd (fps [Ent.vec a l.length c 3 1 (l.map intN)]) w [Ent.vec a l.length c 3 1 (l.map intN)] w) :
  Ret Tryd.prog 56 [.slice a l.length c] w fun u w'=>∃ _ : Unit,u = .tuple #[]∧Wd (fps [Ent.vec a l.length c 3 1 (l.map intN)]) w [Ent.vec a l.length c 3 1 (l.reverse.map intN)] w'∧True:=by
 refine ret_enter Tryd.func56 rfl Tryd.ntmps56 rfl hw ?_
 generalize fps [Ent.vec a l.length c 3 1 (l.map intN)] = SS
 repeat (first|refine g_op rfl ?_|refine g_then ?_|refine g_nil ?_|refine g_region ?_|refine g_seq ?_|refine g_block ?_|refine g_sub rfl (by omega) (by omega) ?_)
 refine g_loop (fun (x : Nat × Int × Option Addr × List Nat)=>x.2.1 = (l.length : Int) - 1 - x.1∧x.1 ≤ l.length∧x.2.2.2.length = l.length∧x.2.2.1 = a∧∀ k,k < l.length→x.2.2.2[k]? = if k < x.1 ∨ (l.length : Int) - 1 - x.1 < k then l[l.length - 1 - k]? else l[k]?) (fun x=>[(2,.int .i64 x.1),(3,.int .i64 x.2.1),(0,.slice x.2.2.1 l.length c)])
  (fun x=>[Ent.vec x.2.2.1 l.length c 3 1 (x.2.2.2.map intN)]) (fun x=>l.length - x.1) (0,(l.length : Int) - 1,a,l) ⟨by simp,Nat.zero_le _,rfl,rfl,fun k hk=>by rw [if_neg (by simp only; omega)]⟩ (g_done (by repeat (first|exact trivial|refine ⟨rfl,?_⟩)) (.refl _)) fun x ⟨hj,hi,hl,ha,hall⟩=>?_
 obtain ⟨i,j,a',l'⟩:=x
 simp only at hj hi hl ha hall ⊢
 repeat (first|refine g_op rfl ?_|refine g_then ?_|refine g_nil ?_|refine g_region ?_|refine g_seq ?_)
 refine g_cond (fun h1=>?_) (fun h1=>?_)
 ·have hlt : (i : Int) < j:=by simpa using h1
  obtain ⟨jn,rfl⟩ : ∃ jn : Nat,j = jn:=⟨j.toNat,by omega⟩
  refine g_vec 0 rfl (by omega) fun rb ro hra=>?_
  obtain ⟨x,hx⟩ : ∃ x,l'[i]? = some x:=⟨_,List.getElem?_eq_getElem (by omega)⟩
  obtain ⟨y,hy⟩ : ∃ y,l'[jn]? = some y:=⟨_,List.getElem?_eq_getElem (by omega)⟩
  rw [hra]
  have hli : LtIs i l.length:=⟨by omega⟩
  have hlj : LtIs jn l.length:=⟨by omega⟩
  have he1 : ElAt l' i x:=⟨hx⟩
  have he2 : ElAt l' jn y:=⟨hy⟩
  have he3 : ElAt (l'.set i y) jn y:=⟨by rw [List.getElem?_set,if_neg (by omega),hy]⟩
  have he4 : ElAt (l'.set jn x) i x:=⟨by rw [List.getElem?_set,if_neg (by omega),hx]⟩
  repeat (first|refine g_then ?_|refine g_seq ?_|refine g_block ?_|refine g_skip ?_)
  refine g_drawW [(2,.int .i64 i),(3,.int .i64 jn),(0,.slice (some ⟨rb,ro,none⟩) l.length c)] [Ent.vec (some ⟨rb,ro,none⟩) l.length c 3 1 (((l'.set i y).set jn x).map intN)] mixed ?_ ?_
  ·repeat' (first|refine g_take 0 rfl (by decide +kernel) ?_|refine g_take 1 rfl (by decide +kernel) ?_|refine g_take 2 rfl (by decide +kernel) ?_|refine g_take 3 rfl (by decide +kernel) ?_|refine g_take 4 rfl (by decide +kernel) ?_|refine g_take 5 rfl (by decide +kernel) ?_|refine g_take 6 rfl (by decide +kernel) ?_|refine g_take 8 rfl (by decide +kernel) ?_|refine g_take 9 rfl (by decide +kernel) ?_|refine g_take 10 rfl (by decide +kernel) ?_|refine g_take 12 rfl (by decide +kernel) ?_|refine g_take 14 rfl (by decide +kernel) ?_|refine g_any0 (by decide +kernel) ?_|refine g_any (by decide +kernel) ?_|refine any_nil|refine any_skip (by decide +kernel) ?_|refine any_cons ?_ ?_|refine g_op rfl ?_|refine g_then ?_|refine g_nil ?_|refine g_storeV ?_)
   all_goals exact g_done (by repeat (first|exact trivial|refine ⟨rfl,?_⟩)) (.refl _)
  ·repeat (first|refine g_op rfl ?_|refine g_then ?_|refine g_nil ?_|refine g_region ?_|refine g_opS rfl ?_|refine g_inBlock ?_|refine g_add rfl (by omega) (by omega) ?_|refine g_sub rfl (by omega) (by omega) ?_)
   refine g_next (i + 1,(jn : Int) - 1,some ⟨rb,ro,none⟩,(l'.set i y).set jn x) ⟨by simp only; omega,by simp only; omega,by simpa using hl,by rw [← hra]; exact ha,fun k hk=>?_⟩ (by simp only; omega) (by repeat (first|exact trivial|refine ⟨rfl,?_⟩)) (.refl _)
   have:=rev_swap hl (by omega) (by omega) (fun k hk=>by
    rw [hall k hk]
    by_cases e : k < i ∨ jn < k
    ·rw [if_pos e,if_pos (by omega)]
    ·rw [if_neg e,if_neg (by omega)]) hx hy k hk
   rw [this]
   by_cases e : k < i + 1 ∨ jn - 1 < k
   ·rw [if_pos e,if_pos (by simp only; omega)]
   ·rw [if_neg e,if_neg (by simp only; omega)]
 ·have hge : l' = l.reverse:=rev_done hl (by simp at h1; omega) hall
  repeat (first|refine g_exit ?_|refine g_thenExit ?_|refine g_exitHere ?_)
  refine g_end0 rfl fun w' hw'=>⟨(),rfl,?_,trivial⟩
  rw [← hge,← ha]
  exact hw'
end Go.Proofs.YtdbljcahlpkgdaaDoor
namespace Go.Proofs.YtdbljcahlpkgdaaDoor
open Go Go.RowKit
attribute [local irreducible] wpListIn Code.wpIn Exit.then Exit.inBlock bodyPost wpQuiet wpAnyIn
set_option maxHeartbeats 4000000
theorem orderOf_c (nm pa re : Value) (bl : List LBlock) (bs : Value) (hbsl : ∃ a n c,bs = .slice a n c) (w0 : World) (hbs : SlAt w0 bs 6 bl BlockV) (hlen : bl.length ≤ 100) (hok : GoodB bl) (hpos : 0 < bl.length) :
  Ret Tryd.prog 37 [.agg #[nm,pa,re,bs]] w0 fun u w'=>∃ x : Option Addr × Nat,u = .slice x.1 (postL bl).length x.2∧Wd NoS w0 [Ent.vec x.1 (postL bl).length x.2 3 1 ((postL bl).reverse.map intN)] w'∧True:=by
 obtain ⟨ba,n,bc,rfl⟩:=hbsl
 have hl:=postL_len hpos
 refine ret_enter Tryd.func37 rfl Tryd.ntmps37 rfl (Wd.nil NoS w0) ?_
 repeat (first|refine g_op rfl ?_|refine g_then ?_|refine g_nil ?_|refine g_region ?_|refine g_seq ?_|refine g_box rfl fun _ _=>?_)
 refine g_callE (val:=fun x : Option Addr × Nat=>.slice x.1 (postL bl).length x.2) (E:=fun x=>[Ent.vec x.1 (postL bl).length x.2 3 1 ((postL bl).map intN)]) (φ:=fun _=>True) rfl (fun w hw=>graphPost_c _ _ _ bl _ w (hbs.keep keeps_block hw.chg) hlen hok hpos) fun x _=>?_
 obtain ⟨xa,xc⟩:=x
 simp only
 repeat (first|refine g_op rfl ?_|refine g_then ?_|refine g_nil ?_|refine g_region ?_|refine g_seq ?_)
 refine g_callS (val:=fun _ : Unit=>.tuple #[]) (E:=fun _=>[Ent.vec xa (postL bl).length xc 3 1 ((postL bl).reverse.map intN)]) (φ:=fun _=>True) rfl (fun w hw=>reverse_c xa xc (postL bl) (by omega) w hw.pre) fun _ _=>?_
 simp only [List.cons_append,List.nil_append]
 repeat (first|refine g_op rfl ?_|refine g_then ?_|refine g_nil ?_|refine g_region ?_|refine g_seq ?_|refine g_opS rfl ?_|refine g_ret ?_)
 exact g_ret1 rfl fun w hw=>⟨(xa,xc),rfl,hw.sel [0] (by decide),trivial⟩
end Go.Proofs.YtdbljcahlpkgdaaDoor

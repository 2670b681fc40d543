/- Texts joined: SplitA SplitB SplitS. -/
import Derived.Test.YtpadjpplidlfeaaGreatDoorGG
import Derived.Test.YtpadjpplidlfeaaGreatDoorGI
import Derived.Test.YtpadjpplidlfeaaGreatDoorHJ
import Derived.Test.YtpadjpplidlfeaaGreatDoorHS
import Derived.Test.YtpadjpplidlfeaaGreatDoorHV
namespace Go.Proofs.YtpadjpplidlfeaaGreatDoor
open Go Go.RowKit
attribute [local irreducible] wpListIn Code.wpIn Exit.then Exit.inBlock bodyPost wpQuiet wpAnyIn wpAnyH bodyPostM oneH
set_option maxHeartbeats 4000000
def edC (x : Int × LVal) : List Value:=[.int .i64 x.1,.bool x.2.reg,.int .i64 x.2.n]
theorem edC_len (x : Int × LVal) : (edC x).length = 3:=rfl
def EdV (_ : World) (x : Int × LVal) (cs : List Value) : Prop:=cs = edC x
def edgesL (bl : List LBlock) (b : Nat) (src : List LVal) : List (Int × LVal):=((preds bl b).map fun x : Nat=>(x : Int)).zip src
theorem refEdges_c (nm pa re : Value) (bl : List LBlock) (bs : Value) (hbsl : ∃ a n c,bs = .slice a n c) (b : Nat) (dst : Int) (va : Option Addr) (vn vc : Nat) (src : List LVal) (w0 : World) (hbs : SlAt w0 bs 6 bl BlockV) (hlen : bl.length ≤ 100) (hv : SlAt w0 (.slice va vn vc) 2 src ValV) (hl : src.length = (preds bl b).length) :
  Ret Tryz.prog 60 [.agg #[nm,pa,re,bs],.int .i64 b,.agg #[.int .i64 dst,.slice va vn vc]] w0 fun u w'=>∃ x : Option Addr × Nat,u = .slice x.1 (preds bl b).length x.2∧Wd NoS w0 [Ent.vec x.1 (preds bl b).length x.2 100 3 ((edgesL bl b src).flatMap edC)] w'∧True:=by
 obtain ⟨ba,n,bc,rfl⟩:=hbsl
 have hv0:=hv
 obtain ⟨hvn,_,_,vb,vo,hva,hvel⟩:=hv.at
 have hpl : (preds bl b).length ≤ 100:=by
  unfold preds
  exact Nat.le_trans (List.length_filter_le _ _) (by rw [List.length_range]; exact hlen)
 have hel : (edgesL bl b src).length = (preds bl b).length:=by unfold edgesL; rw [List.length_zip,List.length_map]; omega
 refine ret_enter Tryz.func60 rfl Tryz.ntmps60 rfl (Wd.nil NoS w0) ?_
 repeat (first|refine g_op rfl ?_|refine g_then ?_|refine g_nil ?_|refine g_region ?_|refine g_seq ?_|refine g_box rfl fun _ _=>?_)
 rename_i p3 _ p5 _
 refine g_callE (val:=fun x : Option Addr × Nat=>.slice x.1 (preds bl b).length x.2) (E:=fun x=>[Ent.vec x.1 (preds bl b).length x.2 3 1 ((preds bl b).map intN)]) (φ:=fun _=>True) rfl (fun w hw=>refAhead_c _ _ _ bl _ b w (hbs.keep keeps_block hw.chg) hlen) fun x _=>?_
 obtain ⟨aa,ac⟩:=x
 simp only [List.cons_append,List.nil_append]
 repeat (first|refine g_op rfl ?_|refine g_then ?_|refine g_nil ?_|refine g_region ?_|refine g_seq ?_|refine g_block ?_)
 refine g_nilVec 100 3 ?_
 refine g_loop (fun x : Nat × Option Addr × Nat=>x.1 ≤ (preds bl b).length) (fun x=>[(9,.int .i64 x.1),(8,.slice x.2.1 x.1 x.2.2),(7,.slice aa (preds bl b).length ac),(5,.pointer (some ⟨p5,0,none⟩)),(3,.pointer (some ⟨p3,0,none⟩))]) (fun x=>[Ent.vec x.2.1 x.1 x.2.2 100 3 (((edgesL bl b src).take x.1).flatMap edC),Ent.vec aa (preds bl b).length ac 3 1 ((preds bl b).map intN),Ent.box p5 [.int .i64 dst,.slice va vn vc] 86,Ent.box p3 [nm,pa,re,.slice ba n bc] 35]) (fun x=>(preds bl b).length - x.1) (0,none,0) (Nat.zero_le _) (g_done (by repeat (first|exact trivial|refine ⟨rfl,?_⟩)) (.refl _)) fun x hi=>?_
 obtain ⟨i,ea,ec⟩:=x
 simp only at hi ⊢
 repeat (first|refine g_op rfl ?_|refine g_then ?_|refine g_nil ?_|refine g_region ?_|refine g_seq ?_)
 refine g_cond (fun h1=>?_) (fun h1=>?_)
 ·have hlt : i < (preds bl b).length:=by simpa using h1
  obtain ⟨q,hq⟩ : ∃ q,(preds bl b)[i]? = some q:=⟨_,List.getElem?_eq_getElem hlt⟩
  obtain ⟨v,hv⟩ : ∃ v,src[i]? = some v:=⟨_,List.getElem?_eq_getElem (by omega)⟩
  have hed : (edgesL bl b src)[i]? = some ((q : Int),v):=by
   unfold edgesL
   rw [List.getElem?_zip_eq_some]
   exact ⟨by rw [List.getElem?_map,hq]; rfl,hv⟩
  have hadv : AddrIs va vb vo:=⟨hva (ne_of_get hv)⟩
  have hli : LtIs i (preds bl b).length:=⟨hlt⟩
  have hlv : LtIs i vn:=⟨by omega⟩
  obtain ⟨_,hcs,rfl,_⟩:=hvel i v hv
  have hci : CellsIs w0 vb (vo + i * 2) _:=⟨hcs⟩
  refine g_vec 1 rfl (by omega) fun ab ao haa=>?_
  subst haa
  have hel2 : ElAt (preds bl b) i q:=⟨hq⟩
  repeat (first|refine g_then ?_|refine g_seq ?_|refine g_block ?_|refine g_skip ?_)
  refine g_drawX [Ent.vec (some ⟨ab,ao,none⟩) (preds bl b).length ac 3 1 ((preds bl b).map intN),Ent.box p5 [.int .i64 dst,.slice va vn vc] 86,Ent.box p3 [nm,pa,re,.slice ba n bc] 35] (fun _ : Option Addr × Nat=>True) (fun x=>[(9,.int .i64 i),(8,.slice x.1 (i + 1 : Nat) x.2),(7,.slice (some ⟨ab,ao,none⟩) (preds bl b).length ac),(5,.pointer (some ⟨p5,0,none⟩)),(3,.pointer (some ⟨p3,0,none⟩))]) (fun x=>[Ent.vec x.1 (i + 1) x.2 100 3 (((edgesL bl b src).take (i + 1)).flatMap edC),Ent.vec (some ⟨ab,ao,none⟩) (preds bl b).length ac 3 1 ((preds bl b).map intN),Ent.box p5 [.int .i64 dst,.slice va vn vc] 86,Ent.box p3 [nm,pa,re,.slice ba n bc] 35]) mixed (.cons _ (.refl _)) ?_ fun x _=>?_
  ·skip
   refine h_take 0 rfl (by decide +kernel) (.cons _ (.refl _)) ?_
   refine h_take 1 rfl (by decide +kernel) (.cons _ (.refl _)) ?_
   refine h_take 2 rfl (by decide +kernel) (.cons _ (.refl _)) ?_
   refine h_take 3 rfl (by decide +kernel) (.cons _ (.refl _)) ?_
   refine h_take 4 rfl (by decide +kernel) (.cons _ (.refl _)) ?_
   refine h_take 5 rfl (by decide +kernel) (.cons _ (.refl _)) ?_
   refine h_take 6 rfl (by decide +kernel) (.cons _ (.refl _)) ?_
   refine h_take 7 rfl (by decide +kernel) (.cons _ (.refl _)) ?_
   refine h_take 8 rfl (by decide +kernel) (.cons _ (.refl _)) ?_
   refine h_take 9 rfl (by decide +kernel) (.cons _ (.refl _)) ?_
   rw [show intN q = Value.int .i64 (q : Int) from rfl]
   refine h_take 10 rfl (by decide +kernel) (.cons _ (.refl _)) ?_
   refine h_one 11 (by decide +kernel) ?_
   refine o_build1 11 rfl (by decide +kernel) (.cons _ (.refl _)) fun nb _=>?_
   refine h_append 12 1 rfl rfl (by decide +kernel) (by omega) (by omega) (by decide +kernel) (fun _=>List.Sublist.cons _ (.cons _ (.refl _))) fun na nc=>?_
   simp only [List.set_cons_succ,List.set_cons_zero]
   refine g_forget 8 ?_
   refine h_take 13 rfl (by decide +kernel) (.cons _ (.cons _ (.refl _))) ?_
   refine h_end (by decide +kernel) ?_
   refine g_mem (na,nc) trivial (by repeat (first|exact trivial|refine ⟨rfl,?_⟩)) ?_
   rw [List.take_add_one,hed,List.flatMap_append]
   exact List.Sublist.cons _ (.refl _)
  ·obtain ⟨na,nc⟩:=x
   repeat (first|refine g_op rfl ?_|refine g_then ?_|refine g_nil ?_|refine g_region ?_|refine g_opS rfl ?_|refine g_inBlock ?_|refine g_add rfl (by omega) (by omega) ?_)
   exact g_next (i + 1,na,nc) hlt (by simp only; omega) (by repeat (first|exact trivial|refine ⟨rfl,?_⟩)) (.refl _)
 ·obtain rfl : i = (preds bl b).length:=by have:=h1; simp at this; omega
  repeat (first|refine g_op rfl ?_|refine g_then ?_|refine g_nil ?_|refine g_region ?_|refine g_seq ?_|refine g_exit ?_|refine g_thenExit ?_|refine g_exitHere ?_|refine g_ret ?_)
  refine g_ret1 rfl fun w hw=>⟨(ea,ec),rfl,?_,trivial⟩
  rw [← hel,List.take_length] at hw
  rw [hel] at hw
  exact hw.sel [0] (by decide)
def rowAt (l : List (Int × LVal)) (b : Nat) : List LVal:=match l.find? fun e=>decide (e.1 = (b : Int)) with|some e=>[e.2]|none=>[]
def rowR (l : List (Int × LVal)) (n : Nat) : List LVal:=(List.range n).flatMap (rowAt l)
theorem rowR_succ (l : List (Int × LVal)) (n : Nat) : rowR l (n + 1) = rowR l n++rowAt l n:=by
 unfold rowR
 rw [List.range_succ,List.flatMap_append]
 simp
theorem rowAt_len (l : List (Int × LVal)) (b : Nat) : (rowAt l b).length ≤ 1:=by
 unfold rowAt
 split <;> simp
theorem rowR_len (l : List (Int × LVal)) : ∀ n,(rowR l n).length ≤ n
 | 0=>by simp [rowR]
 | n + 1=>by
  rw [rowR_succ,List.length_append]
  have:=rowR_len l n
  have:=rowAt_len l n
  omega
theorem refRow_c (a : Option Addr) (m c : Nat) (l : List (Int × LVal)) (n : Nat) (hn : n ≤ 1000) (w0 : World) (hs : SlAt w0 (.slice a m c) 3 l EdV) :
  Ret Tryz.prog 62 [.slice a m c,.int .i64 n] w0 fun u w'=>∃ x : Option Addr × Nat,u = .slice x.1 (rowR l n).length x.2∧Wd NoS w0 [Ent.vec x.1 (rowR l n).length x.2 46 2 ((rowR l n).flatMap vlC)] w'∧True:=by
 obtain ⟨hm,_,hmb,eb,eo,ha,hel⟩:=hs.at
 refine ret_enter Tryz.func62 rfl Tryz.ntmps62 rfl (Wd.nil NoS w0) ?_
 repeat (first|refine g_op rfl ?_|refine g_then ?_|refine g_nil ?_|refine g_region ?_|refine g_seq ?_|refine g_block ?_)
 refine g_nilVec 46 2 ?_
 refine g_loop (fun x : Nat × Option Addr × Nat=>x.1 ≤ n) (fun x=>[(6,.int .i64 x.1),(5,.slice x.2.1 (rowR l x.1).length x.2.2),(0,.slice a m c),(1,.int .i64 n)]) (fun x=>[Ent.vec x.2.1 (rowR l x.1).length x.2.2 46 2 ((rowR l x.1).flatMap vlC)]) (fun x=>n - x.1) (0,none,0) (Nat.zero_le _) (g_done (by repeat (first|exact trivial|refine ⟨rfl,?_⟩)) (.refl _)) fun x hb=>?_
 obtain ⟨b,ra,rc⟩:=x
 simp only at hb ⊢
 repeat (first|refine g_op rfl ?_|refine g_then ?_|refine g_nil ?_|refine g_region ?_|refine g_seq ?_)
 refine g_cond (fun h1=>?_) (fun h1=>?_)
 ·have hlt : b < n:=by simpa using h1
  have hrl:=rowR_len l b
  repeat (first|refine g_op rfl ?_|refine g_then ?_|refine g_nil ?_|refine g_region ?_|refine g_seq ?_|refine g_block ?_|refine g_skip ?_)
  refine g_loop (fun (i : Nat)=>i ≤ m∧∀ (j : Nat) e,j < i→l[j]? = some e→e.1 ≠ (b : Int)) (fun i=>[(7,.int .i64 i),(6,.int .i64 b),(5,.slice ra (rowR l b).length rc),(0,.slice a m c),(1,.int .i64 n)]) (fun _=>[Ent.vec ra (rowR l b).length rc 46 2 ((rowR l b).flatMap vlC)]) (fun i=>m - i) 0 ⟨Nat.zero_le _,fun j e hj=>by omega⟩ (g_done (by repeat (first|exact trivial|refine ⟨rfl,?_⟩)) (.refl _)) fun i ⟨hi,hno⟩=>?_
  repeat (first|refine g_op rfl ?_|refine g_then ?_|refine g_nil ?_|refine g_region ?_|refine g_seq ?_)
  refine g_cond (fun h2=>?_) (fun h2=>?_)
  ·have hlt2 : i < m:=by simpa using h2
   obtain ⟨e,he⟩ : ∃ e,l[i]? = some e:=⟨_,List.getElem?_eq_getElem (by omega)⟩
   have had : AddrIs a eb eo:=⟨ha (ne_of_get he)⟩
   have hli : LtIs i m:=⟨hlt2⟩
   obtain ⟨_,hcs,rfl⟩:=hel i e he
   unfold edC at hcs
   have hci : CellsIs w0 eb (eo + i * 3) _:=⟨hcs⟩
   repeat (first|refine g_op rfl ?_|refine g_then ?_|refine g_nil ?_|refine g_region ?_|refine g_seq ?_|refine g_block ?_|refine g_skip ?_)
   refine g_cond (fun h3=>?_) (fun h3=>?_)
   ·have h3' : e.1 = (b : Int):=by simpa using h3
    have hrow : rowAt l b = [e.2]:=by
     unfold rowAt
     have : l.find? (fun e=>decide (e.1 = (b : Int))) = some e:=by
      rw [List.find?_eq_some_iff_getElem]
      refine ⟨by simpa using h3',i,(List.getElem?_eq_some_iff.1 he).1,(List.getElem?_eq_some_iff.1 he).2,fun j hj=>?_⟩
      simp only [Bool.not_eq_true',decide_eq_false_iff_not]
      exact hno j _ hj (List.getElem?_eq_getElem _)
     rw [this]
    repeat (first|refine g_op rfl ?_|refine g_region ?_|refine g_seq ?_|refine g_build1 rfl rfl fun _ _=>?_)
    refine g_appendAt 1 rfl rfl (by decide +kernel) (by omega) (by omega) fun na nc=>?_
    simp only [List.set_cons_succ,List.set_cons_zero]
    repeat (first|refine g_op rfl ?_|refine g_then ?_|refine g_nil ?_|refine g_region ?_|refine g_opS rfl ?_|refine g_inBlock ?_|refine g_add rfl (by omega) (by omega) ?_|refine g_exit ?_|refine g_thenExit ?_|refine g_exitHere ?_|refine g_exitOn rfl ?_)
    have e1 : (rowR l b).length + 1 = (rowR l (b + 1)).length:=by rw [rowR_succ,hrow,List.length_append]; rfl
    have e2 : (rowR l b).flatMap vlC++[.bool e.2.reg,.int .i64 e.2.n] = (rowR l (b + 1)).flatMap vlC:=by rw [rowR_succ,hrow,List.flatMap_append]; rfl
    rw [e1,e2]
    exact g_next (b + 1,na,nc) hlt (by simp only; omega) (by repeat (first|exact trivial|refine ⟨rfl,?_⟩)) (.cons _ (.refl _))
   ·have h3' : e.1 ≠ (b : Int):=by simpa using h3
    repeat (first|refine g_op rfl ?_|refine g_then ?_|refine g_nil ?_|refine g_region ?_|refine g_opS rfl ?_|refine g_inBlock ?_|refine g_skip ?_|refine g_add rfl (by omega) (by omega) ?_)
    refine g_next (i + 1) ⟨hlt2,fun j x hj hx=>?_⟩ (by omega) (by repeat (first|exact trivial|refine ⟨rfl,?_⟩)) (.refl _)
    by_cases ej : j = i
    ·subst ej
     rw [he] at hx
     obtain rfl:=Option.some.inj hx
     exact h3'
    ·exact hno j x (by omega) hx
  ·have hrow : rowAt l b = []:=by
    unfold rowAt
    rw [List.find?_eq_none.2 fun x hx=>?_]
    obtain ⟨j,hj⟩:=List.getElem?_of_mem hx
    have:=hno j x (by have:=(List.getElem?_eq_some_iff.1 hj).1; have:=h2; simp at this; omega) hj
    simpa using this
   have e1 : rowR l (b + 1) = rowR l b:=by rw [rowR_succ,hrow,List.append_nil]
   repeat (first|refine g_op rfl ?_|refine g_then ?_|refine g_nil ?_|refine g_region ?_|refine g_opS rfl ?_|refine g_inBlock ?_|refine g_add rfl (by omega) (by omega) ?_|refine g_exit ?_|refine g_thenExit ?_|refine g_exitHere ?_)
   rw [← e1]
   exact g_next (b + 1,ra,rc) hlt (by simp only; omega) (by repeat (first|exact trivial|refine ⟨rfl,?_⟩)) (.refl _)
 ·obtain rfl : b = n:=by have:=h1; simp at this; omega
  repeat (first|refine g_op rfl ?_|refine g_then ?_|refine g_nil ?_|refine g_region ?_|refine g_seq ?_|refine g_exit ?_|refine g_thenExit ?_|refine g_exitHere ?_|refine g_ret ?_)
  exact g_ret1 rfl fun w hw=>⟨(ra,rc),rfl,hw.sel [0] (by decide),trivial⟩
end Go.Proofs.YtpadjpplidlfeaaGreatDoor
namespace Go.Proofs.YtpadjpplidlfeaaGreatDoor
open Go Go.RowKit
theorem preds_srt (bl : List LBlock) (t : Nat) : (preds bl t).Pairwise (· < ·):=List.pairwise_lt_range.sublist List.filter_sublist
theorem preds_lt (bl : List LBlock) (t : Nat) : ∀ q ∈ preds bl t,q < bl.length:=fun q hq=>List.mem_range.1 (List.mem_filter.1 hq).1
end Go.Proofs.YtpadjpplidlfeaaGreatDoor

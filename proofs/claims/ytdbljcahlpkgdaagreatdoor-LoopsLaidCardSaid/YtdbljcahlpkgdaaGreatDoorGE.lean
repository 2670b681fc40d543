/- Texts joined: ReachG SureC HangA HangB HangC HangLaw OrderA PostB OrderB. -/
import Derived.Test.YtdbljcahlpkgdaaGreatDoorGD
namespace Go.Proofs.YtdbljcahlpkgdaaGreatDoor
open Go Go.RowKit
attribute [local irreducible] wpListIn Code.wpIn Exit.then Exit.inBlock bodyPost wpQuiet wpAnyIn
set_option maxHeartbeats 4000000
theorem check_pos {u : LUnit} (h : (checkL u).1 = 0) {k : Nat} {X : LFunc} (hX : u.funcs[k]? = some X) : 0 < X.blocks.length:=by
 unfold checkL at h
 split at h
 ·cases h
 ·split at h
  ·rename_i h2; exact absurd h h2
  ·split at h
   ·rename_i h2; exact absurd h h2
   ·rename_i h3
    have hz:=firstI_zero (by simpa using h3)
    have:=hz k (List.getElem?_eq_some_iff.1 hX).1
    simp only [headAt,at0,hX,headErr] at this
    refine Classical.byContradiction fun hn=>?_
    have e : X.blocks.length = 0:=by omega
    rw [e] at this
    simp [within] at this
    split at this
    ·omega
    ·split at this
     ·omega
     ·split at this <;> omega
theorem reached_c (nm pa re : Value) (bl : List LBlock) (bs : Value) (hbsl : ∃ a n c,bs = .slice a n c) (w0 : World) (hbs : SlAt w0 bs 6 bl BlockV) (hlen : bl.length ≤ 100) (hok : GoodB bl) (hb : 0 < bl.length) :
  Ret Tryz.prog 56 [.agg #[nm,pa,re,bs]] w0 fun u w'=>∃ x : Option Addr × Nat × List Nat,u = .slice x.1 x.2.2.length x.2.1∧Wd NoS w0 [Ent.vec x.1 x.2.2.length x.2.1 3 1 (x.2.2.map intN)] w'∧FromR bl (-1) 0 x.2.2:=by
 obtain ⟨ba,n,bc,rfl⟩:=hbsl
 refine ret_enter Tryz.func56 rfl Tryz.ntmps56 rfl (Wd.nil NoS w0) ?_
 repeat (first|refine g_op rfl ?_|refine g_then ?_|refine g_nil ?_|refine g_region ?_|refine g_seq ?_|refine g_box rfl fun _ _=>?_)
 refine g_callE (val:=fun x : Option Addr × Nat × List Nat=>.slice x.1 x.2.2.length x.2.1) (E:=fun x=>[Ent.vec x.1 x.2.2.length x.2.1 3 1 (x.2.2.map intN)]) (φ:=fun x=>FromR bl (-1) 0 x.2.2) rfl (fun w hw=>refFrom_c _ _ _ bl _ 0 (-1) w (hbs.keep keeps_block hw.chg) hlen hok hb) fun x hx=>?_
 obtain ⟨xa,xc,l⟩:=x
 simp only [List.cons_append,List.nil_append] at hx ⊢
 repeat (first|refine g_then ?_|refine g_nil ?_|refine g_opS rfl ?_|refine g_ret ?_)
 exact g_ret1 rfl fun w hw=>⟨(xa,xc,l),rfl,hw.sel [0] (by decide),hx⟩
end Go.Proofs.YtdbljcahlpkgdaaGreatDoor
namespace Go.Proofs.YtdbljcahlpkgdaaGreatDoor
open Go Go.RowKit
attribute [local irreducible] wpListIn Code.wpIn Exit.then Exit.inBlock bodyPost wpQuiet wpAnyIn
set_option maxHeartbeats 2000000
theorem ints_c (a b : Value) (l m : List Int) (w0 : World) (ha : SlAt w0 a 1 l IntV) (hb : SlAt w0 b 1 m IntV) : RetV Tryz.prog 52 [a,b] w0 (.bool (decide (l = m))):=by
 obtain ⟨aa,an,ac,ab,ao,rfl,han,hanc,hanb,hac,haa,hael⟩:=ha
 obtain ⟨ba,bn,bc,bb,bo,rfl,hbn,hbnc,hbnb,hbc,hba,hbel⟩:=hb
 refine ret_enter Tryz.func52 rfl Tryz.ntmps52 rfl (Wd.nil NoS w0) ?_
 repeat (first|refine g_op rfl ?_|refine g_then ?_|refine g_nil ?_|refine g_region ?_|refine g_seq ?_)
 refine g_cond (fun h1=>?_) (fun h1=>?_)
 ·repeat (first|refine g_then ?_|refine g_nil ?_|refine g_region ?_|refine g_seq ?_|refine g_opS rfl ?_|refine g_ret ?_|refine g_thenRet ?_)
  refine g_retV rfl ?_
  rw [decide_eq_false]
  rintro rfl
  simp at h1; omega
 have hlen : an = bn:=by simp at h1; omega
 repeat (first|refine g_op rfl ?_|refine g_then ?_|refine g_nil ?_|refine g_region ?_|refine g_seq ?_|refine g_block ?_|refine g_skip ?_)
 refine g_loop (fun (i : Nat)=>i ≤ an∧∀ j,j < i→l[j]? = m[j]?) (fun i=>[(5,.int .i64 i),(0,.slice aa an ac),(1,.slice ba bn bc)]) (fun _=>[]) (fun i=>an - i) 0 ⟨Nat.zero_le _,by simp⟩ (g_done (by repeat (first|exact trivial|refine ⟨rfl,?_⟩)) (by simp)) fun i ⟨hi,hall⟩=>?_
 repeat (first|refine g_op rfl ?_|refine g_then ?_|refine g_nil ?_|refine g_region ?_|refine g_seq ?_)
 refine g_cond (fun h2=>?_) (fun h2=>?_)
 ·have hlt : i < an:=by simpa using h2
  obtain ⟨x,hx⟩:=get_lt han hlt
  obtain ⟨y,hy⟩:=get_lt hbn (show i < bn by omega)
  have had : AddrIs aa ab ao:=⟨haa (ne_of_get hx)⟩
  have hbd : AddrIs ba bb bo:=⟨hba (ne_of_get hy)⟩
  have hli : LtIs i an:=⟨hlt⟩
  have hlj : LtIs i bn:=⟨by omega⟩
  obtain ⟨cs,hcs,rfl,_⟩:=hael i x hx
  obtain ⟨cs2,hcs2,rfl,_⟩:=hbel i y hy
  have hci : CellsIs w0 ab (ao + i * 1) _:=⟨hcs⟩
  have hcj : CellsIs w0 bb (bo + i * 1) _:=⟨hcs2⟩
  repeat (first|refine g_then ?_|refine g_seq ?_|refine g_block ?_|refine g_skip ?_)
  refine g_draw mixed (by kernel_rfl) ?_
  repeat (first|refine q_op rfl ?_|refine q_nil ?_)
  repeat (refine g_then ?_)
  refine g_cond (fun h3=>?_) (fun h3=>?_)
  ·repeat (first|refine g_op rfl ?_|refine g_then ?_|refine g_nil ?_|refine g_region ?_|refine g_seq ?_|refine g_ret ?_|refine g_thenRet ?_|refine g_blockRet ?_)
   refine g_retV rfl ?_
   rw [decide_eq_false]
   rintro rfl
   rw [hx] at hy
   simp only [Option.some.injEq] at hy
   simp [hy] at h3
  ·have hxy : x = y:=by simpa using h3
   repeat (first|refine g_op rfl ?_|refine g_then ?_|refine g_nil ?_|refine g_region ?_|refine g_opS rfl ?_|refine g_inBlock ?_|refine g_skip ?_|refine g_add rfl (by omega) (by omega) ?_)
   refine g_next (i + 1) ⟨hlt,fun j hj=>?_⟩ (by omega) (by repeat (first|exact trivial|refine ⟨rfl,?_⟩)) (by simp)
   by_cases hji : j = i
   ·subst hji; rw [hx,hy,hxy]
   ·exact hall j (by omega)
 ·have hge : i = an:=by have:=h2; simp at this; omega
  repeat (first|refine g_op rfl ?_|refine g_then ?_|refine g_nil ?_|refine g_region ?_|refine g_seq ?_|refine g_exit ?_|refine g_thenExit ?_|refine g_exitHere ?_|refine g_ret ?_)
  refine g_retV rfl ?_
  rw [decide_eq_true]
  apply List.ext_getElem?
  intro j
  by_cases hj : j < an
  ·exact hall j (by omega)
  ·rw [List.getElem?_eq_none (by omega),List.getElem?_eq_none (by omega)]
theorem gridL_bd {R : Nat→Nat→Prop} {n : Nat} (hn : n ≤ 100) {l : List Int} (h : l ∈ gridL R n) : l.length ≤ 1000∧∀ x ∈ l,inI x:=by
 classical
 obtain ⟨b,hb,rfl⟩:=List.mem_map.1 h
 have:=gridTo_bd R hn b n b hn
 simp only [gridTo,Nat.lt_irrefl,if_false,if_true] at this
 exact ⟨by omega,this.2⟩
end Go.Proofs.YtdbljcahlpkgdaaGreatDoor
namespace Go.Proofs.YtdbljcahlpkgdaaGreatDoor
open Go Go.RowKit
section
variable {P : Program} {ro : Option Nat} {N : Nat} {ds : List Deferred} {S : Nat→Prop} {w0 : World} {L L' : List (Nat × Value)} {H H' : List Ent} {ops : Array Oper} {rest : List Oper} {Q : Exit→Act→World→Prop} {x y : Operand}
theorem g_build0 {d ty T e s by' : Nat} {zs : List Value} {pos : String} {aft : Array Go.Edge} [h : ElemInfo P T e s by' zs] (hd : okPut d N L = true)
  (k : ∀ b,w0.heap.size ≤ b→G N ds S w0 ((d,.slice (some ⟨b,0,none⟩) 0 0)::L) (Ent.vec (some ⟨b,0,none⟩) 0 0 e s []::H) (wpListIn (FW ro) 0 P ops Q rest)) : G N ds S w0 L H (wpListIn (FW ro) 0 P ops Q (⟨some d,.buildSlice T 0 #[],ty,pos,aft,none⟩::rest)):=by
 intro a w hS
 obtain ⟨i,zz,hi,_,_,_,_⟩:=h.get
 refine step_val (v:=.slice (some ⟨w.heap.size,0,none⟩) 0 0) (w':=w.alloc (.cells #[] e)) rfl (fun _ h=>by cases h) ?_ ?_
 ·have hr : (Instr.buildSlice T 0 #[]).run P w = .ok (.slice (some ⟨w.heap.size,0,none⟩) 0 0) (w.alloc (.cells #[] e)):=by
   simp [Instr.buildSlice,run_underlying h.und,sizeOf,typeInfo,hi,Instr.fill,newRow]
   congr 2
   exact Array.eq_empty_of_size_eq_zero (by simp)
  simp [execOp,hr]
 ·exact k _ hS.wd.size _ _ ⟨hS.fr.putOk hd _,hS.wd.vecNew e s 0 [] (by simp) (by simp [maxLen])⟩
theorem set_self {α : Type} {l : List α} {k : Nat} {e : α} (h : l[k]? = some e) : l.set k e = l:=by
 apply List.ext_getElem?
 intro i
 rw [List.getElem?_set]
 split
 ·rename_i hi; subst hi
  rw [if_pos (List.getElem?_eq_some_iff.1 h).1,h]
 ·rfl
theorem g_appendI {d ty T e by' : Nat} {z : Value} {pos : String} {aft : Array Go.Edge} {ad a2 : Option Addr} {n c m c2 k : Nat} {xs : List Value} [h : ElemInfo P T e 1 by' [z]] [hx : Ev L x (.slice ad n c)] [hy : Ev L y (.slice a2 m c2)]
  [hv : VecIn H ad n c k e 1 xs] (hd : okPut d N L = true) (l : List Int) (hsl : ∀ w,Wd S w0 H w→SlAt w (.slice a2 m c2) 1 l IntV) (hbytes : (n + m) * by' ≤ 140737488355328) (h63 : n + m ≤ 140737488355328)
  {F : Ent→List Ent} [hF : SetFn H k F] (kk : ∀ a' c',G N ds S w0 ((d,.slice a' (n + m) c')::L) (F (Ent.vec a' (n + m) c' e 1 (xs++l.map (.int .i64)))) (wpListIn (FW ro) 0 P ops Q rest)) : G N ds S w0 L H (wpListIn (FW ro) 0 P ops Q (⟨some d,.call { callee:=.builtin .append,args:=#[x,y],argTypes:=#[T,T] },ty,pos,aft,none⟩::rest)):=by
 intro a w hS
 obtain ⟨a2',m',c2',b,o,hval,hm,hmc,_,_,ha,hel⟩:=hsl w hS.wd
 simp only [Value.slice.injEq] at hval
 obtain ⟨rfl,rfl,rfl⟩:=hval
 by_cases h0 : m = 0
 ·subst h0
  have hl : l = []:=List.eq_nil_of_length_eq_zero hm.symm
  subst hl
  obtain ⟨i,zz,hi,_,_,_,_⟩:=h.get
  have hnc : n ≤ c:=by
   obtain ⟨_,h2⟩:=hS.wd.get hv.at'
   rcases h2 with ⟨_,h2,h3⟩|⟨_,_,_,_,h3,_⟩ <;> omega
  have hr : (Builtin.append_ #[T,T] ty #[.slice ad n c,.slice a2 0 c2]).run P w = .ok (.slice ad n c) w:=by
   cases ad <;> cases a2 <;> simp [Builtin.append_,run_underlying h.und,sizeOf,typeInfo,hi,Builtin.lenOf,Builtin.firstCells,hnc,storeCells,loadCells,loadCellsFrom]
  refine step_val (v:=.slice ad n c) (w':=w) rfl (fun _ h=>by cases h) ?_ ?_
  ·simp [execOp,resolve,invoke,builtin,hx.eq _ _ _ hS.fr,hy.eq _ _ _ hS.fr,hr]
  ·have:=kk ad c
   simp only [List.map_nil,List.append_nil,Nat.add_zero] at this
   rw [← hF.eq,set_self hv.at'] at this
   exact this _ _ ⟨hS.fr.putOk hd _,hS.wd⟩
 ·have hne : l ≠ []:=by rintro rfl; simp at hm; exact h0 hm
  have ha:=ha hne
  subst ha
  obtain ⟨a',c',w',hr,hw'⟩:=hS.wd.append (P:=P) (ty:=ty) (c2:=c2) (a2:=⟨b,o,none⟩) (m:=m) (news:=l.map (.int .i64)) h (by omega) hv.at' (by omega) (by simp [hm]) (fun j u hj=>by
   rw [List.getElem?_map] at hj
   obtain ⟨q,hq,rfl⟩:=Option.map_eq_some_iff.1 hj
   obtain ⟨cs,hc,rfl,_⟩:=hel j q hq
   have:=hc 0 _ rfl
   rw [Addr.add_lit]
   simpa using this) (fun u hu=>by obtain ⟨q,_,rfl⟩:=List.mem_map.1 hu; rfl) hbytes h63 rfl
  refine step_val (v:=.slice a' (n + m) c') (w':=w') rfl (fun _ h=>by cases h) ?_ ?_
  ·simp [execOp,resolve,invoke,builtin,hx.eq _ _ _ hS.fr,hy.eq _ _ _ hS.fr,hr]
  ·rw [hF.eq] at hw'
   exact kk a' c' _ _ ⟨hS.fr.putOk hd _,hw'⟩
end
attribute [local irreducible] wpListIn Code.wpIn Exit.then Exit.inBlock bodyPost wpQuiet wpAnyIn
set_option maxHeartbeats 4000000
instance (x : Nat) : OneV (intN x):=⟨rfl⟩
theorem rev_swap {l l' : List Nat} {i j : Nat} {x y : Nat} (hl : l'.length = l.length) (hij : i < j) (hj : i + j + 1 = l.length) (h : ∀ k,k < l.length→l'[k]? = if k < i ∨ j < k then l[l.length - 1 - k]? else l[k]?) (hx : l'[i]? = some x) (hy : l'[j]? = some y) :
  ∀ k,k < l.length→((l'.set i y).set j x)[k]? = if k < i + 1 ∨ j - 1 < k then l[l.length - 1 - k]? else l[k]?:=by
 intro k hk
 have hi:=h i (by omega)
 have hjj:=h j (by omega)
 rw [if_neg (by omega),hx] at hi
 rw [if_neg (by omega),hy] at hjj
 rw [List.getElem?_set,List.getElem?_set]
 by_cases e1 : j = k
 ·subst e1
  rw [if_pos rfl,if_pos (by simp; omega),if_pos (by omega),show l.length - 1 - j = i by omega,hi]
 ·rw [if_neg e1]
  by_cases e2 : i = k
  ·subst e2
   rw [if_pos rfl,if_pos (by omega),if_pos (by omega),show l.length - 1 - i = j by omega,hjj]
  ·rw [if_neg e2,h k hk]
   by_cases e3 : k < i ∨ j < k
   ·rw [if_pos e3,if_pos (by omega)]
   ·rw [if_neg e3,if_neg (by omega)]
theorem rev_done {l l' : List Nat} {i : Nat} (hl : l'.length = l.length) (hi : l.length ≤ 2 * i + 1) (h : ∀ k,k < l.length→l'[k]? = if k < i ∨ (l.length : Int) - 1 - i < k then l[l.length - 1 - k]? else l[k]?) : l' = l.reverse:=by
 apply List.ext_getElem?
 intro k
 by_cases hk : k < l.length
 ·rw [h k hk,List.getElem?_reverse hk]
  by_cases e : k < i ∨ (l.length : Int) - 1 - i < k
  ·rw [if_pos e]
  ·rw [if_neg e,show l.length - 1 - k = k by omega]
 ·rw [List.getElem?_eq_none (by omega),List.getElem?_eq_none (by rw [List.length_reverse]; omega)]
theorem reverse_c (a : Option Addr) (c : Nat) (l : List Nat) (hlen : l.length ≤ 100000) (w : World) (hw : Wd (fps [Ent.vec a l.length c 3 1 (l.map intN)]) w [Ent.vec a l.length c 3 1 (l.map intN)] w) :
  Ret Tryz.prog 103 [.slice a l.length c] w fun u w'=>∃ _ : Unit,u = .tuple #[]∧Wd (fps [Ent.vec a l.length c 3 1 (l.map intN)]) w [Ent.vec a l.length c 3 1 (l.reverse.map intN)] w'∧True:=by
 refine ret_enter Tryz.func103 rfl Tryz.ntmps103 rfl hw ?_
 generalize fps [Ent.vec a l.length c 3 1 (l.map intN)] = SS
 repeat (first|refine g_op rfl ?_|refine g_then ?_|refine g_nil ?_|refine g_region ?_|refine g_seq ?_|refine g_block ?_|refine g_sub rfl (by omega) (by omega) ?_)
 refine g_loop (fun (x : Nat × Int × Option Addr × List Nat)=>x.2.1 = (l.length : Int) - 1 - x.1∧x.1 ≤ l.length∧x.2.2.2.length = l.length∧x.2.2.1 = a∧∀ k,k < l.length→x.2.2.2[k]? = if k < x.1 ∨ (l.length : Int) - 1 - x.1 < k then l[l.length - 1 - k]? else l[k]?) (fun x=>[(2,.int .i64 x.1),(3,.int .i64 x.2.1),(0,.slice x.2.2.1 l.length c)])
  (fun x=>[Ent.vec x.2.2.1 l.length c 3 1 (x.2.2.2.map intN)]) (fun x=>l.length - x.1) (0,(l.length : Int) - 1,a,l) ⟨by simp,Nat.zero_le _,rfl,rfl,fun k hk=>by rw [if_neg (by simp only; omega)]⟩ (g_done (by repeat (first|exact trivial|refine ⟨rfl,?_⟩)) (.refl _)) fun x ⟨hj,hi,hl,ha,hall⟩=>?_
 obtain ⟨i,j,a',l'⟩:=x
 simp only at hj hi hl ha hall ⊢
 repeat (first|refine g_op rfl ?_|refine g_then ?_|refine g_nil ?_|refine g_region ?_|refine g_seq ?_)
 refine g_cond (fun h1=>?_) (fun h1=>?_)
 ·have hlt : (i : Int) < j:=by simpa using h1
  obtain ⟨jn,rfl⟩ : ∃ jn : Nat,j = jn:=⟨j.toNat,by omega⟩
  refine g_vec 0 rfl (by omega) fun rb ro hra=>?_
  obtain ⟨x,hx⟩ : ∃ x,l'[i]? = some x:=⟨_,List.getElem?_eq_getElem (by omega)⟩
  obtain ⟨y,hy⟩ : ∃ y,l'[jn]? = some y:=⟨_,List.getElem?_eq_getElem (by omega)⟩
  rw [hra]
  have hli : LtIs i l.length:=⟨by omega⟩
  have hlj : LtIs jn l.length:=⟨by omega⟩
  have he1 : ElAt l' i x:=⟨hx⟩
  have he2 : ElAt l' jn y:=⟨hy⟩
  have he3 : ElAt (l'.set i y) jn y:=⟨by rw [List.getElem?_set,if_neg (by omega),hy]⟩
  have he4 : ElAt (l'.set jn x) i x:=⟨by rw [List.getElem?_set,if_neg (by omega),hx]⟩
  repeat (first|refine g_then ?_|refine g_seq ?_|refine g_block ?_|refine g_skip ?_)
  refine g_drawW [(2,.int .i64 i),(3,.int .i64 jn),(0,.slice (some ⟨rb,ro,none⟩) l.length c)] [Ent.vec (some ⟨rb,ro,none⟩) l.length c 3 1 (((l'.set i y).set jn x).map intN)] mixed ?_ ?_
  ·repeat' (first|refine g_take 0 rfl (by decide +kernel) ?_|refine g_take 1 rfl (by decide +kernel) ?_|refine g_take 2 rfl (by decide +kernel) ?_|refine g_take 3 rfl (by decide +kernel) ?_|refine g_take 4 rfl (by decide +kernel) ?_|refine g_take 5 rfl (by decide +kernel) ?_|refine g_take 6 rfl (by decide +kernel) ?_|refine g_take 8 rfl (by decide +kernel) ?_|refine g_take 9 rfl (by decide +kernel) ?_|refine g_take 10 rfl (by decide +kernel) ?_|refine g_take 12 rfl (by decide +kernel) ?_|refine g_take 14 rfl (by decide +kernel) ?_|refine g_any0 (by decide +kernel) ?_|refine g_any (by decide +kernel) ?_|refine any_nil|refine any_skip (by decide +kernel) ?_|refine any_cons ?_ ?_|refine g_op rfl ?_|refine g_then ?_|refine g_nil ?_|refine g_storeV ?_)
   all_goals exact g_done (by repeat (first|exact trivial|refine ⟨rfl,?_⟩)) (.refl _)
  ·repeat (first|refine g_op rfl ?_|refine g_then ?_|refine g_nil ?_|refine g_region ?_|refine g_opS rfl ?_|refine g_inBlock ?_|refine g_add rfl (by omega) (by omega) ?_|refine g_sub rfl (by omega) (by omega) ?_)
   refine g_next (i + 1,(jn : Int) - 1,some ⟨rb,ro,none⟩,(l'.set i y).set jn x) ⟨by simp only; omega,by simp only; omega,by simpa using hl,by rw [← hra]; exact ha,fun k hk=>?_⟩ (by simp only; omega) (by repeat (first|exact trivial|refine ⟨rfl,?_⟩)) (.refl _)
   have:=rev_swap hl (by omega) (by omega) (fun k hk=>by
    rw [hall k hk]
    by_cases e : k < i ∨ jn < k
    ·rw [if_pos e,if_pos (by omega)]
    ·rw [if_neg e,if_neg (by omega)]) hx hy k hk
   rw [this]
   by_cases e : k < i + 1 ∨ jn - 1 < k
   ·rw [if_pos e,if_pos (by simp only; omega)]
   ·rw [if_neg e,if_neg (by simp only; omega)]
 ·have hge : l' = l.reverse:=rev_done hl (by simp at h1; omega) hall
  repeat (first|refine g_exit ?_|refine g_thenExit ?_|refine g_exitHere ?_)
  refine g_end0 rfl fun w' hw'=>⟨(),rfl,?_,trivial⟩
  rw [← hge,← ha]
  exact hw'
end Go.Proofs.YtdbljcahlpkgdaaGreatDoor
namespace Go.Proofs.YtdbljcahlpkgdaaGreatDoor
open Go Go.RowKit
attribute [local irreducible] wpListIn Code.wpIn Exit.then Exit.inBlock bodyPost wpQuiet wpAnyIn
set_option maxHeartbeats 4000000
theorem Wd.ints {S : Nat→Prop} {w0 w : World} {a : Option Addr} {n c e : Nat} {l : List Int} (h : Wd S w0 [Ent.vec a n c e 1 (l.map (.int .i64))] w) (hn : n = l.length) (hb : n ≤ 100000) (hi : ∀ x ∈ l,inI x) :
  Wd S w0 [⟨fps [Ent.vec a n c e 1 (l.map (.int .i64))],fun w=>SlAt w (.slice a n c) 1 l IntV⟩] w:=by
 have h1 : Wd S w0 ([Ent.vec a n c e 1 (l.map (.int .i64))]++[]) w:=by rw [List.append_nil]; exact h
 refine h1.pack _ fun w2 hw2=>?_
 refine hw2.slAt (k:=0) rfl hn (by omega) fun j y hy=>⟨[.int .i64 y],fun k v hk=>?_,rfl,hi y (List.mem_of_getElem? hy)⟩
 match k,hk with
 | 0,hk=>simpa [hy] using hk
theorem orderOf_c (nm pa re : Value) (bl : List LBlock) (bs : Value) (hbsl : ∃ a n c,bs = .slice a n c) (w0 : World) (hbs : SlAt w0 bs 6 bl BlockV) (hlen : bl.length ≤ 100) (hok : GoodB bl) (hpos : 0 < bl.length) :
  Ret Tryz.prog 89 [.agg #[nm,pa,re,bs]] w0 fun u w'=>∃ x : Option Addr × Nat,u = .slice x.1 (postL bl).length x.2∧Wd NoS w0 [Ent.vec x.1 (postL bl).length x.2 3 1 ((postL bl).reverse.map intN)] w'∧True:=by
 obtain ⟨ba,n,bc,rfl⟩:=hbsl
 have hl:=postL_len hpos
 refine ret_enter Tryz.func89 rfl Tryz.ntmps89 rfl (Wd.nil NoS w0) ?_
 repeat (first|refine g_op rfl ?_|refine g_then ?_|refine g_nil ?_|refine g_region ?_|refine g_seq ?_|refine g_box rfl fun _ _=>?_)
 refine g_callE (val:=fun x : Option Addr × Nat=>.slice x.1 (postL bl).length x.2) (E:=fun x=>[Ent.vec x.1 (postL bl).length x.2 3 1 ((postL bl).map intN)]) (φ:=fun _=>True) rfl (fun w hw=>graphPost_c _ _ _ bl _ w (hbs.keep keeps_block hw.chg) hlen hok hpos) fun x _=>?_
 obtain ⟨xa,xc⟩:=x
 simp only
 repeat (first|refine g_op rfl ?_|refine g_then ?_|refine g_nil ?_|refine g_region ?_|refine g_seq ?_)
 refine g_callS (val:=fun _ : Unit=>.tuple #[]) (E:=fun _=>[Ent.vec xa (postL bl).length xc 3 1 ((postL bl).reverse.map intN)]) (φ:=fun _=>True) rfl (fun w hw=>reverse_c xa xc (postL bl) (by omega) w hw.pre) fun _ _=>?_
 simp only [List.cons_append,List.nil_append]
 repeat (first|refine g_op rfl ?_|refine g_then ?_|refine g_nil ?_|refine g_region ?_|refine g_seq ?_|refine g_opS rfl ?_|refine g_ret ?_)
 exact g_ret1 rfl fun w hw=>⟨(xa,xc),rfl,hw.sel [0] (by decide),trivial⟩
def Rel (n : Nat) (sn : List Bool) (s : List Nat) : Prop:=(∀ x ∈ s,x < n)∧∀ x : Nat,x < n→(sn[x]? = some true ↔ x ∈ s)
theorem Rel.add {n b : Nat} {sn : List Bool} {s : List Nat} (h : Rel n sn s) (hl : sn.length = n) (hb : b < n) : Rel n (sn.set b true) (s++[b]):=by
 refine ⟨fun x hx=>?_,fun x hx=>?_⟩
 ·rcases List.mem_append.1 hx with hx|hx
  ·exact h.1 x hx
  ·simp only [List.mem_singleton] at hx; omega
 ·rw [List.getElem?_set,List.mem_append,List.mem_singleton]
  by_cases e : b = x
  ·subst e
   rw [if_pos rfl,if_pos (by omega)]; simp
  ·rw [if_neg e,h.2 x hx]
   exact ⟨.inl,fun h=>h.resolve_right fun h=>e h.symm⟩
theorem inIs {l : List Nat} (h : ∀ x ∈ l,x ≤ 100000) : ∀ x ∈ l.map (fun x : Nat=>(x : Int)),inI x:=fun x hx=>by
 obtain ⟨y,hy,rfl⟩:=List.mem_map.1 hx
 have:=h y hy
 simp only [inI]; omega
theorem map_intN (l : List Nat) : (l.map (fun x : Nat=>(x : Int))).map (Value.int .i64) = l.map intN:=by rw [List.map_map]; rfl
theorem nilInts (w : World) : SlAt w (.slice none 0 0) 1 (([] : List Nat).map (fun x : Nat=>(x : Int))) IntV:=⟨none,0,0,0,0,rfl,rfl,Nat.le_refl _,by omega,by omega,by simp,by simp⟩
def leftE (own : Bool) (a : Option Addr) (c : Nat) (l : List Nat) : List Ent:=if own then [Ent.vec a l.length c 3 1 (l.map intN)] else []
theorem walk_c (nm pa re : Value) (bl : List LBlock) (ba : Option Addr) (n bc : Nat) (hlen : bl.length ≤ 100) (hok : GoodB bl) :
  ∀ (f b : Nat) (st : List Bool × List Nat) (s : List Nat),st.1.length = n→st.1[b]? = some false→unseen st.1 ≤ f→st.2.length + unseen st.1 ≤ n→s.length + unseen st.1 ≤ n→Rel n st.1 s→(∀ x ∈ st.2,x < n)→∀ (sa la : Option Addr) (sc lc : Nat) (w : World),SlAt w (.slice ba n bc) 6 bl BlockV →
  SlAt w (.slice sa s.length sc) 1 (s.map fun x : Nat=>(x : Int)) IntV→SlAt w (.slice la st.2.length lc) 1 (st.2.map fun x : Nat=>(x : Int)) IntV →
  Ret Tryz.prog 98 [.agg #[nm,pa,re,.slice ba n bc],.int .i64 b,.slice sa s.length sc,.slice la st.2.length lc] w fun u w'=>∃ x : List Nat × (Option Addr × Nat) × (Option Addr × Nat),u = .tuple #[.slice x.2.1.1 x.1.length x.2.1.2,.slice x.2.2.1 (dfs bl f b st).2.length x.2.2.2] ∧
   Wd NoS w [Ent.vec x.2.1.1 x.1.length x.2.1.2 3 1 (x.1.map intN),Ent.vec x.2.2.1 (dfs bl f b st).2.length x.2.2.2 3 1 ((dfs bl f b st).2.map intN)] w'∧(Rel n (dfs bl f b st).1 x.1∧x.1.length + unseen (dfs bl f b st).1 ≤ n∧∀ y ∈ (dfs bl f b st).2,y < n):=by
 intro f
 induction f with
 | zero=>intro b st s _ hb hu; have:=unseen_pos hb; omega
 | succ f ih =>
  rintro b ⟨sn0,lf0⟩ s0 hl hb hu hle hles hrel hlf sa la sc lc w hbs hss hls
  simp only at hl hb hu hle hles hrel hlf hls
  have hbs0:=hbs
  obtain ⟨ba,n,bc,bb,bo',hv,hn,hnc,hnb,hbc,hba,hel⟩:=hbs
  simp only [Value.slice.injEq] at hv
  obtain ⟨rfl,rfl,rfl⟩:=hv
  have hus:=unseen_set hb
  have hbn : b < n:=by have:=(List.getElem?_eq_some_iff.1 hb).1; omega
  obtain ⟨B,hB⟩:=get_lt hn hbn
  have had : AddrIs ba bb bo':=⟨hba (ne_of_get hB)⟩
  have hli : LtIs b n:=⟨hbn⟩
  obtain ⟨cs,hcs,pv',lv,tv,rfl,_,_,hphis,hlist,ht⟩:=hel b B hB
  have ht0:=ht
  obtain ⟨ta,tn,tc,tb,to',rfl,htn,htnc,htnb,htc,hta,htel⟩:=ht
  have hci : CellsIs w bb (bo' + b * 6) _:=⟨hcs⟩
  have hBok:=hok B (List.mem_of_getElem? hB)
  have htn2 : tn ≤ 2:=by rw [htn]; exact hBok.1
  refine ret_enter Tryz.func98 rfl Tryz.ntmps98 rfl (Wd.nil NoS w) ?_
  repeat (first|refine g_op rfl ?_|refine g_then ?_|refine g_nil ?_|refine g_region ?_|refine g_seq ?_|refine g_box rfl fun _ _=>?_)
  rename_i p4 _
  refine g_build0 rfl fun eb _=>?_
  repeat (refine g_op rfl ?_)
  refine g_appendI rfl (s0.map fun x : Nat=>(x : Int)) (fun w hw=>hss.keep keeps_int hw.chg) (by omega) (by omega) fun a1 c1=>?_
  rw [List.nil_append,map_intN,Nat.zero_add]
  repeat (first|refine g_op rfl ?_|refine g_build1 rfl rfl fun _ _=>?_)
  refine g_append rfl rfl (by omega) (by omega) fun a2 c2=>?_
  rw [show s0.map intN++[.int .i64 (b : Int)] = (s0++[b]).map intN by simp [intN],show s0.length + 1 = (s0++[b]).length by simp]
  repeat (first|refine g_op rfl ?_|refine g_then ?_|refine g_nil ?_|refine g_region ?_|refine g_seq ?_|refine g_opS rfl ?_|refine g_block ?_|refine g_sub rfl (by omega) (by omega) ?_)
  refine g_loop (fun (x : Nat × ((List Bool × List Nat) × List Nat) × Bool × (Option Addr × Nat) × (Option Addr × Nat))=>x.1 ≤ tn∧x.2.1.1 = (((toOf bl b).reverse.map Int.toNat).take (tn - x.1)).foldl (vstep bl f) (sn0.set b true,lf0)∧Rel n x.2.1.1.1 x.2.1.2∧x.2.1.2.length + unseen x.2.1.1.1 ≤ n∧(∀ y ∈ x.2.1.1.2,y < n)∧(x.2.2.1 = false→x.2.1.1.2 = lf0∧x.2.2.2.2 = (la,lc)))
   (fun x=>[(11,.int .i64 ((x.1 : Int) - 1)),(2,.slice x.2.2.2.1.1 x.2.1.2.length x.2.2.2.1.2),(3,.slice x.2.2.2.2.1 x.2.1.1.2.length x.2.2.2.2.2),(10,.slice ta tn tc),(4,.pointer (some ⟨p4,0,none⟩)),(1,.int .i64 b)])
   (fun x=>Ent.vec x.2.2.2.1.1 x.2.1.2.length x.2.2.2.1.2 3 1 (x.2.1.2.map intN)::Ent.box p4 [nm,pa,re,.slice ba n bc] 35::leftE x.2.2.1 x.2.2.2.2.1 x.2.2.2.2.2 x.2.1.1.2) (fun x=>x.1) (tn,((sn0.set b true,lf0),s0++[b]),false,(a2,c2),(la,lc))
   ⟨Nat.le_refl _,by simp,hrel.add hl hbn,by simp only [List.length_append,List.length_singleton]; omega,hlf,fun _=>⟨rfl,rfl⟩⟩ (g_done (by repeat (first|exact trivial|refine ⟨rfl,?_⟩)) (.cons _ (.refl _))) fun x ⟨hm,hst,hrel',hsl,hlfn,hown⟩=>?_
  obtain ⟨m,⟨⟨sn,lf⟩,s'⟩,own,⟨sa',sc'⟩,⟨la',lc'⟩⟩:=x
  simp only at hm hst hrel' hsl hlfn hown ⊢
  have hg:=vsteps_grows bl f (sn0.set b true,lf0) (((toOf bl b).reverse.map Int.toNat).take (tn - m))
  rw [← hst] at hg
  have hg1:=hg.1
  have hg3:=hg.2.2.1
  have hg4:=hg.2.2.2
  simp only [List.length_set] at hg1 hg3 hg4
  have hleft : ∀ w',Wd NoS w (Ent.vec sa' s'.length sc' 3 1 (s'.map intN)::Ent.box p4 [nm,pa,re,.slice ba n bc] 35::leftE own la' lc' lf) w'→SlAt w' (.slice la' lf.length lc') 1 (lf.map fun x : Nat=>(x : Int)) IntV:=by
   intro w' hw'
   cases own
   ·obtain ⟨rfl,h2⟩:=hown rfl
    simp only [Prod.mk.injEq] at h2
    obtain ⟨rfl,rfl⟩:=h2
    exact hls.keep keeps_int hw'.chg
   ·exact ints_sl hw' (k:=2) rfl rfl (by omega) fun y hy=>by have:=hlfn y hy; omega
  repeat (first|refine g_op rfl ?_|refine g_then ?_|refine g_nil ?_|refine g_region ?_|refine g_seq ?_)
  refine g_cond (fun h1=>?_) (fun h1=>?_)
  ·obtain ⟨m,rfl⟩ : ∃ m',m = m' + 1:=⟨m - 1,by simp at h1; omega⟩
   rw [show (((m + 1 : Nat) : Int) - 1) = (m : Int) by omega]
   obtain ⟨t,htj⟩:=get_lt htn (show m < tn by omega)
   have htt:=hBok.2 t (List.mem_of_getElem? htj)
   obtain ⟨k,hk⟩ : ∃ k : Nat,t = k:=⟨t.toNat,by omega⟩
   have hkn : k < n:=by omega
   have had2 : AddrIs ta tb to':=⟨hta (ne_of_get htj)⟩
   have hli2 : LtIs m tn:=⟨by omega⟩
   obtain ⟨cs2,hcs2,rfl,_⟩:=htel m t htj
   have hci2 : CellsIs w tb (to' + m * 1) _:=⟨hcs2⟩
   have hstep : (((toOf bl b).reverse.map Int.toNat).take (tn - m)).foldl (vstep bl f) (sn0.set b true,lf0) = vstep bl f (sn,lf) k:=by
    rw [show tn - m = (tn - (m + 1)) + 1 by omega,List.take_add_one,List.foldl_append,← hst]
    have : ((toOf bl b).reverse.map Int.toNat)[tn - (m + 1)]? = some k:=by
     rw [List.getElem?_map,toOf_get hB,List.getElem?_reverse (by omega),← htn,show tn - 1 - (tn - (m + 1)) = m by omega,htj,hk]; rfl
    rw [this]; rfl
   repeat (first|refine g_op rfl ?_|refine g_then ?_|refine g_region ?_|refine g_seq ?_|refine g_block ?_|refine g_skip ?_)
   refine g_callV rfl (fun w hw=>has_c _ (s'.map (fun x : Nat=>(x : Int))) t w (ints_sl hw (k:=0) rfl rfl (by omega) fun y hy=>by have:=hrel'.1 y hy; omega)) ?_
   rw [show decide (t ∈ s'.map (fun x : Nat=>(x : Int))) = decide (k ∈ s') by rw [decide_eq_decide,hk]; exact mem_ints]
   by_cases hks : k ∈ s'
   ·rw [decide_eq_true hks]
    have hv : vstep bl f (sn,lf) k = (sn,lf):=by unfold vstep; rw [if_pos (by rw [(hrel'.2 k hkn).2 hks]; rfl)]
    rw [hv] at hstep
    repeat (first|refine g_op rfl ?_|refine g_then ?_|refine g_nil ?_|refine g_region ?_|refine g_opS rfl ?_|refine g_inBlock ?_|refine g_skip ?_|refine g_condF ?_|refine g_sub rfl (by omega) (by omega) ?_)
    exact g_next (m,((sn,lf),s'),own,(sa',sc'),(la',lc')) ⟨by simp only; omega,hstep.symm,hrel',hsl,hlfn,hown⟩ (by simp only; omega) (by repeat (first|exact trivial|refine ⟨rfl,?_⟩)) (.refl _)
   ·rw [decide_eq_false hks]
    have hkf : sn[k]? = some false:=by
     obtain ⟨v,hv⟩ : ∃ v,sn[k]? = some v:=⟨_,List.getElem?_eq_getElem (by omega)⟩
     cases v
     ·exact hv
     ·exact absurd ((hrel'.2 k hkn).1 hv) hks
    have hv : vstep bl f (sn,lf) k = dfs bl f k (sn,lf):=by unfold vstep; rw [if_neg (by rw [hkf]; simp)]
    rw [hv] at hstep
    repeat (first|refine g_op rfl ?_|refine g_then ?_|refine g_nil ?_|refine g_condT ?_)
    refine g_drawE (fun z : { z : List Nat × (Option Addr × Nat) × (Option Addr × Nat) // Rel n (dfs bl f k (sn,lf)).1 z.1∧z.1.length + unseen (dfs bl f k (sn,lf)).1 ≤ n∧∀ y ∈ (dfs bl f k (sn,lf)).2,y < n }=>[(11,.int .i64 (m : Int)),(2,.slice z.1.2.1.1 z.1.1.length z.1.2.1.2),(3,.slice z.1.2.2.1 (dfs bl f k (sn,lf)).2.length z.1.2.2.2),(10,.slice ta tn tc),(4,.pointer (some ⟨p4,0,none⟩)),(1,.int .i64 b)])
     (fun z=>[Ent.vec z.1.2.1.1 z.1.1.length z.1.2.1.2 3 1 (z.1.1.map intN),Ent.vec z.1.2.2.1 (dfs bl f k (sn,lf)).2.length z.1.2.2.2 3 1 ((dfs bl f k (sn,lf)).2.map intN),Ent.box p4 [nm,pa,re,.slice ba n bc] 35]) mixed ?_ fun z=>?_
    ·repeat' (first|refine g_take 1 rfl (by decide +kernel) ?_|refine g_take 2 rfl (by decide +kernel) ?_|refine g_take 3 rfl (by decide +kernel) ?_|refine g_take 5 rfl (by decide +kernel) ?_|refine g_take 6 rfl (by decide +kernel) ?_|refine g_any (by decide +kernel) ?_|refine any_nil|refine any_skip (by decide +kernel) ?_|refine any_cons ?_ ?_|refine g_op rfl ?_|refine g_then ?_|refine g_nil ?_)
     all_goals
      rw [hk]
      refine g_callE (val:=fun x : List Nat × (Option Addr × Nat) × (Option Addr × Nat)=>.tuple #[.slice x.2.1.1 x.1.length x.2.1.2,.slice x.2.2.1 (dfs bl f k (sn,lf)).2.length x.2.2.2]) (E:=fun x=>[Ent.vec x.2.1.1 x.1.length x.2.1.2 3 1 (x.1.map intN),Ent.vec x.2.2.1 (dfs bl f k (sn,lf)).2.length x.2.2.2 3 1 ((dfs bl f k (sn,lf)).2.map intN)])
       (φ:=fun x=>Rel n (dfs bl f k (sn,lf)).1 x.1∧x.1.length + unseen (dfs bl f k (sn,lf)).1 ≤ n∧∀ y ∈ (dfs bl f k (sn,lf)).2,y < n) rfl
       (fun w1 hw=>ih k (sn,lf) s' (by simp only; omega) hkf (by simp only; omega) (by simp only; omega) hsl hrel' hlfn sa' la' sc' lc' w1 (hbs0.keep keeps_block hw.chg) (ints_sl hw (k:=0) rfl rfl (by omega) fun y hy=>by have:=hrel'.1 y hy; omega) (hleft w1 hw)) fun x hx=>?_
      obtain ⟨s2,⟨x1,x2⟩,⟨y1,y2⟩⟩:=x
      simp only [List.cons_append,List.nil_append] at hx ⊢
      repeat' (first|refine g_take 8 rfl (by decide +kernel) ?_|refine g_take 9 rfl (by decide +kernel) ?_|refine g_take 10 rfl (by decide +kernel) ?_|refine g_any0 (by decide +kernel) ?_|refine g_any (by decide +kernel) ?_|refine any_nil|refine any_skip (by decide +kernel) ?_|refine any_cons ?_ ?_|refine g_then ?_|refine g_nil ?_|refine g_opS rfl ?_)
      all_goals exact g_doneE ⟨(s2,(x1,x2),(y1,y2)),hx⟩ (by repeat (first|exact trivial|refine ⟨rfl,?_⟩)) (.cons_cons _ (.cons_cons _ (.cons _ (.cons_cons _ (List.nil_sublist _)))))
    ·obtain ⟨⟨s2,⟨x1,x2⟩,⟨y1,y2⟩⟩,hz1,hz2,hz3⟩:=z
     simp only at hz1 hz2 hz3 ⊢
     repeat (first|refine g_op rfl ?_|refine g_then ?_|refine g_nil ?_|refine g_region ?_|refine g_opS rfl ?_|refine g_inBlock ?_|refine g_sub rfl (by omega) (by omega) ?_)
     refine g_sel [0,2,1] (by decide) ?_
     exact g_next (m,(dfs bl f k (sn,lf),s2),true,(x1,x2),(y1,y2)) ⟨by simp only; omega,hstep.symm,hz1,hz2,hz3,by simp⟩ (by simp only; omega) (by repeat (first|exact trivial|refine ⟨rfl,?_⟩)) (.refl _)
  ·have hm0 : m = 0:=by simp at h1; omega
   subst hm0
   rw [Nat.sub_zero,List.take_of_length_le (by rw [List.length_map,List.length_reverse,toOf_get hB]; omega)] at hst
   have hd : dfs bl (f + 1) b (sn0,lf0) = (sn,lf++[b]):=by rw [dfs_succ]; simp only; rw [← hst]
   repeat (first|refine g_op rfl ?_|refine g_then ?_|refine g_region ?_|refine g_seq ?_|refine g_exit ?_|refine g_thenExit ?_|refine g_exitHere ?_)
   refine g_build0 rfl fun eb2 _=>?_
   repeat (refine g_op rfl ?_)
   refine g_appendI rfl (lf.map fun x : Nat=>(x : Int)) (fun w' hw'=>hleft w' (hw'.sub (List.sublist_cons_self _ _))) (by omega) (by omega) fun a3 c3=>?_
   rw [List.nil_append,map_intN,Nat.zero_add]
   repeat (first|refine g_op rfl ?_|refine g_build1 rfl rfl fun _ _=>?_)
   refine g_append rfl rfl (by omega) (by omega) fun a4 c4=>?_
   rw [show lf.map intN++[.int .i64 (b : Int)] = (lf++[b]).map intN by simp [intN],show lf.length + 1 = (lf++[b]).length by simp]
   repeat (first|refine g_op rfl ?_|refine g_then ?_|refine g_nil ?_|refine g_ret ?_)
   rw [hd]
   refine g_ret2 rfl fun w' hw'=>⟨(s',(sa',sc'),(a4,c4)),rfl,hw'.sel [2,1] (by decide),hrel',hsl,fun y hy=>?_⟩
   rcases List.mem_append.1 hy with hy|hy
   ·exact hlfn y hy
   ·simp only [List.mem_singleton] at hy; omega
theorem refOrder_c (nm pa re : Value) (bl : List LBlock) (bs : Value) (hbsl : ∃ a n c,bs = .slice a n c) (w0 : World) (hbs : SlAt w0 bs 6 bl BlockV) (hlen : bl.length ≤ 100) (hok : GoodB bl) (hpos : 0 < bl.length) :
  Ret Tryz.prog 82 [.agg #[nm,pa,re,bs]] w0 fun u w'=>∃ x : Option Addr × Nat,u = .slice x.1 (postL bl).length x.2∧Wd NoS w0 [Ent.vec x.1 (postL bl).length x.2 3 1 ((postL bl).reverse.map intN)] w'∧True:=by
 obtain ⟨ba,n,bc,rfl⟩:=hbsl
 have hn : n = bl.length:=by
  obtain ⟨_,_,_,_,_,e,h,_⟩:=hbs
  simp only [Value.slice.injEq] at e
  rw [e.2.1]; exact h
 have hl:=postL_len hpos
 have hb0 : (List.replicate bl.length false)[0]? = some false:=by rw [List.getElem?_replicate,if_pos hpos]
 refine ret_enter Tryz.func82 rfl Tryz.ntmps82 rfl (Wd.nil NoS w0) ?_
 repeat (first|refine g_op rfl ?_|refine g_then ?_|refine g_nil ?_|refine g_region ?_|refine g_seq ?_|refine g_box rfl fun _ _=>?_)
 rename_i p1 _
 refine g_callE (val:=fun x : List Nat × (Option Addr × Nat) × (Option Addr × Nat)=>.tuple #[.slice x.2.1.1 x.1.length x.2.1.2,.slice x.2.2.1 (postL bl).length x.2.2.2]) (E:=fun x=>[Ent.vec x.2.1.1 x.1.length x.2.1.2 3 1 (x.1.map intN),Ent.vec x.2.2.1 (postL bl).length x.2.2.2 3 1 ((postL bl).map intN)]) (φ:=fun _=>True) rfl
  (fun w hw=>(walk_c nm pa re bl ba n bc hlen hok bl.length 0 (List.replicate bl.length false,[]) [] (by simp [hn]) hb0 (by rw [unseen_all]; exact Nat.le_refl _) (by rw [unseen_all]; simp [hn]) (by rw [unseen_all]; simp [hn]) ⟨by simp,fun x hx=>by rw [List.getElem?_replicate]; simp⟩ (by simp) none none 0 0 w (hbs.keep keeps_block hw.chg) (nilInts w) (nilInts w)).mono fun v w' ⟨x,h1,h2,_⟩=>⟨x,h1,h2,trivial⟩) fun x _=>?_
 obtain ⟨s2,⟨x1,x2⟩,⟨y1,y2⟩⟩:=x
 simp only [List.cons_append,List.nil_append]
 repeat (first|refine g_op rfl ?_|refine g_then ?_|refine g_nil ?_|refine g_region ?_|refine g_seq ?_|refine g_block ?_|refine g_sub rfl (by omega) (by omega) ?_)
 refine g_nilVec 3 1 ?_
 refine g_sel [0,2] (by decide) ?_
 refine g_loop (fun (x : Nat × Option Addr × (Option Addr × Nat))=>x.1 ≤ (postL bl).length) (fun x=>[(6,.int .i64 ((x.1 : Int) - 1)),(5,.slice x.2.2.1 ((postL bl).reverse.take ((postL bl).length - x.1)).length x.2.2.2),(4,.slice x.2.1 (postL bl).length y2)])
  (fun x=>[Ent.vec x.2.2.1 ((postL bl).reverse.take ((postL bl).length - x.1)).length x.2.2.2 3 1 (((postL bl).reverse.take ((postL bl).length - x.1)).map intN),Ent.vec x.2.1 (postL bl).length y2 3 1 ((postL bl).map intN)]) (fun x=>x.1) ((postL bl).length,y1,(none,0)) (Nat.le_refl _) ?_ fun x hm=>?_
 ·simp only [Nat.sub_self,List.take_zero,List.length_nil,List.map_nil]
  exact g_done (by repeat (first|exact trivial|refine ⟨rfl,?_⟩)) (.refl _)
 obtain ⟨m,ya,⟨oa,oc⟩⟩:=x
 simp only at hm ⊢
 have htl : ((postL bl).reverse.take ((postL bl).length - m)).length = (postL bl).length - m:=by rw [List.length_take,List.length_reverse]; omega
 repeat (first|refine g_op rfl ?_|refine g_then ?_|refine g_nil ?_|refine g_region ?_|refine g_seq ?_)
 refine g_cond (fun h1=>?_) (fun h1=>?_)
 ·obtain ⟨m,rfl⟩ : ∃ m',m = m' + 1:=⟨m - 1,by simp at h1; omega⟩
  rw [show (((m + 1 : Nat) : Int) - 1) = (m : Int) by omega]
  refine g_vec 1 rfl (by omega) fun rb ro hra=>?_
  subst hra
  obtain ⟨y,hy⟩ : ∃ y,(postL bl)[m]? = some y:=⟨_,List.getElem?_eq_getElem (by omega)⟩
  have hli : LtIs m (postL bl).length:=⟨by omega⟩
  have hxat : XAt ((postL bl).map intN) (m * 1) (.int .i64 (y : Int)):=⟨by simp [hy,intN]⟩
  have hst : (postL bl).reverse.take ((postL bl).length - m) = (postL bl).reverse.take ((postL bl).length - (m + 1))++[y]:=by
   rw [show (postL bl).length - m = ((postL bl).length - (m + 1)) + 1 by omega,List.take_add_one]
   rw [List.getElem?_reverse (by omega),show (postL bl).length - 1 - ((postL bl).length - (m + 1)) = m by omega,hy]; rfl
  repeat (first|refine g_op rfl ?_|refine g_then ?_|refine g_region ?_|refine g_seq ?_|refine g_block ?_|refine g_skip ?_|refine g_build1 rfl rfl fun _ _=>?_)
  refine g_append rfl rfl (by omega) (by omega) fun a' c'=>?_
  rw [show ((postL bl).reverse.take ((postL bl).length - (m + 1))).map intN++[.int .i64 (y : Int)] = ((postL bl).reverse.take ((postL bl).length - m)).map intN by rw [hst]; simp [intN],show ((postL bl).reverse.take ((postL bl).length - (m + 1))).length + 1 = ((postL bl).reverse.take ((postL bl).length - m)).length by rw [hst]; simp]
  repeat (first|refine g_op rfl ?_|refine g_then ?_|refine g_nil ?_|refine g_region ?_|refine g_opS rfl ?_|refine g_inBlock ?_|refine g_sub rfl (by omega) (by omega) ?_)
  exact g_next (m,some ⟨rb,ro,none⟩,(a',c')) (by simp only; omega) (by simp only; omega) (by repeat (first|exact trivial|refine ⟨rfl,?_⟩)) (.cons _ (.refl _))
 ·have hm0 : m = 0:=by simp at h1; omega
  subst hm0
  rw [Nat.sub_zero,List.take_of_length_le (by rw [List.length_reverse]; omega),List.length_reverse]
  repeat (first|refine g_op rfl ?_|refine g_then ?_|refine g_nil ?_|refine g_region ?_|refine g_seq ?_|refine g_exit ?_|refine g_thenExit ?_|refine g_exitHere ?_|refine g_ret ?_)
  exact g_ret1 rfl fun w hw=>⟨(oa,oc),rfl,hw.sel [0] (by decide),trivial⟩
end Go.Proofs.YtdbljcahlpkgdaaGreatDoor

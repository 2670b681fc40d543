/- Texts joined: GraphA GraphB Parts Dfs Sure Post Back Range SureA Visit Held SureB DrawE. -/
import Derived.LoopIn
import Derived.LoopNIn
import Derived.OrdersHeld
import Derived.OwnWalkIn
import Derived.RangeFuncBound
import Derived.RangeFuncLeaves
import Derived.RangeFuncNested
import Derived.Shelf.Abstract
import Derived.TacticsInMore
import Derived.Test.YtdbljcahlpkgdaaDoorChecked
import Derived.WalkKit
import Derived.Test.YtdbljcahlpkgdaaDoorGA
import Derived.Test.YtdbljcahlpkgdaaDoorGB
import Derived.Test.YtdbljcahlpkgdaaDoorGC
namespace Go.Proofs.YtdbljcahlpkgdaaDoor
open Go Go.RowKit
attribute [local irreducible] wpListIn Code.wpIn Exit.then Exit.inBlock bodyPost wpQuiet wpAnyIn
set_option maxHeartbeats 2000000
def intN (x : Nat) : Value:=.int .i64 (x : Int)
theorem has_c (v : Value) (l : List Int) (x : Int) (w0 : World) (hv : SlAt w0 v 1 l IntV) : RetV Tryd.prog 36 [v,.int .i64 x] w0 (.bool (decide (x ∈ l))):=by
 obtain ⟨a,n,c,b,o,rfl,hn,hnc,hnb,hc,ha,hel⟩:=hv
 refine ret_enter Tryd.func36 rfl Tryd.ntmps36 rfl (Wd.nil NoS w0) ?_
 repeat (first|refine g_op rfl ?_|refine g_then ?_|refine g_nil ?_|refine g_region ?_|refine g_seq ?_|refine g_block ?_)
 refine g_loop (fun (i : Nat)=>i ≤ n∧∀ j t,j < i→l[j]? = some t→t ≠ x) (fun i=>[(5,.int .i64 i),(0,.slice a n c),(1,.int .i64 x)]) (fun _=>[]) (fun i=>n - i) 0 ⟨Nat.zero_le _,by simp⟩ (g_done (by repeat (first|exact trivial|refine ⟨rfl,?_⟩)) (by simp)) fun i ⟨hi,hall⟩=>?_
 repeat (first|refine g_op rfl ?_|refine g_then ?_|refine g_nil ?_|refine g_region ?_|refine g_seq ?_)
 refine g_cond (fun h1=>?_) (fun h1=>?_)
 ·have hlt : i < n:=by simpa using h1
  obtain ⟨t,ht⟩:=get_lt hn hlt
  have had : AddrIs a b o:=⟨ha (ne_of_get ht)⟩
  have hli : LtIs i n:=⟨hlt⟩
  obtain ⟨cs,hcs,rfl,_⟩:=hel i t ht
  have hci : CellsIs w0 b (o + i * 1) _:=⟨hcs⟩
  repeat (first|refine g_op rfl ?_|refine g_then ?_|refine g_nil ?_|refine g_region ?_|refine g_seq ?_|refine g_block ?_|refine g_skip ?_)
  refine g_cond (fun h2=>?_) (fun h2=>?_)
  ·repeat (first|refine g_op rfl ?_|refine g_then ?_|refine g_nil ?_|refine g_region ?_|refine g_seq ?_|refine g_ret ?_|refine g_thenRet ?_|refine g_blockRet ?_)
   refine g_retV rfl ?_
   have : t = x:=by simpa using h2
   rw [decide_eq_true (this ▸ List.mem_of_getElem? ht)]
  ·repeat (first|refine g_op rfl ?_|refine g_then ?_|refine g_nil ?_|refine g_region ?_|refine g_opS rfl ?_|refine g_inBlock ?_|refine g_skip ?_|refine g_add rfl (by omega) (by omega) ?_)
   refine g_next (i + 1) ⟨hlt,fun j q hj hq=>?_⟩ (by omega) (by repeat (first|exact trivial|refine ⟨rfl,?_⟩)) (by simp)
   by_cases hji : j = i
   ·subst hji
    rw [ht] at hq
    simp only [Option.some.injEq] at hq
    subst hq
    simpa using h2
   ·exact hall j q (by omega) hq
 ·have hge : i = n:=by have:=h1; simp at this; omega
  repeat (first|refine g_op rfl ?_|refine g_then ?_|refine g_nil ?_|refine g_region ?_|refine g_seq ?_|refine g_exit ?_|refine g_thenExit ?_|refine g_exitHere ?_|refine g_ret ?_)
  refine g_retV rfl ?_
  rw [decide_eq_false]
  intro hm
  obtain ⟨j,hj⟩:=List.getElem?_of_mem hm
  exact hall j x (by have:=(List.getElem?_eq_some_iff.1 hj).1; omega) hj rfl
theorem ints_sl {S : Nat→Prop} {w0 w : World} {H : List Ent} {k c n e : Nat} {a : Option Addr} {l : List Nat} (h : Wd S w0 H w) (hk : H[k]? = some (Ent.vec a n c e 1 (l.map intN))) (hn : n = l.length) (hb : n ≤ 100000) (hl : ∀ x ∈ l,x ≤ 100000) : SlAt w (.slice a n c) 1 (l.map (fun x : Nat=>(x : Int))) IntV:=by
 refine h.slAt hk (by simpa using hn) (by omega) fun i x hx=>?_
 rw [List.getElem?_map] at hx
 obtain ⟨y,hy,rfl⟩:=Option.map_eq_some_iff.1 hx
 have hb:=hl y (List.mem_of_getElem? hy)
 refine ⟨[intN y],fun j v hj=>?_,rfl,by simp only [inI]; omega⟩
 match j,hj with
 | 0,hj=>simpa [hy] using hj
theorem mem_ints {l : List Nat} {x : Nat} : (x : Int) ∈ l.map (fun x : Nat => (x : Int)) ↔ x ∈ l := by
  rw [List.mem_map]
  exact ⟨fun ⟨y, hy, e⟩ => by have : y = x := by omega
                              exact this ▸ hy, fun h => ⟨x, h, rfl⟩⟩
def FromR (bl : List LBlock) (wo : Int) (b : Nat) (l : List Nat) : Prop:=l.Nodup∧(∀ x ∈ l,x < bl.length)∧∀ x,x ∈ l ↔ ((b : Int) ≠ wo∧Rch bl wo b x)
theorem refFrom_c (nm pa re : Value) (bl : List LBlock) (bs : Value) (b : Nat) (wo : Int) (w0 : World) (hbs : SlAt w0 bs 6 bl BlockV) (hlen : bl.length ≤ 100) (hok : GoodB bl) (hb : b < bl.length) :
  Ret Tryd.prog 35 [.agg #[nm,pa,re,bs],.int .i64 b,.int .i64 wo] w0 fun u w'=>∃ x : Option Addr × Nat × List Nat,u = .slice x.1 x.2.2.length x.2.1∧Wd NoS w0 [Ent.vec x.1 x.2.2.length x.2.1 3 1 (x.2.2.map intN)] w'∧FromR bl wo b x.2.2:=by
 obtain ⟨ba,n,bc,bb,bo',rfl,hn,hnc,hnb,hbc,hba,hel⟩:=hbs
 rw [← hn] at hb hlen
 refine ret_enter Tryd.func35 rfl Tryd.ntmps35 rfl (Wd.nil NoS w0) ?_
 repeat (first|refine g_op rfl ?_|refine g_then ?_|refine g_nil ?_|refine g_region ?_|refine g_seq ?_|refine g_box rfl fun _ _=>?_)
 rename_i p3 _
 refine g_cond (fun h0=>?_) (fun h0=>?_)
 ·repeat (first|refine g_then ?_|refine g_nil ?_|refine g_region ?_|refine g_seq ?_|refine g_opS rfl ?_|refine g_ret ?_|refine g_thenRet ?_)
  refine g_nilVec 3 1 ?_
  refine g_ret1 rfl fun w hw=>⟨(none,0,[]),rfl,hw.sub (.cons_cons _ (.cons _ (.refl _))),by simp,by simp,fun x=>?_⟩
  have : (b : Int) = wo:=by simpa using h0
  simp [this]
 have h0' : (b : Int) ≠ wo:=by simpa using h0
 repeat (first|refine g_op rfl ?_|refine g_then ?_|refine g_nil ?_|refine g_region ?_|refine g_seq ?_|refine g_block ?_|refine g_skip ?_|refine g_build1 rfl rfl fun _ _=>?_)
 rename_i p7 _
 refine g_loop (fun (x : Nat × List Nat × Option Addr × Nat)=>x.1 ≤ x.2.1.length∧x.2.1.Nodup∧(∀ y ∈ x.2.1,y < n)∧(∀ y ∈ x.2.1,Rch bl wo b y)∧b ∈ x.2.1∧∀ k y z,k < x.1→x.2.1[k]? = some y→Edge bl y z→(z : Int) ≠ wo→z ∈ x.2.1)
  (fun x=>[(8,.int .i64 x.1),(7,.slice x.2.2.1 x.2.1.length x.2.2.2),(3,.pointer (some ⟨p3,0,none⟩)),(2,.int .i64 wo)])
  (fun x=>[Ent.vec x.2.2.1 x.2.1.length x.2.2.2 3 1 (x.2.1.map intN),Ent.box p3 [nm,pa,re,.slice ba n bc] 33])
  (fun x=>n - x.1) (0,[b],some ⟨p7,0,none⟩,1) ⟨Nat.zero_le _,by simp,by simpa using hb,by simpa using Rch.refl,by simp,by simp⟩ (g_done (by repeat (first|exact trivial|refine ⟨rfl,?_⟩)) (.refl _)) fun x ⟨hi,hnd,hlt',hr,hbm,hcl⟩=>?_
 obtain ⟨i,l,la,lc⟩:=x
 simp only at hi hnd hlt' hr hbm hcl ⊢
 have hll : l.length ≤ n:=nodup_len n l hnd hlt'
 repeat (first|refine g_op rfl ?_|refine g_then ?_|refine g_nil ?_|refine g_region ?_|refine g_seq ?_)
 refine g_cond (fun h1=>?_) (fun h1=>?_)
 ·have hil : i < l.length:=by simpa using h1
  refine g_vec 0 rfl (by omega) fun rb ro hra=>?_
  subst hra
  obtain ⟨x0,hx0⟩ : ∃ x0,l[i]? = some x0:=⟨_,List.getElem?_eq_getElem hil⟩
  have hx0n : x0 < n:=hlt' x0 (List.mem_of_getElem? hx0)
  obtain ⟨B,hB⟩:=get_lt hn hx0n
  have had : AddrIs ba bb bo':=⟨hba (ne_of_get hB)⟩
  have hli : LtIs x0 n:=⟨hx0n⟩
  have hli1 : LtIs i l.length:=⟨hil⟩
  obtain ⟨cs,hcs,pv,lv,tv,rfl,_,_,_,_,ht⟩:=hel x0 B hB
  obtain ⟨ta,tn,tc,tb,to',rfl,htn,htnc,htnb,htc,hta,htel⟩:=ht
  have hci : CellsIs w0 bb (bo' + x0 * 6) _:=⟨hcs⟩
  have hBok:=hok B (List.mem_of_getElem? hB)
  have hxat : XAt (l.map intN) (i * 1) (.int .i64 (x0 : Int)):=⟨by simp [hx0,intN]⟩
  repeat (first|refine g_then ?_|refine g_seq ?_|refine g_block ?_|refine g_skip ?_)
  refine g_draw mixed (by kernel_rfl) ?_
  repeat (first|refine q_op rfl ?_|refine q_nil ?_)
  repeat (first|refine g_op rfl ?_|refine g_then ?_|refine g_nil ?_|refine g_region ?_|refine g_seq ?_|refine g_block ?_)
  refine g_loop (fun (x : Nat × List Nat × Option Addr × Nat)=>x.1 ≤ tn∧x.2.1.Nodup∧(∀ y ∈ x.2.1,y < n)∧(∀ y ∈ x.2.1,Rch bl wo b y)∧(∃ r,x.2.1 = l++r)∧∀ k t,k < x.1→B.to[k]? = some t→t ≠ wo→t.toNat ∈ x.2.1)
   (fun x=>[(10,.int .i64 x.1),(9,.slice ta tn tc),(8,.int .i64 i),(7,.slice x.2.2.1 x.2.1.length x.2.2.2),(3,.pointer (some ⟨p3,0,none⟩)),(2,.int .i64 wo)])
   (fun x=>[Ent.vec x.2.2.1 x.2.1.length x.2.2.2 3 1 (x.2.1.map intN),Ent.box p3 [nm,pa,re,.slice ba n bc] 33])
   (fun x=>tn - x.1) (0,l,some ⟨rb,ro,none⟩,lc) ⟨Nat.zero_le _,hnd,hlt',hr,⟨[],by simp⟩,by simp⟩ (g_done (by repeat (first|exact trivial|refine ⟨rfl,?_⟩)) (.refl _)) fun x ⟨hj,hnd',hlt'',hr',⟨r,hlr⟩,hdone⟩=>?_
  obtain ⟨j,l',la',lc'⟩:=x
  simp only at hj hnd' hlt'' hr' hlr hdone ⊢
  have hll' : l'.length ≤ n:=nodup_len n l' hnd' hlt''
  repeat (first|refine g_op rfl ?_|refine g_then ?_|refine g_nil ?_|refine g_region ?_|refine g_seq ?_)
  refine g_cond (fun h2=>?_) (fun h2=>?_)
  ·have hjlt : j < tn:=by simpa using h2
   obtain ⟨t,htj⟩:=get_lt htn hjlt
   have htt:=hBok.2 t (List.mem_of_getElem? htj)
   obtain ⟨k,hk⟩ : ∃ k : Nat,t = k:=⟨t.toNat,by omega⟩
   have hkn : k < n:=by omega
   have had2 : AddrIs ta tb to':=⟨hta (ne_of_get htj)⟩
   have hli2 : LtIs j tn:=⟨hjlt⟩
   obtain ⟨cs2,hcs2,rfl,_⟩:=htel j t htj
   have hci2 : CellsIs w0 tb (to' + j * 1) _:=⟨hcs2⟩
   have hedge : Edge bl x0 k:=by
    unfold Edge
    rw [toOf_get hB,← hk]
    exact List.mem_of_getElem? htj
   have hx0r : Rch bl wo b x0:=hr x0 (List.mem_of_getElem? hx0)
   have skip : (t = wo ∨ k ∈ l')→∀ q t',q < j + 1→B.to[q]? = some t'→t' ≠ wo→t'.toNat ∈ l':=by
    intro hs q t' hq ht' hw
    by_cases hqj : q = j
    ·subst hqj
     rw [htj] at ht'
     simp only [Option.some.injEq] at ht'
     subst ht'
     rcases hs with h|h
     ·exact absurd h hw
     ·rw [hk]; simpa using h
    ·exact hdone q t' (by omega) ht' hw
   repeat (first|refine g_op rfl ?_|refine g_then ?_|refine g_region ?_|refine g_seq ?_|refine g_block ?_|refine g_skip ?_)
   generalize hb1 : (!decide (t = wo)) = b1
   refine g_joinTo 52 (.bool (b1 && !decide (k ∈ l'))) ?_ ?_
   ·cases b1
    ·repeat (first|refine g_op rfl ?_|refine g_then ?_|refine g_nil ?_|refine g_pass rfl ?_)
     exact g_done (by repeat (first|exact trivial|refine ⟨rfl,?_⟩)) (.refl _)
    ·repeat (first|refine g_op rfl ?_|refine g_open ?_)
     refine g_callV rfl (fun w hw=>has_c _ (l'.map (fun x : Nat=>(x : Int))) t w (ints_sl hw (k:=0) rfl rfl (by omega) fun y hy=>by have:=hlt'' y hy; omega)) ?_
     rw [hk,show decide ((k : Int) ∈ l'.map (fun x : Nat=>(x : Int))) = decide (k ∈ l') by rw [decide_eq_decide]; exact mem_ints]
     repeat (first|refine g_op rfl ?_|refine g_then ?_|refine g_nil ?_|refine g_open ?_)
     exact g_done (by repeat (first|exact trivial|refine ⟨rfl,?_⟩)) (.refl _)
   repeat (first|refine g_then ?_|refine g_nil ?_)
   refine g_cond (fun h3=>?_) (fun h3=>?_)
   ·have hkw : t ≠ wo∧k ∉ l':=by subst hb1; simpa using h3
    repeat (first|refine g_op rfl ?_|refine g_region ?_|refine g_build1 rfl rfl fun _ _=>?_)
    refine g_append rfl rfl (by omega) (by omega) fun a' c'=>?_
    rw [show l'.map intN++[.int .i64 t] = (l'++[k]).map intN by simp [intN,hk]]
    rw [show l'.length + 1 = (l'++[k]).length by simp]
    repeat (first|refine g_op rfl ?_|refine g_then ?_|refine g_nil ?_|refine g_region ?_|refine g_opS rfl ?_|refine g_inBlock ?_|refine g_add rfl (by omega) (by omega) ?_)
    refine g_next (j + 1,l'++[k],a',c') ⟨hjlt,?_,?_,?_,⟨r++[k],by rw [hlr,List.append_assoc]⟩,?_⟩ (by simp only; omega) (by repeat (first|exact trivial|refine ⟨rfl,?_⟩)) (.cons _ (.refl _))
    ·rw [List.nodup_append]
     exact ⟨hnd',by simp,fun a ha c hc e=>by simp only [List.mem_singleton] at hc; exact hkw.2 (hc ▸ e ▸ ha)⟩
    ·intro y hy
     rcases List.mem_append.1 hy with hy|hy
     ·exact hlt'' y hy
     ·simp only [List.mem_singleton] at hy; omega
    ·intro y hy
     rcases List.mem_append.1 hy with hy|hy
     ·exact hr' y hy
     ·simp only [List.mem_singleton] at hy
      subst hy
      exact hx0r.step hedge (by rw [← hk]; exact hkw.1)
    ·intro q t' hq ht' hw
     by_cases hqj : q = j
     ·subst hqj
      rw [htj] at ht'
      simp only [Option.some.injEq] at ht'
      subst ht'
      rw [hk]; simp
     ·exact List.mem_append_left _ (hdone q t' (by simp only at hq; omega) ht' hw)
   ·have hkw : t = wo ∨ k ∈ l':=by
     subst hb1
     by_cases h : t = wo
     ·exact .inl h
     ·right; simpa [h] using h3
    repeat (first|refine g_op rfl ?_|refine g_then ?_|refine g_nil ?_|refine g_region ?_|refine g_opS rfl ?_|refine g_inBlock ?_|refine g_skip ?_|refine g_add rfl (by omega) (by omega) ?_)
    exact g_next (j + 1,l',la',lc') ⟨hjlt,hnd',hlt'',hr',⟨r,hlr⟩,skip hkw⟩ (by simp only; omega) (by repeat (first|exact trivial|refine ⟨rfl,?_⟩)) (.refl _)
  ·have hge : j = tn:=by have:=h2; simp at this; omega
   repeat (first|refine g_op rfl ?_|refine g_then ?_|refine g_nil ?_|refine g_region ?_|refine g_opS rfl ?_|refine g_inBlock ?_|refine g_add rfl (by omega) (by omega) ?_|refine g_exit ?_|refine g_thenExit ?_|refine g_exitHere ?_)
   refine g_next (i + 1,l',la',lc') ⟨by rw [hlr,List.length_append]; omega,hnd',hlt'',hr',by rw [hlr]; exact List.mem_append_left _ hbm,?_⟩ (by simp only; omega) (by repeat (first|exact trivial|refine ⟨rfl,?_⟩)) (.refl _)
   intro k y z hk hy he hw
   simp only at hk hy ⊢
   rw [hlr,List.getElem?_append_left (by omega)] at hy
   by_cases hki : k = i
   ·subst hki
    rw [hx0] at hy
    simp only [Option.some.injEq] at hy
    subst hy
    unfold Edge at he
    rw [toOf_get hB] at he
    obtain ⟨q,hq⟩:=List.getElem?_of_mem he
    have:=hdone q _ (by have:=(List.getElem?_eq_some_iff.1 hq).1; omega) hq hw
    simpa using this
   ·rw [hlr]
    exact List.mem_append_left _ (hcl k y z (by omega) hy he hw)
 ·have hge : i = l.length:=by have:=h1; simp at this; omega
  repeat (first|refine g_op rfl ?_|refine g_then ?_|refine g_nil ?_|refine g_region ?_|refine g_seq ?_|refine g_exit ?_|refine g_thenExit ?_|refine g_exitHere ?_|refine g_ret ?_)
  refine g_ret1 rfl fun w hw=>⟨(la,lc,l),rfl,hw.sub (.cons_cons _ (.cons _ (.refl _))),hnd,fun x hx=>by rw [← hn]; exact hlt' x hx,fun x=>⟨fun hx=>⟨h0',hr x hx⟩,fun ⟨_,hx⟩=>?_⟩⟩
  refine rch_closed (p:=fun y=>y ∈ l) hbm (fun y z hy he hw=>?_) hx
  obtain ⟨k,hk⟩:=List.getElem?_of_mem hy
  exact hcl k y z (by have:=(List.getElem?_eq_some_iff.1 hk).1; omega) hk he hw
theorem bodyErr_good {fs : List LFunc} {f : LFunc} (h : bodyErr fs f = 0) : GoodB f.blocks:=by
 unfold bodyErr at h
 split at h
 ·rename_i h1; exact absurd h h1
 ·rename_i h1
  have hz:=firstI_zero (by simpa using h1)
  intro b hb
  obtain ⟨j,hj⟩:=List.getElem?_of_mem hb
  have:=hz j (List.getElem?_eq_some_iff.1 hj).1
  simp only [at0,hj] at this
  exact endE_ok this
theorem check_bodies {u : LUnit} (h : (checkL u).1 = 0) : ∀ X ∈ u.funcs,bodyErr u.funcs X = 0:=by
 unfold checkL at h
 split at h
 ·cases h
 ·split at h
  ·rename_i h2; exact absurd h h2
  ·split at h
   ·rename_i h2; exact absurd h h2
   ·split at h
    ·rename_i h2; exact absurd h h2
    ·rename_i h4
     have hz:=firstI_zero (by simpa using h4)
     intro X hX
     obtain ⟨j,hj⟩:=List.getElem?_of_mem hX
     have:=hz j (List.getElem?_eq_some_iff.1 hj).1
     simpa only [at0,hj] using this
end Go.Proofs.YtdbljcahlpkgdaaDoor
namespace Go.Proofs.YtdbljcahlpkgdaaDoor
open Go Go.RowKit
def dfs (bl : List LBlock) : Nat→Nat→List Bool × List Nat→List Bool × List Nat
 | 0,_,st=>st
 | f + 1,b,st =>
  let r:=((toOf bl b).reverse.map Int.toNat).foldl (fun st t=>if st.1[t]?.getD true then st else dfs bl f t st) (st.1.set b true,st.2)
  (r.1,r.2++[b])
def vstep (bl : List LBlock) (f : Nat) (st : List Bool × List Nat) (t : Nat) : List Bool × List Nat:=if st.1[t]?.getD true then st else dfs bl f t st
theorem dfs_succ (bl : List LBlock) (f b : Nat) (st : List Bool × List Nat) : dfs bl (f + 1) b st = ((((toOf bl b).reverse.map Int.toNat).foldl (vstep bl f) (st.1.set b true,st.2)).1,(((toOf bl b).reverse.map Int.toNat).foldl (vstep bl f) (st.1.set b true,st.2)).2++[b]):=rfl
theorem getD_false {l : List Bool} {t : Nat} (h : (l[t]?.getD true) = false) : l[t]? = some false:=by
 cases hq : l[t]? with
 | none=>rw [hq] at h; cases h
 | some v=>rw [hq] at h; simp at h; rw [h]
theorem vstep_cases {bl : List LBlock} {f t : Nat} {st : List Bool × List Nat} : vstep bl f st t = st ∨ (st.1[t]? = some false∧vstep bl f st t = dfs bl f t st):=by
 unfold vstep
 by_cases h : st.1[t]?.getD true = true
 ·rw [if_pos h]; exact .inl rfl
 ·rw [if_neg h]; exact .inr ⟨getD_false (by simpa using h),rfl⟩
theorem foldl_inv {α β : Type} {p : β→Prop} {g : β→α→β} {b : β} (hg : ∀ b a,p b→p (g b a)) (hb : p b) : ∀ l : List α,p (l.foldl g b)
 | []=>hb
 | a::l=>foldl_inv hg (hg b a hb) l
def Grows (st st' : List Bool × List Nat) : Prop:=st'.1.length = st.1.length∧(∀ x : Nat,st.1[x]? = some true→st'.1[x]? = some true)∧unseen st'.1 ≤ unseen st.1∧st'.2.length + unseen st'.1 ≤ st.2.length + unseen st.1
theorem Grows.refl (st : List Bool × List Nat) : Grows st st:=⟨rfl,fun _ h=>h,Nat.le_refl _,Nat.le_refl _⟩
theorem Grows.trans {a b c : List Bool × List Nat} (h : Grows a b) (k : Grows b c) : Grows a c:=⟨k.1.trans h.1,fun x hx=>k.2.1 x (h.2.1 x hx),Nat.le_trans k.2.2.1 h.2.2.1,Nat.le_trans k.2.2.2 h.2.2.2⟩
theorem set_true {l : List Bool} {b x : Nat} (h : l[x]? = some true) : (l.set b true)[x]? = some true:=by
 rw [List.getElem?_set]
 split
 ·rename_i e; subst e
  rw [if_pos (List.getElem?_eq_some_iff.1 h).1]
 ·exact h
theorem dfs_grows (bl : List LBlock) : ∀ (f b : Nat) (st : List Bool × List Nat),st.1[b]? = some false→Grows st (dfs bl f b st)
 | 0,b,st,_=>Grows.refl st
 | f + 1,b,st,hb=>by
  have hu:=unseen_set hb
  have h1 : ∀ st1,Grows (st.1.set b true,st.2) st1→∀ t,Grows (st.1.set b true,st.2) (vstep bl f st1 t):=fun st1 h t=>by
   rcases vstep_cases (bl:=bl) (f:=f) (t:=t) (st:=st1) with e|⟨hf,e⟩
   ·rw [e]; exact h
   ·rw [e]; exact h.trans (dfs_grows bl f t st1 hf)
  have h2:=foldl_inv (p:=Grows (st.1.set b true,st.2)) (g:=vstep bl f) (fun st1 t h=>h1 st1 h t) (Grows.refl _) ((toOf bl b).reverse.map Int.toNat)
  rw [dfs_succ]
  refine ⟨by have:=h2.1; simpa using this,fun x hx=>h2.2.1 x (set_true hx),?_,?_⟩
  ·have:=h2.2.2.1; simp only at this ⊢; omega
  ·have:=h2.2.2.2; simp only [List.length_append,List.length_singleton] at this ⊢; omega
theorem vsteps_grows (bl : List LBlock) (f : Nat) (st : List Bool × List Nat) (l : List Nat) : Grows st (l.foldl (vstep bl f) st) :=
 foldl_inv (p:=Grows st) (g:=vstep bl f) (fun st1 t h=>by
  rcases vstep_cases (bl:=bl) (f:=f) (t:=t) (st:=st1) with e|⟨hf,e⟩
  ·rw [e]; exact h
  ·rw [e]; exact h.trans (dfs_grows bl f t st1 hf)) (Grows.refl _) l
theorem dfs_self (bl : List LBlock) (f b : Nat) (st : List Bool × List Nat) (hb : st.1[b]? = some false) : (dfs bl (f + 1) b st).1[b]? = some true:=by
 rw [dfs_succ]
 refine (vsteps_grows bl f _ _).2.1 b ?_
 have hlt:=(List.getElem?_eq_some_iff.1 hb).1
 simp [hlt]
theorem GoodB.nat {bl : List LBlock} (h : GoodB bl) {b : Nat} {z : Int} (hz : z ∈ toOf bl b) : ((z.toNat : Nat) : Int) = z:=by
 unfold toOf at hz
 split at hz
 ·rename_i B hB
  have:=(h B (List.mem_of_getElem? hB)).2 z hz
  omega
 ·cases hz
theorem dfs_sound (bl : List LBlock) (hok : GoodB bl) : ∀ (f b : Nat) (st : List Bool × List Nat),st.1[b]? = some false →
  (∀ x,(dfs bl f b st).1[x]? = some true→st.1[x]? = some true ∨ Rch bl (-1) b x)∧∀ x,x ∈ (dfs bl f b st).2 ↔ (x ∈ st.2 ∨ (st.1[x]? = some false∧(dfs bl f b st).1[x]? = some true))
 | 0,b,st,_=>⟨fun x hx=>.inl hx,fun x=>⟨.inl,fun h=>h.elim id fun ⟨h1,h2⟩=>by rw [show (dfs bl 0 b st).1 = st.1 from rfl,h1] at h2; cases h2⟩⟩
 | f + 1,b,st,hb=>by
  have hlt:=(List.getElem?_eq_some_iff.1 hb).1
  have key : ∀ (l : List Nat),(∀ t ∈ l,Edge bl b t)→∀ st1 : List Bool × List Nat,Grows (st.1.set b true,st.2) st1 →
    ((∀ x,st1.1[x]? = some true→st.1[x]? = some true ∨ Rch bl (-1) b x)∧∀ x,x ∈ st1.2 ↔ (x ∈ st.2 ∨ (x ≠ b∧st.1[x]? = some false∧st1.1[x]? = some true))) →
    ((∀ x,(l.foldl (vstep bl f) st1).1[x]? = some true→st.1[x]? = some true ∨ Rch bl (-1) b x)∧∀ x,x ∈ (l.foldl (vstep bl f) st1).2 ↔ (x ∈ st.2 ∨ (x ≠ b∧st.1[x]? = some false∧(l.foldl (vstep bl f) st1).1[x]? = some true))):=by
   intro l
   induction l with
   | nil=>exact fun _ st1 _ h=>h
   | cons t l ih =>
    intro hl st1 hg h
    simp only [List.foldl_cons]
    rcases vstep_cases (bl:=bl) (f:=f) (t:=t) (st:=st1) with e|⟨hf,e⟩
    ·rw [e]; exact ih (fun t' ht'=>hl t' (List.mem_cons_of_mem _ ht')) st1 hg h
    ·rw [e]
     have hd:=dfs_sound bl hok f t st1 hf
     have hgd:=dfs_grows bl f t st1 hf
     refine ih (fun t' ht'=>hl t' (List.mem_cons_of_mem _ ht')) _ (hg.trans hgd) ⟨fun x hx=>?_,fun x=>?_⟩
     ·rcases hd.1 x hx with h1|h1
      ·exact h.1 x h1
      ·exact .inr (((Rch.refl).step (hl t (by simp)) (by omega)).trans h1)
     ·rw [hd.2 x,h.2 x]
      constructor
      ·rintro ((h1|⟨h1,h2,h3⟩)|⟨h1,h2⟩)
       ·exact .inl h1
       ·exact .inr ⟨h1,h2,hgd.2.1 x h3⟩
       ·by_cases hs : st.1[x]? = some true
        ·exfalso
         have:=hg.2.1 x (set_true hs)
         rw [h1] at this; cases this
        ·have hxl : x < st.1.length:=by have:=(List.getElem?_eq_some_iff.1 h1).1; have:=hg.1; simp at this; omega
         have hsf : st.1[x]? = some false:=by
          rw [List.getElem?_eq_getElem hxl] at hs ⊢
          cases hv : st.1[x]
          ·rfl
          ·rw [hv] at hs; exact absurd rfl hs
         refine .inr ⟨fun e=>?_,hsf,h2⟩
         subst e
         have:=hg.2.1 x (by simp [hlt])
         rw [h1] at this; cases this
      ·rintro (h1|⟨h1,h2,h3⟩)
       ·exact .inl (.inl h1)
       ·by_cases hs : st1.1[x]? = some true
        ·exact .inl (.inr ⟨h1,h2,hs⟩)
        ·refine .inr ⟨?_,h3⟩
         have hxl : x < st1.1.length:=by have:=(List.getElem?_eq_some_iff.1 h2).1; have:=hg.1; simp at this; omega
         rw [List.getElem?_eq_getElem hxl] at hs ⊢
         cases hv : st1.1[x]
         ·rfl
         ·rw [hv] at hs; exact absurd rfl hs
  have hfin:=key ((toOf bl b).reverse.map Int.toNat) (fun t ht=>?_) (st.1.set b true,st.2) (Grows.refl _) ⟨fun x hx=>?_,fun x=>?_⟩
  ·rw [dfs_succ]
   refine ⟨hfin.1,fun x=>?_⟩
   simp only [List.mem_append,List.mem_singleton]
   rw [hfin.2 x]
   constructor
   ·rintro ((h1|⟨_,h2,h3⟩)|rfl)
    ·exact .inl h1
    ·exact .inr ⟨h2,h3⟩
    ·exact .inr ⟨hb,(vsteps_grows bl f _ _).2.1 x (by simp [hlt])⟩
   ·rintro (h1|⟨h2,h3⟩)
    ·exact .inl (.inl h1)
    ·by_cases e : x = b
     ·exact .inr e
     ·exact .inl (.inr ⟨e,h2,h3⟩)
  ·obtain ⟨z,hz,rfl⟩:=List.mem_map.1 ht
   unfold Edge
   have hz : z ∈ toOf bl b:=by simpa using hz
   rw [hok.nat hz]
   exact hz
  ·simp only [List.getElem?_set] at hx
   by_cases e : b = x
   ·subst e; exact .inr Rch.refl
   ·rw [if_neg e] at hx; exact .inl hx
  ·constructor
   ·exact .inl
   ·rintro (h|⟨h1,h2,h3⟩)
    ·exact h
    ·simp only [List.getElem?_set] at h3
     rw [if_neg (Ne.symm h1),h2] at h3
     cases h3
theorem unseen_pos {l : List Bool} {t : Nat} (h : l[t]? = some false) : 1 ≤ unseen l:=by have:=unseen_set h; omega
theorem vstep_seen {bl : List LBlock} {f t : Nat} {st : List Bool × List Nat} (ht : t < st.1.length) (hu : unseen st.1 ≤ f) : (vstep bl f st t).1[t]? = some true:=by
 unfold vstep
 by_cases h : st.1[t]?.getD true = true
 ·rw [if_pos h]
  rw [List.getElem?_eq_getElem ht] at h ⊢
  simpa using h
 ·rw [if_neg h]
  have hf:=getD_false (by simpa using h)
  have:=unseen_pos hf
  obtain ⟨m,rfl⟩ : ∃ m,f = m + 1:=⟨f - 1,by omega⟩
  exact dfs_self bl m t st hf
theorem dfs_closed (bl : List LBlock) (hok : GoodB bl) : ∀ (f b : Nat) (st : List Bool × List Nat),st.1.length = bl.length→st.1[b]? = some false→unseen st.1 ≤ f →
  ∀ x,(dfs bl f b st).1[x]? = some true→st.1[x]? = some true ∨ ∀ y,Edge bl x y→(dfs bl f b st).1[y]? = some true
 | 0,b,st,_,hb,hu=>by have:=unseen_pos hb; omega
 | f + 1,b,st,hl,hb,hu=>by
  have hus:=unseen_set hb
  have key : ∀ (l : List Nat),(∀ t ∈ l,t < bl.length)→∀ st1 : List Bool × List Nat,Grows (st.1.set b true,st.2) st1 →
    (∀ x,st1.1[x]? = some true→st.1[x]? = some true ∨ x = b ∨ ∀ y,Edge bl x y→st1.1[y]? = some true) →
    (∀ x,(l.foldl (vstep bl f) st1).1[x]? = some true→st.1[x]? = some true ∨ x = b ∨ ∀ y,Edge bl x y→(l.foldl (vstep bl f) st1).1[y]? = some true)∧∀ t ∈ l,(l.foldl (vstep bl f) st1).1[t]? = some true:=by
   intro l
   induction l with
   | nil=>exact fun _ st1 _ h=>⟨h,by simp⟩
   | cons t l ih =>
    intro hlt st1 hg h
    simp only [List.foldl_cons]
    have hl1 : st1.1.length = bl.length:=by have:=hg.1; simp at this; omega
    have hu1 : unseen st1.1 ≤ f:=by have:=hg.2.2.1; simp only at this; omega
    have hs1 : (vstep bl f st1 t).1[t]? = some true:=vstep_seen (by have:=hlt t (by simp); omega) hu1
    have hgs : Grows st1 (vstep bl f st1 t):=by
     rcases vstep_cases (bl:=bl) (f:=f) (t:=t) (st:=st1) with e|⟨hf,e⟩
     ·rw [e]; exact Grows.refl _
     ·rw [e]; exact dfs_grows bl f t st1 hf
    have:=ih (fun t' ht'=>hlt t' (List.mem_cons_of_mem _ ht')) (vstep bl f st1 t) (hg.trans hgs) fun x hx=>?_
    ·refine ⟨this.1,fun t' ht'=>?_⟩
     rcases List.mem_cons.1 ht' with rfl|ht'
     ·exact (vsteps_grows bl f _ l).2.1 _ hs1
     ·exact this.2 t' ht'
    ·have up : ∀ y,st1.1[y]? = some true→(vstep bl f st1 t).1[y]? = some true:=hgs.2.1
     rcases vstep_cases (bl:=bl) (f:=f) (t:=t) (st:=st1) with e|⟨hf,e⟩
     ·rw [e] at hx ⊢; exact h x hx
     ·rw [e] at hx up ⊢
      rcases dfs_closed bl hok f t st1 hl1 hf hu1 x hx with h1|h1
      ·rcases h x h1 with h2|h2|h2
       ·exact .inl h2
       ·exact .inr (.inl h2)
       ·exact .inr (.inr fun y hy=>up y (h2 y hy))
      ·exact .inr (.inr h1)
  have hfin:=key ((toOf bl b).reverse.map Int.toNat) (fun t ht=>?_) (st.1.set b true,st.2) (Grows.refl _) fun x hx=>?_
  ·intro x hx
   rw [dfs_succ] at hx ⊢
   rcases hfin.1 x hx with h1|rfl|h1
   ·exact .inl h1
   ·refine .inr fun y hy=>hfin.2 y ?_
    refine List.mem_map.2 ⟨(y : Int),?_,by simp⟩
    rw [List.mem_reverse]
    exact hy
   ·exact .inr h1
  ·obtain ⟨z,hz,rfl⟩:=List.mem_map.1 ht
   have hz : z ∈ toOf bl b:=by simpa using hz
   exact hok.edge (x:=b) (by unfold Edge; rw [hok.nat hz]; exact hz)
  ·simp only [List.getElem?_set] at hx
   by_cases e : b = x
   ·exact .inr (.inl e.symm)
   ·rw [if_neg e] at hx; exact .inl hx
def postL (bl : List LBlock) : List Nat:=(dfs bl bl.length 0 (List.replicate bl.length false,[])).2
theorem unseen_all (n : Nat) : unseen (List.replicate n false) = n:=by simp [unseen]
theorem postL_mem {bl : List LBlock} (hok : GoodB bl) (h0 : 0 < bl.length) {x : Nat} : x ∈ postL bl ↔ Rch bl (-1) 0 x:=by
 have hb : (List.replicate bl.length false)[0]? = some false:=by simp [h0]
 have hs:=dfs_sound bl hok bl.length 0 (List.replicate bl.length false,[]) hb
 have hc:=dfs_closed bl hok bl.length 0 (List.replicate bl.length false,[]) (by simp) hb (by rw [unseen_all]; exact Nat.le_refl _)
 have hself : (dfs bl bl.length 0 (List.replicate bl.length false,[])).1[0]? = some true:=by
  obtain ⟨m,hm⟩ : ∃ m,bl.length = m + 1:=⟨bl.length - 1,by omega⟩
  rw [hm] at hb ⊢
  exact dfs_self bl m 0 _ hb
 have hno : ∀ x,¬ ((List.replicate bl.length false)[x]? = some true):=fun x h=>by
  rw [List.getElem?_replicate] at h
  split at h <;> simp at h
 unfold postL
 rw [hs.2 x]
 constructor
 ·rintro (h|⟨_,h⟩)
  ·cases h
  ·exact (hs.1 x h).resolve_left (hno x)
 ·intro h
  have hx:=rch_closed (p:=fun x=>(dfs bl bl.length 0 (List.replicate bl.length false,[])).1[x]? = some true) hself (fun x y hx he _=>(hc x hx).resolve_left (hno x) y he) h
  have hlt:=hok.rch h0 h
  exact .inr ⟨by simp [hlt],hx⟩
theorem postL_lt {bl : List LBlock} (hok : GoodB bl) (h0 : 0 < bl.length) {x : Nat} (h : x ∈ postL bl) : x < bl.length:=hok.rch h0 ((postL_mem hok h0).1 h)
theorem postL_len {bl : List LBlock} (h0 : 0 < bl.length) : (postL bl).length ≤ bl.length:=by
 have hb : (List.replicate bl.length false)[0]? = some false:=by simp [h0]
 have:=(dfs_grows bl bl.length 0 (List.replicate bl.length false,[]) hb).2.2.2
 rw [unseen_all] at this
 unfold postL
 simp only [List.length_nil] at this
 omega
open Classical in
theorem filterTo_succ {p : Nat→Prop} (n : Nat) : (List.range (n + 1)).filter (fun c=>decide (p c)) = (List.range n).filter (fun c=>decide (p c))++(if p n then [n] else []):=by
 rw [List.range_succ,List.filter_append]
 congr 1
 by_cases h : p n <;> simp [h]
def cnt (p : Nat→Prop) [DecidablePred p] (n : Nat) : Nat:=((List.range n).filter fun c=>decide (p c)).length
theorem cnt_succ (p : Nat→Prop) [DecidablePred p] (n : Nat) : cnt p (n + 1) = cnt p n + if p n then 1 else 0:=by
 unfold cnt
 rw [List.range_succ,List.filter_append,List.length_append]
 by_cases h : p n <;> simp [h]
theorem cnt_le {p q : Nat→Prop} [DecidablePred p] [DecidablePred q] : ∀ {n : Nat},(∀ c,c < n→p c→q c)→cnt p n ≤ cnt q n
 | 0,_=>by simp [cnt]
 | n + 1,h=>by
  have:=cnt_le (n:=n) fun c hc=>h c (by omega)
  rw [cnt_succ,cnt_succ]
  have hn:=h n (by omega)
  by_cases hp : p n
  ·rw [if_pos hp,if_pos (hn hp)]; omega
  ·rw [if_neg hp]; omega
theorem cnt_one {p q : Nat→Prop} [DecidablePred p] [DecidablePred q] {b : Nat} (hb : ¬ p b) : ∀ {n : Nat},b < n→(∀ c,c < n→(q c ↔ (p c ∨ c = b)))→cnt q n = cnt p n + 1
 | 0,h,_=>by omega
 | n + 1,hbn,h=>by
  rw [cnt_succ,cnt_succ]
  by_cases e : b = n
  ·subst e
   have h1 : cnt p b = cnt q b:=Nat.le_antisymm (cnt_le fun c hc hp=>(h c (by omega)).2 (.inl hp)) (cnt_le fun c hc hq=>((h c (by omega)).1 hq).elim id fun e=>by omega)
   rw [if_pos ((h b (by omega)).2 (.inr rfl)),if_neg hb,h1]
  ·rw [cnt_one hb (by omega) fun c hc=>h c (by omega)]
   have hn:=h n (by omega)
   by_cases hp : p n
   ·rw [if_pos hp,if_pos (hn.2 (.inl hp))]
   ·rw [if_neg hp,if_neg fun hq=>(hn.1 hq).elim hp fun e'=>e e'.symm]
end Go.Proofs.YtdbljcahlpkgdaaDoor
namespace Go.Proofs.YtdbljcahlpkgdaaDoor
open Go Go.RowKit Go.Shelf
attribute [local go_sem] Oper.semAt_some
def KeepB (K : Nat→Prop) (W W' : World) : Prop:=∀ b,K b→W'.heap[b]? = W.heap[b]?
theorem KeepB.cell {K : Nat→Prop} {W W' : World} (h : KeepB K W W') {p : Addr} (hp : K p.block) : W'.cell? p = W.cell? p:=World.cell?_of_block (h _ hp)
def downTo (l : List Int) (k : Nat) : List (Int × Int):=(List.range k).map fun (j : Nat)=>(((l.length - 1 - j : Nat) : Int),l[l.length - 1 - j]?.getD 0)
theorem downTo_length (l : List Int) (k : Nat) : (downTo l k).length = k:=by simp [downTo]
theorem wrap64_in' (n : Int) (h1 : -9223372036854775808 ≤ n) (h2 : n ≤ 9223372036854775807) : wrap64 n = n:=by unfold wrap64; omega
set_option maxRecDepth 100000 in
set_option maxHeartbeats 2000000 in
theorem backInt1_in (n : Nat) (hn : 1 ≤ n) {α : Type} (enc : α→Int × Int) (l Bs b off cap : Nat) (K : Nat→Prop) (zs : List Int) (xs : List α) (hxs : xs.map enc = downTo zs zs.length) (hlen : zs.length ≤ 100000) (hb : zs ≠ []→K b) (hBsK : K Bs) (J Jx : List α→World→Prop) (a : Option Addr) (ha : zs ≠ []→a = some ⟨b,off,none⟩)
  (hY : ∀ pre x W,J pre W→pre.length < zs.length→YieldAt Fence.wide (n - 1) Tryd.prog l #[.int .i64 (enc x).1,.int .i64 (enc x).2] W fun e W' =>
   (e = .returned (.bool true)∧J (pre++[x]) W'∧KeepB K W W') ∨ (e = .returned (.bool false)∧Jx (pre++[x]) W'))
  (W : World) (hBs : W.cell? ⟨Bs,0,none⟩ = some (.slice a zs.length cap)) (hc : ∀ j,j < zs.length→W.cell? ⟨b,off + j,none⟩ = some (.int .i64 (zs[j]?.getD 0))) (h0 : J [] W) :
  CallsIn Fence.wide n Tryd.prog 59 #[.func (.yield l) #[] #[],.pointer (some ⟨Bs,0,none⟩)] W fun e W'=>(∃ v,e = .returned v) ∧
   ((∃ ys,ys = xs∧J ys W') ∨ (∃ pre,pre <+: xs∧Jx pre W')):=by
 refine callsIn_of_wp Tryd.func59 rfl trivial ?_ rfl
 simp only [Tryd.ntmps59,List.size_toArray,List.length_cons,List.length_nil,Nat.reduceAdd,Nat.reduceSub,Array.replicate_succ,Array.replicate_zero,List.push_toArray,List.append_toArray,List.nil_append,List.cons_append]
 have hxl : xs.length = zs.length:=by have:=congrArg List.length hxs; rwa [List.length_map,downTo_length] at this
 have hwr : wrap64 ((zs.length : Int) - 1) = (zs.length : Int) - 1:=wrap64_in' _ (by omega) (by omega)
 gi_wp2
 gi_loopw [3] (fun i wr=>∃ m : Nat,m ≤ zs.length∧i = .int .i64 ((m : Int) - 1)∧J (xs.take (zs.length - m)) wr∧KeepB K W wr) (fun i _=>(intOf i + 1).toNat)
 case atStart=>exact ⟨zs.length,Nat.le_refl _,by first|rfl|simp [hwr],by simpa using h0,fun _ _=>rfl⟩
 case round =>
  obtain ⟨m,hm,rfl,hJs,hk⟩:=hrel
  cases m with
  | zero =>
   gi_wp2
   go_end0
   exact ⟨⟨_,rfl⟩,.inl ⟨xs,rfl,by rw [Nat.sub_zero,List.take_of_length_le (by omega)] at hJs; exact hJs⟩⟩
  | succ m =>
   have hne : zs ≠ []:=by rintro rfl; simp at hm
   obtain rfl:=ha hne
   rw [show (((m + 1 : Nat) : Int) - 1) = (m : Int) by omega]
   obtain ⟨z,hz⟩ : ∃ z,zs[m]? = some z:=⟨_,List.getElem?_eq_getElem (by omega)⟩
   have hcx : wr.cell? ⟨b,off + m,none⟩ = some (.int .i64 z):=by have:=(hk.cell (p:=⟨b,off + m,none⟩) (hb hne)).trans (hc m (by omega)); rwa [hz] at this
   have hBx : wr.cell? ⟨Bs,0,none⟩ = some (.slice (some ⟨b,off,none⟩) zs.length cap):=(hk.cell (p:=⟨Bs,0,none⟩) hBsK).trans hBs
   have hlt : m < zs.length:=by omega
   obtain ⟨x,hx⟩ : ∃ x,xs[zs.length - (m + 1)]? = some x:=⟨_,List.getElem?_eq_getElem (by omega)⟩
   have hex : enc x = ((m : Int),z):=by
    have h1 : (xs.map enc)[zs.length - (m + 1)]? = some (enc x):=by rw [List.getElem?_map,hx]; rfl
    rw [hxs,downTo,List.getElem?_map,List.getElem?_range (by omega)] at h1
    simp only [Option.map_some,Option.some.injEq] at h1
    rw [← h1,show zs.length - 1 - (zs.length - (m + 1)) = m by omega,hz]; rfl
   have hY1:=hY _ x wr hJs (by rw [List.length_take]; omega)
   rw [hex] at hY1
   have htk : xs.take (zs.length - (m + 1))++[x] = xs.take (zs.length - m):=by
    rw [show zs.length - m = (zs.length - (m + 1)) + 1 by omega,List.take_add_one,hx]; rfl
   rw [htk] at hY1
   obtain ⟨fn,tmps,assign,body,hy,hR⟩:=hY1
   dsimp only at hy
   have hwr2 : wrap64 ((m : Int) - 1) = (m : Int) - 1:=wrap64_in' _ (by omega) (by omega)
   gi_wp2
   refine hR.mono ?_
   rintro e W3 (⟨rfl,hJ3,hk3⟩|⟨rfl,hJx3⟩)
   ·gi_wp2
    go_roundw
    case rel=>exact ⟨m,by omega,by first|rfl|simp [hwr2],hJ3,fun b hb=>(hk3 b hb).trans (hk b hb)⟩
    case measure=>simp [intOf]
   ·gi_wp2
    refine bodyPost_ret (results_none rfl _ _ _) rfl ?_
    exact ⟨⟨_,rfl⟩,.inr ⟨_,List.take_prefix _ _,hJx3⟩⟩
end Go.Proofs.YtdbljcahlpkgdaaDoor
namespace Go.Proofs.YtdbljcahlpkgdaaDoor
open Go Go.RowKit
def Ent.rest (U : Nat→Prop) (W : World) : Ent:=⟨U,fun w=>W.heap.size ≤ w.heap.size∧∀ b,U b→w.heap[b]? = W.heap[b]?⟩
def restOf (n : Nat) (W : World) (H : List Ent) : Nat→Prop:=fun b=>n ≤ b∧b < W.heap.size∧¬ fps H b
def Ent.mark (D : Nat) : Ent:=⟨fun k=>k = D,fun w=>w.heap[D]? = some (.deferred (some []))⟩
section
variable {S : Nat→Prop} {w0 wz w w' W : World} {H H1 H2 H' E F : List Ent}
theorem Wd.withRest (h : Wd S w0 H W) : Wd S w0 (Ent.rest (restOf w0.heap.size W H) W::H) W :=
 ⟨h.chg,fun e he b hb=>by
  rcases List.mem_cons.1 he with rfl|he
  ·exact ⟨.inr hb.1,hb.2.1⟩
  ·exact h.own e he b hb,fun e he w' hs hw'=>by
  rcases List.mem_cons.1 he with rfl|he
  ·exact ⟨hs,fun b hb=>hw' b hb⟩
  ·exact h.ok e he w' hs hw',List.pairwise_cons.2 ⟨fun f hf b hb hfb=>hb.2.2 ⟨f,hf,hfb⟩,h.apart⟩⟩
theorem wd_rest (hz : Chg NoS wz w) (h : Wd NoS wz (Ent.rest (restOf wz.heap.size w H1) w::E) w') : Wd (fps H1) w E w':=by
 obtain ⟨hs,hr⟩:=h.get (k:=0) rfl
 have hap:=List.pairwise_cons.1 h.apart
 refine ⟨⟨h.chg.os.trans hz.os.symm,h.chg.tape.trans hz.tape.symm,h.chg.output.trans hz.output.symm,hs,fun k hk hnS=>?_⟩,fun e he b hb=>?_,fun e he=>h.ok e (List.mem_cons_of_mem _ he),hap.2⟩
 ·by_cases hlt : k < wz.heap.size
  ·exact (h.chg.block k hlt fun h=>h).trans (hz.block k hlt fun h=>h).symm
  ·exact hr k ⟨by omega,hk,hnS⟩
 ·obtain ⟨h1,h2⟩:=h.own e (List.mem_cons_of_mem _ he) b hb
  have h1 : wz.heap.size ≤ b:=h1.elim (fun h=>h.elim) id
  refine ⟨?_,h2⟩
  by_cases hlt : b < w.heap.size
  ·left
   exact Classical.byContradiction fun hn=>hap.1 e he b ⟨h1,hlt,hn⟩ hb
  ·right; omega
theorem Wd.grown {row : Option Nat} (h : Wd S w0 H W) (hg : W.grownBy w' row) (hr : ∀ r,row = some r→w0.heap.size ≤ r∧¬ fps H r) : Wd S w0 H w':=by
 have hb : ∀ b,fps H b→w'.heap[b]? = W.heap[b]?:=fun b ⟨e,he,hb⟩=>hg.block b (h.own e he b hb).2 fun hrow=>(hr b hrow.symm).2 ⟨e,he,hb⟩
 refine ⟨⟨hg.os.trans h.chg.os,hg.tape.trans h.chg.tape,hg.output.trans h.chg.output,Nat.le_trans h.chg.size hg.size,fun k hk hS=>?_⟩,fun e he b hb=>?_,fun e he w2 hs hw2=>?_,h.apart⟩
 ·exact (hg.block k (by have:=h.chg.size; omega) fun hrow=>by have:=(hr k hrow.symm).1; omega).trans (h.chg.block k hk hS)
 ·have:=h.own e he b hb
  exact ⟨this.1,by have:=hg.size; omega⟩
 ·exact h.ok e he w2 (Nat.le_trans hg.size hs) fun b hbb=>(hw2 b hbb).trans (hb b ⟨e,he,hbb⟩)
theorem Wd.shut {D : Nat} (h : Wd S w0 (Ent.mark D::H) w) (hD : w0.heap.size ≤ D) (o : Obj) : Wd S w0 H (w.putObj D o):=by
 refine (h.sub (List.sublist_cons_self _ _)).grown (grownBy_putObj' w D o) fun r hr=>?_
 cases hr
 exact ⟨hD,fun ⟨f,hf,hfb⟩=>(List.pairwise_cons.1 h.apart).1 f hf D rfl hfb⟩
end
class CellsE (e : Ent) : Prop where
 ok : ∀ w,e.ok w→∀ b,e.fp b→∃ cs t z,w.heap[b]? = some (.cells cs t z)
class CellsL (H : List Ent) : Prop where
 all : ∀ e ∈ H,CellsE e
instance (b : Nat) (cs : List Value) (t : TypeId) : CellsE (Ent.box b cs t):=⟨fun w h k hk=>by subst hk; exact ⟨_,_,_,h⟩⟩
instance (a : Option Addr) (n c e s : Nat) (xs : List Value) : CellsE (Ent.vec a n c e s xs):=⟨fun w h k hk=>by
 rcases h.2 with ⟨rfl,_⟩|⟨g,pre,sp,rfl,_,_,_,hb⟩
 ·cases hk
 ·simp only [Ent.vec,Option.map_some,Option.some.injEq] at hk
  subst hk
  exact ⟨_,_,_,hb⟩⟩
section
variable {P : Program} {N : Nat} {ds : List Deferred} {S : Nat→Prop} {w0 : World} {L L' : List (Nat × Value)} {H H' : List Ent} {a : Act} {w : World}
 {ops : Array Oper} {rest : List Oper} {Q : Exit→Act→World→Prop} {p : Act→World→Prop}
theorem wpIn_deep {ro : Option Nat} {m n : Nat} {c : Code} (h : c.wpIn (FW ro) m P Q a w) : c.wpIn (FW ro) n P Q a w:=fun b k cs hb hf _=>h b k cs hb hf (fun d hd=>by cases hd)
theorem callsIn_deep {ro : Option Nat} {m n : Nat} {f : FuncId} {args : Array Value} {R : Ending→World→Prop} (h : CallsIn (FW ro) m P f args w R) : CallsIn (FW ro) n P f args w R:=⟨h.1,fun cs _=>h.2 cs (fun d hd=>by cases hd)⟩
theorem g_callFS {α : Type} {ro : Option Nat} {val : α→Value} {E : α→List Ent} {φ : α→Prop} {H1 H2 : List Ent} {d ty f : Nat} {args : List Operand} {us vs xs : List Value} {tys : Array Nat} {x : Operand} {pos : String} {aft : Array Go.Edge} [h : EnterOk P f] [hx : Evs L args vs] [hf : Ev L x (.func (.func f) us.toArray xs.toArray)] (hd : okPut d N L = true)
  (hc : ∀ w,Wd S w0 (H1++H2) w→Ret P f (us++vs++xs) w fun u w'=>∃ x,u = val x∧Wd (fps H1) w (E x) w'∧φ x)
  (k : ∀ x,φ x→G N ds S w0 ((d,val x)::L) (E x++H2) (wpListIn (FW ro) 0 P ops Q rest)) : G N ds S w0 L (H1++H2) (wpListIn (FW ro) 0 P ops Q (⟨some d,.call { callee:=.value x,args:=args.toArray,argTypes:=tys },ty,pos,aft,none⟩::rest)):=by
 intro a w hS
 refine g_callF (S:=S) (w0:=w0) (H:=H1++H2) (xs:=xs) (us:=us) (vs:=vs) (fun _ u w'=>∃ x,u = val x∧Wd S w0 (E x++H2) w'∧φ x) hd (fun w hw=>(hc w hw).mono fun v w' ⟨x,h1,h2,h3⟩=>⟨x,h1,hw.comp h2,h3⟩) (fun v w w' hw hR a hF=>?_) a w hS
 obtain ⟨x,rfl,h2,h3⟩:=hR
 exact k x h3 a w' ⟨hF,h2⟩
theorem g_callS {α : Type} {ro : Option Nat} {val : α→Value} {E : α→List Ent} {φ : α→Prop} {H1 H2 : List Ent} {d ty f : Nat} {args : List Operand} {vs : List Value} {tys : Array Nat} {pos : String} {aft : Array Go.Edge} [h : EnterOk P f] [hx : Evs L args vs] (hd : okPut d N L = true)
  (hc : ∀ w,Wd S w0 (H1++H2) w→Ret P f vs w fun u w'=>∃ x,u = val x∧Wd (fps H1) w (E x) w'∧φ x)
  (k : ∀ x,φ x→G N ds S w0 ((d,val x)::L) (E x++H2) (wpListIn (FW ro) 0 P ops Q rest)) : G N ds S w0 L (H1++H2) (wpListIn (FW ro) 0 P ops Q (⟨some d,.call { callee:=.value (.func f),args:=args.toArray,argTypes:=tys },ty,pos,aft,none⟩::rest)):=by
 intro a w hS
 refine g_call (S:=S) (w0:=w0) (H:=H1++H2) (vs:=vs) (fun _ u w'=>∃ x,u = val x∧Wd S w0 (E x++H2) w'∧φ x) hd (fun w hw=>(hc w hw).mono fun v w' ⟨x,h1,h2,h3⟩=>⟨x,h1,hw.comp h2,h3⟩) (fun v w w' hw hR a hF=>?_) a w hS
 obtain ⟨x,rfl,h2,h3⟩:=hR
 exact k x h3 a w' ⟨hF,h2⟩
class SelAt (H : List Ent) (is : List Nat) (H' : outParam (List Ent)) : Prop where
 eq : is.filterMap (fun i=>H[i]?) = H'
instance (H : List Ent) : SelAt H [] []:=⟨rfl⟩
instance (H H' : List Ent) (i : Nat) (is : List Nat) (e : Ent) [h : ListAt H i e] [hs : SelAt H is H'] : SelAt H (i::is) (e::H'):=⟨by rw [List.filterMap_cons,h.at',hs.eq]⟩
theorem Wd.at_apart (h : Wd S w0 H w) {i j : Nat} {e f : Ent} (he : H[i]? = some e) (hf : H[j]? = some f) (hij : i ≠ j) : ∀ b,e.fp b→¬ f.fp b:=by
 obtain ⟨hi,rfl⟩:=List.getElem?_eq_some_iff.1 he
 obtain ⟨hj,rfl⟩:=List.getElem?_eq_some_iff.1 hf
 have hp:=List.pairwise_iff_getElem.1 h.apart
 intro b hb hfb
 by_cases hlt : i < j
 ·exact hp i j hi hj hlt b hb hfb
 ·exact hp j i hj hi (by omega) b hfb hb
theorem Wd.sel (h : Wd S w0 H w) (is : List Nat) (hn : is.Nodup) [hs : SelAt H is H'] : Wd S w0 H' w:=by
 rw [← hs.eq]
 refine ⟨h.chg,fun e he=>?_,fun e he=>?_,?_⟩
 ·obtain ⟨i,_,hi⟩:=List.mem_filterMap.1 he
  exact h.own e (List.mem_of_getElem? hi)
 ·obtain ⟨i,_,hi⟩:=List.mem_filterMap.1 he
  exact h.ok e (List.mem_of_getElem? hi)
 ·refine List.Pairwise.filterMap (R:=fun i j=>i ≠ j) _ (fun i j hij e he f hf=>?_) hn
  exact h.at_apart he hf hij
theorem g_sel (is : List Nat) (hn : is.Nodup) [hs : SelAt H is H'] (k : G N ds S w0 L H' p) : G N ds S w0 L H p:=fun a w hS=>k a w ⟨hS.fr,hS.wd.sel is hn⟩
theorem ret_enterM {f : FuncId} {fn : Func} {c : Code} {args : List Value} {R : Value→World→Prop} (hf : P.funcs[f]? = some fn) (hb : fn.body = some c) (hN : fn.ntmps = N) [hL : EnumIs 0 args L] (hlen : args.length.ble N = true) (hW : Wd S w0 H w)
  (h : G N [] S w0 L H (Code.wpIn (FW none) 0 P c (bodyPostM (FW none) 0 P fn fun e w'=>∃ v,e = .returned v∧R v w'))) : Ret P f args w R:=by
 subst hN
 refine callsIn_of_wp_marks hf hb trivial (h _ _ ⟨?_,hW⟩)
 rw [← hL.eq]
 exact fr_enter (Nat.le_of_ble_eq_true hlen)
theorem ret_enterZ {f : FuncId} {fn : Func} {c : Code} {args : List Value} {R : Value→World→Prop} (hf : P.funcs[f]? = some fn) (hb : fn.body = some c) (hN : fn.ntmps = N) [hL : EnumIs 0 args L] (hlen : args.length.ble N = true) (hW : Wd S w0 H w)
  (h : G N [] S w0 L H (Code.wpIn (FW none) 0 P c (bodyPost P fn fun e w'=>∃ v,e = .returned v∧R v w'))) : Ret P f args w R:=by
 subst hN
 refine callsIn_of_wp hf hb trivial (h _ _ ⟨?_,hW⟩)
 rw [← hL.eq]
 exact fr_enter (Nat.le_of_ble_eq_true hlen)
theorem leaves_mark {fn : Func} {tmps : Array Value} {R : Value→World→Prop} {D : Nat} {v : Value} (hD : w0.heap.size ≤ D) (hW : Wd S w0 (Ent.mark D::H) w) (hr : ∀ w,(results fn tmps).run P w = .ok v w) (hR : ∀ w,Wd S w0 H w→R v w) :
  LeavesInM (FW none) 0 P fn tmps (fun e w'=>∃ v,e = .returned v∧R v w') [⟨.collected D,#[]⟩] .returning w:=by
 refine ⟨by simp,.inl ⟨D,_,rfl,run_takeDeferred (hW.get (k:=0) rfl),?_⟩⟩
 exact ⟨v,hr _,v,rfl,hR _ (hW.shut hD _)⟩
theorem g_endM0 {fn : Func} {R : Value→World→Prop} {D : Nat} (hr : fn.results = #[]) (hD : w0.heap.size ≤ D) (hR : ∀ w,Wd S w0 H w→R (.tuple #[]) w) : G N [⟨.collected D,#[]⟩] S w0 L (Ent.mark D::H) (bodyPostM (FW none) 0 P fn (fun e w'=>∃ v,e = .returned v∧R v w') .normal):=fun a w hS=>by
 show LeavesInM _ _ _ _ _ _ _ _ _
 rw [hS.fr.defers]
 exact leaves_mark hD hS.wd (fun w=>results_none hr _ _ _) hR
def Rnd {σ : Type} (S : Nat→Prop) (w0 : World) (I : σ→Prop) (R : Ent) (Hc : σ→List Ent) (F : List Ent) : Act→World→Prop:=fun _ w=>∃ s,I s∧Wd S w0 (R::(Hc s++F)) w
theorem g_rnd {σ : Type} {I : σ→Prop} {R : Ent} {Hc : σ→List Ent} {F : List Ent} (s : σ) (hI : I s) (hH : (R::(Hc s++F)).Sublist H) : G N ds S w0 L H (Rnd S w0 I R Hc F):=fun _ _ hS=>⟨s,hI,hS.wd.sub hH⟩
theorem g_range {α σ : Type} {g : Operand} {ps : Array Tmp} {assign body : Code} {gf : Nat} {lb : List Value} [hg : Ev L g (.func (.func gf) #[] lb.toArray)] [eg : EnterOk P gf] (F : List Ent) (Hc : σ→List Ent) (hcl : ∀ s,CellsL (Hc s)) (xs : List α) {encs : α→Array Value}
  {Bs : Nat} {bcs : List Value} {bt : TypeId} (hBs : Ent.box Bs bcs bt ∈ F)
  (hseq : ∀ w,Wd S w0 H w→SeqStopsK (FW none) 4 P gf lb.toArray encs (KeepB fun b=>(b < w0.heap.size∧¬ S b) ∨ b = Bs) (fun ys=>ys = xs) (fun pre=>pre <+: xs) xs.length w)
  (I : List α→σ→Prop) (s0 : σ) (h0 : I [] s0) (hH : (Hc s0++F).Sublist H) (hps : ∀ x,(encs x).size = ps.size)
  (L0 La : α→List (Nat × Value)) (hput : ∀ x a,Fr N ds L a→Fr N [] (L0 x) { tmps:=(ps.zip (encs x)).foldl (fun t (p,v)=>t.setIfInBounds p v) a.tmps,defers:=[] })
  (hassign : ∀ (l : Nat) (x : α) (s : σ) (R : Ent),G N [] S w0 (L0 x) (R::(Hc s++F)) (assign.wpIn (FW (some l)) 0 P (Exit.then (St N [] S w0 (La x) (R::(Hc s++F))) (fun _ _ _=>False))))
  (hbody : ∀ (l : Nat) (pre : List α) (x : α) (s : σ) (R : Ent),I pre s→pre.length < xs.length→G N [] S w0 (La x) (R::(Hc s++F)) (body.wpIn (FW (some l)) 0 P (Exit.then (Rnd S w0 (I (pre++[x])) R Hc F) (fun _ _ _=>False))))
  (k : ∀ D s,w0.heap.size ≤ D→I xs s→G N (⟨.collected D,#[]⟩::ds) S w0 L (Ent.mark D::(Hc s++F)) (Q .normal)) : G N ds S w0 L H (Code.wpIn (FW none) 0 P (Code.rangeFunc g ps assign body) Q):=fun a w hS=>by
 have hsz:=hS.wd.size
 have hF : ∀ e ∈ F,∀ b,e.fp b→b < w.heap.size:=fun e he b hb=>(hS.wd.own e (hH.subset (List.mem_append_right _ he)) b hb).2
 have hcell : ∀ s W,Wd S w0 (Hc s++F) W→∀ r o,W.heap[r]? = some o→o.isCells = false→w.heap.size ≤ r→¬ fps (Hc s++F) r:=by
  rintro s W hW r o ho hn hle ⟨e,he,hb⟩
  rcases List.mem_append.1 he with he|he
  ·obtain ⟨j,hj⟩:=List.getElem?_of_mem (List.mem_append_left F he)
   obtain ⟨cs,t,z,hc⟩:=((hcl s).all e he).ok W (hW.get hj) r hb
   rw [hc] at ho
   cases ho
   cases hn
  ·have:=hF e he r hb; omega
 have hbox : ∀ s W,Wd S w0 (Hc s++F) W→W.heap[Bs]? = some (.cells bcs.toArray bt (0,0)):=fun s W hW=>by
  obtain ⟨j,hj⟩:=List.getElem?_of_mem (List.mem_append_right (Hc s) hBs)
  exact hW.get hj
 have hout : ∀ s s' W W',Wd S w0 (Hc s++F) W→Wd S w0 (Ent.rest (restOf w0.heap.size W (Hc s++F)) W::(Hc s'++F)) W'→KeepsFrom w.heap.size W W'∧KeepB (fun b=>(b < w0.heap.size∧¬ S b) ∨ b = Bs) W W':=by
  intro s s' W W' hW hW'
  obtain ⟨hs,hr⟩:=hW'.get (k:=0) rfl
  refine ⟨⟨hs,fun j o hj ho hn=>?_⟩,fun b hb=>?_⟩
  ·exact (hr j ⟨by omega,(Array.getElem?_eq_some_iff.1 ho).1,hcell s W hW j o ho hn hj⟩).trans ho
  ·rcases hb with ⟨h1,h2⟩|rfl
   ·exact (hW'.chg.block b h1 h2).trans (hW.chg.block b h1 h2).symm
   ·exact (hbox s' W' (hW'.sub (List.sublist_cons_self _ _))).trans (hbox s W hW).symm
 refine wpIn_deep (m:=5) ?_
 refine wpIn_rangeFunc_ownH (F:=FW none) (n:=5) (w0:=w) rfl (by omega) (hg.eq _ _ _ hS.fr) trivial (fun args w=>eg.run args w) (hseq w hS.wd) (fun h1 h2 b hb=>(h2 b hb).trans (h1 b hb)) (fun W l o o' hl _ _ _ b hb=>?_) (Below.refl _ _) hps
  (fun pre W=>∃ s,I pre s∧Wd S w0 (Hc s++F) W) (fun _ _ _=>False) (fun pre W W' row ⟨s,hI,hW⟩ hg hr=>⟨s,hI,hW.grown hg fun r e=>?_⟩) (fun _ _ _ _ _ h=>h.elim) ⟨s0,h0,hS.wd.sub hH⟩ (fun x a' _=>Fr N [] (La x) a') (fun _ _ _ _ _ _ h _ _=>h) ?_ ?_ ?_ ?_
 ·have hlt : b < w.heap.size:=by
   rcases hb with ⟨h1,_⟩|rfl
   ·omega
   ·exact hF _ hBs b rfl
  exact World.putObj_heap_other (by omega)
 ·obtain ⟨h1,o,ho,hn⟩:=hr r e
  exact ⟨by omega,hcell s W hW r o ho hn h1⟩
 ·rintro l pre x W K ⟨s,hI,hW⟩ hK
  refine wpIn_deep (m:=0) ?_
  refine Code.wpIn_mono (fun e a' W' q=>?_) (hassign l x s _ _ W ⟨hput x a hS.fr,hW.withRest⟩)
  cases e with
  | normal =>
   have ho:=hout s s W W' hW q.wd
   exact hK a' W' ho.1 ho.2 ⟨s,hI,q.wd.sub (List.sublist_cons_self _ _)⟩ q.fr
  | _=>exact q.elim
 ·rintro l pre x a' W _ _ ⟨s,hI,hW⟩ ha hlt
  refine wpIn_deep (m:=0) ?_
  refine Code.wpIn_mono (fun e a' W' q=>?_) (hbody l pre x s _ hI hlt a' W ⟨ha,hW.withRest⟩)
  cases e with
  | normal =>
   obtain ⟨s',hI',hW'⟩:=q
   have ho:=hout s s' W W' hW hW'
   exact ⟨ho.1,ho.2,s',hI',hW'.sub (List.sublist_cons_self _ _)⟩
  | _=>exact q.elim
 ·rintro D ys W hD rfl ⟨s,hI,hW⟩ hd
  refine k D s (by omega) hI _ W ⟨⟨hS.fr.size,by rw [hS.fr.defers],hS.fr.slot⟩,?_⟩
  have hn : ¬ fps (Hc s++F) D:=hcell s W hW D _ hd rfl hD
  exact ⟨hW.chg,fun e he b hb=>by
   rcases List.mem_cons.1 he with rfl|he
   ·cases hb
    exact ⟨.inr (by omega),(Array.getElem?_eq_some_iff.1 hd).1⟩
   ·exact hW.own e he b hb,fun e he w2 hs hw2=>by
   rcases List.mem_cons.1 he with rfl|he
   ·exact (hw2 D rfl).trans hd
   ·exact hW.ok e he w2 hs hw2,List.pairwise_cons.2 ⟨fun f hf b hb hfb=>by cases hb; exact hn ⟨f,hf,hfb⟩,hW.apart⟩⟩
 ·intro D c pre W _ _ h
  exact h.elim
end
end Go.Proofs.YtdbljcahlpkgdaaDoor
namespace Go.Proofs.YtdbljcahlpkgdaaDoor
open Go Go.RowKit
attribute [local irreducible] wpListIn Code.wpIn Exit.then Exit.inBlock bodyPost wpQuiet wpAnyIn bodyPostM
set_option maxHeartbeats 4000000
theorem backward_c (v : Value) (hv : ∃ a n c,v = .slice a n c) (w0 : World) : Ret Tryd.prog 43 [v] w0 fun u w'=>∃ p : Nat,u = .func (.func 59) #[] #[.pointer (some ⟨p,0,none⟩)]∧Wd NoS w0 [Ent.box p [v] 43] w'∧True:=by
 obtain ⟨a,n,c,rfl⟩:=hv
 refine ret_enter Tryd.func43 rfl Tryd.ntmps43 rfl (Wd.nil NoS w0) ?_
 repeat (first|refine g_op rfl ?_|refine g_then ?_|refine g_nil ?_|refine g_region ?_|refine g_seq ?_|refine g_opS rfl ?_|refine g_box rfl fun _ _=>?_|refine g_ret ?_)
 exact g_ret1 rfl fun w hw=>⟨_,rfl,hw,trivial⟩
theorem backStops {α : Type} {enc : α→Int × Int} {K : Nat→Prop} {w0 w : World} {Bs n c : Nat} {a : Option Addr} {zs : List Int} {xs : List α} (hsl : SlAt w0 (.slice a n c) 1 zs IntV) (hlen : zs.length ≤ 100000) (hK : ∀ b,b < w0.heap.size→K b) (hKB : K Bs) (hw : Chg NoS w0 w)
  (hB : w.cell? ⟨Bs,0,none⟩ = some (.slice a n c)) (hxs : xs.map enc = downTo zs zs.length) :
  SeqStopsK (FW none) 4 Tryd.prog 59 #[.pointer (some ⟨Bs,0,none⟩)] (fun x=>#[.int .i64 (enc x).1,.int .i64 (enc x).2]) (KeepB K) (fun ys=>ys = xs) (fun pre=>pre <+: xs) xs.length w:=by
 intro l J Jx W hW _ _ hY h0
 have hxl : xs.length = zs.length:=by have:=congrArg List.length hxs; rwa [List.length_map,downTo_length] at this
 obtain ⟨a',n',c',b,o,hv,hn,_,_,_,ha,hel⟩:=hsl
 simp only [Value.slice.injEq] at hv
 obtain ⟨rfl,rfl,rfl⟩:=hv
 subst hn
 have hcell : ∀ j,j < zs.length→w0.cell? ⟨b,o + j,none⟩ = some (.int .i64 (zs[j]?.getD 0)):=fun j hj=>by
  obtain ⟨cs,hc,rfl,_⟩:=hel j _ (List.getElem?_eq_getElem hj)
  have:=hc 0 _ rfl
  simpa [hj] using this
 refine backInt1_in 4 (by omega) enc l Bs b o c K zs xs hxs hlen (fun hne=>hK b ?_) hKB J Jx a (fun hne=>ha hne) (fun pre x W1 hJ hl=>hY pre x W1 hJ (by omega)) W ((hW.cell (p:=⟨Bs,0,none⟩) (World.block_lt_of_cell? w _ hB)).trans hB) (fun j hj=>?_) h0
 ·exact World.block_lt_of_cell? w0 _ (hcell 0 (List.length_pos_iff.2 hne))
 ·have h1:=cell_keep hw (hcell j hj)
  exact (hW.cell (World.block_lt_of_cell? w _ h1)).trans h1
abbrev BackA (n : Nat) : Type:={ p : Int × Nat // p.2 < n }
def BackA.enc {n : Nat} (x : BackA n) : Int × Int:=(x.1.1,(x.1.2 : Int))
theorem backA_ex {n : Nat} : ∀ l : List (Int × Int),(∀ p ∈ l,0 ≤ p.2∧p.2 < n)→∃ xs : List (BackA n),xs.map BackA.enc = l
 | [],_=>⟨[],rfl⟩
 | p::l,h=>by
  obtain ⟨xs,hxs⟩:=backA_ex l fun q hq=>h q (List.mem_cons_of_mem _ hq)
  have hp:=h p (by simp)
  refine ⟨⟨(p.1,p.2.toNat),by simp only; omega⟩::xs,?_⟩
  rw [List.map_cons,hxs]
  simp only [BackA.enc]
  congr 1
  rw [show ((p.2.toNat : Nat) : Int) = p.2 by omega]
theorem downTo_snd (zs : List Int) : (downTo zs zs.length).map (·.2) = zs.reverse:=by
 apply List.ext_getElem?
 intro i
 rw [downTo,List.map_map,List.getElem?_map]
 by_cases hi : i < zs.length
 ·rw [List.getElem?_range hi,List.getElem?_reverse hi]
  have : zs.length - 1 - i < zs.length:=by omega
  simp [this]
 ·rw [List.getElem?_eq_none (by rw [List.length_range]; omega),List.getElem?_eq_none (by rw [List.length_reverse]; omega)]; rfl
theorem downTo_mem {zs : List Int} {p : Int × Int} (h : p ∈ downTo zs zs.length) : p.2 ∈ zs:=by
 have : p.2 ∈ (downTo zs zs.length).map (·.2):=List.mem_map.2 ⟨p,h,rfl⟩
 rw [downTo_snd] at this
 simpa using this
def visE (n : Nat) (pl sb : Nat) (s : (List Bool × List Nat) × (Option Addr × Nat)) : List Ent :=
 [Ent.box pl [.slice s.2.1 s.1.2.length s.2.2] 43,Ent.vec s.2.1 s.1.2.length s.2.2 3 1 (s.1.2.map intN),Ent.vec (some ⟨sb,0,none⟩) n n 4 1 (s.1.1.map .bool)]
def visF (nm pa re : Value) (ba : Option Addr) (n bc ps pf pv pl sb : Nat) : List Ent:=[Ent.box ps [.slice (some ⟨sb,0,none⟩) n n] 91,Ent.box pf [nm,pa,re,.slice ba n bc] 33,Ent.box pv [.func (.func 42) #[] #[.pointer (some ⟨ps,0,none⟩),.pointer (some ⟨pf,0,none⟩),.pointer (some ⟨pv,0,none⟩),.pointer (some ⟨pl,0,none⟩)]] 92]
theorem visit_c (nm pa re : Value) (bl : List LBlock) (ba : Option Addr) (n bc ps pf pv pl sb : Nat) (wz : World) (hbs : SlAt wz (.slice ba n bc) 6 bl BlockV) (hlen : bl.length ≤ 100) (hok : GoodB bl) :
  ∀ (f b : Nat) (s : (List Bool × List Nat) × (Option Addr × Nat)),s.1.1.length = bl.length→s.1.1[b]? = some false→unseen s.1.1 ≤ f→s.1.2.length + unseen s.1.1 ≤ n→∀ w,Wd NoS wz (visE n pl sb s++visF nm pa re ba n bc ps pf pv pl sb) w →
  Ret Tryd.prog 42 [.int .i64 b,.pointer (some ⟨ps,0,none⟩),.pointer (some ⟨pf,0,none⟩),.pointer (some ⟨pv,0,none⟩),.pointer (some ⟨pl,0,none⟩)] w fun u w'=>∃ z : Option Addr × Nat,u = .tuple #[]∧Wd (fps (visE n pl sb s++visF nm pa re ba n bc ps pf pv pl sb)) w (visE n pl sb (dfs bl f b s.1,z)++visF nm pa re ba n bc ps pf pv pl sb) w'∧True:=by
 have hbs0:=hbs
 obtain ⟨ba,n,bc,bb,bo',hv,hn,hnc,hnb,hbc,hba,hel⟩:=hbs
 simp only [Value.slice.injEq] at hv
 obtain ⟨rfl,rfl,rfl⟩:=hv
 intro f
 induction f with
 | zero=>intro b s _ hb hu; have:=unseen_pos hb; omega
 | succ f ih =>
  rintro b ⟨⟨seen,left⟩,la,lc⟩ hl hb hu hle w hw
  simp only at hl hb hu hle
  have hus:=unseen_set hb
  have hbn : b < n:=by have:=(List.getElem?_eq_some_iff.1 hb).1; omega
  obtain ⟨B,hB⟩:=get_lt hn hbn
  have had : AddrIs ba bb bo':=⟨hba (ne_of_get hB)⟩
  have hli : LtIs b n:=⟨hbn⟩
  obtain ⟨cs,hcs,pv',lv,tv,rfl,_,_,hphis,hlist,ht⟩:=hel b B hB
  have ht0:=ht
  obtain ⟨ta,tn,tc,tb,to',rfl,htn,htnc,htnb,htc,hta,htel⟩:=ht
  have hci : CellsIs wz bb (bo' + b * 6) _:=⟨hcs⟩
  have hBok:=hok B (List.mem_of_getElem? hB)
  have hea : ElAt seen b false:=⟨hb⟩
  have hz:=hw.chg
  refine ret_enterM (w0:=wz) (S:=NoS) Tryd.func42 rfl Tryd.ntmps42 rfl hw.withRest ?_
  generalize hrest : Ent.rest (restOf wz.heap.size w (visE n pl sb ((seen,left),la,lc)++visF nm pa re ba n bc ps pf pv pl sb)) w = RS
  simp only [visE,visF,List.cons_append,List.nil_append]
  repeat (first|refine g_op rfl ?_|refine g_then ?_|refine g_nil ?_|refine g_region ?_|refine g_seq ?_|refine g_storeV ?_)
  refine g_callE (val:=fun p : Nat=>.func (.func 59) #[] #[.pointer (some ⟨p,0,none⟩)]) (E:=fun p=>[Ent.box p [.slice ta tn tc] 43]) (φ:=fun _=>True) rfl (fun w hw=>backward_c _ ⟨_,_,_,rfl⟩ w) fun Bs _=>?_
  simp only [List.cons_append,List.nil_append]
  repeat (first|refine g_then ?_|refine g_nil ?_|refine g_block ?_)
  obtain ⟨xs,hxs⟩:=backA_ex (n:=n) (downTo B.to B.to.length) fun p hp=>by have:=hBok.2 p.2 (downTo_mem hp); omega
  refine g_fix (L':=[(18,.func (.func 59) #[] #[.pointer (some ⟨Bs,0,none⟩)]),(0,.int .i64 b),(1,.pointer (some ⟨ps,0,none⟩)),(2,.pointer (some ⟨pf,0,none⟩)),(3,.pointer (some ⟨pv,0,none⟩)),(4,.pointer (some ⟨pl,0,none⟩))]) (by repeat (first|exact trivial|refine ⟨rfl,?_⟩)) (.refl _) ?_
  refine g_sel [2,3,4,5,6,7,0,1] (by decide) ?_
  have hvt : visE n pl sb ((seen.set b true,left),(la,lc)) = [Ent.box pl [.slice la left.length lc] 43,Ent.vec la left.length lc 3 1 (left.map intN),Ent.vec (some ⟨sb,0,none⟩) n n 4 1 ((seen.set b true).map .bool)]:=rfl
  refine g_range (α:=BackA n) (gf:=59) (lb:=[.pointer (some ⟨Bs,0,none⟩)]) [Ent.box ps [.slice (some ⟨sb,0,none⟩) n n] 91,Ent.box pf [nm,pa,re,.slice ba n bc] 33,Ent.box pv [.func (.func 42) #[] #[.pointer (some ⟨ps,0,none⟩),.pointer (some ⟨pf,0,none⟩),.pointer (some ⟨pv,0,none⟩),.pointer (some ⟨pl,0,none⟩)]] 92,Ent.box Bs [.slice ta tn tc] 43,RS] (visE n pl sb) (fun s=>⟨by intro e he; simp only [visE,List.mem_cons,List.not_mem_nil,or_false] at he; rcases he with rfl|rfl|rfl <;> infer_instance⟩) xs (encs:=fun x=>#[.int .i64 (BackA.enc x).1,.int .i64 (BackA.enc x).2]) (Bs:=Bs) (bcs:=[.slice ta tn tc]) (bt:=43) (by simp)
   (fun w hw=>backStops (enc:=BackA.enc) ht0 (by omega) (fun b hb=>.inl ⟨hb,fun h=>h⟩) (.inr rfl) hw.chg (hw.boxCells Bs 0 _ rfl) hxs)
   (fun pre s=>s.1 = (pre.map fun x=>x.1.2).foldl (vstep bl f) (seen.set b true,left)) ((seen.set b true,left),(la,lc)) rfl (.refl _) (fun _=>rfl)
   (fun x=>[(20,.int .i64 (x.1.2 : Int)),(19,.int .i64 x.1.1),(0,.int .i64 b),(1,.pointer (some ⟨ps,0,none⟩)),(2,.pointer (some ⟨pf,0,none⟩)),(3,.pointer (some ⟨pv,0,none⟩)),(4,.pointer (some ⟨pl,0,none⟩))]) (fun x=>[(7,.int .i64 (x.1.2 : Int)),(0,.int .i64 b),(1,.pointer (some ⟨ps,0,none⟩)),(2,.pointer (some ⟨pf,0,none⟩)),(3,.pointer (some ⟨pv,0,none⟩)),(4,.pointer (some ⟨pl,0,none⟩))]) (fun x a h=>?_) (fun l x s R=>?_) (fun l pre x s R hI hlt=>?_) fun D s hD hI=>?_
  ·have h2:=((h.to (L':=[(0,.int .i64 b),(1,.pointer (some ⟨ps,0,none⟩)),(2,.pointer (some ⟨pf,0,none⟩)),(3,.pointer (some ⟨pv,0,none⟩)),(4,.pointer (some ⟨pl,0,none⟩))]) (by repeat (first|exact trivial|refine ⟨rfl,?_⟩))).putOk (d:=19) rfl (.int .i64 x.1.1)).putOk (d:=20) rfl (.int .i64 (x.1.2 : Int))
   have e : (#[19,20].zip #[Value.int .i64 (BackA.enc x).1,Value.int .i64 (BackA.enc x).2]).foldl (fun (t : Array Value) (q : Tmp × Value)=>t.setIfInBounds q.1 q.2) a.tmps = (a.tmps.setIfInBounds 19 (.int .i64 x.1.1)).setIfInBounds 20 (.int .i64 (x.1.2 : Int)):=by simp [BackA.enc]
   refine ⟨Eq.trans (congrArg Array.size e) h2.size,rfl,fun p hp=>?_⟩
   exact Eq.trans (congrArg (fun t : Array Value=>t[p.1]?) e) (h2.slot p hp)
  ·repeat (first|refine g_op rfl ?_|refine g_then ?_|refine g_nil ?_|refine g_region ?_)
   exact g_done (by repeat (first|exact trivial|refine ⟨rfl,?_⟩)) (.refl _)
  ·obtain ⟨⟨i0,t⟩,htn'⟩:=x
   obtain ⟨⟨sn,lf⟩,la',lc'⟩:=s
   simp only at hI htn'
   have hg:=vsteps_grows bl f (seen.set b true,left) (pre.map fun x=>x.1.2)
   rw [← hI] at hg
   have hsl : sn.length = n:=by have:=hg.1; simp at this; omega
   have hg3:=hg.2.2.1
   have hg4:=hg.2.2.2
   simp only at hg3 hg4
   obtain ⟨sv,hsv⟩ : ∃ sv,sn[t]? = some sv:=⟨_,List.getElem?_eq_getElem (by omega)⟩
   have hes : ElAt sn t sv:=⟨hsv⟩
   have hlt2 : LtIs t n:=⟨htn'⟩
   have hstep : ((pre++[(⟨(i0,t),htn'⟩ : BackA n)]).map fun x : BackA n=>x.1.2).foldl (vstep bl f) (seen.set b true,left) = vstep bl f (sn,lf) t:=by
    rw [List.map_append,List.foldl_append,← hI]; rfl
   rw [hstep]
   simp only [visE,List.cons_append,List.nil_append]
   cases sv
   ·have hv : vstep bl f (sn,lf) t = dfs bl f t (sn,lf):=by unfold vstep; simp [hsv]
    rw [hv]
    repeat (first|refine g_op rfl ?_|refine g_then ?_|refine g_nil ?_|refine g_region ?_|refine g_seq ?_|refine g_block ?_|refine g_condT ?_)
    refine g_sel [1,2,3,4,5,6,0,7,8] (by decide) ?_
    refine g_eqH (H1:=(visE n pl sb ((sn,lf),la',lc')++visF nm pa re ba n bc ps pf pv pl sb)++[R,Ent.box Bs [.slice ta tn tc] 43,RS]) rfl ?_
    refine g_callFS (val:=fun _ : Option Addr × Nat=>.tuple #[]) (E:=fun z=>visE n pl sb (dfs bl f t (sn,lf),z)++visF nm pa re ba n bc ps pf pv pl sb) (φ:=fun _=>True) (us:=[]) (vs:=[.int .i64 (t : Int)]) (xs:=[.pointer (some ⟨ps,0,none⟩),.pointer (some ⟨pf,0,none⟩),.pointer (some ⟨pv,0,none⟩),.pointer (some ⟨pl,0,none⟩)]) rfl
     (fun w hw=>ih t ((sn,lf),la',lc') (by simp only; omega) hsv (by simp only; omega) (by simp only; omega) w (hw.sub (List.sublist_append_left _ _))) fun z _=>?_
    simp only [visE,visF,List.cons_append,List.nil_append]
    repeat (first|refine g_then ?_|refine g_nil ?_|refine g_inBlock ?_)
    refine g_sel [6,0,1,2,3,4,5,7,8] (by decide) ?_
    exact g_rnd (dfs bl f t (sn,lf),z) rfl (.refl _)
   ·have hv : vstep bl f (sn,lf) t = (sn,lf):=by unfold vstep; simp [hsv]
    rw [hv]
    repeat (first|refine g_op rfl ?_|refine g_then ?_|refine g_nil ?_|refine g_region ?_|refine g_seq ?_|refine g_inBlock ?_|refine g_block ?_|refine g_skip ?_|refine g_condF ?_)
    exact g_rnd ((sn,lf),la',lc') rfl (.refl _)
  ·obtain ⟨⟨sn,lf⟩,la',lc'⟩:=s
   simp only at hI
   have hxm : (xs.map fun x=>x.1.2) = (toOf bl b).reverse.map Int.toNat:=by
    have h1:=congrArg (List.map (fun p : Int × Int=>p.2.toNat)) hxs
    rw [List.map_map] at h1
    rw [show (xs.map fun x=>x.1.2) = xs.map ((fun p : Int × Int=>p.2.toNat) ∘ BackA.enc) from List.map_congr_left fun x _=>by simp [BackA.enc],h1,toOf_get hB,← downTo_snd,List.map_map]
    rfl
   rw [hxm] at hI
   have hd : dfs bl (f + 1) b (seen,left) = (sn,lf++[b]):=by rw [dfs_succ]; simp only; rw [← hI]
   have hg:=vsteps_grows bl f (seen.set b true,left) ((toOf bl b).reverse.map Int.toNat)
   rw [← hI] at hg
   have hg4:=hg.2.2.2
   simp only at hg4
   simp only [visE,List.cons_append,List.nil_append]
   repeat (first|refine g_op rfl ?_|refine g_then ?_|refine g_region ?_|refine g_inBlock ?_|refine g_build1 rfl rfl fun _ _=>?_)
   refine g_append rfl rfl (by omega) (by omega) fun a' c'=>?_
   rw [show lf.map intN++[.int .i64 (b : Int)] = (lf++[b]).map intN by simp [intN],show lf.length + 1 = (lf++[b]).length by simp]
   repeat (first|refine g_nil ?_|refine g_store ?_)
   refine g_sel [1,9,2,3,4,5,6,7] (by decide) ?_
   refine g_endM0 rfl hD fun w' hw'=>⟨(a',c'),rfl,?_,trivial⟩
   simp only
   rw [hd]
   rw [← hrest] at hw'
   exact wd_rest hz hw'
theorem graphPost_c (nm pa re : Value) (bl : List LBlock) (bs : Value) (w0 : World) (hbs : SlAt w0 bs 6 bl BlockV) (hlen : bl.length ≤ 100) (hok : GoodB bl) (hpos : 0 < bl.length) :
  Ret Tryd.prog 27 [.agg #[nm,pa,re,bs]] w0 fun u w'=>∃ x : Option Addr × Nat,u = .slice x.1 (postL bl).length x.2∧Wd NoS w0 [Ent.vec x.1 (postL bl).length x.2 3 1 ((postL bl).map intN)] w'∧True:=by
 have hbs0:=hbs
 obtain ⟨ba,n,bc,bb,bo',rfl,hn,hnc,hnb,hbc,hba,hel⟩:=hbs
 refine ret_enter Tryd.func27 rfl Tryd.ntmps27 rfl (Wd.nil NoS w0) ?_
 repeat (first|refine g_op rfl ?_|refine g_then ?_|refine g_nil ?_|refine g_region ?_|refine g_seq ?_|refine g_store ?_|refine g_box rfl fun _ _=>?_|refine g_alloc rfl fun _ _=>?_|refine g_make rfl (by omega) (by omega) fun _ _=>?_)
 rename_i pf _ pl _ sb _ ps _ pv _
 rw [show List.replicate n (Value.bool false) = (List.replicate n false).map Value.bool by simp]
 refine g_nilVec 3 1 ?_
 refine g_sel [4,0,3,2,5,1] (by decide) ?_
 refine g_eqH (H1:=(visE n pl sb ((List.replicate n false,[]),(none,0))++visF nm pa re ba n bc ps pf pv pl sb)++[]) rfl ?_
 refine g_callFS (val:=fun _ : Option Addr × Nat=>.tuple #[]) (E:=fun z=>visE n pl sb (dfs bl n 0 (List.replicate n false,[]),z)++visF nm pa re ba n bc ps pf pv pl sb) (φ:=fun _=>True) (us:=[]) (vs:=[.int .i64 ((0 : Nat) : Int)]) (xs:=[.pointer (some ⟨ps,0,none⟩),.pointer (some ⟨pf,0,none⟩),.pointer (some ⟨pv,0,none⟩),.pointer (some ⟨pl,0,none⟩)]) rfl
  (fun w hw=>visit_c nm pa re bl ba n bc ps pf pv pl sb w0 hbs0 hlen hok n 0 ((List.replicate n false,[]),(none,0)) (by simpa using hn) (by simp only; rw [List.getElem?_replicate,if_pos (by omega)]) (by simp only [unseen_all]; exact Nat.le_refl _) (by simp only [unseen_all]; simp) w (hw.sub (List.sublist_append_left _ _))) fun z _=>?_
 obtain ⟨za,zc⟩:=z
 have hp : (dfs bl n 0 (List.replicate n false,[])).2 = postL bl:=by unfold postL; rw [← hn]
 generalize dfs bl n 0 (List.replicate n false,[]) = d at hp
 obtain ⟨d1,d2⟩:=d
 simp only at hp
 subst hp
 simp only [visE,visF,List.cons_append,List.nil_append]
 repeat (first|refine g_op rfl ?_|refine g_then ?_|refine g_nil ?_|refine g_region ?_|refine g_seq ?_|refine g_opS rfl ?_|refine g_ret ?_)
 exact g_ret1 rfl fun w hw=>⟨(za,zc),rfl,hw.sel [1] (by decide),trivial⟩
end Go.Proofs.YtdbljcahlpkgdaaDoor
namespace Go.Proofs.YtdbljcahlpkgdaaDoor
open Go Go.RowKit
section
variable {P : Program} {N : Nat} {ds : List Deferred} {S : Nat→Prop} {w0 : World} {L L' : List (Nat × Value)} {H H' Hr : List Ent} {Q : Exit→Act→World→Prop} {x y : Operand} {M : Act→World→Prop} {l : List Oper} {fuel : Nat} {listed : Array Bool}
theorem g_drawH {id n : Nat} [hl : LenO l n] (Hr : List Ent) (hm : P.follows .mixedOrders = true) (_hH : Hr.Sublist H)
  (h : G N ds S w0 L H (wpAnyH P .any l.toArray (OnlyN (Q .normal)) (Wd S w0 Hr) n (Array.replicate n false))) : G N ds S w0 L H (Code.wpIn (FW none) 0 P (Code.region id l.toArray true) Q):=fun a w hS=>by
 refine wpIn_wide.2 (wp_region_any hm ?_)
 have h1:=wpAny_of_held _ _ _ _ (h a { w with drawn:=w.drawn + 1 } ⟨hS.fr,hS.wd.same rfl rfl rfl rfl⟩)
 rw [← hl.eq] at h1
 have key : ∀ (fuel : Nat) (listed : Array Bool) (a : Act) (w : World),wpAny P .any l.toArray (OnlyN (Q .normal)) fuel listed a w→wpAny P .any l.toArray Q fuel listed a w:=by
  intro fuel
  induction fuel with
  | zero=>exact fun listed a w h=>⟨h.1,h.2⟩
  | succ fuel ih =>
   intro listed a w h
   refine ⟨fun e=>h.1 e,fun i hi=>?_⟩
   have h2:=h.2 i hi
   unfold wpOp at h2 ⊢
   split
   ·rename_i ho
    simp only [ho] at h2
    exact ih _ _ _ h2
   ·rename_i o ho
    simp only [ho] at h2
    split
    ·rename_i hw
     rw [if_pos hw] at h2
     rcases h2 with h3|⟨_,a',w',h3⟩
     ·left
      unfold Oper.wp at h3 ⊢
      revert h3
      generalize (execOp a.eval o).run P w = r
      intro h3
      cases r with
      | ok nx w1 =>
       cases nx with
       | value v=>exact ih _ _ _ h3
       | skip=>exact ih _ _ _ h3
       | defer d=>exact ih _ _ _ h3
       | enter f args =>
        refine Calls.mono h3 fun e w2 hh=>?_
        cases e with
        | returned v=>exact ih _ _ _ hh
        | panicked c=>exact (hh : False).elim
        | outgrown=>exact (Exists.elim hh fun _ h=>Exists.elim h fun _ h=>(h : False).elim)
       | row r args=>exact Rows.mono h3 fun v w2 hh=>ih _ _ _ hh
       | _=>exact h3
      | halt x w1=>cases x <;> exact (h3 : False).elim
     ·exact (h3 : False).elim
    ·rename_i hw
     rw [if_neg hw] at h2
     exact ih _ _ _ h2
 have:=key _ _ _ _ h1
 simpa using this
theorem h_take {d ty : Nat} (i : Nat) {pos : String} {aft : Array Go.Edge} {op : Op} {v : Value} [ho : ListAt l i ⟨some d,op,ty,pos,aft,none⟩] [h : RunsC P N ds S w0 L Hr op v] (hd : okPut d N L = true)
  (hr : ((Region.noSelect l.toArray && Region.free .any l.toArray listed i) && (Region.ready .any l.toArray listed).contains i) = true) (hH : Hr.Sublist H)
  (k : G N ds S w0 ((d,v)::L) H (wpAnyH P .any l.toArray (OnlyN M) (Wd S w0 Hr) fuel (listed.setIfInBounds i true))) : G N ds S w0 L H (wpAnyH P .any l.toArray (OnlyN M) (Wd S w0 Hr) (fuel + 1) listed):=fun a w hS=>by
 simp only [Bool.and_eq_true] at hr
 exact wpAnyH_take (i:=i) (oi:=⟨some d,op,ty,pos,aft,none⟩) (v:=v) (by simpa using ho.at') hr.1.1 hr.1.2 hr.2 (fun c a w hh=>hh) (.inl ⟨rfl,fun w hw=>h.run _ _ _ _ _ a w hS.fr hw⟩) (hS.wd.sub hH) (k _ _ ⟨hS.fr.putOk hd v,hS.wd⟩)
theorem h_takeG {d ty j t : Nat} (i : Nat) {want : Bool} {pos : String} {aft : Array Go.Edge} {op : Op} {v : Value} [ho : ListAt l i ⟨some d,op,ty,pos,aft,some (j,want)⟩] [hj : DstOf l.toArray j t] [hb : SlotIs L t (.bool want)] [h : RunsC P N ds S w0 L Hr op v] (hd : okPut d N L = true)
  (hr : ((Region.noSelect l.toArray && Region.free .any l.toArray listed i) && (Region.ready .any l.toArray listed).contains i) = true) (hH : Hr.Sublist H)
  (k : G N ds S w0 ((d,v)::L) H (wpAnyH P .any l.toArray (OnlyN M) (Wd S w0 Hr) fuel (listed.setIfInBounds i true))) : G N ds S w0 L H (wpAnyH P .any l.toArray (OnlyN M) (Wd S w0 Hr) (fuel + 1) listed):=fun a w hS=>by
 simp only [Bool.and_eq_true] at hr
 refine wpAnyH_take (i:=i) (oi:=⟨some d,op,ty,pos,aft,some (j,want)⟩) (v:=v) (by simpa using ho.at') hr.1.1 hr.1.2 hr.2 (fun c a w hh=>hh) (.inl ⟨?_,fun w hw=>h.run _ _ _ _ _ a w hS.fr hw⟩) (hS.wd.sub hH) (k _ _ ⟨hS.fr.putOk hd v,hS.wd⟩)
 simp only [Region.wanted,hS.fr.yield (ops:=l.toArray) (j:=j) (b:=want)]
 simp
theorem h_takeP {d ty j t : Nat} (i : Nat) {want b : Bool} {pos : String} {aft : Array Go.Edge} {op : Op} [ho : ListAt l i ⟨some d,op,ty,pos,aft,some (j,want)⟩] [hj : DstOf l.toArray j t] [hn : NotB want b] [hb : SlotIs L t (.bool b)] (hd : okPut d N L = true)
  (hr : ((Region.noSelect l.toArray && Region.free .any l.toArray listed i) && (Region.ready .any l.toArray listed).contains i) = true) (hH : Hr.Sublist H)
  (k : G N ds S w0 ((d,undef)::L) H (wpAnyH P .any l.toArray (OnlyN M) (Wd S w0 Hr) fuel (listed.setIfInBounds i true))) : G N ds S w0 L H (wpAnyH P .any l.toArray (OnlyN M) (Wd S w0 Hr) (fuel + 1) listed):=fun a w hS=>by
 simp only [Bool.and_eq_true] at hr
 refine wpAnyH_take (i:=i) (oi:=⟨some d,op,ty,pos,aft,some (j,want)⟩) (v:=undef) (by simpa using ho.at') hr.1.1 hr.1.2 hr.2 (fun c a w hh=>hh) (.inr ⟨?_,rfl⟩) (hS.wd.sub hH) (k _ _ ⟨hS.fr.putOk hd undef,hS.wd⟩)
 simp only [Region.wanted,hS.fr.yield (ops:=l.toArray) (j:=j) (b:=b)]
 exact hn.ne
end
open Classical in
noncomputable def gridL (R : Nat→Nat→Prop) (n : Nat) : List (List Int):=(List.range n).map fun b=>((List.range n).filter fun d=>decide (R b d)).map fun x : Nat=>(x : Int)
end Go.Proofs.YtdbljcahlpkgdaaDoor

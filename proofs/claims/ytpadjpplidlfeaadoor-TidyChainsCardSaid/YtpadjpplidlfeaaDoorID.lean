/- Texts joined: TidyE Keep. -/
import Derived.Test.YtpadjpplidlfeaaDoorGG
import Derived.Test.YtpadjpplidlfeaaDoorGX
import Derived.Test.YtpadjpplidlfeaaDoorHJ
import Derived.Test.YtpadjpplidlfeaaDoorHV
import Derived.Test.YtpadjpplidlfeaaDoorIA
import Derived.Test.YtpadjpplidlfeaaDoorIC
namespace Go.Proofs.YtpadjpplidlfeaaDoor
open Go Go.RowKit
def nowL (R : Nat) (l : List Int) : List Int:=(List.range R).map fun r : Nat=>if (r : Int) ∈ l then plc l r else -1
theorem nowL_len (R : Nat) (l : List Int) : (nowL R l).length = R:=by simp [nowL]
theorem nowL_get {R : Nat} {l : List Int} {r : Nat} (h : r < R) : (nowL R l)[r]? = some (if (r : Int) ∈ l then plc l r else -1):=by
 unfold nowL
 rw [List.getElem?_map,List.getElem?_range h]
 rfl
theorem plc_new {l : List Int} {r : Int} (h : r ∉ l) : plc (meet l r) r = l.length:=by
 unfold plc meet
 rw [if_neg h,List.idxOf_append,if_neg h]
 simp
theorem nowL_meet {R : Nat} {l : List Int} {r : Nat} (h : (r : Int) ∉ l) : (nowL R l).set r (l.length : Int) = nowL R (meet l r):=by
 apply List.ext_getElem?
 intro x
 rw [List.getElem?_set]
 by_cases hx : x < R
 ·by_cases e : r = x
  ·subst e
   rw [if_pos rfl,if_pos (by rw [nowL_len]; exact hx),nowL_get hx,if_pos (mem_meet.2 (.inr rfl)),plc_new h]
  ·rw [if_neg e,nowL_get hx,nowL_get hx]
   by_cases hm : (x : Int) ∈ l
   ·rw [if_pos hm,if_pos (mem_meet.2 (.inl hm)),plc_pre (meet_pre l r) hm]
   ·rw [if_neg hm,if_neg]
    intro h2
    rcases mem_meet.1 h2 with h2|h2
    ·exact hm h2
    ·exact e (by omega)
 ·rw [List.getElem?_eq_none (l:=nowL R (meet l r)) (by rw [nowL_len]; omega)]
  by_cases e : r = x
  ·subst e
   rw [if_pos rfl,if_neg (by rw [nowL_len]; exact hx)]
  ·rw [if_neg e,List.getElem?_eq_none (by rw [nowL_len]; omega)]
theorem nowL_nil (R : Nat) : nowL R [] = List.replicate R (-1):=by
 unfold nowL
 simp only [List.not_mem_nil,if_false]
 rw [List.map_const',List.length_range]
theorem keep_len_le' {bl : List LBlock} {o : List Nat} (hk : KOk bl o) : o.length ≤ bl.length:=by
 have:=hk.nodup.length_le_of_subset (l₂:=List.range bl.length) fun x hx=>List.mem_range.2 (hk.lt x hx)
 simpa using this
def atL (n : Nat) (o : List Nat) : List Int:=(List.range n).map fun b : Nat=>if b ∈ o then ((o.idxOf b : Nat) : Int) else -1
theorem atL_get {n : Nat} {o : List Nat} {b : Nat} (h : b < n) : (atL n o)[b]? = some (if b ∈ o then ((o.idxOf b : Nat) : Int) else -1):=by
 unfold atL
 rw [List.getElem?_map,List.getElem?_range h]
 rfl
theorem atL_len (n : Nat) (o : List Nat) : (atL n o).length = n:=by simp [atL]
theorem atL_nil (n : Nat) : atL n [] = List.replicate n (-1):=by
 unfold atL
 simp only [List.not_mem_nil,if_false]
 rw [List.map_const',List.length_range]
theorem atL_snoc {n : Nat} {o : List Nat} {b : Nat} (h : b ∉ o) : (atL n o).set b (o.length : Int) = atL n (o++[b]):=by
 apply List.ext_getElem?
 intro x
 rw [List.getElem?_set]
 by_cases hx : x < n
 ·by_cases e : b = x
  ·subst e
   rw [if_pos rfl,if_pos (by rw [atL_len]; exact hx),atL_get hx,if_pos (by simp),List.idxOf_append,if_neg h]
   simp
  ·rw [if_neg e,atL_get hx,atL_get hx]
   by_cases hm : x ∈ o
   ·rw [if_pos hm,if_pos (List.mem_append_left _ hm),List.idxOf_append,if_pos hm]
   ·rw [if_neg hm,if_neg]
    intro h2
    rcases List.mem_append.1 h2 with h2|h2
    ·exact hm h2
    ·exact e (List.mem_singleton.1 h2).symm
 ·rw [List.getElem?_eq_none (l:=atL n (o++[b])) (by rw [atL_len]; omega)]
  by_cases e : b = x
  ·subst e
   rw [if_pos rfl,if_neg (by rw [atL_len]; exact hx)]
  ·rw [if_neg e,List.getElem?_eq_none (by rw [atL_len]; omega)]
def frRow (bl : List LBlock) (o : List Nat) (b : Nat) (p : LPhi) : List (Nat × LVal):=((preds bl b).filter fun q=>decide (q ∈ o)).map fun q=>(o.idxOf q,srcAt bl b p q)
def frTgt (bl : List LBlock) (o : List Nat) (b : Nat) (p : LPhi) : List (Nat × LVal):=(o.filter fun q=>decide (q ∈ preds bl b)).map fun q=>(o.idxOf q,srcAt bl b p q)
theorem frTgt_snd (bl : List LBlock) (o : List Nat) (b : Nat) (p : LPhi) : (frTgt bl o b p).map (·.2) = (keepPhi bl o b p).src:=by
 unfold frTgt keepPhi
 rw [List.map_map]
 rfl
theorem idx_rise {o : List Nat} (hn : o.Nodup) : (o.map fun q=>o.idxOf q).Pairwise (· < ·):=by
 rw [List.pairwise_iff_getElem]
 intro i j hi hj hij
 rw [List.length_map] at hi hj
 rw [List.getElem_map,List.getElem_map]
 have h1:=idx_nth hn hi
 have h2:=idx_nth hn hj
 unfold nth at h1 h2
 rw [List.getElem?_eq_getElem hi] at h1
 rw [List.getElem?_eq_getElem hj] at h2
 simp only [Option.getD_some] at h1 h2
 omega
theorem frTgt_rise {bl : List LBlock} {o : List Nat} (hn : o.Nodup) (b : Nat) (p : LPhi) : (frTgt bl o b p).Pairwise fun x y=>x.1 < y.1:=by
 unfold frTgt
 rw [List.pairwise_map]
 have h:=idx_rise hn
 rw [List.pairwise_map] at h
 exact h.sublist List.filter_sublist
theorem frRow_perm {bl : List LBlock} {o : List Nat} (hn : o.Nodup) (b : Nat) (p : LPhi) : (frTgt bl o b p).Perm (frRow bl o b p):=by
 unfold frTgt frRow
 refine List.Perm.map _ ((List.perm_ext_iff_of_nodup (hn.sublist List.filter_sublist) ((preds_nodup bl b).sublist List.filter_sublist)).2 fun x=>?_)
 rw [List.mem_filter,List.mem_filter,decide_eq_true_eq,decide_eq_true_eq]
 exact ⟨fun h=>⟨h.2,h.1⟩,fun h=>⟨h.2,h.1⟩⟩
theorem sort_one {α : Type} {f : α→Nat} : ∀ {l m : List α},l.Perm m→l.Pairwise (fun x y=>f x < f y)→m.Pairwise (fun x y=>f x < f y ∨ f x = f y)→m = l
 | [],m,h,_,_=>h.symm.eq_nil
 | x::l,[],h,_,_=>by have:=h.length_eq; simp at this
 | x::l,y::m,h,h1,h2=>by
  rw [List.pairwise_cons] at h1 h2
  have e : y = x:=by
   have hx : x ∈ y::m:=h.subset (by simp)
   have hy : y ∈ x::l:=h.symm.subset (by simp)
   rcases List.mem_cons.1 hx with e|hx
   ·exact e.symm
   rcases List.mem_cons.1 hy with e|hy
   ·exact e
   have:=h1.1 y hy
   have:=h2.1 x hx
   omega
  subst e
  rw [sort_one (h.cons_inv) h1.2 h2.2]
end Go.Proofs.YtpadjpplidlfeaaDoor
namespace Go.Proofs.YtpadjpplidlfeaaDoor
open Go Go.RowKit
attribute [local irreducible] wpListIn Code.wpIn Exit.then Exit.inBlock bodyPost wpQuiet wpAnyIn wpAnyH bodyPostM oneH
set_option maxHeartbeats 8000000
theorem Wd.killOldS {S : Nat→Prop} {w0 w : World} {H1 H2 : List Ent} (h : Wd S w0 (H1++H2) w) : ∀ p v,(killW S w0).cell? p = some v→(killW (fps H1) w).cell? p = some v:=fun p v hc=>by
 have hlt:=World.block_lt_of_cell? _ p hc
 rw [kill_size] at hlt
 have hns:=(kill_cell hc).1
 have hn : ¬ fps H1 p.block:=fun ⟨e,he,hb⟩=>by
  have:=(h.own e (List.mem_append_left _ he) _ hb).1
  exact this.elim hns fun h=>by omega
 rw [← hc]
 refine World.cell?_of_block ?_
 rw [kill_get w hn,kill_get w0 hns]
 exact h.chg.block _ hlt hns
theorem killLe {S : Nat→Prop} {w : World} : ∀ p v,(killW S w).cell? p = some v→w.cell? p = some v:=fun p v hc=>by
 rw [← hc]
 exact World.cell?_of_block (kill_get w (kill_cell hc).1).symm
theorem Wd.intsAt {S : Nat→Prop} {w0 w : World} {H : List Ent} (h : Wd S w0 H w) {k n c : Nat} {a : Option Addr} {l : List Int} (hk : H[k]? = some (Ent.vec a n c 3 1 (l.map (.int .i64)))) (hn : n = l.length) (hb : n ≤ 1000) (hin : ∀ x ∈ l,inI x) : SlAt w (.slice a n c) 1 l IntV :=
 h.slAt hk hn (by omega) fun i x hx=>⟨[.int .i64 x],fun j v hj=>by
  match j,hj with
  | 0,hj=>simpa [hx] using hj,rfl,hin x (List.mem_of_getElem? hx)⟩
structure KSt (bl : List LBlock) (bs : List BRow) (o : List Nat) (i : Nat) (rs out : List BRow) : Prop where
 rlen : rs.length = bs.length
 olen : out.length = i
 old : ∀ b,b ∉ o.take i→rs[b]? = bs[b]?
 new : ∀ j b,j < i→o[j]? = some b→∃ r,rs[b]? = some r∧out[j]? = some r∧r.blk = keepB bl o b (blkAt bl b)∧r.Bd
theorem KSt.step {bl : List LBlock} {bs : List BRow} {o : List Nat} {i b : Nat} {rs out : List BRow} (h : KSt bl bs o i rs out) (hn : o.Nodup) (hb : o[i]? = some b) (hbl : b < bs.length) {r : BRow} (h1 : r.blk = keepB bl o b (blkAt bl b)) (h2 : r.Bd) : KSt bl bs o (i + 1) (rs.set b r) (out++[r]):=by
 have hil:=(List.getElem?_eq_some_iff.1 hb).1
 refine ⟨by rw [List.length_set]; exact h.rlen,by rw [List.length_append,h.olen]; rfl,fun d hd=>?_,fun j d hj hd=>?_⟩
 ·rw [List.take_add_one,hb] at hd
  simp only [Option.toList_some,List.mem_append,List.mem_singleton,not_or] at hd
  rw [List.getElem?_set_ne (fun e=>hd.2 e.symm)]
  exact h.old d hd.1
 ·by_cases e : j = i
  ·subst e
   rw [hb] at hd
   obtain rfl:=Option.some.inj hd
   exact ⟨r,List.getElem?_set_self (by rw [h.rlen]; exact hbl),by rw [List.getElem?_append_right (by rw [h.olen]; exact Nat.le_refl _),h.olen,Nat.sub_self]; rfl,h1,h2⟩
  ·obtain ⟨q,q1,q2,q3,q4⟩:=h.new j d (by omega) hd
   have hne : b ≠ d:=fun e2=>e (nth_inj hn (List.getElem?_eq_some_iff.1 hd).1 hil (by rw [nth_get hd,nth_get hb,e2]))
   exact ⟨q,by rw [List.getElem?_set_ne hne]; exact q1,by rw [List.getElem?_append_left (by rw [h.olen]; omega)]; exact q2,q3,q4⟩
theorem KSt.done {bl : List LBlock} {bs : List BRow} {o : List Nat} {rs out : List BRow} (h : KSt bl bs o o.length rs out) (hn : o.Nodup) (hlt : ∀ b ∈ o,b < bs.length) : out.map BRow.blk = keptL bl o∧(∀ r ∈ out,r.Bd)∧∃ rest,rs.Perm (out++rest):=by
 refine ⟨?_,fun r hr=>?_,?_⟩
 ·apply List.ext_getElem?
  intro j
  by_cases hj : j < o.length
  ·obtain ⟨q,q1,q2,q3,q4⟩:=h.new j (nth o j) hj (get_nth hj)
   rw [List.getElem?_map,q2,keptL_get (get_nth hj),← q3]
   rfl
  ·rw [List.getElem?_eq_none (by rw [List.length_map,h.olen]; omega),List.getElem?_eq_none (by rw [keptL_len]; omega)]
 ·obtain ⟨j,hj⟩:=List.getElem?_of_mem hr
  have hjl : j < o.length:=by rw [← h.olen]; exact (List.getElem?_eq_some_iff.1 hj).1
  obtain ⟨q,q1,q2,q3,q4⟩:=h.new j (nth o j) hjl (get_nth hjl)
  rw [hj] at q2
  rw [Option.some.inj q2]
  exact q4
 ·obtain ⟨f,hf⟩ : ∃ f : Nat→BRow,f = fun b=>rs[b]?.getD ⟨none,0,[],none,0,[],0,noV,none,0,[]⟩:=⟨_,rfl⟩
  refine ⟨((List.range rs.length).filter fun b=>decide (b ∉ o)).map f,?_⟩
  have h1 : rs = (List.range rs.length).map f:=by
   apply List.ext_getElem?
   intro j
   rw [List.getElem?_map]
   by_cases hj : j < rs.length
   ·rw [List.getElem?_range hj,List.getElem?_eq_getElem hj,hf]
    simp [List.getElem?_eq_getElem hj]
   ·rw [List.getElem?_eq_none (by omega),List.getElem?_eq_none (by simp; omega)]; rfl
  have h2 : out = o.map f:=by
   apply List.ext_getElem?
   intro j
   rw [List.getElem?_map]
   by_cases hj : j < o.length
   ·obtain ⟨q,q1,q2,q3,q4⟩:=h.new j (nth o j) hj (get_nth hj)
    rw [q2,get_nth hj,Option.map_some,hf]
    simp only [q1,Option.getD_some]
   ·rw [List.getElem?_eq_none (by rw [h.olen]; omega),List.getElem?_eq_none (by omega)]; rfl
  conv=>lhs; rw [h1]
  rw [h2,← List.map_append]
  refine List.Perm.map f ?_
  refine (List.perm_ext_iff_of_nodup List.nodup_range (List.nodup_append.2 ⟨hn,List.nodup_range.sublist List.filter_sublist,fun a ha b hb e=>?_⟩)).2 fun x=>?_
  ·have:=(List.mem_filter.1 hb).2
   simp only [decide_eq_true_eq] at this
   exact this (e ▸ ha)
  ·rw [List.mem_append,List.mem_filter,List.mem_range,decide_eq_true_eq]
   constructor
   ·intro hx
    by_cases e : x ∈ o
    ·exact .inl e
    ·exact .inr ⟨hx,e⟩
   ·rintro (hx|hx)
    ·rw [h.rlen]; exact hlt x hx
    ·exact hx.1
theorem keep_c (nm : ByteArray) (pa re : Int) (a : Option Addr) (c : Nat) (bs : List BRow) (o : List Nat) (oa : Option Addr) (oc R : Nat) (hlen : bs.length ≤ 100) (hpos : 0 < bs.length) (hbd : ∀ b ∈ bs,b.Bd) (hf : FuncOk R (bs.map BRow.blk)) (hk : KOk (bs.map BRow.blk) o) (w0 : World)
  (hW : Wd (fps (fnE a c bs)) w0 (fnE a c bs) w0) (hord : SlAt (killW (fps (fnE a c bs)) w0) (.slice oa o.length oc) 1 (o.map fun x : Nat=>(x : Int)) IntV) :
  Ret Tryd.prog 42 [.agg #[.string nm,.int .i64 pa,.int .i64 re,.slice a bs.length c],.slice oa o.length oc] w0 fun u w'=>∃ x : Option Addr × Nat × List BRow,u = .agg #[.string nm,.int .i64 pa,.int .i64 re,.slice x.1 x.2.2.length x.2.1]∧Wd (fps (fnE a c bs)) w0 (fnE x.1 x.2.1 x.2.2) w' ∧
   (x.2.2.map BRow.blk = keptL (bs.map BRow.blk) o∧∀ b ∈ x.2.2,b.Bd):=by
 classical
 have hg:=hf.good
 obtain ⟨bl,hbl⟩ : ∃ bl,bl = bs.map BRow.blk:=⟨_,rfl⟩
 have hbln : bl.length = bs.length:=by rw [hbl,List.length_map]
 have hol : o.length ≤ bs.length:=by rw [← hbln,hbl]; exact keep_len_le' hk
 refine ret_enter Tryd.func42 rfl Tryd.ntmps42 rfl hW ?_
 obtain ⟨SS,hSS⟩ : ∃ SS,SS = fps (fnE a c bs):=⟨_,rfl⟩
 rw [← hSS] at hord ⊢
 have hordK : o ≠ []→∃ b oo : Nat,AddrIs oa b oo∧OldIs SS b∧∀ i x : Nat,o[i]? = some x→CellsIs w0 b (oo + i * 1) [.int .i64 (x : Int)]:=fun hne=>by
  obtain ⟨b,oo,h1,h2,h3⟩:=slKnown hord (fun hc=>killOldIs hc (by simp)) (fun _ _ h=>⟨_,_,h.1⟩) (by simpa using hne)
  refine ⟨b,oo,h1,h2,fun i x hx=>?_⟩
  obtain ⟨cs,h4,rfl,_⟩:=h3 i (x : Int) (by rw [List.getElem?_map,hx]; rfl)
  exact ⟨fun j v hj=>killLe _ _ (h4.eq j v hj)⟩
 obtain ⟨n,hn⟩ : ∃ n,n = bs.length:=⟨_,rfl⟩
 obtain ⟨m,hm⟩ : ∃ m,m = o.length:=⟨_,rfl⟩
 rw [← hn] at hlen hpos hbln hol
 rw [← hm] at hol
 rw [← hn,← hm]
 repeat (first|refine g_op rfl ?_|refine g_then ?_|refine g_nil ?_|refine g_region ?_|refine g_seq ?_|refine g_box rfl fun _ _=>?_|refine g_alloc rfl fun _ _=>?_|refine g_build1 rfl rfl fun _ _=>?_)
 rename_i p2 _ p4 _ e1 _
 refine g_callE (val:=fun a : Nat=>.slice (some ⟨a,0,none⟩) n n) (E:=fun a=>[Ent.vec (some ⟨a,0,none⟩) n n 3 1 (List.replicate n (.int .i64 (-1)))]) (φ:=fun _=>True) rfl (fun w hw=>repeat_c e1 0 n (-1) w (hw.vecCell (k:=0) (o:=0) (j:=0) rfl rfl) hpos (by omega)) fun ta _=>?_
 simp only [List.cons_append,List.nil_append]
 rw [show List.replicate n (Value.int .i64 (-1)) = (atL n (o.take 0)).map (.int .i64) by rw [List.take_zero,atL_nil]; simp]
 repeat (first|refine g_op rfl ?_|refine g_then ?_|refine g_nil ?_|refine g_region ?_|refine g_seq ?_|refine g_block ?_)
 refine g_loop (fun (i : Nat)=>i ≤ m) (fun i=>[(30,.int .i64 i),(28,.slice oa m oc),(29,.int .i64 m),(2,.pointer (some ⟨p2,0,none⟩)),(4,.pointer (some ⟨p4,0,none⟩)),(5,.slice (some ⟨ta,0,none⟩) n n),(1,.slice oa m oc)]) (fun i=>Ent.vec (some ⟨ta,0,none⟩) n n 3 1 ((atL n (o.take i)).map (.int .i64))::Ent.vec (some ⟨e1,0,none⟩) 1 1 3 1 [.int .i64 (-1)]::Ent.box p4 [.string ByteArray.empty,.int .i64 0,.int .i64 0,.slice none 0 0] 33::Ent.box p2 [.string nm,.int .i64 pa,.int .i64 re,.slice a n c] 33::fnE a c bs) (fun i=>m - i) 0 (Nat.zero_le _) (g_done (by repeat (first|exact trivial|refine ⟨rfl,?_⟩)) (.refl _)) fun i hi=>?_
 repeat (first|refine g_op rfl ?_|refine g_then ?_|refine g_nil ?_|refine g_region ?_|refine g_seq ?_)
 refine g_cond (fun h1=>?_) (fun h1=>?_)
 ·have hil : i < m:=by simpa using h1
  obtain ⟨b,hb⟩ : ∃ b,o[i]? = some b:=⟨_,List.getElem?_eq_getElem (by omega)⟩
  obtain ⟨qb,qo,hqa,hqo,hql⟩:=hordK (ne_of_get hb)
  have hci:=hql i b hb
  have hbn : b < n:=by rw [← hbln,hbl]; exact hk.lt b (List.mem_of_getElem? hb)
  have hli : LtIs i m:=⟨hil⟩
  have hlb : LtIs b n:=⟨hbn⟩
  have hnm : b ∉ o.take i:=fun h=>by
   obtain ⟨j,hj⟩:=List.getElem?_of_mem h
   rw [List.getElem?_take] at hj
   split at hj
   ·have hjl:=(List.getElem?_eq_some_iff.1 hj).1
    have:=nth_inj hk.nodup hjl (by omega) ((nth_get hj).trans (nth_get hb).symm)
    omega
   ·cases hj
  have hxs : XSet ((atL n (o.take i)).map (.int .i64)) (b * 1) (.int .i64 (i : Int)) ((atL n (o.take (i + 1))).map (.int .i64)):=⟨by
   have h2:=atL_snoc (n:=n) hnm
   rw [List.length_take,Nat.min_eq_left (by omega)] at h2
   rw [Nat.mul_one,← List.map_set,h2,List.take_add_one,hb]
   rfl,by rw [List.length_map,atL_len]; omega⟩
  repeat (first|refine g_op rfl ?_|refine g_then ?_|refine g_nil ?_|refine g_region ?_|refine g_seq ?_|refine g_opS rfl ?_|refine g_inBlock ?_|refine g_block ?_|refine g_skip ?_|refine g_add rfl (by omega) (by omega) ?_|refine g_storeV ?_)
  exact g_next (i + 1) (by omega) (by omega) (by repeat (first|exact trivial|refine ⟨rfl,?_⟩)) (.refl _)
 obtain rfl : m = i:=by have:=h1; simp at this; omega
 rw [hm,List.take_length,← hm]
 repeat (first|refine g_op rfl ?_|refine g_then ?_|refine g_region ?_|refine g_seq ?_|refine g_exit ?_|refine g_thenExit ?_|refine g_exitHere ?_)
 have hrd : ∀ w,Wd SS w0 (Ent.vec (some ⟨ta,0,none⟩) n n 3 1 ((atL n o).map (.int .i64))::Ent.vec (some ⟨e1,0,none⟩) 1 1 3 1 [.int .i64 (-1)]::Ent.box p4 [.string ByteArray.empty,.int .i64 0,.int .i64 0,.slice none 0 0] 33::Ent.box p2 [.string nm,.int .i64 pa,.int .i64 re,.slice a n c] 33::fnE a c bs) w→SlAt w (.slice a n c) 6 bl BlockV:=fun w hw=>by
  rw [hn,hbl]
  refine Wd.blocks (H:=[]) (hw.sub (.cons _ (.cons _ (.cons _ (.cons _ ?_))))) (by omega) hbd
  rw [List.append_nil]
  exact List.Sublist.refl _
 refine g_callE (val:=fun x : (Option Addr × Nat × Nat) × (Nat→Prop)=>.slice x.1.1 x.1.2.1 x.1.2.2) (E:=fun x=>[⟨x.2,fun w=>SlAt w (.slice x.1.1 x.1.2.1 x.1.2.2) 1 (aheadL bl) RowV⟩]) (φ:=fun _=>True) rfl (fun w hw=>graphAhead_c _ _ _ bl (.slice a n c) w (hrd w hw) (by omega) (by rw [hbl]; exact hg)) fun x _=>?_
 obtain ⟨⟨aa,an,ac⟩,af⟩:=x
 simp only [List.cons_append,List.nil_append]
 repeat (first|refine g_op rfl ?_|refine g_then ?_|refine g_nil ?_|refine g_region ?_|refine g_seq ?_|refine g_block ?_)
 refine g_nilVec 43 6 ?_
 refine g_wd (H':=(Ent.box p2 [.string nm,.int .i64 pa,.int .i64 re,.slice a n c] 33::Ent.box p4 [.string ByteArray.empty,.int .i64 0,.int .i64 0,.slice none 0 0] 33::Ent.vec a n c 43 6 (bs.flatMap blkC)::Ent.vec none 0 0 43 6 []::bs.map blkE)++[Ent.vec (some ⟨ta,0,none⟩) n n 3 1 ((atL n o).map (.int .i64)),(⟨af,fun w=>SlAt w (.slice aa an ac) 1 (aheadL bl) RowV⟩ : Ent)]) (fun w hw=>?_) ?_
 ·refine hw.pick ⟨[Ent.vec (some ⟨e1,0,none⟩) 1 1 3 1 [.int .i64 (-1)]],?_⟩
  unfold fnE
  rw [← hn]
  refine List.perm_iff_count.2 fun e=>?_
  simp only [List.count_append,List.count_cons,List.count_nil]
  omega
 refine g_holdK fun w1 hw1=>?_
 have hatk : SlAt (killW (fps (Ent.box p2 [.string nm,.int .i64 pa,.int .i64 re,.slice a n c] 33::Ent.box p4 [.string ByteArray.empty,.int .i64 0,.int .i64 0,.slice none 0 0] 33::Ent.vec a n c 43 6 (bs.flatMap blkC)::Ent.vec none 0 0 43 6 []::bs.map blkE)) w1) (.slice (some ⟨ta,0,none⟩) n n) 1 (atL n o) IntV:=hw1.besides.intsAt (k:=0) rfl (atL_len n o).symm (by omega) fun x hx=>by
  obtain ⟨b,hb⟩:=List.getElem?_of_mem hx
  have hbl2 : b < n:=by rw [← atL_len n o]; exact (List.getElem?_eq_some_iff.1 hb).1
  rw [atL_get hbl2] at hb
  obtain rfl:=Option.some.inj hb
  split
  ·rename_i h2
   have:=idx_lt h2
   exact ⟨by omega,by omega⟩
  ·exact ⟨by omega,by omega⟩
 have hahk : SlAt (killW (fps (Ent.box p2 [.string nm,.int .i64 pa,.int .i64 re,.slice a n c] 33::Ent.box p4 [.string ByteArray.empty,.int .i64 0,.int .i64 0,.slice none 0 0] 33::Ent.vec a n c 43 6 (bs.flatMap blkC)::Ent.vec none 0 0 43 6 []::bs.map blkE)) w1) (.slice aa an ac) 1 (aheadL bl) RowV:=hw1.beside (e:=(⟨af,fun w=>SlAt w (.slice aa an ac) 1 (aheadL bl) RowV⟩ : Ent)) (by simp)
 have hordk : SlAt (killW (fps (Ent.box p2 [.string nm,.int .i64 pa,.int .i64 re,.slice a n c] 33::Ent.box p4 [.string ByteArray.empty,.int .i64 0,.int .i64 0,.slice none 0 0] 33::Ent.vec a n c 43 6 (bs.flatMap blkC)::Ent.vec none 0 0 43 6 []::bs.map blkE)) w1) (.slice oa m oc) 1 (o.map fun x : Nat=>(x : Int)) IntV:=by
  rw [hm]
  exact hord.le mono_int hw1.killOldS
 have back : ∀ {E : List Ent} {w : World},Wd (fps (Ent.box p2 [.string nm,.int .i64 pa,.int .i64 re,.slice a n c] 33::Ent.box p4 [.string ByteArray.empty,.int .i64 0,.int .i64 0,.slice none 0 0] 33::Ent.vec a n c 43 6 (bs.flatMap blkC)::Ent.vec none 0 0 43 6 []::bs.map blkE)) (killW (fps (Ent.box p2 [.string nm,.int .i64 pa,.int .i64 re,.slice a n c] 33::Ent.box p4 [.string ByteArray.empty,.int .i64 0,.int .i64 0,.slice none 0 0] 33::Ent.vec a n c 43 6 (bs.flatMap blkC)::Ent.vec none 0 0 43 6 []::bs.map blkE)) w1) E w→Wd SS w0 (E++[Ent.vec (some ⟨ta,0,none⟩) n n 3 1 ((atL n o).map (.int .i64)),(⟨af,fun w=>SlAt w (.slice aa an ac) 1 (aheadL bl) RowV⟩ : Ent)]) w:=fun hw=>hw1.comp hw.unkill
 have hkp : ∀ {E : List Ent} {w : World},Wd (fps (Ent.box p2 [.string nm,.int .i64 pa,.int .i64 re,.slice a n c] 33::Ent.box p4 [.string ByteArray.empty,.int .i64 0,.int .i64 0,.slice none 0 0] 33::Ent.vec a n c 43 6 (bs.flatMap blkC)::Ent.vec none 0 0 43 6 []::bs.map blkE)) (killW (fps (Ent.box p2 [.string nm,.int .i64 pa,.int .i64 re,.slice a n c] 33::Ent.box p4 [.string ByteArray.empty,.int .i64 0,.int .i64 0,.slice none 0 0] 33::Ent.vec a n c 43 6 (bs.flatMap blkC)::Ent.vec none 0 0 43 6 []::bs.map blkE)) w1) E w→∀ p v,(killW (fps (Ent.box p2 [.string nm,.int .i64 pa,.int .i64 re,.slice a n c] 33::Ent.box p4 [.string ByteArray.empty,.int .i64 0,.int .i64 0,.slice none 0 0] 33::Ent.vec a n c 43 6 (bs.flatMap blkC)::Ent.vec none 0 0 43 6 []::bs.map blkE)) w1).cell? p = some v→w.cell? p = some v:=fun hw=>hw.killKeep
 have hold : ∀ {b o : Nat} {v : Value} {l : List Value},CellsAt (killW (fps (Ent.box p2 [.string nm,.int .i64 pa,.int .i64 re,.slice a n c] 33::Ent.box p4 [.string ByteArray.empty,.int .i64 0,.int .i64 0,.slice none 0 0] 33::Ent.vec a n c 43 6 (bs.flatMap blkC)::Ent.vec none 0 0 43 6 []::bs.map blkE)) w1) b o (v::l)→OldIs (fps (Ent.box p2 [.string nm,.int .i64 pa,.int .i64 re,.slice a n c] 33::Ent.box p4 [.string ByteArray.empty,.int .i64 0,.int .i64 0,.slice none 0 0] 33::Ent.vec a n c 43 6 (bs.flatMap blkC)::Ent.vec none 0 0 43 6 []::bs.map blkE)) b:=fun hc=>killOldIs hc (by simp)
 generalize killW (fps (Ent.box p2 [.string nm,.int .i64 pa,.int .i64 re,.slice a n c] 33::Ent.box p4 [.string ByteArray.empty,.int .i64 0,.int .i64 0,.slice none 0 0] 33::Ent.vec a n c 43 6 (bs.flatMap blkC)::Ent.vec none 0 0 43 6 []::bs.map blkE)) w1 = wk at *
 generalize fps (Ent.box p2 [.string nm,.int .i64 pa,.int .i64 re,.slice a n c] 33::Ent.box p4 [.string ByteArray.empty,.int .i64 0,.int .i64 0,.slice none 0 0] 33::Ent.vec a n c 43 6 (bs.flatMap blkC)::Ent.vec none 0 0 43 6 []::bs.map blkE) = S2 at *
 have hal : (aheadL bl).length = n:=by unfold aheadL; rw [aheadTo_length,hbln]
 obtain ⟨han,_⟩:=hahk.at
 rw [hal] at han
 subst an
 have hbne : aheadL bl ≠ []:=fun e=>by rw [e] at hal; simp at hal; omega
 have hane : atL n o ≠ []:=fun e=>by have:=atL_len n o; rw [e] at this; simp at this; omega
 obtain ⟨b8,o8,had8,hold8,hel8⟩:=slKnown hahk hold (fun _ _ h=>by obtain ⟨_,e,_⟩:=h; exact ⟨_,_,e⟩) hbne
 obtain ⟨b5,o5,had5,hold5,hel5⟩:=slKnown hatk hold (fun _ _ h=>⟨_,_,h.1⟩) hane
 refine g_vec 2 rfl hpos fun vb vo hva=>?_
 subst hva
 refine g_loop (fun (x : Nat × List BRow × List BRow × Option Addr × Nat)=>x.1 ≤ m∧KSt bl bs o x.1 x.2.1 x.2.2.1) (fun x=>[(44,.int .i64 x.1),(9,.slice x.2.2.2.1 x.2.2.1.length x.2.2.2.2),(5,.slice (some ⟨ta,0,none⟩) n n),(8,.slice aa n ac),(2,.pointer (some ⟨p2,0,none⟩)),(4,.pointer (some ⟨p4,0,none⟩)),(42,.slice oa m oc),(43,.int .i64 m)]) (fun x=>Ent.box p2 [.string nm,.int .i64 pa,.int .i64 re,.slice (some ⟨vb,vo,none⟩) n c] 33::Ent.box p4 [.string ByteArray.empty,.int .i64 0,.int .i64 0,.slice none 0 0] 33::Ent.vec (some ⟨vb,vo,none⟩) n c 43 6 (bs.flatMap blkC)::Ent.vec x.2.2.2.1 x.2.2.1.length x.2.2.2.2 43 6 (x.2.2.1.flatMap blkC)::x.2.1.map blkE) (fun x=>m - x.1) (0,bs,[],none,0) ⟨Nat.zero_le _,⟨rfl,rfl,fun _ _=>rfl,fun j b hj=>by omega⟩⟩ (g_done (by repeat (first|exact trivial|refine ⟨rfl,?_⟩)) (.refl _)) fun x ⟨hi,hst⟩=>?_
 obtain ⟨i,rs,out,na,nc⟩:=x
 simp only at hi hst ⊢
 repeat (first|refine g_op rfl ?_|refine g_then ?_|refine g_nil ?_|refine g_region ?_|refine g_seq ?_)
 refine g_cond (fun h1=>?_) (fun h1=>?_)
 ·have hil : i < m:=by simpa using h1
  obtain ⟨b,hb⟩ : ∃ b,o[i]? = some b:=⟨_,List.getElem?_eq_getElem (by omega)⟩
  obtain ⟨qb,qo,hqa,hqo,hql⟩:=slKnown hordk hold (fun _ _ h=>⟨_,_,h.1⟩) (fun e=>by have:=ne_of_get hb; simp at e; exact this e)
  obtain ⟨_,hci,rfl,_⟩:=hql i (b : Int) (by rw [List.getElem?_map,hb]; rfl)
  have hbn : b < n:=by rw [← hbln,hbl]; exact hk.lt b (List.mem_of_getElem? hb)
  have hli : LtIs i m:=⟨hil⟩
  have hlb : LtIs b n:=⟨hbn⟩
  have hnm : b ∉ o.take i:=fun h=>by
   obtain ⟨j,hj⟩:=List.getElem?_of_mem h
   rw [List.getElem?_take] at hj
   split at hj
   ·have hjl:=(List.getElem?_eq_some_iff.1 hj).1
    have:=nth_inj hk.nodup hjl (by omega) ((nth_get hj).trans (nth_get hb).symm)
    omega
   ·cases hj
  obtain ⟨BB,hBB⟩ : ∃ B,bs[b]? = some B:=⟨_,List.getElem?_eq_getElem (by omega)⟩
  obtain ⟨qa,qc,ps,la,lc,xs,kd,on,xa,xc,to⟩:=BB
  have hB : bs[b]? = some (⟨qa,qc,ps,la,lc,xs,kd,on,xa,xc,to⟩ : BRow):=hBB
  have hrB : rs[b]? = some (⟨qa,qc,ps,la,lc,xs,kd,on,xa,xc,to⟩ : BRow):=by rw [hst.old b hnm]; exact hB
  have hBd:=hbd _ (List.mem_of_getElem? hB)
  have hpsl : ps.length ≤ 1000:=hBd.phis
  have htol : to.length ≤ 1000:=hBd.to.1
  have hblB : bl[b]? = some ((⟨qa,qc,ps,la,lc,xs,kd,on,xa,xc,to⟩ : BRow)).blk:=by rw [hbl,List.getElem?_map,hB]; rfl
  have hbok:=hf.block b _ (by rw [← hbl]; exact hblB)
  have hrow : (aheadL bl)[b]? = some ((preds bl b).map fun x : Nat=>(x : Int)):=by
   rw [hbl]
   exact aheadL_get hg (fun b B hB=>(hf.block b B hB).to) (by rw [← hbl,hbln]; exact hbn)
  have hob : OwnAgg (Ent.box p2 [.string nm,.int .i64 pa,.int .i64 re,.slice (some ⟨vb,vo,none⟩) n c] 33::Ent.box p4 [.string ByteArray.empty,.int .i64 0,.int .i64 0,.slice none 0 0] 33::Ent.vec (some ⟨vb,vo,none⟩) n c 43 6 (bs.flatMap blkC)::Ent.vec na out.length nc 43 6 (out.flatMap blkC)::rs.map blkE) vb (vo + b * 6) _:=ownAgg (k:=2) rfl blkC_len hB
  simp only [blkC] at hob
  repeat (first|refine g_op rfl ?_|refine g_then ?_|refine g_nil ?_|refine g_region ?_|refine g_seq ?_|refine g_alloc rfl fun _ _=>?_|refine g_storeAgg ?_|refine g_block ?_|refine g_skip ?_)
  rename_i p12 _
  have hpull:=map_pull blkE hrB
  refine g_permH (H1:=blkE (⟨qa,qc,ps,la,lc,xs,kd,on,xa,xc,to⟩ : BRow)::(Ent.box p12 [.slice qa ps.length qc,.slice la xs.length lc,.int .i64 kd,.bool on.reg,.int .i64 on.n,.slice xa to.length xc] 43::Ent.box p2 [.string nm,.int .i64 pa,.int .i64 re,.slice (some ⟨vb,vo,none⟩) n c] 33::Ent.box p4 [.string ByteArray.empty,.int .i64 0,.int .i64 0,.slice none 0 0] 33::Ent.vec (some ⟨vb,vo,none⟩) n c 43 6 (bs.flatMap blkC)::Ent.vec na out.length nc 43 6 (out.flatMap blkC)::(rs.eraseIdx b).map blkE)) (List.perm_iff_count.2 fun e=>?_) ?_
  ·have:=List.perm_iff_count.1 hpull e
   simp only [List.count_cons] at this ⊢
   omega
  refine g_unjoin ?_
  refine g_permH (H1:=Ent.vec qa ps.length qc 62 2 (ps.flatMap phiC)::Ent.box p12 [.slice qa ps.length qc,.slice la xs.length lc,.int .i64 kd,.bool on.reg,.int .i64 on.n,.slice xa to.length xc] 43::Ent.box p2 [.string nm,.int .i64 pa,.int .i64 re,.slice (some ⟨vb,vo,none⟩) n c] 33::Ent.box p4 [.string ByteArray.empty,.int .i64 0,.int .i64 0,.slice none 0 0] 33::Ent.vec (some ⟨vb,vo,none⟩) n c 43 6 (bs.flatMap blkC)::Ent.vec na out.length nc 43 6 (out.flatMap blkC)::(ps.map phE++(rpE (⟨qa,qc,ps,la,lc,xs,kd,on,xa,xc,to⟩ : BRow)++(rs.eraseIdx b).map blkE))) (List.perm_iff_count.2 fun e=>?_) ?_
  ·have:=List.perm_iff_count.1 (blkPs_ph (⟨qa,qc,ps,la,lc,xs,kd,on,xa,xc,to⟩ : BRow)) e
   unfold phV at this
   simp only [List.count_cons,List.count_append] at this ⊢
   omega
  refine g_loop (fun (es : List PRow)=>es.length ≤ ps.length∧es.map PRow.phi = (ps.take es.length).map (fun q=>keepPhi bl o b q.phi)∧∀ q ∈ es,inI q.dst∧q.l.length ≤ 1000∧∀ v ∈ q.l,inI v.n) (fun es=>[(56,.int .i64 es.length),(54,.slice qa ps.length qc),(55,.int .i64 ps.length),(12,.pointer (some ⟨p12,0,none⟩)),(11,.int .i64 b),(44,.int .i64 i),(9,.slice na out.length nc),(5,.slice (some ⟨ta,0,none⟩) n n),(8,.slice aa n ac),(2,.pointer (some ⟨p2,0,none⟩)),(4,.pointer (some ⟨p4,0,none⟩)),(42,.slice oa m oc),(43,.int .i64 m)])
   (fun es=>Ent.vec qa ps.length qc 62 2 ((es++ps.drop es.length).flatMap phiC)::Ent.box p12 [.slice qa ps.length qc,.slice la xs.length lc,.int .i64 kd,.bool on.reg,.int .i64 on.n,.slice xa to.length xc] 43::Ent.box p2 [.string nm,.int .i64 pa,.int .i64 re,.slice (some ⟨vb,vo,none⟩) n c] 33::Ent.box p4 [.string ByteArray.empty,.int .i64 0,.int .i64 0,.slice none 0 0] 33::Ent.vec (some ⟨vb,vo,none⟩) n c 43 6 (bs.flatMap blkC)::Ent.vec na out.length nc 43 6 (out.flatMap blkC)::((es++ps.drop es.length).map phE++(rpE (⟨qa,qc,ps,la,lc,xs,kd,on,xa,xc,to⟩ : BRow)++(rs.eraseIdx b).map blkE))) (fun es=>ps.length - es.length) [] ⟨Nat.zero_le _,rfl,by simp⟩ (g_done (by repeat (first|exact trivial|refine ⟨rfl,?_⟩)) (.refl _)) fun es ⟨hi2,hem,heb⟩=>?_
  repeat (first|refine g_op rfl ?_|refine g_then ?_|refine g_nil ?_|refine g_region ?_|refine g_seq ?_)
  refine g_cond (fun h2=>?_) (fun h2=>?_)
  ·have hlt : es.length < ps.length:=by simpa using h2
   generalize hiL : es.length = ei at *
   obtain ⟨q,hq⟩ : ∃ q,ps[ei]? = some q:=⟨_,List.getElem?_eq_getElem hlt⟩
   have hqm:=List.mem_of_getElem? hq
   obtain ⟨hqd,hqb,hqv⟩:=hBd.phi q hqm
   have hpo:=hbok.phis q.phi (List.mem_map.2 ⟨q,hqm,rfl⟩)
   obtain ⟨pd,pla,plc,pl⟩:=q
   simp only at hqd hqb hqv
   have hpl : pl.length = (preds bl b).length:=by rw [hbl]; exact hpo.len
   refine g_vec 0 rfl (by omega) fun zb zo hza=>?_
   subst hza
   have hlj : LtIs ei ps.length:=⟨hlt⟩
   have hget : (es++ps.drop ei)[ei]? = some (⟨pd,pla,plc,pl⟩ : PRow):=by
    rw [List.getElem?_append_right (by omega),hiL,Nat.sub_self,List.getElem?_drop,Nat.add_zero]; exact hq
   have hdr : ps.drop ei = (⟨pd,pla,plc,pl⟩ : PRow)::ps.drop (ei + 1):=by rw [List.drop_eq_getElem_cons hlt,(List.getElem?_eq_some_iff.1 hq).2]
   refine g_permH (H1:=Ent.vec pla pl.length plc 39 2 (pl.flatMap vlC)::Ent.vec (some ⟨zb,zo,none⟩) ps.length qc 62 2 ((es++ps.drop ei).flatMap phiC)::Ent.box p12 [.slice (some ⟨zb,zo,none⟩) ps.length qc,.slice la xs.length lc,.int .i64 kd,.bool on.reg,.int .i64 on.n,.slice xa to.length xc] 43::Ent.box p2 [.string nm,.int .i64 pa,.int .i64 re,.slice (some ⟨vb,vo,none⟩) n c] 33::Ent.box p4 [.string ByteArray.empty,.int .i64 0,.int .i64 0,.slice none 0 0] 33::Ent.vec (some ⟨vb,vo,none⟩) n c 43 6 (bs.flatMap blkC)::Ent.vec na out.length nc 43 6 (out.flatMap blkC)::((es++ps.drop (ei + 1)).map phE++(rpE (⟨some ⟨zb,zo,none⟩,qc,ps,la,lc,xs,kd,on,xa,xc,to⟩ : BRow)++(rs.eraseIdx b).map blkE))) (List.perm_iff_count.2 fun e=>?_) ?_
   ·rw [hdr]
    have e2 : phE (⟨pd,pla,plc,pl⟩ : PRow) = Ent.vec pla pl.length plc 39 2 (pl.flatMap vlC):=rfl
    simp only [List.map_append,List.map_cons,List.count_append,List.count_cons,e2]
    omega
   have hob2 : OwnAgg (Ent.vec pla pl.length plc 39 2 (pl.flatMap vlC)::Ent.vec (some ⟨zb,zo,none⟩) ps.length qc 62 2 ((es++ps.drop ei).flatMap phiC)::Ent.box p12 [.slice (some ⟨zb,zo,none⟩) ps.length qc,.slice la xs.length lc,.int .i64 kd,.bool on.reg,.int .i64 on.n,.slice xa to.length xc] 43::Ent.box p2 [.string nm,.int .i64 pa,.int .i64 re,.slice (some ⟨vb,vo,none⟩) n c] 33::Ent.box p4 [.string ByteArray.empty,.int .i64 0,.int .i64 0,.slice none 0 0] 33::Ent.vec (some ⟨vb,vo,none⟩) n c 43 6 (bs.flatMap blkC)::Ent.vec na out.length nc 43 6 (out.flatMap blkC)::((es++ps.drop (ei + 1)).map phE++(rpE (⟨some ⟨zb,zo,none⟩,qc,ps,la,lc,xs,kd,on,xa,xc,to⟩ : BRow)++(rs.eraseIdx b).map blkE))) zb (zo + ei * 2) _:=ownAgg (k:=1) rfl phiC_len hget
   simp only [phiC] at hob2
   repeat (first|refine g_op rfl ?_|refine g_then ?_|refine g_nil ?_|refine g_region ?_|refine g_seq ?_|refine g_alloc rfl fun _ _=>?_|refine g_storeAgg ?_|refine g_block ?_|refine g_skip ?_)
   rename_i p14 _
   refine g_nilVec 117 3 ?_
   obtain ⟨rowJ,hrowJ⟩ : ∃ rowJ : Nat→List (Nat × LVal),rowJ = fun j=>(((preds bl b).take j).filter fun q=>decide (q ∈ o)).map fun q=>(o.idxOf q,srcAt bl b ⟨pd,pl⟩ q):=⟨_,rfl⟩
   have hrow0 : rowJ 0 = []:=by rw [hrowJ]; simp
   refine g_loop (fun (x : Nat × List (Nat × LVal) × Option Addr × Nat)=>x.1 ≤ pl.length∧x.2.1 = rowJ x.1) (fun x=>[(64,.int .i64 x.1),(62,.slice pla pl.length plc),(63,.int .i64 pl.length),(15,.slice x.2.2.1 x.2.1.length x.2.2.2),(14,.pointer (some ⟨p14,0,none⟩)),(13,.int .i64 ei),(56,.int .i64 ei),(54,.slice (some ⟨zb,zo,none⟩) ps.length qc),(55,.int .i64 ps.length),(12,.pointer (some ⟨p12,0,none⟩)),(11,.int .i64 b),(44,.int .i64 i),(9,.slice na out.length nc),(5,.slice (some ⟨ta,0,none⟩) n n),(8,.slice aa n ac),(2,.pointer (some ⟨p2,0,none⟩)),(4,.pointer (some ⟨p4,0,none⟩)),(42,.slice oa m oc),(43,.int .i64 m)])
    (fun x=>Ent.vec x.2.2.1 x.2.1.length x.2.2.2 117 3 (x.2.1.flatMap fvC)::Ent.box p14 [.int .i64 pd,.slice pla pl.length plc] 62::Ent.vec pla pl.length plc 39 2 (pl.flatMap vlC)::Ent.vec (some ⟨zb,zo,none⟩) ps.length qc 62 2 ((es++ps.drop ei).flatMap phiC)::Ent.box p12 [.slice (some ⟨zb,zo,none⟩) ps.length qc,.slice la xs.length lc,.int .i64 kd,.bool on.reg,.int .i64 on.n,.slice xa to.length xc] 43::Ent.box p2 [.string nm,.int .i64 pa,.int .i64 re,.slice (some ⟨vb,vo,none⟩) n c] 33::Ent.box p4 [.string ByteArray.empty,.int .i64 0,.int .i64 0,.slice none 0 0] 33::Ent.vec (some ⟨vb,vo,none⟩) n c 43 6 (bs.flatMap blkC)::Ent.vec na out.length nc 43 6 (out.flatMap blkC)::((es++ps.drop (ei + 1)).map phE++(rpE (⟨some ⟨zb,zo,none⟩,qc,ps,la,lc,xs,kd,on,xa,xc,to⟩ : BRow)++(rs.eraseIdx b).map blkE))) (fun x=>pl.length - x.1) (0,[],none,0) ⟨Nat.zero_le _,hrow0.symm⟩ (g_done (by repeat (first|exact trivial|refine ⟨rfl,?_⟩)) (.refl _)) fun x ⟨hj,hl⟩=>?_
   obtain ⟨j,l,ra,rc⟩:=x
   simp only at hj hl ⊢
   have hll : l.length ≤ j:=by
    rw [hl,hrowJ,List.length_map]
    refine Nat.le_trans (List.length_filter_le _ _) ?_
    rw [List.length_take]
    omega
   repeat (first|refine g_op rfl ?_|refine g_then ?_|refine g_nil ?_|refine g_region ?_|refine g_seq ?_)
   refine g_cond (fun h3=>?_) (fun h3=>?_)
   ·have hjl : j < pl.length:=by simpa using h3
    obtain ⟨v,hv⟩ : ∃ v,pl[j]? = some v:=⟨_,List.getElem?_eq_getElem hjl⟩
    obtain ⟨qj,hqj⟩ : ∃ qj,(preds bl b)[j]? = some qj:=⟨_,List.getElem?_eq_getElem (by omega)⟩
    have hqjn : qj < n:=by rw [← hbln]; exact preds_lt bl b qj (List.mem_of_getElem? hqj)
    have hsrc : srcAt bl b ⟨pd,pl⟩ qj = v:=by
     unfold srcAt
     have h4 : (preds bl b).idxOf qj = j:=by
      have h5:=idx_nth (preds_nodup bl b) (i:=j) (by omega)
      rwa [nth_get hqj] at h5
     rw [h4,List.getD_eq_getElem?_getD,hv]
     rfl
    have hstep : rowJ (j + 1) = l++if qj ∈ o then [(o.idxOf qj,v)] else []:=by
     rw [hl,hrowJ]
     simp only
     rw [List.take_add_one,hqj,List.filter_append,List.map_append]
     congr 1
     by_cases h4 : qj ∈ o
     ·simp [h4,hsrc]
     ·simp [h4]
    refine g_vec 2 rfl (by omega) fun yb yo hya=>?_
    subst hya
    have hlk : LtIs j pl.length:=⟨hjl⟩
    have hov : OwnAgg (Ent.vec ra l.length rc 117 3 (l.flatMap fvC)::Ent.box p14 [.int .i64 pd,.slice (some ⟨yb,yo,none⟩) pl.length plc] 62::Ent.vec (some ⟨yb,yo,none⟩) pl.length plc 39 2 (pl.flatMap vlC)::Ent.vec (some ⟨zb,zo,none⟩) ps.length qc 62 2 ((es++ps.drop ei).flatMap phiC)::Ent.box p12 [.slice (some ⟨zb,zo,none⟩) ps.length qc,.slice la xs.length lc,.int .i64 kd,.bool on.reg,.int .i64 on.n,.slice xa to.length xc] 43::Ent.box p2 [.string nm,.int .i64 pa,.int .i64 re,.slice (some ⟨vb,vo,none⟩) n c] 33::Ent.box p4 [.string ByteArray.empty,.int .i64 0,.int .i64 0,.slice none 0 0] 33::Ent.vec (some ⟨vb,vo,none⟩) n c 43 6 (bs.flatMap blkC)::Ent.vec na out.length nc 43 6 (out.flatMap blkC)::((es++ps.drop (ei + 1)).map phE++(rpE (⟨some ⟨zb,zo,none⟩,qc,ps,la,lc,xs,kd,on,xa,xc,to⟩ : BRow)++(rs.eraseIdx b).map blkE))) yb (yo + j * 2) _:=ownAgg (k:=2) rfl vlC_len hv
    simp only [vlC] at hov
    obtain ⟨_,hci8,rv,rfl,hrv⟩:=hel8 b _ hrow
    obtain ⟨rva,rvn,rvc,_,_,rfl,hrvn,_⟩:=id hrv
    have hrvl : rvn = pl.length:=by rw [hrvn,List.length_map,hpl]
    have hlr : LtIs j rvn:=⟨by omega⟩
    obtain ⟨b7,o7,had7,hold7,hel7⟩:=slKnown hrv hold (fun _ _ h=>⟨_,_,h.1⟩) (fun e=>by have:=ne_of_get hqj; simp at e; exact this e)
    obtain ⟨_,hci7,rfl,_⟩:=hel7 j (qj : Int) (by rw [List.getElem?_map,hqj]; rfl)
    have hlq : LtIs qj n:=⟨hqjn⟩
    obtain ⟨_,hci5,rfl,_⟩:=hel5 qj _ (atL_get hqjn)
    repeat (first|refine g_op rfl ?_|refine g_then ?_|refine g_nil ?_|refine g_region ?_|refine g_seq ?_|refine g_alloc rfl fun _ _=>?_|refine g_storeAgg ?_|refine g_block ?_|refine g_skip ?_)
    by_cases hqo : qj ∈ o
    ·rw [if_pos hqo]
     rw [if_pos hqo] at hstep
     rw [show decide ((0 : Int) ≤ ((o.idxOf qj : Nat) : Int)) = true by simp]
     repeat (first|refine g_op rfl ?_|refine g_region ?_|refine g_condT ?_|refine g_build1 rfl rfl fun _ _=>?_)
     refine g_append rfl rfl (by omega) (by omega) fun ra' rc'=>?_
     rw [show l.length + 1 = (l++[(o.idxOf qj,v)]).length by simp,show l.flatMap fvC++[.int .i64 ((o.idxOf qj : Nat) : Int),.bool v.reg,.int .i64 v.n] = (l++[(o.idxOf qj,v)]).flatMap fvC by rw [List.flatMap_append]; rfl]
     repeat (first|refine g_then ?_|refine g_nil ?_|refine g_region ?_|refine g_opS rfl ?_|refine g_inBlock ?_|refine g_add rfl (by omega) (by omega) ?_)
     exact g_next (j + 1,l++[(o.idxOf qj,v)],ra',rc') ⟨by omega,hstep.symm⟩ (by simp only; omega) (by repeat (first|exact trivial|refine ⟨rfl,?_⟩)) (.cons _ (.cons _ (.refl _)))
    ·rw [if_neg hqo]
     rw [if_neg hqo,List.append_nil] at hstep
     rw [show decide ((0 : Int) ≤ (-1 : Int)) = false by decide]
     repeat (first|refine g_then ?_|refine g_nil ?_|refine g_region ?_|refine g_opS rfl ?_|refine g_inBlock ?_|refine g_skip ?_|refine g_condF ?_|refine g_add rfl (by omega) (by omega) ?_)
     exact g_next (j + 1,l,ra,rc) ⟨by omega,hstep.symm⟩ (by simp only; omega) (by repeat (first|exact trivial|refine ⟨rfl,?_⟩)) (.cons _ (.refl _))
   obtain rfl : j = pl.length:=by have:=of_decide_eq_false h3; omega
   have hlf : l = frRow bl o b ⟨pd,pl⟩:=by
    rw [hl,hrowJ]
    unfold frRow
    simp only
    rw [List.take_of_length_le (by omega)]
   repeat (first|refine g_op rfl ?_|refine g_then ?_|refine g_region ?_|refine g_seq ?_|refine g_exit ?_|refine g_thenExit ?_|refine g_exitHere ?_)
   refine g_eqH (H1:=[Ent.vec ra l.length rc 117 3 (l.flatMap fvC)]++(Ent.box p14 [.int .i64 pd,.slice pla pl.length plc] 62::Ent.vec pla pl.length plc 39 2 (pl.flatMap vlC)::Ent.vec (some ⟨zb,zo,none⟩) ps.length qc 62 2 ((es++ps.drop ei).flatMap phiC)::Ent.box p12 [.slice (some ⟨zb,zo,none⟩) ps.length qc,.slice la xs.length lc,.int .i64 kd,.bool on.reg,.int .i64 on.n,.slice xa to.length xc] 43::Ent.box p2 [.string nm,.int .i64 pa,.int .i64 re,.slice (some ⟨vb,vo,none⟩) n c] 33::Ent.box p4 [.string ByteArray.empty,.int .i64 0,.int .i64 0,.slice none 0 0] 33::Ent.vec (some ⟨vb,vo,none⟩) n c 43 6 (bs.flatMap blkC)::Ent.vec na out.length nc 43 6 (out.flatMap blkC)::((es++ps.drop (ei + 1)).map phE++(rpE (⟨some ⟨zb,zo,none⟩,qc,ps,la,lc,xs,kd,on,xa,xc,to⟩ : BRow)++(rs.eraseIdx b).map blkE)))) rfl ?_
   refine g_callS (val:=fun _ : List (Nat × LVal)=>.tuple #[]) (E:=fun l'=>[Ent.vec ra l'.length rc 117 3 (l'.flatMap fvC)]) (φ:=fun l'=>l'.Perm l∧l'.Pairwise fun x y=>x.1 < y.1 ∨ x.1 = y.1) rfl (fun w hw=>sortF_c ra rc l (fun x hx=>?_) (by omega) w hw.pre) fun l' hl'=>?_
   ·rw [hlf] at hx
    unfold frRow at hx
    obtain ⟨q,hq,rfl⟩:=List.mem_map.1 hx
    have h4:=(List.mem_filter.1 hq).2
    simp only [decide_eq_true_eq] at h4
    have:=idx_lt h4
    simp only
    omega
   have hl'e : l' = frTgt bl o b ⟨pd,pl⟩:=by
    have h4:=frRow_perm (bl:=bl) hk.nodup b ⟨pd,pl⟩
    rw [← hlf] at h4
    exact sort_one (f:=fun x : Nat × LVal=>x.1) (h4.trans hl'.1.symm) (frTgt_rise hk.nodup b _) hl'.2
   have hQ : l'.map (·.2) = (keepPhi bl o b ⟨pd,pl⟩).src:=by rw [hl'e]; exact frTgt_snd bl o b _
   have hl'l : l'.length ≤ 1000:=by have:=hl'.1.length_eq; omega
   have hll' : l'.length = l.length:=hl'.1.length_eq
   rw [← hll']
   simp only [List.cons_append,List.nil_append]
   have hxs0 : XSet ((es++ps.drop ei).flatMap phiC) (ei * 2 + 1) (.slice none 0 0) (((es++[(⟨pd,none,0,[]⟩ : PRow)])++ps.drop (ei + 1)).flatMap phiC):=⟨by
    show ((es++ps.drop ei).flatMap phiC).set (ei * 2 + 1) (.slice none ([] : List LVal).length 0) = _
    rw [flat_set phiC_len hget (k:=1) (v:=.slice none ([] : List LVal).length 0) (by omega) (y:=(⟨pd,none,0,[]⟩ : PRow)) rfl]
    congr 1
    exact set_mid hiL hlt,by rw [flat_len phiC_len,List.length_append,List.length_drop]; omega⟩
   have hot0 : OwnAt (Ent.vec ra l'.length rc 117 3 (l'.flatMap fvC)::Ent.box p14 [.int .i64 pd,.slice pla pl.length plc] 62::Ent.vec pla pl.length plc 39 2 (pl.flatMap vlC)::Ent.vec (some ⟨zb,zo,none⟩) ps.length qc 62 2 ((es++ps.drop ei).flatMap phiC)::Ent.box p12 [.slice (some ⟨zb,zo,none⟩) ps.length qc,.slice la xs.length lc,.int .i64 kd,.bool on.reg,.int .i64 on.n,.slice xa to.length xc] 43::Ent.box p2 [.string nm,.int .i64 pa,.int .i64 re,.slice (some ⟨vb,vo,none⟩) n c] 33::Ent.box p4 [.string ByteArray.empty,.int .i64 0,.int .i64 0,.slice none 0 0] 33::Ent.vec (some ⟨vb,vo,none⟩) n c 43 6 (bs.flatMap blkC)::Ent.vec na out.length nc 43 6 (out.flatMap blkC)::((es++ps.drop (ei + 1)).map phE++(rpE (⟨some ⟨zb,zo,none⟩,qc,ps,la,lc,xs,kd,on,xa,xc,to⟩ : BRow)++(rs.eraseIdx b).map blkE))) zb (zo + ei * 2 + 1) 3 zo (ei * 2 + 1) ps.length qc 62 2 ((es++ps.drop ei).flatMap phiC):=⟨rfl,by omega⟩
   repeat (first|refine g_op rfl ?_|refine g_then ?_|refine g_nil ?_|refine g_region ?_|refine g_seq ?_|refine g_block ?_|refine g_storeV ?_)
   clear hot0 hxs0
   obtain ⟨Q,hQd⟩ : ∃ Q,Q = l'.map (·.2):=⟨_,rfl⟩
   have hQl : Q.length = l'.length:=by rw [hQd,List.length_map]
   refine g_nilVec 39 2 ?_
   refine g_loop (fun (x : List LVal × Option Addr × Nat)=>x.1.length ≤ Q.length∧x.1 = Q.take x.1.length) (fun x=>[(97,.int .i64 x.1.length),(95,.slice ra l'.length rc),(96,.int .i64 l'.length),(14,.pointer (some ⟨p14,0,none⟩)),(13,.int .i64 ei),(56,.int .i64 ei),(54,.slice (some ⟨zb,zo,none⟩) ps.length qc),(55,.int .i64 ps.length),(12,.pointer (some ⟨p12,0,none⟩)),(11,.int .i64 b),(44,.int .i64 i),(9,.slice na out.length nc),(5,.slice (some ⟨ta,0,none⟩) n n),(8,.slice aa n ac),(2,.pointer (some ⟨p2,0,none⟩)),(4,.pointer (some ⟨p4,0,none⟩)),(42,.slice oa m oc),(43,.int .i64 m)])
    (fun x=>Ent.vec x.2.1 x.1.length x.2.2 39 2 (x.1.flatMap vlC)::Ent.vec ra l'.length rc 117 3 (l'.flatMap fvC)::Ent.vec (some ⟨zb,zo,none⟩) ps.length qc 62 2 (((es++[(⟨pd,x.2.1,x.2.2,x.1⟩ : PRow)])++ps.drop (ei + 1)).flatMap phiC)::Ent.box p12 [.slice (some ⟨zb,zo,none⟩) ps.length qc,.slice la xs.length lc,.int .i64 kd,.bool on.reg,.int .i64 on.n,.slice xa to.length xc] 43::Ent.box p2 [.string nm,.int .i64 pa,.int .i64 re,.slice (some ⟨vb,vo,none⟩) n c] 33::Ent.box p4 [.string ByteArray.empty,.int .i64 0,.int .i64 0,.slice none 0 0] 33::Ent.vec (some ⟨vb,vo,none⟩) n c 43 6 (bs.flatMap blkC)::Ent.vec na out.length nc 43 6 (out.flatMap blkC)::((es++ps.drop (ei + 1)).map phE++(rpE (⟨some ⟨zb,zo,none⟩,qc,ps,la,lc,xs,kd,on,xa,xc,to⟩ : BRow)++(rs.eraseIdx b).map blkE))) (fun x=>Q.length - x.1.length) ([],none,0) ⟨Nat.zero_le _,by simp⟩ (g_done (by repeat (first|exact trivial|refine ⟨rfl,?_⟩)) (.cons_cons _ (.cons_cons _ (.cons _ (.cons _ (.refl _)))))) fun x ⟨hk1,hk2⟩=>?_
   obtain ⟨vs,fa,fc⟩:=x
   simp only at hk1 hk2 ⊢
   repeat (first|refine g_op rfl ?_|refine g_then ?_|refine g_nil ?_|refine g_region ?_|refine g_seq ?_)
   refine g_cond (fun h4=>?_) (fun h4=>?_)
   ·have hvl : vs.length < l'.length:=by have:=of_decide_eq_true h4; omega
    generalize hvL : vs.length = kk at *
    obtain ⟨x,hx⟩ : ∃ x,l'[kk]? = some x:=⟨_,List.getElem?_eq_getElem hvl⟩
    have hxQ : Q[kk]? = some x.2:=by rw [hQd,List.getElem?_map,hx]; rfl
    refine g_vec 1 rfl (by omega) fun rb ro hra=>?_
    subst hra
    have hlk : LtIs kk l'.length:=⟨hvl⟩
    have hor : OwnAgg (Ent.vec fa kk fc 39 2 (vs.flatMap vlC)::Ent.vec (some ⟨rb,ro,none⟩) l'.length rc 117 3 (l'.flatMap fvC)::Ent.vec (some ⟨zb,zo,none⟩) ps.length qc 62 2 (((es++[(⟨pd,fa,fc,vs⟩ : PRow)])++ps.drop (ei + 1)).flatMap phiC)::Ent.box p12 [.slice (some ⟨zb,zo,none⟩) ps.length qc,.slice la xs.length lc,.int .i64 kd,.bool on.reg,.int .i64 on.n,.slice xa to.length xc] 43::Ent.box p2 [.string nm,.int .i64 pa,.int .i64 re,.slice (some ⟨vb,vo,none⟩) n c] 33::Ent.box p4 [.string ByteArray.empty,.int .i64 0,.int .i64 0,.slice none 0 0] 33::Ent.vec (some ⟨vb,vo,none⟩) n c 43 6 (bs.flatMap blkC)::Ent.vec na out.length nc 43 6 (out.flatMap blkC)::((es++ps.drop (ei + 1)).map phE++(rpE (⟨some ⟨zb,zo,none⟩,qc,ps,la,lc,xs,kd,on,xa,xc,to⟩ : BRow)++(rs.eraseIdx b).map blkE))) rb (ro + kk * 3) _:=ownAgg (k:=1) rfl fvC_len hx
    simp only [fvC] at hor
    repeat (first|refine g_op rfl ?_|refine g_then ?_|refine g_nil ?_|refine g_region ?_|refine g_seq ?_|refine g_alloc rfl fun _ _=>?_|refine g_storeAgg ?_|refine g_block ?_|refine g_skip ?_)
    rename_i p20 _
    have hget2 : ((es++[(⟨pd,fa,fc,vs⟩ : PRow)])++ps.drop (ei + 1))[ei]? = some (⟨pd,fa,fc,vs⟩ : PRow):=by
     rw [List.getElem?_append_left (by simp [hiL]),List.getElem?_append_right (by omega),hiL,Nat.sub_self]; rfl
    have hoc1 : OwnCell (Ent.box p20 [.int .i64 (x.1 : Int),.bool x.2.reg,.int .i64 x.2.n] 117::Ent.vec fa kk fc 39 2 (vs.flatMap vlC)::Ent.vec (some ⟨rb,ro,none⟩) l'.length rc 117 3 (l'.flatMap fvC)::Ent.vec (some ⟨zb,zo,none⟩) ps.length qc 62 2 (((es++[(⟨pd,fa,fc,vs⟩ : PRow)])++ps.drop (ei + 1)).flatMap phiC)::Ent.box p12 [.slice (some ⟨zb,zo,none⟩) ps.length qc,.slice la xs.length lc,.int .i64 kd,.bool on.reg,.int .i64 on.n,.slice xa to.length xc] 43::Ent.box p2 [.string nm,.int .i64 pa,.int .i64 re,.slice (some ⟨vb,vo,none⟩) n c] 33::Ent.box p4 [.string ByteArray.empty,.int .i64 0,.int .i64 0,.slice none 0 0] 33::Ent.vec (some ⟨vb,vo,none⟩) n c 43 6 (bs.flatMap blkC)::Ent.vec na out.length nc 43 6 (out.flatMap blkC)::((es++ps.drop (ei + 1)).map phE++(rpE (⟨some ⟨zb,zo,none⟩,qc,ps,la,lc,xs,kd,on,xa,xc,to⟩ : BRow)++(rs.eraseIdx b).map blkE))) zb (zo + ei * 2 + 1) (.slice fa kk fc):=⟨fun _ _ _ hw=>by
     have h5:=hw.vecCell (k:=3) rfl (flat_at phiC_len _ ei _ 1 (.slice fa vs.length fc) hget2 rfl)
     rw [hvL] at h5
     rwa [← Nat.add_assoc] at h5⟩
    have hoc2 : ∀ Z : Ent,OwnCell (Z::Ent.box p20 [.int .i64 (x.1 : Int),.bool x.2.reg,.int .i64 x.2.n] 117::Ent.vec fa kk fc 39 2 (vs.flatMap vlC)::Ent.vec (some ⟨rb,ro,none⟩) l'.length rc 117 3 (l'.flatMap fvC)::Ent.vec (some ⟨zb,zo,none⟩) ps.length qc 62 2 (((es++[(⟨pd,fa,fc,vs⟩ : PRow)])++ps.drop (ei + 1)).flatMap phiC)::Ent.box p12 [.slice (some ⟨zb,zo,none⟩) ps.length qc,.slice la xs.length lc,.int .i64 kd,.bool on.reg,.int .i64 on.n,.slice xa to.length xc] 43::Ent.box p2 [.string nm,.int .i64 pa,.int .i64 re,.slice (some ⟨vb,vo,none⟩) n c] 33::Ent.box p4 [.string ByteArray.empty,.int .i64 0,.int .i64 0,.slice none 0 0] 33::Ent.vec (some ⟨vb,vo,none⟩) n c 43 6 (bs.flatMap blkC)::Ent.vec na out.length nc 43 6 (out.flatMap blkC)::((es++ps.drop (ei + 1)).map phE++(rpE (⟨some ⟨zb,zo,none⟩,qc,ps,la,lc,xs,kd,on,xa,xc,to⟩ : BRow)++(rs.eraseIdx b).map blkE))) zb (zo + ei * 2 + 1) (.slice fa kk fc):=fun Z=>⟨fun _ _ _ hw=>by
     have h5:=hw.vecCell (k:=4) rfl (flat_at phiC_len _ ei _ 1 (.slice fa vs.length fc) hget2 rfl)
     rw [hvL] at h5
     rwa [← Nat.add_assoc] at h5⟩
    have hxs : ∀ (ya : Option Addr) (yc : Nat),XSet (((es++[(⟨pd,fa,fc,vs⟩ : PRow)])++ps.drop (ei + 1)).flatMap phiC) (ei * 2 + 1) (.slice ya (vs++[x.2]).length yc) (((es++[(⟨pd,ya,yc,vs++[x.2]⟩ : PRow)])++ps.drop (ei + 1)).flatMap phiC):=fun ya yc=>⟨by
     rw [flat_set phiC_len hget2 (k:=1) (by omega) (y:=(⟨pd,ya,yc,vs++[x.2]⟩ : PRow)) rfl]
     congr 1
     rw [List.set_append_left _ _ (by simp [hiL]),List.set_append_right _ _ (by omega),hiL,Nat.sub_self]
     rfl,by rw [flat_len phiC_len,List.length_append,List.length_append,hiL]; simp; omega⟩
    have hot : ∀ X Y : Ent,OwnAt (X::Ent.box p20 [.int .i64 (x.1 : Int),.bool x.2.reg,.int .i64 x.2.n] 117::Y::Ent.vec (some ⟨rb,ro,none⟩) l'.length rc 117 3 (l'.flatMap fvC)::Ent.vec (some ⟨zb,zo,none⟩) ps.length qc 62 2 (((es++[(⟨pd,fa,fc,vs⟩ : PRow)])++ps.drop (ei + 1)).flatMap phiC)::Ent.box p12 [.slice (some ⟨zb,zo,none⟩) ps.length qc,.slice la xs.length lc,.int .i64 kd,.bool on.reg,.int .i64 on.n,.slice xa to.length xc] 43::Ent.box p2 [.string nm,.int .i64 pa,.int .i64 re,.slice (some ⟨vb,vo,none⟩) n c] 33::Ent.box p4 [.string ByteArray.empty,.int .i64 0,.int .i64 0,.slice none 0 0] 33::Ent.vec (some ⟨vb,vo,none⟩) n c 43 6 (bs.flatMap blkC)::Ent.vec na out.length nc 43 6 (out.flatMap blkC)::((es++ps.drop (ei + 1)).map phE++(rpE (⟨some ⟨zb,zo,none⟩,qc,ps,la,lc,xs,kd,on,xa,xc,to⟩ : BRow)++(rs.eraseIdx b).map blkE))) zb (zo + ei * 2 + 1) 4 zo (ei * 2 + 1) ps.length qc 62 2 (((es++[(⟨pd,fa,fc,vs⟩ : PRow)])++ps.drop (ei + 1)).flatMap phiC):=fun X Y=>⟨rfl,by omega⟩
    have hnf : vs.flatMap vlC++[.bool x.2.reg,.int .i64 x.2.n] = (vs++[x.2]).flatMap vlC:=by rw [List.flatMap_append]; rfl
    have hnl : kk + 1 = (vs++[x.2]).length:=by rw [List.length_append,hvL]; rfl
    refine g_drawX [Ent.box p20 [.int .i64 (x.1 : Int),.bool x.2.reg,.int .i64 x.2.n] 117,Ent.box p12 [.slice (some ⟨zb,zo,none⟩) ps.length qc,.slice la xs.length lc,.int .i64 kd,.bool on.reg,.int .i64 on.n,.slice xa to.length xc] 43] (fun _ : Option Addr × Nat=>True) (fun y=>[(97,.int .i64 kk),(95,.slice (some ⟨rb,ro,none⟩) l'.length rc),(96,.int .i64 l'.length),(14,.pointer (some ⟨p14,0,none⟩)),(13,.int .i64 ei),(56,.int .i64 ei),(54,.slice (some ⟨zb,zo,none⟩) ps.length qc),(55,.int .i64 ps.length),(12,.pointer (some ⟨p12,0,none⟩)),(11,.int .i64 b),(44,.int .i64 i),(9,.slice na out.length nc),(5,.slice (some ⟨ta,0,none⟩) n n),(8,.slice aa n ac),(2,.pointer (some ⟨p2,0,none⟩)),(4,.pointer (some ⟨p4,0,none⟩)),(42,.slice oa m oc),(43,.int .i64 m)])
     (fun y=>Ent.vec y.1 (vs++[x.2]).length y.2 39 2 ((vs++[x.2]).flatMap vlC)::Ent.vec (some ⟨rb,ro,none⟩) l'.length rc 117 3 (l'.flatMap fvC)::Ent.vec (some ⟨zb,zo,none⟩) ps.length qc 62 2 (((es++[(⟨pd,y.1,y.2,vs++[x.2]⟩ : PRow)])++ps.drop (ei + 1)).flatMap phiC)::Ent.box p12 [.slice (some ⟨zb,zo,none⟩) ps.length qc,.slice la xs.length lc,.int .i64 kd,.bool on.reg,.int .i64 on.n,.slice xa to.length xc] 43::Ent.box p2 [.string nm,.int .i64 pa,.int .i64 re,.slice (some ⟨vb,vo,none⟩) n c] 33::Ent.box p4 [.string ByteArray.empty,.int .i64 0,.int .i64 0,.slice none 0 0] 33::Ent.vec (some ⟨vb,vo,none⟩) n c 43 6 (bs.flatMap blkC)::Ent.vec na out.length nc 43 6 (out.flatMap blkC)::((es++ps.drop (ei + 1)).map phE++(rpE (⟨some ⟨zb,zo,none⟩,qc,ps,la,lc,xs,kd,on,xa,xc,to⟩ : BRow)++(rs.eraseIdx b).map blkE))) mixed (by first|exact .cons_cons _ (.cons _ (.cons _ (.cons _ (.cons_cons _ (List.nil_sublist _)))))|exact .cons _ (.cons_cons _ (.cons _ (.cons _ (.cons _ (.cons_cons _ (List.nil_sublist _))))))) ?_ fun y _=>?_
    ·skip
     refine h_take 0 rfl (by decide +kernel) (by first|exact .cons_cons _ (.cons _ (.cons _ (.cons _ (.cons_cons _ (List.nil_sublist _)))))|exact .cons _ (.cons_cons _ (.cons _ (.cons _ (.cons _ (.cons_cons _ (List.nil_sublist _))))))) ?_
     refine h_take 1 rfl (by decide +kernel) (by first|exact .cons_cons _ (.cons _ (.cons _ (.cons _ (.cons_cons _ (List.nil_sublist _)))))|exact .cons _ (.cons_cons _ (.cons _ (.cons _ (.cons _ (.cons_cons _ (List.nil_sublist _))))))) ?_
     refine h_take 2 rfl (by decide +kernel) (by first|exact .cons_cons _ (.cons _ (.cons _ (.cons _ (.cons_cons _ (List.nil_sublist _)))))|exact .cons _ (.cons_cons _ (.cons _ (.cons _ (.cons _ (.cons_cons _ (List.nil_sublist _))))))) ?_
     refine h_take 3 rfl (by decide +kernel) (by first|exact .cons_cons _ (.cons _ (.cons _ (.cons _ (.cons_cons _ (List.nil_sublist _)))))|exact .cons _ (.cons_cons _ (.cons _ (.cons _ (.cons _ (.cons_cons _ (List.nil_sublist _))))))) ?_
     refine h_take 4 rfl (by decide +kernel) (by first|exact .cons_cons _ (.cons _ (.cons _ (.cons _ (.cons_cons _ (List.nil_sublist _)))))|exact .cons _ (.cons_cons _ (.cons _ (.cons _ (.cons _ (.cons_cons _ (List.nil_sublist _))))))) ?_
     refine h_take 5 rfl (by decide +kernel) (by first|exact .cons_cons _ (.cons _ (.cons _ (.cons _ (.cons_cons _ (List.nil_sublist _)))))|exact .cons _ (.cons_cons _ (.cons _ (.cons _ (.cons _ (.cons_cons _ (List.nil_sublist _))))))) ?_
     refine h_take 6 rfl (by decide +kernel) (by first|exact .cons_cons _ (.cons _ (.cons _ (.cons _ (.cons_cons _ (List.nil_sublist _)))))|exact .cons _ (.cons_cons _ (.cons _ (.cons _ (.cons _ (.cons_cons _ (List.nil_sublist _))))))) ?_
     refine h_take 7 rfl (by decide +kernel) (by first|exact .cons_cons _ (.cons _ (.cons _ (.cons _ (.cons_cons _ (List.nil_sublist _)))))|exact .cons _ (.cons_cons _ (.cons _ (.cons _ (.cons _ (.cons_cons _ (List.nil_sublist _))))))) ?_
     refine h_take 9 rfl (by decide +kernel) (by first|exact .cons_cons _ (.cons _ (.cons _ (.cons _ (.cons_cons _ (List.nil_sublist _)))))|exact .cons _ (.cons_cons _ (.cons _ (.cons _ (.cons _ (.cons_cons _ (List.nil_sublist _))))))) ?_
     refine h_take 10 rfl (by decide +kernel) (by first|exact .cons_cons _ (.cons _ (.cons _ (.cons _ (.cons_cons _ (List.nil_sublist _)))))|exact .cons _ (.cons_cons _ (.cons _ (.cons _ (.cons _ (.cons_cons _ (List.nil_sublist _))))))) ?_
     refine h_two 8 11 (by decide +kernel) ?_ ?_
     ·refine o_op 8 rfl (by first|exact .cons_cons _ (.cons _ (.cons _ (.cons _ (.cons_cons _ (List.nil_sublist _)))))|exact .cons _ (.cons_cons _ (.cons _ (.cons _ (.cons _ (.cons_cons _ (List.nil_sublist _))))))) ?_
      refine h_build1 11 rfl (by decide +kernel) (by decide +kernel) (by first|exact .cons_cons _ (.cons _ (.cons _ (.cons _ (.cons_cons _ (List.nil_sublist _)))))|exact .cons _ (.cons_cons _ (.cons _ (.cons _ (.cons _ (.cons_cons _ (List.nil_sublist _))))))) fun nb _=>?_
      refine h_append 12 2 rfl rfl (by decide +kernel) (by omega) (by omega) (by decide +kernel) (fun _=>(by first|exact .cons_cons _ (.cons _ (.cons _ (.cons _ (.cons_cons _ (List.nil_sublist _)))))|exact .cons _ (.cons_cons _ (.cons _ (.cons _ (.cons _ (.cons_cons _ (List.nil_sublist _)))))))) fun ya yc=>?_
      rw [hnl,hnf]
      simp only [List.set_cons_succ,List.set_cons_zero]
      have hxs':=hxs ya yc
      refine h_take 13 rfl (by decide +kernel) (by first|exact .cons_cons _ (.cons _ (.cons _ (.cons _ (.cons_cons _ (List.nil_sublist _)))))|exact .cons _ (.cons_cons _ (.cons _ (.cons _ (.cons _ (.cons_cons _ (List.nil_sublist _))))))) ?_
      refine h_take 14 rfl (by decide +kernel) (by first|exact .cons_cons _ (.cons _ (.cons _ (.cons _ (.cons_cons _ (List.nil_sublist _)))))|exact .cons _ (.cons_cons _ (.cons _ (.cons _ (.cons _ (.cons_cons _ (List.nil_sublist _))))))) ?_
      refine h_storeV 15 (by decide +kernel) (by decide +kernel) (by first|exact .cons_cons _ (.cons _ (.cons _ (.cons _ (.cons_cons _ (List.nil_sublist _)))))|exact .cons _ (.cons_cons _ (.cons _ (.cons _ (.cons _ (.cons_cons _ (List.nil_sublist _))))))) ?_
      exact g_mem (ya,yc) trivial (by repeat (first|exact trivial|refine ⟨rfl,?_⟩)) (.cons _ (.cons _ (.refl _)))
     ·refine o_build1 11 rfl (by decide +kernel) (by first|exact .cons_cons _ (.cons _ (.cons _ (.cons _ (.cons_cons _ (List.nil_sublist _)))))|exact .cons _ (.cons_cons _ (.cons _ (.cons _ (.cons _ (.cons_cons _ (List.nil_sublist _))))))) fun nb _=>?_
      refine h_one 8 (by decide +kernel) (o_op 8 rfl (by first|exact .cons_cons _ (.cons _ (.cons _ (.cons _ (.cons_cons _ (List.nil_sublist _)))))|exact .cons _ (.cons_cons _ (.cons _ (.cons _ (.cons _ (.cons_cons _ (List.nil_sublist _))))))) ?_)
      refine h_append 12 2 rfl rfl (by decide +kernel) (by omega) (by omega) (by decide +kernel) (fun _=>(by first|exact .cons_cons _ (.cons _ (.cons _ (.cons _ (.cons_cons _ (List.nil_sublist _)))))|exact .cons _ (.cons_cons _ (.cons _ (.cons _ (.cons _ (.cons_cons _ (List.nil_sublist _)))))))) fun ya yc=>?_
      rw [hnl,hnf]
      simp only [List.set_cons_succ,List.set_cons_zero]
      have hxs':=hxs ya yc
      refine h_take 13 rfl (by decide +kernel) (by first|exact .cons_cons _ (.cons _ (.cons _ (.cons _ (.cons_cons _ (List.nil_sublist _)))))|exact .cons _ (.cons_cons _ (.cons _ (.cons _ (.cons _ (.cons_cons _ (List.nil_sublist _))))))) ?_
      refine h_take 14 rfl (by decide +kernel) (by first|exact .cons_cons _ (.cons _ (.cons _ (.cons _ (.cons_cons _ (List.nil_sublist _)))))|exact .cons _ (.cons_cons _ (.cons _ (.cons _ (.cons _ (.cons_cons _ (List.nil_sublist _))))))) ?_
      refine h_storeV 15 (by decide +kernel) (by decide +kernel) (by first|exact .cons_cons _ (.cons _ (.cons _ (.cons _ (.cons_cons _ (List.nil_sublist _)))))|exact .cons _ (.cons_cons _ (.cons _ (.cons _ (.cons _ (.cons_cons _ (List.nil_sublist _))))))) ?_
      exact g_mem (ya,yc) trivial (by repeat (first|exact trivial|refine ⟨rfl,?_⟩)) (.cons _ (.cons _ (.refl _)))
    ·obtain ⟨ya,yc⟩:=y
     repeat (first|refine g_then ?_|refine g_nil ?_|refine g_region ?_|refine g_opS rfl ?_|refine g_inBlock ?_|refine g_add rfl (by omega) (by omega) ?_)
     exact g_next (vs++[x.2],ya,yc) ⟨by rw [← hnl]; omega,by rw [← hnl,List.take_add_one,hxQ,← hk2]; rfl⟩ (by rw [← hnl]; simp only; omega) (by simp only [← hnl]; repeat (first|exact trivial|refine ⟨rfl,?_⟩)) (.refl _)
   ·have hvl : vs.length = Q.length:=by have:=of_decide_eq_false h4; omega
    have hvQ : vs = Q:=by rw [hk2,hvl,List.take_length]
    subst hvQ
    repeat (first|refine g_then ?_|refine g_nil ?_|refine g_region ?_|refine g_opS rfl ?_|refine g_inBlock ?_|refine g_add rfl (by omega) (by omega) ?_|refine g_exit ?_|refine g_thenExit ?_|refine g_exitHere ?_)
    have hl1 : (es++[(⟨pd,fa,fc,vs⟩ : PRow)]).length = ei + 1:=by simp [hiL]
    refine g_wd (H':=Ent.vec (some ⟨zb,zo,none⟩) ps.length qc 62 2 (((es++[(⟨pd,fa,fc,vs⟩ : PRow)])++ps.drop (es++[(⟨pd,fa,fc,vs⟩ : PRow)]).length).flatMap phiC)::Ent.box p12 [.slice (some ⟨zb,zo,none⟩) ps.length qc,.slice la xs.length lc,.int .i64 kd,.bool on.reg,.int .i64 on.n,.slice xa to.length xc] 43::Ent.box p2 [.string nm,.int .i64 pa,.int .i64 re,.slice (some ⟨vb,vo,none⟩) n c] 33::Ent.box p4 [.string ByteArray.empty,.int .i64 0,.int .i64 0,.slice none 0 0] 33::Ent.vec (some ⟨vb,vo,none⟩) n c 43 6 (bs.flatMap blkC)::Ent.vec na out.length nc 43 6 (out.flatMap blkC)::(((es++[(⟨pd,fa,fc,vs⟩ : PRow)])++ps.drop (es++[(⟨pd,fa,fc,vs⟩ : PRow)]).length).map phE++(rpE (⟨some ⟨zb,zo,none⟩,qc,ps,la,lc,xs,kd,on,xa,xc,to⟩ : BRow)++(rs.eraseIdx b).map blkE))) (fun w hw=>?_) ?_
    ·refine hw.pick ⟨[Ent.vec ra l'.length rc 117 3 (l'.flatMap fvC)],List.perm_iff_count.2 fun e=>?_⟩
     have e2 : phE (⟨pd,fa,fc,vs⟩ : PRow) = Ent.vec fa vs.length fc 39 2 (vs.flatMap vlC):=rfl
     rw [hl1]
     simp only [List.map_append,List.map_cons,List.map_nil,List.count_append,List.count_cons,List.count_nil,e2]
     omega
    refine g_next (es++[(⟨pd,fa,fc,vs⟩ : PRow)]) ⟨by rw [hl1]; omega,?_,fun q hq=>?_⟩ (by rw [hl1]; omega) (by simp only [hl1]; repeat (first|exact trivial|refine ⟨rfl,?_⟩)) (.refl _)
    ·rw [hl1,List.take_add_one,hq,List.map_append,List.map_append,hem]
     simp only [Option.toList_some,List.map_cons,List.map_nil,PRow.phi,List.append_cancel_left_eq,List.cons.injEq,and_true]
     rw [hQd,hQ]
     rfl
    ·rcases List.mem_append.1 hq with hq|hq
     ·exact heb q hq
     ·rw [List.mem_singleton.1 hq]
      refine ⟨hqd,by rw [hQl]; omega,fun v hv=>?_⟩
      rw [hQd] at hv
      rw [hQ] at hv
      unfold keepPhi at hv
      obtain ⟨y,hy,rfl⟩:=List.mem_map.1 hv
      have hy2:=(List.mem_filter.1 hy).2
      exact hqv _ (srcAt_mem (R:=R) (p:=⟨pd,pl⟩) hpl (by simpa using hy2))
  have hge : es.length = ps.length:=by have:=of_decide_eq_false h2; omega
  rw [hge,List.drop_length,List.append_nil]
  rw [hge,List.take_length] at hem
  refine g_permH (H1:=Ent.vec xa to.length xc 3 1 (to.map (.int .i64))::Ent.vec qa ps.length qc 62 2 (es.flatMap phiC)::Ent.box p12 [.slice qa ps.length qc,.slice la xs.length lc,.int .i64 kd,.bool on.reg,.int .i64 on.n,.slice xa to.length xc] 43::Ent.box p2 [.string nm,.int .i64 pa,.int .i64 re,.slice (some ⟨vb,vo,none⟩) n c] 33::Ent.box p4 [.string ByteArray.empty,.int .i64 0,.int .i64 0,.slice none 0 0] 33::Ent.vec (some ⟨vb,vo,none⟩) n c 43 6 (bs.flatMap blkC)::Ent.vec na out.length nc 43 6 (out.flatMap blkC)::(es.map phE++(Ent.vec la xs.length lc 66 8 (xs.flatMap rowC)::(xs.map roE++(rs.eraseIdx b).map blkE)))) (List.perm_iff_count.2 fun e=>?_) ?_
  ·unfold rpE toE
   simp only [List.count_append,List.count_cons]
   omega
  obtain ⟨tos,htos⟩ : ∃ tos : Nat→List Int,tos = fun k=>(to.take k).map (fun t=>((o.idxOf t.toNat : Nat) : Int))++to.drop k:=⟨_,rfl⟩
  have htosl : ∀ k,(tos k).length = to.length:=fun k=>by rw [htos]; simp; omega
  have htos0 : tos 0 = to:=by rw [htos]; simp
  rw [show Ent.vec xa to.length xc 3 1 (to.map (.int .i64)) = Ent.vec xa to.length xc 3 1 ((tos 0).map (.int .i64)) by rw [htos0]]
  repeat (first|refine g_op rfl ?_|refine g_then ?_|refine g_nil ?_|refine g_region ?_|refine g_seq ?_|refine g_block ?_|refine g_exit ?_|refine g_thenExit ?_|refine g_exitHere ?_)
  refine g_loop (fun (k : Nat)=>k ≤ to.length) (fun k=>[(122,.int .i64 k),(120,.slice xa to.length xc),(121,.int .i64 to.length),(12,.pointer (some ⟨p12,0,none⟩)),(11,.int .i64 b),(44,.int .i64 i),(9,.slice na out.length nc),(5,.slice (some ⟨ta,0,none⟩) n n),(8,.slice aa n ac),(2,.pointer (some ⟨p2,0,none⟩)),(4,.pointer (some ⟨p4,0,none⟩)),(42,.slice oa m oc),(43,.int .i64 m)]) (fun k=>Ent.vec xa to.length xc 3 1 ((tos k).map (.int .i64))::Ent.vec qa ps.length qc 62 2 (es.flatMap phiC)::Ent.box p12 [.slice qa ps.length qc,.slice la xs.length lc,.int .i64 kd,.bool on.reg,.int .i64 on.n,.slice xa to.length xc] 43::Ent.box p2 [.string nm,.int .i64 pa,.int .i64 re,.slice (some ⟨vb,vo,none⟩) n c] 33::Ent.box p4 [.string ByteArray.empty,.int .i64 0,.int .i64 0,.slice none 0 0] 33::Ent.vec (some ⟨vb,vo,none⟩) n c 43 6 (bs.flatMap blkC)::Ent.vec na out.length nc 43 6 (out.flatMap blkC)::(es.map phE++(Ent.vec la xs.length lc 66 8 (xs.flatMap rowC)::(xs.map roE++(rs.eraseIdx b).map blkE)))) (fun k=>to.length - k) 0 (Nat.zero_le _) (g_done (by repeat (first|exact trivial|refine ⟨rfl,?_⟩)) (.refl _)) fun k hk3=>?_
  repeat (first|refine g_op rfl ?_|refine g_then ?_|refine g_nil ?_|refine g_region ?_|refine g_seq ?_)
  refine g_cond (fun h3=>?_) (fun h3=>?_)
  ·have hkl : k < to.length:=by simpa using h3
   obtain ⟨x,hx⟩ : ∃ x,to[k]? = some x:=⟨_,List.getElem?_eq_getElem hkl⟩
   have hxe : x ∈ toOf bl b:=by rw [toOf_get hblB]; exact List.mem_of_getElem? hx
   have hxo:=hk.closed b (List.mem_of_getElem? hb) x (by rw [← hbl]; exact hxe)
   have hx2:=edge_of (by rw [hbl]; exact hg) hxe
   obtain ⟨xn,rfl⟩ : ∃ xn : Nat,x = xn:=⟨x.toNat,by omega⟩
   rw [Int.toNat_natCast] at hxo
   refine g_vec 0 rfl (by omega) fun yb yo hya=>?_
   subst hya
   have hlk : LtIs k to.length:=⟨hkl⟩
   have hlx : LtIs xn n:=⟨by omega⟩
   have hxat : XAt ((tos k).map (.int .i64)) (k * 1) (.int .i64 (xn : Int)):=⟨by
    rw [Nat.mul_one,List.getElem?_map,htos]
    simp only
    rw [List.getElem?_append_right (by simp; omega),List.length_map,List.length_take,Nat.min_eq_left (by omega),Nat.sub_self,List.getElem?_drop,Nat.add_zero,hx]
    rfl⟩
   have hdrop : to.drop k = (xn : Int)::to.drop (k + 1):=by rw [List.drop_eq_getElem_cons hkl,(List.getElem?_eq_some_iff.1 hx).2]
   have hset : (tos k).set k ((o.idxOf xn : Nat) : Int) = tos (k + 1):=by
    rw [htos]
    simp only
    rw [List.set_append_right _ _ (by simp; omega),List.length_map,List.length_take,Nat.min_eq_left (by omega),Nat.sub_self,hdrop,List.set_cons_zero,List.take_add_one,hx,List.map_append]
    simp
   have hxs : XSet ((tos k).map (.int .i64)) (k * 1) (.int .i64 ((o.idxOf xn : Nat) : Int)) ((tos (k + 1)).map (.int .i64)):=⟨by
    rw [Nat.mul_one,← List.map_set,hset],by rw [List.length_map,htosl]; omega⟩
   obtain ⟨_,hci5,rfl,_⟩:=hel5 xn _ (atL_get (by omega))
   rw [if_pos hxo] at hci5
   repeat (first|refine g_op rfl ?_|refine g_then ?_|refine g_nil ?_|refine g_region ?_|refine g_seq ?_|refine g_block ?_|refine g_skip ?_)
   refine g_drawX [Ent.box p12 [.slice qa ps.length qc,.slice la xs.length lc,.int .i64 kd,.bool on.reg,.int .i64 on.n,.slice (some ⟨yb,yo,none⟩) to.length xc] 43] (fun _ : Unit=>True) (fun _=>[(122,.int .i64 k),(120,.slice (some ⟨yb,yo,none⟩) to.length xc),(121,.int .i64 to.length),(12,.pointer (some ⟨p12,0,none⟩)),(11,.int .i64 b),(44,.int .i64 i),(9,.slice na out.length nc),(5,.slice (some ⟨ta,0,none⟩) n n),(8,.slice aa n ac),(2,.pointer (some ⟨p2,0,none⟩)),(4,.pointer (some ⟨p4,0,none⟩)),(42,.slice oa m oc),(43,.int .i64 m)]) (fun _=>Ent.vec (some ⟨yb,yo,none⟩) to.length xc 3 1 ((tos (k + 1)).map (.int .i64))::Ent.vec qa ps.length qc 62 2 (es.flatMap phiC)::Ent.box p12 [.slice qa ps.length qc,.slice la xs.length lc,.int .i64 kd,.bool on.reg,.int .i64 on.n,.slice (some ⟨yb,yo,none⟩) to.length xc] 43::Ent.box p2 [.string nm,.int .i64 pa,.int .i64 re,.slice (some ⟨vb,vo,none⟩) n c] 33::Ent.box p4 [.string ByteArray.empty,.int .i64 0,.int .i64 0,.slice none 0 0] 33::Ent.vec (some ⟨vb,vo,none⟩) n c 43 6 (bs.flatMap blkC)::Ent.vec na out.length nc 43 6 (out.flatMap blkC)::(es.map phE++(Ent.vec la xs.length lc 66 8 (xs.flatMap rowC)::(xs.map roE++(rs.eraseIdx b).map blkE)))) mixed (.cons _ (.cons _ (.cons_cons _ (List.nil_sublist _)))) ?_ fun _ _=>?_
   ·skip
    refine h_take 0 rfl (by decide +kernel) (.cons _ (.cons _ (.cons_cons _ (List.nil_sublist _)))) ?_
    refine h_take 1 rfl (by decide +kernel) (.cons _ (.cons _ (.cons_cons _ (List.nil_sublist _)))) ?_
    refine h_take 2 rfl (by decide +kernel) (.cons _ (.cons _ (.cons_cons _ (List.nil_sublist _)))) ?_
    refine h_take 3 rfl (by decide +kernel) (.cons _ (.cons _ (.cons_cons _ (List.nil_sublist _)))) ?_
    refine h_take 4 rfl (by decide +kernel) (.cons _ (.cons _ (.cons_cons _ (List.nil_sublist _)))) ?_
    refine h_take 5 rfl (by decide +kernel) (.cons _ (.cons _ (.cons_cons _ (List.nil_sublist _)))) ?_
    refine h_take 6 rfl (by decide +kernel) (.cons _ (.cons _ (.cons_cons _ (List.nil_sublist _)))) ?_
    refine h_take 7 rfl (by decide +kernel) (.cons _ (.cons _ (.cons_cons _ (List.nil_sublist _)))) ?_
    refine h_take 8 rfl (by decide +kernel) (.cons _ (.cons _ (.cons_cons _ (List.nil_sublist _)))) ?_
    refine h_storeV 9 (by decide +kernel) (by decide +kernel) (.cons _ (.cons _ (.cons_cons _ (List.nil_sublist _)))) ?_
    exact g_mem () trivial (by repeat (first|exact trivial|refine ⟨rfl,?_⟩)) (.refl _)
   ·repeat (first|refine g_then ?_|refine g_nil ?_|refine g_region ?_|refine g_opS rfl ?_|refine g_inBlock ?_|refine g_add rfl (by omega) (by omega) ?_)
    exact g_next (k + 1) (by omega) (by omega) (by repeat (first|exact trivial|refine ⟨rfl,?_⟩)) (.refl _)
  ·obtain rfl : k = to.length:=by have:=of_decide_eq_false h3; omega
   have hkeep : (tos to.length) = (keepB bl o b ((⟨qa,qc,ps,la,lc,xs,kd,on,xa,xc,to⟩ : BRow)).blk).to:=by
    rw [htos]
    simp only [List.take_length,List.drop_length,List.append_nil]
    rfl
   obtain ⟨tn,htn⟩ : ∃ tn,tn = tos to.length:=⟨_,rfl⟩
   rw [← htn] at hkeep ⊢
   have htnl : tn.length = to.length:=by rw [htn,htosl]
   obtain ⟨B',hB'⟩ : ∃ B' : BRow,B' = ⟨qa,qc,es,la,lc,xs,kd,on,xa,xc,tn⟩:=⟨_,rfl⟩
   have hbC : blkC B' = [.slice qa ps.length qc,.slice la xs.length lc,.int .i64 kd,.bool on.reg,.int .i64 on.n,.slice xa to.length xc]:=by rw [hB']; simp only [blkC,hge,htnl]
   have hblk' : B'.blk = keepB bl o b (blkAt bl b):=by
    rw [blkAt_get hblB,hB']
    unfold BRow.blk keepB
    simp only [hem,hkeep,List.map_map]
    rfl
   have hBd' : B'.Bd:=by
    rw [hB']
    refine ⟨hBd.kind,hBd.on,by rw [hge]; exact hpsl,heb,hBd.list,hBd.ins,by rw [htnl]; exact htol,fun t ht=>?_⟩
    rw [hkeep] at ht
    obtain ⟨y,hy,rfl⟩:=List.mem_map.1 ht
    have:=List.idxOf_le_length (a:=y.toNat) (l:=o)
    exact ⟨by omega,by omega⟩
   have hoi:=hst.olen
   repeat (first|refine g_op rfl ?_|refine g_then ?_|refine g_region ?_|refine g_exit ?_|refine g_thenExit ?_|refine g_exitHere ?_|refine g_build1 rfl rfl fun _ _=>?_)
   refine g_append rfl rfl (by omega) (by omega) fun na' nc'=>?_
   rw [← hbC,show out.length + 1 = (out++[B']).length by simp,show out.flatMap blkC++blkC B' = (out++[B']).flatMap blkC by rw [List.flatMap_append]; simp]
   repeat (first|refine g_then ?_|refine g_nil ?_|refine g_region ?_|refine g_opS rfl ?_|refine g_inBlock ?_|refine g_add rfl (by omega) (by omega) ?_)
   rename_i nb _
   have e1 : blkPs B' = Ent.vec qa ps.length qc 62 2 (es.flatMap phiC)::Ent.vec la xs.length lc 66 8 (xs.flatMap rowC)::Ent.vec xa to.length xc 3 1 (tn.map (.int .i64))::(es.map phE++xs.map roE):=by rw [hB']; simp only [blkPs,hge,htnl]
   refine g_wd (H':=blkPs B'++(Ent.box p2 [.string nm,.int .i64 pa,.int .i64 re,.slice (some ⟨vb,vo,none⟩) n c] 33::Ent.box p4 [.string ByteArray.empty,.int .i64 0,.int .i64 0,.slice none 0 0] 33::Ent.vec (some ⟨vb,vo,none⟩) n c 43 6 (bs.flatMap blkC)::Ent.vec na' (out++[B']).length nc' 43 6 ((out++[B']).flatMap blkC)::(rs.eraseIdx b).map blkE)) (fun w hw=>?_) ?_
   ·refine hw.pick ⟨[Ent.vec (some ⟨nb,0,none⟩) 1 1 43 6 (blkC B'),Ent.box p12 (blkC B') 43],List.perm_iff_count.2 fun e=>?_⟩
    rw [e1]
    simp only [List.count_append,List.count_cons,List.count_nil]
    omega
   refine g_joinH ?_
   have hset : (rs.set b B')[b]? = some B':=List.getElem?_set_self (by rw [hst.rlen]; omega)
   have hpull2:=map_pull blkE hset
   rw [List.eraseIdx_set_eq] at hpull2
   refine g_permH (H1:=Ent.box p2 [.string nm,.int .i64 pa,.int .i64 re,.slice (some ⟨vb,vo,none⟩) n c] 33::Ent.box p4 [.string ByteArray.empty,.int .i64 0,.int .i64 0,.slice none 0 0] 33::Ent.vec (some ⟨vb,vo,none⟩) n c 43 6 (bs.flatMap blkC)::Ent.vec na' (out++[B']).length nc' 43 6 ((out++[B']).flatMap blkC)::(rs.set b B').map blkE) (List.perm_iff_count.2 fun e=>?_) ?_
   ·have:=List.perm_iff_count.1 hpull2 e
    unfold blkE at this ⊢
    simp only [List.count_cons] at this ⊢
    omega
   exact g_next (i + 1,rs.set b B',out++[B'],na',nc') ⟨by omega,hst.step hk.nodup hb (by omega) hblk' hBd'⟩ (by simp only; omega) (by repeat (first|exact trivial|refine ⟨rfl,?_⟩)) (.refl _)
 ·obtain rfl : i = m:=by have:=of_decide_eq_false h1; omega
  repeat (first|refine g_op rfl ?_|refine g_then ?_|refine g_nil ?_|refine g_region ?_|refine g_seq ?_|refine g_store ?_|refine g_storeAgg ?_|refine g_exit ?_|refine g_thenExit ?_|refine g_exitHere ?_|refine g_ret ?_)
  rw [hm] at hst
  obtain ⟨hd1,hd2,rest,hd3⟩:=hst.done hk.nodup fun b hb=>by have:=hk.lt b hb; rw [List.length_map] at this; exact this
  refine g_retC rfl fun w hw=>⟨(na,nc,out),rfl,?_,by rw [← hbl]; exact hd1,hd2⟩
  have h9:=back hw
  simp only [List.cons_append,List.nil_append] at h9
  refine h9.pick ⟨[Ent.box p2 [.string nm,.int .i64 pa,.int .i64 re,.slice na out.length nc] 33,Ent.box p4 [.string nm,.int .i64 pa,.int .i64 re,.slice na out.length nc] 33,Ent.vec (some ⟨vb,vo,none⟩) n c 43 6 (bs.flatMap blkC),Ent.vec (some ⟨ta,0,none⟩) n n 3 1 ((atL n o).map (.int .i64)),(⟨af,fun w=>SlAt w (.slice aa n ac) 1 (aheadL bl) RowV⟩ : Ent)]++rest.map blkE,List.perm_iff_count.2 fun e=>?_⟩
  have h10:=List.perm_iff_count.1 (hd3.map blkE) e
  unfold fnE
  simp only [List.map_append,List.count_append,List.count_cons,List.count_nil] at h10 ⊢
  omega
end Go.Proofs.YtpadjpplidlfeaaDoor

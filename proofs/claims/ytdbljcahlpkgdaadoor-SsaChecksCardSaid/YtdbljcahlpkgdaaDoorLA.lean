/- Texts joined: SsaP RepB RangeX. -/
import Derived.Test.YtdbljcahlpkgdaaDoorGF
import Derived.Test.YtdbljcahlpkgdaaDoorGG
import Derived.Test.YtdbljcahlpkgdaaDoorHA
namespace Go.Proofs.YtdbljcahlpkgdaaDoor
open Go Go.RowKit
structure Wr where
 reg : Int
 block : Nat
 at' : Int
def phisW (i : Nat) (l : List LPhi) : List Wr:=l.map fun p=>⟨p.dst,i,-1⟩
def listW (i : Nat) (l : List LIns) (j : Nat) : List Wr:=match l with
 | []=>[]
 | x::l=>(if x.dst < 0 then [] else [⟨x.dst,i,j⟩])++listW i l (j + 1)
def blockW (i : Nat) (B : LBlock) : List Wr:=phisW i B.phis++listW i B.list 0
def blocksW (l : List LBlock) (i : Nat) : List Wr:=match l with
 | []=>[]
 | B::l=>blockW i B++blocksW l (i + 1)
def paramsW (n : Nat) : List Wr:=(List.range n).map fun r : Nat=>⟨r,0,-1⟩
def allW (n : Nat) (bl : List LBlock) : List Wr:=paramsW n++blocksW bl 0
theorem listW_append (i : Nat) (l m : List LIns) : ∀ j,listW i (l++m) j = listW i l j++listW i m (j + l.length):=by
 induction l with
 | nil=>intro j; rfl
 | cons x l ih=>intro j; simp only [List.cons_append,listW,ih,List.append_assoc,List.length_cons]; rw [Nat.add_right_comm j 1,Nat.add_assoc]
theorem blocksW_append (l m : List LBlock) : ∀ i,blocksW (l++m) i = blocksW l i++blocksW m (i + l.length):=by
 induction l with
 | nil=>intro j; rfl
 | cons x l ih=>intro j; simp only [List.cons_append,blocksW,ih,List.append_assoc,List.length_cons]; rw [Nat.add_right_comm j 1,Nat.add_assoc]
theorem take_get {α : Type} {l : List α} {i : Nat} {x : α} (h : l[i]? = some x) : l.take (i + 1) = l.take i++[x]:=by rw [List.take_add_one,h]; rfl
theorem listW_take {i : Nat} {l : List LIns} {j : Nat} {x : LIns} (h : l[j]? = some x) : listW i (l.take (j + 1)) 0 = listW i (l.take j) 0++(if x.dst < 0 then [] else [⟨x.dst,i,j⟩]):=by
 have hj : j < l.length:=(List.getElem?_eq_some_iff.1 h).1
 rw [take_get h,listW_append]
 simp [listW,Nat.min_eq_left (Nat.le_of_lt hj)]
theorem phisW_take {i : Nat} {l : List LPhi} {j : Nat} {p : LPhi} (h : l[j]? = some p) : phisW i (l.take (j + 1)) = phisW i (l.take j)++[⟨p.dst,i,-1⟩]:=by
 rw [take_get h]; simp [phisW]
theorem blocksW_take {l : List LBlock} {j : Nat} {B : LBlock} (h : l[j]? = some B) : blocksW (l.take (j + 1)) 0 = blocksW (l.take j) 0++blockW j B:=by
 have hj : j < l.length:=(List.getElem?_eq_some_iff.1 h).1
 rw [take_get h,blocksW_append]
 simp [blocksW,Nat.min_eq_left (Nat.le_of_lt hj)]
def writesOf (W : List Wr) (r : Int) : List Wr:=W.filter fun w=>decide (w.reg = r)
theorem writesOf_append (W V : List Wr) (r : Int) : writesOf (W++V) r = writesOf W r++writesOf V r:=List.filter_append ..
def byR (W : List Wr) (r : Nat) : Int × Int:=match writesOf W r with
 | []=>(-1,-1)
 | w::_=>((w.block : Int),w.at')
def onceB (W : List Wr) (R : Nat) : Bool:=decide (∀ r : Nat,r < R→(writesOf W r).length ≤ 1)
theorem byR_add {W : List Wr} {w : Wr} {r : Nat} : byR (W++[w]) r = if (byR W r).1 < 0∧w.reg = r then ((w.block : Int),w.at') else byR W r:=by
 unfold byR
 rw [writesOf_append]
 cases h : writesOf W r with
 | nil =>
  simp only [List.nil_append]
  by_cases e : w.reg = r
  ·simp [writesOf,e]
  ·simp [writesOf,e]
 | cons v l =>
  simp only [List.cons_append]
  rw [if_neg (by omega)]
theorem byR_none {W : List Wr} {r : Nat} : (byR W r).1 < 0 ↔ writesOf W r = []:=by
 unfold byR
 cases writesOf W r with
 | nil=>simp
 | cons v l=>simp
theorem once_add {W : List Wr} {w : Wr} {R r : Nat} (hw : w.reg = r) (hr : r < R) : onceB (W++[w]) R = (decide ((byR W r).1 < 0) && onceB W R):=by
 unfold onceB
 have key : ∀ s : Nat,writesOf (W++[w]) s = if s = r then writesOf W s++[w] else writesOf W s:=fun s=>by
  rw [writesOf_append]
  split
  ·rename_i h; subst h; simp [writesOf,hw]
  ·rename_i h; simp [writesOf,hw,show (r : Int) ≠ s by omega]
 by_cases h1 : (byR W r).1 < 0
 ·have h2:=byR_none.1 h1
  rw [decide_eq_true h1,Bool.true_and,decide_eq_decide]
  refine forall_congr' fun s=>?_
  rw [key]
  split
  ·rename_i h; subst h; rw [h2]; simp
  ·rfl
 ·rw [decide_eq_false h1,Bool.false_and]
  refine decide_eq_false fun h=>?_
  have:=h r hr
  rw [key,if_pos rfl,List.length_append,List.length_singleton] at this
  have h2 : writesOf W r ≠ []:=fun h=>h1 (byR_none.2 h)
  have:=List.length_pos_iff.2 h2
  omega
def KnownAt (bl : List LBlock) (W : List Wr) (v : LVal) (b : Nat) (i : Int) : Prop :=
 v.reg = true→∃ w rest,writesOf W v.n = w::rest∧(w.block = b→w.at' < i)∧(w.block ≠ b→Dom bl w.block b)
def PhiUse (bl : List LBlock) (W : List Wr) (b : Nat) (p : LPhi) (n : Nat) : Prop:=∀ (j a : Nat) v A,j < n→(preds bl b)[j]? = some a→p.src[j]? = some v→bl[a]? = some A→KnownAt bl W v a A.list.length
def InsUse (bl : List LBlock) (W : List Wr) (b i : Nat) (x : LIns) : Prop:=∀ v ∈ valsOf x,KnownAt bl W v b i
structure BlockUse (bl : List LBlock) (W : List Wr) (b : Nat) (B : LBlock) : Prop where
 phis : ∀ p ∈ B.phis,PhiUse bl W b p (preds bl b).length
 list : ∀ (i : Nat) x,B.list[i]? = some x→InsUse bl W b i x
 on : KnownAt bl W B.on b B.list.length
def UsesOk (bl : List LBlock) (W : List Wr) : Prop:=∀ (b : Nat) B,bl[b]? = some B→BlockUse bl W b B
open Classical in
noncomputable def wrongL (n R : Nat) (bl : List LBlock) : Int :=
 if ∃ b,b < bl.length∧¬ Rch bl (-1) 0 b then 5 else if onceB (allW n bl) R = false then 7 else if ¬ UsesOk bl (allW n bl) then 6 else 0
theorem phisW_mem {i : Nat} {l : List LPhi} {w : Wr} (h : w ∈ phisW i l) : w.block = i∧w.at' = -1∧∃ p ∈ l,p.dst = w.reg:=by
 obtain ⟨p,hp,rfl⟩:=List.mem_map.1 h
 exact ⟨rfl,rfl,p,hp,rfl⟩
theorem listW_mem {i : Nat} : ∀ {l : List LIns} {j : Nat} {w : Wr},w ∈ listW i l j→w.block = i∧(0 ≤ w.at'∧w.at' < j + l.length)∧∃ x ∈ l,x.dst = w.reg∧0 ≤ x.dst
 | [],j,w,h=>by cases h
 | x::l,j,w,h=>by
  simp only [listW,List.mem_append] at h
  rcases h with h|h
  ·split at h
   ·cases h
   ·rename_i hx
    simp only [List.mem_singleton] at h
    subst h
    exact ⟨rfl,⟨by simp only; omega,by simp only [List.length_cons]; omega⟩,x,by simp,rfl,by omega⟩
  ·obtain ⟨h1,h2,y,hy,h3⟩:=listW_mem h
   exact ⟨h1,⟨h2.1,by simp only [List.length_cons]; omega⟩,y,List.mem_cons_of_mem _ hy,h3⟩
theorem blocksW_mem : ∀ {l : List LBlock} {j : Nat} {w : Wr},w ∈ blocksW l j→∃ (i : Nat) (B : LBlock),l[i]? = some B∧w ∈ blockW (j + i) B
 | [],j,w,h=>by cases h
 | B::l,j,w,h=>by
  simp only [blocksW,List.mem_append] at h
  rcases h with h|h
  ·exact ⟨0,B,rfl,h⟩
  ·obtain ⟨i,C,h1,h2⟩:=blocksW_mem h
   exact ⟨i + 1,C,h1,by rw [show j + (i + 1) = j + 1 + i by omega]; exact h2⟩
structure WrOk (R : Nat) (bl : List LBlock) (w : Wr) : Prop where
 reg : 0 ≤ w.reg∧w.reg < R
 block : w.block < bl.length
 at' : -1 ≤ w.at'∧w.at' ≤ 1000
theorem allW_ok {R n : Nat} {bl : List LBlock} (hf : FuncOk R bl) (hn : n ≤ R) (hpos : 0 < bl.length) (hlist : ∀ B ∈ bl,B.list.length ≤ 1000) {w : Wr} (h : w ∈ allW n bl) : WrOk R bl w:=by
 rcases List.mem_append.1 h with h|h
 ·obtain ⟨r,hr,rfl⟩:=List.mem_map.1 h
  have:=List.mem_range.1 hr
  exact ⟨by simp only; omega,hpos,by simp⟩
 ·obtain ⟨i,B,hB,hw⟩:=blocksW_mem h
  have hi:=(List.getElem?_eq_some_iff.1 hB).1
  have ho:=hf.block i B hB
  rw [Nat.zero_add] at hw
  rcases List.mem_append.1 hw with hw|hw
  ·obtain ⟨h1,h2,p,hp,h3⟩:=phisW_mem hw
   exact ⟨by rw [← h3]; exact (ho.phis p hp).dst,by omega,by omega⟩
  ·obtain ⟨h1,h2,x,hx,h3,h4⟩:=listW_mem hw
   have:=hlist B (List.mem_of_getElem? hB)
   exact ⟨by rw [← h3]; exact ⟨h4,(ho.list x hx).dst h4⟩,by omega,by omega⟩
end Go.Proofs.YtdbljcahlpkgdaaDoor
namespace Go.Proofs.YtdbljcahlpkgdaaDoor
open Go Go.RowKit
attribute [local irreducible] wpListIn Code.wpIn Exit.then Exit.inBlock bodyPost wpQuiet wpAnyIn wpAnyH
set_option maxHeartbeats 4000000
section
variable {P : Program} {ro : Option Nat} {N : Nat} {ds : List Deferred} {S : Nat→Prop} {w0 : World} {L L' : List (Nat × Value)} {H H' : List Ent} {ops : Array Oper} {rest : List Oper} {Q : Exit→Act→World→Prop} {x y : Operand}
theorem g_makeS {α : Type} {d ty T e s by' n : Nat} {z1 z2 : Int} {zs : List Value} {pos : String} {aft : Array Go.Edge} [h : ElemInfo P T e s by' zs] [hx : Ev L x (.int .i64 z1)] [hz1 : NatIs z1 n] [hy : Ev L y (.int .i64 z2)] [hz2 : NatIs z2 n] (hd : okPut d N L = true) (hs : Nat.beq zs.length s = true) (hb : by' * n ≤ 281474976710656) (hm : n ≤ 140737488355328) (g : α→List Value) (y0 : α) (hg : g y0 = zs)
  (k : ∀ b,w0.heap.size ≤ b→G N ds S w0 ((d,.slice (some ⟨b,0,none⟩) n n)::L) (Ent.vec (some ⟨b,0,none⟩) n n e s ((List.replicate n y0).flatMap g)::H) (wpListIn (FW ro) 0 P ops Q rest)) : G N ds S w0 L H (wpListIn (FW ro) 0 P ops Q (⟨some d,.makeSlice T x y,ty,pos,aft,none⟩::rest)):=by
 intro a w hS
 obtain ⟨i,zz,hi,hzz,hcs,h1,h2⟩:=h.get
 have h3:=hx.eq _ _ _ hS.fr
 have h4:=hy.eq _ _ _ hS.fr
 have hs:=Nat.eq_of_beq_eq_true hs
 rw [hz1.eq] at h3
 rw [hz2.eq] at h4
 have hb'' : (i.bytes : Int) * (n : Int) ≤ 281474976710656:=by
  have e : ((by' * n : Nat) : Int) ≤ 281474976710656:=by omega
  rw [Int.natCast_mul] at e; rw [h2]; exact e
 have hr:=run_make (P:=P) w T e i zz h.und hi hzz .i64 .i64 (n : Int) (n : Int) (by omega) (Int.le_refl _) hb'' (by omega)
 have hfl : (List.replicate n y0).flatMap g = (List.replicate n zs).flatten:=by rw [List.flatMap_def,List.map_replicate,hg]
 have hxs : madeCells zz.cells ((n : Int).toNat * i.size) = ((List.replicate n y0).flatMap g).toArray:=by
  have:=toList_madeCells zs n
  rw [h1,hcs,Int.toNat_natCast,hfl,← this,hs]
 refine step_val (v:=.slice (some ⟨w.heap.size,0,none⟩) n n) (w':=w.alloc (.cells ((List.replicate n y0).flatMap g).toArray e)) rfl (fun _ h=>by cases h) ?_ ?_
 ·simp only [Int.toNat_natCast] at hr hxs
  simp [execOp,h3,h4,hr,hxs]
 ·exact k _ hS.wd.size _ _ ⟨hS.fr.putOk hd _,hS.wd.vecNew e s n _ (by rw [hfl,List.length_flatten]; simp [hs]) (by unfold maxLen; omega)⟩
theorem run_copy_rowS (w : World) (dT sT ty elem : TypeId) (s g o dLen dCap : Nat) (a : Addr) (sLen sCap : Nat) (cur : Array Value) (t : TypeId) (cs : List Value)
  (hu : P.underlying dT = some (.slice elem)) (hs : (P.info? elem).map (·.size) = some s)
  (hg : w.heap[g]? = some (.cells cur t (0,0))) (hn : cs.length = Nat.min sLen dLen * s)
  (hsrc : ∀ j v,cs[j]? = some v→w.cell? (a.add j) = some v) (hfit : o + cs.length ≤ cur.size) (h1 : ∀ v ∈ cs,v.oneCell' = true) :
  (Builtin.copy_ #[dT,sT] ty #[.slice (some ⟨g,o,none⟩) dLen dCap,.slice (some a) sLen sCap]).run P w =
   .ok (goInt (Nat.min sLen dLen : Nat)) (w.setRow g (cur.toList.take o++cs++cur.toList.drop (o + cs.length)).toArray):=by
 have hl:=run_loadCells_list (P:=P) w a cs hsrc
 have hst:=run_storeCells_at P g o t cs 0 cur w hg (by simpa using hfit) h1
 cases hq : P.info? elem with
 | none=>simp [hq] at hs
 | some i =>
  have hi : i.size = s:=by simpa [hq] using hs
  simp [Builtin.copy_,run_underlying hu,Builtin.lenOf,Builtin.firstCells,sizeOf,typeInfo,hq,hi,← hn,hl,hst]
theorem g_copyS {d ty dT sT e s by' b o off n c dl dc sl sc sb so : Nat} {zs : List Value} (k : Nat) {xs : List Value} (m : Nat) (cs : List Value) {pos : String} {aft : Array Go.Edge} [h : ElemInfo P dT e s by' zs] [hx : Ev L x (.slice (some ⟨b,o + off,none⟩) dl dc)] [hy : Ev L y (.slice (some ⟨sb,so,none⟩) sl sc)]
  (hk : H[k]? = some (Ent.vec (some ⟨b,o,none⟩) n c e s xs)) (hd : okPut d N L = true) (hm : m = min sl dl) (hn : cs.length = m * s) (hsrc : ∀ w,Wd S w0 H w→∀ j v,cs[j]? = some v→w.cell? ⟨sb,so + j,none⟩ = some v) (hfit : off + cs.length ≤ xs.length) (h1 : ∀ v ∈ cs,v.oneCell' = true)
  (kk : G N ds S w0 ((d,.int .i64 m)::L) (H.set k (Ent.vec (some ⟨b,o,none⟩) n c e s (xs.take off++cs++xs.drop (off + cs.length)))) (wpListIn (FW ro) 0 P ops Q rest)) : G N ds S w0 L H (wpListIn (FW ro) 0 P ops Q (⟨some d,.call { callee:=.builtin .copy,args:=#[x,y],argTypes:=#[dT,sT] },ty,pos,aft,none⟩::rest)):=fun a w hS=>by
 subst hm
 obtain ⟨hl,hnc,hcm,pre,sp,rfl,hsp,hb⟩:=hS.wd.vecAt hk
 obtain ⟨i,zz,hi,_,_,hi1,_⟩:=h.get
 have hlt : b < w.heap.size:=(Array.getElem?_eq_some_iff.1 hb).1
 have hr:=run_copy_rowS (P:=P) w dT sT ty e s b (pre.length + off) dl dc ⟨sb,so,none⟩ sl sc _ e cs h.und (by rw [hi]; simp [hi1]) hb hn (fun j v hj=>by rw [Addr.add_lit]; exact hsrc w hS.wd j v hj) (by simp; omega) h1
 have hrow : (pre++xs++sp).take (pre.length + off)++cs++(pre++xs++sp).drop (pre.length + off + cs.length) = pre++(xs.take off++cs++xs.drop (off + cs.length))++sp:=by
  rw [List.append_assoc pre xs sp,List.take_length_add_append,Nat.add_assoc,List.drop_length_add_append,List.take_append_of_le_length (by omega),List.drop_append_of_le_length (by omega)]
  simp
 simp only at hr
 rw [hrow] at hr
 refine step_val (v:=.int .i64 ((min sl dl : Nat) : Int)) (w':=w.setRow b (pre++(xs.take off++cs++xs.drop (off + cs.length))++sp).toArray) rfl (fun _ h=>by cases h) ?_ ?_
 ·have e1 : Nat.min sl dl = min sl dl:=rfl
  simp [execOp,resolve,invoke,builtin,hx.eq _ _ _ hS.fr,hy.eq _ _ _ hS.fr,hr,goInt,e1]
 ·refine kk _ _ ⟨hS.fr.putOk hd _,?_⟩
  have hsz : ∀ q : Array Value,(w.setRow b q).heap.size = w.heap.size:=fun q=>by simp [World.setRow]
  refine hS.wd.turnAt hk ⟨rfl,rfl,rfl,by rw [hsz]; exact Nat.le_refl _,fun j _ hj=>setRow_other w b j _ fun e'=>hj (by simp [Ent.vec,e'])⟩ (fun b' hb'=>?_) fun w2 hw2=>?_
  ·simp only [Ent.vec,Option.map_some,Option.some.injEq] at hb' ⊢
   subst hb'
   exact ⟨.inl rfl,by rw [hsz]; exact hlt⟩
  ·have:=hw2 b (by simp [Ent.vec])
   refine ⟨?_,.inr ⟨b,pre,sp,rfl,hnc,hcm,hsp,?_⟩⟩
   ·simp only [List.length_append,List.length_take,List.length_drop]; omega
   ·rw [this]
    exact setRow_heap w b _ _ e _ hb
end
theorem rep_copyL {α : Type} (z y : α) (m n k : Nat) (hk : k = min (n - m) m) (_hm : m ≤ n) : (List.replicate m z++List.replicate (n - m) y).take m++List.replicate k z++(List.replicate m z++List.replicate (n - m) y).drop (m + k) = List.replicate (m + k) z++List.replicate (n - (m + k)) y:=by
 rw [List.take_append_of_le_length (by simp),List.take_of_length_le (by simp),List.drop_append,List.drop_of_length_le (by rw [List.length_replicate]; omega)]
 simp only [List.length_replicate,List.nil_append,List.drop_replicate]
 have e : n - m - (m + k - m) = n - (m + k):=by omega
 rw [← List.replicate_append_replicate,e]
theorem flat_seg {α : Type} {g : α→List Value} {s : Nat} (hg : ∀ x,(g x).length = s) (l m : List α) (i : Nat) : (l.flatMap g).take (i * s)++m.flatMap g++(l.flatMap g).drop (i * s + (m.flatMap g).length) = (l.take i++m++l.drop (i + m.length)).flatMap g:=by
 rw [flat_len hg,← Nat.add_mul,(flat_cut hg l i).1,(flat_cut hg l (i + m.length)).2]
 simp
def wrC (x : Int × Int) : List Value:=[.int .i64 x.1,.int .i64 x.2]
theorem repeatW_c (b0 o0 n : Nat) (z : Int × Int) (w : World) (hx : CellsAt w b0 o0 (wrC z)) (hn' : n ≤ 1000) :
  Ret Tryd.prog 26 [.slice (some ⟨b0,o0,none⟩) 1 1,.int .i64 n] w fun u w'=>∃ a : Nat,u = .slice (some ⟨a,0,none⟩) n n∧Wd NoS w [Ent.vec (some ⟨a,0,none⟩) n n 76 2 ((List.replicate n z).flatMap wrC)] w'∧True:=by
 have hg : ∀ x : Int × Int,(wrC x).length = 2:=fun _=>rfl
 refine ret_enter Tryd.func26 rfl Tryd.ntmps26 rfl (Wd.nil NoS w) ?_
 repeat (first|refine g_op rfl ?_|refine g_then ?_|refine g_nil ?_|refine g_region ?_|refine g_seq ?_|refine g_skip ?_|refine g_condF ?_)
 rw [show decide ((n : Int) < 0) = false by simp]
 skip
 refine g_conv rfl rfl ?_
 repeat (refine g_op rfl ?_)
 refine g_conv rfl (by rw [IntKind.wrap_u64]; omega) ?_
 refine g_callV rfl (fun w' _=>mul_c 1 n (by omega) (by omega) (by omega) w') ?_
 rw [Nat.one_mul]
 repeat (first|refine g_op rfl ?_|refine g_then ?_|refine g_nil ?_|refine g_region ?_|refine g_seq ?_|refine g_open ?_)
 rw [show decide (9223372036854775807 < (n : Int)) = false by simp; omega,show decide ((0 : Int) < 0) = false from rfl]
 repeat (first|refine g_op rfl ?_|refine g_then ?_|refine g_nil ?_|refine g_region ?_|refine g_seq ?_|refine g_skip ?_|refine g_condF ?_)
 refine g_conv rfl ?_ ?_
 ·rw [IntKind.wrap_i64]; omega
 refine g_makeS rfl rfl (by omega) (by omega) wrC ((0 : Int),(0 : Int)) rfl fun a _=>?_
 have hone : ∀ (l : List (Int × Int)),∀ v ∈ l.flatMap wrC,v.oneCell' = true:=fun l v hv=>by
  obtain ⟨q,_,hq⟩:=List.mem_flatMap.1 hv
  simp only [wrC,List.mem_cons,List.not_mem_nil,or_false] at hq
  rcases hq with rfl|rfl <;> rfl
 repeat (first|refine g_op rfl ?_|refine g_then ?_|refine g_nil ?_|refine g_region ?_|refine g_seq ?_)
 refine g_copyS (b:=a) (o:=0) (off:=0) 0 (min 1 n) ((List.replicate (min 1 n) z).flatMap wrC) rfl rfl rfl (by rw [flat_len hg,List.length_replicate]) (fun w' hw j v hj=>?_) (by rw [flat_len hg,flat_len hg,List.length_replicate,List.length_replicate]; omega) (hone _) ?_
 ·obtain ⟨i,x,k,h1,h2,rfl⟩:=flat_from hg _ _ _ hj
  have hi:=(List.getElem?_eq_some_iff.1 h1).1
  rw [List.length_replicate] at hi
  obtain rfl:=List.eq_of_mem_replicate (List.mem_of_getElem? h1)
  obtain rfl : i = 0:=by omega
  have:=cell_keep hw.chg (hx k v h2)
  rw [Nat.zero_mul,Nat.zero_add]; exact this
 have e0:=flat_seg hg (List.replicate n ((0 : Int),(0 : Int))) (List.replicate (min 1 n) z) 0
 rw [Nat.zero_mul] at e0
 simp only [List.set_cons_zero]
 rw [e0]
 rw [show (List.replicate n ((0 : Int),(0 : Int))).take 0++List.replicate (min 1 n) z++(List.replicate n ((0 : Int),(0 : Int))).drop (0 + (List.replicate (min 1 n) z).length) = List.replicate (min 1 n) z++List.replicate (n - min 1 n) ((0 : Int),(0 : Int)) by simp [List.drop_replicate]]
 repeat (first|refine g_op rfl ?_|refine g_then ?_|refine g_nil ?_|refine g_seq ?_|refine g_block ?_)
 refine g_loop (fun (m : Nat)=>(1 ≤ m ∨ n = 0)∧m ≤ n) (fun m=>[(8,.int .i64 m),(7,.slice (some ⟨a,0,none⟩) n n)]) (fun m=>[Ent.vec (some ⟨a,0,none⟩) n n 76 2 ((List.replicate m z++List.replicate (n - m) ((0 : Int),(0 : Int))).flatMap wrC)]) (fun m=>n - m) (min 1 n) ⟨by omega,by omega⟩ (g_done (by repeat (first|exact trivial|refine ⟨rfl,?_⟩)) (.refl _)) fun m ⟨hm1,hmn⟩=>?_
 repeat (first|refine g_op rfl ?_|refine g_then ?_|refine g_nil ?_|refine g_region ?_|refine g_seq ?_)
 refine g_cond (fun h1=>?_) (fun h1=>?_)
 ·have hlt : m < n:=by simpa using h1
  have hc1 : CutOk m n n:=⟨by omega,hlt⟩
  have hc2 : CutHi m n:=⟨by omega⟩
  repeat (first|refine g_then ?_|refine g_block ?_|refine g_skip ?_)
  refine g_drawW [(8,.int .i64 ((m + min m (n - m) : Nat) : Int)),(7,.slice (some ⟨a,0,none⟩) n n)] [Ent.vec (some ⟨a,0,none⟩) n n 76 2 ((List.replicate (m + min m (n - m)) z++List.replicate (n - (m + min m (n - m))) ((0 : Int),(0 : Int))).flatMap wrC)] mixed ?_ ?_
  ·repeat' (first|refine g_take 0 rfl (by decide +kernel) ?_|refine g_take 1 rfl (by decide +kernel) ?_|refine g_take 2 rfl (by decide +kernel) ?_|refine g_take 3 rfl (by decide +kernel) ?_|refine g_take 4 rfl (by decide +kernel) ?_|refine g_take 5 rfl (by decide +kernel) ?_|refine g_take 6 rfl (by decide +kernel) ?_|refine g_any (by decide +kernel) ?_|refine any_nil|refine any_skip (by decide +kernel) ?_|refine any_cons ?_ ?_)
   refine g_copyS (b:=a) (o:=0) (off:=m * 2) 0 (min m (n - m)) ((List.replicate (min m (n - m)) z).flatMap wrC) rfl rfl rfl (by rw [flat_len hg,List.length_replicate]) (fun w' hw j v hj=>?_) (by rw [flat_len hg,flat_len hg,List.length_append,List.length_replicate,List.length_replicate,List.length_replicate]; omega) (hone _) ?_
   ·obtain ⟨i,x,k,h1,h2,rfl⟩:=flat_from hg _ _ _ hj
    have hi:=(List.getElem?_eq_some_iff.1 h1).1
    rw [List.length_replicate] at hi
    have hk : k < 2:=(List.getElem?_eq_some_iff.1 h2).1
    refine hw.vecCell (k:=0) rfl (flat_at hg _ i x k v ?_ h2)
    rw [List.getElem?_append_left (by rw [List.length_replicate]; omega),List.getElem?_replicate,if_pos (by omega)]
    rw [List.eq_of_mem_replicate (List.mem_of_getElem? h1)]
   rw [flat_seg hg,List.length_replicate,rep_copyL z ((0 : Int),(0 : Int)) m n _ (Nat.min_comm _ _) hmn]
   simp only [List.set_cons_zero]
   repeat' (first|refine g_any0 (by decide +kernel) ?_|refine g_any (by decide +kernel) ?_|refine any_nil|refine any_skip (by decide +kernel) ?_|refine any_cons ?_ ?_|refine g_then ?_|refine g_nil ?_|refine g_opS rfl ?_|refine g_add rfl (by omega) (by omega) ?_)
   all_goals
    rw [← Int.natCast_add]
   skip
   all_goals exact g_done (by repeat (first|exact trivial|refine ⟨rfl,?_⟩)) (.refl _)
  ·repeat (first|refine g_then ?_|refine g_inBlock ?_)
   exact g_next (m + min m (n - m)) ⟨by omega,by omega⟩ (by omega) (by repeat (first|exact trivial|refine ⟨rfl,?_⟩)) (.refl _)
 ·have hge : m = n:=by have:=h1; simp at this; omega
  subst hge
  rw [Nat.sub_self,List.replicate_zero,List.append_nil]
  repeat (first|refine g_op rfl ?_|refine g_then ?_|refine g_nil ?_|refine g_region ?_|refine g_seq ?_|refine g_exit ?_|refine g_thenExit ?_|refine g_exitHere ?_|refine g_ret ?_)
  exact g_ret1 rfl fun w' hw=>⟨a,rfl,hw,trivial⟩
end Go.Proofs.YtdbljcahlpkgdaaDoor
namespace Go.Proofs.YtdbljcahlpkgdaaDoor
open Go Go.RowKit
section
variable {P : Program} {ro : Option Nat} {N : Nat} {ds : List Deferred} {S : Nat→Prop} {w0 : World} {L L' : List (Nat × Value)} {H H' : List Ent} {a : Act} {w : World}
 {ops : Array Oper} {rest : List Oper} {Q : Exit→Act→World→Prop} {p : Act→World→Prop} {x y : Operand}
def RndX {σ : Type} (w0 : World) (Bx : Prop) (R : Ent) (Hc : σ→List Ent) (F : List Ent) : Exit→Act→World→Prop:=fun e a w=>e = .ret∧Rnd NoS w0 (fun _=>Bx) R Hc F a w
theorem g_rndX {σ : Type} {Bx : Prop} {R : Ent} {Hc : σ→List Ent} {F : List Ent} (s : σ) (hB : Bx) (hH : (R::(Hc s++F)).Sublist H) : G N ds NoS w0 L H (RndX w0 Bx R Hc F .ret):=fun _ _ hS=>⟨rfl,s,hB,hS.wd.sub hH⟩
theorem leaves_marksX {H : List Ent} {fn : Func} {tmps : Array Value} {R : Value→World→Prop} {v : Value} (hr : ∀ w,Wd NoS w0 H w→(results fn tmps).run P w = .ok v w) (hR : ∀ w,Wd NoS w0 H w→R v w) : ∀ (Ds : List Nat) (w : World),Wd NoS w0 (marks Ds++H) w →
  LeavesInM (FW none) 0 P fn tmps (fun e w'=>∃ v,e = .returned v∧R v w') (dsOf Ds) .returning w
 | [],w,hW=>⟨v,hr w hW,v,rfl,hR w hW⟩
 | D::Ds,w,hW=>by
  have h1 : Wd NoS w0 (Ent.mark D::(marks Ds++H)) w:=hW
  have hD : w0.heap.size ≤ D:=(h1.own (Ent.mark D) (by simp) D rfl).1.elim (fun h=>h.elim) id
  exact ⟨by simp,.inl ⟨D,_,rfl,run_takeDeferred (h1.get (k:=0) rfl),leaves_marksX hr hR Ds _ (h1.shut hD _)⟩⟩
theorem g_retMsC {fn : Func} {R : Value→World→Prop} {H : List Ent} (Ds : List Nat) {t T b j bt : Nat} {v : Value} (hr : fn.results = #[.cell t T]) [hv : SlotIs L t (.pointer (some ⟨b,0,none⟩))] [h : OneCell P T] [hb : BoxIn H b j [v] bt] (hR : ∀ w,Wd NoS w0 H w→R v w) : G N (dsOf Ds) NoS w0 L (marks Ds++H) (bodyPostM (FW none) 0 P fn (fun e w'=>∃ v,e = .returned v∧R v w') .ret):=fun a w hS=>by
 show LeavesInM _ _ _ _ _ _ _ _ _
 rw [hS.fr.defers]
 refine leaves_marksX (fun w hw=>?_) hR Ds w hS.wd
 have hc:=hw.cellBox j hb.at' (show [v][0]? = some v from rfl)
 simp [results,hr,Array.getD_eq_getD_getElem?,hS.fr.slot _ hv.mem,asAddr,loadVar,h.agg,hc]
theorem g_rangeX {α σ : Type} {g : Operand} {ps : Array Tmp} {assign body : Code} {gf : Nat} {lb : List Value} [hg : Ev L g (.func (.func gf) #[] lb.toArray)] [eg : EnterOk P gf] (F : List Ent) (Hc : σ→List Ent) (s0 : σ) (hcl : ∀ s,CellsL (Hc s)) (hfp : ∀ s s' b,fps (Hc s) b→fps (Hc s') b) (xs : List α) {encs : α→Array Value}
  {Bs : Nat} {bcs : List Value} {bt : TypeId} (hBs : Ent.box Bs bcs bt ∈ F)
  (hseq : ∀ w,Wd NoS w0 H w→SeqStopsK (FW none) 4 P gf lb.toArray encs (KeepX fun b=>fps (Hc s0++F) b∧b ≠ Bs) (fun ys=>ys = xs) (fun pre=>pre <+: xs) xs.length w)
  (I : List α→σ→Prop) (Bx : Prop) (h0 : I [] s0) (hH : (Hc s0++F).Sublist H) (hps : ∀ x,(encs x).size = ps.size) (bx : α→List Value) (T : Nat)
  (L0 : α→List (Nat × Value)) (La : α→Nat→List (Nat × Value)) (hput : ∀ x a,Fr N ds L a→Fr N [] (L0 x) { tmps:=(ps.zip (encs x)).foldl (fun t (p,v)=>t.setIfInBounds p v) a.tmps,defers:=[] })
  (hassign : ∀ (l : Nat) (x : α) (s : σ) (R : Ent),G N [] NoS w0 (L0 x) (R::(Hc s++F)) (assign.wpIn (FW (some l)) 0 P (Exit.then (fun a w=>∃ q,St N [] NoS w0 (La x q) (Ent.box q (bx x) T::R::(Hc s++F)) a w) (fun _ _ _=>False))))
  (hbody : ∀ (l : Nat) (pre : List α) (x : α) (s : σ) (q : Nat) (R : Ent),I pre s→pre.length < xs.length→G N [] NoS w0 (La x q) (R::Ent.box q (bx x) T::(Hc s++F)) (body.wpIn (FW (some l)) 0 P (Exit.then (Rnd NoS w0 (I (pre++[x])) R Hc (Ent.box q (bx x) T::F)) (RndX w0 Bx R Hc (Ent.box q (bx x) T::F)))))
  (k : ∀ D s,w0.heap.size ≤ D→I xs s→G N (⟨.collected D,#[]⟩::ds) NoS w0 L (Ent.mark D::(Hc s++F)) (Q .normal)) (k2 : ∀ D s,w0.heap.size ≤ D→Bx→G N (⟨.collected D,#[]⟩::ds) NoS w0 L (Ent.mark D::(Hc s++F)) (Q .ret)) : G N ds NoS w0 L H (Code.wpIn (FW none) 0 P (Code.rangeFunc g ps assign body) Q):=fun a w hS=>by
 have hsz:=hS.wd.size
 have hF : ∀ e ∈ F,∀ b,e.fp b→b < w.heap.size:=fun e he b hb=>(hS.wd.own e (hH.subset (List.mem_append_right _ he)) b hb).2
 have hcell : ∀ s W,Wd NoS w0 (Hc s++F) W→∀ r o,W.heap[r]? = some o→o.isCells = false→w.heap.size ≤ r→¬ fps (Hc s++F) r:=by
  rintro s W hW r o ho hn hle ⟨e,he,hb⟩
  rcases List.mem_append.1 he with he|he
  ·obtain ⟨j,hj⟩:=List.getElem?_of_mem (List.mem_append_left F he)
   obtain ⟨cs,t,z,hc⟩:=((hcl s).all e he).ok W (hW.get hj) r hb
   rw [hc] at ho
   cases ho
   cases hn
  ·have:=hF e he r hb; omega
 have hbox : ∀ s W,Wd NoS w0 (Hc s++F) W→W.heap[Bs]? = some (.cells bcs.toArray bt (0,0)):=fun s W hW=>by
  obtain ⟨j,hj⟩:=List.getElem?_of_mem (List.mem_append_right (Hc s) hBs)
  exact hW.get hj
 have hfpF : ∀ s s' b,fps (Hc s++F) b→fps (Hc s'++F) b:=by
  rintro s s' b ⟨e,he,hb⟩
  rcases List.mem_append.1 he with he|he
  ·obtain ⟨e',he',hb'⟩:=hfp s s' b ⟨e,he,hb⟩
   exact ⟨e',List.mem_append_left _ he',hb'⟩
  ·exact ⟨e,List.mem_append_right _ he,hb⟩
 have hout : ∀ s s' (H0 : List Ent) W W',Wd NoS w0 (Hc s++F) W→(∀ r o,W.heap[r]? = some o→o.isCells = false→w.heap.size ≤ r→¬ fps H0 r)→Wd NoS w0 (Ent.rest (restOf w0.heap.size W H0) W::(Hc s'++F)) W'→(∀ b,fps H0 b→¬ fps (Hc s0++F) b→W'.heap[b]? = W.heap[b]?)→KeepsFrom w.heap.size W W'∧KeepX (fun b=>fps (Hc s0++F) b∧b ≠ Bs) W W':=by
  intro s s' H0 W W' hW hc0 hW' hx
  obtain ⟨hs,hr⟩:=hW'.get (k:=0) rfl
  refine ⟨⟨hs,fun j o hj ho hn=>?_⟩,fun b cs t z hb hc=>?_⟩
  ·exact (hr j ⟨by omega,(Array.getElem?_eq_some_iff.1 ho).1,hc0 j o ho hn hj⟩).trans ho
  ·by_cases e : b = Bs
   ·subst e
    exact (hbox s' W' (hW'.sub (List.sublist_cons_self _ _))).trans ((hbox s W hW).symm.trans hc)
   ·have hnf : ¬ fps (Hc s0++F) b:=fun h=>hb ⟨h,e⟩
    by_cases hlt : b < w0.heap.size
    ·exact ((hW'.chg.block b hlt fun h=>h).trans (hW.chg.block b hlt fun h=>h).symm).trans hc
    ·by_cases h0 : fps H0 b
     ·exact (hx b h0 hnf).trans hc
     ·exact (hr b ⟨by omega,(Array.getElem?_eq_some_iff.1 hc).1,h0⟩).trans hc
 refine wpIn_deep (m:=5) ?_
 refine wpIn_rangeFunc_ownH (F:=FW none) (n:=5) (w0:=w) rfl (by omega) (hg.eq _ _ _ hS.fr) trivial (fun args w=>eg.run args w) (hseq w hS.wd) (fun h1 h2=>h1.trans h2) (fun W l o o' hl ho hn _ b cs t z _ hc=>?_) (Below.refl _ _) hps
  (fun pre W=>∃ s,I pre s∧Wd NoS w0 (Hc s++F) W∧w.heap.size ≤ W.heap.size) (fun c _ W=>c = .ret∧∃ s,Bx∧Wd NoS w0 (Hc s++F) W∧w.heap.size ≤ W.heap.size) (fun pre W W' row ⟨s,hI,hW,hsW⟩ hg hr=>⟨s,hI,hW.grown hg fun r e=>?_,Nat.le_trans hsW hg.size⟩) (fun c pre W W' row ⟨hc,s,hI,hW,hsW⟩ hg hr=>⟨hc,s,hI,hW.grown hg fun r e=>?_,Nat.le_trans hsW hg.size⟩) ⟨s0,h0,hS.wd.sub hH,Nat.le_refl _⟩
  (fun x a' W=>∃ q,Fr N [] (La x q) a'∧W.heap[q]? = some (.cells (bx x).toArray T (0,0))∧w.heap.size ≤ q∧∀ s,¬ fps (Hc s++F) q) (fun x a' _ W W' row ⟨q,h1,h2,h3,h4⟩ hg hr=>⟨q,h1,?_,h3,h4⟩) ?_ ?_ ?_ ?_
 ·refine (World.putObj_heap_other fun e=>?_).trans hc
  subst e
  rw [hc] at ho
  cases ho
  cases hn
 ·obtain ⟨h1,o,ho,hn⟩:=hr r e
  exact ⟨by omega,hcell s W hW r o ho hn h1⟩
 ·obtain ⟨h1,o,ho,hn⟩:=hr r e
  exact ⟨by omega,hcell s W hW r o ho hn h1⟩
 ·refine (hg.block q (Array.getElem?_eq_some_iff.1 h2).1 fun e=>?_).trans h2
  obtain ⟨_,o,ho,hn⟩:=hr q e.symm
  rw [h2] at ho
  cases ho
  cases hn
 ·rintro l pre x W K ⟨s,hI,hW,hsW⟩ hK
  refine wpIn_deep (m:=0) ?_
  refine Code.wpIn_mono (fun e a' W' q=>?_) (hassign l x s _ _ W ⟨hput x a hS.fr,hW.withRest⟩)
  cases e with
  | normal =>
   obtain ⟨q,hq⟩:=q
   have ho:=hout s s _ W W' hW (hcell s W hW) (hq.wd.sub (List.sublist_cons_self _ _)) fun b hb hn=>absurd (hfpF s s0 b hb) hn
   have hap:=List.pairwise_cons.1 hq.wd.apart
   have hqf : ¬ fps (Hc s++F) q:=fun ⟨e,he,hb⟩=>hap.1 e (List.mem_cons_of_mem _ he) q rfl hb
   have hqo:=hq.wd.own (Ent.box q (bx x) T) (by simp) q rfl
   refine hK a' W' ho.1 ho.2 ⟨s,hI,hq.wd.sub (.cons _ (.cons _ (.refl _))),Nat.le_trans hsW ho.1.size⟩ ⟨q,hq.fr,hq.wd.get (k:=0) rfl,?_,fun s' h=>hqf (hfpF s' s q h)⟩
   refine Classical.byContradiction fun hlt=>?_
   have h1 : w0.heap.size ≤ q:=hqo.1.elim (fun h=>h.elim) id
   exact hap.1 (Ent.rest (restOf w0.heap.size W (Hc s++F)) W) (by simp) q rfl ⟨h1,by omega,hqf⟩
  | _=>exact q.elim
 ·rintro l pre x a' W _ _ ⟨s,hI,hW,hsW⟩ ⟨q',h1,h2,h3,h4⟩ hlt
  have hWb : Wd NoS w0 (Ent.box q' (bx x) T::(Hc s++F)) W:=⟨hW.chg,fun e he b hb=>by
   rcases List.mem_cons.1 he with rfl|he
   ·cases hb
    exact ⟨.inr (by omega),(Array.getElem?_eq_some_iff.1 h2).1⟩
   ·exact hW.own e he b hb,fun e he w2 hs hw2=>by
   rcases List.mem_cons.1 he with rfl|he
   ·exact (hw2 q' rfl).trans h2
   ·exact hW.ok e he w2 hs hw2,List.pairwise_cons.2 ⟨fun f hf b hb hfb=>by cases hb; exact h4 s ⟨f,hf,hfb⟩,hW.apart⟩⟩
  refine wpIn_deep (m:=0) ?_
  refine Code.wpIn_mono (fun e a' W' q=>?_) (hbody l pre x s q' _ hI hlt a' W ⟨h1,hWb.withRest⟩)
  have key : ∀ J : σ→Prop,Rnd NoS w0 J (Ent.rest (restOf w0.heap.size W (Ent.box q' (bx x) T::(Hc s++F))) W) Hc (Ent.box q' (bx x) T::F) a' W'→(KeepsFrom w.heap.size W W'∧KeepX (fun b=>fps (Hc s0++F) b∧b ≠ Bs) W W')∧∃ s,J s∧Wd NoS w0 (Hc s++F) W'∧w.heap.size ≤ W'.heap.size:=fun J q=>by
   obtain ⟨s',hI',hW'⟩:=q
   have hW2 : Wd NoS w0 (Ent.rest (restOf w0.heap.size W (Ent.box q' (bx x) T::(Hc s++F))) W::(Hc s'++F)) W':=hW'.sub (.cons_cons _ (List.Sublist.append_left (List.sublist_cons_self _ _) _))
   have hq2 : W'.heap[q']? = some (.cells (bx x).toArray T (0,0)):=by
    obtain ⟨j,hj⟩:=List.getElem?_of_mem (show Ent.box q' (bx x) T ∈ Ent.rest (restOf w0.heap.size W (Ent.box q' (bx x) T::(Hc s++F))) W::(Hc s'++(Ent.box q' (bx x) T::F)) by simp)
    exact hW'.get hj
   have ho:=hout s s' _ W W' hW (fun r o ho hn hle=>by
    rintro ⟨e,he,hb⟩
    rcases List.mem_cons.1 he with rfl|he
    ·cases hb
     rw [h2] at ho
     cases ho
     cases hn
    ·exact hcell s W hW r o ho hn hle ⟨e,he,hb⟩) hW2 (fun b hb hn=>by
    obtain ⟨e,he,hb⟩:=hb
    rcases List.mem_cons.1 he with rfl|he
    ·cases hb
     exact hq2.trans h2.symm
    ·exact absurd (hfpF s s0 b ⟨e,he,hb⟩) hn)
   exact ⟨ho,s',hI',hW2.sub (List.sublist_cons_self _ _),Nat.le_trans hsW ho.1.size⟩
  cases e with
  | normal =>
   obtain ⟨h7,h8⟩:=key _ q
   exact ⟨h7.1,h7.2,h8⟩
  | ret =>
   obtain ⟨_,q⟩:=q
   obtain ⟨h7,h8⟩:=key _ q
   exact ⟨h7.1,rfl,h8⟩
  | exit _=>exact absurd q.1 (by simp)
  | goto _=>exact absurd q.1 (by simp)
  | panic _=>exact absurd q.1 (by simp)
  | outgrown=>exact absurd q.1 (by simp)
 ·rintro D ys W hD rfl ⟨s,hI,hW,_⟩ hd
  refine k D s (by omega) hI _ W ⟨⟨hS.fr.size,by rw [hS.fr.defers],hS.fr.slot⟩,?_⟩
  have hn : ¬ fps (Hc s++F) D:=hcell s W hW D _ hd rfl hD
  exact ⟨hW.chg,fun e he b hb=>by
   rcases List.mem_cons.1 he with rfl|he
   ·cases hb
    exact ⟨.inr (by omega),(Array.getElem?_eq_some_iff.1 hd).1⟩
   ·exact hW.own e he b hb,fun e he w2 hs hw2=>by
   rcases List.mem_cons.1 he with rfl|he
   ·exact (hw2 D rfl).trans hd
   ·exact hW.ok e he w2 hs hw2,List.pairwise_cons.2 ⟨fun f hf b hb hfb=>by cases hb; exact hn ⟨f,hf,hfb⟩,hW.apart⟩⟩
 ·rintro D c ys W hD _ ⟨rfl,s,hI,hW,_⟩ hd
  refine wpIn_ret ?_
  refine k2 D s (by omega) hI _ W ⟨⟨hS.fr.size,by rw [hS.fr.defers],hS.fr.slot⟩,?_⟩
  have hn : ¬ fps (Hc s++F) D:=hcell s W hW D _ hd rfl hD
  exact ⟨hW.chg,fun e he b hb=>by
   rcases List.mem_cons.1 he with rfl|he
   ·cases hb
    exact ⟨.inr (by omega),(Array.getElem?_eq_some_iff.1 hd).1⟩
   ·exact hW.own e he b hb,fun e he w2 hs hw2=>by
   rcases List.mem_cons.1 he with rfl|he
   ·exact (hw2 D rfl).trans hd
   ·exact hW.ok e he w2 hs hw2,List.pairwise_cons.2 ⟨fun f hf b hb hfb=>by cases hb; exact hn ⟨f,hf,hfb⟩,hW.apart⟩⟩
end
end Go.Proofs.YtdbljcahlpkgdaaDoor

/- Texts joined: DomP Cut Mul Hold DomA. -/
import Derived.Laws.Bits64b
import Derived.Laws.CopyRow
import Derived.Laws.IdiomCopy
import Derived.Lib.Mul64
import Derived.Tactics
import Derived.Test.YtpadjpplidlfeaaDoorGA
import Derived.Test.YtpadjpplidlfeaaDoorGB
import Derived.Test.YtpadjpplidlfeaaDoorGD
namespace Go.Proofs.YtpadjpplidlfeaaDoor
open Go Go.RowKit
theorem dfs_seg (bl : List LBlock) (hok : GoodB bl) : ∀ (f b : Nat) (st : List Bool × List Nat),st.1[b]? = some false →
  ∃ N,(dfs bl f b st).2 = st.2++N∧N.Nodup∧(∀ x ∈ N,st.1[x]? = some false∧(dfs bl f b st).1[x]? = some true)∧(0 < f→∃ N',N = N'++[b])∧∀ (i x : Nat),N[i]? = some x→x ≠ b→∃ j p,i < j∧N[j]? = some p∧Edge bl p x
 | 0,b,st,hb=>⟨[],by simp [dfs],by simp,by simp,by simp,by simp⟩
 | f + 1,b,st,hb=>by
  have key : ∀ (l : List Nat),(∀ t ∈ l,Edge bl b t)→∀ st1 : List Bool × List Nat,
    ∃ N,(l.foldl (vstep bl f) st1).2 = st1.2++N∧N.Nodup∧(∀ x ∈ N,st1.1[x]? = some false∧(l.foldl (vstep bl f) st1).1[x]? = some true)∧∀ (i x : Nat),N[i]? = some x→Edge bl b x ∨ ∃ j p,i < j∧N[j]? = some p∧Edge bl p x:=by
   intro l
   induction l with
   | nil=>exact fun _ st1=>⟨[],by simp,by simp,by simp,by simp⟩
   | cons t l ih =>
    intro hl st1
    simp only [List.foldl_cons]
    obtain ⟨N2,h1,h2,h3,h4⟩:=ih (fun t' ht'=>hl t' (List.mem_cons_of_mem _ ht')) (vstep bl f st1 t)
    rcases vstep_cases (bl:=bl) (f:=f) (t:=t) (st:=st1) with e|⟨hf,e⟩
    ·rw [e] at h1 h3 ⊢
     exact ⟨N2,h1,h2,h3,h4⟩
    ·obtain ⟨N1,g1,g2,g3,g4,g5⟩:=dfs_seg bl hok f t st1 hf
     rw [e] at h1 h3 ⊢
     refine ⟨N1++N2,by rw [h1,g1,List.append_assoc],?_,?_,?_⟩
     ·refine List.nodup_append.2 ⟨g2,h2,fun x hx y hy e'=>?_⟩
      subst e'
      have:=(g3 x hx).2
      rw [(h3 x hy).1] at this
      cases this
     ·intro x hx
      rcases List.mem_append.1 hx with hx|hx
      ·exact ⟨(g3 x hx).1,(vsteps_grows bl f _ l).2.1 x (g3 x hx).2⟩
      ·refine ⟨?_,(h3 x hx).2⟩
       have h:=(h3 x hx).1
       cases hq : st1.1[x]? with
       | none =>
        have h5:=(dfs_grows bl f t st1 hf).1
        have h6:=(List.getElem?_eq_some_iff.1 h).1
        rw [List.getElem?_eq_none_iff] at hq
        omega
       | some v =>
        cases v with
        | false=>rfl
        | true =>
         have:=(dfs_grows bl f t st1 hf).2.1 x hq
         rw [h] at this
         cases this
     ·intro i x hx
      by_cases hi : i < N1.length
      ·rw [List.getElem?_append_left hi] at hx
       by_cases hxt : x = t
       ·subst hxt; exact .inl (hl x (by simp))
       ·obtain ⟨j,p,hj,hp,he⟩:=g5 i x hx hxt
        refine .inr ⟨j,p,hj,?_,he⟩
        rw [List.getElem?_append_left (List.getElem?_eq_some_iff.1 hp).1]
        exact hp
      ·rw [List.getElem?_append_right (by omega)] at hx
       rcases h4 _ x hx with h|⟨j,p,hj,hp,he⟩
       ·exact .inl h
       ·refine .inr ⟨N1.length + j,p,by omega,?_,he⟩
        rw [List.getElem?_append_right (by omega),show N1.length + j - N1.length = j by omega]
        exact hp
  obtain ⟨N,h1,h2,h3,h4⟩:=key ((toOf bl b).reverse.map Int.toNat) (fun t ht=>by
   obtain ⟨z,hz,rfl⟩:=List.mem_map.1 ht
   have hz : z ∈ toOf bl b:=by simpa using hz
   unfold Edge
   rw [hok.nat hz]; exact hz) (st.1.set b true,st.2)
  have hlt:=(List.getElem?_eq_some_iff.1 hb).1
  have hbN : b ∉ N:=fun hm=>by
   have:=(h3 b hm).1
   simp [hlt] at this
  rw [dfs_succ]
  refine ⟨N++[b],by simp only; rw [h1,List.append_assoc],?_,?_,fun _=>⟨N,rfl⟩,?_⟩
  ·refine List.nodup_append.2 ⟨h2,by simp,fun x hx y hy e'=>?_⟩
   simp only [List.mem_singleton] at hy
   exact hbN (by rw [← hy,← e']; exact hx)
  ·intro x hx
   rcases List.mem_append.1 hx with hx|hx
   ·have:=h3 x hx
    refine ⟨?_,this.2⟩
    have h:=this.1
    simp only [List.getElem?_set] at h
    by_cases e' : b = x
    ·subst e'; exact absurd hx hbN
    ·rw [if_neg e'] at h; exact h
   ·simp only [List.mem_singleton] at hx
    subst hx
    exact ⟨hb,(vsteps_grows bl f _ _).2.1 x (by simp [hlt])⟩
  ·intro i x hx hxb
   by_cases hi : i < N.length
   ·rw [List.getElem?_append_left hi] at hx
    rcases h4 i x hx with h|⟨j,p,hj,hp,he⟩
    ·exact ⟨N.length,b,hi,by simp,h⟩
    ·refine ⟨j,p,hj,?_,he⟩
     rw [List.getElem?_append_left (List.getElem?_eq_some_iff.1 hp).1]
     exact hp
   ·rw [List.getElem?_append_right (by omega)] at hx
    have:=(List.getElem?_eq_some_iff.1 hx).1
    simp only [List.length_singleton] at this
    rw [show i - N.length = 0 by omega] at hx
    simp at hx
    exact absurd hx.symm hxb
def orderL (bl : List LBlock) : List Nat:=(postL bl).reverse
theorem postL_seg {bl : List LBlock} (hok : GoodB bl) (h0 : 0 < bl.length) : (postL bl).Nodup∧(∃ N',postL bl = N'++[0])∧∀ (i x : Nat),(postL bl)[i]? = some x→x ≠ 0→∃ j p,i < j∧(postL bl)[j]? = some p∧Edge bl p x:=by
 obtain ⟨N,h1,h2,_,h4,h5⟩:=dfs_seg bl hok bl.length 0 (List.replicate bl.length false,[]) (by simp [h0])
 have e : postL bl = N:=by unfold postL; rw [h1]; rfl
 rw [e]
 exact ⟨h2,h4 h0,h5⟩
structure Ord (bl : List LBlock) (l : List Nat) : Prop where
 nodup : l.Nodup
 mem : ∀ x,x ∈ l ↔ Rch bl (-1) 0 x
 zero : l[0]? = some 0
 ahead : ∀ (i x : Nat),l[i]? = some x→x ≠ 0→∃ j p,j < i∧l[j]? = some p∧Edge bl p x
theorem orderL_ord {bl : List LBlock} (hok : GoodB bl) (h0 : 0 < bl.length) : Ord bl (orderL bl):=by
 obtain ⟨h1,⟨N',h2⟩,h3⟩:=postL_seg hok h0
 refine ⟨by unfold orderL; exact (List.reverse_perm _).nodup_iff.2 h1,fun x=>by unfold orderL; rw [List.mem_reverse]; exact postL_mem hok h0,by unfold orderL; rw [h2]; simp,fun i x hx hx0=>?_⟩
 unfold orderL at hx ⊢
 have hi:=(List.getElem?_eq_some_iff.1 hx).1
 rw [List.length_reverse] at hi
 rw [List.getElem?_reverse hi] at hx
 obtain ⟨j,p,hj,hp,he⟩:=h3 _ x hx hx0
 have hjl:=(List.getElem?_eq_some_iff.1 hp).1
 refine ⟨(postL bl).length - 1 - j,p,by omega,?_,he⟩
 rw [List.getElem?_reverse (by omega),show (postL bl).length - 1 - ((postL bl).length - 1 - j) = j by omega]
 exact hp
class ConvI (P : Program) (S T : Nat) (q : outParam IntKind) : Prop where
 src : (P.underlying S).isSome = true
 dst : P.underlying T = some (.int (P.intKind T))
 kind : P.intKind T = q
class CutOk (lo n c : Nat) : Prop where
 le : lo ≤ n
 lt : lo < c
class CutHi (hi c : Nat) : Prop where
 le : hi ≤ c
section
variable {P : Program} {ro : Option Nat} {N : Nat} {ds : List Deferred} {S : Nat→Prop} {w0 : World} {L : List (Nat × Value)} {H H1 H2 : List Ent} {ops : Array Oper} {rest : List Oper} {Q : Exit→Act→World→Prop} {p : Act→World→Prop} {x y : Operand}
theorem g_conv {d ty A B : Nat} {k q : IntKind} {n : Int} {pos : String} {aft : Array Go.Edge} [hx : Ev L x (.int k n)] [h : ConvI P A B q] (hd : okPut d N L = true) (hw : q.wrap n = n)
  (kk : G N ds S w0 ((d,.int q n)::L) H (wpListIn (FW ro) 0 P ops Q rest)) : G N ds S w0 L H (wpListIn (FW ro) 0 P ops Q (⟨some d,.convert A B x,ty,pos,aft,none⟩::rest)) :=
 fun a w hS=>step_val (v:=.int q n) (w':=w) rfl (fun _ h=>by cases h) (by simp [execOp,hx.eq _ _ _ hS.fr,run_convert_int w A B k n h.src h.dst,h.kind,hw]) (kk _ _ ⟨hS.fr.putOk hd _,hS.wd⟩)
instance {T b o n c s lo : Nat} [hx : Ev L x (.slice (some ⟨b,o,none⟩) n c)] [hl : Ev L y (.int .i64 (lo : Int))] [h : ElemSize P T s] [hc : CutOk lo n c] : RunsC P N ds S w0 L H (.slice T x (some y) none none) (.slice (some ⟨b,o + lo * s,none⟩) (n - lo) (c - lo)) :=
 ⟨fun _ h=>(by cases h),fun _ _ h=>(by cases h),fun _ _ _ _ _ a w hF _=>by
  have hr:=run_slice_l (P:=P) w T (some ⟨b,o,none⟩) n c h.und .i64 lo (by omega) (by have:=hc.le; omega)
  have hne : ¬ c = lo:=by have:=hc.lt; omega
  simp [execOp,hx.eq _ _ _ hF,hl.eq _ _ _ hF,run_sliceAt_slice (P:=P) w T _ _ _ _ h.und,hr,h.sz,sliced,hne,Addr.add_lit]⟩
instance {T n c s hi : Nat} {ad : Option Addr} [hx : Ev L x (.slice ad n c)] [hl : Ev L y (.int .i64 (hi : Int))] [h : ElemSize P T s] [hc : CutHi hi c] : RunsC P N ds S w0 L H (.slice T x none (some y) none) (.slice ad hi c) :=
 ⟨fun _ h=>(by cases h),fun _ _ h=>(by cases h),fun _ _ _ _ _ a w hF _=>by
  have hr:=run_slice_h (P:=P) w T ad n c h.und .i64 hi (by omega) (by have:=hc.le; omega)
  have hz : (if c = 0 then ad else ad.map fun q=>q.add (0 * s)) = ad:=by
   by_cases h0 : c = 0
   ·rw [if_pos h0]
   ·rw [if_neg h0]; cases ad <;> simp [Addr.add]
  simp only [Nat.zero_mul] at hz
  simp [execOp,hx.eq _ _ _ hF,hl.eq _ _ _ hF,run_sliceAt_slice (P:=P) w T _ _ _ _ h.und,hr,h.sz,sliced,hz]⟩
theorem g_copy {d ty dT sT e by' b o off n c dl dc sl sc sb so : Nat} {z : Value} (k : Nat) {xs : List Value} (cs : List Value) {pos : String} {aft : Array Go.Edge} [h : ElemInfo P dT e 1 by' [z]] [hx : Ev L x (.slice (some ⟨b,o + off,none⟩) dl dc)] [hy : Ev L y (.slice (some ⟨sb,so,none⟩) sl sc)]
  (hk : H[k]? = some (Ent.vec (some ⟨b,o,none⟩) n c e 1 xs)) (hd : okPut d N L = true) (hn : cs.length = min sl dl) (hsrc : ∀ w,Wd S w0 H w→∀ j v,cs[j]? = some v→w.cell? ⟨sb,so + j,none⟩ = some v) (hfit : off + cs.length ≤ xs.length) (h1 : ∀ v ∈ cs,v.oneCell' = true)
  (kk : G N ds S w0 ((d,.int .i64 cs.length)::L) (H.set k (Ent.vec (some ⟨b,o,none⟩) n c e 1 (xs.take off++cs++xs.drop (off + cs.length)))) (wpListIn (FW ro) 0 P ops Q rest)) : G N ds S w0 L H (wpListIn (FW ro) 0 P ops Q (⟨some d,.call { callee:=.builtin .copy,args:=#[x,y],argTypes:=#[dT,sT] },ty,pos,aft,none⟩::rest)):=fun a w hS=>by
 obtain ⟨hl,hnc,hcm,pre,sp,rfl,hsp,hb⟩:=hS.wd.vecAt hk
 obtain ⟨i,zz,hi,_,_,hi1,_⟩:=h.get
 have hlt : b < w.heap.size:=(Array.getElem?_eq_some_iff.1 hb).1
 have hr:=run_copy_row (P:=P) w dT sT ty e b (pre.length + off) dl dc ⟨sb,so,none⟩ sl sc _ e cs h.und (by rw [hi]; simp [hi1]) hb hn (fun j v hj=>by rw [Addr.add_lit]; exact hsrc w hS.wd j v hj) (by simp; omega) h1
 have hrow : (pre++xs++sp).take (pre.length + off)++cs++(pre++xs++sp).drop (pre.length + off + cs.length) = pre++(xs.take off++cs++xs.drop (off + cs.length))++sp:=by
  rw [List.append_assoc pre xs sp,List.take_length_add_append,Nat.add_assoc,List.drop_length_add_append,List.take_append_of_le_length (by omega),List.drop_append_of_le_length (by omega)]
  simp
 simp only at hr
 rw [hrow] at hr
 refine step_val (v:=.int .i64 cs.length) (w':=w.setRow b (pre++(xs.take off++cs++xs.drop (off + cs.length))++sp).toArray) rfl (fun _ h=>by cases h) ?_ ?_
 ·simp [execOp,resolve,invoke,builtin,hx.eq _ _ _ hS.fr,hy.eq _ _ _ hS.fr,hr,goInt]
 ·refine kk _ _ ⟨hS.fr.putOk hd _,?_⟩
  have hsz : ∀ q : Array Value,(w.setRow b q).heap.size = w.heap.size:=fun q=>by simp [World.setRow]
  refine hS.wd.turnAt hk ⟨rfl,rfl,rfl,by rw [hsz]; exact Nat.le_refl _,fun j _ hj=>setRow_other w b j _ fun e'=>hj (by simp [Ent.vec,e'])⟩ (fun b' hb'=>?_) fun w2 hw2=>?_
  ·simp only [Ent.vec,Option.map_some,Option.some.injEq] at hb' ⊢
   subst hb'
   exact ⟨.inl rfl,by rw [hsz]; exact hlt⟩
  ·have:=hw2 b (by simp [Ent.vec])
   refine ⟨?_,.inr ⟨b,pre,sp,rfl,hnc,hcm,hsp,?_⟩⟩
   ·simp only [List.length_append,List.length_take,List.length_drop]; omega
   ·rw [this]
    exact setRow_heap w b _ _ e _ hb
end
end Go.Proofs.YtpadjpplidlfeaaDoor
namespace Go.Proofs.YtpadjpplidlfeaaDoor
open Go Go.RowKit Go.Lib
namespace Mul
theorem maskN (a : Nat) (ha : a < 18446744073709551616) : bits .and .u64 (a : Int) 4294967295 = ((a % 4294967296 : Nat) : Int):=by
 have h:=bits_and_u64_nat a 4294967295 ha (by omega)
 have e : a &&& 4294967295 = a % 4294967296:=Nat.and_two_pow_sub_one_eq_mod a 32
 rw [e] at h
 exact h
theorem divN (a : Nat) : (a : Int) / 4294967296 = ((a / 4294967296 : Nat) : Int):=by omega
theorem mulN (a b : Nat) : (a : Int) * (b : Int) = ((a * b : Nat) : Int):=(Int.natCast_mul a b).symm
theorem addN (a b : Nat) : (a : Int) + (b : Int) = ((a + b : Nat) : Int):=(Int.natCast_add a b).symm
theorem wrapN (a : Nat) (ha : a < 18446744073709551616) : IntKind.u64.wrap (a : Int) = (a : Int):=by rw [IntKind.wrap_u64]; omega
theorem wrapM (a : Nat) : IntKind.u64.wrap (a : Int) = ((a % 18446744073709551616 : Nat) : Int):=by rw [IntKind.wrap_u64]; omega
end Mul
set_option maxHeartbeats 1000000 in
theorem mul64_c (x y : Nat) (hx : x < 18446744073709551616) (hy : y < 18446744073709551616) (w : World) :
  Calls Tryd.prog 89 #[.int .u64 x,.int .u64 y] w fun e w'=>e = .returned (.tuple #[.int .u64 ((x * y / 18446744073709551616 : Nat) : Int),.int .u64 ((x * y % 18446744073709551616 : Nat) : Int)])∧w' = w:=by
 obtain ⟨bd,bt,bw,hhi⟩:=Lib.mul64_hi x y hx hy
 have ba:=Lib.half_mul_le (a:=x / 4294967296) (b:=y / 4294967296) (by omega) (by omega)
 have bb:=Lib.half_mul_le (a:=x / 4294967296) (b:=y % 4294967296) (by omega) (by omega)
 have bc:=Lib.half_mul_le (a:=x % 4294967296) (b:=y / 4294967296) (by omega) (by omega)
 have ba' : x / 4294967296 * (y / 4294967296) < 18446744073709551616:=by omega
 have bb' : x / 4294967296 * (y % 4294967296) < 18446744073709551616:=by omega
 have bc' : x % 4294967296 * (y / 4294967296) < 18446744073709551616:=by omega
 have bh1 : x / 4294967296 * (y / 4294967296) + (x / 4294967296 * (y % 4294967296) + x % 4294967296 * (y % 4294967296) / 4294967296) / 4294967296 < 18446744073709551616:=by omega
 have bh : x / 4294967296 * (y / 4294967296) + (x / 4294967296 * (y % 4294967296) + x % 4294967296 * (y % 4294967296) / 4294967296) / 4294967296 + ((x / 4294967296 * (y % 4294967296) + x % 4294967296 * (y % 4294967296) / 4294967296) % 4294967296 + x % 4294967296 * (y / 4294967296)) / 4294967296 < 18446744073709551616:=by omega
 go_enter Tryd.func89,Tryd.ntmps89
 go_wp2
 simp only [Mul.maskN x hx,Mul.maskN y hy,Mul.divN,Mul.mulN,Mul.addN,Mul.wrapN _ bd,Mul.wrapN _ bb',Mul.wrapN _ bt,Mul.maskN _ bt,Mul.wrapN _ bc',Mul.wrapN _ bw,Mul.wrapN _ ba',Mul.wrapN _ bh1,Mul.wrapN _ bh,Mul.wrapM (x * y)]
 rw [hhi]
 go_ret2
 exact ⟨rfl,rfl⟩
instance : EnterOk Tryd.prog 89:=⟨Tryd.call89⟩
instance : EnterOk Tryd.prog 68:=⟨Tryd.call68⟩
attribute [local irreducible] wpListIn Code.wpIn Exit.then Exit.inBlock bodyPost wpQuiet wpAnyIn
theorem mul_c (x y : Nat) (hx : x < 18446744073709551616) (hy : y < 18446744073709551616) (hxy : x * y < 18446744073709551616) (w : World) :
  RetV Tryd.prog 68 [.int .u64 x,.int .u64 y] w (.tuple #[.int .u64 0,.int .u64 ((x * y : Nat) : Int)]):=by
 have h64 : ∀ w : World,Calls Tryd.prog 89 #[.int .u64 x,.int .u64 y] w fun e w'=>e = .returned (.tuple #[.int .u64 0,.int .u64 ((x * y : Nat) : Int)])∧w' = w:=by
  intro w
  have h:=mul64_c x y hx hy w
  rw [Nat.div_eq_of_lt hxy,Nat.mod_eq_of_lt hxy] at h
  exact h
 clear hx hy hxy
 refine ret_enter Tryd.func68 rfl Tryd.ntmps68 rfl (Wd.nil NoS w) ?_
 repeat (first|refine g_op rfl ?_|refine g_then ?_|refine g_nil ?_|refine g_region ?_|refine g_seq ?_|refine g_skip ?_|refine g_condF ?_)
 refine g_callV (u:=.tuple #[.int .u64 0,.int .u64 ((x * y : Nat) : Int)]) rfl (fun w' _=>callsIn_wide.2 ((h64 w').mono fun e w2 he=>⟨_,he.1,rfl,by rw [he.2]; exact Chg.refl _ _⟩)) ?_
 repeat (first|refine g_op rfl ?_|refine g_then ?_|refine g_nil ?_|refine g_region ?_|refine g_seq ?_|refine g_opS rfl ?_|refine g_ret ?_)
 exact g_ret2 rfl fun _ hw=>⟨rfl,hw.chg⟩
end Go.Proofs.YtpadjpplidlfeaaDoor
namespace Go.Proofs.YtpadjpplidlfeaaDoor
open Go Go.RowKit
theorem SlAt.at {α : Type} {w : World} {a : Option Addr} {n c s : Nat} {l : List α} {V : World→α→List Value→Prop} (h : SlAt w (.slice a n c) s l V) : n = l.length∧n ≤ c∧n ≤ 140737488355328∧∃ b o,(l ≠ []→a = some ⟨b,o,none⟩)∧∀ (i : Nat) x,l[i]? = some x→∃ cs,CellsAt w b (o + i * s) cs∧V w x cs:=by
 obtain ⟨_,_,_,b,o,e,h1,h2,h3,_,ha,hel⟩:=h
 simp only [Value.slice.injEq] at e
 obtain ⟨rfl,rfl,rfl⟩:=e
 exact ⟨h1,h2,h3,b,o,ha,hel⟩
open Classical in
noncomputable def killW (S : Nat→Prop) (w : World) : World:={ w with heap:=Array.ofFn (n:=w.heap.size) fun i=>if S i.1 then .deferred (some []) else w.heap[i.1] }
theorem kill_size (S : Nat→Prop) (w : World) : (killW S w).heap.size = w.heap.size:=by simp [killW]
theorem kill_get {S : Nat→Prop} (w : World) {b : Nat} (h : ¬ S b) : (killW S w).heap[b]? = w.heap[b]?:=by
 unfold killW
 by_cases hb : b < w.heap.size
 ·simp [hb,h]
 ·rw [Array.getElem?_eq_none (by simpa using hb),Array.getElem?_eq_none (by omega)]
theorem kill_none {S : Nat→Prop} (w : World) {p : Addr} (h : S p.block) : (killW S w).cell? p = none:=by
 unfold killW World.cell?
 by_cases hb : p.block < w.heap.size
 ·simp [hb,h]
 ·rw [Array.getElem?_eq_none (by simpa using hb)]
theorem kill_cell {S : Nat→Prop} {w : World} {p : Addr} {v : Value} (h : (killW S w).cell? p = some v) : ¬ S p.block∧w.cell? p = some v:=by
 have hn : ¬ S p.block:=fun hs=>by rw [kill_none w hs] at h; cases h
 exact ⟨hn,by rw [← h]; exact (World.cell?_of_block (kill_get w hn)).symm⟩
theorem kill_chg (S : Nat→Prop) (w : World) : Chg S (killW S w) w:=⟨rfl,rfl,rfl,by rw [kill_size]; exact Nat.le_refl _,fun k _ hk=>(kill_get w hk).symm⟩
section
variable {P : Program} {N : Nat} {ds : List Deferred} {S : Nat→Prop} {w0 w w' : World} {L : List (Nat × Value)} {H H1 H2 E : List Ent} {p : Act→World→Prop}
theorem Wd.beside (h : Wd S w0 (H1++H2) w) {e : Ent} (he : e ∈ H2) : e.ok (killW (fps H1) w):=by
 refine h.ok e (List.mem_append_right _ he) _ (by rw [kill_size]; exact Nat.le_refl _) fun b hb=>kill_get w fun ⟨f,hf,hfb⟩=>?_
 exact (List.pairwise_append.1 h.apart).2.2 f hf e he b hfb hb
theorem Wd.besides (h : Wd S w0 (H1++H2) w) : Wd (fun _=>True) (killW (fps H1) w) H2 (killW (fps H1) w):=by
 have hk : ∀ e ∈ H2,∀ b,e.fp b→¬ fps H1 b:=fun e he b hb ⟨f,hf,hfb⟩=>(List.pairwise_append.1 h.apart).2.2 f hf e he b hfb hb
 refine ⟨Chg.refl _ _,fun e he b hb=>⟨.inl trivial,by rw [kill_size]; exact (h.own e (List.mem_append_right _ he) b hb).2⟩,fun e he w' hs hw=>?_,(List.pairwise_append.1 h.apart).2.1⟩
 exact h.ok e (List.mem_append_right _ he) w' (by rwa [kill_size] at hs) fun b hb=>(hw b hb).trans (kill_get w (hk e he b hb))
theorem Wd.prek (h : Wd S w0 (H1++H2) w) : Wd (fps H1) (killW (fps H1) w) H1 w :=
 ⟨kill_chg _ _,fun e he b hb=>⟨.inl ⟨e,he,hb⟩,(h.own e (List.mem_append_left _ he) b hb).2⟩,fun e he=>h.ok e (List.mem_append_left _ he),(List.pairwise_append.1 h.apart).1⟩
theorem Wd.unkill {T : Nat→Prop} (h : Wd T (killW T w) E w') : Wd T w E w' :=
 ⟨⟨h.chg.os,h.chg.tape,h.chg.output,by have:=h.chg.size; rwa [kill_size] at this,fun k hk hT=>(h.chg.block k (by rw [kill_size]; exact hk) hT).trans (kill_get w hT)⟩,fun e he b hb=>by have:=h.own e he b hb; rwa [kill_size] at this,h.ok,h.apart⟩
theorem Wd.killKeep {T : Nat→Prop} (h : Wd T (killW T w) E w') : ∀ p v,(killW T w).cell? p = some v→w'.cell? p = some v:=fun p v hc=>by
 have hlt:=World.block_lt_of_cell? _ p hc
 rw [← hc]
 exact World.cell?_of_block (h.chg.block _ hlt (kill_cell hc).1)
theorem killOldIs {T : Nat→Prop} {b o : Nat} {cs : List Value} (hc : CellsAt (killW T w) b o cs) (hne : cs ≠ []) : OldIs T b:=by
 cases cs with
 | nil=>exact absurd rfl hne
 | cons c cs=>exact ⟨(kill_cell (hc 0 c rfl)).1⟩
theorem g_holdK (h : ∀ w,Wd S w0 (H1++H2) w→G N ds (fps H1) (killW (fps H1) w) L H1 p) : G N ds S w0 L (H1++H2) p:=fun a w hS=>h w hS.wd a w ⟨hS.fr,hS.wd.prek⟩
end
end Go.Proofs.YtpadjpplidlfeaaDoor
namespace Go.Proofs.YtpadjpplidlfeaaDoor
open Go Go.RowKit
attribute [local irreducible] wpListIn Code.wpIn Exit.then Exit.inBlock bodyPost wpQuiet wpAnyIn wpAnyH
set_option maxHeartbeats 4000000
instance : ConvI Tryd.prog 3 121 .u64:=⟨by kernel_rfl,by kernel_rfl,by kernel_rfl⟩
instance : ConvI Tryd.prog 121 3 .i64:=⟨by kernel_rfl,by kernel_rfl,by kernel_rfl⟩
theorem rep_copy (z y : Value) (m n : Nat) (_hm : m ≤ n) (k : Nat) (hk : k = min (n - m) m) : (List.replicate m z++List.replicate (n - m) y).take m++List.replicate k z++(List.replicate m z++List.replicate (n - m) y).drop (m + k) = List.replicate (m + k) z++List.replicate (n - (m + k)) y:=by
 rw [List.take_append_of_le_length (by simp),List.take_of_length_le (by simp),List.drop_append,List.drop_of_length_le (by rw [List.length_replicate]; omega)]
 simp only [List.length_replicate,List.nil_append,List.drop_replicate]
 have e : n - m - (m + k - m) = n - (m + k):=by omega
 rw [← List.replicate_append_replicate,e]
theorem repeat_c (b0 o0 n : Nat) (z : Int) (w : World) (hx : w.cell? ⟨b0,o0,none⟩ = some (.int .i64 z)) (hn : 0 < n) (hn' : n ≤ 1000) :
  Ret Tryd.prog 44 [.slice (some ⟨b0,o0,none⟩) 1 1,.int .i64 n] w fun u w'=>∃ a : Nat,u = .slice (some ⟨a,0,none⟩) n n∧Wd NoS w [Ent.vec (some ⟨a,0,none⟩) n n 3 1 (List.replicate n (.int .i64 z))] w'∧True:=by
 refine ret_enter Tryd.func44 rfl Tryd.ntmps44 rfl (Wd.nil NoS w) ?_
 repeat (first|refine g_op rfl ?_|refine g_then ?_|refine g_nil ?_|refine g_region ?_|refine g_seq ?_|refine g_skip ?_|refine g_condF ?_)
 refine g_conv rfl rfl ?_
 repeat (refine g_op rfl ?_)
 refine g_conv rfl (by rw [IntKind.wrap_u64]; omega) ?_
 refine g_callV rfl (fun w' _=>mul_c 1 n (by omega) (by omega) (by omega) w') ?_
 rw [Nat.one_mul]
 repeat (first|refine g_op rfl ?_|refine g_then ?_|refine g_nil ?_|refine g_region ?_|refine g_seq ?_|refine g_open ?_)
 rw [show decide (9223372036854775807 < (n : Int)) = false by simp; omega,show decide ((0 : Int) < 0) = false from rfl]
 repeat (first|refine g_op rfl ?_|refine g_then ?_|refine g_nil ?_|refine g_region ?_|refine g_seq ?_|refine g_skip ?_|refine g_condF ?_)
 refine g_conv rfl ?_ ?_
 ·rw [IntKind.wrap_i64]; omega
 repeat (first|refine g_op rfl ?_|refine g_then ?_|refine g_nil ?_|refine g_region ?_|refine g_seq ?_|refine g_make rfl (by omega) (by omega) fun _ _=>?_)
 rename_i a _
 refine g_copy (b:=a) (o:=0) (off:=0) 0 (List.replicate 1 (.int .i64 z)) rfl rfl (by simp only [List.length_replicate]; omega) (fun w' hw j v hj=>?_) (by simp only [List.length_replicate]; omega) (fun v hv=>by rw [List.eq_of_mem_replicate hv]; rfl) ?_
 ·match j,hj with
  | 0,hj =>
   obtain rfl : _ = v:=by simpa using hj
   exact cell_keep hw.chg hx
 have e0:=rep_copy (.int .i64 z) (.int .i64 0) 0 n (by omega) 1
 simp only [List.length_replicate,List.set_cons_zero]
 rw [show (List.replicate n (Value.int .i64 0)).take 0++List.replicate 1 (.int .i64 z)++(List.replicate n (.int .i64 0)).drop (0 + 1) = List.replicate 1 (.int .i64 z)++List.replicate (n - 1) (.int .i64 0) by simp [List.drop_replicate]]
 repeat (first|refine g_op rfl ?_|refine g_then ?_|refine g_nil ?_|refine g_seq ?_|refine g_block ?_)
 refine g_loop (fun (m : Nat)=>1 ≤ m∧m ≤ n) (fun m=>[(8,.int .i64 m),(7,.slice (some ⟨a,0,none⟩) n n)]) (fun m=>[Ent.vec (some ⟨a,0,none⟩) n n 3 1 (List.replicate m (.int .i64 z)++List.replicate (n - m) (.int .i64 0))]) (fun m=>n - m) 1 ⟨Nat.le_refl _,hn⟩ (g_done (by repeat (first|exact trivial|refine ⟨rfl,?_⟩)) (.refl _)) fun m ⟨hm1,hmn⟩=>?_
 repeat (first|refine g_op rfl ?_|refine g_then ?_|refine g_nil ?_|refine g_region ?_|refine g_seq ?_)
 refine g_cond (fun h1=>?_) (fun h1=>?_)
 ·have hlt : m < n:=by simpa using h1
  have hc1 : CutOk m n n:=⟨by omega,hlt⟩
  have hc2 : CutHi m n:=⟨by omega⟩
  repeat (first|refine g_then ?_|refine g_block ?_|refine g_skip ?_)
  refine g_drawW [(8,.int .i64 ((m + min (n - m) m : Nat) : Int)),(7,.slice (some ⟨a,0,none⟩) n n)] [Ent.vec (some ⟨a,0,none⟩) n n 3 1 (List.replicate (m + min (n - m) m) (.int .i64 z)++List.replicate (n - (m + min (n - m) m)) (.int .i64 0))] mixed ?_ ?_
  ·repeat' (first|refine g_take 0 rfl (by decide +kernel) ?_|refine g_take 1 rfl (by decide +kernel) ?_|refine g_take 2 rfl (by decide +kernel) ?_|refine g_take 3 rfl (by decide +kernel) ?_|refine g_take 4 rfl (by decide +kernel) ?_|refine g_take 5 rfl (by decide +kernel) ?_|refine g_take 6 rfl (by decide +kernel) ?_|refine g_any (by decide +kernel) ?_|refine any_nil|refine any_skip (by decide +kernel) ?_|refine any_cons ?_ ?_)
   rw [Nat.mul_one]
   refine g_copy (b:=a) (o:=0) (off:=m) 0 (List.replicate (min (n - m) m) (.int .i64 z)) rfl rfl (by simp only [List.length_replicate]; omega) (fun w' hw j v hj=>?_) (by simp only [List.length_replicate,List.length_append]; omega) (fun v hv=>by rw [List.eq_of_mem_replicate hv]; rfl) ?_
   ·rw [List.getElem?_replicate] at hj
    split at hj
    ·exact hw.vecCell (k:=0) rfl (by rw [List.getElem?_append_left (by rw [List.length_replicate]; omega),List.getElem?_replicate,if_pos (by omega)]; exact hj)
    ·cases hj
   simp only [List.length_replicate,List.set_cons_zero]
   rw [rep_copy _ _ m n (by omega) _ rfl]
   repeat' (first|refine g_any0 (by decide +kernel) ?_|refine g_any (by decide +kernel) ?_|refine any_nil|refine any_skip (by decide +kernel) ?_|refine any_cons ?_ ?_|refine g_then ?_|refine g_nil ?_|refine g_opS rfl ?_|refine g_add rfl (by omega) (by omega) ?_)
   all_goals
    rw [← Int.natCast_add]
   skip
   all_goals exact g_done (by repeat (first|exact trivial|refine ⟨rfl,?_⟩)) (.refl _)
  ·repeat (first|refine g_then ?_|refine g_inBlock ?_)
   exact g_next (m + min (n - m) m) ⟨by omega,by omega⟩ (by omega) (by repeat (first|exact trivial|refine ⟨rfl,?_⟩)) (.refl _)
 ·have hge : m = n:=by have:=h1; simp at this; omega
  subst hge
  rw [Nat.sub_self,List.replicate_zero,List.append_nil]
  repeat (first|refine g_op rfl ?_|refine g_then ?_|refine g_nil ?_|refine g_region ?_|refine g_seq ?_|refine g_exit ?_|refine g_thenExit ?_|refine g_exitHere ?_|refine g_ret ?_)
  exact g_ret1 rfl fun w' hw=>⟨a,rfl,hw,trivial⟩
end Go.Proofs.YtpadjpplidlfeaaDoor

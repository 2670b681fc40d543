/- Texts joined: RunH Grow RunS. -/
import Derived.Test.YtdbljcahlpkgdaaGreatDoorGD
import Derived.Test.YtdbljcahlpkgdaaGreatDoorGX
import Derived.Test.YtdbljcahlpkgdaaGreatDoorHD
namespace Go.Proofs.YtdbljcahlpkgdaaGreatDoor
open Go Go.RowKit
attribute [local irreducible] wpListIn Code.wpIn Exit.then Exit.inBlock bodyPost wpQuiet wpAnyIn wpAnyH bodyPostM oneH
set_option maxHeartbeats 8000000
theorem mainF_c (v : Value) (l : List LFunc) (w0 : World) (hv : SlAt w0 v 4 l FuncV) :
  RetV Tryz.prog 24 [v,.func (.func 86) #[] #[]] w0 (.int .i64 (mainAt l)):=by
 obtain ⟨a,n,c,b,o,rfl,hn,hnc,hnb,hc,ha,hel⟩:=hv
 have one : ∀ (w : World) (x : LFunc) (v : Value),RetV Tryz.prog 86 [.agg #[.string x.name,.int .i64 x.params,.int .i64 x.regs,v]] w (.bool (isMain x)):=by
  intro w x v
  refine ret_enter Tryz.func86 rfl Tryz.ntmps86 rfl (Wd.nil NoS w) ?_
  repeat (first|refine g_op rfl ?_|refine g_then ?_|refine g_nil ?_|refine g_region ?_|refine g_seq ?_|refine g_opS rfl ?_|refine g_box rfl fun _ _=>?_|refine g_ret ?_)
  exact g_retV rfl rfl
 refine ret_enter Tryz.func24 rfl Tryz.ntmps24 rfl (Wd.nil NoS w0) ?_
 repeat (first|refine g_op rfl ?_|refine g_then ?_|refine g_nil ?_|refine g_region ?_|refine g_seq ?_|refine g_block ?_)
 refine g_loop (fun (i : Nat)=>i ≤ n∧∀ j t,j < i→l[j]? = some t→isMain t = false) (fun i=>[(8,.int .i64 i),(0,.slice a n c),(1,.func (.func 86) #[] #[]),(7,.int .i64 n)]) (fun _=>[]) (fun i=>n - i) 0 ⟨Nat.zero_le _,by simp⟩ (g_done (by repeat (first|exact trivial|refine ⟨rfl,?_⟩)) (by simp)) fun i ⟨hi,hall⟩=>?_
 repeat (first|refine g_op rfl ?_|refine g_then ?_|refine g_nil ?_|refine g_region ?_|refine g_seq ?_)
 refine g_cond (fun h1=>?_) (fun h1=>?_)
 ·have hlt : i < n:=by simpa using h1
  obtain ⟨x,hx⟩:=get_lt hn hlt
  have had : AddrIs a b o:=⟨ha (ne_of_get hx)⟩
  have hli : LtIs i n:=⟨hlt⟩
  obtain ⟨cs,hcs,bv,rfl,_⟩:=hel i x hx
  have hci : CellsIs w0 b (o + i * 4) _:=⟨hcs⟩
  repeat (first|refine g_op rfl ?_|refine g_then ?_|refine g_nil ?_|refine g_region ?_|refine g_seq ?_|refine g_block ?_|refine g_skip ?_)
  refine g_callFV rfl (us:=[]) (vs:=[.agg #[.string x.name,.int .i64 x.params,.int .i64 x.regs,bv]]) (xs:=[]) (fun w _=>one w x bv) ?_
  repeat (first|refine g_then ?_|refine g_nil ?_)
  refine g_cond (fun h2=>?_) (fun h2=>?_)
  ·repeat (first|refine g_op rfl ?_|refine g_then ?_|refine g_nil ?_|refine g_region ?_|refine g_seq ?_|refine g_ret ?_|refine g_thenRet ?_|refine g_blockRet ?_)
   refine g_retV rfl ?_
   have : l.findIdx? isMain = some i:=by
    rw [List.findIdx?_eq_some_iff_getElem]
    have hil : i < l.length:=by omega
    have hxi : l[i] = x:=(List.getElem?_eq_some_iff.1 hx).2
    exact ⟨hil,by rw [hxi]; exact h2,fun j hj=>by have:=hall j l[j] hj (List.getElem?_eq_getElem (by omega)); simp [this]⟩
   simp [mainAt,this]
  ·repeat (first|refine g_then ?_|refine g_nil ?_|refine g_region ?_|refine g_opS rfl ?_|refine g_inBlock ?_|refine g_skip ?_|refine g_add rfl (by omega) (by omega) ?_)
   refine g_next (i + 1) ⟨hlt,fun j t hj ht=>?_⟩ (by omega) (by repeat (first|exact trivial|refine ⟨rfl,?_⟩)) (by simp)
   by_cases hji : j = i
   ·subst hji
    rw [hx] at ht
    simp only [Option.some.injEq] at ht
    subst ht; exact h2
   ·exact hall j t (by omega) ht
 ·have hge : i = n:=by have:=h1; simp at this; omega
  repeat (first|refine g_op rfl ?_|refine g_then ?_|refine g_nil ?_|refine g_region ?_|refine g_seq ?_|refine g_exit ?_|refine g_thenExit ?_|refine g_exitHere ?_|refine g_ret ?_)
  refine g_retV rfl ?_
  have : l.findIdx? isMain = none:=by
   rw [List.findIdx?_eq_none_iff]
   intro t ht
   obtain ⟨j,hj⟩:=List.getElem?_of_mem ht
   exact hall j t (by have:=(List.getElem?_eq_some_iff.1 hj).1; omega) hj
  simp [mainAt,this]
theorem tabOf_c (u : LUnit) (hl : light u) (h0 : (checkL u).1 = 0) (k : Nat) (X : LFunc) (hX : u.funcs[k]? = some X) (hlen : X.blocks.length ≤ 100) (hgood : GoodB X.blocks) (g fs : Value) (w0 : World) (hg : SlAt w0 g 3 u.globals GlobalV) (hf : SlAt w0 fs 4 u.funcs FuncV) (hways : CellsAt w0 0 0 waysC) :
  Ret Tryz.prog 84 [.agg #[g,fs],.int .i64 k] w0 fun u w'=>∃ x : (Option Addr × Nat × Nat) × (Nat→Prop),u = .tuple #[.slice x.1.1 x.1.2.1 x.1.2.2,.agg #[.int .i64 0,.int .i64 0]]∧Wd NoS w0 [⟨x.2,fun w=>SlAt w (.slice x.1.1 x.1.2.1 x.1.2.2) 1 (aheadL X.blocks) RowV⟩] w'∧True:=by
 have hg0:=hg
 have hf0:=hf
 obtain ⟨ga,gn,gc,gb,go,rfl,_⟩:=hg
 obtain ⟨fa,fn,fc,fb,fo,rfl,hfn,hfnc,hfnb,hfc,hfa,hfel⟩:=hf
 have hkl : k < fn:=by rw [hfn]; exact (List.getElem?_eq_some_iff.1 hX).1
 have had : AddrIs fa fb fo:=⟨hfa (ne_of_get hX)⟩
 have hli : LtIs k fn:=⟨hkl⟩
 obtain ⟨cs,hcs,bv,rfl,hpi,hri,hbv⟩:=hfel k X hX
 have hci : CellsIs w0 fb (fo + k * 4) _:=⟨hcs⟩
 refine ret_enter Tryz.func84 rfl Tryz.ntmps84 rfl (Wd.nil NoS w0) ?_
 repeat (first|refine g_op rfl ?_|refine g_then ?_|refine g_nil ?_|refine g_region ?_|refine g_seq ?_|refine g_box rfl fun _ _=>?_|refine g_alloc rfl fun _ _=>?_)
 refine g_callV rfl (fun w hw=>check_c u hl _ _ w (hg0.keep keeps_global hw.chg) (hf0.keep keeps_func hw.chg) (hways.keep hw.chg)) ?_
 rw [checkL_zero h0]
 repeat (first|refine g_op rfl ?_|refine g_then ?_|refine g_nil ?_|refine g_region ?_|refine g_seq ?_|refine g_alloc rfl fun _ _=>?_|refine g_storeAgg ?_|refine g_skip ?_|refine g_condF ?_|refine g_sub rfl (by omega) (by omega) ?_)
 refine g_callV rfl (fun w _=>within_c _ _ _ w) ?_
 rw [show within (k : Int) 0 ((fn : Int) - 1) = true by simp [within]; omega]
 repeat (first|refine g_op rfl ?_|refine g_then ?_|refine g_nil ?_|refine g_region ?_|refine g_seq ?_|refine g_skip ?_|refine g_condF ?_)
 refine g_callE (val:=fun x : (Option Addr × Nat × Nat) × (Nat→Prop)=>.slice x.1.1 x.1.2.1 x.1.2.2) (E:=fun x=>[⟨x.2,fun w=>SlAt w (.slice x.1.1 x.1.2.1 x.1.2.2) 1 (aheadL X.blocks) RowV⟩]) (φ:=fun _=>True) rfl (fun w hw=>ahead_c _ _ _ X.blocks _ w (hbv.keep keeps_block hw.chg) hlen hgood) fun x _=>?_
 simp only [List.cons_append,List.nil_append]
 repeat (first|refine g_op rfl ?_|refine g_then ?_|refine g_nil ?_|refine g_opS rfl ?_|refine g_storeAgg ?_|refine g_ret ?_)
 refine g_retTC rfl fun w' hw'=>⟨x,rfl,hw'.sub (.cons_cons _ (List.nil_sublist _)),trivial⟩
end Go.Proofs.YtdbljcahlpkgdaaGreatDoor
namespace Go.Proofs.YtdbljcahlpkgdaaGreatDoor
open Go Go.RowKit
set_option maxHeartbeats 2000000
theorem zeroCells_one (z : Value) (m : Nat) : (Builtin.zeroCells #[z] m).toList = List.replicate m z:=by
 apply List.ext_getElem?
 intro i
 simp [Builtin.zeroCells,List.getElem?_replicate,List.getElem?_range]
 by_cases h : i < m
 ·simp [h,Nat.mod_one]
 ·simp [h]
section
variable {P : Program} {N : Nat} {ds : List Deferred} {S : Nat→Prop} {w0 w : World} {L : List (Nat × Value)} {H Hr : List Ent} {x y : Operand} {M : Act→World→Prop} {l : List Oper} {fuel : Nat} {listed : Array Bool}
theorem Wd.appendZ (hW : Wd S w0 H w) {T U ty e by' : Nat} {kd : IntKind} {z : Value} (h : ElemInfo P T e 1 by' [z]) (hu : P.underlying U = some (.int kd)) (hz1 : z.oneCell' = true) {k : Nat} {ad : Option Addr} {n c : Nat} {xs : List Value} (hk : H[k]? = some (Ent.vec ad n c e 1 xs))
  (m : Nat) (hbytes : (n + m) * by' ≤ 140737488355328) (h63 : n + m ≤ 140737488355328) (hby : 0 < by') :
  ∃ a' c' w',(Builtin.append_ #[T,U] ty #[.slice ad n c,.int .i64 m]).run P w = .ok (.slice a' (n + m) c') w'∧Wd S w0 (H.set k (Ent.vec a' (n + m) c' e 1 (xs++List.replicate m z))) w':=by
 obtain ⟨i,zz,hi,hz,hcs,h2,h3⟩:=h.get
 subst h3
 obtain ⟨hx1,hx2⟩:=hW.get hk
 rw [Nat.mul_one] at hx1
 have hcs' : zz.cells = #[z]:=by rw [hcs]
 have hwr : IntKind.i64.wrap (m : Int) = m:=wrap_in _ (by omega) (by omega)
 have hm48 : ¬ (281474976710656 : Int) < (m : Int) * (i.bytes : Int):=by
  have : m * i.bytes ≤ (n + m) * i.bytes:=Nat.mul_le_mul_right _ (by omega)
  have h9 : ((m * i.bytes : Nat) : Int) ≤ 140737488355328:=by omega
  rw [Int.natCast_mul] at h9
  omega
 have hm0 : ¬ (m : Int) < 0:=by omega
 have hnc : n ≤ c:=by rcases hx2 with ⟨_,h2,h3⟩|⟨_,_,_,_,h3,_⟩ <;> omega
 have hlen : (xs++List.replicate m z).length = (n + m) * 1:=by simp [hx1]
 have hzl:=zeroCells_one z
 have grown : ∀ old,Wd S w0 (H.set k (Ent.vec (some ⟨w.heap.size,0,none⟩) (n + m) (grownCap w (n + m) old e) e 1 (xs++List.replicate m z))) (w.drew.alloc (.cells (xs.toArray++(Builtin.zeroCells #[z] m++Builtin.zeroCells #[z] (grownCap w (n + m) old e - (n + m)))) e)):=by
  intro old
  have hge:=grownCap_ge w (n + m) old e
  have hcm : grownCap w (n + m) old e ≤ maxLen:=grownCap_le_maxLen w (n + m) old e (by simp [maxLen]; omega)
  refine hW.turnAt hk ⟨rfl,rfl,rfl,by simp,fun b hb _=>heap_alloc_old w.drew _ hb⟩ (fun b hb=>?_) fun w2 hw2=>?_
  ·simp only [Ent.vec,Option.map_some,Option.some.injEq] at hb
   subst hb
   exact ⟨.inr (Nat.le_refl _),by simp⟩
  ·have:=hw2 w.heap.size (by simp [Ent.vec])
   refine ⟨hlen,.inr ⟨w.heap.size,[],(Builtin.zeroCells #[z] (grownCap w (n + m) old e - (n + m))).toList,rfl,hge,hcm,?_,?_⟩⟩
   ·rw [hzl]; simp
   ·rw [this]
    have e1 : (xs.toArray++(Builtin.zeroCells #[z] m++Builtin.zeroCells #[z] (grownCap w (n + m) old e - (n + m)))) = ([]++(xs++List.replicate m z)++(Builtin.zeroCells #[z] (grownCap w (n + m) old e - (n + m))).toList).toArray:=by
     apply Array.toList_inj.1
     simp only [Array.toList_append,List.nil_append,hzl,List.append_assoc]
    rw [e1]
    exact heap_alloc_new w.drew _
 have h63' : ¬ ((9223372036854775807 : Int) < ((n : Int) + (m : Int))):=by omega
 have hai : ∀ w : World,(asIntOf (.int .i64 (m : Int))).run P w = .ok (.i64,(m : Int)) w:=fun _=>rfl
 by_cases h0 : m = 0
 ·subst h0
  refine ⟨ad,c,w,?_,by rw [List.replicate_zero,List.append_nil,Nat.add_zero,set_self hk]; exact hW⟩
  have hw0 : IntKind.i64.wrap 0 = 0:=hwr
  have hai0 : ∀ w : World,(asIntOf (.int .i64 0)).run P w = .ok (.i64,0) w:=hai
  cases ad <;> simp [Builtin.append_,run_underlying h.und,run_underlying hu,sizeOf,typeInfo,hi,asInt,hai0,hw0,hnc,storeCells]
 by_cases hroom : n + m ≤ c
 ·rcases hx2 with ⟨rfl,rfl,rfl⟩|⟨g,pre,sp,rfl,h4,h5,h6,h7⟩
  ·omega
  have hst:=run_storeCells_at P g (pre.length + n * i.size) e (List.replicate m z) 0 (pre++xs++sp).toArray w h7 (by simp [hx1,h2]; omega) (fun u hu'=>by rw [List.eq_of_mem_replicate hu']; exact hz1)
  simp only [Nat.add_zero,h2,Nat.mul_one] at hst
  have etk : ((pre++xs++sp).toArray.toList.take (pre.length + n)++List.replicate m z++(pre++xs++sp).toArray.toList.drop (pre.length + n + (List.replicate m z).length)) = pre++(xs++List.replicate m z)++sp.drop m:=by
   have e1 : pre.length + n = (pre++xs).length:=by simp [hx1]
   have e2 : (pre++xs++sp).toArray.toList = (pre++xs)++sp:=rfl
   rw [e1,e2,List.take_left,List.drop_append]
   simp [List.append_assoc]
  rw [etk] at hst
  refine ⟨_,_,_,by simp [Builtin.append_,run_underlying h.und,run_underlying hu,sizeOf,typeInfo,zeroValue,hi,hz,hcs',asInt,hai,hwr,hm0,hm48,h2,h0,hroom,hzl,Addr.add_lit,hst]; exact ⟨⟨rfl,rfl⟩,rfl⟩,?_⟩
  have hlt : g < w.heap.size:=(Array.getElem?_eq_some_iff.1 h7).1
  have hsz : ∀ cs,(w.setRow g cs).heap.size = w.heap.size:=fun cs=>by simp [World.setRow]
  refine hW.turnAt hk ⟨rfl,rfl,rfl,by rw [hsz]; exact Nat.le_refl _,fun b hb hne=>setRow_other w g b _ (fun e=>hne (by simp [Ent.vec,e]))⟩ (fun b hb=>?_) fun w2 hw2=>?_
  ·simp only [Ent.vec,Option.map_some,Option.some.injEq] at hb ⊢
   subst hb
   exact ⟨.inl rfl,by rw [hsz]; exact hlt⟩
  ·have:=hw2 g (by simp [Ent.vec])
   refine ⟨hlen,.inr ⟨g,pre,sp.drop m,rfl,hroom,h5,?_,?_⟩⟩
   ·rw [List.length_drop]
    omega
   ·rw [this]
    have:=setRow_heap w g _ (pre++(xs++(List.replicate m z++List.drop m sp))).toArray e _ h7
    simpa using this
 ·rcases hx2 with ⟨rfl,rfl,rfl⟩|⟨g,pre,sp,rfl,h4,h5,h6,h7⟩
  ·have : xs = []:=List.eq_nil_of_length_eq_zero hx1
   subst this
   have hfit : ¬ 281474976710656 < Builtin.nextslicecap m 0 * i.bytes:=by
    have:=growslice_fits (need:=0 + m) (old:=0) (by omega) hbytes
    simp only [Nat.zero_add] at this
    omega
   have h63z : ¬ (9223372036854775807 : Int) < (m : Int):=by omega
   have hgr:=grown 0
   simp only [Nat.zero_add,List.nil_append,Array.empty_append] at hgr ⊢
   refine ⟨_,_,_,?_,hgr⟩
   simp [Builtin.append_,run_underlying h.und,run_underlying hu,sizeOf,typeInfo,zeroValue,hi,hz,hcs',asInt,hai,hwr,hm0,hm48,h2,h0,h63z,hfit,Question.forced,run_firstCells_none,newRow,grownCap]
  ·have hfit : ¬ 281474976710656 < Builtin.nextslicecap (n + m) c * i.bytes:=by
    have:=growslice_fits (need:=n + m) (old:=c) (by omega) hbytes
    omega
   have holds : ∀ j u,xs[j]? = some u→w.drew.cell? ((⟨g,pre.length,none⟩ : Addr).add j) = some u:=fun j u hj=>by
    rw [Addr.add_lit]
    exact hW.vecCell hk hj
   have hfo:=run_firstCells_some (P:=P) w.drew i.size n ⟨g,pre.length,none⟩ n c xs (by rw [h2,Nat.mul_one]; exact hx1) holds
   rw [h2] at hfo
   refine ⟨_,_,_,?_,grown c⟩
   simp [Builtin.append_,run_underlying h.und,run_underlying hu,sizeOf,typeInfo,zeroValue,hi,hz,hcs',asInt,hai,hwr,hm0,hm48,h2,h0,hroom,h63',hfit,Question.forced,hfo,newRow,grownCap]
theorem o_appendZ {d ty T U e by' : Nat} {kd : IntKind} {z : Value} {pos : String} {aft : Array Go.Edge} {ad : Option Addr} {n c m : Nat} (i0 : Nat) {k : Nat} {xs : List Value} [ho : ListAt l i0 ⟨some d,.call { callee:=.builtin .append,args:=#[x,y],argTypes:=#[T,U] },ty,pos,aft,none⟩] [h : ElemInfo P T e 1 by' [z]] [hx : Ev L x (.slice ad n c)] [hy : Ev L y (.int .i64 m)]
  [hv : VecIn H ad n c k e 1 xs] (hu : P.underlying U = some (.int kd)) (hd : okPut d N L = true) (hz1 : z.oneCell' = true) (hbytes : (n + m) * by' ≤ 140737488355328) (h63 : n + m ≤ 140737488355328) (hby : 0 < by') (hH : ∀ e',Hr.Sublist (H.set k e'))
  (kk : ∀ a' c',G N ds S w0 ((d,.slice a' (n + m) c')::L) (H.set k (Ent.vec a' (n + m) c' e 1 (xs++List.replicate m z))) (wpAnyH P .any l.toArray (OnlyN M) (Wd S w0 Hr) fuel (listed.setIfInBounds i0 true))) : G N ds S w0 L H (oneH P l M (Wd S w0 Hr) fuel listed i0) :=
 o_valH i0 rfl fun a w hS=>by
  obtain ⟨a',c',w',hr,hw'⟩:=hS.wd.appendZ (P:=P) (ty:=ty) h hu hz1 hv.at' m hbytes h63 hby
  exact ⟨.slice a' (n + m) c',w',by simp [execOp,resolve,invoke,builtin,hx.eq _ _ _ hS.fr,hy.eq _ _ _ hS.fr,hr],hw'.sub (hH _),kk a' c' _ _ ⟨hS.fr.putOk hd _,hw'⟩⟩
theorem o_make {d ty T e by' n : Nat} {z1 z2 : Int} {z : Value} {pos : String} {aft : Array Go.Edge} (i0 : Nat) [ho : ListAt l i0 ⟨some d,.makeSlice T x y,ty,pos,aft,none⟩] [h : ElemInfo P T e 1 by' [z]] [hx : Ev L x (.int .i64 z1)] [hz1 : NatIs z1 n] [hy : Ev L y (.int .i64 z2)] [hz2 : NatIs z2 n] (hd : okPut d N L = true) (hb : by' * n ≤ 281474976710656) (hm : n ≤ 140737488355328) (hH : Hr.Sublist H)
  (k : ∀ b,w0.heap.size ≤ b→G N ds S w0 ((d,.slice (some ⟨b,0,none⟩) n n)::L) (Ent.vec (some ⟨b,0,none⟩) n n e 1 (List.replicate n z)::H) (wpAnyH P .any l.toArray (OnlyN M) (Wd S w0 Hr) fuel (listed.setIfInBounds i0 true))) : G N ds S w0 L H (oneH P l M (Wd S w0 Hr) fuel listed i0) :=
 o_valH i0 rfl fun a w hS=>by
  obtain ⟨i,zz,hi,hzz,hcs,h1,h2⟩:=h.get
  have h3:=hx.eq _ _ _ hS.fr
  have h4:=hy.eq _ _ _ hS.fr
  rw [hz1.eq] at h3
  rw [hz2.eq] at h4
  have hb'' : (i.bytes : Int) * (n : Int) ≤ 281474976710656:=by
   have e : ((by' * n : Nat) : Int) ≤ 281474976710656:=by omega
   rw [Int.natCast_mul] at e; rw [h2]; exact e
  have hr:=run_make (P:=P) w T e i zz h.und hi hzz .i64 .i64 (n : Int) (n : Int) (by omega) (Int.le_refl _) hb'' (by omega)
  have hxs : madeCells zz.cells ((n : Int).toNat * i.size) = (List.replicate n z).toArray:=by
   have:=toList_madeCells [z] n
   rw [h1,hcs,Int.toNat_natCast]
   simp only [List.length_singleton] at this
   rw [show (List.replicate n [z]).flatten = List.replicate n z by simp] at this
   rw [← this]
  have hv:=hS.wd.vecNew e 1 n (List.replicate n z) (by rw [List.length_replicate,Nat.mul_one]) (by unfold maxLen; omega)
  refine ⟨.slice (some ⟨w.heap.size,0,none⟩) n n,w.alloc (.cells (List.replicate n z).toArray e),?_,hv.sub (hH.trans (List.sublist_cons_self _ _)),k _ hS.wd.size _ _ ⟨hS.fr.putOk hd _,hv⟩⟩
  simp only [Int.toNat_natCast] at hr hxs
  simp [execOp,h3,h4,hr,hxs]
end
structure TabR where
 a : Option Addr
 n : Nat
 c : Nat
 fp : Nat→Prop
 l : List (List Int)
def tabV (t : TabR) : Value:=.slice t.a t.n t.c
def tabE (t : TabR) : Ent:=⟨t.fp,fun w=>SlAt w (.slice t.a t.n t.c) 1 t.l RowV⟩
theorem tabs_sl {S : Nat→Prop} {w0 w : World} {ts : List TabR} {a : Option Addr} {n c e : Nat} {H : List Ent} (h : Wd S w0 (Ent.vec a n c e 1 (ts.map tabV)::(ts.map tabE++H)) w) (hn : n = ts.length) (hb : n ≤ 100) : SlAt w (.slice a n c) 1 (ts.map (·.l)) TabV:=by
 refine h.slAt (k:=0) rfl (by simpa using hn) (by omega) fun i x hx=>?_
 rw [List.getElem?_map] at hx
 obtain ⟨t,ht,rfl⟩:=Option.map_eq_some_iff.1 hx
 refine ⟨[tabV t],fun j v hj=>?_,tabV t,rfl,?_⟩
 ·match j,hj with
  | 0,hj=>simpa [ht] using hj
 ·exact h.ok (tabE t) (List.mem_cons_of_mem _ (List.mem_append_left _ (List.mem_map.2 ⟨t,List.mem_of_getElem? ht,rfl⟩))) _ (Nat.le_refl _) fun _ _=>rfl
section
variable {P : Program} {ro : Option Nat} {N : Nat} {ds : List Deferred} {S : Nat→Prop} {w0 : World} {L : List (Nat × Value)} {H : List Ent} {Q : Exit→Act→World→Prop}
theorem g_midX {α : Type} {c y : Code} (φ : α→Prop) (Lx : α→List (Nat × Value)) (Hx : α→List Ent) (h1 : G N ds S w0 L H (Code.wpIn (FW ro) 0 P c (Exit.then (MemX N ds S w0 φ Lx Hx) Q))) (h2 : ∀ x,φ x→G N ds S w0 (Lx x) (Hx x) (Code.wpIn (FW ro) 0 P y Q)) : G N ds S w0 L H (Code.wpIn (FW ro) 0 P c (Exit.then (Code.wpIn (FW ro) 0 P y Q) Q)):=fun a w hS =>
 Code.wpIn_mono (fun e a' w' q=>by
  cases e with
  | normal=>obtain ⟨x,hx,hS'⟩:=q; exact h2 x hx a' w' hS'
  | _=>exact q) (h1 a w hS)
theorem g_retTCC {fn : Func} {R : Value→World→Prop} {q s T2 n2 b2 j2 bt2 t T n b j bt : Nat} {u : Value} {cs cs2 : List Value} (hr : fn.results = #[.tmp q,.cell s T2,.cell t T]) [hq : SlotIs L q u] [hu : SlotIs L s (.pointer (some ⟨b2,0,none⟩))] [h2 : AggSize P T2 n2] [hb2 : BoxIn H b2 j2 cs2 bt2] [hl2 : LenIs cs2 n2] [hv : SlotIs L t (.pointer (some ⟨b,0,none⟩))] [h : AggSize P T n] [hb : BoxIn H b j cs bt] [hl : LenIs cs n] (hR : ∀ w,Wd S w0 H w→R (.tuple #[u,.agg cs2.toArray,.agg cs.toArray]) w) : G N [] S w0 L H (bodyPost P fn (fun e w'=>∃ v,e = .returned v∧R v w') .ret):=fun a w hS=>by
 refine ⟨hS.fr.defers,_,?_,_,rfl,hR w hS.wd⟩
 have h3:=run_loadBox (P:=P) (T:=T) (b:=b) (cs:=cs) hS.wd
 have h4:=run_loadBox (P:=P) (T:=T2) (b:=b2) (cs:=cs2) hS.wd
 simp [results,hr,Array.getD_eq_getD_getElem?,hS.fr.slot _ hv.mem,hS.fr.slot _ hu.mem,hS.fr.slot _ hq.mem,asAddr,h3,h4]
end
theorem perm_start {α : Type} (w x8 x7 x3 me av cs fr ot : α) (T C : List α) : ((w::x8::x7::x3::me::av::cs::(T++C))++[fr]++[ot]).Perm ((w::fr::me::ot::cs::([]++C))++(av::(T++[x8,x7,x3]))):=by
 classical
 exact List.perm_iff_count.2 fun z=>by simp only [List.count_append,List.count_cons,List.count_nil]; omega
theorem perm_last {α : Type} (w x8 x7 x3 fr me ot cs av : α) (F T C : List α) : ((w::fr::me::ot::cs::(F++C))++(av::(T++[x8,x7,x3]))).Perm (w::x8::x7::ot::cs::(C++(fr::me::av::x3::(F++T)))):=by
 classical
 exact List.perm_iff_count.2 fun z=>by simp only [List.cons_append,List.count_append,List.count_cons,List.count_nil]; omega
structure StartOk (u : LUnit) : Prop where
 globs : u.globals.length ≤ 10
 glob : ∀ g ∈ u.globals,(g.init.length : Int) ≤ g.size∧g.size ≤ 200
 init : ∀ g ∈ u.globals,∀ x ∈ g.init,inI x
 funcs : u.funcs.length ≤ 10
 main : ∃ (fm : Nat) (M : LFunc),mainAt u.funcs = fm∧u.funcs[fm]? = some M
theorem memL_take {l : List LGlobal} {i : Nat} {x : LGlobal} (h : l[i]? = some x) : memL (l.take (i + 1)) = memL (l.take i)++(x.init++List.replicate (x.size.toNat - x.init.length) 0):=by
 simp [memL,List.take_add_one,h]
theorem memL_len {l : List LGlobal} (h : ∀ g ∈ l,(g.init.length : Int) ≤ g.size∧g.size ≤ 200) : (memL l).length ≤ 200 * l.length:=by
 induction l with
 | nil=>simp [memL]
 | cons g l ih =>
  have h1:=h g (by simp)
  have h2:=ih fun x hx=>h x (List.mem_cons_of_mem _ hx)
  simp only [memL,List.flatMap_cons,List.length_append,List.length_replicate,List.length_cons] at h2 ⊢
  omega
theorem memL_in {l : List LGlobal} (h : ∀ g ∈ l,∀ x ∈ g.init,inI x) : ∀ x ∈ memL l,inI x:=fun x hx=>by
 obtain ⟨g,hg,hx⟩:=List.mem_flatMap.1 hx
 rcases List.mem_append.1 hx with h1|h1
 ·exact h g hg x h1
 ·rw [List.eq_of_mem_replicate h1]; simp [inI]
theorem start_eq {u : LUnit} {fm R : Nat} {M : LFunc} (hm : mainAt u.funcs = fm) (hM : u.funcs[fm]? = some M) (hR : M.regs = R) (inp : List Int) : startM u inp = ⟨memL u.globals,inp,[],0,[],⟨fm,0,0,enterR R [],-1⟩,bump (u.funcs.map fun X=>List.replicate X.blocks.length 0) fm 0⟩:=by
 unfold startM
 simp only [hm,Int.toNat_natCast,hM,hR]
 simp [enterR]
theorem start_ok {u : LUnit} (hu : UnitFit u) (hs : StartOk u) {inp : List Int} (hin : ∀ x ∈ inp,inI x) : MacOk u 1 (startM u inp):=by
 obtain ⟨fm,M,hm,hM⟩:=hs.main
 obtain ⟨R,hfit⟩:=hu.2 fm M hM
 rw [start_eq hm hM hfit.regs]
 refine ⟨⟨M,R,⟨hM,hfit,enterR_length _ _,hfit.pos,enterR_in (by simp),by simp [inI],fun _ _=>Nat.zero_le _⟩⟩,by simp,?_,bump_cnt (c:=0) ⟨by simp,fun k X hX=>⟨_,by rw [List.getElem?_map,hX]; rfl,by simp,fun x hx=>by rw [List.eq_of_mem_replicate hx]; exact Nat.le_refl _⟩⟩ _ _,by simp,by simp,⟨?_,memL_in hs.init⟩,hin⟩
 ·intro i p q h1 h2
  simp at h1 h2
 ·have:=memL_len hs.glob
  have h9:=hs.globs
  show (memL u.globals).length ≤ 100000
  omega
end Go.Proofs.YtdbljcahlpkgdaaGreatDoor

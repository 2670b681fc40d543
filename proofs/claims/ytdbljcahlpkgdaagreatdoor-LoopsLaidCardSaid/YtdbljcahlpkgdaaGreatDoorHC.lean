/- Texts joined: RunB RunC RunD. -/
import Derived.Test.YtdbljcahlpkgdaaGreatDoorGF
import Derived.Test.YtdbljcahlpkgdaaGreatDoorGX
import Derived.Test.YtdbljcahlpkgdaaGreatDoorHA
namespace Go.Proofs.YtdbljcahlpkgdaaGreatDoor
open Go Go.RowKit
attribute [local irreducible] wpListIn Code.wpIn Exit.then Exit.inBlock bodyPost wpQuiet wpAnyIn wpAnyH bodyPostM oneH
set_option maxHeartbeats 8000000
instance nilOk {P : Program} {N : Nat} {ds : List Deferred} {S : Nat→Prop} {w0 : World} {L : List (Nat × Value)} {H : List Ent} {x : Operand} {p : Addr} [hx : Ev L x (.pointer (some p))] : RunsC P N ds S w0 L H (.nilCheck x) (.pointer (some p)) :=
 ⟨fun _ h=>(by cases h),fun _ _ h=>(by cases h),fun _ _ _ _ _ a w hF _=>by simp [execOp,hx.eq _ _ _ hF]⟩
structure FRow where
 f : Frm
 a : Option Addr
 c : Nat
structure CRow where
 a : Option Addr
 c : Nat
 l : List Nat
def frC (r : FRow) : List Value:=[.int .i64 r.f.fn,.int .i64 r.f.block,.int .i64 r.f.at',.slice r.a r.f.regs.length r.c,.int .i64 r.f.dst]
def frE (r : FRow) : Ent:=Ent.vec r.a r.f.regs.length r.c 3 1 (r.f.regs.map (.int .i64))
def cnV (r : CRow) : Value:=.slice r.a r.l.length r.c
def cnE (r : CRow) : Ent:=Ent.vec r.a r.l.length r.c 3 1 (r.l.map fun x : Nat=>.int .i64 x)
theorem frC_len (r : FRow) : (frC r).length = 5:=rfl
structure MacV where
 ma : Option Addr
 mc : Nat
 mem : List Int
 iv : Value
 inp : List Int
 state : Int
 value : Int
 oa : Option Addr
 oc : Nat
 out : List Int
 steps : Nat
 fa : Option Addr
 fc : Nat
 rows : List FRow
 ca : Option Addr
 cc : Nat
 cs : List CRow
def wbox (p : Nat) (g fs av : Value) (m : MacV) : Ent:=Ent.box p [g,fs,av,.slice m.ma m.mem.length m.mc,m.iv,.int .i64 m.state,.int .i64 m.value,.slice m.oa m.out.length m.oc,.int .i64 m.steps,.slice m.fa m.rows.length m.fc,.slice m.ca m.cs.length m.cc] 126
def memE (m : MacV) : Ent:=Ent.vec m.ma m.mem.length m.mc 3 1 (m.mem.map (.int .i64))
def outE (m : MacV) : Ent:=Ent.vec m.oa m.out.length m.oc 3 1 (m.out.map (.int .i64))
def frsE (m : MacV) : Ent:=Ent.vec m.fa m.rows.length m.fc 145 5 (m.rows.flatMap frC)
def cnsE (m : MacV) : Ent:=Ent.vec m.ca m.cs.length m.cc 38 1 (m.cs.map cnV)
def macL (p : Nat) (g fs av : Value) (m : MacV) : List Ent:=wbox p g fs av m::frsE m::memE m::outE m::cnsE m::(m.rows.map frE++m.cs.map cnE)
structure MacV.Bd (m : MacV) : Prop where
 rows : m.rows.length ≤ 1000
 regs : ∀ r ∈ m.rows,r.f.regs.length ≤ 1000∧(∀ x ∈ r.f.regs,inI x)∧inI r.f.dst
 mem : m.mem.length ≤ 100000∧∀ x ∈ m.mem,inI x
 out : m.out.length ≤ 1000∧∀ x ∈ m.out,inI x
 cs : m.cs.length ≤ 1000
 cnt : ∀ r ∈ m.cs,r.l.length ≤ 1000∧∀ x ∈ r.l,x ≤ m.steps + 1
 steps : m.steps ≤ 1000000
theorem mac_top {S : Nat→Prop} {wz w : World} {p : Nat} {g fs av : Value} {m : MacV} {H : List Ent} (hw : Wd S wz (macL p g fs av m++H) w) (hb : m.Bd) {rest : List FRow} {t : FRow} (hr : m.rows = rest++[t]) :
  CellsAt w p 0 [g,fs,av,.slice m.ma m.mem.length m.mc,m.iv,.int .i64 m.state,.int .i64 m.value,.slice m.oa m.out.length m.oc,.int .i64 m.steps,.slice m.fa m.rows.length m.fc,.slice m.ca m.cs.length m.cc]∧∃ fb fo,m.fa = some ⟨fb,fo,none⟩∧CellsAt w fb (fo + rest.length * 5) (frC t)∧SlAt w (.slice t.a t.f.regs.length t.c) 1 t.f.regs IntV:=by
 have h0 : CellsAt w p 0 [g,fs,av,.slice m.ma m.mem.length m.mc,m.iv,.int .i64 m.state,.int .i64 m.value,.slice m.oa m.out.length m.oc,.int .i64 m.steps,.slice m.fa m.rows.length m.fc,.slice m.ca m.cs.length m.cc]:=fun j v hj=>by rw [Nat.zero_add]; exact hw.cellBox 0 rfl hj
 obtain ⟨h1,h2⟩:=hw.get (k:=1) (e:=frsE m) rfl
 have hlen : m.rows.length = rest.length + 1:=by rw [hr]; simp
 rcases h2 with ⟨_,h3,_⟩|⟨fb,pre,sp,h3,_⟩
 ·omega
 refine ⟨h0,fb,pre.length,h3,?_,?_⟩
 ·intro j v hj
  have hg : m.rows[rest.length]? = some t:=by rw [hr]; simp
  have hk : (macL p g fs av m++H)[1]? = some (Ent.vec (some ⟨fb,pre.length,none⟩) m.rows.length m.fc 145 5 (m.rows.flatMap frC)):=by rw [← h3]; rfl
  rw [Nat.add_assoc]
  exact hw.vecCell hk (flat_at frC_len m.rows rest.length t j v hg hj)
 ·have hm : t ∈ m.rows:=by rw [hr]; simp
  obtain ⟨hl,hx,_⟩:=hb.regs t hm
  obtain ⟨k,hk⟩:=List.getElem?_of_mem (show frE t ∈ macL p g fs av m++H by unfold macL; simp only [List.mem_append,List.mem_cons,List.mem_map]; exact .inl (.inr (.inr (.inr (.inr (.inr (.inl ⟨t,hm,rfl⟩)))))))
  refine hw.slAt hk rfl (by omega) fun i x hi=>⟨[.int .i64 x],fun j v hj=>?_,rfl,hx x (List.mem_of_getElem? hi)⟩
  match j,hj with
  | 0,hj=>simpa [hi] using hj
theorem top_c (p fb fo n c : Nat) (g fs av mv iv st va ov sv cv : Value) (w0 : World) (hn : 0 < n) (hn' : n ≤ 1000) (h : CellsAt w0 p 0 [g,fs,av,mv,iv,st,va,ov,sv,.slice (some ⟨fb,fo,none⟩) n c,cv]) :
  RetV Tryz.prog 99 [.pointer (some ⟨p,0,none⟩)] w0 (.pointer (some ⟨fb,fo + (n - 1) * 5,none⟩)):=by
 refine ret_enter Tryz.func99 rfl Tryz.ntmps99 rfl (Wd.nil NoS w0) ?_
 have hci : CellsIs w0 p 0 _:=⟨h⟩
 have hli : LtIs (n - 1) n:=⟨by omega⟩
 have hni : NatIs ((n : Int) - 1) (n - 1):=⟨by omega⟩
 repeat (first|refine g_op rfl ?_|refine g_then ?_|refine g_nil ?_|refine g_region ?_|refine g_seq ?_)
 refine g_draw mixed (by kernel_rfl) ?_
 repeat (first|refine q_op rfl ?_|refine q_opS rfl ?_|refine q_sub rfl (by omega) (by omega) ?_|refine q_nil ?_)
 repeat (first|refine g_then ?_|refine g_ret ?_)
 exact g_retV rfl rfl
structure TopAt (w : World) (p fb fo n : Nat) (t : FRow) : Prop where
 box : ∃ (g fs av mv iv st va ov sv cv : Value) (c : Nat),CellsAt w p 0 [g,fs,av,mv,iv,st,va,ov,sv,.slice (some ⟨fb,fo,none⟩) n c,cv]
 top : CellsAt w fb (fo + (n - 1) * 5) (frC t)
 regs : SlAt w (.slice t.a t.f.regs.length t.c) 1 t.f.regs IntV
 pos : 0 < n
 le : n ≤ 1000
theorem top_at {S : Nat→Prop} {wz w : World} {p : Nat} {g fs av : Value} {m : MacV} {H : List Ent} (hw : Wd S wz (macL p g fs av m++H) w) (hb : m.Bd) {rest : List FRow} {t : FRow} (hr : m.rows = rest++[t]) {fb fo : Nat} (hf : m.fa = some ⟨fb,fo,none⟩) : TopAt w p fb fo m.rows.length t:=by
 obtain ⟨h0,fb',fo',h1,h2,h3⟩:=mac_top hw hb hr
 rw [hf] at h1
 obtain ⟨rfl,rfl⟩ : fb = fb'∧fo = fo':=by simpa using h1
 have hlen : m.rows.length = rest.length + 1:=by rw [hr]; simp
 have:=hb.rows
 exact ⟨⟨_,_,_,_,_,_,_,_,_,_,_,by rw [← hf]; exact h0⟩,by rw [hlen]; exact h2,h3,by omega,by omega⟩
theorem TopAt.chg {w w' : World} {p fb fo n : Nat} {t : FRow} (h : TopAt w p fb fo n t) (hc : Chg NoS w w') : TopAt w' p fb fo n t:=by
 obtain ⟨⟨g,fs,av,mv,iv,st,va,ov,sv,cv,c,h1⟩,h2,h3,h4,h5⟩:=h
 exact ⟨⟨_,_,_,_,_,_,_,_,_,_,_,h1.keep hc⟩,h2.keep hc,h3.keep keeps_int hc,h4,h5⟩
theorem TopAt.top_c {w : World} {p fb fo n : Nat} {t : FRow} (h : TopAt w p fb fo n t) : RetV Tryz.prog 99 [.pointer (some ⟨p,0,none⟩)] w (.pointer (some ⟨fb,fo + (n - 1) * 5,none⟩)):=by
 obtain ⟨⟨g,fs,av,mv,iv,st,va,ov,sv,cv,c,h1⟩,h2,h3,h4,h5⟩:=h
 exact Go.Proofs.YtdbljcahlpkgdaaGreatDoor.top_c p fb fo n c g fs av mv iv st va ov sv cv w h4 h5 h1
theorem wval_c {w0 : World} {p fb fo n : Nat} {t : FRow} (h : TopAt w0 p fb fo n t) (v : LVal) (hv : ValOk t.f.regs.length v) :
  RetV Tryz.prog 119 [.pointer (some ⟨p,0,none⟩),.agg #[.bool v.reg,.int .i64 v.n]] w0 (.int .i64 (valM t.f v)):=by
 obtain ⟨r,vn⟩:=v
 refine ret_enter Tryz.func119 rfl Tryz.ntmps119 rfl (Wd.nil NoS w0) ?_
 cases r
 ·repeat (first|refine g_op rfl ?_|refine g_then ?_|refine g_nil ?_|refine g_region ?_|refine g_seq ?_|refine g_opS rfl ?_|refine g_box rfl fun _ _=>?_|refine g_skip ?_|refine g_condF ?_|refine g_ret ?_)
  exact g_retV rfl rfl
 ·obtain ⟨h0,h1⟩:=hv rfl
  simp only at h0 h1
  obtain ⟨k,rfl⟩ : ∃ k : Nat,vn = k:=⟨vn.toNat,by omega⟩
  obtain ⟨x,hx⟩ : ∃ x,t.f.regs[k]? = some x:=⟨_,List.getElem?_eq_getElem (by omega)⟩
  have htop:=h.top
  have hci : CellsIs w0 fb (fo + (n - 1) * 5) _:=⟨htop⟩
  obtain ⟨_,_,_,b,o,ha,hel⟩:=h.regs.at
  have had : AddrIs t.a b o:=⟨ha (ne_of_get hx)⟩
  have hlk : LtIs k t.f.regs.length:=⟨by omega⟩
  obtain ⟨_,hcs,rfl,_⟩:=hel k x hx
  have hcx : CellsIs w0 b (o + k * 1) _:=⟨hcs⟩
  simp only [frC] at hci
  repeat (first|refine g_op rfl ?_|refine g_then ?_|refine g_nil ?_|refine g_region ?_|refine g_seq ?_|refine g_box rfl fun _ _=>?_|refine g_condT ?_)
  refine g_draw mixed (by kernel_rfl) ?_
  repeat (refine q_op rfl ?_)
  refine q_call rfl (fun w hw=>(h.chg hw.chg).top_c) ?_
  repeat (first|refine q_op rfl ?_|refine q_opS rfl ?_|refine q_nil ?_)
  repeat (first|refine g_then ?_|refine g_ret ?_|refine g_thenRet ?_)
  exact g_retV rfl (by simp [valM,hx])
def macR (p : Nat) (g fs av : Value) (m : MacV) (rest : List FRow) : List Ent:=wbox p g fs av m::frsE m::memE m::outE m::cnsE m::(rest.map frE++m.cs.map cnE)
theorem mac_pull (p : Nat) (g fs av : Value) (m : MacV) {rest : List FRow} {t : FRow} (hr : m.rows = rest++[t]) : (macL p g fs av m).Perm (frE t::macR p g fs av m rest):=by
 unfold macL macR
 rw [hr,List.map_append,List.map_cons,List.map_nil,List.append_assoc,List.cons_append,List.nil_append]
 have h:=List.perm_middle (l₁:=[wbox p g fs av m,frsE m,memE m,outE m,cnsE m]++rest.map frE) (l₂:=m.cs.map cnE) (a:=frE t)
 simpa using h
theorem setR_len (regs : List Int) (dst n : Int) : (setR regs dst n).length = regs.length:=by unfold setR; split <;> simp
def FRow.set (t : FRow) (dst n : Int) : FRow:={ t with f:=t.f.set dst n }
theorem frC_set (t : FRow) (dst n : Int) : frC (t.set dst n) = frC t:=by simp [frC,FRow.set,Frm.set,setR_len]
theorem wset_c {S : Nat→Prop} {wz : World} (p : Nat) (g fs av : Value) (m : MacV) (hb : m.Bd) {rest : List FRow} {t : FRow} (hr : m.rows = rest++[t]) (dst n : Int) (hd : 0 ≤ dst→dst < t.f.regs.length) (w : World) (hw : Wd S wz (macL p g fs av m) w) :
  Ret Tryz.prog 120 [.pointer (some ⟨p,0,none⟩),.int .i64 dst,.int .i64 n] w fun u w'=>∃ _x : Unit,u = .tuple #[]∧Wd S wz (macL p g fs av { m with rows:=rest++[t.set dst n] }) w'∧True:=by
 obtain ⟨_,fb,fo,hf,_⟩:=mac_top (H:=[]) (by rw [List.append_nil]; exact hw) hb hr
 have hlen : m.rows.length = rest.length + 1:=by rw [hr]; simp
 have hlen2 : (rest++[t.set dst n]).length = rest.length + 1:=by simp
 have hrow : (rest++[t.set dst n]).flatMap frC = m.rows.flatMap frC:=by rw [hr,List.flatMap_append,List.flatMap_append]; simp [frC_set]
 refine ret_enterZ Tryz.func120 rfl Tryz.ntmps120 rfl hw ?_
 repeat (first|refine g_op rfl ?_|refine g_then ?_|refine g_nil ?_|refine g_region ?_|refine g_seq ?_)
 refine g_cond (fun h1=>?_) (fun h1=>?_)
 ·have h0 : 0 ≤ dst:=by simpa using h1
  have hlt:=hd h0
  obtain ⟨k,rfl⟩ : ∃ k : Nat,dst = k:=⟨dst.toNat,by omega⟩
  repeat (first|refine g_op rfl ?_|refine g_region ?_)
  refine g_callV rfl (fun w hw=>(top_at (H:=[]) (by rw [List.append_nil]; exact hw) hb hr hf).top_c) ?_
  rw [hlen,Nat.add_sub_cancel]
  refine g_permH (mac_pull p g fs av m hr) ?_
  unfold frE
  refine g_vec 0 rfl (by omega) fun vb vo hva=>?_
  have hoc : ∀ X,OwnCell (X::macR p g fs av m rest) fb (fo + rest.length * 5 + 3) (.slice t.a t.f.regs.length t.c):=fun X=>⟨fun _ _ w' hw'=>by
   have hg : m.rows[rest.length]? = some t:=by rw [hr]; simp
   have hk : (X::macR p g fs av m rest)[2]? = some (Ent.vec (some ⟨fb,fo,none⟩) m.rows.length m.fc 145 5 (m.rows.flatMap frC)):=by rw [← hf]; rfl
   rw [Nat.add_assoc]
   exact hw'.vecCell hk (flat_at frC_len m.rows rest.length t 3 _ hg rfl)⟩
  rw [hva] at hoc ⊢
  have hlk : LtIs k t.f.regs.length:=⟨by omega⟩
  obtain ⟨x,hx⟩ : ∃ x,t.f.regs[k]? = some x:=⟨_,List.getElem?_eq_getElem (by omega)⟩
  have hel : ElAt t.f.regs k x:=⟨hx⟩
  repeat (first|refine g_op rfl ?_|refine g_nil ?_|refine g_storeV ?_)
  refine g_end0 rfl fun w' hw'=>⟨(),rfl,?_,trivial⟩
  refine Wd.perm ?_ (mac_pull p g fs av _ rfl).symm
  have e1 : frE (t.set k n) = Ent.vec (some ⟨vb,vo,none⟩) t.f.regs.length t.c 3 1 ((t.f.regs.set k n).map (.int .i64)):=by simp [frE,FRow.set,Frm.set,setR,hva]
  have e2 : macR p g fs av { m with rows:=rest++[t.set k n] } rest = macR p g fs av m rest:=by simp only [macR,wbox,frsE,memE,outE,cnsE,hrow,hlen2,hlen]
  rw [e1,e2]
  exact hw'
 ·have h0 : ¬ 0 ≤ dst:=by simpa using h1
  repeat (refine g_skip ?_)
  refine g_end0 rfl fun w' hw'=>⟨(),rfl,?_,trivial⟩
  have e : rest++[t.set dst n] = m.rows:=by rw [hr]; simp [FRow.set,Frm.set,setR,h0]
  rw [e]
  exact hw'
theorem wstop_c {S : Nat→Prop} {wz : World} (p : Nat) (g fs av : Value) (m : MacV) (st : Int) (w : World) (hw : Wd S wz (macL p g fs av m) w) :
  Ret Tryz.prog 87 [.pointer (some ⟨p,0,none⟩),.int .i64 st] w fun u w'=>∃ _x : Unit,u = .bool false∧Wd S wz (macL p g fs av { m with state:=st }) w'∧True:=by
 refine ret_enterZ Tryz.func87 rfl Tryz.ntmps87 rfl hw ?_
 unfold macL wbox
 repeat (first|refine g_op rfl ?_|refine g_then ?_|refine g_nil ?_|refine g_region ?_|refine g_seq ?_|refine g_opS rfl ?_|refine g_store ?_|refine g_ret ?_)
 exact g_ret1 rfl fun w' hw'=>⟨(),rfl,hw',trivial⟩
section
variable {P : Program} {ro : Option Nat} {N : Nat} {ds : List Deferred} {S : Nat→Prop} {w0 : World} {L : List (Nat × Value)} {H : List Ent} {ops : Array Oper} {rest : List Oper} {Q : Exit→Act→World→Prop} {x y : Operand}
theorem g_copy0 {d ty dT sT e by' dl dc sl sc : Nat} {z : Value} {da sa : Option Addr} {pos : String} {aft : Array Go.Edge} [h : ElemInfo P dT e 1 by' [z]] [hx : Ev L x (.slice da dl dc)] [hy : Ev L y (.slice sa sl sc)] (hd : okPut d N L = true) (h0 : min sl dl = 0)
  (kk : G N ds S w0 ((d,.int .i64 0)::L) H (wpListIn (FW ro) 0 P ops Q rest)) : G N ds S w0 L H (wpListIn (FW ro) 0 P ops Q (⟨some d,.call { callee:=.builtin .copy,args:=#[x,y],argTypes:=#[dT,sT] },ty,pos,aft,none⟩::rest)):=fun a w hS=>by
 obtain ⟨i,zz,hi,_,_,hi1,_⟩:=h.get
 have hr:=run_copy_none (P:=P) w dT sT ty e da sa dl dc sl sc h.und (by rw [hi]; simp [hi1]) h0
 refine step_val (v:=.int .i64 0) (w':=w) rfl (fun _ h=>by cases h) ?_ (kk _ _ ⟨hS.fr.putOk hd _,hS.wd⟩)
 simp [execOp,resolve,invoke,builtin,hx.eq _ _ _ hS.fr,hy.eq _ _ _ hS.fr,hr,goInt]
end
def bumpC (cs : List CRow) (k b : Nat) : List CRow:=cs.modify k fun r=>{ r with l:=r.l.modify b (· + 1) }
theorem cnt_pull {cs c1 c2 : List CRow} {r : CRow} (h : cs = c1++r::c2) (A : List Ent) (X : List Ent) : (A++(X++cs.map cnE)).Perm (cnE r::(A++(X++(c1++c2).map cnE))):=by
 subst h
 simp only [List.map_append,List.map_cons]
 have h:=List.perm_middle (l₁:=A++X++c1.map cnE) (l₂:=c2.map cnE) (a:=cnE r)
 simpa [List.append_assoc] using h
theorem bump_mid {c1 c2 : List CRow} {r : CRow} {k b : Nat} (hk : c1.length = k) : bumpC (c1++r::c2) k b = c1++{ r with l:=r.l.modify b (· + 1) }::c2:=by
 subst hk
 unfold bumpC
 induction c1 with
 | nil=>rfl
 | cons x l ih=>rw [List.length_cons,List.cons_append,List.modify_succ_cons,ih]; rfl
theorem enterR_nil (R : Nat) : (enterR R []).map (Value.int .i64) = List.replicate R (.int .i64 0):=by simp [enterR]
theorem enterR_map {R : Nat} {args : List Int} (h : args.length ≤ R) : (List.replicate R (Value.int .i64 0)).take 0++args.map (.int .i64)++(List.replicate R (.int .i64 0)).drop (0 + (args.map (Value.int .i64)).length) = (enterR R args).map (Value.int .i64):=by
 simp only [List.take_zero,List.nil_append,List.drop_replicate,List.length_map,Nat.zero_add,enterR]
 rw [List.take_append,List.take_of_length_le h,List.map_append,List.take_replicate,List.map_replicate,Nat.min_eq_left (by omega)]
theorem enterR_len {R : Nat} {args : List Int} : (enterR R args).length = R:=by simp [enterR]
theorem perm_enter {α : Type} (q rv a b c d e : α) (F C1 C2 : List α) {Y : List α} (hY : Y = C1++C2) : (q::rv::a::b::c::d::e::(F++Y)).Perm (a::b::c::d::e::((F++[rv])++(C1++q::C2))):=by
 subst hY
 have h1 : (q::rv::([a,b,c,d,e]++F++(C1++C2))).Perm (rv::([a,b,c,d,e]++F++(q::(C1++C2)))):=(List.Perm.swap _ _ _).trans ((List.perm_middle.symm).cons _)
 have h2 : (rv::([a,b,c,d,e]++F++(q::(C1++C2)))).Perm ([a,b,c,d,e]++F++(rv::(q::(C1++C2)))):=List.perm_middle.symm
 have h3 : ([a,b,c,d,e]++F++(rv::(q::(C1++C2)))).Perm ([a,b,c,d,e]++F++(rv::(C1++q::C2))):=List.Perm.append_left _ ((List.perm_middle.symm).cons _)
 have h:=(h1.trans h2).trans h3
 simpa [List.append_assoc] using h
theorem cnV_bump (r : CRow) (b : Nat) : cnV { r with l:=r.l.modify b (· + 1) } = cnV r:=by simp [cnV]
theorem modify_set {l : List Nat} {b x : Nat} (hx : l[b]? = some x) : l.modify b (· + 1) = l.set b (x + 1):=by
 apply List.ext_getElem?
 intro i
 rw [List.getElem?_modify,List.getElem?_set]
 by_cases e : b = i
 ·subst e
  have:=(List.getElem?_eq_some_iff.1 hx).1
  have h2:=(List.getElem?_eq_some_iff.1 hx).2
  simp [this,h2]
 ·simp [e]
theorem cnE_bump {r : CRow} {b x qb qo : Nat} (hx : r.l[b]? = some x) (ha : r.a = some ⟨qb,qo,none⟩) : cnE { r with l:=r.l.modify b (· + 1) } = Ent.vec (some ⟨qb,qo,none⟩) r.l.length r.c 3 1 ((r.l.set b (x + 1)).map fun x : Nat=>.int .i64 x):=by
 simp only [cnE,List.length_modify,List.length_set,ha,modify_set hx]
theorem mac_entered {p : Nat} {g fs av : Value} {m : MacV} {c1 c2 : List CRow} {cr : CRow} {fn R x rb nc qb qo cb co : Nat} {na : Option Addr} {args : List Int} {dst : Int} (hc : m.cs = c1++cr::c2) (h1 : c1.length = fn) (hx : cr.l[0]? = some x) (hqa : cr.a = some ⟨qb,qo,none⟩) (hca : m.ca = some ⟨cb,co,none⟩) :
  (Ent.box p [g,fs,av,.slice m.ma m.mem.length m.mc,m.iv,.int .i64 m.state,.int .i64 m.value,.slice m.oa m.out.length m.oc,.int .i64 m.steps,.slice na (m.rows.length + 1) nc,.slice (some ⟨cb,co,none⟩) m.cs.length m.cc] 126 ::
   Ent.vec na (m.rows.length + 1) nc 145 5 (m.rows.flatMap frC++[.int .i64 fn,.int .i64 0,.int .i64 0,.slice (some ⟨rb,0,none⟩) R R,.int .i64 dst])::memE m::outE m::Ent.vec (some ⟨cb,co,none⟩) m.cs.length m.cc 38 1 (m.cs.map cnV) ::
   ((m.rows.map frE++[Ent.vec (some ⟨rb,0,none⟩) R R 3 1 ((enterR R args).map (.int .i64))])++(c1.map cnE++Ent.vec (some ⟨qb,qo,none⟩) cr.l.length cr.c 3 1 ((cr.l.set 0 (x + 1)).map fun x : Nat=>.int .i64 x)::c2.map cnE))).Perm
   (macL p g fs av { m with fa:=na,fc:=nc,rows:=m.rows++[⟨⟨fn,0,0,enterR R args,dst⟩,some ⟨rb,0,none⟩,R⟩],cs:=bumpC m.cs fn 0 }):=by
 have e : bumpC m.cs fn 0 = c1++{ cr with l:=cr.l.modify 0 (· + 1) }::c2:=by rw [hc,bump_mid h1]
 have el : (bumpC m.cs fn 0).length = m.cs.length:=by simp [bumpC]
 have ev : (bumpC m.cs fn 0).map cnV = m.cs.map cnV:=by rw [e,hc]; simp [cnV_bump]
 have ee : (bumpC m.cs fn 0).map cnE = c1.map cnE++Ent.vec (some ⟨qb,qo,none⟩) cr.l.length cr.c 3 1 ((cr.l.set 0 (x + 1)).map fun x : Nat=>.int .i64 x)::c2.map cnE:=by rw [e]; simp only [List.map_append,List.map_cons,cnE_bump hx hqa]
 simp only [macL,wbox,frsE,memE,outE,cnsE,el,ev,ee,hca,List.length_append,List.length_singleton,List.flatMap_append,List.flatMap_cons,List.flatMap_nil,List.append_nil,List.map_append,List.map_cons,List.map_nil,frC,frE,enterR_len]
 exact List.Perm.refl _
theorem enter_c {S : Nat→Prop} {wz : World} (hcl : Clean S wz) (u : LUnit) (p : Nat) (g fs av : Value) (hfs : SlAt wz fs 4 u.funcs FuncV) (m : MacV) (hb : m.Bd) (fn : Nat) (X : LFunc) (hX : u.funcs[fn]? = some X) (R : Nat) (hR : X.regs = R) (hR' : R ≤ 100) (dst : Int) (args : List Int) (aa : Option Addr) (an ac : Nat) (hargs : SlAt wz (.slice aa an ac) 1 args IntV) (hal : args.length ≤ R) (cr : CRow) (hcr : m.cs[fn]? = some cr) (hcp : 0 < cr.l.length) (w : World) (hw : Wd S wz (macL p g fs av m) w) :
  Ret Tryz.prog 85 [.pointer (some ⟨p,0,none⟩),.int .i64 fn,.int .i64 dst,.slice aa an ac] w fun u w'=>∃ x : Option Addr × Nat × Option Addr × Nat,u = .tuple #[] ∧
   Wd S wz (macL p g fs av { m with fa:=x.1,fc:=x.2.1,rows:=m.rows++[⟨⟨fn,0,0,enterR R args,dst⟩,x.2.2.1,x.2.2.2⟩],cs:=bumpC m.cs fn 0 }) w'∧True:=by
 obtain ⟨fa,fl,fc,fb,fo,rfl,hfl,hflc,hflb,hfc,hfa,hfel⟩:=hfs
 obtain ⟨cs,hcs,bv,rfl,_,_,_⟩:=hfel fn X hX
 have hfnl : fn < fl:=by rw [hfl]; exact (List.getElem?_eq_some_iff.1 hX).1
 have had : AddrIs fa fb fo:=⟨hfa (ne_of_get hX)⟩
 have hlf : LtIs fn fl:=⟨hfnl⟩
 have hci : CellsIs wz fb (fo + fn * 4) _:=⟨hcs⟩
 have hold : OldIs S fb:=hcl.old hcs
 have hnr : NatIs X.regs R:=⟨hR⟩
 refine ret_enterZ Tryz.func85 rfl Tryz.ntmps85 rfl hw ?_
 unfold macL wbox
 repeat (first|refine g_op rfl ?_|refine g_then ?_|refine g_nil ?_|refine g_region ?_|refine g_seq ?_|refine g_make rfl (by omega) (by omega) fun _ _=>?_)
 rename_i rb _
 obtain ⟨han,hanc,hanb,ab,ao,haa,hael⟩:=hargs.at
 obtain ⟨c1,c2,hc12,hc1⟩ : ∃ c1 c2,m.cs = c1++cr::c2∧c1.length = fn:=⟨m.cs.take fn,m.cs.drop (fn + 1),by
  rw [← (List.getElem?_eq_some_iff.1 hcr).2,List.getElem_cons_drop,List.take_append_drop],by rw [List.length_take]; have:=(List.getElem?_eq_some_iff.1 hcr).1; omega⟩
 have hcsl : fn < m.cs.length:=(List.getElem?_eq_some_iff.1 hcr).1
 obtain ⟨x,hx⟩ : ∃ x,cr.l[0]? = some x:=⟨_,List.getElem?_eq_getElem hcp⟩
 have hx9:=(hb.cnt cr (List.mem_of_getElem? hcr)).2 x (List.mem_of_getElem? hx)
 have hbs:=hb.steps
 have hbr:=hb.rows
 have hcl':=(hb.cnt cr (List.mem_of_getElem? hcr)).1
 refine Or.elim (Classical.em (args = [])) (fun h0=>?_) (fun h0=>?_)
 have e0 : List.replicate R (Value.int .i64 0) = (enterR R args).map (.int .i64):=by rw [h0,enterR_nil]
 refine g_copy0 rfl (by rw [h0] at han; simp only [List.length_nil] at han; omega) ?_
 rw [e0]
 refine g_fix (L':=[(8,.slice (some ⟨rb,0,none⟩) R R),(0,.pointer (some ⟨p,0,none⟩)),(1,.int .i64 fn),(2,.int .i64 dst)]) (by repeat (first|exact trivial|refine ⟨rfl,?_⟩)) (.refl _) ?_
 rotate_left
 rw [haa h0]
 refine g_copy (b:=rb) (o:=0) (off:=0) 0 (args.map (.int .i64)) rfl rfl (by rw [List.length_map]; omega) (fun w hw j v hj=>?_) (by rw [List.length_map,List.length_replicate]; omega) (fun v hv=>by obtain ⟨z,_,rfl⟩:=List.mem_map.1 hv; rfl) ?_
 ·rw [List.getElem?_map] at hj
  obtain ⟨z,hz,rfl⟩:=Option.map_eq_some_iff.1 hj
  obtain ⟨_,hc,rfl,_⟩:=hael j z hz
  have h1:=hc 0 _ rfl
  rw [Nat.mul_one,Nat.add_zero] at h1
  exact hcl.now hw _ _ h1
 simp only [List.set_cons_zero]
 rw [enterR_map hal]
 refine g_fix (L':=[(8,.slice (some ⟨rb,0,none⟩) R R),(0,.pointer (some ⟨p,0,none⟩)),(1,.int .i64 fn),(2,.int .i64 dst)]) (by repeat (first|exact trivial|refine ⟨rfl,?_⟩)) (.refl _) ?_
 rotate_left
 all_goals
  unfold frsE cnsE
  repeat (first|refine g_op rfl ?_|refine g_then ?_|refine g_nil ?_|refine g_region ?_|refine g_seq ?_|refine g_build1 rfl rfl fun _ _=>?_)
  rename_i bb _
  refine g_appendAt 3 rfl rfl (by decide +kernel) (by omega) (by omega) fun na nc=>?_
  simp only [List.set_cons_succ,List.set_cons_zero]
  repeat (first|refine g_op rfl ?_|refine g_then ?_|refine g_nil ?_|refine g_region ?_|refine g_store ?_)
  refine g_vec 6 rfl (by omega) fun cb co hca=>?_
  have had2 : AddrIs m.ca cb co:=⟨hca⟩
  have hlc : LtIs fn m.cs.length:=⟨hcsl⟩
  repeat (refine g_op rfl ?_)
  have hcell : ∀ x1 x2 x3 x4 x5 x6 : Ent,OwnCell (x1::x2::x3::x4::x5::x6::Ent.vec (some ⟨cb,co,none⟩) m.cs.length m.cc 38 1 (m.cs.map cnV)::(List.map frE m.rows++List.map cnE m.cs)) cb (co + fn * 1) (.slice cr.a cr.l.length cr.c):=fun _ _ _ _ _ _=>⟨fun _ _ w' hw' =>
   hw'.vecCell (k:=6) rfl (by rw [Nat.mul_one,List.getElem?_map,hcr]; rfl)⟩
  rw [hca]
  repeat (refine g_op rfl ?_)
  refine g_permH (cnt_pull hc12 [_,_,_,_,_,_,_] (List.map frE m.rows)) ?_
  rw [show cnE cr = Ent.vec cr.a cr.l.length cr.c 3 1 (cr.l.map fun x : Nat=>.int .i64 x) from rfl]
  refine g_vec 0 rfl hcp fun qb qo hqa=>?_
  rw [hqa]
  have hel0 : ElAt cr.l 0 x:=⟨hx⟩
  have hl0 : LtIs 0 cr.l.length:=⟨hcp⟩
  have hao : AddOk (x : Int) 1:=⟨by omega,by omega⟩
  repeat (refine g_op rfl ?_)
  rw [show (x : Int) + 1 = ((x + 1 : Nat) : Int) by omega]
  repeat (first|refine g_nil ?_|refine g_storeV ?_)
  refine g_end0 rfl fun w' hw'=>⟨(na,nc,some ⟨rb,0,none⟩,R),rfl,?_,trivial⟩
  simp only [List.cons_append,List.nil_append] at hw'
  have h1:=hw'.sub (.cons_cons _ (.cons _ (.refl _)))
  have h2:=h1.perm (perm_enter _ _ _ _ _ _ _ (m.rows.map frE) (c1.map cnE) (c2.map cnE) (by rw [List.map_append]))
  have h3:=h2.perm (mac_entered (dst:=dst) (args:=args) hc12 hc1 hx hqa hca)
  simp only [macL,wbox,frsE,cnsE,hca] at h3 ⊢
  exact h3
def TabV (w : World) (x : List (List Int)) (cs : List Value) : Prop:=∃ v,cs = [v]∧SlAt w v 1 x RowV
theorem mono_tab : MonoV TabV:=fun _ _ hc _ _ ⟨v,h1,h2⟩=>⟨v,h1,h2.le mono_row hc⟩
def aheadsL (u : LUnit) : List (List (List Int)):=u.funcs.map fun X=>aheadL X.blocks
structure AtFn (u : LUnit) (t : Frm) (X : LFunc) (R : Nat) : Prop where
 get : u.funcs[t.fn]? = some X
 ok : FuncOk R X.blocks
 regs : t.regs.length = R
theorem take_getB {α : Type} {l : List α} {i : Nat} {x : α} (h : l[i]? = some x) : l.take (i + 1) = l.take i++[x]:=by rw [List.take_add_one,h]; rfl
def phiVals (t : Frm) (k : Nat) (l : List LPhi) : List Int:=l.map fun q=>valM t (q.src.getD k noV)
theorem mac_jumped {p : Nat} {g fs av : Value} {m : MacV} {rest : List FRow} {t : FRow} (hr : m.rows = rest++[t]) {c1 c2 : List CRow} {cr : CRow} {to x qb qo cb co fb fo : Nat} (hc : m.cs = c1++cr::c2) (h1 : c1.length = t.f.fn) (hx : cr.l[to]? = some x) (hqa : cr.a = some ⟨qb,qo,none⟩) (hca : m.ca = some ⟨cb,co,none⟩) (hf : m.fa = some ⟨fb,fo,none⟩) (rs : List Int) (hrs : rs.length = t.f.regs.length) :
  (Ent.box p [g,fs,av,.slice m.ma m.mem.length m.mc,m.iv,.int .i64 m.state,.int .i64 m.value,.slice m.oa m.out.length m.oc,.int .i64 m.steps,.slice (some ⟨fb,fo,none⟩) m.rows.length m.fc,.slice (some ⟨cb,co,none⟩) m.cs.length m.cc] 126 ::
   Ent.vec (some ⟨fb,fo,none⟩) m.rows.length m.fc 145 5 ((rest++[(⟨{ t.f with regs:=rs,block:=to,at':=0 },t.a,t.c⟩ : FRow)]).flatMap frC)::memE m::outE m::Ent.vec (some ⟨cb,co,none⟩) m.cs.length m.cc 38 1 (m.cs.map cnV) ::
   ((rest.map frE++[Ent.vec t.a t.f.regs.length t.c 3 1 (rs.map (.int .i64))])++(c1.map cnE++Ent.vec (some ⟨qb,qo,none⟩) cr.l.length cr.c 3 1 ((cr.l.set to (x + 1)).map fun x : Nat=>.int .i64 x)::c2.map cnE))).Perm
   (macL p g fs av { m with rows:=rest++[⟨{ t.f with regs:=rs,block:=to,at':=0 },t.a,t.c⟩],cs:=bumpC m.cs t.f.fn to }):=by
 have e : bumpC m.cs t.f.fn to = c1++{ cr with l:=cr.l.modify to (· + 1) }::c2:=by rw [hc,bump_mid h1]
 have el : (bumpC m.cs t.f.fn to).length = m.cs.length:=by simp [bumpC]
 have ev : (bumpC m.cs t.f.fn to).map cnV = m.cs.map cnV:=by rw [e,hc]; simp [cnV_bump]
 have ee : (bumpC m.cs t.f.fn to).map cnE = c1.map cnE++Ent.vec (some ⟨qb,qo,none⟩) cr.l.length cr.c 3 1 ((cr.l.set to (x + 1)).map fun x : Nat=>.int .i64 x)::c2.map cnE:=by rw [e]; simp only [List.map_append,List.map_cons,cnE_bump hx hqa]
 have er : m.rows.length = rest.length + 1:=by rw [hr]; simp
 simp only [macL,wbox,frsE,memE,outE,cnsE,el,ev,ee,er,hca,hf,List.length_append,List.length_singleton,List.map_append,List.map_cons,List.map_nil,frE,hrs]
 exact List.Perm.refl _
theorem jump_c {S : Nat→Prop} {wz : World} (hcl : Clean S wz) (u : LUnit) (p : Nat) (g fs av : Value) (hfs : SlAt wz fs 4 u.funcs FuncV) (hav : SlAt wz av 1 (aheadsL u) TabV) (m : MacV) (hb : m.Bd) {rest : List FRow} {t : FRow} (hr : m.rows = rest++[t]) (X : LFunc) (R : Nat) (hX : AtFn u t.f X R) (hbl : X.blocks.length ≤ 100) (to : Nat) (T : LBlock) (hT : X.blocks[to]? = some T) (hed : t.f.block ∈ preds X.blocks to) (hps : T.phis.length ≤ 1000) (cr : CRow) (hcr : m.cs[t.f.fn]? = some cr) (hcp : to < cr.l.length) (w : World) (hw : Wd S wz (macL p g fs av m) w) :
  Ret Tryz.prog 118 [.pointer (some ⟨p,0,none⟩),.int .i64 to] w fun u' w'=>∃ _x : Unit,u' = .tuple #[] ∧
   Wd S wz (macL p g fs av { m with rows:=rest++[⟨{ t.f with regs:=phisM t.f ((preds X.blocks to).idxOf t.f.block) T.phis,block:=to,at':=0 },t.a,t.c⟩],cs:=bumpC m.cs t.f.fn to }) w'∧True:=by
 have hXi:=hX.get
 have hlen : m.rows.length = rest.length + 1:=by rw [hr]; simp
 obtain ⟨_,fb,fo,hf,_⟩:=mac_top (H:=[]) (by rw [List.append_nil]; exact hw) hb hr
 obtain ⟨ua,ul,uc,ub,uo,rfl,hul,hulc,hulb,huc,hua,huel⟩:=hfs
 obtain ⟨cs,hcs,bv,rfl,_,_,hbv⟩:=huel t.f.fn X hXi
 have hfnl : t.f.fn < ul:=by rw [hul]; exact (List.getElem?_eq_some_iff.1 hXi).1
 have had : AddrIs ua ub uo:=⟨hua (ne_of_get hXi)⟩
 have hlf : LtIs t.f.fn ul:=⟨hfnl⟩
 have hci : CellsIs wz ub (uo + t.f.fn * 4) _:=⟨hcs⟩
 have hold : OldIs S ub:=hcl.old hcs
 obtain ⟨ba,bn,bc,bb,bo,rfl,hbn,hbnc,hbnb,hbc,hba,hbel⟩:=hbv
 obtain ⟨_,hTc,pv,lv,tv,rfl,_,_,hpv,_,_⟩:=hbel to T hT
 have htl : to < bn:=by rw [hbn]; exact (List.getElem?_eq_some_iff.1 hT).1
 have had2 : AddrIs ba bb bo:=⟨hba (ne_of_get hT)⟩
 have hlt : LtIs to bn:=⟨htl⟩
 have hci2 : CellsIs wz bb (bo + to * 6) _:=⟨hTc⟩
 have hold2 : OldIs S bb:=hcl.old hTc
 obtain ⟨pa,pn,pc,pb,po,rfl,hpn,hpnc,hpnb,hpc,hpa,hpel⟩:=hpv
 -- the rows of those ahead
 obtain ⟨aa,al,ac,ab,ao,rfl,hal,halc,halb,hac,haa,hael⟩:=hav
 have hAi : (aheadsL u)[t.f.fn]? = some (aheadL X.blocks):=by unfold aheadsL; rw [List.getElem?_map,hXi]; rfl
 obtain ⟨_,hAc,rv,rfl,hrv⟩:=hael t.f.fn _ hAi
 have had3 : AddrIs aa ab ao:=⟨haa (ne_of_get hAi)⟩
 have hlf3 : LtIs t.f.fn al:=⟨by rw [hal]; exact (List.getElem?_eq_some_iff.1 hAi).1⟩
 have hci3 : CellsIs wz ab (ao + t.f.fn * 1) _:=⟨hAc⟩
 have hold3 : OldIs S ab:=hcl.old hAc
 obtain ⟨ra,rl,rc,rb,ro,rfl,hrl,hrlc,hrlb,hrc,hra,hrel⟩:=hrv
 have hrow:=aheadL_get hX.ok.good (fun b B hB=>(hX.ok.block b B hB).to) (t:=to) (by rw [← hbn]; exact htl)
 obtain ⟨_,hRc,wv,rfl,hwv⟩:=hrel to _ hrow
 have had4 : AddrIs ra rb ro:=⟨hra (ne_of_get hrow)⟩
 have hlt4 : LtIs to rl:=⟨by rw [hrl]; exact (List.getElem?_eq_some_iff.1 hrow).1⟩
 have hci4 : CellsIs wz rb (ro + to * 1) _:=⟨hRc⟩
 have hold4 : OldIs S rb:=hcl.old hRc
 obtain ⟨k,hk⟩ : ∃ k,(preds X.blocks to).idxOf t.f.block = k:=⟨_,rfl⟩
 rw [hk]
 refine ret_enterZ Tryz.func118 rfl Tryz.ntmps118 rfl hw ?_
 repeat (first|refine g_op rfl ?_|refine g_region ?_|refine g_seq ?_)
 refine g_callV rfl (fun w hw=>(top_at (H:=[]) (by rw [List.append_nil]; exact hw) hb hr hf).top_c) ?_
 rw [hlen,Nat.add_sub_cancel]
 repeat (first|refine g_op rfl ?_|refine g_then ?_|refine g_nil ?_|refine g_seq ?_)
 have hoc : ∀ j v,(frC t)[j]? = some v→∀ X : List Ent,OwnCell (macL p g (.slice ua ul uc) (.slice aa al ac) m++X) fb (fo + rest.length * 5 + j) v:=fun j v hj X=>⟨fun _ _ w' hw'=>by
  have hg : m.rows[rest.length]? = some t:=by rw [hr]; simp
  have hk : (macL p g (.slice ua ul uc) (.slice aa al ac) m++X)[1]? = some (Ent.vec (some ⟨fb,fo,none⟩) m.rows.length m.fc 145 5 (m.rows.flatMap frC)):=by rw [← hf]; rfl
  rw [Nat.add_assoc]
  exact hw'.vecCell hk (flat_at frC_len m.rows rest.length t j _ hg hj)⟩
 have hc0:=hoc 0 _ rfl []
 have hc1:=hoc 1 _ rfl []
 simp only [List.append_nil,macL,wbox] at hc0 hc1
 unfold macL wbox
 skip
 refine g_draw mixed (by kernel_rfl) ?_
 repeat (refine q_op rfl ?_)
 refine q_call rfl (fun w hw=>index_c _ (preds X.blocks to) t.f.block w hed (hwv.le mono_int (hcl.now hw))) ?_
 rw [hk]
 repeat (first|refine q_op rfl ?_|refine q_nil ?_)
 repeat (first|refine g_then ?_|refine g_seq ?_)
 refine g_draw mixed (by kernel_rfl) ?_
 repeat (first|refine q_op rfl ?_|refine q_nil ?_)
 repeat (first|refine g_op rfl ?_|refine g_then ?_|refine g_nil ?_|refine g_region ?_|refine g_seq ?_|refine g_block ?_)
 have hkl : k < (preds X.blocks to).length:=by rw [← hk]; exact List.idxOf_lt_length_of_mem hed
 have hTo:=hX.ok.block to T hT
 have htm : t ∈ m.rows:=by rw [hr]; simp
 obtain ⟨hrg1,hrg2,_⟩:=hb.regs t htm
 have htop : ∀ w,Wd S wz (macL p g (.slice ua ul uc) (.slice aa al ac) m) w→TopAt w p fb fo m.rows.length t:=fun w hw=>top_at (H:=[]) (by rw [List.append_nil]; exact hw) hb hr hf
 have hvin : ∀ q ∈ T.phis,inI (valM t.f (q.src.getD k noV)):=fun q hq=>by
  have hl:=(hTo.phis q hq).len
  obtain ⟨v,hv⟩ : ∃ v,q.src[k]? = some v:=⟨_,List.getElem?_eq_getElem (by omega)⟩
  have hg : q.src.getD k noV = v:=by rw [List.getD_eq_getElem?_getD,hv]; rfl
  rw [hg]
  unfold valM
  split
  ·rename_i h
   obtain ⟨h0,h1⟩:=(hTo.phis q hq).vals v (List.mem_of_getElem? hv) h
   rw [← hX.regs] at h1
   rw [List.getD_eq_getElem?_getD,List.getElem?_eq_getElem (by omega),Option.getD_some]
   exact hrg2 _ (List.getElem_mem _)
  ·obtain ⟨i,hi⟩:=List.getElem?_of_mem hq
   obtain ⟨_,_,sv,rfl,_,hsv⟩:=hpel i q hi
   obtain ⟨_,_,_,_,_,_,_,_,_,_,_,hsel⟩:=hsv
   obtain ⟨_,_,_,h2⟩:=hsel k v hv
   exact h2
 refine g_nilVec 3 1 ?_
 refine g_loop (fun x : Nat × Option Addr × Nat=>x.1 ≤ T.phis.length) (fun x=>[(50,.int .i64 x.1),(7,.slice x.2.1 x.1 x.2.2),(48,.slice pa pn pc),(49,.int .i64 pn),(6,.slice pa pn pc),(5,.int .i64 k),(4,.pointer (some ⟨fb,fo + rest.length * 5,none⟩)),(0,.pointer (some ⟨p,0,none⟩)),(1,.int .i64 to)]) (fun x=>Ent.vec x.2.1 x.1 x.2.2 3 1 ((phiVals t.f k (T.phis.take x.1)).map (.int .i64))::Ent.box p [g,Value.slice ua ul uc,Value.slice aa al ac,.slice m.ma m.mem.length m.mc,m.iv,.int .i64 m.state,.int .i64 m.value,.slice m.oa m.out.length m.oc,.int .i64 m.steps,.slice m.fa m.rows.length m.fc,.slice m.ca m.cs.length m.cc] 126::frsE m::memE m::outE m::cnsE m::(List.map frE m.rows++List.map cnE m.cs)) (fun x=>T.phis.length - x.1) (0,none,0) (Nat.zero_le _) (g_done (by repeat (first|exact trivial|refine ⟨rfl,?_⟩)) (.refl _)) fun x hi=>?_
 obtain ⟨i,na,nc⟩:=x
 simp only at hi ⊢
 repeat (first|refine g_op rfl ?_|refine g_then ?_|refine g_nil ?_|refine g_region ?_|refine g_seq ?_)
 refine g_cond (fun h1=>?_) (fun h1=>?_)
 ·have hlt' : i < pn:=by simpa using h1
  obtain ⟨q,hq⟩ : ∃ q,T.phis[i]? = some q:=⟨_,List.getElem?_eq_getElem (by omega)⟩
  have hqo:=hTo.phis q (List.mem_of_getElem? hq)
  obtain ⟨v,hv⟩ : ∃ v,q.src[k]? = some v:=⟨_,List.getElem?_eq_getElem (by rw [hqo.len]; exact hkl)⟩
  obtain ⟨_,hqc,sv,rfl,_,hsv⟩:=hpel i q hq
  obtain ⟨sa,sn,sc,sb,so,rfl,hsn,_,_,_,hsa,hsel⟩:=hsv
  obtain ⟨_,hvc,rfl,hvn⟩:=hsel k v hv
  have hadp : AddrIs pa pb po:=⟨hpa (ne_of_get hq)⟩
  have hlip : LtIs i pn:=⟨hlt'⟩
  have hcip : CellsIs wz pb (po + i * 2) _:=⟨hqc⟩
  have holdp : OldIs S pb:=hcl.old hqc
  have hads : AddrIs sa sb so:=⟨hsa (ne_of_get hv)⟩
  have hlks : LtIs k sn:=⟨by rw [hsn]; exact (List.getElem?_eq_some_iff.1 hv).1⟩
  have hcis : CellsIs wz sb (so + k * 2) _:=⟨hvc⟩
  have holds : OldIs S sb:=hcl.old hvc
  have hvok : ValOk t.f.regs.length v:=by rw [hX.regs]; exact hqo.vals v (List.mem_of_getElem? hv)
  repeat (first|refine g_op rfl ?_|refine g_then ?_|refine g_nil ?_|refine g_region ?_|refine g_seq ?_|refine g_alloc rfl fun _ _=>?_|refine g_storeAgg ?_|refine g_block ?_|refine g_skip ?_)
  refine g_callV rfl (fun w hw=>wval_c (htop w (hw.sub (.cons _ (.cons _ (.refl _))))) v hvok) ?_
  repeat (refine g_build1 rfl rfl fun _ _=>?_)
  rename_i b9 _ bb9 _
  refine g_appendAt 2 rfl rfl (by decide +kernel) (by omega) (by omega) fun na' nc'=>?_
  simp only [List.set_cons_succ,List.set_cons_zero]
  repeat (first|refine g_then ?_|refine g_nil ?_|refine g_region ?_|refine g_opS rfl ?_|refine g_inBlock ?_|refine g_add rfl (by omega) (by omega) ?_)
  refine g_next (i + 1,na',nc') (by simp only; omega) (by simp only; omega) (by repeat (first|exact trivial|refine ⟨rfl,?_⟩)) ?_
  rw [take_getB hq]
  simp only [phiVals,List.map_append,List.map_cons,List.map_nil,List.getD_eq_getElem?_getD,hv,Option.getD_some]
  exact List.Sublist.cons _ (.cons _ (.refl _))
 ·have hge : i = T.phis.length:=by have:=h1; simp at this; omega
  subst hge
  rw [List.take_length]
  repeat (first|refine g_op rfl ?_|refine g_then ?_|refine g_nil ?_|refine g_region ?_|refine g_seq ?_|refine g_block ?_|refine g_exit ?_|refine g_thenExit ?_|refine g_exitHere ?_)
  refine g_permH ((List.Perm.cons _ (mac_pull p g (.slice ua ul uc) (.slice aa al ac) m hr)).trans (List.Perm.swap _ _ _)) ?_
  unfold macR wbox
  have hg2 : m.rows[rest.length]? = some t:=by rw [hr]; simp
  have hoc2 : OwnCell (Ent.box p [g,Value.slice ua ul uc,Value.slice aa al ac,.slice m.ma m.mem.length m.mc,m.iv,.int .i64 m.state,.int .i64 m.value,.slice m.oa m.out.length m.oc,.int .i64 m.steps,.slice m.fa m.rows.length m.fc,.slice m.ca m.cs.length m.cc] 126::frsE m::memE m::outE m::cnsE m::(List.map frE rest++List.map cnE m.cs)) fb (fo + rest.length * 5 + 3) (.slice t.a t.f.regs.length t.c):=⟨fun _ _ w' hw'=>by
   have hk : (Ent.box p [g,Value.slice ua ul uc,Value.slice aa al ac,.slice m.ma m.mem.length m.mc,m.iv,.int .i64 m.state,.int .i64 m.value,.slice m.oa m.out.length m.oc,.int .i64 m.steps,.slice m.fa m.rows.length m.fc,.slice m.ca m.cs.length m.cc] 126::frsE m::memE m::outE m::cnsE m::(List.map frE rest++List.map cnE m.cs))[1]? = some (Ent.vec (some ⟨fb,fo,none⟩) m.rows.length m.fc 145 5 (m.rows.flatMap frC)):=by rw [← hf]; rfl
   rw [Nat.add_assoc]
   exact hw'.vecCell hk (flat_at frC_len m.rows rest.length t 3 _ hg2 rfl)⟩
  generalize hnx : phiVals t.f k T.phis = nx at *
  have hnl : nx.length = T.phis.length:=by rw [← hnx]; simp [phiVals]
  have hregs : ∀ j,((T.phis.take j).foldl (fun regs q=>regs.set q.dst.toNat (valM t.f (q.src.getD k noV))) t.f.regs).length = t.f.regs.length:=fun j=>by
   generalize T.phis.take j = l
   generalize t.f.regs = rs
   induction l generalizing rs with
   | nil=>rfl
   | cons q l ih=>rw [List.foldl_cons,ih,List.length_set]
  refine g_loop (fun j : Nat=>j ≤ T.phis.length) (fun j=>[(67,.int .i64 j),(65,.slice pa pn pc),(66,.int .i64 pn),(7,.slice na T.phis.length nc),(6,.slice pa pn pc),(5,.int .i64 k),(4,.pointer (some ⟨fb,fo + rest.length * 5,none⟩)),(0,.pointer (some ⟨p,0,none⟩)),(1,.int .i64 to)])
   (fun j=>Ent.vec t.a t.f.regs.length t.c 3 1 (((T.phis.take j).foldl (fun regs q=>regs.set q.dst.toNat (valM t.f (q.src.getD k noV))) t.f.regs).map (.int .i64))::Ent.vec na T.phis.length nc 3 1 (nx.map (.int .i64))::Ent.box p [g,Value.slice ua ul uc,Value.slice aa al ac,.slice m.ma m.mem.length m.mc,m.iv,.int .i64 m.state,.int .i64 m.value,.slice m.oa m.out.length m.oc,.int .i64 m.steps,.slice m.fa m.rows.length m.fc,.slice m.ca m.cs.length m.cc] 126::frsE m::memE m::outE m::cnsE m::(List.map frE rest++List.map cnE m.cs)) (fun j=>T.phis.length - j) 0 (Nat.zero_le _) (g_done (by repeat (first|exact trivial|refine ⟨rfl,?_⟩)) (.refl _)) fun j hj=>?_
  repeat (first|refine g_op rfl ?_|refine g_then ?_|refine g_nil ?_|refine g_region ?_|refine g_seq ?_)
  refine g_cond (fun h2=>?_) (fun h2=>?_)
  ·have hjl : j < pn:=by simpa using h2
   obtain ⟨q,hq⟩ : ∃ q,T.phis[j]? = some q:=⟨_,List.getElem?_eq_getElem (by omega)⟩
   have hqo:=hTo.phis q (List.mem_of_getElem? hq)
   obtain ⟨hd0,hd1⟩:=hqo.dst
   rw [← hX.regs] at hd1
   obtain ⟨d,hd⟩ : ∃ d : Nat,q.dst = d:=⟨q.dst.toNat,by omega⟩
   obtain ⟨_,hqc,sv,rfl,_,hsv⟩:=hpel j q hq
   obtain ⟨sa,sn,sc,sb,so,rfl,hsn,_⟩:=hsv
   have hadp : AddrIs pa pb po:=⟨hpa (ne_of_get hq)⟩
   have hlip : LtIs j pn:=⟨hjl⟩
   have hcip : CellsIs wz pb (po + j * 2) _:=⟨hqc⟩
   have holdp : OldIs S pb:=hcl.old hqc
   generalize hrs : (T.phis.take j).foldl (fun regs q=>regs.set q.dst.toNat (valM t.f (q.src.getD k noV))) t.f.regs = rs at *
   have hrsl : rs.length = t.f.regs.length:=by rw [← hrs]; exact hregs j
   refine g_vec 0 rfl (by omega) fun vb vo hva=>?_
   refine g_vec 1 rfl (by omega) fun nb no hna=>?_
   subst hna
   rw [hva] at hoc2
   rw [hva]
   have hnid : NatIs q.dst d:=⟨hd⟩
   have hld : LtIs d t.f.regs.length:=⟨by omega⟩
   have hlj : LtIs j T.phis.length:=⟨by omega⟩
   obtain ⟨y,hy⟩ : ∃ y,rs[d]? = some y:=⟨_,List.getElem?_eq_getElem (by omega)⟩
   have hely : ElAt rs d y:=⟨hy⟩
   have heln : ElAt nx j (valM t.f (q.src.getD k noV)):=⟨by rw [← hnx]; unfold phiVals; rw [List.getElem?_map,hq]; rfl⟩
   repeat (first|refine g_op rfl ?_|refine g_then ?_|refine g_nil ?_|refine g_region ?_|refine g_seq ?_|refine g_alloc rfl fun _ _=>?_|refine g_storeAgg ?_|refine g_block ?_|refine g_skip ?_)
   rename_i b11 _
   refine g_drawH (Ent.box b11 [.int .i64 q.dst,.slice sa sn sc] 86::Ent.vec (some ⟨nb,no,none⟩) T.phis.length nc 3 1 (nx.map (.int .i64))::Ent.box p [g,Value.slice ua ul uc,Value.slice aa al ac,.slice m.ma m.mem.length m.mc,m.iv,.int .i64 m.state,.int .i64 m.value,.slice m.oa m.out.length m.oc,.int .i64 m.steps,.slice m.fa m.rows.length m.fc,.slice m.ca m.cs.length m.cc] 126::frsE m::memE m::outE m::cnsE m::(List.map frE rest++List.map cnE m.cs)) mixed (.cons_cons _ (.cons _ (.refl _))) ?_
   refine h_take 0 rfl (by decide +kernel) (.cons_cons _ (.cons _ (.refl _))) ?_
   refine h_take 1 rfl (by decide +kernel) (.cons_cons _ (.cons _ (.refl _))) ?_
   refine h_take 2 rfl (by decide +kernel) (.cons_cons _ (.cons _ (.refl _))) ?_
   refine h_take 3 rfl (by decide +kernel) (.cons_cons _ (.cons _ (.refl _))) ?_
   refine h_take 4 rfl (by decide +kernel) (.cons_cons _ (.cons _ (.refl _))) ?_
   refine h_take 5 rfl (by decide +kernel) (.cons_cons _ (.cons _ (.refl _))) ?_
   refine h_take 6 rfl (by decide +kernel) (.cons_cons _ (.cons _ (.refl _))) ?_
   refine h_take 7 rfl (by decide +kernel) (.cons_cons _ (.cons _ (.refl _))) ?_
   refine h_take 8 rfl (by decide +kernel) (.cons_cons _ (.cons _ (.refl _))) ?_
   refine h_take 9 rfl (by decide +kernel) (.cons_cons _ (.cons _ (.refl _))) ?_
   refine h_take 10 rfl (by decide +kernel) (.cons_cons _ (.cons _ (.refl _))) ?_
   refine h_storeV 11 (by decide +kernel) (by decide +kernel) (.cons_cons _ (.cons _ (.refl _))) ?_
   repeat (first|refine g_then ?_|refine g_nil ?_|refine g_region ?_|refine g_opS rfl ?_|refine g_inBlock ?_|refine g_add rfl (by omega) (by omega) ?_)
   refine g_next (j + 1) (by omega) (by omega) (by repeat (first|exact trivial|refine ⟨rfl,?_⟩)) ?_
   rw [take_getB hq,List.foldl_append,hrs]
   simp only [List.foldl_cons,List.foldl_nil,hd,Int.toNat_natCast]
   exact List.Sublist.cons _ (.refl _)
  ·have hge : j = T.phis.length:=by have:=h2; simp at this; omega
   subst hge
   rw [List.take_length,show T.phis.foldl (fun regs q=>regs.set q.dst.toNat (valM t.f (q.src.getD k noV))) t.f.regs = phisM t.f k T.phis from rfl]
   have hrs : (phisM t.f k T.phis).length = t.f.regs.length:=by have:=hregs T.phis.length; rw [List.take_length] at this; exact this
   generalize phisM t.f k T.phis = rs at *
   obtain ⟨t1,ht1⟩ : ∃ t1 : FRow,t1 = ⟨{ t.f with regs:=rs,block:=to },t.a,t.c⟩:=⟨_,rfl⟩
   obtain ⟨t2,ht2⟩ : ∃ t2 : FRow,t2 = ⟨{ t.f with regs:=rs,block:=to,at':=0 },t.a,t.c⟩:=⟨_,rfl⟩
   rw [← ht2]
   have hput1 : XSet (m.rows.flatMap frC) (rest.length * 5 + 1) (.int .i64 (to : Int)) ((rest++[t1]).flatMap frC):=⟨by
    rw [flat_set frC_len hg2 (k:=1) (by omega) (y:=t1) (by rw [ht1]; simp [frC,hrs]),hr,List.set_append_right _ _ (Nat.le_refl _),Nat.sub_self,List.set_cons_zero],by rw [flat_len frC_len]; omega⟩
   have hg3 : (rest++[t1])[rest.length]? = some t1:=by simp
   have hput2 : XSet ((rest++[t1]).flatMap frC) (rest.length * 5 + 2) (.int .i64 (0 : Int)) ((rest++[t2]).flatMap frC):=⟨by
    rw [flat_set frC_len hg3 (k:=2) (by omega) (y:=t2) (by rw [ht1,ht2]; simp [frC]),List.set_append_right _ _ (Nat.le_refl _),Nat.sub_self,List.set_cons_zero],by rw [flat_len frC_len]; simp; omega⟩
   unfold frsE
   rw [hf]
   have hot : ∀ (xs : List Value) (A B C : Ent) (Y : List Ent) (j : Nat),OwnAt (A::B::C::Ent.vec (some ⟨fb,fo,none⟩) m.rows.length m.fc 145 5 xs::Y) fb (fo + rest.length * 5 + j) 3 fo (rest.length * 5 + j) m.rows.length m.fc 145 5 xs:=fun _ _ _ _ _ _=>⟨rfl,by omega⟩
   repeat (first|refine g_op rfl ?_|refine g_then ?_|refine g_nil ?_|refine g_region ?_|refine g_seq ?_|refine g_exit ?_|refine g_thenExit ?_|refine g_exitHere ?_|refine g_storeV ?_)
   obtain ⟨c1,c2,hc12,hc1⟩ : ∃ c1 c2,m.cs = c1++cr::c2∧c1.length = t.f.fn:=⟨m.cs.take t.f.fn,m.cs.drop (t.f.fn + 1),by
    rw [← (List.getElem?_eq_some_iff.1 hcr).2,List.getElem_cons_drop,List.take_append_drop],by rw [List.length_take]; have:=(List.getElem?_eq_some_iff.1 hcr).1; omega⟩
   have hcsl : t.f.fn < m.cs.length:=(List.getElem?_eq_some_iff.1 hcr).1
   obtain ⟨x,hx⟩ : ∃ x,cr.l[to]? = some x:=⟨_,List.getElem?_eq_getElem hcp⟩
   have hx9:=(hb.cnt cr (List.mem_of_getElem? hcr)).2 x (List.mem_of_getElem? hx)
   have hbs:=hb.steps
   unfold cnsE
   refine g_fix (L':=[(4,.pointer (some ⟨fb,fo + rest.length * 5,none⟩)),(0,.pointer (some ⟨p,0,none⟩)),(1,.int .i64 to)]) (by repeat (first|exact trivial|refine ⟨rfl,?_⟩)) (.cons_cons _ (.cons _ (.refl _))) ?_
   refine g_vec 5 rfl (by omega) fun cb co hca=>?_
   rw [hca]
   refine g_permH (cnt_pull hc12 [_,_,_,_,_,_] (List.map frE rest)) ?_
   rw [show cnE cr = Ent.vec cr.a cr.l.length cr.c 3 1 (cr.l.map fun x : Nat=>.int .i64 x) from rfl]
   refine g_vec 0 rfl (by omega) fun qb qo hqa=>?_
   rw [hqa]
   simp only [List.cons_append,List.nil_append]
   have hcell : OwnCell (Ent.vec t.a t.f.regs.length t.c 3 1 (rs.map (.int .i64))::Ent.box p [g,Value.slice ua ul uc,Value.slice aa al ac,.slice m.ma m.mem.length m.mc,m.iv,.int .i64 m.state,.int .i64 m.value,.slice m.oa m.out.length m.oc,.int .i64 m.steps,.slice (some ⟨fb,fo,none⟩) m.rows.length m.fc,.slice (some ⟨cb,co,none⟩) m.cs.length m.cc] 126::Ent.vec (some ⟨fb,fo,none⟩) m.rows.length m.fc 145 5 ((rest++[t2]).flatMap frC)::memE m::outE m::Ent.vec (some ⟨cb,co,none⟩) m.cs.length m.cc 38 1 (m.cs.map cnV)::(List.map frE rest++List.map cnE (c1++c2))) cb (co + t.f.fn * 1) (.slice (some ⟨qb,qo,none⟩) cr.l.length cr.c):=⟨fun _ _ w' hw' =>
    hw'.vecCell (k:=5) rfl (by rw [Nat.mul_one,List.getElem?_map,hcr,← hqa]; rfl)⟩
   have hcell0 : OwnCell (Ent.vec t.a t.f.regs.length t.c 3 1 (rs.map (.int .i64))::Ent.box p [g,Value.slice ua ul uc,Value.slice aa al ac,.slice m.ma m.mem.length m.mc,m.iv,.int .i64 m.state,.int .i64 m.value,.slice m.oa m.out.length m.oc,.int .i64 m.steps,.slice (some ⟨fb,fo,none⟩) m.rows.length m.fc,.slice (some ⟨cb,co,none⟩) m.cs.length m.cc] 126::Ent.vec (some ⟨fb,fo,none⟩) m.rows.length m.fc 145 5 ((rest++[t2]).flatMap frC)::memE m::outE m::Ent.vec (some ⟨cb,co,none⟩) m.cs.length m.cc 38 1 (m.cs.map cnV)::(List.map frE rest++List.map cnE (c1++c2))) fb (fo + rest.length * 5) (.int .i64 (t.f.fn : Nat)):=⟨fun _ _ w' hw'=>by
    have h5:=hw'.vecCell (k:=2) rfl (flat_at frC_len (rest++[t2]) rest.length t2 0 _ (by simp) rfl)
    rw [ht2] at h5
    exact h5⟩
   have hadc : AddrIs (some (⟨cb,co,none⟩ : Addr)) cb co:=⟨rfl⟩
   have hlc : LtIs t.f.fn m.cs.length:=⟨hcsl⟩
   have hlt2 : LtIs to cr.l.length:=⟨hcp⟩
   have hao : AddOk (x : Int) 1:=⟨by omega,by omega⟩
   have hel0 : ElAt cr.l to x:=⟨hx⟩
   have hxs : XSet (cr.l.map fun x : Nat=>Value.int .i64 x) (to * 1) (.int .i64 ((x : Int) + 1)) ((cr.l.set to (x + 1)).map fun x : Nat=>.int .i64 x):=⟨by
    rw [Nat.mul_one,List.map_set]; congr 1,by rw [List.length_map]; omega⟩
   refine g_drawX [] (fun _ : Unit=>True) (fun _=>[(0,.pointer (some ⟨p,0,none⟩))]) (fun _=>Ent.vec (some ⟨qb,qo,none⟩) cr.l.length cr.c 3 1 ((cr.l.set to (x + 1)).map fun x : Nat=>.int .i64 x)::Ent.vec t.a t.f.regs.length t.c 3 1 (rs.map (.int .i64))::Ent.box p [g,Value.slice ua ul uc,Value.slice aa al ac,.slice m.ma m.mem.length m.mc,m.iv,.int .i64 m.state,.int .i64 m.value,.slice m.oa m.out.length m.oc,.int .i64 m.steps,.slice (some ⟨fb,fo,none⟩) m.rows.length m.fc,.slice (some ⟨cb,co,none⟩) m.cs.length m.cc] 126::Ent.vec (some ⟨fb,fo,none⟩) m.rows.length m.fc 145 5 ((rest++[t2]).flatMap frC)::memE m::outE m::Ent.vec (some ⟨cb,co,none⟩) m.cs.length m.cc 38 1 (m.cs.map cnV)::(List.map frE rest++List.map cnE (c1++c2))) mixed (List.nil_sublist _) ?_ fun _ _=>?_
   ·skip
    refine h_take 0 rfl (by decide +kernel) (List.nil_sublist _) ?_
    refine h_take 1 rfl (by decide +kernel) (List.nil_sublist _) ?_
    refine h_take 2 rfl (by decide +kernel) (List.nil_sublist _) ?_
    refine h_take 4 rfl (by decide +kernel) (List.nil_sublist _) ?_
    refine h_take 5 rfl (by decide +kernel) (List.nil_sublist _) ?_
    refine h_take 6 rfl (by decide +kernel) (List.nil_sublist _) ?_
    refine h_take 10 rfl (by decide +kernel) (List.nil_sublist _) ?_
    refine h_two 3 7 (by decide +kernel) ?_ ?_
    ·refine o_op 3 rfl (List.nil_sublist _) ?_
     refine h_one 7 (by decide +kernel) (o_op 7 rfl (List.nil_sublist _) ?_)
     refine h_take 8 rfl (by decide +kernel) (List.nil_sublist _) ?_
     refine h_one 9 (by decide +kernel) (o_op 9 rfl (List.nil_sublist _) ?_)
     refine h_take 11 rfl (by decide +kernel) (List.nil_sublist _) ?_
     refine h_one 12 (by decide +kernel) (o_op 12 rfl (List.nil_sublist _) ?_)
     refine h_take 13 rfl (by decide +kernel) (List.nil_sublist _) ?_
     refine h_take 14 rfl (by decide +kernel) (List.nil_sublist _) ?_
     refine h_one 15 (by decide +kernel) (o_storeV 15 (List.nil_sublist _) ?_)
     refine h_end (by decide +kernel) ?_
     exact g_mem () trivial (by repeat (first|exact trivial|refine ⟨rfl,?_⟩)) (.refl _)
    ·refine o_op 7 rfl (List.nil_sublist _) ?_
     refine h_one 3 (by decide +kernel) (o_op 3 rfl (List.nil_sublist _) ?_)
     refine h_take 8 rfl (by decide +kernel) (List.nil_sublist _) ?_
     refine h_one 9 (by decide +kernel) (o_op 9 rfl (List.nil_sublist _) ?_)
     refine h_take 11 rfl (by decide +kernel) (List.nil_sublist _) ?_
     refine h_one 12 (by decide +kernel) (o_op 12 rfl (List.nil_sublist _) ?_)
     refine h_take 13 rfl (by decide +kernel) (List.nil_sublist _) ?_
     refine h_take 14 rfl (by decide +kernel) (List.nil_sublist _) ?_
     refine h_one 15 (by decide +kernel) (o_storeV 15 (List.nil_sublist _) ?_)
     refine h_end (by decide +kernel) ?_
     exact g_mem () trivial (by repeat (first|exact trivial|refine ⟨rfl,?_⟩)) (.refl _)
   skip
   refine g_end0 rfl fun w' hw'=>⟨(),rfl,?_,trivial⟩
   have h2:=hw'.perm (perm_enter _ _ _ _ _ _ _ (rest.map frE) (c1.map cnE) (c2.map cnE) (by rw [List.map_append]))
   subst ht2
   have h3:=h2.perm (mac_jumped hr hc12 hc1 hx hqa hca hf rs hrs)
   simp only [macL,wbox,frsE,cnsE,hca,hf] at h3 ⊢
   exact h3
end Go.Proofs.YtdbljcahlpkgdaaGreatDoor

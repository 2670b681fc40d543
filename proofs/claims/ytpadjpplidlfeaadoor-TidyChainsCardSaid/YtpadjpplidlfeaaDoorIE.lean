/- Texts joined: Namer Names. -/
import Derived.Test.YtpadjpplidlfeaaDoorGE
import Derived.Test.YtpadjpplidlfeaaDoorGX
import Derived.Test.YtpadjpplidlfeaaDoorHA
import Derived.Test.YtpadjpplidlfeaaDoorHQ
import Derived.Test.YtpadjpplidlfeaaDoorHV
import Derived.Test.YtpadjpplidlfeaaDoorIB
import Derived.Test.YtpadjpplidlfeaaDoorID
namespace Go.Proofs.YtpadjpplidlfeaaDoor
open Go Go.RowKit
attribute [local irreducible] wpListIn Code.wpIn Exit.then Exit.inBlock bodyPost wpQuiet wpAnyIn wpAnyH bodyPostM oneH
set_option maxHeartbeats 4000000
def nmB (q b R : Nat) (l : List Int) : Ent:=Ent.box q [.slice (some ⟨b,0,none⟩) R R,.int .i64 (l.length : Int)] 89
def nmV (b R : Nat) (l : List Int) : Ent:=Ent.vec (some ⟨b,0,none⟩) R R 3 1 ((nowL R l).map (.int .i64))
theorem meet_len (l : List Int) (r : Int) (h : r ∉ l) : (meet l r).length = l.length + 1:=by unfold meet; rw [if_neg h]; simp
theorem nmName_c (q b R r : Nat) (l : List Int) (hr : r < R) (hl : l.length ≤ 1000000) (w : World) (hw : Wd (fps [nmB q b R l,nmV b R l]) w [nmB q b R l,nmV b R l] w) :
  Ret Tryd.prog 45 [.pointer (some ⟨q,0,none⟩),.int .i64 (r : Int)] w fun u w'=>∃ _x : Unit,u = .int .i64 (plc (meet l r) r)∧Wd (fps [nmB q b R l,nmV b R l]) w [nmB q b R (meet l r),nmV b R (meet l r)] w'∧True:=by
 refine ret_enter Tryd.func45 rfl Tryd.ntmps45 rfl hw ?_
 generalize fps [nmB q b R l,nmV b R l] = SS
 have hli : LtIs r R:=⟨hr⟩
 have hat : ∀ m : List Int,XAt ((nowL R m).map (.int .i64)) (r * 1) (.int .i64 (if (r : Int) ∈ m then plc m r else -1)):=fun m=>⟨by rw [Nat.mul_one,List.getElem?_map,nowL_get hr]; rfl⟩
 have hat1:=hat l
 have hat2:=hat (meet l r)
 rw [if_pos (mem_meet.2 (.inr rfl))] at hat2
 unfold nmB nmV
 by_cases hm : (r : Int) ∈ l
 ·rw [if_pos hm] at hat1
  rw [meet_in hm]
  have h0:=plc_lt hm
  repeat (first|refine g_op rfl ?_|refine g_then ?_|refine g_nil ?_|refine g_region ?_|refine g_seq ?_|refine g_opS rfl ?_|refine g_skip ?_|refine g_condF ?_|refine g_ret ?_)
  rw [show decide (plc l r < 0) = false by simp; omega]
  skip
  exact g_ret1 rfl fun w hw=>⟨(),rfl,hw,trivial⟩
 ·rw [if_neg hm] at hat1
  repeat (first|refine g_op rfl ?_|refine g_then ?_|refine g_nil ?_|refine g_region ?_|refine g_seq ?_|refine g_condT ?_)
  rw [show decide ((-1 : Int) < 0) = true by decide]
  skip
  have hxs : XSet ((nowL R l).map (.int .i64)) (r * 1) (.int .i64 (l.length : Int)) ((nowL R (meet l r)).map (.int .i64)):=⟨by rw [Nat.mul_one,← List.map_set,nowL_meet hm],by rw [List.length_map,nowL_len]; omega⟩
  refine g_drawX [Ent.box q [.slice (some ⟨b,0,none⟩) R R,.int .i64 (l.length : Int)] 89] (fun _ : Unit=>True) (fun _=>[(0,.pointer (some ⟨q,0,none⟩)),(1,.int .i64 (r : Int))]) (fun _=>[Ent.box q [.slice (some ⟨b,0,none⟩) R R,.int .i64 (l.length : Int)] 89,Ent.vec (some ⟨b,0,none⟩) R R 3 1 ((nowL R (meet l r)).map (.int .i64))]) mixed (.cons_cons _ (List.nil_sublist _)) ?_ fun _ _=>?_
  ·skip
   refine h_take 0 rfl (by decide +kernel) (.cons_cons _ (List.nil_sublist _)) ?_
   refine h_take 1 rfl (by decide +kernel) (.cons_cons _ (List.nil_sublist _)) ?_
   refine h_take 2 rfl (by decide +kernel) (.cons_cons _ (List.nil_sublist _)) ?_
   refine h_take 3 rfl (by decide +kernel) (.cons_cons _ (List.nil_sublist _)) ?_
   refine h_take 4 rfl (by decide +kernel) (.cons_cons _ (List.nil_sublist _)) ?_
   refine h_take 5 rfl (by decide +kernel) (.cons_cons _ (List.nil_sublist _)) ?_
   refine h_take 6 rfl (by decide +kernel) (.cons_cons _ (List.nil_sublist _)) ?_
   refine h_take 7 rfl (by decide +kernel) (.cons_cons _ (List.nil_sublist _)) ?_
   refine h_take 8 rfl (by decide +kernel) (.cons_cons _ (List.nil_sublist _)) ?_
   refine h_take 9 rfl (by decide +kernel) (.cons_cons _ (List.nil_sublist _)) ?_
   refine h_one 10 (by decide +kernel) (o_storeV 10 (.cons_cons _ (List.nil_sublist _)) ?_)
   refine h_end (by decide +kernel) ?_
   exact g_mem () trivial (by repeat (first|exact trivial|refine ⟨rfl,?_⟩)) (.refl _)
  repeat (first|refine g_op rfl ?_|refine g_then ?_|refine g_nil ?_|refine g_region ?_|refine g_seq ?_|refine g_store ?_|refine g_add rfl (by omega) (by omega) ?_|refine g_ret ?_)
  exact g_ret1 rfl fun w hw=>⟨(),rfl,by rw [meet_len l r hm,show ((l.length + 1 : Nat) : Int) = (l.length : Int) + 1 by omega]; exact hw,trivial⟩
theorem nmVal_c (q b R : Nat) (v : LVal) (l : List Int) (hv : ValOk R v) (hl : l.length ≤ 1000000) (w : World) (hw : Wd (fps [nmB q b R l,nmV b R l]) w [nmB q b R l,nmV b R l] w) :
  Ret Tryd.prog 46 [.pointer (some ⟨q,0,none⟩),.agg #[.bool v.reg,.int .i64 v.n]] w fun u w'=>∃ _x : Unit,u = .agg #[.bool (renV (meets l (seqV v)) v).reg,.int .i64 (renV (meets l (seqV v)) v).n]∧Wd (fps [nmB q b R l,nmV b R l]) w [nmB q b R (meets l (seqV v)),nmV b R (meets l (seqV v))] w'∧True:=by
 obtain ⟨reg,k⟩:=v
 refine ret_enter Tryd.func46 rfl Tryd.ntmps46 rfl hw ?_
 obtain ⟨SS,hSS⟩ : ∃ SS,SS = fps [nmB q b R l,nmV b R l]:=⟨_,rfl⟩
 rw [← hSS]
 cases reg with
 | false =>
  have e1 : meets l (seqV ⟨false,k⟩) = l:=rfl
  have e2 : renV l ⟨false,k⟩ = ⟨false,k⟩:=rfl
  rw [e1,e2]
  repeat (first|refine g_op rfl ?_|refine g_then ?_|refine g_nil ?_|refine g_region ?_|refine g_seq ?_|refine g_box rfl fun _ _=>?_|refine g_alloc rfl fun _ _=>?_|refine g_storeAgg ?_|refine g_skip ?_|refine g_condF ?_|refine g_ret ?_)
  exact g_retC rfl fun w hw=>⟨(),rfl,hw.sub (by simp),trivial⟩
 | true =>
  obtain ⟨h1,h2⟩:=hv rfl
  simp only at h1 h2
  obtain ⟨r,rfl⟩ : ∃ r : Nat,k = r:=⟨k.toNat,by omega⟩
  have e1 : meets l (seqV ⟨true,r⟩) = meet l r:=rfl
  have e2 : renV (meet l r) ⟨true,r⟩ = ⟨true,plc (meet l r) r⟩:=rfl
  rw [e1,e2]
  simp only
  repeat (first|refine g_op rfl ?_|refine g_then ?_|refine g_nil ?_|refine g_region ?_|refine g_seq ?_|refine g_box rfl fun _ _=>?_|refine g_alloc rfl fun _ _=>?_|refine g_condT ?_)
  rename_i p3 _ p4 _
  refine g_permH (H1:=[nmB q b R l,nmV b R l]++[Ent.box p4 [.bool false,.int .i64 0] 39,Ent.box p3 [.bool true,.int .i64 (r : Int)] 39]) (List.perm_append_comm (l₁:=[Ent.box p4 [.bool false,.int .i64 0] 39,Ent.box p3 [.bool true,.int .i64 (r : Int)] 39])) ?_
  refine g_callS (val:=fun _ : Unit=>.int .i64 (plc (meet l r) r)) (E:=fun _=>[nmB q b R (meet l r),nmV b R (meet l r)]) (φ:=fun _=>True) rfl (fun w hw=>nmName_c q b R r l (by omega) hl w hw.pre) fun _ _=>?_
  simp only [List.cons_append,List.nil_append]
  repeat (first|refine g_op rfl ?_|refine g_then ?_|refine g_nil ?_|refine g_region ?_|refine g_seq ?_|refine g_store ?_|refine g_storeAgg ?_|refine g_ret ?_)
  exact g_retC rfl fun w hw=>⟨(),rfl,hw.sub (by simp),trivial⟩
end Go.Proofs.YtpadjpplidlfeaaDoor
namespace Go.Proofs.YtpadjpplidlfeaaDoor
open Go Go.RowKit
attribute [local irreducible] wpListIn Code.wpIn Exit.then Exit.inBlock bodyPost wpQuiet wpAnyIn wpAnyH bodyPostM oneH
set_option maxHeartbeats 8000000
theorem repeat0_c (b0 o0 : Nat) (z : Int) (w : World) (hx : w.cell? ⟨b0,o0,none⟩ = some (.int .i64 z)) :
  Ret Tryd.prog 44 [.slice (some ⟨b0,o0,none⟩) 1 1,.int .i64 0] w fun u w'=>∃ a : Nat,u = .slice (some ⟨a,0,none⟩) 0 0∧Wd NoS w [Ent.vec (some ⟨a,0,none⟩) 0 0 3 1 []] w'∧True:=by
 refine ret_enter Tryd.func44 rfl Tryd.ntmps44 rfl (Wd.nil NoS w) ?_
 repeat (first|refine g_op rfl ?_|refine g_then ?_|refine g_nil ?_|refine g_region ?_|refine g_seq ?_|refine g_skip ?_|refine g_condF ?_)
 refine g_conv rfl rfl ?_
 repeat (refine g_op rfl ?_)
 refine g_conv rfl rfl ?_
 refine g_callV rfl (fun w' _=>mul_c 1 0 (by omega) (by omega) (by omega) w') ?_
 rw [Nat.mul_zero]
 repeat (first|refine g_op rfl ?_|refine g_then ?_|refine g_nil ?_|refine g_region ?_|refine g_seq ?_|refine g_open ?_)
 rw [show decide ((9223372036854775807 : Int) < ((0 : Nat) : Int)) = false by decide,show decide ((0 : Int) < 0) = false from rfl]
 repeat (first|refine g_op rfl ?_|refine g_then ?_|refine g_nil ?_|refine g_region ?_|refine g_seq ?_|refine g_skip ?_|refine g_condF ?_)
 refine g_conv rfl ?_ ?_
 ·rw [IntKind.wrap_i64]; omega
 repeat (first|refine g_op rfl ?_|refine g_then ?_|refine g_nil ?_|refine g_region ?_|refine g_seq ?_|refine g_make rfl (by omega) (by omega) fun _ _=>?_)
 rename_i a _
 refine g_copy (b:=a) (o:=0) (off:=0) 0 ([] : List Value) rfl rfl (by simp) (fun w' hw j v hj=>by simp at hj) (by simp) (fun v hv=>by cases hv) ?_
 simp only [List.replicate_zero,List.set_cons_zero]
 repeat (first|refine g_op rfl ?_|refine g_then ?_|refine g_nil ?_|refine g_seq ?_|refine g_block ?_)
 refine g_loop (fun (_ : Unit)=>True) (fun _=>[(8,.int .i64 0),(7,.slice (some ⟨a,0,none⟩) 0 0)]) (fun _=>[Ent.vec (some ⟨a,0,none⟩) 0 0 3 1 []]) (fun _=>0) () trivial (g_done (by repeat (first|exact trivial|refine ⟨rfl,?_⟩)) (.refl _)) fun _ _=>?_
 repeat (first|refine g_op rfl ?_|refine g_then ?_|refine g_nil ?_|refine g_region ?_|refine g_seq ?_|refine g_condF ?_|refine g_exit ?_|refine g_thenExit ?_|refine g_exitHere ?_|refine g_ret ?_)
 exact g_ret1 rfl fun w hw=>⟨a,rfl,hw,trivial⟩
theorem repeatN_c (b0 o0 n : Nat) (z : Int) (w : World) (hx : w.cell? ⟨b0,o0,none⟩ = some (.int .i64 z)) (hn : n ≤ 1000) :
  Ret Tryd.prog 44 [.slice (some ⟨b0,o0,none⟩) 1 1,.int .i64 n] w fun u w'=>∃ a : Nat,u = .slice (some ⟨a,0,none⟩) n n∧Wd NoS w [Ent.vec (some ⟨a,0,none⟩) n n 3 1 (List.replicate n (.int .i64 z))] w'∧True:=by
 rcases Nat.eq_zero_or_pos n with e|e
 ·subst e
  exact repeat0_c b0 o0 z w hx
 ·exact repeat_c b0 o0 n z w hx e hn
theorem val_seq {R : Nat} {v : LVal} (h : ∀ r ∈ seqV v,0 ≤ r∧r < R) : ValOk R v:=fun hv=>h v.n (by unfold seqV; rw [if_pos hv]; simp)
theorem namesOf_c (X : LFunc) (R : Nat) (hX : FnAll X R) (hlen : X.blocks.length ≤ 100) (hpar : inI X.params) (w0 : World) : Turns w0 21 [] [] namesF X:=by
 classical
 obtain ⟨xn,xp,xr,xb⟩:=X
 have hXR:=hX.regs
 have hR:=hX.le
 have hf:=hX.ok
 have hpos:=hX.pos
 have hp2:=hX.par
 have huse:=hX.uses
 simp only at hXR hlen hpar hf hpos hp2 huse
 subst hXR
 intro a c bs wb hbs hbd hch hfr hw
 simp only at hbs
 subst hbs
 have hbl : bs.length ≤ 100:=by rw [List.length_map] at hlen; exact hlen
 have hg:=hf.good
 have hk:=orderK_ok hg hpos
 have hol : (orderL (bs.map BRow.blk)).length = (postL (bs.map BRow.blk)).length:=by unfold orderL; rw [List.length_reverse]
 have hplen:=postL_len hpos
 rw [List.length_map] at hplen hpos
 obtain ⟨P,rfl⟩ : ∃ P : Nat,xp = P:=⟨xp.toNat,by omega⟩
 simp only [List.nil_append,List.append_nil,List.cons_append]
 refine ret_enter Tryd.func21 rfl Tryd.ntmps21 rfl hw ?_
 obtain ⟨SS,hSS⟩ : ∃ SS,SS = fps (fnE a c bs):=⟨_,rfl⟩
 rw [← hSS]
 repeat (first|refine g_then ?_|refine g_nil ?_|refine g_region ?_|refine g_seq ?_|refine g_box rfl fun _ _=>?_|refine g_alloc rfl fun _ _=>?_)
 rename_i p1 _ p2 _
 obtain ⟨bl,hblD⟩ : ∃ bl,bl = bs.map BRow.blk:=⟨_,rfl⟩
 obtain ⟨o,hoD⟩ : ∃ o,o = orderL bl:=⟨_,rfl⟩
 rw [← hblD] at hk hol hplen
 rw [← hoD] at hk hol
 have hol2 : o.length ≤ bs.length:=by omega
 have hocall : ∀ w : World,SlAt w (.slice a bs.length c) 6 bl BlockV→Ret Tryd.prog 43 [.agg #[.string xn,.int .i64 (P : Int),.int .i64 (R : Int),.slice a bs.length c]] w fun u w'=>∃ x : Option Addr × Nat,u = .slice x.1 o.length x.2∧Wd NoS w [Ent.vec x.1 o.length x.2 3 1 (o.map intN)] w'∧True:=fun w h=>by
  have:=orderOf_c (.string xn) (.int .i64 (P : Int)) (.int .i64 (R : Int)) bl (.slice a bs.length c) ⟨_,_,_,rfl⟩ w h (by rw [hblD,List.length_map]; exact hbl) (by rw [hblD]; exact hg) (by rw [hblD,List.length_map]; exact hpos)
  rw [hol,hoD]
  exact this
 have hrd : ∀ w,Wd SS wb (Ent.box p2 [.string ByteArray.empty,.int .i64 0,.int .i64 0,.slice none 0 0] 33::Ent.box p1 [.string xn,.int .i64 (P : Int),.int .i64 (R : Int),.slice a bs.length c] 33::fnE a c bs) w→SlAt w (.slice a bs.length c) 6 bl BlockV:=fun w hw=>by
  rw [hblD]
  refine Wd.blocks (H:=[]) (hw.sub (.cons _ (.cons _ ?_))) (by omega) hbd
  rw [List.append_nil]
  exact List.Sublist.refl _
 have hkcall : ∀ (y : Option Addr × Nat) (S : Nat→Prop) (v w : World),Wd S v (fnE a c bs++[Ent.box p2 [.string ByteArray.empty,.int .i64 0,.int .i64 0,.slice none 0 0] 33,Ent.box p1 [.string xn,.int .i64 (P : Int),.int .i64 (R : Int),.slice a bs.length c] 33,Ent.vec y.1 o.length y.2 3 1 (o.map intN)]) w→Ret Tryd.prog 42 [.agg #[.string xn,.int .i64 (P : Int),.int .i64 (R : Int),.slice a bs.length c],.slice y.1 o.length y.2] w fun u w'=>∃ x : Option Addr × Nat × List BRow,u = .agg #[.string xn,.int .i64 (P : Int),.int .i64 (R : Int),.slice x.1 x.2.2.length x.2.1]∧Wd (fps (fnE a c bs)) w (fnE x.1 x.2.1 x.2.2) w' ∧
   (x.2.2.map BRow.blk = keptL bl o∧∀ b ∈ x.2.2,b.Bd):=fun y S v w hw=>by
  have:=keep_c xn (P : Int) (R : Int) a c bs o y.1 y.2 R hbl hpos hbd hf (by rw [← hblD]; exact hk) w hw.pre (ints_sl hw.besides (k:=2) rfl rfl (by omega) fun x hx=>by have:=hk.lt x hx; rw [hblD,List.length_map] at this; omega)
  rw [← hblD] at this
  exact this
 refine g_drawX [] (fun x : Option Addr × Nat × List BRow=>x.2.2.map BRow.blk = keptL bl o∧∀ b ∈ x.2.2,b.Bd) (fun _=>[(1,.pointer (some ⟨p1,0,none⟩)),(2,.pointer (some ⟨p2,0,none⟩))]) (fun x=>Ent.box p1 [.string xn,.int .i64 (P : Int),.int .i64 (R : Int),.slice x.1 x.2.2.length x.2.1] 33::Ent.box p2 [.string ByteArray.empty,.int .i64 0,.int .i64 0,.slice none 0 0] 33::fnE x.1 x.2.1 x.2.2) mixed (List.nil_sublist _) ?_ fun x hx=>?_
 ·skip
  refine h_two 0 1 (by decide +kernel) ?_ ?_
  ·skip
   refine o_op 0 rfl (List.nil_sublist _) ?_
   refine h_one 1 (by decide +kernel) ?_
   refine o_op 1 rfl (List.nil_sublist _) ?_
   refine h_one 2 (by decide +kernel) ?_
   (refine o_callE 2 (val:=fun x : Option Addr × Nat=>.slice x.1 o.length x.2) (E:=fun x=>[Ent.vec x.1 o.length x.2 3 1 (o.map intN)]) (φ:=fun _=>True) rfl (List.nil_sublist _) (fun w hw=>hocall w (hrd w hw)) fun y _=>?_; obtain ⟨oa,oc⟩:=y; simp only [List.cons_append,List.nil_append])
   refine h_one 3 (by decide +kernel) ?_
   (refine g_permH (H1:=fnE a c bs++[Ent.box p2 [.string ByteArray.empty,.int .i64 0,.int .i64 0,.slice none 0 0] 33,Ent.box p1 [.string xn,.int .i64 (P : Int),.int .i64 (R : Int),.slice a bs.length c] 33,Ent.vec oa o.length oc 3 1 (o.map intN)]) (List.perm_iff_count.2 fun e=>by simp only [List.count_append,List.count_cons,List.count_nil]; omega) ?_; refine o_callS 3 (val:=fun x : Option Addr × Nat × List BRow=>.agg #[.string xn,.int .i64 (P : Int),.int .i64 (R : Int),.slice x.1 x.2.2.length x.2.1]) (E:=fun x=>fnE x.1 x.2.1 x.2.2) (φ:=fun x=>x.2.2.map BRow.blk = keptL bl o∧∀ b ∈ x.2.2,b.Bd) rfl (List.nil_sublist _) (fun w hw=>hkcall (oa,oc) _ _ w hw) fun z hz=>?_; obtain ⟨na,nc,ks⟩:=z; simp only at hz ⊢)
   refine g_permH (H1:=Ent.box p1 [.string xn,.int .i64 (P : Int),.int .i64 (R : Int),.slice a bs.length c] 33::Ent.box p2 [.string ByteArray.empty,.int .i64 0,.int .i64 0,.slice none 0 0] 33::Ent.vec oa o.length oc 3 1 (o.map intN)::fnE na nc ks) (List.perm_iff_count.2 fun e=>by simp only [List.count_append,List.count_cons,List.count_nil]; omega) ?_
   refine h_storeAgg 4 (by decide +kernel) (List.nil_sublist _) ?_
   refine h_end (by decide +kernel) ?_
   exact g_mem (na,nc,ks) hz (by repeat (first|exact trivial|refine ⟨rfl,?_⟩)) (.cons_cons _ (.cons_cons _ (.cons _ (.refl _))))
  ·skip
   refine o_op 1 rfl (List.nil_sublist _) ?_
   refine h_two 0 2 (by decide +kernel) ?_ ?_
   ·skip
    refine o_op 0 rfl (List.nil_sublist _) ?_
    refine h_one 2 (by decide +kernel) ?_
    (refine o_callE 2 (val:=fun x : Option Addr × Nat=>.slice x.1 o.length x.2) (E:=fun x=>[Ent.vec x.1 o.length x.2 3 1 (o.map intN)]) (φ:=fun _=>True) rfl (List.nil_sublist _) (fun w hw=>hocall w (hrd w hw)) fun y _=>?_; obtain ⟨oa,oc⟩:=y; simp only [List.cons_append,List.nil_append])
    refine h_one 3 (by decide +kernel) ?_
    (refine g_permH (H1:=fnE a c bs++[Ent.box p2 [.string ByteArray.empty,.int .i64 0,.int .i64 0,.slice none 0 0] 33,Ent.box p1 [.string xn,.int .i64 (P : Int),.int .i64 (R : Int),.slice a bs.length c] 33,Ent.vec oa o.length oc 3 1 (o.map intN)]) (List.perm_iff_count.2 fun e=>by simp only [List.count_append,List.count_cons,List.count_nil]; omega) ?_; refine o_callS 3 (val:=fun x : Option Addr × Nat × List BRow=>.agg #[.string xn,.int .i64 (P : Int),.int .i64 (R : Int),.slice x.1 x.2.2.length x.2.1]) (E:=fun x=>fnE x.1 x.2.1 x.2.2) (φ:=fun x=>x.2.2.map BRow.blk = keptL bl o∧∀ b ∈ x.2.2,b.Bd) rfl (List.nil_sublist _) (fun w hw=>hkcall (oa,oc) _ _ w hw) fun z hz=>?_; obtain ⟨na,nc,ks⟩:=z; simp only at hz ⊢)
    refine g_permH (H1:=Ent.box p1 [.string xn,.int .i64 (P : Int),.int .i64 (R : Int),.slice a bs.length c] 33::Ent.box p2 [.string ByteArray.empty,.int .i64 0,.int .i64 0,.slice none 0 0] 33::Ent.vec oa o.length oc 3 1 (o.map intN)::fnE na nc ks) (List.perm_iff_count.2 fun e=>by simp only [List.count_append,List.count_cons,List.count_nil]; omega) ?_
    refine h_storeAgg 4 (by decide +kernel) (List.nil_sublist _) ?_
    refine h_end (by decide +kernel) ?_
    exact g_mem (na,nc,ks) hz (by repeat (first|exact trivial|refine ⟨rfl,?_⟩)) (.cons_cons _ (.cons_cons _ (.cons _ (.refl _))))
   ·skip
    (refine o_callE 2 (val:=fun x : Option Addr × Nat=>.slice x.1 o.length x.2) (E:=fun x=>[Ent.vec x.1 o.length x.2 3 1 (o.map intN)]) (φ:=fun _=>True) rfl (List.nil_sublist _) (fun w hw=>hocall w (hrd w hw)) fun y _=>?_; obtain ⟨oa,oc⟩:=y; simp only [List.cons_append,List.nil_append])
    refine h_one 0 (by decide +kernel) ?_
    refine o_op 0 rfl (List.nil_sublist _) ?_
    refine h_one 3 (by decide +kernel) ?_
    (refine g_permH (H1:=fnE a c bs++[Ent.box p2 [.string ByteArray.empty,.int .i64 0,.int .i64 0,.slice none 0 0] 33,Ent.box p1 [.string xn,.int .i64 (P : Int),.int .i64 (R : Int),.slice a bs.length c] 33,Ent.vec oa o.length oc 3 1 (o.map intN)]) (List.perm_iff_count.2 fun e=>by simp only [List.count_append,List.count_cons,List.count_nil]; omega) ?_; refine o_callS 3 (val:=fun x : Option Addr × Nat × List BRow=>.agg #[.string xn,.int .i64 (P : Int),.int .i64 (R : Int),.slice x.1 x.2.2.length x.2.1]) (E:=fun x=>fnE x.1 x.2.1 x.2.2) (φ:=fun x=>x.2.2.map BRow.blk = keptL bl o∧∀ b ∈ x.2.2,b.Bd) rfl (List.nil_sublist _) (fun w hw=>hkcall (oa,oc) _ _ w hw) fun z hz=>?_; obtain ⟨na,nc,ks⟩:=z; simp only at hz ⊢)
    refine g_permH (H1:=Ent.box p1 [.string xn,.int .i64 (P : Int),.int .i64 (R : Int),.slice a bs.length c] 33::Ent.box p2 [.string ByteArray.empty,.int .i64 0,.int .i64 0,.slice none 0 0] 33::Ent.vec oa o.length oc 3 1 (o.map intN)::fnE na nc ks) (List.perm_iff_count.2 fun e=>by simp only [List.count_append,List.count_cons,List.count_nil]; omega) ?_
    refine h_storeAgg 4 (by decide +kernel) (List.nil_sublist _) ?_
    refine h_end (by decide +kernel) ?_
    exact g_mem (na,nc,ks) hz (by repeat (first|exact trivial|refine ⟨rfl,?_⟩)) (.cons_cons _ (.cons_cons _ (.cons _ (.refl _))))
 obtain ⟨na,nc,ks⟩:=x
 obtain ⟨hkb,hkd⟩:=hx
 simp only at hkb hkd ⊢
 repeat (first|refine g_op rfl ?_|refine g_then ?_|refine g_region ?_|refine g_seq ?_|refine g_build1 rfl rfl fun _ _=>?_)
 rename_i e1 _
 obtain ⟨n,hnD⟩ : ∃ n,n = ks.length:=⟨_,rfl⟩
 obtain ⟨kl,hklD⟩ : ∃ kl,kl = keptL bl o:=⟨_,rfl⟩
 have hkf : FuncOk R kl:=by rw [hklD]; exact keep_funcOk (by rw [hblD]; exact hf) hk
 have hkn : kl.length = n:=by rw [hklD,← hkb,List.length_map,hnD]
 have hnle : n ≤ 100:=by rw [← hkn,hklD,keptL_len]; omega
 have hkuse : ∀ B ∈ kl,∀ x ∈ B.list,∃ fs,insErr fs (R : Int) x = 0:=fun B hB x hx=>by
  rw [hklD] at hB
  unfold keptL at hB
  obtain ⟨b,hb,rfl⟩:=List.mem_map.1 hB
  exact huse (blkAt bl b) (by rw [← hblD]; exact List.mem_of_getElem? (get_blkAt (hk.lt b hb))) x hx
 rw [← hnD]
 refine g_callE (val:=fun a : Nat=>.slice (some ⟨a,0,none⟩) R R) (E:=fun a=>[Ent.vec (some ⟨a,0,none⟩) R R 3 1 (List.replicate R (.int .i64 (-1)))]) (φ:=fun _=>True) rfl (fun w hw=>repeatN_c e1 0 R (-1) w (hw.vecCell (k:=0) (o:=0) (j:=0) rfl rfl) (by omega)) fun ta _=>?_
 simp only [List.cons_append,List.nil_append]
 repeat (first|refine g_op rfl ?_|refine g_then ?_|refine g_nil ?_|refine g_region ?_|refine g_seq ?_|refine g_box rfl fun _ _=>?_|refine g_block ?_)
 rename_i q _
 refine g_wd (H':=nmB q ta R (parL 0)::nmV ta R (parL 0)::Ent.box p1 [.string xn,.int .i64 (P : Int),.int .i64 (R : Int),.slice na n nc] 33::Ent.box p2 [.string ByteArray.empty,.int .i64 0,.int .i64 0,.slice none 0 0] 33::fnE na nc ks) (fun w hw=>?_) ?_
 ·unfold nmB nmV
  rw [show (nowL R (parL 0)).map (Value.int .i64) = List.replicate R (.int .i64 (-1)) by rw [show parL 0 = [] from rfl,nowL_nil]; simp]
  exact hw.sub (.cons_cons _ (.cons_cons _ (.cons _ (.refl _))))
 refine g_loop (fun (r : Nat)=>r ≤ P) (fun r=>[(35,.int .i64 r),(34,.int .i64 P),(3,.pointer (some ⟨q,0,none⟩)),(1,.pointer (some ⟨p1,0,none⟩)),(2,.pointer (some ⟨p2,0,none⟩))]) (fun r=>nmB q ta R (parL r)::nmV ta R (parL r)::Ent.box p1 [.string xn,.int .i64 (P : Int),.int .i64 (R : Int),.slice na n nc] 33::Ent.box p2 [.string ByteArray.empty,.int .i64 0,.int .i64 0,.slice none 0 0] 33::fnE na nc ks) (fun r=>P - r) 0 (Nat.zero_le _) (g_done (by repeat (first|exact trivial|refine ⟨rfl,?_⟩)) (.refl _)) fun r hr=>?_
 repeat (first|refine g_op rfl ?_|refine g_then ?_|refine g_nil ?_|refine g_region ?_|refine g_seq ?_)
 refine g_cond (fun h1=>?_) (fun h1=>?_)
 ·have hrP : r < P:=by simpa using h1
  repeat (first|refine g_op rfl ?_|refine g_then ?_|refine g_nil ?_|refine g_region ?_|refine g_seq ?_|refine g_block ?_|refine g_skip ?_)
  refine g_eqH (H1:=[nmB q ta R (parL r),nmV ta R (parL r)]++(Ent.box p1 [.string xn,.int .i64 (P : Int),.int .i64 (R : Int),.slice na n nc] 33::Ent.box p2 [.string ByteArray.empty,.int .i64 0,.int .i64 0,.slice none 0 0] 33::fnE na nc ks)) rfl ?_
  refine g_callS (val:=fun _ : Unit=>.int .i64 (plc (meet (parL r) r) r)) (E:=fun _=>[nmB q ta R (meet (parL r) r),nmV ta R (meet (parL r) r)]) (φ:=fun _=>True) rfl (fun w hw=>nmName_c q ta R r (parL r) (by omega) (by rw [parL_len]; omega) w hw.pre) fun _ _=>?_
  rw [parL_succ]
  simp only [List.cons_append,List.nil_append]
  repeat (first|refine g_then ?_|refine g_nil ?_|refine g_region ?_|refine g_opS rfl ?_|refine g_inBlock ?_|refine g_add rfl (by omega) (by omega) ?_)
  exact g_next (r + 1) (by omega) (by omega) (by repeat (first|exact trivial|refine ⟨rfl,?_⟩)) (.refl _)
 have hrP : r = P:=by have:=of_decide_eq_false h1; omega
 subst r
 repeat (first|refine g_op rfl ?_|refine g_then ?_|refine g_nil ?_|refine g_region ?_|refine g_seq ?_|refine g_block ?_|refine g_exit ?_|refine g_thenExit ?_|refine g_exitHere ?_)
 refine g_eqH (H1:=[nmB q ta R (parL P),nmV ta R (parL P),Ent.box p1 [.string xn,.int .i64 (P : Int),.int .i64 (R : Int),.slice na n nc] 33,Ent.box p2 [.string ByteArray.empty,.int .i64 0,.int .i64 0,.slice none 0 0] 33]++fnE na nc ks) rfl ?_
 refine g_holdK fun w1 hw1=>?_
 have hks : SlAt (killW (fps [nmB q ta R (parL P),nmV ta R (parL P),Ent.box p1 [.string xn,.int .i64 (P : Int),.int .i64 (R : Int),.slice na n nc] 33,Ent.box p2 [.string ByteArray.empty,.int .i64 0,.int .i64 0,.slice none 0 0] 33]) w1) (.slice na n nc) 6 kl BlockV:=by
  have:=Wd.blocks (H:=[]) (ba:=na) (bc:=nc) (bs:=ks) (by rw [List.append_nil]; exact hw1.besides) (by omega) hkd
  rw [hkb,← hnD,← hklD] at this
  exact this
 have back : ∀ {E : List Ent} {w : World},Wd (fps [nmB q ta R (parL P),nmV ta R (parL P),Ent.box p1 [.string xn,.int .i64 (P : Int),.int .i64 (R : Int),.slice na n nc] 33,Ent.box p2 [.string ByteArray.empty,.int .i64 0,.int .i64 0,.slice none 0 0] 33]) (killW (fps [nmB q ta R (parL P),nmV ta R (parL P),Ent.box p1 [.string xn,.int .i64 (P : Int),.int .i64 (R : Int),.slice na n nc] 33,Ent.box p2 [.string ByteArray.empty,.int .i64 0,.int .i64 0,.slice none 0 0] 33]) w1) E w→Wd SS wb (E++fnE na nc ks) w:=fun hw=>hw1.comp hw.unkill
 have hold : ∀ {b o : Nat} {v : Value} {l : List Value},CellsAt (killW (fps [nmB q ta R (parL P),nmV ta R (parL P),Ent.box p1 [.string xn,.int .i64 (P : Int),.int .i64 (R : Int),.slice na n nc] 33,Ent.box p2 [.string ByteArray.empty,.int .i64 0,.int .i64 0,.slice none 0 0] 33]) w1) b o (v::l)→OldIs (fps [nmB q ta R (parL P),nmV ta R (parL P),Ent.box p1 [.string xn,.int .i64 (P : Int),.int .i64 (R : Int),.slice na n nc] 33,Ent.box p2 [.string ByteArray.empty,.int .i64 0,.int .i64 0,.slice none 0 0] 33]) b:=fun hc=>killOldIs hc (by simp)
 generalize killW (fps [nmB q ta R (parL P),nmV ta R (parL P),Ent.box p1 [.string xn,.int .i64 (P : Int),.int .i64 (R : Int),.slice na n nc] 33,Ent.box p2 [.string ByteArray.empty,.int .i64 0,.int .i64 0,.slice none 0 0] 33]) w1 = wk at *
 generalize fps [nmB q ta R (parL P),nmV ta R (parL P),Ent.box p1 [.string xn,.int .i64 (P : Int),.int .i64 (R : Int),.slice na n nc] 33,Ent.box p2 [.string ByteArray.empty,.int .i64 0,.int .i64 0,.slice none 0 0] 33] = S2 at *
 refine g_loop (fun (x : Nat × List Int)=>x.1 ≤ n∧x.2 = meets (parL P) ((kl.take x.1).flatMap seqB)) (fun x=>[(45,.int .i64 x.1),(43,.slice na n nc),(44,.int .i64 n),(3,.pointer (some ⟨q,0,none⟩)),(1,.pointer (some ⟨p1,0,none⟩)),(2,.pointer (some ⟨p2,0,none⟩))]) (fun x=>[nmB q ta R x.2,nmV ta R x.2,Ent.box p1 [.string xn,.int .i64 (P : Int),.int .i64 (R : Int),.slice na n nc] 33,Ent.box p2 [.string ByteArray.empty,.int .i64 0,.int .i64 0,.slice none 0 0] 33]) (fun x=>n - x.1) (0,parL P) ⟨Nat.zero_le _,by simp [meets_nil]⟩ (g_done (by repeat (first|exact trivial|refine ⟨rfl,?_⟩)) (.refl _)) fun x ⟨hi,hl⟩=>?_
 obtain ⟨i,l⟩:=x
 simp only at hi hl ⊢
 have hbs : ∀ B ∈ kl,∀ r,r ∈ seqB B ∨ r ∈ seqP B→0 ≤ r∧r < R:=fun B hB r hr=>seq_bound hkf hB hr
 have hlok : LOk R l:=by
  rw [hl]
  refine (LOk.par (by omega)).meets fun r hr=>?_
  obtain ⟨B,hB,hr⟩:=List.mem_flatMap.1 hr
  exact hbs B (List.mem_of_mem_take hB) r (.inl hr)
 repeat (first|refine g_op rfl ?_|refine g_then ?_|refine g_nil ?_|refine g_region ?_|refine g_seq ?_)
 refine g_cond (fun h2=>?_) (fun h2=>?_)
 ·have hil : i < n:=by simpa using h2
  obtain ⟨B,hB⟩ : ∃ B,kl[i]? = some B:=⟨_,List.getElem?_eq_getElem (by omega)⟩
  have hBm:=List.mem_of_getElem? hB
  have hbok:=hkf.block i B hB
  obtain ⟨b1,o1,had1,hold1,hel1⟩:=slKnown hks hold (fun _ _ h=>by obtain ⟨_,_,_,e,_⟩:=h; exact ⟨_,_,e⟩) (ne_of_get hB)
  obtain ⟨_,hci1,pv,lv,tv,rfl,_,_,hph,hli,ht⟩:=hel1 i B hB
  have hlii : LtIs i n:=⟨hil⟩
  obtain ⟨pa,pn,pc,_,_,rfl,hpn,hpnc,hpnb,_⟩:=id hph
  obtain ⟨xa,xm,xc,_,_,rfl,hxn,hxnc,hxnb,_⟩:=id hli
  obtain ⟨tva,tvn,tvc,_,_,rfl,_⟩:=id ht
  repeat (first|refine g_op rfl ?_|refine g_then ?_|refine g_nil ?_|refine g_region ?_|refine g_seq ?_|refine g_alloc rfl fun _ _=>?_|refine g_storeAgg ?_|refine g_block ?_|refine g_skip ?_)
  rename_i p6 _
  refine g_permH (H1:=[nmB q ta R l,nmV ta R l,Ent.box p6 [.slice pa pn pc,.slice xa xm xc,.int .i64 B.kind,.bool B.on.reg,.int .i64 B.on.n,.slice tva tvn tvc] 43,Ent.box p1 [.string xn,.int .i64 (P : Int),.int .i64 (R : Int),.slice na n nc] 33,Ent.box p2 [.string ByteArray.empty,.int .i64 0,.int .i64 0,.slice none 0 0] 33]) (List.perm_iff_count.2 fun e=>by simp only [List.count_append,List.count_cons,List.count_nil]; omega) ?_
  have hsB : ∀ r ∈ seqB B,0 ≤ r∧r < R:=fun r hr=>hbs B hBm r (.inl hr)
  refine g_loop (fun (x : Nat × List Int)=>x.1 ≤ pn∧x.2 = meets l ((B.phis.take x.1).map (·.dst))) (fun x=>[(52,.int .i64 x.1),(50,.slice pa pn pc),(51,.int .i64 pn),(6,.pointer (some ⟨p6,0,none⟩)),(45,.int .i64 i),(43,.slice na n nc),(44,.int .i64 n),(3,.pointer (some ⟨q,0,none⟩)),(1,.pointer (some ⟨p1,0,none⟩)),(2,.pointer (some ⟨p2,0,none⟩))]) (fun x=>[nmB q ta R x.2,nmV ta R x.2,Ent.box p6 [.slice pa pn pc,.slice xa xm xc,.int .i64 B.kind,.bool B.on.reg,.int .i64 B.on.n,.slice tva tvn tvc] 43,Ent.box p1 [.string xn,.int .i64 (P : Int),.int .i64 (R : Int),.slice na n nc] 33,Ent.box p2 [.string ByteArray.empty,.int .i64 0,.int .i64 0,.slice none 0 0] 33]) (fun x=>pn - x.1) (0,l) ⟨Nat.zero_le _,rfl⟩ (g_done (by repeat (first|exact trivial|refine ⟨rfl,?_⟩)) (.refl _)) fun x ⟨hj,hm⟩=>?_
  obtain ⟨j,m⟩:=x
  simp only at hj hm ⊢
  have hmok : LOk R m:=by
   rw [hm]
   refine hlok.meets fun r hr=>hsB r ?_
   obtain ⟨p,hp,rfl⟩:=List.mem_map.1 hr
   exact List.mem_append_left _ (List.mem_map.2 ⟨p,List.mem_of_mem_take hp,rfl⟩)
  repeat (first|refine g_op rfl ?_|refine g_then ?_|refine g_nil ?_|refine g_region ?_|refine g_seq ?_)
  refine g_cond (fun h3=>?_) (fun h3=>?_)
  ·have hjl : j < pn:=by simpa using h3
   obtain ⟨ph,hphj⟩ : ∃ ph,B.phis[j]? = some ph:=⟨_,List.getElem?_eq_getElem (by omega)⟩
   have hd:=hsB ph.dst (List.mem_append_left _ (List.mem_map.2 ⟨ph,List.mem_of_getElem? hphj,rfl⟩))
   obtain ⟨r,hr⟩ : ∃ r : Nat,ph.dst = r:=⟨ph.dst.toNat,by omega⟩
   obtain ⟨b2,o2,had2,hold2,hel2⟩:=slKnown hph hold (fun _ _ h=>by obtain ⟨_,e,_⟩:=h; exact ⟨_,_,e⟩) (ne_of_get hphj)
   obtain ⟨_,hci2,sv,rfl,_,hsv⟩:=hel2 j ph hphj
   obtain ⟨sva,svn,svc,_,_,rfl,_⟩:=id hsv
   have hlij : LtIs j pn:=⟨hjl⟩
   repeat (first|refine g_op rfl ?_|refine g_then ?_|refine g_nil ?_|refine g_region ?_|refine g_seq ?_|refine g_alloc rfl fun _ _=>?_|refine g_storeAgg ?_|refine g_block ?_|refine g_skip ?_)
   rename_i p8 _
   rw [hr]
   refine g_permH (H1:=[nmB q ta R m,nmV ta R m]++[Ent.box p8 [.int .i64 (r : Int),.slice sva svn svc] 62,Ent.box p6 [.slice pa pn pc,.slice xa xm xc,.int .i64 B.kind,.bool B.on.reg,.int .i64 B.on.n,.slice tva tvn tvc] 43,Ent.box p1 [.string xn,.int .i64 (P : Int),.int .i64 (R : Int),.slice na n nc] 33,Ent.box p2 [.string ByteArray.empty,.int .i64 0,.int .i64 0,.slice none 0 0] 33]) (List.perm_iff_count.2 fun e=>by simp only [List.count_append,List.count_cons,List.count_nil]; omega) ?_
   refine g_callS (val:=fun _ : Unit=>.int .i64 (plc (meet m r) r)) (E:=fun _=>[nmB q ta R (meet m r),nmV ta R (meet m r)]) (φ:=fun _=>True) rfl (fun w hw=>nmName_c q ta R r m (by omega) (by have:=hmok.len; omega) w hw.pre) fun _ _=>?_
   simp only [List.cons_append,List.nil_append]
   repeat (first|refine g_then ?_|refine g_nil ?_|refine g_region ?_|refine g_opS rfl ?_|refine g_inBlock ?_|refine g_add rfl (by omega) (by omega) ?_)
   exact g_next (j + 1,meet m r) ⟨by omega,by rw [List.take_add_one,hphj,List.map_append,meets_app,← hm,← hr]; rfl⟩ (by simp only; omega) (by repeat (first|exact trivial|refine ⟨rfl,?_⟩)) (.cons_cons _ (.cons_cons _ (.cons _ (.refl _))))
  obtain rfl : pn = j:=by have:=of_decide_eq_false h3; omega
  rw [hpn,List.take_length] at hm
  repeat (first|refine g_op rfl ?_|refine g_then ?_|refine g_nil ?_|refine g_region ?_|refine g_seq ?_|refine g_block ?_|refine g_exit ?_|refine g_thenExit ?_|refine g_exitHere ?_)
  refine g_loop (fun (x : Nat × List Int)=>x.1 ≤ xm∧x.2 = meets m ((B.list.take x.1).flatMap seqI)) (fun x=>[(64,.int .i64 x.1),(62,.slice xa xm xc),(63,.int .i64 xm),(6,.pointer (some ⟨p6,0,none⟩)),(45,.int .i64 i),(43,.slice na n nc),(44,.int .i64 n),(3,.pointer (some ⟨q,0,none⟩)),(1,.pointer (some ⟨p1,0,none⟩)),(2,.pointer (some ⟨p2,0,none⟩))]) (fun x=>[nmB q ta R x.2,nmV ta R x.2,Ent.box p6 [.slice pa pn pc,.slice xa xm xc,.int .i64 B.kind,.bool B.on.reg,.int .i64 B.on.n,.slice tva tvn tvc] 43,Ent.box p1 [.string xn,.int .i64 (P : Int),.int .i64 (R : Int),.slice na n nc] 33,Ent.box p2 [.string ByteArray.empty,.int .i64 0,.int .i64 0,.slice none 0 0] 33]) (fun x=>xm - x.1) (0,m) ⟨Nat.zero_le _,rfl⟩ (g_done (by repeat (first|exact trivial|refine ⟨rfl,?_⟩)) (.refl _)) fun x ⟨hk1,hm2⟩=>?_
  obtain ⟨k,m2⟩:=x
  simp only at hk1 hm2 ⊢
  have hsI : ∀ x ∈ B.list,∀ r ∈ seqI x,0 ≤ r∧r < R:=fun x hx r hr=>hsB r (List.mem_append_right _ (List.mem_append_left _ (List.mem_flatMap.2 ⟨x,hx,hr⟩)))
  have hmok2 : LOk R m2:=by
   rw [hm2]
   refine hmok.meets fun r hr=>?_
   obtain ⟨x,hx,hr⟩:=List.mem_flatMap.1 hr
   exact hsI x (List.mem_of_mem_take hx) r hr
  repeat (first|refine g_op rfl ?_|refine g_then ?_|refine g_nil ?_|refine g_region ?_|refine g_seq ?_)
  refine g_cond (fun h4=>?_) (fun h4=>?_)
  ·have hkl : k < xm:=by simpa using h4
   obtain ⟨x,hx⟩ : ∃ x,B.list[k]? = some x:=⟨_,List.getElem?_eq_getElem (by omega)⟩
   have hxm:=List.mem_of_getElem? hx
   have hio:=hbok.list x hxm
   obtain ⟨fs,hfs⟩:=hkuse B hBm x hxm
   have hsx:=hsI x hxm
   have hsq:=seqI_eq hfs hio
   rw [hsq] at hsx
   have hnext : meets m ((B.list.take (k + 1)).flatMap seqI) = meets m2 (seqI x):=by rw [List.take_add_one,hx,List.flatMap_append,meets_app,← hm2]; simp
   rw [hsq] at hnext
   obtain ⟨b2,o2,had2,hold2,hel2⟩:=slKnown hli hold (fun _ _ h=>by obtain ⟨_,e,_⟩:=h; exact ⟨_,_,e⟩) (ne_of_get hx)
   obtain ⟨_,hci2,av,rfl,_,_,_,_,_,hav⟩:=hel2 k x hx
   obtain ⟨ava,avn,avc,_,_,rfl,havn,_,havb,_⟩:=id hav
   have hlik : LtIs k xm:=⟨hkl⟩
   repeat (first|refine g_op rfl ?_|refine g_then ?_|refine g_nil ?_|refine g_region ?_|refine g_seq ?_|refine g_alloc rfl fun _ _=>?_|refine g_storeAgg ?_|refine g_block ?_|refine g_skip ?_)
   rename_i p10 _
   refine g_permH (H1:=[nmB q ta R m2,nmV ta R m2]++[Ent.box p10 [.int .i64 x.op,.int .i64 x.dst,.bool x.a.reg,.int .i64 x.a.n,.bool x.b.reg,.int .i64 x.b.n,.int .i64 x.fn,.slice ava avn avc] 66,Ent.box p6 [.slice pa pn pc,.slice xa xm xc,.int .i64 B.kind,.bool B.on.reg,.int .i64 B.on.n,.slice tva tvn tvc] 43,Ent.box p1 [.string xn,.int .i64 (P : Int),.int .i64 (R : Int),.slice na n nc] 33,Ent.box p2 [.string ByteArray.empty,.int .i64 0,.int .i64 0,.slice none 0 0] 33]) (List.perm_iff_count.2 fun e=>by simp only [List.count_append,List.count_cons,List.count_nil]; omega) ?_
   refine g_callS (val:=fun _ : Unit=>.agg #[.bool (renV (meets m2 (seqV x.a)) x.a).reg,.int .i64 (renV (meets m2 (seqV x.a)) x.a).n]) (E:=fun _=>[nmB q ta R (meets m2 (seqV x.a)),nmV ta R (meets m2 (seqV x.a))]) (φ:=fun _=>True) rfl (fun w hw=>nmVal_c q ta R x.a m2 (val_seq fun r hr=>hsx r (List.mem_append_left _ hr)) (by have:=hmok2.len; omega) w hw.pre) fun _ _=>?_
   simp only [List.cons_append,List.nil_append]
   obtain ⟨m3,hm3⟩ : ∃ m3,m3 = meets m2 (seqV x.a):=⟨_,rfl⟩
   rw [← hm3]
   have hmok3 : LOk R m3:=by rw [hm3]; exact hmok2.meets fun r hr=>hsx r (List.mem_append_left _ hr)
   rw [meets_app,← hm3] at hnext
   repeat (first|refine g_op rfl ?_|refine g_then ?_|refine g_nil ?_|refine g_region ?_|refine g_seq ?_)
   refine g_eqH (H1:=[nmB q ta R m3,nmV ta R m3]++[Ent.box p10 [.int .i64 x.op,.int .i64 x.dst,.bool x.a.reg,.int .i64 x.a.n,.bool x.b.reg,.int .i64 x.b.n,.int .i64 x.fn,.slice ava avn avc] 66,Ent.box p6 [.slice pa pn pc,.slice xa xm xc,.int .i64 B.kind,.bool B.on.reg,.int .i64 B.on.n,.slice tva tvn tvc] 43,Ent.box p1 [.string xn,.int .i64 (P : Int),.int .i64 (R : Int),.slice na n nc] 33,Ent.box p2 [.string ByteArray.empty,.int .i64 0,.int .i64 0,.slice none 0 0] 33]) rfl ?_
   refine g_callS (val:=fun _ : Unit=>.agg #[.bool (renV (meets m3 (seqV x.b)) x.b).reg,.int .i64 (renV (meets m3 (seqV x.b)) x.b).n]) (E:=fun _=>[nmB q ta R (meets m3 (seqV x.b)),nmV ta R (meets m3 (seqV x.b))]) (φ:=fun _=>True) rfl (fun w hw=>nmVal_c q ta R x.b m3 (val_seq fun r hr=>hsx r (List.mem_append_right _ (List.mem_append_left _ hr))) (by have:=hmok3.len; omega) w hw.pre) fun _ _=>?_
   simp only [List.cons_append,List.nil_append]
   obtain ⟨m4,hm4⟩ : ∃ m4,m4 = meets m3 (seqV x.b):=⟨_,rfl⟩
   rw [← hm4]
   have hmok4 : LOk R m4:=by rw [hm4]; exact hmok3.meets fun r hr=>hsx r (List.mem_append_right _ (List.mem_append_left _ hr))
   rw [meets_app,← hm4,meets_app] at hnext
   repeat (first|refine g_op rfl ?_|refine g_then ?_|refine g_nil ?_|refine g_region ?_|refine g_seq ?_|refine g_block ?_)
   refine g_loop (fun (y : Nat × List Int)=>y.1 ≤ avn∧y.2 = meets m4 ((x.args.take y.1).flatMap seqV)) (fun y=>[(79,.int .i64 y.1),(77,.slice ava avn avc),(78,.int .i64 avn),(10,.pointer (some ⟨p10,0,none⟩)),(64,.int .i64 k),(62,.slice xa xm xc),(63,.int .i64 xm),(6,.pointer (some ⟨p6,0,none⟩)),(45,.int .i64 i),(43,.slice na n nc),(44,.int .i64 n),(3,.pointer (some ⟨q,0,none⟩)),(1,.pointer (some ⟨p1,0,none⟩)),(2,.pointer (some ⟨p2,0,none⟩))]) (fun y=>[nmB q ta R y.2,nmV ta R y.2,Ent.box p10 [.int .i64 x.op,.int .i64 x.dst,.bool x.a.reg,.int .i64 x.a.n,.bool x.b.reg,.int .i64 x.b.n,.int .i64 x.fn,.slice ava avn avc] 66,Ent.box p6 [.slice pa pn pc,.slice xa xm xc,.int .i64 B.kind,.bool B.on.reg,.int .i64 B.on.n,.slice tva tvn tvc] 43,Ent.box p1 [.string xn,.int .i64 (P : Int),.int .i64 (R : Int),.slice na n nc] 33,Ent.box p2 [.string ByteArray.empty,.int .i64 0,.int .i64 0,.slice none 0 0] 33]) (fun y=>avn - y.1) (0,m4) ⟨Nat.zero_le _,rfl⟩ (g_done (by repeat (first|exact trivial|refine ⟨rfl,?_⟩)) (.refl _)) fun y ⟨he1,hm5⟩=>?_
   obtain ⟨e,m5⟩:=y
   simp only at he1 hm5 ⊢
   have hmok5 : LOk R m5:=by
    rw [hm5]
    refine hmok4.meets fun r hr=>hsx r ?_
    obtain ⟨v,hv,hr⟩:=List.mem_flatMap.1 hr
    exact List.mem_append_right _ (List.mem_append_right _ (List.mem_append_left _ (List.mem_flatMap.2 ⟨v,List.mem_of_mem_take hv,hr⟩)))
   repeat (first|refine g_op rfl ?_|refine g_then ?_|refine g_nil ?_|refine g_region ?_|refine g_seq ?_)
   refine g_cond (fun h5=>?_) (fun h5=>?_)
   ·have hel : e < avn:=by simpa using h5
    obtain ⟨v,hv⟩ : ∃ v,x.args[e]? = some v:=⟨_,List.getElem?_eq_getElem (by omega)⟩
    obtain ⟨b3,o3,had3,hold3,hel3⟩:=slKnown hav hold (fun _ _ h=>⟨_,_,h.1⟩) (ne_of_get hv)
    obtain ⟨_,hci3,rfl,_⟩:=hel3 e v hv
    have hlie : LtIs e avn:=⟨hel⟩
    repeat (first|refine g_op rfl ?_|refine g_then ?_|refine g_nil ?_|refine g_region ?_|refine g_seq ?_|refine g_alloc rfl fun _ _=>?_|refine g_storeAgg ?_|refine g_block ?_|refine g_skip ?_)
    rename_i p12 _
    refine g_permH (H1:=[nmB q ta R m5,nmV ta R m5]++[Ent.box p12 [.bool v.reg,.int .i64 v.n] 39,Ent.box p10 [.int .i64 x.op,.int .i64 x.dst,.bool x.a.reg,.int .i64 x.a.n,.bool x.b.reg,.int .i64 x.b.n,.int .i64 x.fn,.slice ava avn avc] 66,Ent.box p6 [.slice pa pn pc,.slice xa xm xc,.int .i64 B.kind,.bool B.on.reg,.int .i64 B.on.n,.slice tva tvn tvc] 43,Ent.box p1 [.string xn,.int .i64 (P : Int),.int .i64 (R : Int),.slice na n nc] 33,Ent.box p2 [.string ByteArray.empty,.int .i64 0,.int .i64 0,.slice none 0 0] 33]) (List.perm_iff_count.2 fun e=>by simp only [List.count_append,List.count_cons,List.count_nil]; omega) ?_
    refine g_callS (val:=fun _ : Unit=>.agg #[.bool (renV (meets m5 (seqV v)) v).reg,.int .i64 (renV (meets m5 (seqV v)) v).n]) (E:=fun _=>[nmB q ta R (meets m5 (seqV v)),nmV ta R (meets m5 (seqV v))]) (φ:=fun _=>True) rfl (fun w hw=>nmVal_c q ta R v m5 (val_seq fun r hr=>hsx r (List.mem_append_right _ (List.mem_append_right _ (List.mem_append_left _ (List.mem_flatMap.2 ⟨v,List.mem_of_getElem? hv,hr⟩))))) (by have:=hmok5.len; omega) w hw.pre) fun _ _=>?_
    simp only [List.cons_append,List.nil_append]
    repeat (first|refine g_then ?_|refine g_nil ?_|refine g_region ?_|refine g_opS rfl ?_|refine g_inBlock ?_|refine g_add rfl (by omega) (by omega) ?_)
    exact g_next (e + 1,meets m5 (seqV v)) ⟨by omega,by rw [List.take_add_one,hv,List.flatMap_append,meets_app,← hm5]; simp⟩ (by simp only; omega) (by repeat (first|exact trivial|refine ⟨rfl,?_⟩)) (.cons_cons _ (.cons_cons _ (.cons _ (.refl _))))
   obtain rfl : avn = e:=by have:=of_decide_eq_false h5; omega
   rw [havn,List.take_length] at hm5
   rw [← hm5] at hnext
   repeat (first|refine g_op rfl ?_|refine g_then ?_|refine g_nil ?_|refine g_region ?_|refine g_seq ?_|refine g_exit ?_|refine g_thenExit ?_|refine g_exitHere ?_)
   refine g_cond (fun h6=>?_) (fun h6=>?_)
   ·have hge : 0 ≤ x.dst:=by simpa using h6
    rw [if_pos hge,meets_one] at hnext
    have hd:=hsx x.dst (by rw [if_pos hge]; simp)
    obtain ⟨r,hr⟩ : ∃ r : Nat,x.dst = r:=⟨x.dst.toNat,by omega⟩
    repeat (first|refine g_op rfl ?_|refine g_region ?_)
    rw [hr] at hnext ⊢
    refine g_eqH (H1:=[nmB q ta R m5,nmV ta R m5]++[Ent.box p10 [.int .i64 x.op,.int .i64 (r : Int),.bool x.a.reg,.int .i64 x.a.n,.bool x.b.reg,.int .i64 x.b.n,.int .i64 x.fn,.slice ava avn avc] 66,Ent.box p6 [.slice pa pn pc,.slice xa xm xc,.int .i64 B.kind,.bool B.on.reg,.int .i64 B.on.n,.slice tva tvn tvc] 43,Ent.box p1 [.string xn,.int .i64 (P : Int),.int .i64 (R : Int),.slice na n nc] 33,Ent.box p2 [.string ByteArray.empty,.int .i64 0,.int .i64 0,.slice none 0 0] 33]) rfl ?_
    refine g_callS (val:=fun _ : Unit=>.int .i64 (plc (meet m5 r) r)) (E:=fun _=>[nmB q ta R (meet m5 r),nmV ta R (meet m5 r)]) (φ:=fun _=>True) rfl (fun w hw=>nmName_c q ta R r m5 (by omega) (by have:=hmok5.len; omega) w hw.pre) fun _ _=>?_
    simp only [List.cons_append,List.nil_append]
    repeat (first|refine g_then ?_|refine g_nil ?_|refine g_region ?_|refine g_opS rfl ?_|refine g_inBlock ?_|refine g_add rfl (by omega) (by omega) ?_)
    exact g_next (k + 1,meet m5 r) ⟨by omega,hnext.symm⟩ (by simp only; omega) (by repeat (first|exact trivial|refine ⟨rfl,?_⟩)) (.cons_cons _ (.cons_cons _ (.cons _ (.refl _))))
   ·have hlt : ¬ 0 ≤ x.dst:=by simpa using h6
    rw [if_neg hlt,meets_nil] at hnext
    repeat (first|refine g_then ?_|refine g_nil ?_|refine g_region ?_|refine g_opS rfl ?_|refine g_inBlock ?_|refine g_skip ?_|refine g_add rfl (by omega) (by omega) ?_)
    exact g_next (k + 1,m5) ⟨by omega,hnext.symm⟩ (by simp only; omega) (by repeat (first|exact trivial|refine ⟨rfl,?_⟩)) (.cons_cons _ (.cons_cons _ (.cons _ (.refl _))))
  obtain rfl : xm = k:=by have:=of_decide_eq_false h4; omega
  rw [hxn,List.take_length] at hm2
  repeat (first|refine g_op rfl ?_|refine g_then ?_|refine g_region ?_|refine g_exit ?_|refine g_thenExit ?_|refine g_exitHere ?_)
  refine g_eqH (H1:=[nmB q ta R m2,nmV ta R m2]++[Ent.box p6 [.slice pa pn pc,.slice xa xm xc,.int .i64 B.kind,.bool B.on.reg,.int .i64 B.on.n,.slice tva tvn tvc] 43,Ent.box p1 [.string xn,.int .i64 (P : Int),.int .i64 (R : Int),.slice na n nc] 33,Ent.box p2 [.string ByteArray.empty,.int .i64 0,.int .i64 0,.slice none 0 0] 33]) rfl ?_
  refine g_callS (val:=fun _ : Unit=>.agg #[.bool (renV (meets m2 (seqV B.on)) B.on).reg,.int .i64 (renV (meets m2 (seqV B.on)) B.on).n]) (E:=fun _=>[nmB q ta R (meets m2 (seqV B.on)),nmV ta R (meets m2 (seqV B.on))]) (φ:=fun _=>True) rfl (fun w hw=>nmVal_c q ta R B.on m2 hbok.on (by have:=hmok2.len; omega) w hw.pre) fun _ _=>?_
  simp only [List.cons_append,List.nil_append]
  repeat (first|refine g_then ?_|refine g_nil ?_|refine g_region ?_|refine g_opS rfl ?_|refine g_inBlock ?_|refine g_add rfl (by omega) (by omega) ?_)
  exact g_next (i + 1,meets m2 (seqV B.on)) ⟨by omega,by rw [List.take_add_one,hB,List.flatMap_append,meets_app,← hl,hm2,hm,← meets_app,← meets_app]; simp [seqB]⟩ (by simp only; omega) (by repeat (first|exact trivial|refine ⟨rfl,?_⟩)) (.cons_cons _ (.cons_cons _ (.cons _ (.refl _))))
 obtain rfl : n = i:=by have:=of_decide_eq_false h2; omega
 rw [← hkn,List.take_length] at hl
 repeat (first|refine g_op rfl ?_|refine g_then ?_|refine g_nil ?_|refine g_region ?_|refine g_seq ?_|refine g_block ?_|refine g_exit ?_|refine g_thenExit ?_|refine g_exitHere ?_)
 refine g_unhold back ?_
 clear hold hks
 obtain ⟨Lf,hLfD⟩ : ∃ Lf,Lf = metL P kl:=⟨_,rfl⟩
 obtain ⟨L1,hL1D⟩ : ∃ L1,L1 = l:=⟨_,rfl⟩
 have hLf : Lf = meets L1 (kl.flatMap seqP):=by
  rw [hL1D,hl,hLfD,← meets_app]
  unfold metL seqL once
  rw [meets_app]
  congr 1
  exact once_self (parL_nodup P)
 have hL1ok : LOk R L1:=by rw [hL1D]; exact hlok
 have hLfok : LOk R Lf:=by
  rw [hLf]
  refine hL1ok.meets fun r hr=>?_
  obtain ⟨B,hB,hr⟩:=List.mem_flatMap.1 hr
  exact hbs B hB r (.inr hr)
 have hL1in : ∀ B ∈ kl,∀ r ∈ seqB B,r ∈ L1:=fun B hB r hr=>by
  rw [hL1D,hl]
  exact mem_meets.2 (.inr (List.mem_flatMap.2 ⟨B,hB,hr⟩))
 have hLfl : Lf.length ≤ 1000:=by have:=hLfok.len; omega
 rw [← hL1D]
 clear hl hlok
 refine g_wd (H':=nmB q ta R L1::nmV ta R L1::Ent.box p1 [.string xn,.int .i64 (P : Int),.int .i64 (R : Int),.slice na n nc] 33::Ent.box p2 [.string ByteArray.empty,.int .i64 0,.int .i64 0,.slice none 0 0] 33::Ent.vec na n nc 43 6 (ks.flatMap blkC)::ks.map blkE) (fun w hw=>by have h9:=hw; unfold fnE at h9; rw [← hnD] at h9; exact h9) ?_
 skip
 refine g_loop (fun (x : Nat × List BRow × List Int)=>x.1 ≤ n∧x.2.1.length = n∧x.2.1.map BRow.blk = (kl.take x.1).map (renB Lf)++kl.drop x.1∧(∀ b ∈ x.2.1,b.Bd)∧Lf = meets x.2.2 ((kl.drop x.1).flatMap seqP)∧∀ r ∈ L1,r ∈ x.2.2) (fun x=>[(104,.int .i64 x.1),(103,.int .i64 n),(102,.slice na n nc),(3,.pointer (some ⟨q,0,none⟩)),(1,.pointer (some ⟨p1,0,none⟩)),(2,.pointer (some ⟨p2,0,none⟩))])
  (fun x=>nmB q ta R x.2.2::nmV ta R x.2.2::Ent.box p1 [.string xn,.int .i64 (P : Int),.int .i64 (R : Int),.slice na n nc] 33::Ent.box p2 [.string ByteArray.empty,.int .i64 0,.int .i64 0,.slice none 0 0] 33::Ent.vec na n nc 43 6 (x.2.1.flatMap blkC)::x.2.1.map blkE) (fun x=>n - x.1) (0,ks,L1) ⟨Nat.zero_le _,hnD.symm,by rw [hkb,← hklD]; simp,hkd,by rw [hLf]; rfl,fun _ h=>h⟩ (g_done (by repeat (first|exact trivial|refine ⟨rfl,?_⟩)) (.refl _)) fun x ⟨hi,hrl,hrk,hrd,hrem,hsub⟩=>?_
 obtain ⟨i,rs,l⟩:=x
 simp only at hi hrl hrk hrd hrem hsub ⊢
 repeat (first|refine g_op rfl ?_|refine g_then ?_|refine g_nil ?_|refine g_region ?_|refine g_seq ?_)
 refine g_cond (fun h2=>?_) (fun h2=>?_)
 ·have hil : i < n:=by simpa using h2
  obtain ⟨BB,hBB⟩ : ∃ B,rs[i]? = some B:=⟨_,List.getElem?_eq_getElem (by omega)⟩
  have hB : kl[i]? = some BB.blk:=by
   have h3 : (rs.map BRow.blk)[i]? = some BB.blk:=by rw [List.getElem?_map,hBB]; rfl
   rw [hrk,List.getElem?_append_right (by simp; omega),List.length_map,List.length_take,Nat.min_eq_left (by omega),Nat.sub_self,List.getElem?_drop,Nat.add_zero] at h3
   exact h3
  have hdropB : kl.drop i = BB.blk::kl.drop (i + 1):=by rw [List.drop_eq_getElem_cons (by omega),(List.getElem?_eq_some_iff.1 hB).2]
  have hBm:=List.mem_of_getElem? hB
  have hbok:=hkf.block i _ hB
  have hBd:=hrd _ (List.mem_of_getElem? hBB)
  obtain ⟨qa,qc,ps,la,lc,xs,kd,on,xa,xc,to⟩:=BB
  have hsB : ∀ r ∈ seqB ((⟨qa,qc,ps,la,lc,xs,kd,on,xa,xc,to⟩ : BRow)).blk,r ∈ l∧0 ≤ r∧r < R:=fun r hr=>⟨hsub r (hL1in _ hBm r hr),hbs _ hBm r (.inl hr)⟩
  obtain ⟨srcL,hsrcL⟩ : ∃ f : List PRow→List Int,f = fun ps=>ps.flatMap fun q=>q.l.flatMap seqV:=⟨_,rfl⟩
  have hsPB : seqP ((⟨qa,qc,ps,la,lc,xs,kd,on,xa,xc,to⟩ : BRow)).blk = srcL ps:=by
   rw [hsrcL]
   unfold seqP BRow.blk
   simp only [List.flatMap_map]
   rfl
  obtain ⟨rest,hrest⟩ : ∃ rest,rest = (kl.drop (i + 1)).flatMap seqP:=⟨_,rfl⟩
  rw [hdropB,List.flatMap_cons,hsPB,← hrest] at hrem
  have hpsl : ps.length ≤ 1000:=hBd.phis
  have hxsl : xs.length ≤ 1000:=hBd.list
  refine g_vec 4 rfl (by omega) fun vb vo hva=>?_
  subst hva
  have hlii : LtIs i n:=⟨hil⟩
  have hob : OwnAgg (nmB q ta R l::nmV ta R l::Ent.box p1 [.string xn,.int .i64 (P : Int),.int .i64 (R : Int),.slice (some ⟨vb,vo,none⟩) n nc] 33::Ent.box p2 [.string ByteArray.empty,.int .i64 0,.int .i64 0,.slice none 0 0] 33::Ent.vec (some ⟨vb,vo,none⟩) n nc 43 6 (rs.flatMap blkC)::rs.map blkE) vb (vo + i * 6) _:=ownAgg (k:=4) rfl blkC_len hBB
  simp only [blkC] at hob
  repeat (first|refine g_op rfl ?_|refine g_then ?_|refine g_nil ?_|refine g_region ?_|refine g_seq ?_|refine g_alloc rfl fun _ _=>?_|refine g_storeAgg ?_|refine g_block ?_|refine g_skip ?_)
  rename_i p14 _
  have hpull:=map_pull blkE hBB
  refine g_permH (H1:=blkE (⟨qa,qc,ps,la,lc,xs,kd,on,xa,xc,to⟩ : BRow)::(Ent.box p14 [.slice qa ps.length qc,.slice la xs.length lc,.int .i64 kd,.bool on.reg,.int .i64 on.n,.slice xa to.length xc] 43::nmB q ta R l::nmV ta R l::Ent.box p1 [.string xn,.int .i64 (P : Int),.int .i64 (R : Int),.slice (some ⟨vb,vo,none⟩) n nc] 33::Ent.box p2 [.string ByteArray.empty,.int .i64 0,.int .i64 0,.slice none 0 0] 33::Ent.vec (some ⟨vb,vo,none⟩) n nc 43 6 (rs.flatMap blkC)::(rs.eraseIdx i).map blkE)) (List.perm_iff_count.2 fun e=>?_) ?_
  ·have:=List.perm_iff_count.1 hpull e
   simp only [List.count_cons] at this ⊢
   omega
  refine g_unjoin ?_
  refine g_permH (H1:=nmB q ta R l::nmV ta R l::Ent.vec qa ps.length qc 62 2 (ps.flatMap phiC)::Ent.box p14 [.slice qa ps.length qc,.slice la xs.length lc,.int .i64 kd,.bool on.reg,.int .i64 on.n,.slice xa to.length xc] 43::Ent.box p1 [.string xn,.int .i64 (P : Int),.int .i64 (R : Int),.slice (some ⟨vb,vo,none⟩) n nc] 33::Ent.box p2 [.string ByteArray.empty,.int .i64 0,.int .i64 0,.slice none 0 0] 33::Ent.vec (some ⟨vb,vo,none⟩) n nc 43 6 (rs.flatMap blkC)::(ps.map phE++(rpE (⟨qa,qc,ps,la,lc,xs,kd,on,xa,xc,to⟩ : BRow)++(rs.eraseIdx i).map blkE))) (List.perm_iff_count.2 fun e=>?_) ?_
  ·have:=List.perm_iff_count.1 (blkPs_ph (⟨qa,qc,ps,la,lc,xs,kd,on,xa,xc,to⟩ : BRow)) e
   unfold phV at this
   simp only [List.count_cons,List.count_append] at this ⊢
   omega
  refine g_loop (fun (x : List PRow × List Int)=>x.1.length ≤ ps.length∧x.1.map PRow.phi = (ps.take x.1.length).map (fun q=>renP Lf q.phi)∧(∀ q ∈ x.1,inI q.dst∧q.l.length ≤ 1000∧∀ v ∈ q.l,inI v.n)∧Lf = meets x.2 (srcL (ps.drop x.1.length)++rest)∧∀ r ∈ l,r ∈ x.2) (fun x=>[(112,.int .i64 x.1.length),(110,.slice qa ps.length qc),(111,.int .i64 ps.length),(14,.pointer (some ⟨p14,0,none⟩)),(13,.int .i64 i),(104,.int .i64 i),(103,.int .i64 n),(102,.slice (some ⟨vb,vo,none⟩) n nc),(3,.pointer (some ⟨q,0,none⟩)),(1,.pointer (some ⟨p1,0,none⟩)),(2,.pointer (some ⟨p2,0,none⟩))])
   (fun x=>nmB q ta R x.2::nmV ta R x.2::Ent.vec qa ps.length qc 62 2 ((x.1++ps.drop x.1.length).flatMap phiC)::Ent.box p14 [.slice qa ps.length qc,.slice la xs.length lc,.int .i64 kd,.bool on.reg,.int .i64 on.n,.slice xa to.length xc] 43::Ent.box p1 [.string xn,.int .i64 (P : Int),.int .i64 (R : Int),.slice (some ⟨vb,vo,none⟩) n nc] 33::Ent.box p2 [.string ByteArray.empty,.int .i64 0,.int .i64 0,.slice none 0 0] 33::Ent.vec (some ⟨vb,vo,none⟩) n nc 43 6 (rs.flatMap blkC)::((x.1++ps.drop x.1.length).map phE++(rpE (⟨qa,qc,ps,la,lc,xs,kd,on,xa,xc,to⟩ : BRow)++(rs.eraseIdx i).map blkE))) (fun x=>ps.length - x.1.length) ([],l) ⟨Nat.zero_le _,rfl,by simp,hrem,fun _ h=>h⟩ (g_done (by repeat (first|exact trivial|refine ⟨rfl,?_⟩)) (.refl _)) fun x ⟨hi2,hem,heb,hrem2,hsub2⟩=>?_
  obtain ⟨es,m⟩:=x
  simp only at hi2 hem heb hrem2 hsub2 ⊢
  have hmpre : m <+: Lf:=by rw [hrem2]; exact meets_pre _ _
  have hmlen:=(hLfok.pre hmpre).len
  repeat (first|refine g_op rfl ?_|refine g_then ?_|refine g_nil ?_|refine g_region ?_|refine g_seq ?_)
  refine g_cond (fun h3=>?_) (fun h3=>?_)
  ·have hlt : es.length < ps.length:=by simpa using h3
   generalize hiL : es.length = ei at *
   obtain ⟨u,hu⟩ : ∃ u,ps[ei]? = some u:=⟨_,List.getElem?_eq_getElem hlt⟩
   have hum:=List.mem_of_getElem? hu
   obtain ⟨hud,hub,huv⟩:=hBd.phi u hum
   obtain ⟨pd,pla,pk,pl⟩:=u
   simp only at hud hub huv
   obtain ⟨hpdl,hpd0,hpdR⟩:=hsB pd (List.mem_append_left _ (List.mem_map.2 ⟨⟨pd,pl⟩,List.mem_map.2 ⟨⟨pd,pla,pk,pl⟩,hum,rfl⟩,rfl⟩))
   have hpdm:=hsub2 pd hpdl
   obtain ⟨r,rfl⟩ : ∃ r : Nat,pd = r:=⟨pd.toNat,by omega⟩
   refine g_vec 2 rfl (by omega) fun zb zo hza=>?_
   subst hza
   have hlj : LtIs ei ps.length:=⟨hlt⟩
   have hget : (es++ps.drop ei)[ei]? = some (⟨r,pla,pk,pl⟩ : PRow):=by
    rw [List.getElem?_append_right (by omega),hiL,Nat.sub_self,List.getElem?_drop,Nat.add_zero]; exact hu
   have hdr : ps.drop ei = (⟨r,pla,pk,pl⟩ : PRow)::ps.drop (ei + 1):=by rw [List.drop_eq_getElem_cons hlt,(List.getElem?_eq_some_iff.1 hu).2]
   have hrem3 : Lf = meets m (pl.flatMap seqV++(srcL (ps.drop (ei + 1))++rest)):=by
    rw [← List.append_assoc]
    rw [hdr,show srcL ((⟨r,pla,pk,pl⟩ : PRow)::ps.drop (ei + 1)) = pl.flatMap seqV++srcL (ps.drop (ei + 1)) by rw [hsrcL]; rfl] at hrem2
    exact hrem2
   refine g_permH (H1:=nmB q ta R m::nmV ta R m::Ent.vec pla pl.length pk 39 2 (pl.flatMap vlC)::Ent.vec (some ⟨zb,zo,none⟩) ps.length qc 62 2 ((es++ps.drop ei).flatMap phiC)::Ent.box p14 [.slice (some ⟨zb,zo,none⟩) ps.length qc,.slice la xs.length lc,.int .i64 kd,.bool on.reg,.int .i64 on.n,.slice xa to.length xc] 43::Ent.box p1 [.string xn,.int .i64 (P : Int),.int .i64 (R : Int),.slice (some ⟨vb,vo,none⟩) n nc] 33::Ent.box p2 [.string ByteArray.empty,.int .i64 0,.int .i64 0,.slice none 0 0] 33::Ent.vec (some ⟨vb,vo,none⟩) n nc 43 6 (rs.flatMap blkC)::((es++ps.drop (ei + 1)).map phE++(rpE (⟨some ⟨zb,zo,none⟩,qc,ps,la,lc,xs,kd,on,xa,xc,to⟩ : BRow)++(rs.eraseIdx i).map blkE))) (List.perm_iff_count.2 fun e=>?_) ?_
   ·rw [hdr]
    have e2 : phE (⟨r,pla,pk,pl⟩ : PRow) = Ent.vec pla pl.length pk 39 2 (pl.flatMap vlC):=rfl
    simp only [List.map_append,List.map_cons,List.count_append,List.count_cons,e2]
    omega
   have hob2 : OwnAgg (nmB q ta R m::nmV ta R m::Ent.vec pla pl.length pk 39 2 (pl.flatMap vlC)::Ent.vec (some ⟨zb,zo,none⟩) ps.length qc 62 2 ((es++ps.drop ei).flatMap phiC)::Ent.box p14 [.slice (some ⟨zb,zo,none⟩) ps.length qc,.slice la xs.length lc,.int .i64 kd,.bool on.reg,.int .i64 on.n,.slice xa to.length xc] 43::Ent.box p1 [.string xn,.int .i64 (P : Int),.int .i64 (R : Int),.slice (some ⟨vb,vo,none⟩) n nc] 33::Ent.box p2 [.string ByteArray.empty,.int .i64 0,.int .i64 0,.slice none 0 0] 33::Ent.vec (some ⟨vb,vo,none⟩) n nc 43 6 (rs.flatMap blkC)::((es++ps.drop (ei + 1)).map phE++(rpE (⟨some ⟨zb,zo,none⟩,qc,ps,la,lc,xs,kd,on,xa,xc,to⟩ : BRow)++(rs.eraseIdx i).map blkE))) zb (zo + ei * 2) _:=ownAgg (k:=3) rfl phiC_len hget
   simp only [phiC] at hob2
   repeat (first|refine g_op rfl ?_|refine g_then ?_|refine g_nil ?_|refine g_region ?_|refine g_seq ?_|refine g_alloc rfl fun _ _=>?_|refine g_storeAgg ?_|refine g_block ?_|refine g_skip ?_)
   rename_i p16 _
   refine g_permH (H1:=nmB q ta R m::nmV ta R m::Ent.vec pla pl.length pk 39 2 (pl.flatMap vlC)::Ent.box p16 [.int .i64 (r : Int),.slice pla pl.length pk] 62::Ent.vec (some ⟨zb,zo,none⟩) ps.length qc 62 2 ((es++ps.drop ei).flatMap phiC)::Ent.box p14 [.slice (some ⟨zb,zo,none⟩) ps.length qc,.slice la xs.length lc,.int .i64 kd,.bool on.reg,.int .i64 on.n,.slice xa to.length xc] 43::Ent.box p1 [.string xn,.int .i64 (P : Int),.int .i64 (R : Int),.slice (some ⟨vb,vo,none⟩) n nc] 33::Ent.box p2 [.string ByteArray.empty,.int .i64 0,.int .i64 0,.slice none 0 0] 33::Ent.vec (some ⟨vb,vo,none⟩) n nc 43 6 (rs.flatMap blkC)::((es++ps.drop (ei + 1)).map phE++(rpE (⟨some ⟨zb,zo,none⟩,qc,ps,la,lc,xs,kd,on,xa,xc,to⟩ : BRow)++(rs.eraseIdx i).map blkE))) (List.perm_iff_count.2 fun e=>by simp only [List.count_append,List.count_cons,List.count_nil]; omega) ?_
   have hxs0 : XSet ((es++ps.drop ei).flatMap phiC) (ei * 2 + 0) (.int .i64 (plc Lf r)) (((es++[(⟨plc Lf r,pla,pk,pl⟩ : PRow)])++ps.drop (ei + 1)).flatMap phiC):=⟨by
    rw [flat_set phiC_len hget (k:=0) (by omega) (y:=(⟨plc Lf r,pla,pk,pl⟩ : PRow)) rfl]
    congr 1
    exact set_mid hiL hlt,by rw [flat_len phiC_len,List.length_append,List.length_drop]; omega⟩
   have hot0 : OwnAt (nmB q ta R m::nmV ta R m::Ent.vec pla pl.length pk 39 2 (pl.flatMap vlC)::Ent.box p16 [.int .i64 (r : Int),.slice pla pl.length pk] 62::Ent.vec (some ⟨zb,zo,none⟩) ps.length qc 62 2 ((es++ps.drop ei).flatMap phiC)::Ent.box p14 [.slice (some ⟨zb,zo,none⟩) ps.length qc,.slice la xs.length lc,.int .i64 kd,.bool on.reg,.int .i64 on.n,.slice xa to.length xc] 43::Ent.box p1 [.string xn,.int .i64 (P : Int),.int .i64 (R : Int),.slice (some ⟨vb,vo,none⟩) n nc] 33::Ent.box p2 [.string ByteArray.empty,.int .i64 0,.int .i64 0,.slice none 0 0] 33::Ent.vec (some ⟨vb,vo,none⟩) n nc 43 6 (rs.flatMap blkC)::((es++ps.drop (ei + 1)).map phE++(rpE (⟨some ⟨zb,zo,none⟩,qc,ps,la,lc,xs,kd,on,xa,xc,to⟩ : BRow)++(rs.eraseIdx i).map blkE))) zb (zo + ei * 2) 4 zo (ei * 2 + 0) ps.length qc 62 2 ((es++ps.drop ei).flatMap phiC):=⟨rfl,by omega⟩
   have hnm : ∀ (S : Nat→Prop) (v w : World) (H2 : List Ent),Wd S v ([nmB q ta R m,nmV ta R m]++H2) w→Ret Tryd.prog 45 [.pointer (some ⟨q,0,none⟩),.int .i64 (r : Int)] w fun u w'=>∃ _x : Unit,u = .int .i64 (plc Lf r)∧Wd (fps [nmB q ta R m,nmV ta R m]) w [nmB q ta R m,nmV ta R m] w'∧True:=fun S v w H2 hw=>by
    have:=nmName_c q ta R r m (by omega) (by omega) w hw.pre
    rw [meet_in hpdm,← plc_pre hmpre hpdm] at this
    exact this
   refine g_drawX [Ent.box p16 [.int .i64 (r : Int),.slice pla pl.length pk] 62,Ent.box p14 [.slice (some ⟨zb,zo,none⟩) ps.length qc,.slice la xs.length lc,.int .i64 kd,.bool on.reg,.int .i64 on.n,.slice xa to.length xc] 43] (fun _ : Unit=>True) (fun _=>[(16,.pointer (some ⟨p16,0,none⟩)),(15,.int .i64 ei),(112,.int .i64 ei),(110,.slice (some ⟨zb,zo,none⟩) ps.length qc),(111,.int .i64 ps.length),(14,.pointer (some ⟨p14,0,none⟩)),(13,.int .i64 i),(104,.int .i64 i),(103,.int .i64 n),(102,.slice (some ⟨vb,vo,none⟩) n nc),(3,.pointer (some ⟨q,0,none⟩)),(1,.pointer (some ⟨p1,0,none⟩)),(2,.pointer (some ⟨p2,0,none⟩))]) (fun _=>nmB q ta R m::nmV ta R m::Ent.vec pla pl.length pk 39 2 (pl.flatMap vlC)::Ent.box p16 [.int .i64 (r : Int),.slice pla pl.length pk] 62::Ent.vec (some ⟨zb,zo,none⟩) ps.length qc 62 2 (((es++[(⟨plc Lf r,pla,pk,pl⟩ : PRow)])++ps.drop (ei + 1)).flatMap phiC)::Ent.box p14 [.slice (some ⟨zb,zo,none⟩) ps.length qc,.slice la xs.length lc,.int .i64 kd,.bool on.reg,.int .i64 on.n,.slice xa to.length xc] 43::Ent.box p1 [.string xn,.int .i64 (P : Int),.int .i64 (R : Int),.slice (some ⟨vb,vo,none⟩) n nc] 33::Ent.box p2 [.string ByteArray.empty,.int .i64 0,.int .i64 0,.slice none 0 0] 33::Ent.vec (some ⟨vb,vo,none⟩) n nc 43 6 (rs.flatMap blkC)::((es++ps.drop (ei + 1)).map phE++(rpE (⟨some ⟨zb,zo,none⟩,qc,ps,la,lc,xs,kd,on,xa,xc,to⟩ : BRow)++(rs.eraseIdx i).map blkE))) mixed (.cons _ (.cons _ (.cons _ (.cons_cons _ (.cons _ (.cons_cons _ (List.nil_sublist _))))))) ?_ fun _ _=>?_
   ·skip
    refine h_take 0 rfl (by decide +kernel) (.cons _ (.cons _ (.cons _ (.cons_cons _ (.cons _ (.cons_cons _ (List.nil_sublist _))))))) ?_
    refine h_take 1 rfl (by decide +kernel) (.cons _ (.cons _ (.cons _ (.cons_cons _ (.cons _ (.cons_cons _ (List.nil_sublist _))))))) ?_
    refine h_take 2 rfl (by decide +kernel) (.cons _ (.cons _ (.cons _ (.cons_cons _ (.cons _ (.cons_cons _ (List.nil_sublist _))))))) ?_
    refine h_take 3 rfl (by decide +kernel) (.cons _ (.cons _ (.cons _ (.cons_cons _ (.cons _ (.cons_cons _ (List.nil_sublist _))))))) ?_
    refine h_take 4 rfl (by decide +kernel) (.cons _ (.cons _ (.cons _ (.cons_cons _ (.cons _ (.cons_cons _ (List.nil_sublist _))))))) ?_
    refine h_take 5 rfl (by decide +kernel) (.cons _ (.cons _ (.cons _ (.cons_cons _ (.cons _ (.cons_cons _ (List.nil_sublist _))))))) ?_
    refine h_callS 6 (H1:=[nmB q ta R m,nmV ta R m]) (H2:=Ent.vec pla pl.length pk 39 2 (pl.flatMap vlC)::Ent.box p16 [.int .i64 (r : Int),.slice pla pl.length pk] 62::Ent.vec (some ⟨zb,zo,none⟩) ps.length qc 62 2 ((es++ps.drop ei).flatMap phiC)::Ent.box p14 [.slice (some ⟨zb,zo,none⟩) ps.length qc,.slice la xs.length lc,.int .i64 kd,.bool on.reg,.int .i64 on.n,.slice xa to.length xc] 43::Ent.box p1 [.string xn,.int .i64 (P : Int),.int .i64 (R : Int),.slice (some ⟨vb,vo,none⟩) n nc] 33::Ent.box p2 [.string ByteArray.empty,.int .i64 0,.int .i64 0,.slice none 0 0] 33::Ent.vec (some ⟨vb,vo,none⟩) n nc 43 6 (rs.flatMap blkC)::((es++ps.drop (ei + 1)).map phE++(rpE (⟨some ⟨zb,zo,none⟩,qc,ps,la,lc,xs,kd,on,xa,xc,to⟩ : BRow)++(rs.eraseIdx i).map blkE))) (val:=fun _ : Unit=>.int .i64 (plc Lf r)) (E:=fun _=>[nmB q ta R m,nmV ta R m]) (φ:=fun _=>True) rfl (by decide +kernel) (.cons _ (.cons_cons _ (.cons _ (.cons_cons _ (List.nil_sublist _))))) (fun w hw=>hnm _ _ w _ hw) fun _ _=>?_
    simp only [List.cons_append,List.nil_append]
    refine h_take 7 rfl (by decide +kernel) (.cons _ (.cons _ (.cons _ (.cons_cons _ (.cons _ (.cons_cons _ (List.nil_sublist _))))))) ?_
    refine h_take 8 rfl (by decide +kernel) (.cons _ (.cons _ (.cons _ (.cons_cons _ (.cons _ (.cons_cons _ (List.nil_sublist _))))))) ?_
    refine h_storeV 9 (by decide +kernel) (by decide +kernel) (.cons _ (.cons _ (.cons _ (.cons_cons _ (.cons _ (.cons_cons _ (List.nil_sublist _))))))) ?_
    exact g_mem () trivial (by repeat (first|exact trivial|refine ⟨rfl,?_⟩)) (.refl _)
   clear hot0 hxs0
   repeat (first|refine g_op rfl ?_|refine g_then ?_|refine g_nil ?_|refine g_region ?_|refine g_seq ?_|refine g_block ?_)
   obtain ⟨vsJ,hvsJ⟩ : ∃ f : Nat→List LVal,f = fun j=>(pl.take j).map (renV Lf)++pl.drop j:=⟨_,rfl⟩
   have hvsl : ∀ j,(vsJ j).length = pl.length:=fun j=>by rw [hvsJ]; simp; omega
   have hvs0 : vsJ 0 = pl:=by rw [hvsJ]; simp
   have hsrcR : ∀ v ∈ pl,∀ x ∈ seqV v,0 ≤ x∧x < R:=fun v hv x hx=>by
    refine hbs _ hBm x (.inr ?_)
    rw [hsPB,hsrcL]
    exact List.mem_flatMap.2 ⟨_,hum,List.mem_flatMap.2 ⟨v,hv,hx⟩⟩
   rw [show Ent.vec pla pl.length pk 39 2 (pl.flatMap vlC) = Ent.vec pla pl.length pk 39 2 ((vsJ 0).flatMap vlC) by rw [hvs0]]
   refine g_loop (fun (x : Nat × List Int)=>x.1 ≤ pl.length∧Lf = meets x.2 ((pl.drop x.1).flatMap seqV++(srcL (ps.drop (ei + 1))++rest))∧∀ r ∈ m,r ∈ x.2) (fun x=>[(129,.int .i64 x.1),(127,.slice pla pl.length pk),(128,.int .i64 pl.length),(16,.pointer (some ⟨p16,0,none⟩)),(15,.int .i64 ei),(112,.int .i64 ei),(110,.slice (some ⟨zb,zo,none⟩) ps.length qc),(111,.int .i64 ps.length),(14,.pointer (some ⟨p14,0,none⟩)),(13,.int .i64 i),(104,.int .i64 i),(103,.int .i64 n),(102,.slice (some ⟨vb,vo,none⟩) n nc),(3,.pointer (some ⟨q,0,none⟩)),(1,.pointer (some ⟨p1,0,none⟩)),(2,.pointer (some ⟨p2,0,none⟩))])
    (fun x=>nmB q ta R x.2::nmV ta R x.2::Ent.vec pla pl.length pk 39 2 ((vsJ x.1).flatMap vlC)::Ent.box p16 [.int .i64 (r : Int),.slice pla pl.length pk] 62::Ent.vec (some ⟨zb,zo,none⟩) ps.length qc 62 2 (((es++[(⟨plc Lf r,pla,pk,pl⟩ : PRow)])++ps.drop (ei + 1)).flatMap phiC)::Ent.box p14 [.slice (some ⟨zb,zo,none⟩) ps.length qc,.slice la xs.length lc,.int .i64 kd,.bool on.reg,.int .i64 on.n,.slice xa to.length xc] 43::Ent.box p1 [.string xn,.int .i64 (P : Int),.int .i64 (R : Int),.slice (some ⟨vb,vo,none⟩) n nc] 33::Ent.box p2 [.string ByteArray.empty,.int .i64 0,.int .i64 0,.slice none 0 0] 33::Ent.vec (some ⟨vb,vo,none⟩) n nc 43 6 (rs.flatMap blkC)::((es++ps.drop (ei + 1)).map phE++(rpE (⟨some ⟨zb,zo,none⟩,qc,ps,la,lc,xs,kd,on,xa,xc,to⟩ : BRow)++(rs.eraseIdx i).map blkE))) (fun x=>pl.length - x.1) (0,m) ⟨Nat.zero_le _,hrem3,fun _ h=>h⟩ (g_done (by repeat (first|exact trivial|refine ⟨rfl,?_⟩)) (.cons_cons _ (.cons_cons _ (by first|exact List.Sublist.refl _|exact .cons _ (.refl _))))) fun x ⟨hj,hrem4,hsub4⟩=>?_
   obtain ⟨j,m2⟩:=x
   simp only at hj hrem4 hsub4 ⊢
   have hm2pre : m2 <+: Lf:=by rw [hrem4]; exact meets_pre _ _
   have hm2len:=(hLfok.pre hm2pre).len
   repeat (first|refine g_op rfl ?_|refine g_then ?_|refine g_nil ?_|refine g_region ?_|refine g_seq ?_)
   refine g_cond (fun h4=>?_) (fun h4=>?_)
   ·have hjl : j < pl.length:=by simpa using h4
    obtain ⟨v,hv⟩ : ∃ v,pl[j]? = some v:=⟨_,List.getElem?_eq_getElem hjl⟩
    have hvm:=List.mem_of_getElem? hv
    have hdv : pl.drop j = v::pl.drop (j + 1):=by rw [List.drop_eq_getElem_cons hjl,(List.getElem?_eq_some_iff.1 hv).2]
    have hgetv : (vsJ j)[j]? = some v:=by
     rw [hvsJ]
     simp only
     rw [List.getElem?_append_right (by simp; omega),List.length_map,List.length_take,Nat.min_eq_left (by omega),Nat.sub_self,List.getElem?_drop,Nat.add_zero]; exact hv
    have hsetv : (vsJ j).set j (renV Lf v) = vsJ (j + 1):=by
     rw [hvsJ]
     simp only
     rw [List.set_append_right _ _ (by simp; omega),List.length_map,List.length_take,Nat.min_eq_left (by omega),Nat.sub_self,hdv,List.set_cons_zero,List.take_add_one,hv,List.map_append]
     simp
    have hrem5 : Lf = meets (meets m2 (seqV v)) ((pl.drop (j + 1)).flatMap seqV++(srcL (ps.drop (ei + 1))++rest)):=by
     rw [hdv,List.flatMap_cons,List.append_assoc,meets_app] at hrem4
     exact hrem4
    have hm3pre : meets m2 (seqV v) <+: Lf:=by
     conv=>rhs; rw [hrem5]
     exact meets_pre _ _
    have hren : renV (meets m2 (seqV v)) v = renV Lf v:=renV_pre hm3pre fun x hx=>mem_meets.2 (.inr hx)
    refine g_vec 2 rfl (by omega) fun yb yo hya=>?_
    subst hya
    have hlk : LtIs j pl.length:=⟨hjl⟩
    have hov : OwnAgg (nmB q ta R m2::nmV ta R m2::Ent.vec (some ⟨yb,yo,none⟩) pl.length pk 39 2 ((vsJ j).flatMap vlC)::Ent.box p16 [.int .i64 (r : Int),.slice (some ⟨yb,yo,none⟩) pl.length pk] 62::Ent.vec (some ⟨zb,zo,none⟩) ps.length qc 62 2 (((es++[(⟨plc Lf r,some ⟨yb,yo,none⟩,pk,pl⟩ : PRow)])++ps.drop (ei + 1)).flatMap phiC)::Ent.box p14 [.slice (some ⟨zb,zo,none⟩) ps.length qc,.slice la xs.length lc,.int .i64 kd,.bool on.reg,.int .i64 on.n,.slice xa to.length xc] 43::Ent.box p1 [.string xn,.int .i64 (P : Int),.int .i64 (R : Int),.slice (some ⟨vb,vo,none⟩) n nc] 33::Ent.box p2 [.string ByteArray.empty,.int .i64 0,.int .i64 0,.slice none 0 0] 33::Ent.vec (some ⟨vb,vo,none⟩) n nc 43 6 (rs.flatMap blkC)::((es++ps.drop (ei + 1)).map phE++(rpE (⟨some ⟨zb,zo,none⟩,qc,ps,la,lc,xs,kd,on,xa,xc,to⟩ : BRow)++(rs.eraseIdx i).map blkE))) yb (yo + j * 2) _:=ownAgg (k:=2) rfl vlC_len hgetv
    simp only [vlC] at hov
    repeat (first|refine g_op rfl ?_|refine g_then ?_|refine g_nil ?_|refine g_region ?_|refine g_seq ?_|refine g_alloc rfl fun _ _=>?_|refine g_storeAgg ?_|refine g_block ?_|refine g_skip ?_)
    rename_i p18 _
    refine g_permH (H1:=nmB q ta R m2::nmV ta R m2::Ent.box p18 [.bool v.reg,.int .i64 v.n] 39::Ent.vec (some ⟨yb,yo,none⟩) pl.length pk 39 2 ((vsJ j).flatMap vlC)::Ent.box p16 [.int .i64 (r : Int),.slice (some ⟨yb,yo,none⟩) pl.length pk] 62::Ent.vec (some ⟨zb,zo,none⟩) ps.length qc 62 2 (((es++[(⟨plc Lf r,some ⟨yb,yo,none⟩,pk,pl⟩ : PRow)])++ps.drop (ei + 1)).flatMap phiC)::Ent.box p14 [.slice (some ⟨zb,zo,none⟩) ps.length qc,.slice la xs.length lc,.int .i64 kd,.bool on.reg,.int .i64 on.n,.slice xa to.length xc] 43::Ent.box p1 [.string xn,.int .i64 (P : Int),.int .i64 (R : Int),.slice (some ⟨vb,vo,none⟩) n nc] 33::Ent.box p2 [.string ByteArray.empty,.int .i64 0,.int .i64 0,.slice none 0 0] 33::Ent.vec (some ⟨vb,vo,none⟩) n nc 43 6 (rs.flatMap blkC)::((es++ps.drop (ei + 1)).map phE++(rpE (⟨some ⟨zb,zo,none⟩,qc,ps,la,lc,xs,kd,on,xa,xc,to⟩ : BRow)++(rs.eraseIdx i).map blkE))) (List.perm_iff_count.2 fun e=>by simp only [List.count_append,List.count_cons,List.count_nil]; omega) ?_
    have hnv : ∀ (S : Nat→Prop) (v0 w : World) (H2 : List Ent),Wd S v0 ([nmB q ta R m2,nmV ta R m2]++H2) w→Ret Tryd.prog 46 [.pointer (some ⟨q,0,none⟩),.agg #[.bool v.reg,.int .i64 v.n]] w fun u w'=>∃ _x : Unit,u = .agg #[.bool (renV Lf v).reg,.int .i64 (renV Lf v).n]∧Wd (fps [nmB q ta R m2,nmV ta R m2]) w [nmB q ta R (meets m2 (seqV v)),nmV ta R (meets m2 (seqV v))] w'∧True:=fun S v0 w H2 hw=>by
     have:=nmVal_c q ta R v m2 (val_seq (hsrcR v hvm)) (by omega) w hw.pre
     rw [hren] at this
     exact this
    have hvC : vlC (renV Lf v) = [.bool (renV Lf v).reg,.int .i64 (renV Lf v).n]:=rfl
    refine g_drawX [Ent.box p18 [.bool v.reg,.int .i64 v.n] 39,Ent.box p16 [.int .i64 (r : Int),.slice (some ⟨yb,yo,none⟩) pl.length pk] 62] (fun _ : Unit=>True) (fun _=>[(129,.int .i64 j),(127,.slice (some ⟨yb,yo,none⟩) pl.length pk),(128,.int .i64 pl.length),(16,.pointer (some ⟨p16,0,none⟩)),(15,.int .i64 ei),(112,.int .i64 ei),(110,.slice (some ⟨zb,zo,none⟩) ps.length qc),(111,.int .i64 ps.length),(14,.pointer (some ⟨p14,0,none⟩)),(13,.int .i64 i),(104,.int .i64 i),(103,.int .i64 n),(102,.slice (some ⟨vb,vo,none⟩) n nc),(3,.pointer (some ⟨q,0,none⟩)),(1,.pointer (some ⟨p1,0,none⟩)),(2,.pointer (some ⟨p2,0,none⟩))]) (fun _=>nmB q ta R (meets m2 (seqV v))::nmV ta R (meets m2 (seqV v))::Ent.box p18 [.bool v.reg,.int .i64 v.n] 39::Ent.vec (some ⟨yb,yo,none⟩) pl.length pk 39 2 ((vsJ (j + 1)).flatMap vlC)::Ent.box p16 [.int .i64 (r : Int),.slice (some ⟨yb,yo,none⟩) pl.length pk] 62::Ent.vec (some ⟨zb,zo,none⟩) ps.length qc 62 2 (((es++[(⟨plc Lf r,some ⟨yb,yo,none⟩,pk,pl⟩ : PRow)])++ps.drop (ei + 1)).flatMap phiC)::Ent.box p14 [.slice (some ⟨zb,zo,none⟩) ps.length qc,.slice la xs.length lc,.int .i64 kd,.bool on.reg,.int .i64 on.n,.slice xa to.length xc] 43::Ent.box p1 [.string xn,.int .i64 (P : Int),.int .i64 (R : Int),.slice (some ⟨vb,vo,none⟩) n nc] 33::Ent.box p2 [.string ByteArray.empty,.int .i64 0,.int .i64 0,.slice none 0 0] 33::Ent.vec (some ⟨vb,vo,none⟩) n nc 43 6 (rs.flatMap blkC)::((es++ps.drop (ei + 1)).map phE++(rpE (⟨some ⟨zb,zo,none⟩,qc,ps,la,lc,xs,kd,on,xa,xc,to⟩ : BRow)++(rs.eraseIdx i).map blkE))) mixed (.cons _ (.cons _ (.cons_cons _ (.cons _ (.cons_cons _ (List.nil_sublist _)))))) ?_ fun _ _=>?_
    ·skip
     refine h_take 0 rfl (by decide +kernel) (.cons _ (.cons _ (.cons_cons _ (.cons _ (.cons_cons _ (List.nil_sublist _)))))) ?_
     refine h_take 1 rfl (by decide +kernel) (.cons _ (.cons _ (.cons_cons _ (.cons _ (.cons_cons _ (List.nil_sublist _)))))) ?_
     refine h_take 2 rfl (by decide +kernel) (.cons _ (.cons _ (.cons_cons _ (.cons _ (.cons_cons _ (List.nil_sublist _)))))) ?_
     refine h_take 3 rfl (by decide +kernel) (.cons _ (.cons _ (.cons_cons _ (.cons _ (.cons_cons _ (List.nil_sublist _)))))) ?_
     refine h_take 4 rfl (by decide +kernel) (.cons _ (.cons _ (.cons_cons _ (.cons _ (.cons_cons _ (List.nil_sublist _)))))) ?_
     refine h_callS 5 (H1:=[nmB q ta R m2,nmV ta R m2]) (H2:=Ent.box p18 [.bool v.reg,.int .i64 v.n] 39::Ent.vec (some ⟨yb,yo,none⟩) pl.length pk 39 2 ((vsJ j).flatMap vlC)::Ent.box p16 [.int .i64 (r : Int),.slice (some ⟨yb,yo,none⟩) pl.length pk] 62::Ent.vec (some ⟨zb,zo,none⟩) ps.length qc 62 2 (((es++[(⟨plc Lf r,some ⟨yb,yo,none⟩,pk,pl⟩ : PRow)])++ps.drop (ei + 1)).flatMap phiC)::Ent.box p14 [.slice (some ⟨zb,zo,none⟩) ps.length qc,.slice la xs.length lc,.int .i64 kd,.bool on.reg,.int .i64 on.n,.slice xa to.length xc] 43::Ent.box p1 [.string xn,.int .i64 (P : Int),.int .i64 (R : Int),.slice (some ⟨vb,vo,none⟩) n nc] 33::Ent.box p2 [.string ByteArray.empty,.int .i64 0,.int .i64 0,.slice none 0 0] 33::Ent.vec (some ⟨vb,vo,none⟩) n nc 43 6 (rs.flatMap blkC)::((es++ps.drop (ei + 1)).map phE++(rpE (⟨some ⟨zb,zo,none⟩,qc,ps,la,lc,xs,kd,on,xa,xc,to⟩ : BRow)++(rs.eraseIdx i).map blkE))) (val:=fun _ : Unit=>.agg #[.bool (renV Lf v).reg,.int .i64 (renV Lf v).n]) (E:=fun _=>[nmB q ta R (meets m2 (seqV v)),nmV ta R (meets m2 (seqV v))]) (φ:=fun _=>True) rfl (by decide +kernel) (.cons_cons _ (.cons _ (.cons_cons _ (List.nil_sublist _)))) (fun w hw=>hnv _ _ w _ hw) fun _ _=>?_
     simp only [List.cons_append,List.nil_append]
     refine h_take 6 rfl (by decide +kernel) (.cons _ (.cons _ (.cons_cons _ (.cons _ (.cons_cons _ (List.nil_sublist _)))))) ?_
     refine h_one 7 (by decide +kernel) (o_storeVA 7 3 (j:=j * 2) rfl rfl (by rw [flat_len vlC_len,hvsl]; omega) (.cons _ (.cons _ (.cons_cons _ (.cons _ (.cons_cons _ (List.nil_sublist _)))))) ?_)
     refine h_end (by decide +kernel) ?_
     simp only [List.set_cons_succ,List.set_cons_zero]
     rw [← hvC,flat_put vlC_len (by rw [hvsl]; exact hjl),hsetv]
     exact g_mem () trivial (by repeat (first|exact trivial|refine ⟨rfl,?_⟩)) (.refl _)
    repeat (first|refine g_then ?_|refine g_nil ?_|refine g_region ?_|refine g_opS rfl ?_|refine g_inBlock ?_|refine g_add rfl (by omega) (by omega) ?_)
    exact g_next (j + 1,meets m2 (seqV v)) ⟨by omega,hrem5,fun x hx=>mem_meets.2 (.inl (hsub4 x hx))⟩ (by simp only; omega) (by repeat (first|exact trivial|refine ⟨rfl,?_⟩)) (.cons_cons _ (.cons_cons _ (.cons _ (.refl _))))
   obtain rfl : pl.length = j:=by have:=of_decide_eq_false h4; omega
   have hvsE : vsJ pl.length = pl.map (renV Lf):=by rw [hvsJ]; simp
   rw [hvsE]
   rw [List.drop_length,List.flatMap_nil,List.nil_append] at hrem4
   repeat (first|refine g_then ?_|refine g_nil ?_|refine g_region ?_|refine g_opS rfl ?_|refine g_inBlock ?_|refine g_add rfl (by omega) (by omega) ?_|refine g_exit ?_|refine g_thenExit ?_|refine g_exitHere ?_)
   have hl1 : (es++[(⟨plc Lf r,pla,pk,pl.map (renV Lf)⟩ : PRow)]).length = ei + 1:=by simp [hiL]
   have hC2 : ((es++[(⟨plc Lf r,pla,pk,pl⟩ : PRow)])++ps.drop (ei + 1)).flatMap phiC = ((es++[(⟨plc Lf r,pla,pk,pl.map (renV Lf)⟩ : PRow)])++ps.drop (ei + 1)).flatMap phiC:=by
    simp only [List.flatMap_append,List.flatMap_cons,List.flatMap_nil,phiC,List.length_map]
   rw [hC2]
   refine g_wd (H':=nmB q ta R m2::nmV ta R m2::Ent.vec (some ⟨zb,zo,none⟩) ps.length qc 62 2 (((es++[(⟨plc Lf r,pla,pk,pl.map (renV Lf)⟩ : PRow)])++ps.drop (es++[(⟨plc Lf r,pla,pk,pl.map (renV Lf)⟩ : PRow)]).length).flatMap phiC)::Ent.box p14 [.slice (some ⟨zb,zo,none⟩) ps.length qc,.slice la xs.length lc,.int .i64 kd,.bool on.reg,.int .i64 on.n,.slice xa to.length xc] 43::Ent.box p1 [.string xn,.int .i64 (P : Int),.int .i64 (R : Int),.slice (some ⟨vb,vo,none⟩) n nc] 33::Ent.box p2 [.string ByteArray.empty,.int .i64 0,.int .i64 0,.slice none 0 0] 33::Ent.vec (some ⟨vb,vo,none⟩) n nc 43 6 (rs.flatMap blkC)::(((es++[(⟨plc Lf r,pla,pk,pl.map (renV Lf)⟩ : PRow)])++ps.drop (es++[(⟨plc Lf r,pla,pk,pl.map (renV Lf)⟩ : PRow)]).length).map phE++(rpE (⟨some ⟨zb,zo,none⟩,qc,ps,la,lc,xs,kd,on,xa,xc,to⟩ : BRow)++(rs.eraseIdx i).map blkE))) (fun w hw=>?_) ?_
   ·refine hw.pick ⟨[Ent.box p16 [.int .i64 (r : Int),.slice pla pl.length pk] 62],List.perm_iff_count.2 fun e=>?_⟩
    have e2 : phE (⟨plc Lf r,pla,pk,pl.map (renV Lf)⟩ : PRow) = Ent.vec pla pl.length pk 39 2 ((pl.map (renV Lf)).flatMap vlC):=by unfold phE; simp only [List.length_map]
    rw [hl1]
    simp only [List.map_append,List.map_cons,List.map_nil,List.count_append,List.count_cons,List.count_nil,e2]
    omega
   refine g_next (es++[(⟨plc Lf r,pla,pk,pl.map (renV Lf)⟩ : PRow)],m2) ⟨by simp only [hl1]; omega,?_,fun q hq=>?_,by simp only [hl1]; exact hrem4,fun x hx=>hsub4 x (hsub2 x hx)⟩ (by simp only [hl1]; omega) (by simp only [hl1]; repeat (first|exact trivial|refine ⟨rfl,?_⟩)) (.refl _)
   ·simp only [hl1]
    rw [List.take_add_one,hu,List.map_append,List.map_append,hem]
    simp only [Option.toList_some,List.map_cons,List.map_nil,PRow.phi,renP]
   ·rcases List.mem_append.1 hq with hq|hq
    ·exact heb q hq
    ·rw [List.mem_singleton.1 hq]
     have h5:=plc_le Lf r
     refine ⟨⟨by simp only; omega,by simp only; omega⟩,by simp only [List.length_map]; exact hub,fun v hv=>?_⟩
     simp only at hv
     obtain ⟨y,hy,rfl⟩:=List.mem_map.1 hv
     exact renV_in (huv y hy) (by omega)
  have hge : es.length = ps.length:=by have:=of_decide_eq_false h3; omega
  rw [hge,List.drop_length,List.append_nil]
  rw [hge,List.take_length] at hem
  rw [hge,List.drop_length,show srcL [] = [] by rw [hsrcL]; rfl,List.nil_append] at hrem2
  have hsB2 : ∀ r ∈ seqB ((⟨qa,qc,ps,la,lc,xs,kd,on,xa,xc,to⟩ : BRow)).blk,r ∈ m∧0 ≤ r∧r < R:=fun r hr=>⟨hsub2 r (hsB r hr).1,(hsB r hr).2⟩
  repeat (first|refine g_op rfl ?_|refine g_then ?_|refine g_nil ?_|refine g_region ?_|refine g_seq ?_|refine g_block ?_|refine g_exit ?_|refine g_thenExit ?_|refine g_exitHere ?_)
  refine g_permH (H1:=nmB q ta R m::nmV ta R m::Ent.vec la xs.length lc 66 8 (xs.flatMap rowC)::Ent.box p14 [.slice qa ps.length qc,.slice la xs.length lc,.int .i64 kd,.bool on.reg,.int .i64 on.n,.slice xa to.length xc] 43::Ent.box p1 [.string xn,.int .i64 (P : Int),.int .i64 (R : Int),.slice (some ⟨vb,vo,none⟩) n nc] 33::Ent.box p2 [.string ByteArray.empty,.int .i64 0,.int .i64 0,.slice none 0 0] 33::Ent.vec (some ⟨vb,vo,none⟩) n nc 43 6 (rs.flatMap blkC)::(xs.map roE++(Ent.vec qa ps.length qc 62 2 (es.flatMap phiC)::toE (⟨qa,qc,ps,la,lc,xs,kd,on,xa,xc,to⟩ : BRow)::(es.map phE++(rs.eraseIdx i).map blkE)))) (List.perm_iff_count.2 fun e=>?_) ?_
  ·unfold rpE
   simp only [List.count_append,List.count_cons]
   omega
  refine g_loop (fun (ys : List IRow)=>ys.length ≤ xs.length∧ys.map (·.x) = (xs.take ys.length).map (fun q=>renI Lf q.x)∧∀ y ∈ ys,(inI y.x.op∧inI y.x.dst∧inI y.x.a.n∧inI y.x.b.n∧inI y.x.fn)∧y.x.args.length ≤ 1000∧∀ v ∈ y.x.args,inI v.n) (fun ys=>[(146,.int .i64 ys.length),(144,.slice la xs.length lc),(145,.int .i64 xs.length),(14,.pointer (some ⟨p14,0,none⟩)),(13,.int .i64 i),(104,.int .i64 i),(103,.int .i64 n),(102,.slice (some ⟨vb,vo,none⟩) n nc),(3,.pointer (some ⟨q,0,none⟩)),(1,.pointer (some ⟨p1,0,none⟩)),(2,.pointer (some ⟨p2,0,none⟩))])
   (fun ys=>nmB q ta R m::nmV ta R m::Ent.vec la xs.length lc 66 8 ((ys++xs.drop ys.length).flatMap rowC)::Ent.box p14 [.slice qa ps.length qc,.slice la xs.length lc,.int .i64 kd,.bool on.reg,.int .i64 on.n,.slice xa to.length xc] 43::Ent.box p1 [.string xn,.int .i64 (P : Int),.int .i64 (R : Int),.slice (some ⟨vb,vo,none⟩) n nc] 33::Ent.box p2 [.string ByteArray.empty,.int .i64 0,.int .i64 0,.slice none 0 0] 33::Ent.vec (some ⟨vb,vo,none⟩) n nc 43 6 (rs.flatMap blkC)::((ys++xs.drop ys.length).map roE++(Ent.vec qa ps.length qc 62 2 (es.flatMap phiC)::toE (⟨qa,qc,ps,la,lc,xs,kd,on,xa,xc,to⟩ : BRow)::(es.map phE++(rs.eraseIdx i).map blkE)))) (fun ys=>xs.length - ys.length) [] ⟨Nat.zero_le _,rfl,by simp⟩ (g_done (by repeat (first|exact trivial|refine ⟨rfl,?_⟩)) (.refl _)) fun ys ⟨hi5,hym,hyb⟩=>?_
  repeat (first|refine g_op rfl ?_|refine g_then ?_|refine g_nil ?_|refine g_region ?_|refine g_seq ?_)
  refine g_cond (fun h5=>?_) (fun h5=>?_)
  ·have hlt : ys.length < xs.length:=by simpa using h5
   generalize hyL : ys.length = ei at *
   obtain ⟨u,hu⟩ : ∃ u,xs[ei]? = some u:=⟨_,List.getElem?_eq_getElem hlt⟩
   have hum:=List.mem_of_getElem? hu
   obtain ⟨hun,hub,huv⟩:=hBd.ins u hum
   obtain ⟨x,aa,ak⟩:=u
   simp only at hun hub huv
   have hxm : x ∈ ((⟨qa,qc,ps,la,lc,xs,kd,on,xa,xc,to⟩ : BRow)).blk.list:=List.mem_map.2 ⟨_,hum,rfl⟩
   have hio:=hbok.list x hxm
   obtain ⟨fs,hfs⟩:=hkuse _ hBm x hxm
   have hsx : ∀ r ∈ seqI x,r ∈ m∧0 ≤ r∧r < R:=fun r hr=>hsB2 r (List.mem_append_right _ (List.mem_append_left _ (List.mem_flatMap.2 ⟨x,hxm,hr⟩)))
   rw [seqI_eq hfs hio] at hsx
   have hren : ∀ v : LVal,(∀ r ∈ seqV v,r ∈ m∧0 ≤ r∧r < R)→∀ w : World,Wd (fps [nmB q ta R m,nmV ta R m]) w [nmB q ta R m,nmV ta R m] w→Ret Tryd.prog 46 [.pointer (some ⟨q,0,none⟩),.agg #[.bool v.reg,.int .i64 v.n]] w fun u w'=>∃ _x : Unit,u = .agg #[.bool (renV Lf v).reg,.int .i64 (renV Lf v).n]∧Wd (fps [nmB q ta R m,nmV ta R m]) w [nmB q ta R m,nmV ta R m] w'∧True:=fun v hv w hw=>by
    have:=nmVal_c q ta R v m (val_seq fun r hr=>(hv r hr).2) (by omega) w hw
    rw [meets_in fun r hr=>(hv r hr).1,renV_pre hmpre fun r hr=>(hv r hr).1] at this
    exact this
   have hva:=hren x.a fun r hr=>hsx r (List.mem_append_left _ hr)
   have hvb:=hren x.b fun r hr=>hsx r (List.mem_append_right _ (List.mem_append_left _ hr))
   refine g_vec 2 rfl (by omega) fun zb zo hza=>?_
   subst hza
   have hlj : LtIs ei xs.length:=⟨hlt⟩
   have hget : (ys++xs.drop ei)[ei]? = some (⟨x,aa,ak⟩ : IRow):=by
    rw [List.getElem?_append_right (by omega),hyL,Nat.sub_self,List.getElem?_drop,Nat.add_zero]; exact hu
   have hdr : xs.drop ei = (⟨x,aa,ak⟩ : IRow)::xs.drop (ei + 1):=by rw [List.drop_eq_getElem_cons hlt,(List.getElem?_eq_some_iff.1 hu).2]
   refine g_permH (H1:=nmB q ta R m::nmV ta R m::Ent.vec aa x.args.length ak 39 2 (x.args.flatMap vlC)::Ent.vec (some ⟨zb,zo,none⟩) xs.length lc 66 8 ((ys++xs.drop ei).flatMap rowC)::Ent.box p14 [.slice qa ps.length qc,.slice (some ⟨zb,zo,none⟩) xs.length lc,.int .i64 kd,.bool on.reg,.int .i64 on.n,.slice xa to.length xc] 43::Ent.box p1 [.string xn,.int .i64 (P : Int),.int .i64 (R : Int),.slice (some ⟨vb,vo,none⟩) n nc] 33::Ent.box p2 [.string ByteArray.empty,.int .i64 0,.int .i64 0,.slice none 0 0] 33::Ent.vec (some ⟨vb,vo,none⟩) n nc 43 6 (rs.flatMap blkC)::((ys++xs.drop (ei + 1)).map roE++(Ent.vec qa ps.length qc 62 2 (es.flatMap phiC)::toE (⟨qa,qc,ps,some ⟨zb,zo,none⟩,lc,xs,kd,on,xa,xc,to⟩ : BRow)::(es.map phE++(rs.eraseIdx i).map blkE)))) (List.perm_iff_count.2 fun e=>?_) ?_
   ·rw [hdr]
    have e2 : roE (⟨x,aa,ak⟩ : IRow) = Ent.vec aa x.args.length ak 39 2 (x.args.flatMap vlC):=rfl
    simp only [List.map_append,List.map_cons,List.count_append,List.count_cons,e2]
    omega
   have hob2 : OwnAgg (nmB q ta R m::nmV ta R m::Ent.vec aa x.args.length ak 39 2 (x.args.flatMap vlC)::Ent.vec (some ⟨zb,zo,none⟩) xs.length lc 66 8 ((ys++xs.drop ei).flatMap rowC)::Ent.box p14 [.slice qa ps.length qc,.slice (some ⟨zb,zo,none⟩) xs.length lc,.int .i64 kd,.bool on.reg,.int .i64 on.n,.slice xa to.length xc] 43::Ent.box p1 [.string xn,.int .i64 (P : Int),.int .i64 (R : Int),.slice (some ⟨vb,vo,none⟩) n nc] 33::Ent.box p2 [.string ByteArray.empty,.int .i64 0,.int .i64 0,.slice none 0 0] 33::Ent.vec (some ⟨vb,vo,none⟩) n nc 43 6 (rs.flatMap blkC)::((ys++xs.drop (ei + 1)).map roE++(Ent.vec qa ps.length qc 62 2 (es.flatMap phiC)::toE (⟨qa,qc,ps,some ⟨zb,zo,none⟩,lc,xs,kd,on,xa,xc,to⟩ : BRow)::(es.map phE++(rs.eraseIdx i).map blkE)))) zb (zo + ei * 8) _:=ownAgg (k:=3) rfl rowC_len hget
   simp only [rowC] at hob2
   repeat (first|refine g_op rfl ?_|refine g_then ?_|refine g_nil ?_|refine g_region ?_|refine g_seq ?_|refine g_alloc rfl fun _ _=>?_|refine g_storeAgg ?_|refine g_block ?_|refine g_skip ?_)
   rename_i p20 _
   refine g_permH (H1:=nmB q ta R m::nmV ta R m::Ent.vec aa x.args.length ak 39 2 (x.args.flatMap vlC)::Ent.box p20 [.int .i64 x.op,.int .i64 x.dst,.bool x.a.reg,.int .i64 x.a.n,.bool x.b.reg,.int .i64 x.b.n,.int .i64 x.fn,.slice aa x.args.length ak] 66::Ent.vec (some ⟨zb,zo,none⟩) xs.length lc 66 8 ((ys++xs.drop ei).flatMap rowC)::Ent.box p14 [.slice qa ps.length qc,.slice (some ⟨zb,zo,none⟩) xs.length lc,.int .i64 kd,.bool on.reg,.int .i64 on.n,.slice xa to.length xc] 43::Ent.box p1 [.string xn,.int .i64 (P : Int),.int .i64 (R : Int),.slice (some ⟨vb,vo,none⟩) n nc] 33::Ent.box p2 [.string ByteArray.empty,.int .i64 0,.int .i64 0,.slice none 0 0] 33::Ent.vec (some ⟨vb,vo,none⟩) n nc 43 6 (rs.flatMap blkC)::((ys++xs.drop (ei + 1)).map roE++(Ent.vec qa ps.length qc 62 2 (es.flatMap phiC)::toE (⟨qa,qc,ps,some ⟨zb,zo,none⟩,lc,xs,kd,on,xa,xc,to⟩ : BRow)::(es.map phE++(rs.eraseIdx i).map blkE)))) (List.perm_iff_count.2 fun e=>by simp only [List.count_append,List.count_cons,List.count_nil]; omega) ?_
   refine g_drawX [] (fun _ : Unit=>True) (fun _=>[(20,.pointer (some ⟨p20,0,none⟩)),(19,.int .i64 ei),(146,.int .i64 ei),(144,.slice (some ⟨zb,zo,none⟩) xs.length lc),(145,.int .i64 xs.length),(14,.pointer (some ⟨p14,0,none⟩)),(13,.int .i64 i),(104,.int .i64 i),(103,.int .i64 n),(102,.slice (some ⟨vb,vo,none⟩) n nc),(3,.pointer (some ⟨q,0,none⟩)),(1,.pointer (some ⟨p1,0,none⟩)),(2,.pointer (some ⟨p2,0,none⟩))]) (fun _=>nmB q ta R m::nmV ta R m::Ent.vec aa x.args.length ak 39 2 (x.args.flatMap vlC)::Ent.box p20 [.int .i64 x.op,.int .i64 x.dst,.bool (renV Lf x.a).reg,.int .i64 (renV Lf x.a).n,.bool (renV Lf x.b).reg,.int .i64 (renV Lf x.b).n,.int .i64 x.fn,.slice aa x.args.length ak] 66::Ent.vec (some ⟨zb,zo,none⟩) xs.length lc 66 8 ((ys++xs.drop ei).flatMap rowC)::Ent.box p14 [.slice qa ps.length qc,.slice (some ⟨zb,zo,none⟩) xs.length lc,.int .i64 kd,.bool on.reg,.int .i64 on.n,.slice xa to.length xc] 43::Ent.box p1 [.string xn,.int .i64 (P : Int),.int .i64 (R : Int),.slice (some ⟨vb,vo,none⟩) n nc] 33::Ent.box p2 [.string ByteArray.empty,.int .i64 0,.int .i64 0,.slice none 0 0] 33::Ent.vec (some ⟨vb,vo,none⟩) n nc 43 6 (rs.flatMap blkC)::((ys++xs.drop (ei + 1)).map roE++(Ent.vec qa ps.length qc 62 2 (es.flatMap phiC)::toE (⟨qa,qc,ps,some ⟨zb,zo,none⟩,lc,xs,kd,on,xa,xc,to⟩ : BRow)::(es.map phE++(rs.eraseIdx i).map blkE)))) mixed (List.nil_sublist _) ?_ fun _ _=>?_
   ·skip
    refine h_take 0 rfl (by decide +kernel) (List.nil_sublist _) ?_
    refine h_take 1 rfl (by decide +kernel) (List.nil_sublist _) ?_
    refine h_take 4 rfl (by decide +kernel) (List.nil_sublist _) ?_
    refine h_take 5 rfl (by decide +kernel) (List.nil_sublist _) ?_
    refine h_two 2 6 (by decide +kernel) ?_ ?_
    ·skip
     refine o_op 2 rfl (List.nil_sublist _) ?_
     refine h_two 3 6 (by decide +kernel) ?_ ?_
     ·skip
      (refine o_callS 3 (H1:=[nmB q ta R m,nmV ta R m]) (H2:=Ent.vec aa x.args.length ak 39 2 (x.args.flatMap vlC)::Ent.box p20 [.int .i64 x.op,.int .i64 x.dst,.bool x.a.reg,.int .i64 x.a.n,.bool x.b.reg,.int .i64 x.b.n,.int .i64 x.fn,.slice aa x.args.length ak] 66::Ent.vec (some ⟨zb,zo,none⟩) xs.length lc 66 8 ((ys++xs.drop ei).flatMap rowC)::Ent.box p14 [.slice qa ps.length qc,.slice (some ⟨zb,zo,none⟩) xs.length lc,.int .i64 kd,.bool on.reg,.int .i64 on.n,.slice xa to.length xc] 43::Ent.box p1 [.string xn,.int .i64 (P : Int),.int .i64 (R : Int),.slice (some ⟨vb,vo,none⟩) n nc] 33::Ent.box p2 [.string ByteArray.empty,.int .i64 0,.int .i64 0,.slice none 0 0] 33::Ent.vec (some ⟨vb,vo,none⟩) n nc 43 6 (rs.flatMap blkC)::((ys++xs.drop (ei + 1)).map roE++(Ent.vec qa ps.length qc 62 2 (es.flatMap phiC)::toE (⟨qa,qc,ps,some ⟨zb,zo,none⟩,lc,xs,kd,on,xa,xc,to⟩ : BRow)::(es.map phE++(rs.eraseIdx i).map blkE)))) (E:=fun _=>[nmB q ta R m,nmV ta R m]) (φ:=fun _=>True) (val:=fun _ : Unit=>.agg #[.bool (renV Lf x.a).reg,.int .i64 (renV Lf x.a).n]) rfl (List.nil_sublist _) (fun w hw=>hva w hw.pre) fun _ _=>?_; simp only [List.cons_append,List.nil_append])
      refine h_one 6 (by decide +kernel) ?_
      refine o_op 6 rfl (List.nil_sublist _) ?_
      refine h_take 8 rfl (by decide +kernel) (List.nil_sublist _) ?_
      refine h_one 7 (by decide +kernel) ?_
      refine o_callS 7 (H1:=[nmB q ta R m,nmV ta R m]) (H2:=Ent.vec aa x.args.length ak 39 2 (x.args.flatMap vlC)::Ent.box p20 [.int .i64 x.op,.int .i64 x.dst,.bool x.a.reg,.int .i64 x.a.n,.bool x.b.reg,.int .i64 x.b.n,.int .i64 x.fn,.slice aa x.args.length ak] 66::Ent.vec (some ⟨zb,zo,none⟩) xs.length lc 66 8 ((ys++xs.drop ei).flatMap rowC)::Ent.box p14 [.slice qa ps.length qc,.slice (some ⟨zb,zo,none⟩) xs.length lc,.int .i64 kd,.bool on.reg,.int .i64 on.n,.slice xa to.length xc] 43::Ent.box p1 [.string xn,.int .i64 (P : Int),.int .i64 (R : Int),.slice (some ⟨vb,vo,none⟩) n nc] 33::Ent.box p2 [.string ByteArray.empty,.int .i64 0,.int .i64 0,.slice none 0 0] 33::Ent.vec (some ⟨vb,vo,none⟩) n nc 43 6 (rs.flatMap blkC)::((ys++xs.drop (ei + 1)).map roE++(Ent.vec qa ps.length qc 62 2 (es.flatMap phiC)::toE (⟨qa,qc,ps,some ⟨zb,zo,none⟩,lc,xs,kd,on,xa,xc,to⟩ : BRow)::(es.map phE++(rs.eraseIdx i).map blkE)))) (E:=fun _=>[nmB q ta R m,nmV ta R m]) (φ:=fun _=>True) (val:=fun _ : Unit=>.agg #[.bool (renV Lf x.b).reg,.int .i64 (renV Lf x.b).n]) rfl (List.nil_sublist _) (fun w hw=>hvb w hw.pre) fun _ _=>?_
      simp only [List.cons_append,List.nil_append]
      refine h_storeAgg 9 (by decide +kernel) (List.nil_sublist _) ?_
      refine h_take 10 rfl (by decide +kernel) (List.nil_sublist _) ?_
      refine h_storeAgg 11 (by decide +kernel) (List.nil_sublist _) ?_
      refine h_end (by decide +kernel) ?_
      exact g_mem () trivial (by repeat (first|exact trivial|refine ⟨rfl,?_⟩)) (.refl _)
     ·skip
      refine o_op 6 rfl (List.nil_sublist _) ?_
      refine h_one 3 (by decide +kernel) ?_
      (refine o_callS 3 (H1:=[nmB q ta R m,nmV ta R m]) (H2:=Ent.vec aa x.args.length ak 39 2 (x.args.flatMap vlC)::Ent.box p20 [.int .i64 x.op,.int .i64 x.dst,.bool x.a.reg,.int .i64 x.a.n,.bool x.b.reg,.int .i64 x.b.n,.int .i64 x.fn,.slice aa x.args.length ak] 66::Ent.vec (some ⟨zb,zo,none⟩) xs.length lc 66 8 ((ys++xs.drop ei).flatMap rowC)::Ent.box p14 [.slice qa ps.length qc,.slice (some ⟨zb,zo,none⟩) xs.length lc,.int .i64 kd,.bool on.reg,.int .i64 on.n,.slice xa to.length xc] 43::Ent.box p1 [.string xn,.int .i64 (P : Int),.int .i64 (R : Int),.slice (some ⟨vb,vo,none⟩) n nc] 33::Ent.box p2 [.string ByteArray.empty,.int .i64 0,.int .i64 0,.slice none 0 0] 33::Ent.vec (some ⟨vb,vo,none⟩) n nc 43 6 (rs.flatMap blkC)::((ys++xs.drop (ei + 1)).map roE++(Ent.vec qa ps.length qc 62 2 (es.flatMap phiC)::toE (⟨qa,qc,ps,some ⟨zb,zo,none⟩,lc,xs,kd,on,xa,xc,to⟩ : BRow)::(es.map phE++(rs.eraseIdx i).map blkE)))) (E:=fun _=>[nmB q ta R m,nmV ta R m]) (φ:=fun _=>True) (val:=fun _ : Unit=>.agg #[.bool (renV Lf x.a).reg,.int .i64 (renV Lf x.a).n]) rfl (List.nil_sublist _) (fun w hw=>hva w hw.pre) fun _ _=>?_; simp only [List.cons_append,List.nil_append])
      refine h_take 8 rfl (by decide +kernel) (List.nil_sublist _) ?_
      refine h_one 7 (by decide +kernel) ?_
      refine o_callS 7 (H1:=[nmB q ta R m,nmV ta R m]) (H2:=Ent.vec aa x.args.length ak 39 2 (x.args.flatMap vlC)::Ent.box p20 [.int .i64 x.op,.int .i64 x.dst,.bool x.a.reg,.int .i64 x.a.n,.bool x.b.reg,.int .i64 x.b.n,.int .i64 x.fn,.slice aa x.args.length ak] 66::Ent.vec (some ⟨zb,zo,none⟩) xs.length lc 66 8 ((ys++xs.drop ei).flatMap rowC)::Ent.box p14 [.slice qa ps.length qc,.slice (some ⟨zb,zo,none⟩) xs.length lc,.int .i64 kd,.bool on.reg,.int .i64 on.n,.slice xa to.length xc] 43::Ent.box p1 [.string xn,.int .i64 (P : Int),.int .i64 (R : Int),.slice (some ⟨vb,vo,none⟩) n nc] 33::Ent.box p2 [.string ByteArray.empty,.int .i64 0,.int .i64 0,.slice none 0 0] 33::Ent.vec (some ⟨vb,vo,none⟩) n nc 43 6 (rs.flatMap blkC)::((ys++xs.drop (ei + 1)).map roE++(Ent.vec qa ps.length qc 62 2 (es.flatMap phiC)::toE (⟨qa,qc,ps,some ⟨zb,zo,none⟩,lc,xs,kd,on,xa,xc,to⟩ : BRow)::(es.map phE++(rs.eraseIdx i).map blkE)))) (E:=fun _=>[nmB q ta R m,nmV ta R m]) (φ:=fun _=>True) (val:=fun _ : Unit=>.agg #[.bool (renV Lf x.b).reg,.int .i64 (renV Lf x.b).n]) rfl (List.nil_sublist _) (fun w hw=>hvb w hw.pre) fun _ _=>?_
      simp only [List.cons_append,List.nil_append]
      refine h_storeAgg 9 (by decide +kernel) (List.nil_sublist _) ?_
      refine h_take 10 rfl (by decide +kernel) (List.nil_sublist _) ?_
      refine h_storeAgg 11 (by decide +kernel) (List.nil_sublist _) ?_
      refine h_end (by decide +kernel) ?_
      exact g_mem () trivial (by repeat (first|exact trivial|refine ⟨rfl,?_⟩)) (.refl _)
    ·skip
     refine o_op 6 rfl (List.nil_sublist _) ?_
     refine h_one 2 (by decide +kernel) ?_
     refine o_op 2 rfl (List.nil_sublist _) ?_
     refine h_one 3 (by decide +kernel) ?_
     (refine o_callS 3 (H1:=[nmB q ta R m,nmV ta R m]) (H2:=Ent.vec aa x.args.length ak 39 2 (x.args.flatMap vlC)::Ent.box p20 [.int .i64 x.op,.int .i64 x.dst,.bool x.a.reg,.int .i64 x.a.n,.bool x.b.reg,.int .i64 x.b.n,.int .i64 x.fn,.slice aa x.args.length ak] 66::Ent.vec (some ⟨zb,zo,none⟩) xs.length lc 66 8 ((ys++xs.drop ei).flatMap rowC)::Ent.box p14 [.slice qa ps.length qc,.slice (some ⟨zb,zo,none⟩) xs.length lc,.int .i64 kd,.bool on.reg,.int .i64 on.n,.slice xa to.length xc] 43::Ent.box p1 [.string xn,.int .i64 (P : Int),.int .i64 (R : Int),.slice (some ⟨vb,vo,none⟩) n nc] 33::Ent.box p2 [.string ByteArray.empty,.int .i64 0,.int .i64 0,.slice none 0 0] 33::Ent.vec (some ⟨vb,vo,none⟩) n nc 43 6 (rs.flatMap blkC)::((ys++xs.drop (ei + 1)).map roE++(Ent.vec qa ps.length qc 62 2 (es.flatMap phiC)::toE (⟨qa,qc,ps,some ⟨zb,zo,none⟩,lc,xs,kd,on,xa,xc,to⟩ : BRow)::(es.map phE++(rs.eraseIdx i).map blkE)))) (E:=fun _=>[nmB q ta R m,nmV ta R m]) (φ:=fun _=>True) (val:=fun _ : Unit=>.agg #[.bool (renV Lf x.a).reg,.int .i64 (renV Lf x.a).n]) rfl (List.nil_sublist _) (fun w hw=>hva w hw.pre) fun _ _=>?_; simp only [List.cons_append,List.nil_append])
     refine h_take 8 rfl (by decide +kernel) (List.nil_sublist _) ?_
     refine h_one 7 (by decide +kernel) ?_
     refine o_callS 7 (H1:=[nmB q ta R m,nmV ta R m]) (H2:=Ent.vec aa x.args.length ak 39 2 (x.args.flatMap vlC)::Ent.box p20 [.int .i64 x.op,.int .i64 x.dst,.bool x.a.reg,.int .i64 x.a.n,.bool x.b.reg,.int .i64 x.b.n,.int .i64 x.fn,.slice aa x.args.length ak] 66::Ent.vec (some ⟨zb,zo,none⟩) xs.length lc 66 8 ((ys++xs.drop ei).flatMap rowC)::Ent.box p14 [.slice qa ps.length qc,.slice (some ⟨zb,zo,none⟩) xs.length lc,.int .i64 kd,.bool on.reg,.int .i64 on.n,.slice xa to.length xc] 43::Ent.box p1 [.string xn,.int .i64 (P : Int),.int .i64 (R : Int),.slice (some ⟨vb,vo,none⟩) n nc] 33::Ent.box p2 [.string ByteArray.empty,.int .i64 0,.int .i64 0,.slice none 0 0] 33::Ent.vec (some ⟨vb,vo,none⟩) n nc 43 6 (rs.flatMap blkC)::((ys++xs.drop (ei + 1)).map roE++(Ent.vec qa ps.length qc 62 2 (es.flatMap phiC)::toE (⟨qa,qc,ps,some ⟨zb,zo,none⟩,lc,xs,kd,on,xa,xc,to⟩ : BRow)::(es.map phE++(rs.eraseIdx i).map blkE)))) (E:=fun _=>[nmB q ta R m,nmV ta R m]) (φ:=fun _=>True) (val:=fun _ : Unit=>.agg #[.bool (renV Lf x.b).reg,.int .i64 (renV Lf x.b).n]) rfl (List.nil_sublist _) (fun w hw=>hvb w hw.pre) fun _ _=>?_
     simp only [List.cons_append,List.nil_append]
     refine h_storeAgg 9 (by decide +kernel) (List.nil_sublist _) ?_
     refine h_take 10 rfl (by decide +kernel) (List.nil_sublist _) ?_
     refine h_storeAgg 11 (by decide +kernel) (List.nil_sublist _) ?_
     refine h_end (by decide +kernel) ?_
     exact g_mem () trivial (by repeat (first|exact trivial|refine ⟨rfl,?_⟩)) (.refl _)
   repeat (first|refine g_op rfl ?_|refine g_then ?_|refine g_nil ?_|refine g_region ?_|refine g_seq ?_|refine g_block ?_)
   obtain ⟨avJ,havJ⟩ : ∃ f : Nat→List LVal,f = fun j=>(x.args.take j).map (renV Lf)++x.args.drop j:=⟨_,rfl⟩
   have havl : ∀ j,(avJ j).length = x.args.length:=fun j=>by rw [havJ]; simp; omega
   have hav0 : avJ 0 = x.args:=by rw [havJ]; simp
   rw [show Ent.vec aa x.args.length ak 39 2 (x.args.flatMap vlC) = Ent.vec aa x.args.length ak 39 2 ((avJ 0).flatMap vlC) by rw [hav0]]
   refine g_loop (fun (j : Nat)=>j ≤ x.args.length) (fun j=>[(164,.int .i64 j),(162,.slice aa x.args.length ak),(163,.int .i64 x.args.length),(20,.pointer (some ⟨p20,0,none⟩)),(19,.int .i64 ei),(146,.int .i64 ei),(144,.slice (some ⟨zb,zo,none⟩) xs.length lc),(145,.int .i64 xs.length),(14,.pointer (some ⟨p14,0,none⟩)),(13,.int .i64 i),(104,.int .i64 i),(103,.int .i64 n),(102,.slice (some ⟨vb,vo,none⟩) n nc),(3,.pointer (some ⟨q,0,none⟩)),(1,.pointer (some ⟨p1,0,none⟩)),(2,.pointer (some ⟨p2,0,none⟩))])
    (fun j=>nmB q ta R m::nmV ta R m::Ent.vec aa x.args.length ak 39 2 ((avJ j).flatMap vlC)::Ent.box p20 [.int .i64 x.op,.int .i64 x.dst,.bool (renV Lf x.a).reg,.int .i64 (renV Lf x.a).n,.bool (renV Lf x.b).reg,.int .i64 (renV Lf x.b).n,.int .i64 x.fn,.slice aa x.args.length ak] 66::Ent.vec (some ⟨zb,zo,none⟩) xs.length lc 66 8 ((ys++xs.drop ei).flatMap rowC)::Ent.box p14 [.slice qa ps.length qc,.slice (some ⟨zb,zo,none⟩) xs.length lc,.int .i64 kd,.bool on.reg,.int .i64 on.n,.slice xa to.length xc] 43::Ent.box p1 [.string xn,.int .i64 (P : Int),.int .i64 (R : Int),.slice (some ⟨vb,vo,none⟩) n nc] 33::Ent.box p2 [.string ByteArray.empty,.int .i64 0,.int .i64 0,.slice none 0 0] 33::Ent.vec (some ⟨vb,vo,none⟩) n nc 43 6 (rs.flatMap blkC)::((ys++xs.drop (ei + 1)).map roE++(Ent.vec qa ps.length qc 62 2 (es.flatMap phiC)::toE (⟨qa,qc,ps,some ⟨zb,zo,none⟩,lc,xs,kd,on,xa,xc,to⟩ : BRow)::(es.map phE++(rs.eraseIdx i).map blkE)))) (fun j=>x.args.length - j) 0 (Nat.zero_le _) (g_done (by repeat (first|exact trivial|refine ⟨rfl,?_⟩)) (.refl _)) fun j hj=>?_
   repeat (first|refine g_op rfl ?_|refine g_then ?_|refine g_nil ?_|refine g_region ?_|refine g_seq ?_)
   refine g_cond (fun h6=>?_) (fun h6=>?_)
   ·have hjl : j < x.args.length:=by simpa using h6
    obtain ⟨v,hv⟩ : ∃ v,x.args[j]? = some v:=⟨_,List.getElem?_eq_getElem hjl⟩
    have hvm:=List.mem_of_getElem? hv
    have hdv : x.args.drop j = v::x.args.drop (j + 1):=by rw [List.drop_eq_getElem_cons hjl,(List.getElem?_eq_some_iff.1 hv).2]
    have hgetv : (avJ j)[j]? = some v:=by
     rw [havJ]
     simp only
     rw [List.getElem?_append_right (by simp; omega),List.length_map,List.length_take,Nat.min_eq_left (by omega),Nat.sub_self,List.getElem?_drop,Nat.add_zero]; exact hv
    have hsetv : (avJ j).set j (renV Lf v) = avJ (j + 1):=by
     rw [havJ]
     simp only
     rw [List.set_append_right _ _ (by simp; omega),List.length_map,List.length_take,Nat.min_eq_left (by omega),Nat.sub_self,hdv,List.set_cons_zero,List.take_add_one,hv,List.map_append]
     simp
    have hvv:=hren v fun r hr=>hsx r (List.mem_append_right _ (List.mem_append_right _ (List.mem_append_left _ (List.mem_flatMap.2 ⟨v,hvm,hr⟩))))
    refine g_vec 2 rfl (by omega) fun yb yo hya=>?_
    subst hya
    have hlk : LtIs j x.args.length:=⟨hjl⟩
    have hov : OwnAgg (nmB q ta R m::nmV ta R m::Ent.vec (some ⟨yb,yo,none⟩) x.args.length ak 39 2 ((avJ j).flatMap vlC)::Ent.box p20 [.int .i64 x.op,.int .i64 x.dst,.bool (renV Lf x.a).reg,.int .i64 (renV Lf x.a).n,.bool (renV Lf x.b).reg,.int .i64 (renV Lf x.b).n,.int .i64 x.fn,.slice (some ⟨yb,yo,none⟩) x.args.length ak] 66::Ent.vec (some ⟨zb,zo,none⟩) xs.length lc 66 8 ((ys++xs.drop ei).flatMap rowC)::Ent.box p14 [.slice qa ps.length qc,.slice (some ⟨zb,zo,none⟩) xs.length lc,.int .i64 kd,.bool on.reg,.int .i64 on.n,.slice xa to.length xc] 43::Ent.box p1 [.string xn,.int .i64 (P : Int),.int .i64 (R : Int),.slice (some ⟨vb,vo,none⟩) n nc] 33::Ent.box p2 [.string ByteArray.empty,.int .i64 0,.int .i64 0,.slice none 0 0] 33::Ent.vec (some ⟨vb,vo,none⟩) n nc 43 6 (rs.flatMap blkC)::((ys++xs.drop (ei + 1)).map roE++(Ent.vec qa ps.length qc 62 2 (es.flatMap phiC)::toE (⟨qa,qc,ps,some ⟨zb,zo,none⟩,lc,xs,kd,on,xa,xc,to⟩ : BRow)::(es.map phE++(rs.eraseIdx i).map blkE)))) yb (yo + j * 2) _:=ownAgg (k:=2) rfl vlC_len hgetv
    simp only [vlC] at hov
    repeat (first|refine g_op rfl ?_|refine g_then ?_|refine g_nil ?_|refine g_region ?_|refine g_seq ?_|refine g_alloc rfl fun _ _=>?_|refine g_storeAgg ?_|refine g_block ?_|refine g_skip ?_)
    rename_i p22 _
    refine g_permH (H1:=nmB q ta R m::nmV ta R m::Ent.box p22 [.bool v.reg,.int .i64 v.n] 39::Ent.vec (some ⟨yb,yo,none⟩) x.args.length ak 39 2 ((avJ j).flatMap vlC)::Ent.box p20 [.int .i64 x.op,.int .i64 x.dst,.bool (renV Lf x.a).reg,.int .i64 (renV Lf x.a).n,.bool (renV Lf x.b).reg,.int .i64 (renV Lf x.b).n,.int .i64 x.fn,.slice (some ⟨yb,yo,none⟩) x.args.length ak] 66::Ent.vec (some ⟨zb,zo,none⟩) xs.length lc 66 8 ((ys++xs.drop ei).flatMap rowC)::Ent.box p14 [.slice qa ps.length qc,.slice (some ⟨zb,zo,none⟩) xs.length lc,.int .i64 kd,.bool on.reg,.int .i64 on.n,.slice xa to.length xc] 43::Ent.box p1 [.string xn,.int .i64 (P : Int),.int .i64 (R : Int),.slice (some ⟨vb,vo,none⟩) n nc] 33::Ent.box p2 [.string ByteArray.empty,.int .i64 0,.int .i64 0,.slice none 0 0] 33::Ent.vec (some ⟨vb,vo,none⟩) n nc 43 6 (rs.flatMap blkC)::((ys++xs.drop (ei + 1)).map roE++(Ent.vec qa ps.length qc 62 2 (es.flatMap phiC)::toE (⟨qa,qc,ps,some ⟨zb,zo,none⟩,lc,xs,kd,on,xa,xc,to⟩ : BRow)::(es.map phE++(rs.eraseIdx i).map blkE)))) (List.perm_iff_count.2 fun e=>by simp only [List.count_append,List.count_cons,List.count_nil]; omega) ?_
    have hvC : vlC (renV Lf v) = [.bool (renV Lf v).reg,.int .i64 (renV Lf v).n]:=rfl
    refine g_drawX [Ent.box p22 [.bool v.reg,.int .i64 v.n] 39,Ent.box p20 [.int .i64 x.op,.int .i64 x.dst,.bool (renV Lf x.a).reg,.int .i64 (renV Lf x.a).n,.bool (renV Lf x.b).reg,.int .i64 (renV Lf x.b).n,.int .i64 x.fn,.slice (some ⟨yb,yo,none⟩) x.args.length ak] 66] (fun _ : Unit=>True) (fun _=>[(164,.int .i64 j),(162,.slice (some ⟨yb,yo,none⟩) x.args.length ak),(163,.int .i64 x.args.length),(20,.pointer (some ⟨p20,0,none⟩)),(19,.int .i64 ei),(146,.int .i64 ei),(144,.slice (some ⟨zb,zo,none⟩) xs.length lc),(145,.int .i64 xs.length),(14,.pointer (some ⟨p14,0,none⟩)),(13,.int .i64 i),(104,.int .i64 i),(103,.int .i64 n),(102,.slice (some ⟨vb,vo,none⟩) n nc),(3,.pointer (some ⟨q,0,none⟩)),(1,.pointer (some ⟨p1,0,none⟩)),(2,.pointer (some ⟨p2,0,none⟩))]) (fun _=>nmB q ta R m::nmV ta R m::Ent.box p22 [.bool v.reg,.int .i64 v.n] 39::Ent.vec (some ⟨yb,yo,none⟩) x.args.length ak 39 2 ((avJ (j + 1)).flatMap vlC)::Ent.box p20 [.int .i64 x.op,.int .i64 x.dst,.bool (renV Lf x.a).reg,.int .i64 (renV Lf x.a).n,.bool (renV Lf x.b).reg,.int .i64 (renV Lf x.b).n,.int .i64 x.fn,.slice (some ⟨yb,yo,none⟩) x.args.length ak] 66::Ent.vec (some ⟨zb,zo,none⟩) xs.length lc 66 8 ((ys++xs.drop ei).flatMap rowC)::Ent.box p14 [.slice qa ps.length qc,.slice (some ⟨zb,zo,none⟩) xs.length lc,.int .i64 kd,.bool on.reg,.int .i64 on.n,.slice xa to.length xc] 43::Ent.box p1 [.string xn,.int .i64 (P : Int),.int .i64 (R : Int),.slice (some ⟨vb,vo,none⟩) n nc] 33::Ent.box p2 [.string ByteArray.empty,.int .i64 0,.int .i64 0,.slice none 0 0] 33::Ent.vec (some ⟨vb,vo,none⟩) n nc 43 6 (rs.flatMap blkC)::((ys++xs.drop (ei + 1)).map roE++(Ent.vec qa ps.length qc 62 2 (es.flatMap phiC)::toE (⟨qa,qc,ps,some ⟨zb,zo,none⟩,lc,xs,kd,on,xa,xc,to⟩ : BRow)::(es.map phE++(rs.eraseIdx i).map blkE)))) mixed (.cons _ (.cons _ (.cons_cons _ (.cons _ (.cons_cons _ (List.nil_sublist _)))))) ?_ fun _ _=>?_
    ·skip
     refine h_take 0 rfl (by decide +kernel) (.cons _ (.cons _ (.cons_cons _ (.cons _ (.cons_cons _ (List.nil_sublist _)))))) ?_
     refine h_take 1 rfl (by decide +kernel) (.cons _ (.cons _ (.cons_cons _ (.cons _ (.cons_cons _ (List.nil_sublist _)))))) ?_
     refine h_take 2 rfl (by decide +kernel) (.cons _ (.cons _ (.cons_cons _ (.cons _ (.cons_cons _ (List.nil_sublist _)))))) ?_
     refine h_take 3 rfl (by decide +kernel) (.cons _ (.cons _ (.cons_cons _ (.cons _ (.cons_cons _ (List.nil_sublist _)))))) ?_
     refine h_take 4 rfl (by decide +kernel) (.cons _ (.cons _ (.cons_cons _ (.cons _ (.cons_cons _ (List.nil_sublist _)))))) ?_
     refine h_callS 5 (H1:=[nmB q ta R m,nmV ta R m]) (H2:=Ent.box p22 [.bool v.reg,.int .i64 v.n] 39::Ent.vec (some ⟨yb,yo,none⟩) x.args.length ak 39 2 ((avJ j).flatMap vlC)::Ent.box p20 [.int .i64 x.op,.int .i64 x.dst,.bool (renV Lf x.a).reg,.int .i64 (renV Lf x.a).n,.bool (renV Lf x.b).reg,.int .i64 (renV Lf x.b).n,.int .i64 x.fn,.slice (some ⟨yb,yo,none⟩) x.args.length ak] 66::Ent.vec (some ⟨zb,zo,none⟩) xs.length lc 66 8 ((ys++xs.drop ei).flatMap rowC)::Ent.box p14 [.slice qa ps.length qc,.slice (some ⟨zb,zo,none⟩) xs.length lc,.int .i64 kd,.bool on.reg,.int .i64 on.n,.slice xa to.length xc] 43::Ent.box p1 [.string xn,.int .i64 (P : Int),.int .i64 (R : Int),.slice (some ⟨vb,vo,none⟩) n nc] 33::Ent.box p2 [.string ByteArray.empty,.int .i64 0,.int .i64 0,.slice none 0 0] 33::Ent.vec (some ⟨vb,vo,none⟩) n nc 43 6 (rs.flatMap blkC)::((ys++xs.drop (ei + 1)).map roE++(Ent.vec qa ps.length qc 62 2 (es.flatMap phiC)::toE (⟨qa,qc,ps,some ⟨zb,zo,none⟩,lc,xs,kd,on,xa,xc,to⟩ : BRow)::(es.map phE++(rs.eraseIdx i).map blkE)))) (val:=fun _ : Unit=>.agg #[.bool (renV Lf v).reg,.int .i64 (renV Lf v).n]) (E:=fun _=>[nmB q ta R m,nmV ta R m]) (φ:=fun _=>True) rfl (by decide +kernel) (.cons_cons _ (.cons _ (.cons_cons _ (List.nil_sublist _)))) (fun w hw=>hvv w hw.pre) fun _ _=>?_
     simp only [List.cons_append,List.nil_append]
     refine h_take 6 rfl (by decide +kernel) (.cons _ (.cons _ (.cons_cons _ (.cons _ (.cons_cons _ (List.nil_sublist _)))))) ?_
     refine h_one 7 (by decide +kernel) (o_storeVA 7 3 (j:=j * 2) rfl rfl (by rw [flat_len vlC_len,havl]; omega) (.cons _ (.cons _ (.cons_cons _ (.cons _ (.cons_cons _ (List.nil_sublist _)))))) ?_)
     refine h_end (by decide +kernel) ?_
     simp only [List.set_cons_succ,List.set_cons_zero]
     rw [← hvC,flat_put vlC_len (by rw [havl]; exact hjl),hsetv]
     exact g_mem () trivial (by repeat (first|exact trivial|refine ⟨rfl,?_⟩)) (.refl _)
    repeat (first|refine g_then ?_|refine g_nil ?_|refine g_region ?_|refine g_opS rfl ?_|refine g_inBlock ?_|refine g_add rfl (by omega) (by omega) ?_)
    exact g_next (j + 1) (by omega) (by omega) (by repeat (first|exact trivial|refine ⟨rfl,?_⟩)) (.cons_cons _ (.cons_cons _ (.cons _ (.refl _))))
   obtain rfl : x.args.length = j:=by have:=of_decide_eq_false h6; omega
   have havE : avJ x.args.length = x.args.map (renV Lf):=by rw [havJ]; simp
   rw [havE]
   have hl1 : (ys++[(⟨renI Lf x,aa,ak⟩ : IRow)]).length = ei + 1:=by simp [hyL]
   have hrC : ∀ d : Int,renR Lf x.dst = d→rowC (⟨renI Lf x,aa,ak⟩ : IRow) = [.int .i64 x.op,.int .i64 d,.bool (renV Lf x.a).reg,.int .i64 (renV Lf x.a).n,.bool (renV Lf x.b).reg,.int .i64 (renV Lf x.b).n,.int .i64 x.fn,.slice aa x.args.length ak]:=fun d hd=>by
    subst hd
    unfold rowC renI
    simp only [List.length_map]
   have hym2 : (ys++[(⟨renI Lf x,aa,ak⟩ : IRow)]).map (·.x) = (xs.take (ys++[(⟨renI Lf x,aa,ak⟩ : IRow)]).length).map (fun q=>renI Lf q.x):=by
    rw [hl1,List.take_add_one,hu,List.map_append,List.map_append,hym]
    rfl
   have hyb2 : ∀ y ∈ ys++[(⟨renI Lf x,aa,ak⟩ : IRow)],(inI y.x.op∧inI y.x.dst∧inI y.x.a.n∧inI y.x.b.n∧inI y.x.fn)∧y.x.args.length ≤ 1000∧∀ v ∈ y.x.args,inI v.n:=fun y hy=>by
    rcases List.mem_append.1 hy with hy|hy
    ·exact hyb y hy
    ·rw [List.mem_singleton.1 hy]
     refine ⟨⟨hun.1,renR_in hun.2.1 (by omega),renV_in hun.2.2.1 (by omega),renV_in hun.2.2.2.1 (by omega),hun.2.2.2.2⟩,by simp only [renI,List.length_map]; exact hub,fun v hv=>?_⟩
     obtain ⟨z,hz,rfl⟩:=List.mem_map.1 hv
     exact renV_in (huv z hz) (by omega)
   repeat (first|refine g_op rfl ?_|refine g_then ?_|refine g_nil ?_|refine g_region ?_|refine g_seq ?_|refine g_exit ?_|refine g_thenExit ?_|refine g_exitHere ?_)
   refine g_cond (fun h7=>?_) (fun h7=>?_)
   ·have hge : 0 ≤ x.dst:=by simpa using h7
    have hd:=hsx x.dst (by rw [if_pos hge]; simp)
    obtain ⟨r,hr⟩ : ∃ r : Nat,x.dst = r:=⟨x.dst.toNat,by omega⟩
    have hdst : renR Lf x.dst = plc Lf r:=by unfold renR; rw [if_pos hge,hr]
    repeat (first|refine g_op rfl ?_|refine g_region ?_)
    rw [hr] at hd ⊢
    refine g_eqH (H1:=[nmB q ta R m,nmV ta R m]++(Ent.vec aa x.args.length ak 39 2 ((x.args.map (renV Lf)).flatMap vlC)::Ent.box p20 [.int .i64 x.op,.int .i64 (r : Int),.bool (renV Lf x.a).reg,.int .i64 (renV Lf x.a).n,.bool (renV Lf x.b).reg,.int .i64 (renV Lf x.b).n,.int .i64 x.fn,.slice aa x.args.length ak] 66::Ent.vec (some ⟨zb,zo,none⟩) xs.length lc 66 8 ((ys++xs.drop ei).flatMap rowC)::Ent.box p14 [.slice qa ps.length qc,.slice (some ⟨zb,zo,none⟩) xs.length lc,.int .i64 kd,.bool on.reg,.int .i64 on.n,.slice xa to.length xc] 43::Ent.box p1 [.string xn,.int .i64 (P : Int),.int .i64 (R : Int),.slice (some ⟨vb,vo,none⟩) n nc] 33::Ent.box p2 [.string ByteArray.empty,.int .i64 0,.int .i64 0,.slice none 0 0] 33::Ent.vec (some ⟨vb,vo,none⟩) n nc 43 6 (rs.flatMap blkC)::((ys++xs.drop (ei + 1)).map roE++(Ent.vec qa ps.length qc 62 2 (es.flatMap phiC)::toE (⟨qa,qc,ps,some ⟨zb,zo,none⟩,lc,xs,kd,on,xa,xc,to⟩ : BRow)::(es.map phE++(rs.eraseIdx i).map blkE))))) rfl ?_
    refine g_callS (val:=fun _ : Unit=>.int .i64 (plc Lf r)) (E:=fun _=>[nmB q ta R m,nmV ta R m]) (φ:=fun _=>True) rfl (fun w hw=>by
     have:=nmName_c q ta R r m (by omega) (by omega) w hw.pre
     rw [meet_in hd.1,← plc_pre hmpre hd.1] at this
     exact this) fun _ _=>?_
    simp only [List.cons_append,List.nil_append]
    repeat (first|refine g_op rfl ?_|refine g_then ?_|refine g_nil ?_|refine g_region ?_|refine g_store ?_)
    refine g_storeVA 4 (j:=ei * 8) rfl rfl (by rw [flat_len rowC_len,List.length_append,List.length_drop]; omega) ?_
    have hput:=flat_put rowC_len (l:=ys++xs.drop ei) (i:=ei) (by rw [List.length_append,List.length_drop]; omega) (⟨renI Lf x,aa,ak⟩ : IRow)
    rw [set_mid hyL hlt,hrC (plc Lf r) hdst] at hput
    rw [hput]
    simp only [List.set_cons_succ,List.set_cons_zero]
    repeat (first|refine g_then ?_|refine g_nil ?_|refine g_region ?_|refine g_opS rfl ?_|refine g_inBlock ?_|refine g_add rfl (by omega) (by omega) ?_)
    refine g_wd (H':=nmB q ta R m::nmV ta R m::Ent.vec (some ⟨zb,zo,none⟩) xs.length lc 66 8 (((ys++[(⟨renI Lf x,aa,ak⟩ : IRow)])++xs.drop (ys++[(⟨renI Lf x,aa,ak⟩ : IRow)]).length).flatMap rowC)::Ent.box p14 [.slice qa ps.length qc,.slice (some ⟨zb,zo,none⟩) xs.length lc,.int .i64 kd,.bool on.reg,.int .i64 on.n,.slice xa to.length xc] 43::Ent.box p1 [.string xn,.int .i64 (P : Int),.int .i64 (R : Int),.slice (some ⟨vb,vo,none⟩) n nc] 33::Ent.box p2 [.string ByteArray.empty,.int .i64 0,.int .i64 0,.slice none 0 0] 33::Ent.vec (some ⟨vb,vo,none⟩) n nc 43 6 (rs.flatMap blkC)::(((ys++[(⟨renI Lf x,aa,ak⟩ : IRow)])++xs.drop (ys++[(⟨renI Lf x,aa,ak⟩ : IRow)]).length).map roE++(Ent.vec qa ps.length qc 62 2 (es.flatMap phiC)::toE (⟨qa,qc,ps,some ⟨zb,zo,none⟩,lc,xs,kd,on,xa,xc,to⟩ : BRow)::(es.map phE++(rs.eraseIdx i).map blkE)))) (fun w hw=>?_) ?_
    ·refine hw.pick ⟨[Ent.box p20 [.int .i64 x.op,.int .i64 (plc Lf r),.bool (renV Lf x.a).reg,.int .i64 (renV Lf x.a).n,.bool (renV Lf x.b).reg,.int .i64 (renV Lf x.b).n,.int .i64 x.fn,.slice aa x.args.length ak] 66],List.perm_iff_count.2 fun e=>?_⟩
     have e2 : roE (⟨renI Lf x,aa,ak⟩ : IRow) = Ent.vec aa x.args.length ak 39 2 ((x.args.map (renV Lf)).flatMap vlC):=by unfold roE renI; simp only [List.length_map]
     rw [hl1]
     simp only [List.map_append,List.map_cons,List.map_nil,List.count_append,List.count_cons,List.count_nil,e2]
     omega
    refine g_next (ys++[(⟨renI Lf x,aa,ak⟩ : IRow)]) ⟨by rw [hl1]; omega,hym2,hyb2⟩ (by rw [hl1]; omega) (by simp only [hl1]; repeat (first|exact trivial|refine ⟨rfl,?_⟩)) (.refl _)
   ·have hlt0 : ¬ 0 ≤ x.dst:=by simpa using h7
    have hdst : renR Lf x.dst = x.dst:=by unfold renR; rw [if_neg hlt0]
    repeat (first|refine g_op rfl ?_|refine g_then ?_|refine g_region ?_|refine g_skip ?_)
    refine g_storeVA 4 (j:=ei * 8) rfl rfl (by rw [flat_len rowC_len,List.length_append,List.length_drop]; omega) ?_
    have hput:=flat_put rowC_len (l:=ys++xs.drop ei) (i:=ei) (by rw [List.length_append,List.length_drop]; omega) (⟨renI Lf x,aa,ak⟩ : IRow)
    rw [set_mid hyL hlt,hrC x.dst hdst] at hput
    rw [hput]
    simp only [List.set_cons_succ,List.set_cons_zero]
    repeat (first|refine g_then ?_|refine g_nil ?_|refine g_region ?_|refine g_opS rfl ?_|refine g_inBlock ?_|refine g_add rfl (by omega) (by omega) ?_)
    refine g_wd (H':=nmB q ta R m::nmV ta R m::Ent.vec (some ⟨zb,zo,none⟩) xs.length lc 66 8 (((ys++[(⟨renI Lf x,aa,ak⟩ : IRow)])++xs.drop (ys++[(⟨renI Lf x,aa,ak⟩ : IRow)]).length).flatMap rowC)::Ent.box p14 [.slice qa ps.length qc,.slice (some ⟨zb,zo,none⟩) xs.length lc,.int .i64 kd,.bool on.reg,.int .i64 on.n,.slice xa to.length xc] 43::Ent.box p1 [.string xn,.int .i64 (P : Int),.int .i64 (R : Int),.slice (some ⟨vb,vo,none⟩) n nc] 33::Ent.box p2 [.string ByteArray.empty,.int .i64 0,.int .i64 0,.slice none 0 0] 33::Ent.vec (some ⟨vb,vo,none⟩) n nc 43 6 (rs.flatMap blkC)::(((ys++[(⟨renI Lf x,aa,ak⟩ : IRow)])++xs.drop (ys++[(⟨renI Lf x,aa,ak⟩ : IRow)]).length).map roE++(Ent.vec qa ps.length qc 62 2 (es.flatMap phiC)::toE (⟨qa,qc,ps,some ⟨zb,zo,none⟩,lc,xs,kd,on,xa,xc,to⟩ : BRow)::(es.map phE++(rs.eraseIdx i).map blkE)))) (fun w hw=>?_) ?_
    ·refine hw.pick ⟨[Ent.box p20 [.int .i64 x.op,.int .i64 x.dst,.bool (renV Lf x.a).reg,.int .i64 (renV Lf x.a).n,.bool (renV Lf x.b).reg,.int .i64 (renV Lf x.b).n,.int .i64 x.fn,.slice aa x.args.length ak] 66],List.perm_iff_count.2 fun e=>?_⟩
     have e2 : roE (⟨renI Lf x,aa,ak⟩ : IRow) = Ent.vec aa x.args.length ak 39 2 ((x.args.map (renV Lf)).flatMap vlC):=by unfold roE renI; simp only [List.length_map]
     rw [hl1]
     simp only [List.map_append,List.map_cons,List.map_nil,List.count_append,List.count_cons,List.count_nil,e2]
     omega
    refine g_next (ys++[(⟨renI Lf x,aa,ak⟩ : IRow)]) ⟨by rw [hl1]; omega,hym2,hyb2⟩ (by rw [hl1]; omega) (by simp only [hl1]; repeat (first|exact trivial|refine ⟨rfl,?_⟩)) (.refl _)
  have hgy : ys.length = xs.length:=by have:=of_decide_eq_false h5; omega
  rw [hgy,List.drop_length,List.append_nil]
  rw [hgy,List.take_length] at hym
  repeat (first|refine g_then ?_|refine g_exit ?_|refine g_thenExit ?_|refine g_exitHere ?_)
  obtain ⟨B',hB'⟩ : ∃ B' : BRow,B' = ⟨qa,qc,es,la,lc,ys,kd,renV Lf on,xa,xc,to⟩:=⟨_,rfl⟩
  have hblk' : B'.blk = renB Lf ((⟨qa,qc,ps,la,lc,xs,kd,on,xa,xc,to⟩ : BRow)).blk:=by
   rw [hB']
   unfold BRow.blk renB
   simp only [hem,hym,List.map_map]
   rfl
  have hBd' : B'.Bd:=by
   rw [hB']
   exact ⟨hBd.kind,renV_in hBd.on (by omega),by simp only [hge]; exact hpsl,heb,by simp only [hgy]; exact hxsl,hyb,hBd.to⟩
  have hvOn : ∀ w : World,Wd (fps [nmB q ta R m,nmV ta R m]) w [nmB q ta R m,nmV ta R m] w→Ret Tryd.prog 46 [.pointer (some ⟨q,0,none⟩),.agg #[.bool on.reg,.int .i64 on.n]] w fun u w'=>∃ _x : Unit,u = .agg #[.bool (renV Lf on).reg,.int .i64 (renV Lf on).n]∧Wd (fps [nmB q ta R m,nmV ta R m]) w [nmB q ta R m,nmV ta R m] w'∧True:=fun w hw=>by
   have hon : ∀ r ∈ seqV on,r ∈ m∧0 ≤ r∧r < R:=fun r hr=>hsB2 r (List.mem_append_right _ (List.mem_append_right _ hr))
   have:=nmVal_c q ta R on m (val_seq fun r hr=>(hon r hr).2) (by omega) w hw
   rw [meets_in fun r hr=>(hon r hr).1,renV_pre hmpre fun r hr=>(hon r hr).1] at this
   exact this
  have hput : (rs.flatMap blkC).take (i * 6 + 3)++[.bool (renV Lf on).reg,.int .i64 (renV Lf on).n]++(rs.flatMap blkC).drop (i * 6 + 3 + 2) = (rs.set i B').flatMap blkC:=by
   obtain ⟨B1,hB1⟩ : ∃ B1 : BRow,B1 = ⟨qa,qc,ps,la,lc,xs,kd,⟨(renV Lf on).reg,on.n⟩,xa,xc,to⟩:=⟨_,rfl⟩
   rw [take_put2 (by rw [flat_len blkC_len,hrl]; omega),flat_set blkC_len hBB (k:=3) (y:=B1) (by omega) (by rw [hB1]; rfl)]
   rw [show i * 6 + 3 + 1 = i * 6 + 4 by omega,flat_set blkC_len (x:=B1) (List.getElem?_set_self (by omega)) (k:=4) (y:=B') (by omega) (by rw [hB1,hB']; simp only [blkC,hge,hgy]; rfl),List.set_set]
  refine g_drawX [Ent.box p14 [.slice qa ps.length qc,.slice la xs.length lc,.int .i64 kd,.bool on.reg,.int .i64 on.n,.slice xa to.length xc] 43,Ent.box p1 [.string xn,.int .i64 (P : Int),.int .i64 (R : Int),.slice (some ⟨vb,vo,none⟩) n nc] 33] (fun _ : Unit=>True) (fun _=>[(14,.pointer (some ⟨p14,0,none⟩)),(13,.int .i64 i),(104,.int .i64 i),(103,.int .i64 n),(102,.slice (some ⟨vb,vo,none⟩) n nc),(3,.pointer (some ⟨q,0,none⟩)),(1,.pointer (some ⟨p1,0,none⟩)),(2,.pointer (some ⟨p2,0,none⟩))]) (fun _=>nmB q ta R m::nmV ta R m::Ent.vec la xs.length lc 66 8 (ys.flatMap rowC)::Ent.box p14 [.slice qa ps.length qc,.slice la xs.length lc,.int .i64 kd,.bool on.reg,.int .i64 on.n,.slice xa to.length xc] 43::Ent.box p1 [.string xn,.int .i64 (P : Int),.int .i64 (R : Int),.slice (some ⟨vb,vo,none⟩) n nc] 33::Ent.box p2 [.string ByteArray.empty,.int .i64 0,.int .i64 0,.slice none 0 0] 33::Ent.vec (some ⟨vb,vo,none⟩) n nc 43 6 ((rs.set i B').flatMap blkC)::(ys.map roE++(Ent.vec qa ps.length qc 62 2 (es.flatMap phiC)::toE (⟨qa,qc,ps,la,lc,xs,kd,on,xa,xc,to⟩ : BRow)::(es.map phE++(rs.eraseIdx i).map blkE)))) mixed (.cons _ (.cons _ (.cons _ (.cons_cons _ (.cons_cons _ (List.nil_sublist _)))))) ?_ fun _ _=>?_
  ·skip
   refine h_take 0 rfl (by decide +kernel) (.cons _ (.cons _ (.cons _ (.cons_cons _ (.cons_cons _ (List.nil_sublist _)))))) ?_
   refine h_take 1 rfl (by decide +kernel) (.cons _ (.cons _ (.cons _ (.cons_cons _ (.cons_cons _ (List.nil_sublist _)))))) ?_
   refine h_take 2 rfl (by decide +kernel) (.cons _ (.cons _ (.cons _ (.cons_cons _ (.cons_cons _ (List.nil_sublist _)))))) ?_
   refine h_take 3 rfl (by decide +kernel) (.cons _ (.cons _ (.cons _ (.cons_cons _ (.cons_cons _ (List.nil_sublist _)))))) ?_
   refine h_take 4 rfl (by decide +kernel) (.cons _ (.cons _ (.cons _ (.cons_cons _ (.cons_cons _ (List.nil_sublist _)))))) ?_
   refine h_take 5 rfl (by decide +kernel) (.cons _ (.cons _ (.cons _ (.cons_cons _ (.cons_cons _ (List.nil_sublist _)))))) ?_
   refine h_take 6 rfl (by decide +kernel) (.cons _ (.cons _ (.cons _ (.cons_cons _ (.cons_cons _ (List.nil_sublist _)))))) ?_
   refine h_callS 7 (H1:=[nmB q ta R m,nmV ta R m]) (H2:=Ent.vec la xs.length lc 66 8 (ys.flatMap rowC)::Ent.box p14 [.slice qa ps.length qc,.slice la xs.length lc,.int .i64 kd,.bool on.reg,.int .i64 on.n,.slice xa to.length xc] 43::Ent.box p1 [.string xn,.int .i64 (P : Int),.int .i64 (R : Int),.slice (some ⟨vb,vo,none⟩) n nc] 33::Ent.box p2 [.string ByteArray.empty,.int .i64 0,.int .i64 0,.slice none 0 0] 33::Ent.vec (some ⟨vb,vo,none⟩) n nc 43 6 (rs.flatMap blkC)::(ys.map roE++(Ent.vec qa ps.length qc 62 2 (es.flatMap phiC)::toE (⟨qa,qc,ps,la,lc,xs,kd,on,xa,xc,to⟩ : BRow)::(es.map phE++(rs.eraseIdx i).map blkE)))) (val:=fun _ : Unit=>.agg #[.bool (renV Lf on).reg,.int .i64 (renV Lf on).n]) (E:=fun _=>[nmB q ta R m,nmV ta R m]) (φ:=fun _=>True) rfl (by decide +kernel) (.cons _ (.cons_cons _ (.cons_cons _ (List.nil_sublist _)))) (fun w hw=>hvOn w hw.pre) fun _ _=>?_
   simp only [List.cons_append,List.nil_append]
   refine h_take 8 rfl (by decide +kernel) (.cons _ (.cons _ (.cons _ (.cons_cons _ (.cons_cons _ (List.nil_sublist _)))))) ?_
   refine h_take 9 rfl (by decide +kernel) (.cons _ (.cons _ (.cons _ (.cons_cons _ (.cons_cons _ (List.nil_sublist _)))))) ?_
   refine h_take 10 rfl (by decide +kernel) (.cons _ (.cons _ (.cons _ (.cons_cons _ (.cons_cons _ (List.nil_sublist _)))))) ?_
   refine h_one 11 (by decide +kernel) (o_storeVA 11 6 (j:=i * 6 + 3) rfl (by omega) (by rw [flat_len blkC_len,hrl]; omega) (.cons _ (.cons _ (.cons _ (.cons_cons _ (.cons_cons _ (List.nil_sublist _)))))) ?_)
   refine h_end (by decide +kernel) ?_
   simp only [List.set_cons_succ,List.set_cons_zero]
   rw [hput]
   exact g_mem () trivial (by repeat (first|exact trivial|refine ⟨rfl,?_⟩)) (.refl _)
  repeat (first|refine g_then ?_|refine g_nil ?_|refine g_region ?_|refine g_opS rfl ?_|refine g_inBlock ?_|refine g_add rfl (by omega) (by omega) ?_)
  have e1 : blkPs B' = Ent.vec qa ps.length qc 62 2 (es.flatMap phiC)::Ent.vec la xs.length lc 66 8 (ys.flatMap rowC)::toE (⟨qa,qc,ps,la,lc,xs,kd,on,xa,xc,to⟩ : BRow)::(es.map phE++ys.map roE):=by rw [hB']; simp only [blkPs,hge,hgy,toE]
  refine g_wd (H':=blkPs B'++(nmB q ta R m::nmV ta R m::Ent.box p1 [.string xn,.int .i64 (P : Int),.int .i64 (R : Int),.slice (some ⟨vb,vo,none⟩) n nc] 33::Ent.box p2 [.string ByteArray.empty,.int .i64 0,.int .i64 0,.slice none 0 0] 33::Ent.vec (some ⟨vb,vo,none⟩) n nc 43 6 ((rs.set i B').flatMap blkC)::(rs.eraseIdx i).map blkE)) (fun w hw=>?_) ?_
  ·refine hw.pick ⟨[Ent.box p14 [.slice qa ps.length qc,.slice la xs.length lc,.int .i64 kd,.bool on.reg,.int .i64 on.n,.slice xa to.length xc] 43],List.perm_iff_count.2 fun e=>?_⟩
   rw [e1]
   simp only [List.count_append,List.count_cons,List.count_nil]
   omega
  refine g_joinH ?_
  have hset : (rs.set i B')[i]? = some B':=List.getElem?_set_self (by omega)
  have hpull2:=map_pull blkE hset
  rw [List.eraseIdx_set_eq] at hpull2
  refine g_permH (H1:=nmB q ta R m::nmV ta R m::Ent.box p1 [.string xn,.int .i64 (P : Int),.int .i64 (R : Int),.slice (some ⟨vb,vo,none⟩) n nc] 33::Ent.box p2 [.string ByteArray.empty,.int .i64 0,.int .i64 0,.slice none 0 0] 33::Ent.vec (some ⟨vb,vo,none⟩) n nc 43 6 ((rs.set i B').flatMap blkC)::(rs.set i B').map blkE) (List.perm_iff_count.2 fun e=>?_) ?_
  ·have:=List.perm_iff_count.1 hpull2 e
   unfold blkE at this ⊢
   simp only [List.count_cons] at this ⊢
   omega
  refine g_next (i + 1,rs.set i B',m) ⟨by simp only; omega,by simp only [List.length_set]; exact hrl,?_,fun b hb=>?_,by rw [← hrest]; exact hrem2,fun r hr=>hsub2 r (hsub r hr)⟩ (by simp only; omega) (by repeat (first|exact trivial|refine ⟨rfl,?_⟩)) (.refl _)
  ·simp only
   rw [List.map_set,hrk,List.set_append_right _ _ (by simp; omega),List.length_map,List.length_take,Nat.min_eq_left (by omega),Nat.sub_self,hdropB,List.set_cons_zero,List.take_add_one,hB,List.map_append,hblk']
   simp
  ·rcases List.mem_or_eq_of_mem_set hb with hb|rfl
   ·exact hrd b hb
   ·exact hBd'
 ·obtain rfl : n = i:=by have:=of_decide_eq_false h2; omega
  rw [← hkn,List.drop_length,List.flatMap_nil,meets_nil] at hrem
  rw [← hkn,List.take_length,List.drop_length,List.append_nil] at hrk
  subst l
  unfold nmB
  repeat (first|refine g_op rfl ?_|refine g_then ?_|refine g_nil ?_|refine g_region ?_|refine g_seq ?_|refine g_store ?_|refine g_storeAgg ?_|refine g_exit ?_|refine g_thenExit ?_|refine g_exitHere ?_|refine g_ret ?_)
  have hkF : keptF ⟨xn,(P : Int),(R : Int),bs.map BRow.blk⟩ = kl:=by rw [hklD,hoD,hblD]; rfl
  have hnF : namesF ⟨xn,(P : Int),(R : Int),bs.map BRow.blk⟩ = ⟨xn,(P : Int),(Lf.length : Int),kl.map (renB Lf)⟩:=by
   unfold namesF
   rw [hkF,hLfD]
   simp only [Int.toNat_natCast]
  rw [hnF,hSS]
  refine g_retC rfl fun w hw=>⟨(na,nc,rs),by simp only [hrl],?_,hrk,hrd,by simp only [hrl]; omega,hpar,⟨by simp only; omega,by simp only; omega⟩⟩
  refine hw.sub ?_
  unfold fnE
  simp only [hrl]
  exact .cons _ (.cons _ (.cons _ (.cons _ (.refl _))))
end Go.Proofs.YtpadjpplidlfeaaDoor

/- Texts joined: JoinedR TidyR. -/
import Derived.Test.YtpadjpplidlfeaaGreatDoorII
import Derived.Test.YtpadjpplidlfeaaGreatDoorIK
import Derived.Test.YtpadjpplidlfeaaGreatDoorIL
namespace Go.Proofs.YtpadjpplidlfeaaGreatDoor
open Go Go.RowKit
attribute [local irreducible] wpListIn Code.wpIn Exit.then Exit.inBlock bodyPost wpQuiet wpAnyIn wpAnyH bodyPostM oneH
set_option maxHeartbeats 8000000
theorem flat_tail {α : Type} {g : α→List Value} {s : Nat} (hg : ∀ x,(g x).length = s) {l : List α} {i k : Nat} {x y : α} (hi : l[i]? = some x) {vs : List Value} (hk : k + vs.length = s) (hy : (g x).take k++vs = g y) : (l.flatMap g).take (i * s + k)++vs++(l.flatMap g).drop (i * s + k + vs.length) = (l.set i y).flatMap g:=by
 have hil:=(List.getElem?_eq_some_iff.1 hi).1
 rw [← flat_put hg hil y,← hy]
 have e1 : i * s + k + vs.length = i * s + s:=by omega
 rw [e1]
 congr 1
 rw [List.take_add,← List.append_assoc]
 congr 2
 have e2:=(flat_cut hg l i).2
 rw [e2,List.drop_eq_getElem_cons hil,List.flatMap_cons,List.take_append_of_le_length (by rw [hg]; omega),(List.getElem?_eq_some_iff.1 hi).2]
theorem pull2 {α β : Type} (f : α→β) {l : List α} {b t : Nat} {B T : α} (hb : l[b]? = some B) (ht : l[t]? = some T) (hne : b ≠ t) : ∃ R : List β,(l.map f).Perm (f B::f T::R)∧∀ c x,l[c]? = some x→c ≠ b→c ≠ t→f x ∈ R:=by
 have hbl:=(List.getElem?_eq_some_iff.1 hb).1
 have htl:=(List.getElem?_eq_some_iff.1 ht).1
 obtain ⟨h,hh⟩ : ∃ h : Nat→β,h = fun c=>f (l[c]?.getD B):=⟨_,rfl⟩
 have h1 : l.map f = (List.range l.length).map h:=by
  apply List.ext_getElem?
  intro j
  rw [List.getElem?_map,List.getElem?_map]
  by_cases hj : j < l.length
  ·rw [List.getElem?_range hj,List.getElem?_eq_getElem hj,hh]
   simp [List.getElem?_eq_getElem hj]
  ·rw [List.getElem?_eq_none (by omega),List.getElem?_eq_none (by rw [List.length_range]; omega)]; rfl
 have h2 : (List.range l.length).Perm (b::t::(List.range l.length).filter fun c=>decide (c ≠ b∧c ≠ t)):=by
  refine (List.perm_ext_iff_of_nodup List.nodup_range ?_).2 fun x=>?_
  ·rw [List.nodup_cons,List.nodup_cons]
   refine ⟨?_,?_,List.nodup_range.sublist List.filter_sublist⟩
   ·rw [List.mem_cons,List.mem_filter]
    simp [hne]
   ·rw [List.mem_filter]
    simp
  ·rw [List.mem_cons,List.mem_cons,List.mem_filter,List.mem_range,decide_eq_true_eq]
   constructor
   ·intro hx
    by_cases e1 : x = b
    ·exact .inl e1
    ·by_cases e2 : x = t
     ·exact .inr (.inl e2)
     ·exact .inr (.inr ⟨hx,e1,e2⟩)
   ·rintro (rfl|rfl|⟨hx,_⟩)
    ·exact hbl
    ·exact htl
    ·exact hx
 refine ⟨((List.range l.length).filter fun c=>decide (c ≠ b∧c ≠ t)).map h,?_,fun c x hx e1 e2=>?_⟩
 ·have e3 : h b = f B:=by rw [hh]; simp only [hb,Option.getD_some]
  have e4 : h t = f T:=by rw [hh]; simp only [ht,Option.getD_some]
  rw [h1,← e3,← e4]
  exact h2.map h
 ·refine List.mem_map.2 ⟨c,List.mem_filter.2 ⟨List.mem_range.2 (List.getElem?_eq_some_iff.1 hx).1,by simp [e1,e2]⟩,?_⟩
  rw [hh]
  simp only [hx,Option.getD_some]
theorem flat_partN {α : Type} {g : α→List Value} {s : Nat} (hg : ∀ x,(g x).length = s) {H : List Ent} {k b o n c e : Nat} {l : List α} {i : Nat} {y : α} (hk : H[k]? = some (Ent.vec (some ⟨b,o,none⟩) n c e s (l.flatMap g))) (hy : l[i]? = some y) (f : Nat) {vs : List Value} (hvs : ∀ j v,vs[j]? = some v→(g y)[f + j]? = some v) : OwnAgg H b (o + i * s + f) vs:=⟨fun _ _ w hw j v hj=>by
 have h5:=hw.vecCell hk (flat_at hg l i y (f + j) v hy (hvs j v hj))
 have e : o + i * s + f + j = o + (i * s + (f + j)):=by omega
 rw [e]
 exact h5⟩
theorem joinedR_c (nm : ByteArray) (pa re : Int) (bl : List LBlock) (bs0 : Value) (R : Nat) (hf : FuncOk R bl) (hlen : bl.length ≤ 100) (hmany : ∀ c d,(blkAt bl c).list.length + (blkAt bl d).list.length ≤ 1000 ∨ c = d) (b t : Nat) (hj : JoinOk bl b t) (w0 : World) (hbs : SlAt w0 bs0 6 bl BlockV) (hbd : ∀ b : BRow,b.blk ∈ bl→b.Bd) :
  Ret Tryz.prog 39 [.agg #[.string nm,.int .i64 pa,.int .i64 re,bs0],.int .i64 b] w0 fun u w'=>∃ x : Option Addr × Nat × List BRow,u = .agg #[.string nm,.int .i64 pa,.int .i64 re,.slice x.1 x.2.2.length x.2.1]∧Wd NoS w0 (fnE x.1 x.2.1 x.2.2) w'∧(x.2.2.map BRow.blk = jnL bl b t∧∀ r ∈ x.2.2,r.Bd):=by
 classical
 have hg:=hf.good
 have hbln:=hj.blt
 have htln:=hj.tlt
 have hbs00:=hbs
 obtain ⟨ba,bc,q,rfl,hqm,hqs,hqa⟩:=blk_rows hbs
 have hql : q.length = bl.length:=by rw [← hqm,List.length_map]
 obtain ⟨n,hn⟩ : ∃ n,n = q.length:=⟨_,rfl⟩
 rw [← hn] at hql hbs00 ⊢
 obtain ⟨_,_,_,cb,co,hca,hcel⟩:=hqs.at
 have hrow : ∀ (i : Nat) (r : BRow),q[i]? = some r→CellsAt w0 cb (co + i * 6) (blkC r):=fun i r hr=>by
  obtain ⟨_,h1,h2⟩:=hcel i r hr
  rwa [h2] at h1
 have hadb : AddrIs ba cb co:=⟨hca (fun e=>by rw [e] at hn; simp at hn; omega)⟩
 have hqB : ∀ (i : Nat) (r : BRow),q[i]? = some r→bl[i]? = some r.blk:=fun i r hr=>by rw [← hqm,List.getElem?_map,hr]; rfl
 obtain ⟨qb,hqb⟩ : ∃ qb,q[b]? = some qb:=⟨_,List.getElem?_eq_getElem (by omega)⟩
 have hqbB:=hqB b qb hqb
 have hqto : qb.to = [(t : Int)]:=by
  have:=hj.to
  rw [blkAt_get hqbB] at this
  exact this
 have hqtl : qb.to.length = 1:=by rw [hqto]; rfl
 have hto0:=(hqa qb (List.mem_of_getElem? hqb)).to
 have hcbb:=hrow b qb hqb
 simp only [blkC] at hcbb
 rw [hqtl] at hto0 hcbb
 have hcib : CellsIs w0 cb (co + b * 6) _:=⟨hcbb⟩
 obtain ⟨tb2,to2,had2,hold2,hel2⟩:=slKnown (S:=NoS) hto0 (fun _=>inferInstance) (fun _ _ h=>⟨_,_,h.1⟩) (by rw [hqto]; simp)
 obtain ⟨_,hci2,rfl,_⟩:=hel2 0 (t : Int) (by rw [hqto]; rfl)
 have hl01 : LtIs 0 1:=⟨by omega⟩
 have hlbn : LtIs b n:=⟨by omega⟩
 refine ret_enter Tryz.func39 rfl Tryz.ntmps39 rfl (Wd.nil NoS w0) ?_
 repeat (first|refine g_op rfl ?_|refine g_then ?_|refine g_nil ?_|refine g_region ?_|refine g_seq ?_|refine g_box rfl fun _ _=>?_|refine g_alloc rfl fun _ _=>?_)
 rename_i p2 _ p4 _
 refine g_callE (val:=fun x : Option Addr × Nat × List BRow=>.agg #[.string nm,.int .i64 pa,.int .i64 re,.slice x.1 x.2.2.length x.2.1]) (E:=fun x=>fnE x.1 x.2.1 x.2.2) (φ:=fun x=>x.2.2.map BRow.blk = bl∧∀ b ∈ x.2.2,b.Bd) rfl (fun w hw=>funcR_c nm pa re bl _ w (hbs00.keep keeps_block hw.chg) (by omega) fun b hb _=>hbd b hb) fun x hx=>?_
 obtain ⟨a,c,bs⟩:=x
 obtain ⟨hbm,hbd0⟩:=hx
 simp only at hbm hbd0
 have hbsl : bs.length = n:=by rw [hql,← hbm,List.length_map]
 refine g_permH (List.perm_append_comm (l₂:=[Ent.box p4 [.string ByteArray.empty,.int .i64 0,.int .i64 0,.slice none 0 0] 35,Ent.box p2 [.string nm,.int .i64 pa,.int .i64 re,.slice ba n bc] 35])) ?_
 simp only [List.cons_append,List.nil_append]
 unfold fnE
 rw [hbsl]
 refine g_vec 2 rfl (by omega) fun vb vo hva=>?_
 subst hva
 repeat (first|refine g_op rfl ?_|refine g_then ?_|refine g_nil ?_|refine g_region ?_|refine g_seq ?_|refine g_alloc rfl fun _ _=>?_|refine g_storeAgg ?_|refine g_block ?_)
 rename_i p6 _
 refine g_loop (fun x : Nat × List BRow=>x.1 ≤ n∧x.2.length = n∧x.2.map BRow.blk = turnTo bl b t x.1∧∀ r ∈ x.2,r.Bd) (fun x=>[(7,.int .i64 x.1),(6,.pointer (some ⟨p6,0,none⟩)),(5,.int .i64 t),(4,.pointer (some ⟨p4,0,none⟩)),(2,.pointer (some ⟨p2,0,none⟩)),(1,.int .i64 b)]) (fun x=>Ent.box p6 [.string nm,.int .i64 pa,.int .i64 re,.slice (some ⟨vb,vo,none⟩) n c] 35::Ent.box p4 [.string ByteArray.empty,.int .i64 0,.int .i64 0,.slice none 0 0] 35::Ent.box p2 [.string nm,.int .i64 pa,.int .i64 re,.slice ba n bc] 35::Ent.vec (some ⟨vb,vo,none⟩) n c 50 6 (x.2.flatMap blkC)::x.2.map blkE) (fun x=>n - x.1) (0,bs) ⟨Nat.zero_le _,hbsl,by simp only; rw [turnTo_zero,hbm],hbd0⟩ (g_done (by repeat (first|exact trivial|refine ⟨rfl,?_⟩)) (.refl _)) fun x ⟨hi,hyl,hym,hyd⟩=>?_
 obtain ⟨i,ys⟩:=x
 simp only at hi hyl hym hyd ⊢
 repeat (first|refine g_op rfl ?_|refine g_then ?_|refine g_nil ?_|refine g_region ?_|refine g_seq ?_)
 refine g_cond (fun h1=>?_) (fun h1=>?_)
 ·have hin : i < n:=by simpa using h1
  obtain ⟨T,hT⟩ : ∃ T,ys[i]? = some T:=⟨_,List.getElem?_eq_getElem (by omega)⟩
  obtain ⟨Q,hQ⟩ : ∃ Q,q[i]? = some Q:=⟨_,List.getElem?_eq_getElem (by omega)⟩
  have hQB:=hqB i Q hQ
  have hTB : T.blk = Q.blk:=by
   have h2 : (turnTo bl b t i)[i]? = some T.blk:=by rw [← hym,List.getElem?_map,hT]; rfl
   rw [turnTo_get hQB,if_neg (by omega)] at h2
   exact (Option.some.inj h2).symm
  have hBok:=hf.block i _ hQB
  have hTd:=hyd T (List.mem_of_getElem? hT)
  have hTps : T.ps.map PRow.phi = Q.ps.map PRow.phi:=congrArg LBlock.phis hTB
  have hTl0 : T.ps.length = Q.ps.length:=by simpa using congrArg List.length hTps
  have hcQ:=hrow i Q hQ
  simp only [blkC] at hcQ
  have hciQ : CellsIs w0 cb (co + i * 6) _:=⟨hcQ⟩
  have hlin : LtIs i n:=⟨hin⟩
  have hAQ:=hqa Q (List.mem_of_getElem? hQ)
  refine g_wd (H':=[Ent.box p6 [.string nm,.int .i64 pa,.int .i64 re,.slice (some ⟨vb,vo,none⟩) n c] 35,Ent.box p4 [.string ByteArray.empty,.int .i64 0,.int .i64 0,.slice none 0 0] 35,Ent.box p2 [.string nm,.int .i64 pa,.int .i64 re,.slice ba n bc] 35]++(Ent.vec (some ⟨vb,vo,none⟩) n c 50 6 (ys.flatMap blkC)::Ent.vec T.pa T.ps.length T.pc 86 2 (T.ps.flatMap phiC)::lvE T::tvE T::(T.ps.map phE++(T.xs.map roE++(ys.eraseIdx i).map blkE)))) (fun w hw=>by
   have h9:=wd_openB hT (X:=[Ent.box p6 [.string nm,.int .i64 pa,.int .i64 re,.slice (some ⟨vb,vo,none⟩) n c] 35,Ent.box p4 [.string ByteArray.empty,.int .i64 0,.int .i64 0,.slice none 0 0] 35,Ent.box p2 [.string nm,.int .i64 pa,.int .i64 re,.slice ba n bc] 35]) (a:=some ⟨vb,vo,none⟩) (c:=c) (by unfold fnE; rw [hyl]; exact hw)
   rw [hyl] at h9
   exact h9) ?_
  simp only [List.cons_append,List.nil_append]
  repeat (first|refine g_op rfl ?_|refine g_then ?_|refine g_nil ?_|refine g_region ?_|refine g_seq ?_|refine g_block ?_|refine g_skip ?_)
  refine g_loop (fun es : List PRow=>es.length ≤ T.ps.length∧es.map PRow.phi = (T.ps.take es.length).map (fun q=>phJ bl b t i q.phi)∧∀ q ∈ es,inI q.dst∧q.l.length ≤ 1000∧∀ v ∈ q.l,inI v.n) (fun es=>[(8,.int .i64 es.length),(7,.int .i64 i),(6,.pointer (some ⟨p6,0,none⟩)),(5,.int .i64 t),(4,.pointer (some ⟨p4,0,none⟩)),(2,.pointer (some ⟨p2,0,none⟩)),(1,.int .i64 b)]) (fun es=>Ent.box p6 [.string nm,.int .i64 pa,.int .i64 re,.slice (some ⟨vb,vo,none⟩) n c] 35::Ent.box p4 [.string ByteArray.empty,.int .i64 0,.int .i64 0,.slice none 0 0] 35::Ent.box p2 [.string nm,.int .i64 pa,.int .i64 re,.slice ba n bc] 35::Ent.vec (some ⟨vb,vo,none⟩) n c 50 6 (ys.flatMap blkC)::Ent.vec T.pa T.ps.length T.pc 86 2 ((es++T.ps.drop es.length).flatMap phiC)::lvE T::tvE T::((es++T.ps.drop es.length).map phE++(T.xs.map roE++(ys.eraseIdx i).map blkE))) (fun es=>T.ps.length - es.length) [] ⟨Nat.zero_le _,rfl,by simp⟩ (g_done (by repeat (first|exact trivial|refine ⟨rfl,?_⟩)) (.refl _)) fun es ⟨hei,hem,heb⟩=>?_
  have hcell : ∀ (q : Nat) v,(blkC T)[q]? = some v→(ys.flatMap blkC)[i * 6 + q]? = some v:=fun q v hv=>flat_at blkC_len ys i T q v hT hv
  have hoc : ∀ (X1 X2 X3 : Ent) (Y : List Ent),OwnCell (X1::X2::X3::Ent.vec (some ⟨vb,vo,none⟩) n c 50 6 (ys.flatMap blkC)::Y) vb (vo + i * 6) (.slice T.pa T.ps.length T.pc):=fun _ _ _ _=>⟨fun _ _ _ hw=>hw.vecCell (k:=3) rfl (hcell 0 _ rfl)⟩
  repeat (first|refine g_op rfl ?_|refine g_then ?_|refine g_nil ?_|refine g_region ?_|refine g_seq ?_)
  refine g_cond (fun h3=>?_) (fun h3=>?_)
  ·have hltp : es.length < T.ps.length:=by simpa using h3
   generalize hjL : es.length = j at *
   obtain ⟨p,hp⟩ : ∃ p,T.ps[j]? = some p:=⟨_,List.getElem?_eq_getElem hltp⟩
   obtain ⟨p0,hp0⟩ : ∃ p0,Q.ps[j]? = some p0:=⟨_,List.getElem?_eq_getElem (by omega)⟩
   have hpp0 : p.phi = p0.phi:=by
    have h2 : (T.ps.map PRow.phi)[j]? = some p.phi:=by rw [List.getElem?_map,hp]; rfl
    rw [hTps,List.getElem?_map,hp0] at h2
    exact (Option.some.inj h2).symm
   have hp0l : p0.l = p.l:=congrArg LPhi.src hpp0.symm
   have hpm:=List.mem_of_getElem? hp
   have hpd:=hTd.phi p hpm
   have hps:=hTd.phis
   have hpB : p.phi ∈ (blkAt bl i).phis:=by
    rw [blkAt_get hQB,← hTB]
    exact List.mem_map.2 ⟨p,hpm,rfl⟩
   have hit : i ≠ t:=fun e=>by
    rw [e,hj.none] at hpB
    cases hpB
   have hpl : p.l.length = (preds bl i).length:=by
    rw [blkAt_get hQB] at hpB
    exact (hBok.phis _ hpB).len
   have hP100 : (preds bl i).length ≤ 100:=Nat.le_trans (List.length_filter_le _ _) (by rw [List.length_range]; omega)
   have hget : (es++T.ps.drop j)[j]? = some p:=by rw [List.getElem?_append_right (by omega),hjL,Nat.sub_self,List.getElem?_drop,Nat.add_zero]; exact hp
   have hpsl : (es++T.ps.drop j).length = T.ps.length:=by rw [List.length_append,List.length_drop]; omega
   obtain ⟨ps',hps'⟩ : ∃ ps',ps' = es++T.ps.drop j:=⟨_,rfl⟩
   rw [← hps'] at hget hpsl ⊢
   refine g_vec 4 rfl (by omega) fun pb po hqa2=>?_
   rw [hqa2] at hoc ⊢
   have hlj : LtIs j T.ps.length:=⟨hltp⟩
   have hljQ : LtIs j Q.ps.length:=⟨by omega⟩
   obtain ⟨b3,o3,had3,hold3,hel3⟩:=slKnown (S:=NoS) hAQ.phis (fun _=>inferInstance) (fun _ _ h=>⟨_,_,h⟩) (ne_of_get hp0)
   obtain ⟨_,hci3,rfl⟩:=hel3 j p0 hp0
   simp only [phiC] at hci3
   rw [hp0l] at hci3
   have hsrc0:=(hAQ.phi p0 (List.mem_of_getElem? hp0)).2
   rw [hp0l] at hsrc0
   repeat (first|refine g_then ?_|refine g_seq ?_|refine g_block ?_|refine g_skip ?_)
   refine g_drawX [Ent.box p2 [.string nm,.int .i64 pa,.int .i64 re,.slice ba n bc] 35] (fun _ : Option Addr × Nat=>True) (fun x=>[(9,.slice x.1 (preds bl i).length x.2),(8,.int .i64 j),(7,.int .i64 i),(6,.pointer (some ⟨p6,0,none⟩)),(5,.int .i64 t),(4,.pointer (some ⟨p4,0,none⟩)),(2,.pointer (some ⟨p2,0,none⟩)),(1,.int .i64 b)]) (fun x=>Ent.vec x.1 (preds bl i).length x.2 100 3 ((edgesL bl i p.l).flatMap edC)::Ent.box p6 [.string nm,.int .i64 pa,.int .i64 re,.slice (some ⟨vb,vo,none⟩) n c] 35::Ent.box p4 [.string ByteArray.empty,.int .i64 0,.int .i64 0,.slice none 0 0] 35::Ent.box p2 [.string nm,.int .i64 pa,.int .i64 re,.slice ba n bc] 35::Ent.vec (some ⟨vb,vo,none⟩) n c 50 6 (ys.flatMap blkC)::Ent.vec (some ⟨pb,po,none⟩) T.ps.length T.pc 86 2 (ps'.flatMap phiC)::lvE T::tvE T::(ps'.map phE++(T.xs.map roE++(ys.eraseIdx i).map blkE))) mixed (.cons _ (.cons _ (.cons_cons _ (List.nil_sublist _)))) ?_ fun x _=>?_
   ·skip
    refine h_take 0 rfl (by decide +kernel) (.cons _ (.cons _ (.cons_cons _ (List.nil_sublist _)))) ?_
    refine h_take 1 rfl (by decide +kernel) (.cons _ (.cons _ (.cons_cons _ (List.nil_sublist _)))) ?_
    refine h_take 2 rfl (by decide +kernel) (.cons _ (.cons _ (.cons_cons _ (List.nil_sublist _)))) ?_
    refine h_take 3 rfl (by decide +kernel) (.cons _ (.cons _ (.cons_cons _ (List.nil_sublist _)))) ?_
    refine h_take 4 rfl (by decide +kernel) (.cons _ (.cons _ (.cons_cons _ (List.nil_sublist _)))) ?_
    refine h_take 5 rfl (by decide +kernel) (.cons _ (.cons _ (.cons_cons _ (List.nil_sublist _)))) ?_
    refine h_take 6 rfl (by decide +kernel) (.cons _ (.cons _ (.cons_cons _ (List.nil_sublist _)))) ?_
    refine h_take 7 rfl (by decide +kernel) (.cons _ (.cons _ (.cons_cons _ (List.nil_sublist _)))) ?_
    refine h_take 8 rfl (by decide +kernel) (.cons _ (.cons _ (.cons_cons _ (List.nil_sublist _)))) ?_
    refine h_take 9 rfl (by decide +kernel) (.cons _ (.cons _ (.cons_cons _ (List.nil_sublist _)))) ?_
    refine h_take 10 rfl (by decide +kernel) (.cons _ (.cons _ (.cons_cons _ (List.nil_sublist _)))) ?_
    refine h_callE 11 (val:=fun x : Option Addr × Nat=>.slice x.1 (preds bl i).length x.2) (E:=fun x=>[Ent.vec x.1 (preds bl i).length x.2 100 3 ((edgesL bl i p.l).flatMap edC)]) (φ:=fun _=>True) rfl (by decide +kernel) (.cons _ (.cons _ (.cons_cons _ (List.nil_sublist _)))) (fun w hw=>refEdges_c (.string nm) (.int .i64 pa) (.int .i64 re) bl (.slice ba n bc) ⟨_,_,_,rfl⟩ i p0.dst p0.a p.l.length p0.c p.l w (hbs00.keep keeps_block hw.chg) hlen (hsrc0.keep keeps_val hw.chg) hpl) fun x _=>?_
    simp only [List.cons_append,List.nil_append]
    refine h_take 12 rfl (by decide +kernel) (.cons _ (.cons _ (.cons _ (.cons_cons _ (List.nil_sublist _))))) ?_
    refine h_end (by decide +kernel) ?_
    exact g_mem x trivial (by repeat (first|exact trivial|refine ⟨rfl,?_⟩)) (.refl _)
   obtain ⟨ea,ec⟩:=x
   simp only
   obtain ⟨pn,hpn⟩ : ∃ pn,pn = (preds bl i).length:=⟨_,rfl⟩
   obtain ⟨el,hel⟩ : ∃ el,el = edgesL bl i p.l:=⟨_,rfl⟩
   have hzlen : el.length = pn:=by rw [hel]; unfold edgesL; rw [List.length_zip,List.length_map]; omega
   rw [← hpn,← hel]
   rw [← hpn] at hpl hP100
   repeat (first|refine g_op rfl ?_|refine g_then ?_|refine g_nil ?_|refine g_region ?_|refine g_seq ?_|refine g_block ?_)
   refine g_loop (fun m : Nat=>m ≤ pn) (fun m=>[(10,.int .i64 m),(9,.slice ea pn ec),(8,.int .i64 j),(7,.int .i64 i),(6,.pointer (some ⟨p6,0,none⟩)),(5,.int .i64 t),(4,.pointer (some ⟨p4,0,none⟩)),(2,.pointer (some ⟨p2,0,none⟩)),(1,.int .i64 b)]) (fun m=>Ent.vec ea pn ec 100 3 (((el.take m).map (repJ t b)++el.drop m).flatMap edC)::Ent.box p6 [.string nm,.int .i64 pa,.int .i64 re,.slice (some ⟨vb,vo,none⟩) n c] 35::Ent.box p4 [.string ByteArray.empty,.int .i64 0,.int .i64 0,.slice none 0 0] 35::Ent.box p2 [.string nm,.int .i64 pa,.int .i64 re,.slice ba n bc] 35::Ent.vec (some ⟨vb,vo,none⟩) n c 50 6 (ys.flatMap blkC)::Ent.vec (some ⟨pb,po,none⟩) T.ps.length T.pc 86 2 (ps'.flatMap phiC)::lvE T::tvE T::(ps'.map phE++(T.xs.map roE++(ys.eraseIdx i).map blkE))) (fun m=>pn - m) 0 (Nat.zero_le _) (g_done (by repeat (first|exact trivial|refine ⟨rfl,?_⟩)) (.refl _)) fun m hm=>?_
   repeat (first|refine g_op rfl ?_|refine g_then ?_|refine g_nil ?_|refine g_region ?_|refine g_seq ?_)
   refine g_cond (fun h4=>?_) (fun h4=>?_)
   ·have hltm : m < pn:=by simpa using h4
    obtain ⟨e,he⟩ : ∃ e,el[m]? = some e:=⟨_,List.getElem?_eq_getElem (by omega)⟩
    have hlen1 : (el.take m).length = m:=by rw [List.length_take]; omega
    have hgete : ((el.take m).map (repJ t b)++el.drop m)[m]? = some e:=by
     rw [List.getElem?_append_right (by rw [List.length_map]; omega),List.length_map,hlen1,Nat.sub_self,List.getElem?_drop,Nat.add_zero]; exact he
    have hnx : ((el.take m).map (repJ t b)++el.drop m).set m (repJ t b e) = (el.take (m + 1)).map (repJ t b)++el.drop (m + 1):=by
     rw [set_mid (by rw [List.length_map]; exact hlen1) (by omega),List.take_add_one,he,List.map_append]
     rfl
    refine g_vec 0 rfl (by omega) fun eb eo hea=>?_
    subst hea
    have hlie : LtIs m pn:=⟨hltm⟩
    have hoe : ∀ (Y : List Ent),OwnCell (Ent.vec (some ⟨eb,eo,none⟩) pn ec 100 3 (((el.take m).map (repJ t b)++el.drop m).flatMap edC)::Y) eb (eo + m * 3) (.int .i64 e.1):=fun Y=>⟨fun _ _ _ hw=>hw.vecCell (k:=0) rfl (flat_at edC_len _ m e 0 _ hgete rfl)⟩
    repeat (first|refine g_op rfl ?_|refine g_then ?_|refine g_nil ?_|refine g_region ?_|refine g_seq ?_|refine g_block ?_|refine g_skip ?_)
    by_cases hb5 : e.1 = (t : Int)
    ·rw [show decide (e.1 = (t : Int)) = true by simp [hb5]]
     have hre : repJ t b e = ((b : Int),e.2):=by unfold repJ; rw [if_pos hb5]
     have hot : ∀ (Y : List Ent),OwnAt (Ent.vec (some ⟨eb,eo,none⟩) pn ec 100 3 (((el.take m).map (repJ t b)++el.drop m).flatMap edC)::Y) eb (eo + m * 3) 0 eo (m * 3 + 0) pn ec 100 3 (((el.take m).map (repJ t b)++el.drop m).flatMap edC):=fun _=>⟨rfl,by omega⟩
     have hxe : XSet (((el.take m).map (repJ t b)++el.drop m).flatMap edC) (m * 3 + 0) (.int .i64 b) (((el.take (m + 1)).map (repJ t b)++el.drop (m + 1)).flatMap edC):=⟨by
      rw [flat_set edC_len hgete (k:=0) (y:=repJ t b e) (by decide) (by rw [hre]; rfl),hnx],by rw [flat_len edC_len,List.length_append,List.length_map,List.length_drop]; omega⟩
     repeat (first|refine g_op rfl ?_|refine g_then ?_|refine g_nil ?_|refine g_region ?_|refine g_opS rfl ?_|refine g_inBlock ?_|refine g_condT ?_|refine g_add rfl (by omega) (by omega) ?_|refine g_storeV ?_)
     exact g_next (m + 1) hltm (by omega) (by repeat (first|exact trivial|refine ⟨rfl,?_⟩)) (.refl _)
    ·rw [show decide (e.1 = (t : Int)) = false by simp [hb5]]
     have hre : repJ t b e = e:=by unfold repJ; rw [if_neg hb5]
     have hsame : (el.take (m + 1)).map (repJ t b)++el.drop (m + 1) = (el.take m).map (repJ t b)++el.drop m:=by
      rw [← hnx,hre]
      exact set_self hgete
     rw [← hsame]
     repeat (first|refine g_op rfl ?_|refine g_then ?_|refine g_nil ?_|refine g_region ?_|refine g_opS rfl ?_|refine g_inBlock ?_|refine g_skip ?_|refine g_condF ?_|refine g_add rfl (by omega) (by omega) ?_)
     exact g_next (m + 1) hltm (by omega) (by repeat (first|exact trivial|refine ⟨rfl,?_⟩)) (.refl _)
   ·obtain rfl : pn = m:=by have:=h4; simp at this; omega
    have hall : (el.take pn).map (repJ t b)++el.drop pn = el.map (repJ t b):=by
     rw [List.take_of_length_le (by omega),List.drop_eq_nil_of_le (by omega),List.append_nil]
    rw [hall]
    obtain ⟨rw',hrw⟩ : ∃ rw',rw' = rowR (el.map (repJ t b)) n:=⟨_,rfl⟩
    have hrwl:=rowR_len (el.map (repJ t b)) n
    rw [← hrw] at hrwl
    have hrwsrc : rw' = (phJ bl b t i p.phi).src:=by
     rw [hrw,hel,hql]
     exact rowR_join hj hit p.phi (by rw [← hpn]; exact hpl)
    have hrwm : ∀ v ∈ rw',inI v.n:=fun v hv=>by
     rw [hrwsrc] at hv
     exact hpd.2.2 v (phJ_mem hf hj hit (by omega) hpB hv)
    obtain ⟨nq,hnq⟩ : ∃ nq : Option Addr × Nat→PRow,nq = fun y=>⟨p.dst,y.1,y.2,rw'⟩:=⟨_,rfl⟩
    have hotq : ∀ (X0 X1 X2 X3 X4 X5 : Ent) (Y : List Ent),OwnAt (X0::X1::X2::X3::X4::X5::Ent.vec (some ⟨pb,po,none⟩) T.ps.length T.pc 86 2 (ps'.flatMap phiC)::Y) pb (po + j * 2 + 1) 6 po (j * 2 + 1) T.ps.length T.pc 86 2 (ps'.flatMap phiC):=fun _ _ _ _ _ _ _=>⟨rfl,by omega⟩
    have hxq : ∀ na nc,XSet (ps'.flatMap phiC) (j * 2 + 1) (.slice na rw'.length nc) ((ps'.set j (nq (na,nc))).flatMap phiC):=fun na nc=>⟨flat_set phiC_len hget (by decide) (by rw [hnq]; rfl),by rw [flat_len phiC_len]; omega⟩
    have hocQ : ∀ (X1 X2 : Ent) (Y : List Ent),OwnCell (X1::X2::Ent.vec (some ⟨vb,vo,none⟩) n c 50 6 (ys.flatMap blkC)::Y) vb (vo + i * 6) (.slice (some ⟨pb,po,none⟩) T.ps.length T.pc):=fun _ _ _=>⟨fun _ _ _ hw=>by have:=hw.vecCell (k:=2) rfl (hcell 0 _ rfl); rw [hqa2] at this; exact this⟩
    repeat (first|refine g_then ?_|refine g_exit ?_|refine g_thenExit ?_|refine g_exitHere ?_)
    refine g_drawX [Ent.box p6 [.string nm,.int .i64 pa,.int .i64 re,.slice (some ⟨vb,vo,none⟩) n c] 35,Ent.box p2 [.string nm,.int .i64 pa,.int .i64 re,.slice ba n bc] 35,Ent.vec (some ⟨vb,vo,none⟩) n c 50 6 (ys.flatMap blkC)] (fun _ : Option Addr × Nat=>True) (fun _=>[(8,.int .i64 j),(7,.int .i64 i),(6,.pointer (some ⟨p6,0,none⟩)),(5,.int .i64 t),(4,.pointer (some ⟨p4,0,none⟩)),(2,.pointer (some ⟨p2,0,none⟩)),(1,.int .i64 b)]) (fun y=>Ent.vec y.1 rw'.length y.2 46 2 (rw'.flatMap vlC)::Ent.vec ea pn ec 100 3 ((el.map (repJ t b)).flatMap edC)::Ent.box p6 [.string nm,.int .i64 pa,.int .i64 re,.slice (some ⟨vb,vo,none⟩) n c] 35::Ent.box p4 [.string ByteArray.empty,.int .i64 0,.int .i64 0,.slice none 0 0] 35::Ent.box p2 [.string nm,.int .i64 pa,.int .i64 re,.slice ba n bc] 35::Ent.vec (some ⟨vb,vo,none⟩) n c 50 6 (ys.flatMap blkC)::Ent.vec (some ⟨pb,po,none⟩) T.ps.length T.pc 86 2 ((ps'.set j (nq y)).flatMap phiC)::lvE T::tvE T::(ps'.map phE++(T.xs.map roE++(ys.eraseIdx i).map blkE))) mixed (by first|exact .cons _ (.cons_cons _ (.cons _ (.cons_cons _ (.cons_cons _ (List.nil_sublist _)))))|exact .cons _ (.cons _ (.cons_cons _ (.cons _ (.cons_cons _ (.cons_cons _ (List.nil_sublist _))))))) ?_ fun y _=>?_
    ·skip
     refine h_take 0 rfl (by decide +kernel) (by first|exact .cons _ (.cons_cons _ (.cons _ (.cons_cons _ (.cons_cons _ (List.nil_sublist _)))))|exact .cons _ (.cons _ (.cons_cons _ (.cons _ (.cons_cons _ (.cons_cons _ (List.nil_sublist _))))))) ?_
     refine h_take 1 rfl (by decide +kernel) (by first|exact .cons _ (.cons_cons _ (.cons _ (.cons_cons _ (.cons_cons _ (List.nil_sublist _)))))|exact .cons _ (.cons _ (.cons_cons _ (.cons _ (.cons_cons _ (.cons_cons _ (List.nil_sublist _))))))) ?_
     refine h_take 2 rfl (by decide +kernel) (by first|exact .cons _ (.cons_cons _ (.cons _ (.cons_cons _ (.cons_cons _ (List.nil_sublist _)))))|exact .cons _ (.cons _ (.cons_cons _ (.cons _ (.cons_cons _ (.cons_cons _ (List.nil_sublist _))))))) ?_
     refine h_take 3 rfl (by decide +kernel) (by first|exact .cons _ (.cons_cons _ (.cons _ (.cons_cons _ (.cons_cons _ (List.nil_sublist _)))))|exact .cons _ (.cons _ (.cons_cons _ (.cons _ (.cons_cons _ (.cons_cons _ (List.nil_sublist _))))))) ?_
     refine h_take 4 rfl (by decide +kernel) (by first|exact .cons _ (.cons_cons _ (.cons _ (.cons_cons _ (.cons_cons _ (List.nil_sublist _)))))|exact .cons _ (.cons _ (.cons_cons _ (.cons _ (.cons_cons _ (.cons_cons _ (List.nil_sublist _))))))) ?_
     refine h_take 5 rfl (by decide +kernel) (by first|exact .cons _ (.cons_cons _ (.cons _ (.cons_cons _ (.cons_cons _ (List.nil_sublist _)))))|exact .cons _ (.cons _ (.cons_cons _ (.cons _ (.cons_cons _ (.cons_cons _ (List.nil_sublist _))))))) ?_
     refine h_take 6 rfl (by decide +kernel) (by first|exact .cons _ (.cons_cons _ (.cons _ (.cons_cons _ (.cons_cons _ (List.nil_sublist _)))))|exact .cons _ (.cons _ (.cons_cons _ (.cons _ (.cons_cons _ (.cons_cons _ (List.nil_sublist _))))))) ?_
     refine h_take 7 rfl (by decide +kernel) (by first|exact .cons _ (.cons_cons _ (.cons _ (.cons_cons _ (.cons_cons _ (List.nil_sublist _)))))|exact .cons _ (.cons _ (.cons_cons _ (.cons _ (.cons_cons _ (.cons_cons _ (List.nil_sublist _))))))) ?_
     refine h_take 8 rfl (by decide +kernel) (by first|exact .cons _ (.cons_cons _ (.cons _ (.cons_cons _ (.cons_cons _ (List.nil_sublist _)))))|exact .cons _ (.cons _ (.cons_cons _ (.cons _ (.cons_cons _ (.cons_cons _ (List.nil_sublist _))))))) ?_
     refine h_take 9 rfl (by decide +kernel) (by first|exact .cons _ (.cons_cons _ (.cons _ (.cons_cons _ (.cons_cons _ (List.nil_sublist _)))))|exact .cons _ (.cons _ (.cons_cons _ (.cons _ (.cons_cons _ (.cons_cons _ (List.nil_sublist _))))))) ?_
     refine h_take 10 rfl (by decide +kernel) (by first|exact .cons _ (.cons_cons _ (.cons _ (.cons_cons _ (.cons_cons _ (List.nil_sublist _)))))|exact .cons _ (.cons _ (.cons_cons _ (.cons _ (.cons_cons _ (.cons_cons _ (List.nil_sublist _))))))) ?_
     refine h_callE 11 (val:=fun x : Option Addr × Nat=>.slice x.1 rw'.length x.2) (E:=fun x=>[Ent.vec x.1 rw'.length x.2 46 2 (rw'.flatMap vlC)]) (φ:=fun _=>True) rfl (by decide +kernel) (by first|exact .cons _ (.cons_cons _ (.cons _ (.cons_cons _ (.cons_cons _ (List.nil_sublist _)))))|exact .cons _ (.cons _ (.cons_cons _ (.cons _ (.cons_cons _ (.cons_cons _ (List.nil_sublist _))))))) (fun w hw=>?_) fun x _=>?_
     ·rw [hrw]
      exact refRow_c ea pn ec _ n (by omega) w (by
       have h7:=flat_sl (k:=0) (l:=el.map (repJ t b)) (a:=ea) (c:=ec) (e:=100) hw (by rw [List.length_map,hzlen]; rfl) edC_len (by rw [List.length_map]; omega)
       rw [List.length_map,hzlen] at h7
       exact h7)
     simp only [List.cons_append,List.nil_append]
     refine h_take 12 rfl (by decide +kernel) (by first|exact .cons _ (.cons_cons _ (.cons _ (.cons_cons _ (.cons_cons _ (List.nil_sublist _)))))|exact .cons _ (.cons _ (.cons_cons _ (.cons _ (.cons_cons _ (.cons_cons _ (List.nil_sublist _))))))) ?_
     refine h_take 13 rfl (by decide +kernel) (by first|exact .cons _ (.cons_cons _ (.cons _ (.cons_cons _ (.cons_cons _ (List.nil_sublist _)))))|exact .cons _ (.cons _ (.cons_cons _ (.cons _ (.cons_cons _ (.cons_cons _ (List.nil_sublist _))))))) ?_
     refine h_one 14 (by decide +kernel) ?_
     refine o_storeV 14 (by first|exact .cons _ (.cons_cons _ (.cons _ (.cons_cons _ (.cons_cons _ (List.nil_sublist _)))))|exact .cons _ (.cons _ (.cons_cons _ (.cons _ (.cons_cons _ (.cons_cons _ (List.nil_sublist _))))))) ?_
     refine h_end (by decide +kernel) ?_
     exact g_mem x trivial (by repeat (first|exact trivial|refine ⟨rfl,?_⟩)) (.refl _)
    obtain ⟨na,nc⟩:=y
    have hes' : ps'.set j (nq (na,nc)) = (es++[nq (na,nc)])++T.ps.drop (j + 1):=by rw [hps']; exact set_mid hjL hltp
    have hl1 : (es++[nq (na,nc)]).length = j + 1:=by rw [List.length_append,hjL]; rfl
    have hnqE : phE (nq (na,nc)) = Ent.vec na rw'.length nc 46 2 (rw'.flatMap vlC):=by rw [hnq]; rfl
    refine g_wd (H':=Ent.box p6 [.string nm,.int .i64 pa,.int .i64 re,.slice (some ⟨vb,vo,none⟩) n c] 35::Ent.box p4 [.string ByteArray.empty,.int .i64 0,.int .i64 0,.slice none 0 0] 35::Ent.box p2 [.string nm,.int .i64 pa,.int .i64 re,.slice ba n bc] 35::Ent.vec (some ⟨vb,vo,none⟩) n c 50 6 (ys.flatMap blkC)::Ent.vec (some ⟨pb,po,none⟩) T.ps.length T.pc 86 2 (((es++[nq (na,nc)])++T.ps.drop (es++[nq (na,nc)]).length).flatMap phiC)::lvE T::tvE T::(((es++[nq (na,nc)])++T.ps.drop (es++[nq (na,nc)]).length).map phE++(T.xs.map roE++(ys.eraseIdx i).map blkE))) (fun w hw=>?_) ?_
    ·rw [hl1,← hes']
     refine hw.pick ⟨[phE p,Ent.vec ea pn ec 100 3 ((el.map (repJ t b)).flatMap edC)],?_⟩
     have h2:=map_pull phE hget
     have h3:=map_pull phE (l:=ps'.set j (nq (na,nc))) (k:=j) (x:=nq (na,nc)) (List.getElem?_set_self (by omega))
     rw [List.eraseIdx_set_eq,hnqE] at h3
     refine List.perm_iff_count.2 fun e=>?_
     have h4:=List.perm_iff_count.1 h2 e
     have h5:=List.perm_iff_count.1 h3 e
     simp only [List.count_append,List.count_cons,List.count_nil] at h4 h5 ⊢
     omega
    repeat (first|refine g_op rfl ?_|refine g_then ?_|refine g_nil ?_|refine g_region ?_|refine g_opS rfl ?_|refine g_inBlock ?_|refine g_add rfl (by omega) (by omega) ?_)
    refine g_fix (L':=[(8,.int .i64 ((es++[nq (na,nc)]).length : Nat)),(7,.int .i64 i),(6,.pointer (some ⟨p6,0,none⟩)),(5,.int .i64 t),(4,.pointer (some ⟨p4,0,none⟩)),(2,.pointer (some ⟨p2,0,none⟩)),(1,.int .i64 b)]) ?_ (.refl _) ?_
    ·rw [hl1]
     exact (by repeat (first|exact trivial|refine ⟨rfl,?_⟩))
    rw [← hqa2]
    refine g_next (es++[nq (na,nc)]) ⟨by rw [hl1]; omega,?_,fun q hq=>?_⟩ (by rw [hl1]; omega) (by repeat (first|exact trivial|refine ⟨rfl,?_⟩)) (.refl _)
    ·rw [hl1,List.take_add_one,hp,List.map_append,List.map_append,hem]
     congr 1
     rw [hnq]
     simp only [List.map_cons,List.map_nil,Option.toList_some,PRow.phi,hrwsrc]
     rfl
    ·rcases List.mem_append.1 hq with hq|hq
     ·exact heb q hq
     ·rw [List.mem_singleton.1 hq,hnq]
      exact ⟨hpd.1,by simp only; omega,hrwm⟩
  ·have hge : es.length = T.ps.length:=by have:=h3; simp at this; omega
   rw [hge,List.drop_length,List.append_nil]
   rw [hge,List.take_length] at hem
   obtain ⟨y1,hy1⟩ : ∃ y1,y1 = ys.set i (withPs T es):=⟨_,rfl⟩
   refine g_wd (H':=Ent.box p6 [.string nm,.int .i64 pa,.int .i64 re,.slice (some ⟨vb,vo,none⟩) n c] 35::Ent.box p4 [.string ByteArray.empty,.int .i64 0,.int .i64 0,.slice none 0 0] 35::Ent.box p2 [.string nm,.int .i64 pa,.int .i64 re,.slice ba n bc] 35::Ent.vec (some ⟨vb,vo,none⟩) n c 50 6 (y1.flatMap blkC)::y1.map blkE) (fun w hw=>?_) ?_
   ·have h9:=wd_shut (X:=[Ent.box p6 [.string nm,.int .i64 pa,.int .i64 re,.slice (some ⟨vb,vo,none⟩) n c] 35,Ent.box p4 [.string ByteArray.empty,.int .i64 0,.int .i64 0,.slice none 0 0] 35,Ent.box p2 [.string nm,.int .i64 pa,.int .i64 re,.slice ba n bc] 35]) (a:=some ⟨vb,vo,none⟩) (n:=n) (c:=c) hT hyl.symm hge hw
    unfold fnE at h9
    rw [List.length_set,hyl,← hy1] at h9
    exact h9
   repeat (first|refine g_op rfl ?_|refine g_then ?_|refine g_nil ?_|refine g_region ?_|refine g_opS rfl ?_|refine g_inBlock ?_|refine g_add rfl (by omega) (by omega) ?_|refine g_exit ?_|refine g_thenExit ?_|refine g_exitHere ?_)
   refine g_next (i + 1,y1) ⟨hin,by simp only; rw [hy1,List.length_set]; exact hyl,?_,fun r hr=>?_⟩ (by simp only; omega) (by repeat (first|exact trivial|refine ⟨rfl,?_⟩)) (.refl _)
   ·simp only
    rw [hy1,List.map_set,hym,← turnTo_succ hQB]
    congr 1
    rw [← hTB]
    unfold withPs BRow.blk turnJ
    simp only [hem,List.map_map]
    rfl
   ·simp only at hr
    rw [hy1] at hr
    rcases List.mem_or_eq_of_mem_set hr with hr|rfl
    ·exact hyd r hr
    ·have:=hTd.phis
     exact ⟨hTd.kind,hTd.on,by unfold withPs; simp only; omega,heb,hTd.list,hTd.ins,hTd.to⟩
 ·have hin : i = n:=by have:=of_decide_eq_false h1; omega
  obtain rfl : n = i:=hin.symm
  obtain ⟨B,hB⟩ : ∃ B,ys[b]? = some B:=⟨_,List.getElem?_eq_getElem (by omega)⟩
  obtain ⟨T,hT⟩ : ∃ T,ys[t]? = some T:=⟨_,List.getElem?_eq_getElem (by omega)⟩
  have hrowAt : ∀ (x : Nat) (r : BRow),ys[x]? = some r→r.blk = turnJ bl b t x (blkAt bl x):=fun x r hr=>by
   have hxl : x < bl.length:=by rw [← hql,← hyl]; exact (List.getElem?_eq_some_iff.1 hr).1
   have h2 : (turnTo bl b t n)[x]? = some r.blk:=by rw [← hym,List.getElem?_map,hr]; rfl
   rw [turnTo_get (get_blkAt hxl),if_pos (by omega)] at h2
   exact (Option.some.inj h2).symm
  have hBb:=hrowAt b B hB
  have hTb:=hrowAt t T hT
  have hBd:=hyd B (List.mem_of_getElem? hB)
  have hTd:=hyd T (List.mem_of_getElem? hT)
  have hBl : B.xs.map (·.x) = (blkAt bl b).list:=congrArg LBlock.list hBb
  have hTl : T.xs.map (·.x) = (blkAt bl t).list:=congrArg LBlock.list hTb
  have hBT : B.xs.length + T.xs.length ≤ 1000:=by
   rcases hmany b t with h2|h2
   ·rw [← hBl,← hTl,List.length_map,List.length_map] at h2
    exact h2
   ·exact absurd h2.symm hj.ne
  have hne : b ≠ t:=fun e=>hj.ne e.symm
  obtain ⟨RS,hRp,hRm⟩:=pull2 blkE hB hT hne
  have hltn : LtIs t n:=⟨by omega⟩
  refine g_wd (H':=Ent.box p6 [.string nm,.int .i64 pa,.int .i64 re,.slice (some ⟨vb,vo,none⟩) n c] 35::Ent.box p4 [.string ByteArray.empty,.int .i64 0,.int .i64 0,.slice none 0 0] 35::Ent.box p2 [.string nm,.int .i64 pa,.int .i64 re,.slice ba n bc] 35::Ent.vec (some ⟨vb,vo,none⟩) n c 50 6 (ys.flatMap blkC)::lvE B::lvE T::(pvE B::tvE B::pvE T::tvE T::((B.ps.map phE++B.xs.map roE)++((T.ps.map phE++T.xs.map roE)++RS)))) (fun w hw=>?_) ?_
  ·have h2 : Wd NoS w0 (blkE B::(blkE T::(Ent.box p6 [.string nm,.int .i64 pa,.int .i64 re,.slice (some ⟨vb,vo,none⟩) n c] 35::Ent.box p4 [.string ByteArray.empty,.int .i64 0,.int .i64 0,.slice none 0 0] 35::Ent.box p2 [.string nm,.int .i64 pa,.int .i64 re,.slice ba n bc] 35::Ent.vec (some ⟨vb,vo,none⟩) n c 50 6 (ys.flatMap blkC)::RS))) w:=by
    refine hw.perm (List.perm_iff_count.2 fun e=>?_)
    have h4:=List.perm_iff_count.1 hRp e
    simp only [List.count_cons] at h4 ⊢
    omega
   have h3:=h2.unjoin
   have h4 : Wd NoS w0 (blkE T::(blkPs B++(Ent.box p6 [.string nm,.int .i64 pa,.int .i64 re,.slice (some ⟨vb,vo,none⟩) n c] 35::Ent.box p4 [.string ByteArray.empty,.int .i64 0,.int .i64 0,.slice none 0 0] 35::Ent.box p2 [.string nm,.int .i64 pa,.int .i64 re,.slice ba n bc] 35::Ent.vec (some ⟨vb,vo,none⟩) n c 50 6 (ys.flatMap blkC)::RS))) w:=by
    refine h3.perm (List.perm_iff_count.2 fun e=>?_)
    simp only [List.count_cons,List.count_append]
    omega
   refine h4.unjoin.perm (List.perm_iff_count.2 fun e=>?_)
   unfold blkPs pvE tvE lvE
   simp only [List.count_cons,List.count_append]
   omega
  have hcB : ∀ (q : Nat) v,(blkC B)[q]? = some v→(ys.flatMap blkC)[b * 6 + q]? = some v:=fun q v hv=>flat_at blkC_len ys b B q v hB hv
  have hcT : ∀ (q : Nat) v,(blkC T)[q]? = some v→(ys.flatMap blkC)[t * 6 + q]? = some v:=fun q v hv=>flat_at blkC_len ys t T q v hT hv
  have hocB : ∀ (X1 X2 X3 : Ent) (Y : List Ent),OwnCell (X1::X2::X3::Ent.vec (some ⟨vb,vo,none⟩) n c 50 6 (ys.flatMap blkC)::Y) vb (vo + b * 6 + 1) (.slice B.la B.xs.length B.lc):=fun _ _ _ _=>⟨fun _ _ _ hw=>by have:=hw.vecCell (k:=3) rfl (hcB 1 _ rfl); rwa [← Nat.add_assoc] at this⟩
  have hocT : ∀ (X1 X2 X3 : Ent) (Y : List Ent),OwnCell (X1::X2::X3::Ent.vec (some ⟨vb,vo,none⟩) n c 50 6 (ys.flatMap blkC)::Y) vb (vo + t * 6 + 1) (.slice T.la T.xs.length T.lc):=fun _ _ _ _=>⟨fun _ _ _ hw=>by have:=hw.vecCell (k:=3) rfl (hcT 1 _ rfl); rwa [← Nat.add_assoc] at this⟩
  obtain ⟨B1,hB1⟩ : ∃ B1 : Option Addr × Nat→BRow,B1 = fun x=>{ B with la:=x.1,lc:=x.2,xs:=B.xs++T.xs }:=⟨_,rfl⟩
  have hB1c : ∀ x,blkC (B1 x) = (blkC B).set 1 (.slice x.1 (B.xs.length + T.xs.length) x.2):=fun x=>by
   rw [hB1]
   unfold blkC
   simp only [List.length_append]
   rfl
  have hot1 : ∀ (X1 X2 X3 : Ent) (Y : List Ent),OwnAt (X1::X2::X3::Ent.vec (some ⟨vb,vo,none⟩) n c 50 6 (ys.flatMap blkC)::Y) vb (vo + b * 6 + 1) 3 vo (b * 6 + 1) n c 50 6 (ys.flatMap blkC):=fun _ _ _ _=>⟨rfl,by omega⟩
  have hxs1 : ∀ na nc,XSet (ys.flatMap blkC) (b * 6 + 1) (.slice na (B.xs.length + T.xs.length) nc) ((ys.set b (B1 (na,nc))).flatMap blkC):=fun na nc=>⟨flat_set blkC_len hB (by decide) (hB1c (na,nc)).symm,by rw [flat_len blkC_len]; omega⟩
  repeat (first|refine g_then ?_|refine g_seq ?_|refine g_exit ?_|refine g_thenExit ?_|refine g_exitHere ?_)
  refine g_drawX [Ent.box p6 [.string nm,.int .i64 pa,.int .i64 re,.slice (some ⟨vb,vo,none⟩) n c] 35] (fun _ : Option Addr × Nat=>True) (fun _=>[(6,.pointer (some ⟨p6,0,none⟩)),(5,.int .i64 t),(4,.pointer (some ⟨p4,0,none⟩)),(2,.pointer (some ⟨p2,0,none⟩)),(1,.int .i64 b)]) (fun y=>Ent.box p6 [.string nm,.int .i64 pa,.int .i64 re,.slice (some ⟨vb,vo,none⟩) n c] 35::Ent.box p4 [.string ByteArray.empty,.int .i64 0,.int .i64 0,.slice none 0 0] 35::Ent.box p2 [.string nm,.int .i64 pa,.int .i64 re,.slice ba n bc] 35::Ent.vec (some ⟨vb,vo,none⟩) n c 50 6 ((ys.set b (B1 y)).flatMap blkC)::(fun y : Option Addr × Nat=>Ent.vec y.1 (B.xs.length + T.xs.length) y.2 88 8 ((B.xs++T.xs).flatMap rowC)) y::lvE T::(pvE B::tvE B::pvE T::tvE T::((B.ps.map phE++B.xs.map roE)++((T.ps.map phE++T.xs.map roE)++RS)))) mixed (.cons_cons _ (List.nil_sublist _)) ?_ fun y _=>?_
  ·skip
   refine h_take 0 rfl (by decide +kernel) (.cons_cons _ (List.nil_sublist _)) ?_
   refine h_take 1 rfl (by decide +kernel) (.cons_cons _ (List.nil_sublist _)) ?_
   refine h_take 2 rfl (by decide +kernel) (.cons_cons _ (List.nil_sublist _)) ?_
   refine h_take 3 rfl (by decide +kernel) (.cons_cons _ (List.nil_sublist _)) ?_
   refine h_take 4 rfl (by decide +kernel) (.cons_cons _ (List.nil_sublist _)) ?_
   refine h_take 5 rfl (by decide +kernel) (.cons_cons _ (List.nil_sublist _)) ?_
   refine h_take 6 rfl (by decide +kernel) (.cons_cons _ (List.nil_sublist _)) ?_
   refine h_take 7 rfl (by decide +kernel) (.cons_cons _ (List.nil_sublist _)) ?_
   refine h_take 9 rfl (by decide +kernel) (.cons_cons _ (List.nil_sublist _)) ?_
   refine h_take 10 rfl (by decide +kernel) (.cons_cons _ (List.nil_sublist _)) ?_
   refine h_take 11 rfl (by decide +kernel) (.cons_cons _ (List.nil_sublist _)) ?_
   refine h_take 12 rfl (by decide +kernel) (.cons_cons _ (List.nil_sublist _)) ?_
   refine h_take 13 rfl (by decide +kernel) (.cons_cons _ (List.nil_sublist _)) ?_
   refine h_two 8 14 (by decide +kernel) ?_ ?_
   ·skip
    refine o_op 8 rfl (.cons_cons _ (List.nil_sublist _)) ?_
    refine h_one 14 (by decide +kernel) ?_
    refine o_op 14 rfl (.cons_cons _ (List.nil_sublist _)) ?_
    refine h_appendF 15 4 rfl rfl rfl T.xs (V:=RowC) rowC (fun _ _ _ h=>h) rowC_len (fun x u hu=>?_) (fun w hw=>flat_sl hw (k:=5) rfl rowC_len (by omega)) (by omega) (by omega) (by decide +kernel) (fun _=>(.cons_cons _ (List.nil_sublist _))) fun na nc=>?_
    ·unfold rowC at hu
     simp only [List.mem_cons,List.not_mem_nil,or_false] at hu
     rcases hu with rfl|rfl|rfl|rfl|rfl|rfl|rfl|rfl <;> rfl
    rw [← List.flatMap_append]
    simp only [List.set_cons_succ,List.set_cons_zero]
    refine h_take 16 rfl (by decide +kernel) (.cons_cons _ (List.nil_sublist _)) ?_
    refine h_take 17 rfl (by decide +kernel) (.cons_cons _ (List.nil_sublist _)) ?_
    have hxs1':=hxs1 na nc
    refine h_storeV 18 (by decide +kernel) (by decide +kernel) (.cons_cons _ (List.nil_sublist _)) ?_
    exact g_mem (na,nc) trivial (by repeat (first|exact trivial|refine ⟨rfl,?_⟩)) (.refl _)
   ·skip
    refine o_op 14 rfl (.cons_cons _ (List.nil_sublist _)) ?_
    refine h_one 8 (by decide +kernel) ?_
    refine o_op 8 rfl (.cons_cons _ (List.nil_sublist _)) ?_
    refine h_appendF 15 4 rfl rfl rfl T.xs (V:=RowC) rowC (fun _ _ _ h=>h) rowC_len (fun x u hu=>?_) (fun w hw=>flat_sl hw (k:=5) rfl rowC_len (by omega)) (by omega) (by omega) (by decide +kernel) (fun _=>(.cons_cons _ (List.nil_sublist _))) fun na nc=>?_
    ·unfold rowC at hu
     simp only [List.mem_cons,List.not_mem_nil,or_false] at hu
     rcases hu with rfl|rfl|rfl|rfl|rfl|rfl|rfl|rfl <;> rfl
    rw [← List.flatMap_append]
    simp only [List.set_cons_succ,List.set_cons_zero]
    refine h_take 16 rfl (by decide +kernel) (.cons_cons _ (List.nil_sublist _)) ?_
    refine h_take 17 rfl (by decide +kernel) (.cons_cons _ (List.nil_sublist _)) ?_
    have hxs1':=hxs1 na nc
    refine h_storeV 18 (by decide +kernel) (by decide +kernel) (.cons_cons _ (List.nil_sublist _)) ?_
    exact g_mem (na,nc) trivial (by repeat (first|exact trivial|refine ⟨rfl,?_⟩)) (.refl _)
  obtain ⟨na,nc⟩:=y
  simp only
  obtain ⟨B1',hB1'⟩ : ∃ B1',B1' = B1 (na,nc):=⟨_,rfl⟩
  rw [← hB1']
  have hB1e : B1' = { B with la:=na,lc:=nc,xs:=B.xs++T.xs }:=by rw [hB1',hB1]
  obtain ⟨zs,hzs⟩ : ∃ zs,zs = ys.set b B1':=⟨_,rfl⟩
  rw [← hzs]
  have hzl : zs.length = n:=by rw [hzs,List.length_set]; exact hyl
  have hzB : zs[b]? = some B1':=by rw [hzs]; exact List.getElem?_set_self (by omega)
  have hzT : zs[t]? = some T:=by rw [hzs,List.getElem?_set_ne hne]; exact hT
  have hoe : ∀ (X1 X2 X3 : Ent) (Y : List Ent),OwnAgg (X1::X2::X3::Ent.vec (some ⟨vb,vo,none⟩) n c 50 6 (zs.flatMap blkC)::Y) vb (vo + t * 6 + 2) [.int .i64 T.kind,.bool T.on.reg,.int .i64 T.on.n,.slice T.ta T.to.length T.tc]:=fun _ _ _ _=>flat_partN blkC_len (k:=3) rfl hzT 2 fun j v hv=>by
   match j,hv with
   | 0,hv=>exact hv
   | 1,hv=>exact hv
   | 2,hv=>exact hv
   | 3,hv=>exact hv
   | j + 4,hv=>simp at hv
  obtain ⟨B2,hB2⟩ : ∃ B2 : BRow,B2 = { B1' with kind:=T.kind,on:=T.on,ta:=T.ta,tc:=T.tc,to:=T.to }:=⟨_,rfl⟩
  obtain ⟨z2,hz2⟩ : ∃ z2,z2 = zs.set b B2:=⟨_,rfl⟩
  have hcont2 : (zs.flatMap blkC).take (b * 6 + 2)++[.int .i64 T.kind,.bool T.on.reg,.int .i64 T.on.n,.slice T.ta T.to.length T.tc]++(zs.flatMap blkC).drop (b * 6 + 2 + 4) = z2.flatMap blkC:=by
   rw [hz2]
   exact flat_tail blkC_len hzB (k:=2) (vs:=[.int .i64 T.kind,.bool T.on.reg,.int .i64 T.on.n,.slice T.ta T.to.length T.tc]) rfl (by rw [hB2,hB1e]; rfl)
  repeat (first|refine g_then ?_|refine g_seq ?_)
  refine g_drawX [Ent.box p6 [.string nm,.int .i64 pa,.int .i64 re,.slice (some ⟨vb,vo,none⟩) n c] 35] (fun _ : Unit=>True) (fun _=>[(6,.pointer (some ⟨p6,0,none⟩)),(5,.int .i64 t),(4,.pointer (some ⟨p4,0,none⟩)),(2,.pointer (some ⟨p2,0,none⟩)),(1,.int .i64 b)]) (fun _=>Ent.box p6 [.string nm,.int .i64 pa,.int .i64 re,.slice (some ⟨vb,vo,none⟩) n c] 35::Ent.box p4 [.string ByteArray.empty,.int .i64 0,.int .i64 0,.slice none 0 0] 35::Ent.box p2 [.string nm,.int .i64 pa,.int .i64 re,.slice ba n bc] 35::Ent.vec (some ⟨vb,vo,none⟩) n c 50 6 (z2.flatMap blkC)::Ent.vec na (B.xs.length + T.xs.length) nc 88 8 ((B.xs++T.xs).flatMap rowC)::lvE T::(pvE B::tvE B::pvE T::tvE T::((B.ps.map phE++B.xs.map roE)++((T.ps.map phE++T.xs.map roE)++RS)))) mixed (.cons_cons _ (List.nil_sublist _)) ?_ fun _ _=>?_
  ·skip
   refine h_take 0 rfl (by decide +kernel) (.cons_cons _ (List.nil_sublist _)) ?_
   refine h_take 1 rfl (by decide +kernel) (.cons_cons _ (List.nil_sublist _)) ?_
   refine h_take 2 rfl (by decide +kernel) (.cons_cons _ (List.nil_sublist _)) ?_
   refine h_take 3 rfl (by decide +kernel) (.cons_cons _ (List.nil_sublist _)) ?_
   refine h_take 4 rfl (by decide +kernel) (.cons_cons _ (List.nil_sublist _)) ?_
   refine h_take 5 rfl (by decide +kernel) (.cons_cons _ (List.nil_sublist _)) ?_
   refine h_take 6 rfl (by decide +kernel) (.cons_cons _ (List.nil_sublist _)) ?_
   refine h_take 7 rfl (by decide +kernel) (.cons_cons _ (List.nil_sublist _)) ?_
   refine h_one 8 (by decide +kernel) (o_op 8 rfl (.cons_cons _ (List.nil_sublist _)) ?_)
   refine h_take 9 rfl (by decide +kernel) (.cons_cons _ (List.nil_sublist _)) ?_
   refine h_take 10 rfl (by decide +kernel) (.cons_cons _ (List.nil_sublist _)) ?_
   refine h_one 11 (by decide +kernel) ?_
   refine o_storeVA 11 3 (j:=b * 6 + 2) rfl (by omega) (by rw [flat_len blkC_len]; omega) (.cons_cons _ (List.nil_sublist _)) ?_
   rw [hcont2]
   simp only [List.set_cons_succ,List.set_cons_zero]
   refine h_end (by decide +kernel) ?_
   exact g_mem () trivial (by repeat (first|exact trivial|refine ⟨rfl,?_⟩)) (.refl _)
  refine g_nilVec 3 1 ?_
  repeat (first|refine g_op rfl ?_|refine g_then ?_|refine g_nil ?_|refine g_region ?_|refine g_seq ?_|refine g_block ?_)
  refine g_loop (fun (x : Nat × Option Addr × Nat)=>x.1 ≤ n) (fun x=>[(12,.int .i64 x.1),(11,.slice x.2.1 (butL x.1 t).length x.2.2),(6,.pointer (some ⟨p6,0,none⟩)),(5,.int .i64 t),(4,.pointer (some ⟨p4,0,none⟩)),(2,.pointer (some ⟨p2,0,none⟩)),(1,.int .i64 b)]) (fun x=>Ent.vec x.2.1 (butL x.1 t).length x.2.2 3 1 (((butL x.1 t).map fun x : Nat=>(x : Int)).map (.int .i64))::Ent.box p6 [.string nm,.int .i64 pa,.int .i64 re,.slice (some ⟨vb,vo,none⟩) n c] 35::Ent.box p4 [.string ByteArray.empty,.int .i64 0,.int .i64 0,.slice none 0 0] 35::Ent.box p2 [.string nm,.int .i64 pa,.int .i64 re,.slice ba n bc] 35::Ent.vec (some ⟨vb,vo,none⟩) n c 50 6 (z2.flatMap blkC)::Ent.vec na (B.xs.length + T.xs.length) nc 88 8 ((B.xs++T.xs).flatMap rowC)::lvE T::(pvE B::tvE B::pvE T::tvE T::((B.ps.map phE++B.xs.map roE)++((T.ps.map phE++T.xs.map roE)++RS)))) (fun x=>n - x.1) (0,none,0) (Nat.zero_le _) (g_done (by repeat (first|exact trivial|refine ⟨rfl,?_⟩)) (.refl _)) fun x hd=>?_
  obtain ⟨d,la,lc⟩:=x
  simp only at hd ⊢
  repeat (first|refine g_op rfl ?_|refine g_then ?_|refine g_nil ?_|refine g_region ?_|refine g_seq ?_)
  refine g_cond (fun h3=>?_) (fun h3=>?_)
  ·have hdi : d < n:=by simpa using h3
   have hbs:=butL_succ d t
   have hbl:=butL_len d t
   repeat (first|refine g_op rfl ?_|refine g_then ?_|refine g_nil ?_|refine g_region ?_|refine g_seq ?_|refine g_block ?_|refine g_skip ?_)
   by_cases hdt : d = t
   ·rw [if_neg (fun h=>h hdt),List.append_nil] at hbs
    rw [show (!decide ((d : Int) = (t : Int))) = false by simp [hdt]]
    rw [← hbs]
    repeat (first|refine g_op rfl ?_|refine g_then ?_|refine g_nil ?_|refine g_region ?_|refine g_opS rfl ?_|refine g_inBlock ?_|refine g_skip ?_|refine g_condF ?_|refine g_add rfl (by omega) (by omega) ?_)
    exact g_next (d + 1,la,lc) hdi (by simp only; omega) (by repeat (first|exact trivial|refine ⟨rfl,?_⟩)) (.refl _)
   ·rw [if_pos hdt] at hbs
    rw [show (!decide ((d : Int) = (t : Int))) = true by simp; omega]
    repeat (first|refine g_op rfl ?_|refine g_region ?_|refine g_condT ?_|refine g_build1 rfl rfl fun _ _=>?_)
    refine g_append rfl rfl (by omega) (by omega) fun na2 nc2=>?_
    rw [show (butL d t).length + 1 = (butL (d + 1) t).length by rw [hbs]; simp,show ((butL d t).map fun x : Nat=>(x : Int)).map (Value.int .i64)++[Value.int .i64 (d : Int)] = ((butL (d + 1) t).map fun x : Nat=>(x : Int)).map (Value.int .i64) by rw [hbs]; simp]
    repeat (first|refine g_op rfl ?_|refine g_then ?_|refine g_nil ?_|refine g_region ?_|refine g_opS rfl ?_|refine g_inBlock ?_|refine g_add rfl (by omega) (by omega) ?_)
    exact g_next (d + 1,na2,nc2) hdi (by simp only; omega) (by repeat (first|exact trivial|refine ⟨rfl,?_⟩)) (.cons _ (.refl _))
  obtain rfl : n = d:=by have:=of_decide_eq_false h3; omega
  have hz2l : z2.length = n:=by rw [hz2,List.length_set]; exact hzl
  have hz2T : z2[t]? = some T:=by rw [hz2,List.getElem?_set_ne hne]; exact hzT
  obtain ⟨T3,hT3⟩ : ∃ T3 : BRow,T3 = { T with kind:=1,on:=noV,ta:=none,tc:=0,to:=[] }:=⟨_,rfl⟩
  obtain ⟨z3,hz3⟩ : ∃ z3,z3 = z2.set t T3:=⟨_,rfl⟩
  have hz3l : z3.length = n:=by rw [hz3,List.length_set]; exact hz2l
  have hcont3 : (z2.flatMap blkC).take (t * 6 + 2)++[.int .i64 1,.bool false,.int .i64 0,.slice none 0 0]++(z2.flatMap blkC).drop (t * 6 + 2 + 4) = z3.flatMap blkC:=by
   rw [hz3]
   exact flat_tail blkC_len hz2T (k:=2) (vs:=[.int .i64 1,.bool false,.int .i64 0,.slice none 0 0]) rfl (by rw [hT3]; rfl)
  have hbl:=butL_len n t
  repeat (first|refine g_op rfl ?_|refine g_then ?_|refine g_region ?_|refine g_seq ?_|refine g_exit ?_|refine g_thenExit ?_|refine g_exitHere ?_)
  refine g_storeVA 4 (j:=t * 6 + 2) rfl (by omega) (by rw [flat_len blkC_len]; omega) ?_
  rw [hcont3]
  simp only [List.set_cons_succ,List.set_cons_zero]
  have h3B : z3[b]? = some B2:=by
   rw [hz3,List.getElem?_set_ne (fun e=>hne e.symm),hz2]
   exact List.getElem?_set_self (by omega)
  have h3T : z3[t]? = some T3:=by rw [hz3]; exact List.getElem?_set_self (by omega)
  have h3R : ∀ x,x ≠ b→x ≠ t→z3[x]? = ys[x]?:=fun x h1 h2=>by rw [hz3,List.getElem?_set_ne (fun e=>h2 e.symm),hz2,List.getElem?_set_ne (fun e=>h1 e.symm),hzs,List.getElem?_set_ne (fun e=>h1 e.symm)]
  have hB2d : B2.Bd:=by
   rw [hB2,hB1e]
   refine ⟨hTd.kind,hTd.on,hBd.phis,hBd.phi,?_,fun x hx=>?_,hTd.to⟩
   ·simp only [List.length_append]; omega
   ·rcases List.mem_append.1 hx with hx|hx
    ·exact hBd.ins x hx
    ·exact hTd.ins x hx
  have hT3d : T3.Bd:=by
   rw [hT3]
   exact ⟨show inI (1 : Int) from ⟨by omega,by omega⟩,show inI (0 : Int) from ⟨by omega,by omega⟩,hTd.phis,hTd.phi,hTd.list,hTd.ins,by simp⟩
  have h3d : ∀ r ∈ z3,r.Bd:=fun r hr=>by
   obtain ⟨x,hx⟩:=List.getElem?_of_mem hr
   by_cases e1 : x = b
   ·rw [e1,h3B] at hx
    rw [← Option.some.inj hx]
    exact hB2d
   by_cases e2 : x = t
   ·rw [e2,h3T] at hx
    rw [← Option.some.inj hx]
    exact hT3d
   rw [h3R x e1 e2] at hx
   exact hyd r (List.mem_of_getElem? hx)
  have h3at : ∀ (x : Nat) (r : BRow),z3[x]? = some r→blkAt (z3.map BRow.blk) x = r.blk:=fun x r hr=>blkAt_get (by rw [List.getElem?_map,hr]; rfl)
  have hJL : JnLike bl b t (z3.map BRow.blk):=by
   refine jnLike_of hj (by rw [List.length_map,hz3l,hql]) (fun x hx e1 e2=>?_) ?_ ?_
   ·obtain ⟨r,hr⟩ : ∃ r,ys[x]? = some r:=⟨_,List.getElem?_eq_getElem (by omega)⟩
    rw [h3at x r (by rw [h3R x e2 e1]; exact hr),hrowAt x r hr]
   ·rw [h3at b B2 h3B,hB2,hB1e]
    have h1 : B.ps.map PRow.phi = (blkAt bl b).phis.map (phJ bl b t b):=congrArg LBlock.phis hBb
    have h2 : T.kind = (blkAt bl t).kind:=congrArg LBlock.kind hTb
    have h3 : T.on = (blkAt bl t).on:=congrArg LBlock.on hTb
    have h4 : T.to = (blkAt bl t).to:=congrArg LBlock.to hTb
    unfold BRow.blk
    simp only [h1,h2,h3,h4,List.map_append,hBl,hTl]
   ·rw [h3at t T3 h3T,hT3]
    have h1 : T.ps.map PRow.phi = (blkAt bl t).phis.map (phJ bl b t t):=congrArg LBlock.phis hTb
    unfold BRow.blk
    simp only [h1,hTl]
  have hslz : ∀ w,Wd NoS w0 (Ent.vec la (butL n t).length lc 3 1 (((butL n t).map fun x : Nat=>(x : Int)).map (.int .i64))::Ent.box p6 [.string nm,.int .i64 pa,.int .i64 re,.slice (some ⟨vb,vo,none⟩) n c] 35::Ent.box p4 [.string ByteArray.empty,.int .i64 0,.int .i64 0,.slice none 0 0] 35::Ent.box p2 [.string nm,.int .i64 pa,.int .i64 re,.slice ba n bc] 35::Ent.vec (some ⟨vb,vo,none⟩) n c 50 6 (z3.flatMap blkC)::Ent.vec na (B.xs.length + T.xs.length) nc 88 8 ((B.xs++T.xs).flatMap rowC)::lvE T::(pvE B::tvE B::pvE T::tvE T::((B.ps.map phE++B.xs.map roE)++((T.ps.map phE++T.xs.map roE)++RS)))) w→SlAt w (.slice (some ⟨vb,vo,none⟩) n c) 6 (z3.map BRow.blk) BlockV:=fun w hw=>by
   have h7:=flat_sl (k:=4) (l:=z3) (g:=blkC) (a:=some ⟨vb,vo,none⟩) (c:=c) (e:=50) hw (by rw [hz3l]; rfl) blkC_len (by omega)
   rw [hz3l] at h7
   refine blk_sl h7 fun r hr=>?_
   obtain ⟨x,hx⟩:=List.getElem?_of_mem hr
   by_cases e1 : x = b
   ·rw [e1,h3B] at hx
    obtain rfl:=Option.some.inj hx
    have h8 : Wd NoS w0 (blkPs B2++[]) w:=by
     refine hw.pick ⟨Ent.vec la (butL n t).length lc 3 1 (((butL n t).map fun x : Nat=>(x : Int)).map (.int .i64))::Ent.box p6 [.string nm,.int .i64 pa,.int .i64 re,.slice (some ⟨vb,vo,none⟩) n c] 35::Ent.box p4 [.string ByteArray.empty,.int .i64 0,.int .i64 0,.slice none 0 0] 35::Ent.box p2 [.string nm,.int .i64 pa,.int .i64 re,.slice ba n bc] 35::Ent.vec (some ⟨vb,vo,none⟩) n c 50 6 (z3.flatMap blkC)::lvE T::tvE B::pvE T::(T.ps.map phE++RS),?_⟩
     rw [hB2,hB1e]
     unfold blkPs pvE tvE lvE
     refine List.perm_iff_count.2 fun e=>?_
     simp only [List.count_append,List.count_cons,List.count_nil,List.map_append,List.length_append]
     omega
    exact h8.blkAt hB2d
   by_cases e2 : x = t
   ·rw [e2,h3T] at hx
    obtain rfl:=Option.some.inj hx
    have h8 : Wd NoS w0 (blkPs T3++[]) w:=by
     refine (hw.nilVec 3 1).pick ⟨Ent.vec la (butL n t).length lc 3 1 (((butL n t).map fun x : Nat=>(x : Int)).map (.int .i64))::Ent.box p6 [.string nm,.int .i64 pa,.int .i64 re,.slice (some ⟨vb,vo,none⟩) n c] 35::Ent.box p4 [.string ByteArray.empty,.int .i64 0,.int .i64 0,.slice none 0 0] 35::Ent.box p2 [.string nm,.int .i64 pa,.int .i64 re,.slice ba n bc] 35::Ent.vec (some ⟨vb,vo,none⟩) n c 50 6 (z3.flatMap blkC)::Ent.vec na (B.xs.length + T.xs.length) nc 88 8 ((B.xs++T.xs).flatMap rowC)::pvE B::tvE B::tvE T::(B.ps.map phE++(B.xs.map roE++RS)),?_⟩
     rw [hT3]
     unfold blkPs pvE tvE lvE
     refine List.perm_iff_count.2 fun e=>?_
     simp only [List.count_append,List.count_cons,List.count_nil,List.map_nil,List.length_nil]
     omega
    exact h8.blkAt hT3d
   rw [h3R x e1 e2] at hx
   have hmem:=hRm x r hx e1 e2
   have hmem2 : blkE r ∈ (Ent.vec la (butL n t).length lc 3 1 (((butL n t).map fun x : Nat=>(x : Int)).map (.int .i64))::Ent.box p6 [.string nm,.int .i64 pa,.int .i64 re,.slice (some ⟨vb,vo,none⟩) n c] 35::Ent.box p4 [.string ByteArray.empty,.int .i64 0,.int .i64 0,.slice none 0 0] 35::Ent.box p2 [.string nm,.int .i64 pa,.int .i64 re,.slice ba n bc] 35::Ent.vec (some ⟨vb,vo,none⟩) n c 50 6 (z3.flatMap blkC)::Ent.vec na (B.xs.length + T.xs.length) nc 88 8 ((B.xs++T.xs).flatMap rowC)::lvE T::(pvE B::tvE B::pvE T::tvE T::((B.ps.map phE++B.xs.map roE)++((T.ps.map phE++T.xs.map roE)++RS)))):=by
    simp only [List.mem_cons,List.mem_append]
    simp only [hmem,or_true]
   obtain ⟨k,hk⟩:=List.getElem?_of_mem hmem2
   exact ((hw.perm (perm_pull hk)).unjoin).blkAt (hyd r (List.mem_of_getElem? hx))
  have hbdz : ∀ r : BRow,r.blk ∈ z3.map BRow.blk→r.Bd:=fun r hr=>by
   obtain ⟨r2,h1,h2⟩:=List.mem_map.1 hr
   exact BRow.Bd.of h2.symm (h3d r2 h1)
  have hfz:=hJL.funcOk hj hf
  have hkz:=hJL.kok hj hg
  have hjn:=hJL.jn hj
  rw [← hql] at hkz hjn
  repeat (first|refine g_op rfl ?_|refine g_then ?_|refine g_nil ?_|refine g_region ?_|refine g_seq ?_)
  refine g_callE (val:=fun x : Option Addr × Nat × List BRow=>.agg #[.string nm,.int .i64 pa,.int .i64 re,.slice x.1 x.2.2.length x.2.1]) (E:=fun x=>fnE x.1 x.2.1 x.2.2) (φ:=fun x=>x.2.2.map BRow.blk = keptL (z3.map BRow.blk) (butL n t)∧∀ b ∈ x.2.2,b.Bd) rfl (fun w hw=>keptR_c nm pa re (z3.map BRow.blk) _ R hfz (by rw [List.length_map]; omega) (butL n t) hkz (by omega) la _ lc w (hslz w hw) hbdz (hw.intsAt (k:=0) rfl (by rw [List.length_map]) (by omega) fun y hy=>?_)) fun x hx=>?_
  ·obtain ⟨y2,h1,rfl⟩:=List.mem_map.1 hy
   have:=(butL_mem.1 h1).1
   exact ⟨by omega,by omega⟩
  refine g_wd (H':=Ent.box p4 [.string ByteArray.empty,.int .i64 0,.int .i64 0,.slice none 0 0] 35::fnE x.1 x.2.1 x.2.2) (fun w hw=>(hw.sub ((List.Sublist.refl _).append (.cons _ (.cons _ (.cons_cons _ (List.nil_sublist _)))))).perm List.perm_append_comm) ?_
  repeat (first|refine g_then ?_|refine g_nil ?_|refine g_storeAgg ?_|refine g_ret ?_)
  exact g_retC rfl fun w hw=>⟨x,rfl,hw.sub (.cons _ (.refl _)),by rw [hx.1,hjn],hx.2⟩
theorem list_two (bl : List LBlock) (c d : Nat) : (blkAt bl c).list.length + (blkAt bl d).list.length ≤ manyL bl ∨ c = d:=by
 by_cases e : c = d
 ·exact .inr e
 refine .inl ?_
 have h0 : ∀ x,¬ x < bl.length→(blkAt bl x).list.length = 0:=fun x hx=>by rw [blkAt_none hx]; rfl
 have h1 : ∀ x,x < bl.length→(blkAt bl x).list.length ≤ manyL bl:=fun x hx=>by
  have h2:=(map_pull szB (get_blkAt hx)).sum_nat
  rw [List.sum_cons] at h2
  rw [many_szB]
  have h3 : (blkAt bl x).list.length ≤ szB (blkAt bl x):=by unfold szB; omega
  omega
 by_cases hc : c < bl.length
 ·by_cases hd : d < bl.length
  ·obtain ⟨R,hR,_⟩:=pull2 szB (get_blkAt hc) (get_blkAt hd) e
   have h2:=hR.sum_nat
   rw [List.sum_cons,List.sum_cons] at h2
   rw [many_szB,h2]
   unfold szB
   omega
  ·rw [h0 d hd]
   have:=h1 c hc
   omega
 ·rw [h0 c hc]
  by_cases hd : d < bl.length
  ·have:=h1 d hd
   omega
  ·rw [h0 d hd]
   omega
theorem lastJ_cases (bl : List LBlock) : ∀ n,(lastJ bl n = -1∧∀ i,i < n→canJ bl i = none) ∨ ∃ b t,lastJ bl n = (b : Nat)∧b < n∧canJ bl b = some t
 | 0=>.inl ⟨rfl,fun i hi=>by omega⟩
 | n + 1=>by
  unfold lastJ
  by_cases h : (canJ bl n).isSome = true
  ·rw [if_pos h]
   obtain ⟨t,ht⟩:=Option.isSome_iff_exists.1 h
   exact .inr ⟨n,t,rfl,by omega,ht⟩
  ·rw [if_neg h]
   have hn : canJ bl n = none:=by simpa using h
   rcases lastJ_cases bl n with ⟨h1,h2⟩|⟨b,t,h1,h2,h3⟩
   ·refine .inl ⟨h1,fun i hi=>?_⟩
    by_cases e : i = n
    ·rw [e]; exact hn
    ·exact h2 i (by omega)
   ·exact .inr ⟨b,t,h1,by omega,h3⟩
theorem fnLim_of {X : LFunc} {ks : List BRow} (hk : ks.map BRow.blk = X.blocks) (hn : ks.length ≤ 1000) (hd : ∀ r ∈ ks,r.Bd) : FnLim X:=by
 refine ⟨by rw [← hk,List.length_map]; exact hn,fun B hB=>?_⟩
 rw [← hk] at hB
 obtain ⟨r,hr,rfl⟩:=List.mem_map.1 hB
 have h:=hd r hr
 refine ⟨by unfold BRow.blk; rw [List.length_map]; exact h.phis,fun p hp=>?_,by unfold BRow.blk; rw [List.length_map]; exact h.list,fun y hy=>?_,h.to.1⟩
 ·obtain ⟨p',hp',rfl⟩:=List.mem_map.1 hp
  exact (h.phi p' hp').2.1
 ·obtain ⟨y',hy',rfl⟩:=List.mem_map.1 hy
  exact (h.ins y' hy').2.1
theorem RefSt.fnAll {X : LFunc} {R : Nat} {g l : List LBlock} {o : List Nat} (h : RefSt X R g l o) (hX : FnAll X R) : FnAll (putB X g) R:=by
 refine ⟨hX.regs,hX.le,?_,?_,hX.par,?_⟩
 ·show FuncOk R g
  rw [h.eq]
  exact keep_funcOk h.ok.base.ok h.full.ok
 ·show 0 < g.length
  rw [h.len]
  exact h.zero.1
 ·show ∀ B ∈ g,∀ x ∈ B.list,_
  rw [h.eq]
  exact kept_list h.full.ok (joins_list h.jn (kept_list (orderK_ok hX.ok.good hX.pos) hX.uses))
theorem RefSt.many {X : LFunc} {R : Nat} {g l : List LBlock} {o : List Nat} (h : RefSt X R g l o) (hX : FnAll X R) : manyL g ≤ manyL X.blocks:=by
 rw [h.eq]
 refine Nat.le_trans (many_keep_le h.full.ok) ?_
 rw [h.jn.many]
 exact many_keep_le (orderK_ok hX.ok.good hX.pos)
theorem refTidy_c (v : LUnit) (hv : CheckOk v) (k : Nat) (X : LFunc) (hXk : v.funcs[k]? = some X) (hlim : FnLim X) (hlen : X.blocks.length ≤ 24) (hmany : manyL X.blocks ≤ 1000) (bs : Value) (w0 : World) (hbs : SlAt w0 bs 6 X.blocks BlockV) (hbd : ∀ b : BRow,b.blk ∈ X.blocks→b.Bd) :
  Ret Tryz.prog 15 [.agg #[.string X.name,.int .i64 X.params,.int .i64 X.regs,bs]] w0 fun u w'=>∃ x : Option Addr × Nat × List BRow,u = .agg #[.string (tidyF X).name,.int .i64 (tidyF X).params,.int .i64 (tidyF X).regs,.slice x.1 x.2.2.length x.2.1]∧Wd NoS w0 (fnE x.1 x.2.1 x.2.2) w'∧(x.2.2.map BRow.blk = (tidyF X).blocks∧∀ b ∈ x.2.2,b.Bd):=by
 classical
 obtain ⟨R,hX,hst0⟩:=refSt_begin hv hXk
 have hend : ∀ g l o,RefSt X R g l o→(∀ i,i < g.length→canJ g i = none)→namesF (putB X g) = tidyF X:=fun g l o h hn=>refSt_end hv hXk hX.regs h hn
 obtain ⟨TF,hTF⟩ : ∃ TF,TF = tidyF X:=⟨_,rfl⟩
 rw [← hTF] at hend ⊢
 have hXR:=hX.regs
 have hR:=hX.le
 have hf:=hX.ok
 have hpos:=hX.pos
 have hp2:=hX.par
 have hg:=hf.good
 have hk:=orderK_ok hg hpos
 obtain ⟨xn,hxn⟩ : ∃ xn,xn = X.name:=⟨_,rfl⟩
 obtain ⟨xp,hxp⟩ : ∃ xp,xp = X.params:=⟨_,rfl⟩
 obtain ⟨xr,hxr⟩ : ∃ xr,xr = X.regs:=⟨_,rfl⟩
 obtain ⟨xb,hxb⟩ : ∃ xb,xb = X.blocks:=⟨_,rfl⟩
 rw [← hxb] at hbs hbd hlen hmany hf hpos hg hk
 rw [← hxn,← hxp,← hxr]
 obtain ⟨o,hoD⟩ : ∃ o,o = orderL xb:=⟨_,rfl⟩
 have hol : (postL xb).length = o.length:=by rw [hoD]; unfold orderL; rw [List.length_reverse]
 have hol2:=postL_len hpos
 rw [← hoD] at hk
 obtain ⟨kl,hklD⟩ : ∃ kl,kl = keptL xb o:=⟨_,rfl⟩
 have hkF : keptF X = kl:=by rw [hklD,hoD,hxb]; rfl
 rw [hkF] at hst0
 have hkln : kl.length = o.length:=by rw [hklD,keptL_len]
 obtain ⟨ba,n,bc,hbsv⟩ : ∃ a n c,bs = .slice a n c:=by
  obtain ⟨a,n,c,_,_,e,_⟩:=hbs
  exact ⟨a,n,c,e⟩
 refine ret_enter Tryz.func15 rfl Tryz.ntmps15 rfl (Wd.nil NoS w0) ?_
 subst hbsv
 have hbs0:=hbs
 have hol3 : o.length ≤ 100:=by omega
 repeat (first|refine g_then ?_|refine g_nil ?_|refine g_region ?_|refine g_seq ?_|refine g_box rfl fun _ _=>?_|refine g_alloc rfl fun _ _=>?_)
 rename_i p1 _ p2 _
 have hocall : ∀ (H : List Ent) (w : World),Wd NoS w0 H w→Ret Tryz.prog 32 [.agg #[.string xn,.int .i64 xp,.int .i64 xr,.slice ba n bc]] w fun u w'=>∃ x : Option Addr × Nat,u = .slice x.1 o.length x.2∧Wd NoS w [Ent.vec x.1 o.length x.2 3 1 (o.map intN)] w'∧True:=fun H w hw=>by
  have:=refOrder_c (.string xn) (.int .i64 xp) (.int .i64 xr) xb (.slice ba n bc) ⟨_,_,_,rfl⟩ w (hbs0.keep keeps_block hw.chg) (by omega) hg hpos
  rw [hol] at this
  rw [hoD] at this ⊢
  exact this
 have hkcall : ∀ (k : Nat) (a : Option Addr) (c : Nat) (H : List Ent) (w : World),Wd NoS w0 H w→H[k]? = some (Ent.vec a o.length c 3 1 (o.map intN))→Ret Tryz.prog 31 [.agg #[.string xn,.int .i64 xp,.int .i64 xr,.slice ba n bc],.slice a o.length c] w fun u w'=>∃ x : Option Addr × Nat × List BRow,u = .agg #[.string xn,.int .i64 xp,.int .i64 xr,.slice x.1 x.2.2.length x.2.1]∧Wd NoS w (fnE x.1 x.2.1 x.2.2) w'∧(x.2.2.map BRow.blk = kl∧∀ b ∈ x.2.2,b.Bd):=fun k a c H w hw hk2=>by
  rw [hklD]
  exact keptR_c xn xp xr xb (.slice ba n bc) R hf (by omega) o hk hol3 a o.length c w (hbs0.keep keeps_block hw.chg) hbd (ints_sl hw (k:=k) hk2 rfl (by omega) fun x hx=>by have:=hk.lt x hx; omega)
 refine g_drawX [Ent.box p1 [.string xn,.int .i64 xp,.int .i64 xr,.slice ba n bc] 35] (fun x : Nat × Option Addr × Nat × List BRow=>x.2.2.2.map BRow.blk = kl∧∀ b ∈ x.2.2.2,b.Bd) (fun x=>[(3,.pointer (some ⟨x.1,0,none⟩)),(2,.pointer (some ⟨p2,0,none⟩))]) (fun x=>Ent.box x.1 [.string xn,.int .i64 xp,.int .i64 xr,.slice x.2.1 x.2.2.2.length x.2.2.1] 35::Ent.box p2 [.string ByteArray.empty,.int .i64 0,.int .i64 0,.slice none 0 0] 35::fnE x.2.1 x.2.2.1 x.2.2.2) mixed (by repeat (first|exact List.Sublist.refl _|refine List.Sublist.cons _ ?_|refine List.Sublist.trans ?_ (List.sublist_append_right _ _))) ?_ fun x hx=>?_
 ·skip
  refine h_take 0 rfl (by decide +kernel) (by repeat (first|exact List.Sublist.refl _|refine List.Sublist.cons _ ?_|refine List.Sublist.trans ?_ (List.sublist_append_right _ _))) ?_
  refine h_take 1 rfl (by decide +kernel) (by repeat (first|exact List.Sublist.refl _|refine List.Sublist.cons _ ?_|refine List.Sublist.trans ?_ (List.sublist_append_right _ _))) ?_
  refine h_two 2 4 (by decide +kernel) ?_ ?_
  ·skip
   (refine o_callE 2 (val:=fun x : Option Addr × Nat=>.slice x.1 o.length x.2) (E:=fun x=>[Ent.vec x.1 o.length x.2 3 1 (o.map intN)]) (φ:=fun _=>True) rfl (by repeat (first|exact List.Sublist.refl _|refine List.Sublist.cons _ ?_|refine List.Sublist.trans ?_ (List.sublist_append_right _ _))) (fun w hw=>hocall _ w hw) fun y _=>?_; obtain ⟨oa,oc⟩:=y; simp only [List.cons_append,List.nil_append])
   refine h_two 3 4 (by decide +kernel) ?_ ?_
   ·skip
    (refine o_callE 3 (val:=fun x : Option Addr × Nat × List BRow=>.agg #[.string xn,.int .i64 xp,.int .i64 xr,.slice x.1 x.2.2.length x.2.1]) (E:=fun x=>fnE x.1 x.2.1 x.2.2) (φ:=fun x=>x.2.2.map BRow.blk = kl∧∀ b ∈ x.2.2,b.Bd) rfl (by repeat (first|exact List.Sublist.refl _|refine List.Sublist.cons _ ?_|refine List.Sublist.trans ?_ (List.sublist_append_right _ _))) (fun w hw=>by first|exact hkcall 0 _ _ _ w hw rfl|exact hkcall 1 _ _ _ w hw rfl) fun z hz=>?_; obtain ⟨na,nc,ks⟩:=z; simp only at hz ⊢)
    refine h_one 4 (by decide +kernel) ?_
    refine o_alloc 4 rfl (by repeat (first|exact List.Sublist.refl _|refine List.Sublist.cons _ ?_|refine List.Sublist.trans ?_ (List.sublist_append_right _ _))) fun p3 _=>?_
    refine g_permH (H1:=Ent.box p3 [.string ByteArray.empty,.int .i64 0,.int .i64 0,.slice none 0 0] 35::Ent.box p2 [.string ByteArray.empty,.int .i64 0,.int .i64 0,.slice none 0 0] 35::Ent.vec oa o.length oc 3 1 (o.map intN)::(fnE na nc ks++[Ent.box p1 [.string xn,.int .i64 xp,.int .i64 xr,.slice ba n bc] 35])) (List.perm_iff_count.2 fun e=>by simp only [List.count_append,List.count_cons,List.count_nil]; omega) ?_
    refine h_storeAgg 5 (by decide +kernel) (by repeat (first|exact List.Sublist.refl _|refine List.Sublist.cons _ ?_|refine List.Sublist.trans ?_ (List.sublist_append_right _ _))) ?_
    refine h_end (by decide +kernel) ?_
    exact g_mem (p3,na,nc,ks) hz (by repeat (first|exact trivial|refine ⟨rfl,?_⟩)) (.cons_cons _ (.cons_cons _ (.cons _ (List.sublist_append_left _ _))))
   ·skip
    refine o_alloc 4 rfl (by repeat (first|exact List.Sublist.refl _|refine List.Sublist.cons _ ?_|refine List.Sublist.trans ?_ (List.sublist_append_right _ _))) fun p3 _=>?_
    refine h_one 3 (by decide +kernel) ?_
    (refine o_callE 3 (val:=fun x : Option Addr × Nat × List BRow=>.agg #[.string xn,.int .i64 xp,.int .i64 xr,.slice x.1 x.2.2.length x.2.1]) (E:=fun x=>fnE x.1 x.2.1 x.2.2) (φ:=fun x=>x.2.2.map BRow.blk = kl∧∀ b ∈ x.2.2,b.Bd) rfl (by repeat (first|exact List.Sublist.refl _|refine List.Sublist.cons _ ?_|refine List.Sublist.trans ?_ (List.sublist_append_right _ _))) (fun w hw=>by first|exact hkcall 0 _ _ _ w hw rfl|exact hkcall 1 _ _ _ w hw rfl) fun z hz=>?_; obtain ⟨na,nc,ks⟩:=z; simp only at hz ⊢)
    refine g_permH (H1:=Ent.box p3 [.string ByteArray.empty,.int .i64 0,.int .i64 0,.slice none 0 0] 35::Ent.box p2 [.string ByteArray.empty,.int .i64 0,.int .i64 0,.slice none 0 0] 35::Ent.vec oa o.length oc 3 1 (o.map intN)::(fnE na nc ks++[Ent.box p1 [.string xn,.int .i64 xp,.int .i64 xr,.slice ba n bc] 35])) (List.perm_iff_count.2 fun e=>by simp only [List.count_append,List.count_cons,List.count_nil]; omega) ?_
    refine h_storeAgg 5 (by decide +kernel) (by repeat (first|exact List.Sublist.refl _|refine List.Sublist.cons _ ?_|refine List.Sublist.trans ?_ (List.sublist_append_right _ _))) ?_
    refine h_end (by decide +kernel) ?_
    exact g_mem (p3,na,nc,ks) hz (by repeat (first|exact trivial|refine ⟨rfl,?_⟩)) (.cons_cons _ (.cons_cons _ (.cons _ (List.sublist_append_left _ _))))
  ·skip
   refine o_alloc 4 rfl (by repeat (first|exact List.Sublist.refl _|refine List.Sublist.cons _ ?_|refine List.Sublist.trans ?_ (List.sublist_append_right _ _))) fun p3 _=>?_
   refine h_one 2 (by decide +kernel) ?_
   (refine o_callE 2 (val:=fun x : Option Addr × Nat=>.slice x.1 o.length x.2) (E:=fun x=>[Ent.vec x.1 o.length x.2 3 1 (o.map intN)]) (φ:=fun _=>True) rfl (by repeat (first|exact List.Sublist.refl _|refine List.Sublist.cons _ ?_|refine List.Sublist.trans ?_ (List.sublist_append_right _ _))) (fun w hw=>hocall _ w hw) fun y _=>?_; obtain ⟨oa,oc⟩:=y; simp only [List.cons_append,List.nil_append])
   refine h_one 3 (by decide +kernel) ?_
   (refine o_callE 3 (val:=fun x : Option Addr × Nat × List BRow=>.agg #[.string xn,.int .i64 xp,.int .i64 xr,.slice x.1 x.2.2.length x.2.1]) (E:=fun x=>fnE x.1 x.2.1 x.2.2) (φ:=fun x=>x.2.2.map BRow.blk = kl∧∀ b ∈ x.2.2,b.Bd) rfl (by repeat (first|exact List.Sublist.refl _|refine List.Sublist.cons _ ?_|refine List.Sublist.trans ?_ (List.sublist_append_right _ _))) (fun w hw=>by first|exact hkcall 0 _ _ _ w hw rfl|exact hkcall 1 _ _ _ w hw rfl) fun z hz=>?_; obtain ⟨na,nc,ks⟩:=z; simp only at hz ⊢)
   refine g_permH (H1:=Ent.box p3 [.string ByteArray.empty,.int .i64 0,.int .i64 0,.slice none 0 0] 35::Ent.box p2 [.string ByteArray.empty,.int .i64 0,.int .i64 0,.slice none 0 0] 35::Ent.vec oa o.length oc 3 1 (o.map intN)::(fnE na nc ks++[Ent.box p1 [.string xn,.int .i64 xp,.int .i64 xr,.slice ba n bc] 35])) (List.perm_iff_count.2 fun e=>by simp only [List.count_append,List.count_cons,List.count_nil]; omega) ?_
   refine h_storeAgg 5 (by decide +kernel) (by repeat (first|exact List.Sublist.refl _|refine List.Sublist.cons _ ?_|refine List.Sublist.trans ?_ (List.sublist_append_right _ _))) ?_
   refine h_end (by decide +kernel) ?_
   exact g_mem (p3,na,nc,ks) hz (by repeat (first|exact trivial|refine ⟨rfl,?_⟩)) (.cons_cons _ (.cons_cons _ (.cons _ (List.sublist_append_left _ _))))
 obtain ⟨p3,na,nc,ks⟩:=x
 obtain ⟨hkb,hkd⟩:=hx
 simp only at hkb hkd ⊢
 repeat (first|refine g_then ?_|refine g_block ?_)
 refine g_loop (fun x : Option Addr × Nat × List BRow=>x.2.2.length ≤ 24∧(∃ l o,RefSt X R (x.2.2.map BRow.blk) l o)∧∀ r ∈ x.2.2,r.Bd) (fun _=>[(3,.pointer (some ⟨p3,0,none⟩)),(2,.pointer (some ⟨p2,0,none⟩))]) (fun x=>(fun x : Option Addr × Nat × List BRow=>Ent.box p3 [.string xn,.int .i64 xp,.int .i64 xr,.slice x.1 x.2.2.length x.2.1] 35) x::Ent.box p2 [.string ByteArray.empty,.int .i64 0,.int .i64 0,.slice none 0 0] 35::fnE x.1 x.2.1 x.2.2) (fun x=>x.2.2.length) (na,nc,ks) ⟨by have:=congrArg List.length hkb; rw [List.length_map] at this; simp only; omega,⟨_,_,by rw [hkb]; exact hst0⟩,hkd⟩ (g_done (by repeat (first|exact trivial|refine ⟨rfl,?_⟩)) (.refl _)) fun x ⟨hxl,⟨l,oo,hst⟩,hxd⟩=>?_
 obtain ⟨na,nc,ks⟩:=x
 simp only at hxl hst hxd ⊢
 obtain ⟨g,hgD⟩ : ∃ g,g = ks.map BRow.blk:=⟨_,rfl⟩
 rw [← hgD] at hst
 obtain ⟨m,hm⟩ : ∃ m,m = ks.length:=⟨_,rfl⟩
 rw [← hm] at hxl
 have hgl : g.length = m:=by rw [hgD,List.length_map,hm]
 have hgA:=hst.fnAll hX
 have hgf : FuncOk R g:=hgA.ok
 have hgk : KindOk g:=by rw [hst.eq]; exact kind_kept hst.full.ok hst.ok.base.kind
 have hgm:=hst.many hX
 rw [← hxb] at hgm
 have hblocks : ∀ (X : List Ent) (w : World),Wd NoS w0 (X++fnE na nc ks) w→SlAt w (.slice na m nc) 6 g BlockV:=fun X w hw=>by
  have:=Wd.blocks (H:=[]) (ba:=na) (bc:=nc) (bs:=ks) (by rw [List.append_nil]; exact hw.sub (List.sublist_append_right _ _)) (by omega) hxd
  rw [← hgD,← hm] at this
  exact this
 have hgbd : ∀ b : BRow,b.blk ∈ g→b.Bd:=fun b hb=>by
  rw [hgD] at hb
  obtain ⟨c,hc,e⟩:=List.mem_map.1 hb
  exact BRow.Bd.of e.symm (hxd c hc)
 rw [← hm]
 repeat (first|refine g_op rfl ?_|refine g_region ?_|refine g_seq ?_|refine g_block ?_)
 refine g_callV rfl (fun w hw=>chainR_c _ _ _ g na m nc (by omega) hgf.good hgk w (hblocks [Ent.box p3 [.string xn,.int .i64 xp,.int .i64 xr,.slice na m nc] 35,Ent.box p2 [.string ByteArray.empty,.int .i64 0,.int .i64 0,.slice none 0 0] 35] w hw)) ?_
 rw [hgl]
 rcases lastJ_cases g m with ⟨h1,h2⟩|⟨b,t,h1,h2,h3⟩
 ·rw [h1]
  repeat (first|refine g_op rfl ?_|refine g_then ?_|refine g_nil ?_|refine g_region ?_|refine g_seq ?_|refine g_condT ?_)
  have hnF:=hend g l oo hst (by rw [hgl]; exact h2)
  refine g_callE (val:=fun x : Option Addr × Nat × List BRow=>.agg #[.string TF.name,.int .i64 TF.params,.int .i64 TF.regs,.slice x.1 x.2.2.length x.2.1]) (E:=fun x=>fnE x.1 x.2.1 x.2.2) (φ:=fun x=>x.2.2.map BRow.blk = TF.blocks∧∀ b ∈ x.2.2,b.Bd) rfl (fun w hw=>?_) fun x hx=>?_
  ·have h9:=refNames_c (putB X g) R hgA (fnLim_of (ks:=ks) hgD.symm (by omega) hxd) (by show g.length ≤ 24; omega) (.slice na m nc) w (hblocks [Ent.box p3 [.string xn,.int .i64 xp,.int .i64 xr,.slice na m nc] 35,Ent.box p2 [.string ByteArray.empty,.int .i64 0,.int .i64 0,.slice none 0 0] 35] w hw) hgbd
   rw [hnF] at h9
   have e1 : (putB X g).name = xn:=hxn.symm
   have e2 : (putB X g).params = xp:=hxp.symm
   have e3 : (putB X g).regs = xr:=hxr.symm
   rw [e1,e2,e3] at h9
   exact h9
  refine g_wd (H':=Ent.box p2 [.string ByteArray.empty,.int .i64 0,.int .i64 0,.slice none 0 0] 35::fnE x.1 x.2.1 x.2.2) (fun w hw=>(hw.sub ((List.Sublist.refl _).append (.cons _ (.cons_cons _ (List.nil_sublist _))))).perm List.perm_append_comm) ?_
  repeat (first|refine g_then ?_|refine g_nil ?_|refine g_storeAgg ?_|refine g_ret ?_|refine g_thenRet ?_|refine g_blockRet ?_)
  exact g_retC rfl fun w hw=>⟨x,rfl,hw.sub (.cons _ (.refl _)),hx.1,hx.2⟩
 ·rw [h1]
  repeat (first|refine g_op rfl ?_|refine g_then ?_|refine g_nil ?_|refine g_region ?_|refine g_seq ?_|refine g_skip ?_|refine g_condF ?_)
  rw [show decide (((b : Nat) : Int) < 0) = false by simp]
  skip
  have hj:=(canJ_some hgk hgf.good).1 h3
  refine g_callE (val:=fun x : Option Addr × Nat × List BRow=>.agg #[.string xn,.int .i64 xp,.int .i64 xr,.slice x.1 x.2.2.length x.2.1]) (E:=fun x=>fnE x.1 x.2.1 x.2.2) (φ:=fun x=>x.2.2.map BRow.blk = jnL g b t∧∀ b ∈ x.2.2,b.Bd) rfl (fun w hw=>joinedR_c xn xp xr g (.slice na m nc) R hgf (by omega) (fun c d=>(list_two g c d).imp (fun h=>by omega) id) b t hj w (hblocks [Ent.box p3 [.string xn,.int .i64 xp,.int .i64 xr,.slice na m nc] 35,Ent.box p2 [.string ByteArray.empty,.int .i64 0,.int .i64 0,.slice none 0 0] 35] w hw) hgbd) fun x hx=>?_
  refine g_permH (H1:=Ent.box p3 [.string xn,.int .i64 xp,.int .i64 xr,.slice na m nc] 35::Ent.box p2 [.string ByteArray.empty,.int .i64 0,.int .i64 0,.slice none 0 0] 35::(fnE x.1 x.2.1 x.2.2++fnE na nc ks)) (List.perm_iff_count.2 fun e=>by simp only [List.count_append,List.count_cons]; omega) ?_
  repeat (first|refine g_then ?_|refine g_nil ?_|refine g_storeAgg ?_|refine g_inBlock ?_)
  obtain ⟨hs1,hs2⟩:=refSt_step hst hj
  have hxl2 : x.2.2.length + 1 = m:=by
   have:=congrArg List.length hx.1
   rw [List.length_map] at this
   omega
  exact g_next x ⟨by omega,⟨_,_,by rw [hx.1]; exact hs1⟩,hx.2⟩ (by simp only; omega) (by repeat (first|exact trivial|refine ⟨rfl,?_⟩)) (.cons_cons _ (.cons_cons _ (List.sublist_append_left _ _)))
end Go.Proofs.YtpadjpplidlfeaaGreatDoor

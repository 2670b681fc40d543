/- Texts joined: TidyC TidyN NamesP. -/
import Derived.Test.YtpadjpplidlfeaaDoorHI
import Derived.Test.YtpadjpplidlfeaaDoorHY
import Derived.Test.YtpadjpplidlfeaaDoorIA
namespace Go.Proofs.YtpadjpplidlfeaaDoor
open Go Go.RowKit
theorem sum_le {f : Nat→Nat} : ∀ {o l : List Nat},o.Nodup→(∀ x ∈ o,x ∈ l)→(o.map f).sum ≤ (l.map f).sum
 | [],l,_,_=>by simp
 | a::o,l,hn,hs=>by
  have ha:=hs a (by simp)
  rw [List.nodup_cons] at hn
  have h1:=(List.perm_cons_erase ha).map f
  have h2:=h1.sum_nat
  have h3:=sum_le (f:=f) (o:=o) (l:=l.erase a) hn.2 fun x hx=>by
   have hne : x ≠ a:=fun e=>hn.1 (e ▸ hx)
   exact (List.mem_erase_of_ne hne).2 (hs x (by simp [hx]))
  simp only [List.map_cons,List.sum_cons] at h2 ⊢
  omega
def szB (B : LBlock) : Nat:=B.phis.length + B.list.length
theorem many_szB (bl : List LBlock) : manyL bl = (bl.map szB).sum:=rfl
theorem many_range (bl : List LBlock) : manyL bl = ((List.range bl.length).map fun b=>szB (blkAt bl b)).sum:=by
 rw [many_szB]
 congr 1
 apply List.ext_getElem?
 intro i
 rw [List.getElem?_map,List.getElem?_map]
 by_cases hi : i < bl.length
 ·rw [get_blkAt hi,List.getElem?_range hi]; rfl
 ·rw [List.getElem?_eq_none (by omega),List.getElem?_eq_none (by simp; omega)]; rfl
theorem many_keep (bl : List LBlock) (o : List Nat) : manyL (keptL bl o) = (o.map fun b=>szB (blkAt bl b)).sum:=by
 rw [many_szB]
 unfold keptL
 rw [List.map_map]
 congr 1
 refine List.map_congr_left fun b _=>?_
 simp [szB,keepB]
theorem many_keep_le {bl : List LBlock} {o : List Nat} (hk : KOk bl o) : manyL (keptL bl o) ≤ manyL bl:=by
 rw [many_keep,many_range]
 exact sum_le hk.nodup fun x hx=>List.mem_range.2 (hk.lt x hx)
theorem keep_len_le {bl : List LBlock} {o : List Nat} (hk : KOk bl o) : o.length ≤ bl.length:=by
 have:=hk.nodup.length_le_of_subset (l₂:=List.range bl.length) fun x hx=>List.mem_range.2 (hk.lt x hx)
 simpa using this
theorem many_ren (L : List Int) (bl : List LBlock) : manyL (bl.map (renB L)) = manyL bl:=by
 rw [many_szB,many_szB,List.map_map]
 congr 1
 refine List.map_congr_left fun B _=>?_
 simp [szB,renB]
theorem val_zero {R : Int} {v : LVal} : valErr R v = 0 ↔ (v.reg = true→0 ≤ v.n∧v.n < R):=by
 unfold valErr
 by_cases h : v.reg = true
 ·simp only [h,Bool.true_and,within,Bool.not_and,Bool.or_eq_true,Bool.not_eq_true',decide_eq_false_iff_not,forall_const]
  constructor
  ·intro h1
   split at h1
   ·cases h1
   ·omega
  ·intro h1
   rw [if_neg (by omega)]
 ·have h2 : v.reg = false:=by simpa using h
  simp [h2]
theorem renV_err {L : List Int} {v : LVal} (h : v.reg = true→v.n ∈ L) : valErr L.length (renV L v) = 0:=val_zero.2 fun hr=>by
 unfold renV at hr ⊢
 by_cases h1 : v.reg = true
 ·rw [if_pos h1]
  exact plc_lt (h h1)
 ·rw [if_neg h1] at hr
  exact absurd hr h1
theorem renV_no (L : List Int) (v : LVal) : noVal (renV L v) = noVal v:=by
 unfold renV noVal
 by_cases h : v.reg = true
 ·rw [if_pos h,h]; rfl
 ·rw [if_neg h]
theorem renR_neg (L : List Int) (d : Int) : (renR L d = -1) ↔ d = -1:=by
 unfold renR
 by_cases h : 0 ≤ d
 ·rw [if_pos h]
  have : 0 ≤ plc L d:=by unfold plc; omega
  omega
 ·rw [if_neg h]
theorem stray_ren (L : List Int) (x : LIns) : strayB (renI L x) = strayB x:=by
 unfold strayB renI
 simp only [renV_no,List.length_map]
 rw [show decide (renR L x.dst = -1) = decide (x.dst = -1) by rw [decide_eq_decide]; exact renR_neg L x.dst]
theorem ren_insErr {fs : List LFunc} {R : Int} {L : List Int} {x : LIns} (h : insErr fs R x = 0) (hin : ∀ r ∈ seqI x,r ∈ L) : insErr fs L.length (renI L x) = 0:=by
 obtain ⟨ua,ub,uc,_⟩:=vals_used h
 have hv : ∀ v : LVal,v ∈ usesOf x ∨ v = noV→valErr L.length (renV L v) = 0:=fun v hv=>renV_err fun hr=>by
  rcases hv with hv|rfl
  ·exact hin _ (seqI_val hv hr)
  ·cases hr
 unfold insErr at h ⊢
 rw [stray_ren]
 rw [show (renI L x).op = x.op from rfl]
 split at h
 ·cases h
 rename_i h1
 rw [if_neg h1]
 split at h
 ·cases h
 rename_i h2
 rw [if_neg h2]
 split at h
 ·rename_i h3
  rw [h] at h3
  simp at h3
 rename_i h3
 have h4 : ¬ (((shape x.op).1 && !(decide (x.op = 20) && decide ((renI L x).dst = -1))) && !decide (dstErr L.length (renI L x).dst = 0)) = true:=by
  rw [show (renI L x).dst = renR L x.dst from rfl,show decide (renR L x.dst = -1) = decide (x.dst = -1) by rw [decide_eq_decide]; exact renR_neg L x.dst]
  intro hc
  rw [Bool.and_eq_true] at hc
  apply h3
  rw [Bool.and_eq_true]
  refine ⟨hc.1,?_⟩
  have hc2:=hc.2
  simp only [Bool.not_eq_true',decide_eq_false_iff_not] at hc2 ⊢
  intro hd
  apply hc2
  have hd2 : 0 ≤ x.dst∧x.dst < R:=by
   unfold dstErr at hd
   split at hd
   ·cases hd
   ·rename_i h9
    simp [within] at h9
    omega
  have hm:=plc_lt (hin _ (seqI_dst hd2.1))
  unfold dstErr renR
  rw [if_pos hd2.1,if_neg (by simp [within]; omega)]
 rw [if_neg h4]
 rw [show (renI L x).a = renV L x.a from rfl,show (renI L x).b = renV L x.b from rfl,hv _ ua,hv _ ub]
 simp only [ne_eq,not_true_eq_false,if_false]
 split at h
 ·rename_i h5; exact absurd h h5
 split at h
 ·rename_i h5; exact absurd h h5
 unfold callErr at h ⊢
 rw [show (renI L x).op = x.op from rfl,show (renI L x).fn = x.fn from rfl,show (renI L x).args = x.args.map (renV L) from rfl]
 by_cases h20 : x.op = 20
 ·rw [if_neg (by simp [h20])] at h ⊢
  split at h
  ·cases h
  rename_i h6
  rw [if_neg h6]
  rw [List.length_map]
  split at h
  ·cases h
  rename_i h7
  rw [if_neg h7,firstI_zero']
  intro j hj
  unfold at0
  rw [List.getElem?_map,List.getElem?_eq_getElem hj]
  exact hv _ (.inl (by rw [← uc h20]; exact List.getElem_mem hj))
 ·rw [if_pos h20]
theorem phi_zero {R : Int} {b np : Nat} {p : LPhi} : phiE R b np p = 0 ↔ b ≠ 0∧(0 ≤ p.dst∧p.dst < R)∧p.src.length = np∧∀ v ∈ p.src,valErr R v = 0:=by
 have hd : dstErr R p.dst = 0 ↔ 0 ≤ p.dst∧p.dst < R:=by
  unfold dstErr
  constructor
  ·intro h
   split at h
   ·cases h
   ·rename_i h9
    simp [within] at h9
    omega
  ·intro h
   rw [if_neg (by simp [within]; omega)]
 unfold phiE
 constructor
 ·intro h
  split at h
  ·cases h
  rename_i h1
  split at h
  ·rename_i h2; exact absurd h h2
  rename_i h2
  split at h
  ·cases h
  rename_i h3
  exact ⟨by omega,hd.1 (by simpa using h2),by omega,at0_all h⟩
 ·rintro ⟨h1,h2,h3,h4⟩
  rw [if_neg (by omega),if_neg (by rw [hd.2 h2]; simp),if_neg (by omega),firstI_zero']
  intro j hj
  unfold at0
  rw [List.getElem?_eq_getElem hj]
  exact h4 _ (List.getElem_mem hj)
theorem nm_fnTo {u : LUnit} (hc : CheckOk u) {i : Nat} {X Y : LFunc} {o : List Nat} {L : List Int} (hX : u.funcs[i]? = some X) (hn : NmF X Y o L) (hname : Y.name = X.name) (hpar : Y.params = X.params) (hle : L.length ≤ 100) : FnTo u.funcs X Y:=by
 have hs:=FnTo.same hc hX
 have hb:=hs.body
 obtain ⟨R,hXR,hR,hf⟩:=check_func (check_zero.2 hc) hX
 have hg:=hf.good
 have hk:=hn.ok
 have hnd : ∀ (b : Nat) B,X.blocks[b]? = some B→B.to.Nodup:=fun b B hB=>(hf.block b B hB).to
 have hYl : Y.blocks.length = o.length:=by rw [hn.blocks,List.length_map,keptL_len]
 have hfk:=keep_funcOk hf hk
 have hgk:=hfk.good
 have hsz:=many_keep_le hk
 have hYm : manyL Y.blocks = manyL (keptL X.blocks o):=by rw [hn.blocks,many_ren]
 have hpL:=hn.par.length_le
 rw [parL_len] at hpL
 have hends : ∀ B ∈ X.blocks,EndOk X.blocks.length X.regs B:=fun B hB=>end_zero.1 (hb.ends B hB)
 -- a block of the new one
 have hget : ∀ (j : Nat) C,Y.blocks[j]? = some C→∃ B,j < o.length∧X.blocks[nth o j]? = some B∧(keptL X.blocks o)[j]? = some (keepB X.blocks o (nth o j) B)∧C = renB L (keepB X.blocks o (nth o j) B):=fun j C hC=>by
  have hj : j < o.length:=by rw [← hYl]; exact (List.getElem?_eq_some_iff.1 hC).1
  have hlt:=hk.lt _ (nth_mem hj)
  refine ⟨blkAt X.blocks (nth o j),hj,get_blkAt hlt,keptL_get (get_nth hj),?_⟩
  rw [hn.blocks,List.getElem?_map,keptL_get (get_nth hj)] at hC
  exact (Option.some.inj hC).symm
 have hall : ∀ (j : Nat) B,(keptL X.blocks o)[j]? = some B→∀ r,r ∈ seqB B ∨ r ∈ seqP B→r ∈ L:=fun j B hB=>hn.all B (List.mem_of_getElem? hB)
 refine ⟨hname,hpar,?_,?_,?_,?_,?_,?_⟩
 ·rw [hpar,hn.regs]
  omega
 ·rw [hYl]
  have h1:=hn.zero.1
  have h2:=keep_len_le hk
  have h3:=hs.many
  omega
 ·rw [← many_size,hYm]
  have h1:=hs.size
  rw [← many_size] at h1
  omega
 ·intro C hC
  obtain ⟨j,hj⟩:=List.getElem?_of_mem hC
  obtain ⟨B,hjl,hB,hK,rfl⟩:=hget j C hj
  have he:=hends B (List.mem_of_getElem? hB)
  have hnd2:=keep_nodup hg hk hnd j _ hK
  rw [hYl,hn.regs]
  refine end_zero.2 ⟨he.kind,?_,fun t ht=>?_,fun h3 e=>?_,fun h2=>?_,?_⟩
  ·show ((B.to.map _).length : Int) = B.kind - 1
   rw [List.length_map]; exact he.len
  ·have ht : t ∈ B.to.map fun t=>((o.idxOf t.toNat : Nat) : Int):=ht
   obtain ⟨x,hx,rfl⟩:=List.mem_map.1 ht
   have hxo:=he.to x hx
   have hxm:=hk.closed _ (nth_mem hjl) x (by rw [toOf_get hB]; exact hx)
   have h1:=idx_lt hxm
   have h2:=nth_idx hxm
   have h3 : o.idxOf x.toNat ≠ 0:=fun e=>by
    rw [e,hn.zero.2] at h2
    omega
   omega
  ·have hl : ((renB L (keepB X.blocks o (nth o j) B)).to).length = 2:=by
    show (B.to.map _).length = 2
    rw [List.length_map]
    have:=he.len
    have h3' : B.kind = 3:=h3
    omega
   rw [List.getElem?_eq_getElem (show 0 < _ by omega),List.getElem?_eq_getElem (show 1 < _ by omega)] at e
   simp only [Option.getD_some] at e
   have:=(List.getElem_inj (show (renB L (keepB X.blocks o (nth o j) B)).to.Nodup from hnd2)).1 e
   omega
  ·show noVal (renV L B.on) = true
   rw [renV_no]
   exact he.one h2
  ·exact renV_err fun hr=>hall j _ hK _ (.inl (seqB_on (B:=keepB X.blocks o (nth o j) B) hr))
 ·intro j C hC p' hp'
  obtain ⟨B,hjl,hB,hK,rfl⟩:=hget j C hC
  obtain ⟨q,hq,rfl⟩:=List.mem_map.1 hp'
  have hq0:=hq
  obtain ⟨p,hp,rfl⟩:=List.mem_map.1 hq
  have h0:=hb.phis (nth o j) B hB p hp
  unfold phiErr at h0 ⊢
  obtain ⟨h1,h2,h3,h4⟩:=phi_zero.1 h0
  have hgy : GoodB Y.blocks:=fun D hD=>by
   rw [hn.blocks] at hD
   obtain ⟨E,hE,rfl⟩:=List.mem_map.1 hD
   have:=hgk E hE
   rw [hn.blocks,List.length_map]
   exact this
  have hndy : ∀ (b : Nat) B,Y.blocks[b]? = some B→B.to.Nodup:=fun b D hD=>by
   obtain ⟨E,hbl,_,hKE,rfl⟩:=hget b D hD
   exact (keep_nodup hg hk hnd b _ hKE : (keepB X.blocks o (nth o b) E).to.Nodup)
  rw [aheadL_get hgy hndy (by rw [hYl]; exact hjl),hn.regs]
  refine phi_zero.2 ⟨fun e=>?_,?_,?_,fun v hv=>?_⟩
  ·subst e
   exact h1 hn.zero.2
  ·exact plc_lt (hall j _ hK (keepPhi X.blocks o (nth o j) p).dst (.inl (seqB_phi hq0)))
  ·show ((keepPhi X.blocks o (nth o j) p).src.map (renV L)).length = _
   rw [List.length_map,keepPhi_src hg hk (get_nth hjl),List.length_map,Option.getD_some,List.length_map,hn.blocks,preds_ren]
  ·obtain ⟨w,hw,rfl⟩:=List.mem_map.1 hv
   exact renV_err fun hr=>hall j _ hK _ (.inr (seqP_val hq0 hw hr))
 ·intro j C hC x' hx'
  obtain ⟨B,hjl,hB,hK,rfl⟩:=hget j C hC
  obtain ⟨x,hx,rfl⟩:=List.mem_map.1 hx'
  have hx2 : x ∈ B.list:=hx
  rw [hn.regs]
  exact ren_insErr (hb.list _ B hB x hx2) fun r hr=>hall j _ hK _ (.inl (seqB_ins (B:=keepB X.blocks o (nth o j) B) hx2 hr))
noncomputable def namesU (u : LUnit) : LUnit:={ u with funcs:=u.funcs.map namesF }
structure FnAll (X : LFunc) (R : Nat) : Prop where
 regs : X.regs = R
 le : R ≤ 100
 ok : FuncOk R X.blocks
 pos : 0 < X.blocks.length
 par : 0 ≤ X.params∧X.params ≤ R
 uses : ∀ B ∈ X.blocks,∀ x ∈ B.list,∃ fs,insErr fs X.regs x = 0
theorem fnAll {u : LUnit} (hc : CheckOk u) {k : Nat} {X : LFunc} (hX : u.funcs[k]? = some X) : ∃ R,FnAll X R:=by
 obtain ⟨R,h1,h2,h3⟩:=check_func (check_zero.2 hc) hX
 have hs:=FnTo.same hc hX
 have h4:=check_head (check_zero.2 hc) hX
 have hb:=hs.body
 refine ⟨R,h1,h2,h3,by have:=hs.many; omega,by omega,fun B hB x hx=>?_⟩
 obtain ⟨b,hb2⟩:=List.getElem?_of_mem hB
 exact ⟨_,hb.list b B hb2 x hx⟩
theorem seq_bound {R : Nat} {bl : List LBlock} (hf : FuncOk R bl) {B : LBlock} (hB : B ∈ bl) {r : Int} (h : r ∈ seqB B ∨ r ∈ seqP B) : 0 ≤ r∧r < R:=by
 obtain ⟨b,hb⟩:=List.getElem?_of_mem hB
 have hbo:=hf.block b B hb
 have hv : ∀ v : LVal,ValOk R v→r ∈ seqV v→0 ≤ r∧r < R:=fun v hv hr=>by
  unfold seqV at hr
  split at hr
  ·rename_i h1
   obtain rfl:=List.mem_singleton.1 hr
   exact hv h1
  ·cases hr
 rcases h with h|h
 ·unfold seqB at h
  rcases List.mem_append.1 h with h|h
  ·obtain ⟨p,hp,rfl⟩:=List.mem_map.1 h
   exact (hbo.phis p hp).dst
  ·rcases List.mem_append.1 h with h|h
   ·obtain ⟨x,hx,h⟩:=List.mem_flatMap.1 h
    have hxo:=hbo.list x hx
    unfold seqI at h
    rcases List.mem_append.1 h with h|h
    ·obtain ⟨v,hvm,h⟩:=List.mem_flatMap.1 h
     rw [uses_vals hxo] at hvm
     exact hv v (hxo.vals v hvm) h
    ·split at h
     ·rename_i h0
      obtain rfl:=List.mem_singleton.1 h
      exact ⟨h0,hxo.dst h0⟩
     ·cases h
   ·exact hv _ hbo.on h
 ·unfold seqP at h
  obtain ⟨p,hp,h⟩:=List.mem_flatMap.1 h
  obtain ⟨v,hvm,h⟩:=List.mem_flatMap.1 h
  exact hv v ((hbo.phis p hp).vals v hvm) h
theorem met_bound {R P : Nat} {bl : List LBlock} (hf : FuncOk R bl) (hP : P ≤ R) {r : Int} (h : r ∈ metL P bl) : 0 ≤ r∧r < R:=by
 rcases mem_metL.1 h with h|⟨B,hB,h⟩|⟨B,hB,h⟩
 ·have:=mem_parL.1 h
  omega
 ·exact seq_bound hf hB (.inl h)
 ·exact seq_bound hf hB (.inr h)
theorem nmF_met {X : LFunc} {R : Nat} (h : FnAll X R) {o : List Nat} (hk : KOk X.blocks o) (hz : 0 < o.length∧nth o 0 = 0) : NmF X { X with regs:=(metL X.params.toNat (keptL X.blocks o)).length,blocks:=(keptL X.blocks o).map (renB (metL X.params.toNat (keptL X.blocks o))) } o (metL X.params.toNat (keptL X.blocks o)):=by
 have hfk:=keep_funcOk h.ok hk
 have hp:=h.par
 refine ⟨hk,hz,rfl,rfl,met_par _ _,fun B hB r hr=>mem_metL.2 ?_,fun r hr=>?_⟩
 ·rcases hr with hr|hr
  ·exact .inr (.inl ⟨B,hB,hr⟩)
  ·exact .inr (.inr ⟨B,hB,hr⟩)
 ·have:=met_bound hfk (show X.params.toNat ≤ R by omega) hr
  rw [h.regs]
  exact this
theorem names_nmF {X : LFunc} {R : Nat} (h : FnAll X R) : NmF X (namesF X) (orderL X.blocks) (metL X.params.toNat (keptF X)) :=
 nmF_met h (orderK_ok h.ok.good h.pos) (order_pos h.ok.good h.pos)
theorem names_regs {X : LFunc} {R : Nat} (h : FnAll X R) : (metL X.params.toNat (keptF X)).length ≤ R:=by
 have hp:=h.par
 exact met_len fun r hr=>met_bound (keep_funcOk h.ok (orderK_ok h.ok.good h.pos)) (show X.params.toNat ≤ R by omega) (mem_once.2 hr)
theorem main_same {u v : LUnit} (h : v.funcs.map (·.name) = u.funcs.map (·.name)) : mainAt v.funcs = mainAt u.funcs:=by
 rw [mainAt_map,mainAt_map,h]
theorem nm_unit {u : LUnit} (hc : CheckOk u) (T : LFunc→LFunc) (o : LFunc→List Nat) (L : LFunc→List Int) (hT : ∀ X R,FnAll X R→NmF X (T X) (o X) (L X)∧(L X).length ≤ R∧(T X).name = X.name∧(T X).params = X.params) :
  NmU u { u with funcs:=u.funcs.map T } (fun k=>match u.funcs[k]? with|some X=>o X|none=>[]) (fun k=>match u.funcs[k]? with|some X=>L X|none=>[]):=by
 refine ⟨rfl,main_same ?_,fun k X hX=>⟨T X,by simp only [List.getElem?_map,hX,Option.map_some],?_⟩⟩
 ·simp only [List.map_map]
  refine List.map_congr_left fun X hX=>?_
  obtain ⟨k,hk⟩:=List.getElem?_of_mem hX
  obtain ⟨R,h⟩:=fnAll hc hk
  exact (hT X R h).2.2.1
 ·obtain ⟨R,h⟩:=fnAll hc hX
  rw [hX]
  exact (hT X R h).1
theorem nums_ren {u : LUnit} (hu : Whole u) {i : Nat} {X Y : LFunc} {o : List Nat} {L : List Int} (hX : u.funcs[i]? = some X) (hn : NmF X Y o L) (hl : L.length ≤ 100) : ∀ C ∈ Y.blocks,BlkNums C:=fun C hC=>by
 have hLl : ∀ r ∈ L,inI (plc L r):=fun r hr=>by
  have h1:=plc_lt hr
  exact ⟨by omega,by omega⟩
 have hv : ∀ v : LVal,(v.reg = true→v.n ∈ L)→inI v.n→inI (renV L v).n:=fun v h1 h2=>by
  unfold renV
  by_cases h : v.reg = true
  ·rw [if_pos h]; exact hLl _ (h1 h)
  ·rw [if_neg h]; exact h2
 obtain ⟨R,hf⟩:=fnAll hu.ok hX
 rw [hn.blocks] at hC
 obtain ⟨K,hK,rfl⟩:=List.mem_map.1 hC
 have hall:=hn.all K hK
 have hnum : BlkNums K∧∀ x ∈ K.list,(x.a ∈ usesOf x ∨ x.a = noV)∧(x.b ∈ usesOf x ∨ x.b = noV)∧∀ v ∈ x.args,v ∈ usesOf x:=by
  unfold keptL at hK
  obtain ⟨b,hb,rfl⟩:=List.mem_map.1 hK
  have hB:=get_blkAt (hn.ok.lt b hb)
  have h0:=hu.nums X (List.mem_of_getElem? hX) _ (List.mem_of_getElem? hB)
  refine ⟨⟨h0.on,fun q hq v hvm=>?_,h0.list⟩,fun x hx=>?_⟩
  ·obtain ⟨p,hp,rfl⟩:=List.mem_map.1 hq
   obtain ⟨y,hy,rfl⟩:=List.mem_map.1 hvm
   have hy2:=(List.mem_filter.1 hy).2
   exact h0.phis p hp _ (srcAt_mem (R:=R) ((hf.ok.block b _ hB).phis p hp).len (by simpa using hy2))
  ·obtain ⟨fs,h1⟩:=hf.uses _ (List.mem_of_getElem? hB) x hx
   obtain ⟨h2,h3,h4,_⟩:=vals_used h1
   refine ⟨h2,h3,fun v hvm=>?_⟩
   by_cases h20 : x.op = 20
   ·rw [← h4 h20]; exact hvm
   ·rw [((hf.ok.block b _ hB).list x hx).args h20] at hvm
    cases hvm
 obtain ⟨h0,hus⟩:=hnum
 have hx : ∀ x ∈ K.list,∀ v,v ∈ usesOf x ∨ v = noV→v.reg = true→v.n ∈ L:=fun x hx v h hr=>by
  rcases h with h|rfl
  ·exact hall _ (.inl (seqB_ins hx (seqI_val h hr)))
  ·cases hr
 refine ⟨hv _ (fun hr=>hall _ (.inl (seqB_on hr))) h0.on,fun q hq v hvm=>?_,fun x' hx'=>?_⟩
 ·obtain ⟨p,hp,rfl⟩:=List.mem_map.1 hq
  obtain ⟨w,hw,rfl⟩:=List.mem_map.1 hvm
  exact hv w (fun hr=>hall _ (.inr (seqP_val hp hw hr))) (h0.phis p hp w hw)
 ·obtain ⟨x,hxm,rfl⟩:=List.mem_map.1 hx'
  obtain ⟨h1,h2,h3⟩:=hus x hxm
  obtain ⟨g1,g2,g3,g4⟩:=h0.list x hxm
  refine ⟨?_,hv _ (hx x hxm _ h1) g2,hv _ (hx x hxm _ h2) g3,fun v' hv'=>?_⟩
  ·show inI (renR L x.dst)
   unfold renR
   by_cases h : 0 ≤ x.dst
   ·rw [if_pos h]
    exact hLl _ (hall _ (.inl (seqB_ins hxm (seqI_dst h))))
   ·rw [if_neg h]; exact g1
  ·obtain ⟨v,hvm,rfl⟩:=List.mem_map.1 hv'
   exact hv v (hx x hxm v (.inl (h3 v hvm))) (g4 v hvm)
theorem nm_whole {u : LUnit} (hu : Whole u) (T : LFunc→LFunc) (o : LFunc→List Nat) (L : LFunc→List Int) (hT : ∀ X R,FnAll X R→NmF X (T X) (o X) (L X)∧(L X).length ≤ R∧(T X).name = X.name∧(T X).params = X.params) : Whole { u with funcs:=u.funcs.map T }:=by
 refine ⟨check_map hu.ok rfl (List.length_map _) fun i X Y hX hY=>?_,fun Y hY=>?_,hu.gnums⟩
 ·simp only [List.getElem?_map,hX,Option.map_some] at hY
  obtain rfl:=Option.some.inj hY
  obtain ⟨R,h⟩:=fnAll hu.ok hX
  obtain ⟨h1,h2,h3,h4⟩:=hT X R h
  exact nm_fnTo hu.ok hX h1 h3 h4 (by have:=h.le; omega)
 ·simp only at hY
  obtain ⟨X,hX,rfl⟩:=List.mem_map.1 hY
  obtain ⟨k,hk⟩:=List.getElem?_of_mem hX
  obtain ⟨R,h⟩:=fnAll hu.ok hk
  obtain ⟨h1,h2,h3,h4⟩:=hT X R h
  exact nums_ren hu hk h1 (by have:=h.le; omega)
theorem names_turn : ∀ X R,FnAll X R→NmF X (namesF X) (orderL X.blocks) (metL X.params.toNat (keptF X))∧(metL X.params.toNat (keptF X)).length ≤ R∧(namesF X).name = X.name∧(namesF X).params = X.params :=
 fun _ _ h=>⟨names_nmF h,names_regs h,rfl,rfl⟩
theorem namesU_whole {u : LUnit} (hu : Whole u) : Whole (namesU u):=nm_whole hu namesF _ _ names_turn
theorem dfs_congr {bl bl' : List LBlock} (h : ∀ i,toOf bl' i = toOf bl i) : ∀ (f b : Nat) (st : List Bool × List Nat),dfs bl' f b st = dfs bl f b st:=by
 intro f
 induction f with
 | zero=>exact fun _ _=>rfl
 | succ f ih =>
  intro b st
  have hv : vstep bl' f = vstep bl f:=by
   funext st t
   unfold vstep
   rw [ih]
  rw [dfs_succ,dfs_succ,hv,h b]
theorem order_congr {bl bl' : List LBlock} (hl : bl'.length = bl.length) (h : ∀ i,toOf bl' i = toOf bl i) : orderL bl' = orderL bl:=by
 unfold orderL postL
 rw [hl,dfs_congr h]
theorem names_order {X : LFunc} {R : Nat} (h : FnAll X R) : orderL (namesF X).blocks = List.range (namesF X).blocks.length:=by
 have h1 : orderL (namesF X).blocks = orderL (keptF X):=order_congr (List.length_map _) (toOf_ren _ _)
 have h2 : (namesF X).blocks.length = (orderL X.blocks).length:=by
  show ((keptF X).map _).length = _
  rw [List.length_map]
  exact keptL_len _ _
 rw [h1,h2]
 exact order_self h.ok.good h.pos
theorem renB_par {n : Nat} {B : LBlock} (h : ∀ r,r ∈ seqB B ∨ r ∈ seqP B→r ∈ parL n) (hu : ∀ x ∈ B.list,(x.a ∈ usesOf x ∨ x.a = noV)∧(x.b ∈ usesOf x ∨ x.b = noV)∧∀ v ∈ x.args,v ∈ usesOf x) : renB (parL n) B = B:=by
 have hv : ∀ v : LVal,(v.reg = true→v.n ∈ parL n)→renV (parL n) v = v:=fun v hv=>by
  unfold renV
  by_cases h1 : v.reg = true
  ·rw [if_pos h1,plc_parL (hv h1)]
   obtain ⟨a,b⟩:=v
   simp only at h1
   subst h1
   rfl
  ·rw [if_neg h1]
 have hx : ∀ x ∈ B.list,∀ v,v ∈ usesOf x ∨ v = noV→renV (parL n) v = v:=fun x hx v hvm=>hv v fun hr=>by
  rcases hvm with hvm|rfl
  ·exact h _ (.inl (seqB_ins hx (seqI_val hvm hr)))
  ·cases hr
 obtain ⟨ps,l,k,on,to⟩:=B
 unfold renB
 simp only [LBlock.mk.injEq,true_and,and_true]
 refine ⟨?_,?_,hv on fun hr=>h _ (.inl (seqB_on (B:=⟨ps,l,k,on,to⟩) hr))⟩
 ·conv=>rhs; rw [← List.map_id ps]
  refine List.map_congr_left fun p hp=>?_
  unfold renP
  rw [plc_parL (h _ (.inl (seqB_phi (B:=⟨ps,l,k,on,to⟩) hp)))]
  have : p.src.map (renV (parL n)) = p.src:=by
   conv=>rhs; rw [← List.map_id p.src]
   exact List.map_congr_left fun v hvm=>hv v fun hr=>h _ (.inr (seqP_val (B:=⟨ps,l,k,on,to⟩) hp hvm hr))
  rw [this]
  rfl
 ·conv=>rhs; rw [← List.map_id l]
  refine List.map_congr_left fun x hxm=>?_
  obtain ⟨h1,h2,h3⟩:=hu x hxm
  unfold renI
  rw [hx x hxm _ h1,hx x hxm _ h2]
  have h4 : x.args.map (renV (parL n)) = x.args:=by
   conv=>rhs; rw [← List.map_id x.args]
   exact List.map_congr_left fun v hvm=>hx x hxm v (.inl (h3 v hvm))
  have h5 : renR (parL n) x.dst = x.dst:=by
   unfold renR
   by_cases h0 : 0 ≤ x.dst
   ·rw [if_pos h0,plc_parL (h _ (.inl (seqB_ins (B:=⟨ps,l,k,on,to⟩) hxm (seqI_dst h0))))]
   ·rw [if_neg h0]
  rw [h4,h5]
  rfl
structure LOk (R : Nat) (l : List Int) : Prop where
 nodup : l.Nodup
 reg : ∀ r ∈ l,0 ≤ r∧r < R
theorem LOk.len {R : Nat} {l : List Int} (h : LOk R l) : l.length ≤ R:=by
 have h1 : (l.map Int.toNat).Nodup:=nodup_mapOn h.nodup fun x hx y hy e=>by
  have:=h.reg x hx
  have:=h.reg y hy
  omega
 have h2 : ∀ x ∈ l.map Int.toNat,x ∈ List.range R:=fun x hx=>by
  obtain ⟨y,hy,rfl⟩:=List.mem_map.1 hx
  have:=h.reg y hy
  exact List.mem_range.2 (by omega)
 have:=h1.length_le_of_subset h2
 simpa using this
theorem LOk.meets {R : Nat} {l s : List Int} (h : LOk R l) (hs : ∀ r ∈ s,0 ≤ r∧r < R) : LOk R (meets l s) :=
 ⟨meets_nodup h.nodup,fun r hr=>(mem_meets.1 hr).elim (h.reg r) (hs r)⟩
theorem LOk.par {R P : Nat} (h : P ≤ R) : LOk R (parL P):=⟨parL_nodup P,fun r hr=>by have:=mem_parL.1 hr; omega⟩
theorem parL_succ (r : Nat) : meet (parL r) (r : Int) = parL (r + 1):=by
 unfold meet
 rw [if_neg (fun h=>by have:=mem_parL.1 h; omega)]
 unfold parL
 rw [List.range_succ,List.map_append]
 rfl
theorem meets_one (l : List Int) (r : Int) : meets l [r] = meet l r:=rfl
theorem uses_all {fs : List LFunc} {R : Int} {R' : Nat} {x : LIns} (h : insErr fs R x = 0) (ho : InsOk R' x) : seqV x.a++(seqV x.b++x.args.flatMap seqV) = (usesOf x).flatMap seqV:=by
 unfold insErr at h
 split at h
 ·cases h
 rename_i hop
 split at h
 ·cases h
 rename_i hs
 simp only [Bool.not_eq_true] at hs
 have hop : 1 ≤ x.op∧x.op ≤ 22:=by simp [within] at hop; omega
 have hno : ∀ v : LVal,noVal v = true→seqV v = []:=fun v hv=>by
  obtain ⟨vr,vn⟩:=v
  simp only [noVal,Bool.and_eq_true,beq_iff_eq,decide_eq_true_eq] at hv
  obtain ⟨rfl,rfl⟩:=hv
  rfl
 unfold strayB at hs
 simp only [Bool.or_eq_false_iff,Bool.and_eq_false_iff,Bool.not_eq_false',decide_eq_false_iff_not] at hs
 obtain ⟨⟨⟨_,h2⟩,h3⟩,h4⟩:=hs
 rw [uses_vals ho]
 unfold valsOf
 simp only [List.flatMap_append]
 have ha : seqV x.a = (if (shape x.op).2.1 = true then [x.a] else []).flatMap seqV:=by
  rcases h2 with h2|h2
  ·rw [if_pos h2]; simp
  ·rw [hno _ h2]
   split
   ·simp [hno _ h2]
   ·rfl
 have hb : seqV x.b = (if (shape x.op).2.2 = true then [x.b] else []).flatMap seqV:=by
  rcases h3 with h3|h3
  ·rw [if_pos h3]; simp
  ·rw [hno _ h3]
   split
   ·simp [hno _ h3]
   ·rfl
 rw [← ha,← hb]
theorem seqI_eq {fs : List LFunc} {R : Int} {R' : Nat} {x : LIns} (h : insErr fs R x = 0) (ho : InsOk R' x) : seqI x = seqV x.a++(seqV x.b++(x.args.flatMap seqV++if 0 ≤ x.dst then [x.dst] else [])):=by
 unfold seqI
 rw [← uses_all h ho]
 simp
theorem LOk.pre {R : Nat} {l m : List Int} (h : LOk R m) (hp : l <+: m) : LOk R l:=⟨h.nodup.sublist hp.sublist,fun r hr=>h.reg r (hp.subset hr)⟩
theorem renV_pre {l m : List Int} (h : l <+: m) {v : LVal} (hv : ∀ r ∈ seqV v,r ∈ l) : renV l v = renV m v:=by
 unfold renV
 split
 ·rename_i hr
  rw [plc_pre h (hv v.n (by unfold seqV; rw [if_pos hr]; simp))]
 ·rfl
theorem plc_le (L : List Int) (r : Int) : 0 ≤ plc L r∧plc L r ≤ L.length:=by
 have:=List.idxOf_le_length (a:=r) (l:=L)
 unfold plc
 omega
theorem renV_in {L : List Int} {v : LVal} (h : inI v.n) (hl : L.length ≤ 1000000) : inI (renV L v).n:=by
 unfold renV
 split
 ·have:=plc_le L v.n
  exact ⟨by simp only; omega,by simp only; omega⟩
 ·exact h
theorem renR_in {L : List Int} {r : Int} (h : inI r) (hl : L.length ≤ 1000000) : inI (renR L r):=by
 unfold renR
 split
 ·have:=plc_le L r
  exact ⟨by omega,by omega⟩
 ·exact h
theorem take_put2 {α : Type} {l : List α} {j : Nat} (h : j + 2 ≤ l.length) (a b : α) : l.take j++[a,b]++l.drop (j + 2) = (l.set j a).set (j + 1) b:=by
 apply List.ext_getElem?
 intro k
 rw [List.append_assoc]
 by_cases h1 : k < j
 ·rw [List.getElem?_append_left (by rw [List.length_take]; omega),List.getElem?_take,if_pos h1,List.getElem?_set_ne (by omega),List.getElem?_set_ne (by omega)]
 ·rw [List.getElem?_append_right (by rw [List.length_take]; omega),List.length_take,Nat.min_eq_left (by omega)]
  by_cases h2 : k = j
  ·subst h2
   rw [Nat.sub_self,List.getElem?_set_ne (by omega),List.getElem?_set_self (by omega)]
   rfl
  ·by_cases h3 : k = j + 1
   ·subst h3
    rw [show j + 1 - j = 1 by omega,List.getElem?_set_self (by rw [List.length_set]; omega)]
    rfl
   ·rw [List.getElem?_append_right (by simp; omega),List.getElem?_drop,List.getElem?_set_ne (by omega),List.getElem?_set_ne (by omega)]
    congr 1
    simp
    omega
end Go.Proofs.YtpadjpplidlfeaaDoor

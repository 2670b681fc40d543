/- Texts joined: TidyC TidyN NamesP. -/
import Derived.Test.YtpadjpplidlfeaaGreatDoorHI
import Derived.Test.YtpadjpplidlfeaaGreatDoorHY
import Derived.Test.YtpadjpplidlfeaaGreatDoorIA
namespace Go.Proofs.YtpadjpplidlfeaaGreatDoor
open Go Go.RowKit
theorem sum_le {f : Nat→Nat} : ∀ {o l : List Nat},o.Nodup→(∀ x ∈ o,x ∈ l)→(o.map f).sum ≤ (l.map f).sum
 | [],l,_,_=>by simp
 | a::o,l,hn,hs=>by
  have ha:=hs a (by simp)
  rw [List.nodup_cons] at hn
  have h1:=(List.perm_cons_erase ha).map f
  have h2:=h1.sum_nat
  have h3:=sum_le (f:=f) (o:=o) (l:=l.erase a) hn.2 fun x hx=>by
   have hne : x ≠ a:=fun e=>hn.1 (e ▸ hx)
   exact (List.mem_erase_of_ne hne).2 (hs x (by simp [hx]))
  simp only [List.map_cons,List.sum_cons] at h2 ⊢
  omega
def szB (B : LBlock) : Nat:=B.phis.length + B.list.length
theorem many_szB (bl : List LBlock) : manyL bl = (bl.map szB).sum:=rfl
theorem many_range (bl : List LBlock) : manyL bl = ((List.range bl.length).map fun b=>szB (blkAt bl b)).sum:=by
 rw [many_szB]
 congr 1
 apply List.ext_getElem?
 intro i
 rw [List.getElem?_map,List.getElem?_map]
 by_cases hi : i < bl.length
 ·rw [get_blkAt hi,List.getElem?_range hi]; rfl
 ·rw [List.getElem?_eq_none (by omega),List.getElem?_eq_none (by simp; omega)]; rfl
theorem many_keep (bl : List LBlock) (o : List Nat) : manyL (keptL bl o) = (o.map fun b=>szB (blkAt bl b)).sum:=by
 rw [many_szB]
 unfold keptL
 rw [List.map_map]
 congr 1
 refine List.map_congr_left fun b _=>?_
 simp [szB,keepB]
theorem many_keep_le {bl : List LBlock} {o : List Nat} (hk : KOk bl o) : manyL (keptL bl o) ≤ manyL bl:=by
 rw [many_keep,many_range]
 exact sum_le hk.nodup fun x hx=>List.mem_range.2 (hk.lt x hx)
theorem keep_len_le {bl : List LBlock} {o : List Nat} (hk : KOk bl o) : o.length ≤ bl.length:=by
 have:=hk.nodup.length_le_of_subset (l₂:=List.range bl.length) fun x hx=>List.mem_range.2 (hk.lt x hx)
 simpa using this
theorem many_ren (L : List Int) (bl : List LBlock) : manyL (bl.map (renB L)) = manyL bl:=by
 rw [many_szB,many_szB,List.map_map]
 congr 1
 refine List.map_congr_left fun B _=>?_
 simp [szB,renB]
structure FnAll (X : LFunc) (R : Nat) : Prop where
 regs : X.regs = R
 le : R ≤ 100
 ok : FuncOk R X.blocks
 pos : 0 < X.blocks.length
 par : 0 ≤ X.params∧X.params ≤ R
 uses : ∀ B ∈ X.blocks,∀ x ∈ B.list,∃ fs,insErr fs X.regs x = 0
theorem fnAll {u : LUnit} (hc : CheckOk u) {k : Nat} {X : LFunc} (hX : u.funcs[k]? = some X) : ∃ R,FnAll X R:=by
 obtain ⟨R,h1,h2,h3⟩:=check_func (check_zero.2 hc) hX
 have hs:=FnTo.same hc hX
 have h4:=check_head (check_zero.2 hc) hX
 have hb:=hs.body
 refine ⟨R,h1,h2,h3,by have:=hs.many; omega,by omega,fun B hB x hx=>?_⟩
 obtain ⟨b,hb2⟩:=List.getElem?_of_mem hB
 exact ⟨_,hb.list b B hb2 x hx⟩
theorem seq_bound {R : Nat} {bl : List LBlock} (hf : FuncOk R bl) {B : LBlock} (hB : B ∈ bl) {r : Int} (h : r ∈ seqB B ∨ r ∈ seqP B) : 0 ≤ r∧r < R:=by
 obtain ⟨b,hb⟩:=List.getElem?_of_mem hB
 have hbo:=hf.block b B hb
 have hv : ∀ v : LVal,ValOk R v→r ∈ seqV v→0 ≤ r∧r < R:=fun v hv hr=>by
  unfold seqV at hr
  split at hr
  ·rename_i h1
   obtain rfl:=List.mem_singleton.1 hr
   exact hv h1
  ·cases hr
 rcases h with h|h
 ·unfold seqB at h
  rcases List.mem_append.1 h with h|h
  ·obtain ⟨p,hp,rfl⟩:=List.mem_map.1 h
   exact (hbo.phis p hp).dst
  ·rcases List.mem_append.1 h with h|h
   ·obtain ⟨x,hx,h⟩:=List.mem_flatMap.1 h
    have hxo:=hbo.list x hx
    unfold seqI at h
    rcases List.mem_append.1 h with h|h
    ·obtain ⟨v,hvm,h⟩:=List.mem_flatMap.1 h
     rw [uses_vals hxo] at hvm
     exact hv v (hxo.vals v hvm) h
    ·split at h
     ·rename_i h0
      obtain rfl:=List.mem_singleton.1 h
      exact ⟨h0,hxo.dst h0⟩
     ·cases h
   ·exact hv _ hbo.on h
 ·unfold seqP at h
  obtain ⟨p,hp,h⟩:=List.mem_flatMap.1 h
  obtain ⟨v,hvm,h⟩:=List.mem_flatMap.1 h
  exact hv v ((hbo.phis p hp).vals v hvm) h
theorem met_bound {R P : Nat} {bl : List LBlock} (hf : FuncOk R bl) (hP : P ≤ R) {r : Int} (h : r ∈ metL P bl) : 0 ≤ r∧r < R:=by
 rcases mem_metL.1 h with h|⟨B,hB,h⟩|⟨B,hB,h⟩
 ·have:=mem_parL.1 h
  omega
 ·exact seq_bound hf hB (.inl h)
 ·exact seq_bound hf hB (.inr h)
theorem names_regs {X : LFunc} {R : Nat} (h : FnAll X R) : (metL X.params.toNat (keptF X)).length ≤ R:=by
 have hp:=h.par
 exact met_len fun r hr=>met_bound (keep_funcOk h.ok (orderK_ok h.ok.good h.pos)) (show X.params.toNat ≤ R by omega) (mem_once.2 hr)
structure LOk (R : Nat) (l : List Int) : Prop where
 nodup : l.Nodup
 reg : ∀ r ∈ l,0 ≤ r∧r < R
theorem LOk.len {R : Nat} {l : List Int} (h : LOk R l) : l.length ≤ R:=by
 have h1 : (l.map Int.toNat).Nodup:=nodup_mapOn h.nodup fun x hx y hy e=>by
  have:=h.reg x hx
  have:=h.reg y hy
  omega
 have h2 : ∀ x ∈ l.map Int.toNat,x ∈ List.range R:=fun x hx=>by
  obtain ⟨y,hy,rfl⟩:=List.mem_map.1 hx
  have:=h.reg y hy
  exact List.mem_range.2 (by omega)
 have:=h1.length_le_of_subset h2
 simpa using this
theorem LOk.meets {R : Nat} {l s : List Int} (h : LOk R l) (hs : ∀ r ∈ s,0 ≤ r∧r < R) : LOk R (meets l s) :=
 ⟨meets_nodup h.nodup,fun r hr=>(mem_meets.1 hr).elim (h.reg r) (hs r)⟩
theorem LOk.par {R P : Nat} (h : P ≤ R) : LOk R (parL P):=⟨parL_nodup P,fun r hr=>by have:=mem_parL.1 hr; omega⟩
theorem parL_succ (r : Nat) : meet (parL r) (r : Int) = parL (r + 1):=by
 unfold meet
 rw [if_neg (fun h=>by have:=mem_parL.1 h; omega)]
 unfold parL
 rw [List.range_succ,List.map_append]
 rfl
theorem meets_one (l : List Int) (r : Int) : meets l [r] = meet l r:=rfl
theorem uses_all {fs : List LFunc} {R : Int} {R' : Nat} {x : LIns} (h : insErr fs R x = 0) (ho : InsOk R' x) : seqV x.a++(seqV x.b++x.args.flatMap seqV) = (usesOf x).flatMap seqV:=by
 unfold insErr at h
 split at h
 ·cases h
 rename_i hop
 split at h
 ·cases h
 rename_i hs
 simp only [Bool.not_eq_true] at hs
 have hop : 1 ≤ x.op∧x.op ≤ 22:=by simp [within] at hop; omega
 have hno : ∀ v : LVal,noVal v = true→seqV v = []:=fun v hv=>by
  obtain ⟨vr,vn⟩:=v
  simp only [noVal,Bool.and_eq_true,beq_iff_eq,decide_eq_true_eq] at hv
  obtain ⟨rfl,rfl⟩:=hv
  rfl
 unfold strayB at hs
 simp only [Bool.or_eq_false_iff,Bool.and_eq_false_iff,Bool.not_eq_false',decide_eq_false_iff_not] at hs
 obtain ⟨⟨⟨_,h2⟩,h3⟩,h4⟩:=hs
 rw [uses_vals ho]
 unfold valsOf
 simp only [List.flatMap_append]
 have ha : seqV x.a = (if (shape x.op).2.1 = true then [x.a] else []).flatMap seqV:=by
  rcases h2 with h2|h2
  ·rw [if_pos h2]; simp
  ·rw [hno _ h2]
   split
   ·simp [hno _ h2]
   ·rfl
 have hb : seqV x.b = (if (shape x.op).2.2 = true then [x.b] else []).flatMap seqV:=by
  rcases h3 with h3|h3
  ·rw [if_pos h3]; simp
  ·rw [hno _ h3]
   split
   ·simp [hno _ h3]
   ·rfl
 rw [← ha,← hb]
theorem seqI_eq {fs : List LFunc} {R : Int} {R' : Nat} {x : LIns} (h : insErr fs R x = 0) (ho : InsOk R' x) : seqI x = seqV x.a++(seqV x.b++(x.args.flatMap seqV++if 0 ≤ x.dst then [x.dst] else [])):=by
 unfold seqI
 rw [← uses_all h ho]
 simp
theorem LOk.pre {R : Nat} {l m : List Int} (h : LOk R m) (hp : l <+: m) : LOk R l:=⟨h.nodup.sublist hp.sublist,fun r hr=>h.reg r (hp.subset hr)⟩
theorem renV_pre {l m : List Int} (h : l <+: m) {v : LVal} (hv : ∀ r ∈ seqV v,r ∈ l) : renV l v = renV m v:=by
 unfold renV
 split
 ·rename_i hr
  rw [plc_pre h (hv v.n (by unfold seqV; rw [if_pos hr]; simp))]
 ·rfl
theorem plc_le (L : List Int) (r : Int) : 0 ≤ plc L r∧plc L r ≤ L.length:=by
 have:=List.idxOf_le_length (a:=r) (l:=L)
 unfold plc
 omega
theorem renV_in {L : List Int} {v : LVal} (h : inI v.n) (hl : L.length ≤ 1000000) : inI (renV L v).n:=by
 unfold renV
 split
 ·have:=plc_le L v.n
  exact ⟨by simp only; omega,by simp only; omega⟩
 ·exact h
theorem renR_in {L : List Int} {r : Int} (h : inI r) (hl : L.length ≤ 1000000) : inI (renR L r):=by
 unfold renR
 split
 ·have:=plc_le L r
  exact ⟨by omega,by omega⟩
 ·exact h
theorem take_put2 {α : Type} {l : List α} {j : Nat} (h : j + 2 ≤ l.length) (a b : α) : l.take j++[a,b]++l.drop (j + 2) = (l.set j a).set (j + 1) b:=by
 apply List.ext_getElem?
 intro k
 rw [List.append_assoc]
 by_cases h1 : k < j
 ·rw [List.getElem?_append_left (by rw [List.length_take]; omega),List.getElem?_take,if_pos h1,List.getElem?_set_ne (by omega),List.getElem?_set_ne (by omega)]
 ·rw [List.getElem?_append_right (by rw [List.length_take]; omega),List.length_take,Nat.min_eq_left (by omega)]
  by_cases h2 : k = j
  ·subst h2
   rw [Nat.sub_self,List.getElem?_set_ne (by omega),List.getElem?_set_self (by omega)]
   rfl
  ·by_cases h3 : k = j + 1
   ·subst h3
    rw [show j + 1 - j = 1 by omega,List.getElem?_set_self (by rw [List.length_set]; omega)]
    rfl
   ·rw [List.getElem?_append_right (by simp; omega),List.getElem?_drop,List.getElem?_set_ne (by omega),List.getElem?_set_ne (by omega)]
    congr 1
    simp
    omega
end Go.Proofs.YtpadjpplidlfeaaGreatDoor

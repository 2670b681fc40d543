/- Texts joined: Fit. -/
import Derived.Test.YtdbljcahlpkgdaaGreatDoorGD
import Derived.Test.YtdbljcahlpkgdaaGreatDoorGF
import Derived.Test.YtdbljcahlpkgdaaGreatDoorHE
namespace Go.Proofs.YtdbljcahlpkgdaaGreatDoor
open Go Go.RowKit
theorem lens_of {X : LFunc} (h : lightF X) : ∀ B ∈ X.blocks,B.list.length ≤ 1000∧B.phis.length ≤ 1000:=fun B hB=>by
 have h1 : ((B.phis.length + B.list.length : Nat) : Int) ≤ sizeOfBs X.blocks:=by
  unfold sizeOfBs
  generalize X.blocks = l at hB
  induction l with
  | nil=>cases hB
  | cons C l ih =>
   have hnn : ∀ m : List LBlock,0 ≤ (m.map fun b=>((b.phis.length + b.list.length : Nat) : Int)).sum:=fun m=>by
    induction m with
    | nil=>simp
    | cons D m ih=>simp only [List.map_cons,List.sum_cons]; omega
   simp only [List.map_cons,List.sum_cons]
   rcases List.mem_cons.1 hB with rfl|hB
   ·have:=hnn l; omega
   ·have:=ih hB; omega
 have:=h.2
 omega
structure BlkNums (B : LBlock) : Prop where
 on : inI B.on.n
 phis : ∀ q ∈ B.phis,∀ v ∈ q.src,inI v.n
 list : ∀ x ∈ B.list,inI x.dst∧inI x.a.n∧inI x.b.n∧∀ v ∈ x.args,inI v.n
theorem SlAt.el {α : Type} {w : World} {v : Value} {s : Nat} {l : List α} {V : World→α→List Value→Prop} (h : SlAt w v s l V) {x : α} (hx : x ∈ l) : ∃ cs,V w x cs:=by
 obtain ⟨_,_,_,_,_,_,_,_,_,_,_,hel⟩:=h
 obtain ⟨i,hi⟩:=List.getElem?_of_mem hx
 obtain ⟨cs,_,hV⟩:=hel i x hi
 exact ⟨cs,hV⟩
theorem nums_of {w : World} {fs : Value} {fl : List LFunc} (h : SlAt w fs 4 fl FuncV) : ∀ X ∈ fl,∀ B ∈ X.blocks,BlkNums B:=fun X hX B hB=>by
 obtain ⟨_,bv,_,_,_,hbv⟩:=h.el hX
 obtain ⟨_,pv,lv,tv,_,_,hon,hpv,hlv,_⟩:=hbv.el hB
 refine ⟨hon,fun q hq v hv=>?_,fun x hx=>?_⟩
 ·obtain ⟨_,sv,_,_,hsv⟩:=hpv.el hq
  obtain ⟨_,_,h9⟩:=hsv.el hv
  exact h9
 ·obtain ⟨_,av,_,_,h1,h2,h3,_,hav⟩:=hlv.el hx
  exact ⟨h1,h2,h3,fun v hv=>by obtain ⟨_,_,h9⟩:=hav.el hv; exact h9⟩
theorem gnums_of {w : World} {g : Value} {gl : List LGlobal} (h : SlAt w g 3 gl GlobalV) : ∀ G ∈ gl,∀ x ∈ G.init,inI x:=fun G hG x hx=>by
 obtain ⟨_,iv,_,_,hiv⟩:=h.el hG
 obtain ⟨_,_,h9⟩:=hiv.el hx
 exact h9
theorem ins_fit {u : LUnit} {R : Nat} {x : LIns} (hp : ∀ X ∈ u.funcs,X.params ≤ 100) (h : insErr u.funcs R x = 0) (hn : inI x.dst∧inI x.a.n∧inI x.b.n∧∀ v ∈ x.args,inI v.n) : InsFit u R x:=by
 have hok:=insErr_ok h
 unfold insErr at h
 split at h
 ·cases h
 split at h
 ·cases h
 split at h
 ·rename_i h3
  simp only [Bool.and_eq_true,Bool.not_eq_true',decide_eq_false_iff_not] at h3
  exact absurd h h3.2
 split at h
 ·rename_i h4; exact absurd h h4
 rename_i h4
 split at h
 ·rename_i h5; exact absurd h h5
 rename_i h5
 simp only [ne_eq,Decidable.not_not] at h4 h5
 have hcall : x.op = 20→(∃ (k : Nat) (Y : LFunc),x.fn = k∧u.funcs[k]? = some Y∧(x.args.length : Int) = Y.params)∧∀ v ∈ x.args,ValOk R v:=fun e=>by
  unfold callErr at h
  rw [if_neg (by simpa using e)] at h
  split at h
  ·cases h
  rename_i h6
  split at h
  ·cases h
  rename_i h7
  simp only [within,Bool.not_eq_true',Bool.and_eq_false_iff,decide_eq_false_iff_not,not_or,Decidable.not_not] at h6
  have hlt : x.fn.toNat < u.funcs.length:=by omega
  simp only [at0,List.getElem?_eq_getElem hlt,ne_eq,Decidable.not_not] at h7
  exact ⟨⟨x.fn.toNat,u.funcs[x.fn.toNat],by omega,List.getElem?_eq_getElem hlt,h7⟩,fun v hv=>valErr_ok (at0_all h v hv)⟩
 refine ⟨hok.op,valErr_ok h4,valErr_ok h5,hok.dst,fun v hv=>?_,?_,fun e=>(hcall e).1,hn⟩
 ·by_cases e : x.op = 20
  ·exact (hcall e).2 v hv
  ·rw [hok.args e] at hv; cases hv
 ·by_cases e : x.op = 20
  ·obtain ⟨k,Y,_,hY,h9⟩:=(hcall e).1
   have:=hp Y (List.mem_of_getElem? hY)
   omega
  ·rw [hok.args e]; simp
theorem end_fit {n R : Nat} {b : LBlock} (h : endErr n R b = 0) : (b.kind = 1 ∨ b.kind = 2 ∨ b.kind = 3)∧(b.to.length : Int) = b.kind - 1:=by
 unfold endErr endE at h
 split at h
 ·cases h
 rename_i h1
 split at h
 ·cases h
 rename_i h2
 simp only [within,Bool.not_eq_true',Bool.and_eq_false_iff,decide_eq_false_iff_not,not_or,Decidable.not_not] at h1
 simp only [ne_eq,Decidable.not_not] at h2
 exact ⟨by omega,h2⟩
theorem unit_fit {u : LUnit} (hl : light u) (h : (checkL u).1 = 0) (hn : ∀ X ∈ u.funcs,∀ B ∈ X.blocks,BlkNums B) : UnitFit u:=by
 have hlen:=hl.1
 refine ⟨by omega,fun k X hX=>?_⟩
 have hXm:=List.mem_of_getElem? hX
 have hp : ∀ X ∈ u.funcs,X.params ≤ 100:=fun Y hY=>by
  obtain ⟨j,hj⟩:=List.getElem?_of_mem hY
  have:=check_head h hj
  omega
 have hh:=check_head h hX
 have hbe:=check_bodies h X hXm
 have hlens:=lens_of (hl.2 X hXm)
 have hR : X.regs = (X.regs.toNat : Nat):=by omega
 have hfo:=func_okF hR hbe
 have hb24:=(hl.2 X hXm).1
 refine ⟨X.regs.toNat,hR,by omega,hfo,check_pos h hX,by omega,⟨hh.1,by omega⟩,fun B hB=>?_⟩
 obtain ⟨b,hb⟩:=List.getElem?_of_mem hB
 have hBok:=hfo.block b B hb
 have hnB:=hn X hXm B hB
 unfold bodyErr at hbe
 split at hbe
 ·rename_i h1; exact absurd hbe h1
 rename_i h1
 have hend:=at0_all (by simpa using h1 : (firstI (at0 X.blocks (endErr X.blocks.length X.regs)) X.blocks.length).1 = 0) B hB
 have hbb:=firstI_zero hbe b (List.getElem?_eq_some_iff.1 hb).1
 simp only [blockErr,hb] at hbb
 split at hbb
 ·rename_i h2; exact absurd hbb h2
 have hins:=at0_all hbb
 rw [hR] at hend hins
 exact ⟨end_fit hend,⟨hBok.on,hnB.on⟩,⟨(hlens B hB).1,fun x hx=>ins_fit hp (hins x hx) (hnB.list x hx)⟩,⟨(hlens B hB).2,hnB.phis⟩⟩
theorem check_start {u : LUnit} (h : (checkL u).1 = 0) (hn : ∀ G ∈ u.globals,∀ x ∈ G.init,inI x) : StartOk u:=by
 unfold checkL at h
 split at h
 ·cases h
 rename_i h1
 split at h
 ·rename_i h2; exact absurd h h2
 rename_i h2
 split at h
 ·rename_i h3; exact absurd h h3
 split at h
 ·rename_i h3; exact absurd h h3
 split at h
 ·cases h
 rename_i h4
 refine ⟨by omega,fun G hG=>?_,hn,by omega,?_⟩
 ·have hz:=firstI_zero (by simpa using h2)
  obtain ⟨j,hj⟩:=List.getElem?_of_mem hG
  have:=hz j (List.getElem?_eq_some_iff.1 hj).1
  simp only [globAt,at0,hj,globErr] at this
  split at this
  ·cases this
  split at this
  ·cases this
  split at this
  ·cases this
  rename_i h5
  split at this
  ·cases this
  rename_i h6
  simp only [within,Bool.not_eq_true',Bool.and_eq_false_iff,decide_eq_false_iff_not,not_or,Decidable.not_not] at h5
  omega
 ·unfold mainAt at h4 ⊢
  cases hf : u.funcs.findIdx? isMain with
  | none=>rw [hf] at h4; simp at h4
  | some i =>
   have hi:=(List.findIdx?_eq_some_iff_getElem.1 hf).1
   exact ⟨i,u.funcs[i],rfl,List.getElem?_eq_getElem hi⟩
end Go.Proofs.YtdbljcahlpkgdaaGreatDoor

/- Texts joined: JoinedR TidyR. -/
import Derived.Test.YtpadjpplidlfeaaDoorGD
import Derived.Test.YtpadjpplidlfeaaDoorGE
import Derived.Test.YtpadjpplidlfeaaDoorGI
import Derived.Test.YtpadjpplidlfeaaDoorHA
import Derived.Test.YtpadjpplidlfeaaDoorHJ
import Derived.Test.YtpadjpplidlfeaaDoorHQ
import Derived.Test.YtpadjpplidlfeaaDoorHS
import Derived.Test.YtpadjpplidlfeaaDoorHW
import Derived.Test.YtpadjpplidlfeaaDoorIB
import Derived.Test.YtpadjpplidlfeaaDoorID
import Derived.Test.YtpadjpplidlfeaaDoorIE
import Derived.Test.YtpadjpplidlfeaaDoorIH
import Derived.Test.YtpadjpplidlfeaaDoorIK
import Derived.Test.YtpadjpplidlfeaaDoorIL
namespace Go.Proofs.YtpadjpplidlfeaaDoor
open Go Go.RowKit
attribute [local irreducible] wpListIn Code.wpIn Exit.then Exit.inBlock bodyPost wpQuiet wpAnyIn wpAnyH bodyPostM oneH
set_option maxHeartbeats 8000000
theorem flat_tail {α : Type} {g : α→List Value} {s : Nat} (hg : ∀ x,(g x).length = s) {l : List α} {i k : Nat} {x y : α} (hi : l[i]? = some x) {vs : List Value} (hk : k + vs.length = s) (hy : (g x).take k++vs = g y) : (l.flatMap g).take (i * s + k)++vs++(l.flatMap g).drop (i * s + k + vs.length) = (l.set i y).flatMap g:=by
 have hil:=(List.getElem?_eq_some_iff.1 hi).1
 rw [← flat_put hg hil y,← hy]
 have e1 : i * s + k + vs.length = i * s + s:=by omega
 rw [e1]
 congr 1
 rw [List.take_add,← List.append_assoc]
 congr 2
 have e2:=(flat_cut hg l i).2
 rw [e2,List.drop_eq_getElem_cons hil,List.flatMap_cons,List.take_append_of_le_length (by rw [hg]; omega),(List.getElem?_eq_some_iff.1 hi).2]
theorem pull2 {α β : Type} (f : α→β) {l : List α} {b t : Nat} {B T : α} (hb : l[b]? = some B) (ht : l[t]? = some T) (hne : b ≠ t) : ∃ R : List β,(l.map f).Perm (f B::f T::R)∧∀ c x,l[c]? = some x→c ≠ b→c ≠ t→f x ∈ R:=by
 have hbl:=(List.getElem?_eq_some_iff.1 hb).1
 have htl:=(List.getElem?_eq_some_iff.1 ht).1
 obtain ⟨h,hh⟩ : ∃ h : Nat→β,h = fun c=>f (l[c]?.getD B):=⟨_,rfl⟩
 have h1 : l.map f = (List.range l.length).map h:=by
  apply List.ext_getElem?
  intro j
  rw [List.getElem?_map,List.getElem?_map]
  by_cases hj : j < l.length
  ·rw [List.getElem?_range hj,List.getElem?_eq_getElem hj,hh]
   simp [List.getElem?_eq_getElem hj]
  ·rw [List.getElem?_eq_none (by omega),List.getElem?_eq_none (by rw [List.length_range]; omega)]; rfl
 have h2 : (List.range l.length).Perm (b::t::(List.range l.length).filter fun c=>decide (c ≠ b∧c ≠ t)):=by
  refine (List.perm_ext_iff_of_nodup List.nodup_range ?_).2 fun x=>?_
  ·rw [List.nodup_cons,List.nodup_cons]
   refine ⟨?_,?_,List.nodup_range.sublist List.filter_sublist⟩
   ·rw [List.mem_cons,List.mem_filter]
    simp [hne]
   ·rw [List.mem_filter]
    simp
  ·rw [List.mem_cons,List.mem_cons,List.mem_filter,List.mem_range,decide_eq_true_eq]
   constructor
   ·intro hx
    by_cases e1 : x = b
    ·exact .inl e1
    ·by_cases e2 : x = t
     ·exact .inr (.inl e2)
     ·exact .inr (.inr ⟨hx,e1,e2⟩)
   ·rintro (rfl|rfl|⟨hx,_⟩)
    ·exact hbl
    ·exact htl
    ·exact hx
 refine ⟨((List.range l.length).filter fun c=>decide (c ≠ b∧c ≠ t)).map h,?_,fun c x hx e1 e2=>?_⟩
 ·have e3 : h b = f B:=by rw [hh]; simp only [hb,Option.getD_some]
  have e4 : h t = f T:=by rw [hh]; simp only [ht,Option.getD_some]
  rw [h1,← e3,← e4]
  exact h2.map h
 ·refine List.mem_map.2 ⟨c,List.mem_filter.2 ⟨List.mem_range.2 (List.getElem?_eq_some_iff.1 hx).1,by simp [e1,e2]⟩,?_⟩
  rw [hh]
  simp only [hx,Option.getD_some]
theorem list_two (bl : List LBlock) (c d : Nat) : (blkAt bl c).list.length + (blkAt bl d).list.length ≤ manyL bl ∨ c = d:=by
 by_cases e : c = d
 ·exact .inr e
 refine .inl ?_
 have h0 : ∀ x,¬ x < bl.length→(blkAt bl x).list.length = 0:=fun x hx=>by rw [blkAt_none hx]; rfl
 have h1 : ∀ x,x < bl.length→(blkAt bl x).list.length ≤ manyL bl:=fun x hx=>by
  have h2:=(map_pull szB (get_blkAt hx)).sum_nat
  rw [List.sum_cons] at h2
  rw [many_szB]
  have h3 : (blkAt bl x).list.length ≤ szB (blkAt bl x):=by unfold szB; omega
  omega
 by_cases hc : c < bl.length
 ·by_cases hd : d < bl.length
  ·obtain ⟨R,hR,_⟩:=pull2 szB (get_blkAt hc) (get_blkAt hd) e
   have h2:=hR.sum_nat
   rw [List.sum_cons,List.sum_cons] at h2
   rw [many_szB,h2]
   unfold szB
   omega
  ·rw [h0 d hd]
   have:=h1 c hc
   omega
 ·rw [h0 c hc]
  by_cases hd : d < bl.length
  ·have:=h1 d hd
   omega
  ·rw [h0 d hd]
   omega
end Go.Proofs.YtpadjpplidlfeaaDoor

/- Texts joined: TrimP Thin. -/
import Derived.Test.YtpadjpplidlfeaaDoorGF
import Derived.Test.YtpadjpplidlfeaaDoorHN
namespace Go.Proofs.YtpadjpplidlfeaaDoor
open Go Go.RowKit
theorem modify_one {α : Type} (l : List α) (f g : α→α) (b : Nat) : (l.modify b f).modify b g = l.modify b fun x=>g (f x):=by
 apply List.ext_getElem?
 intro m
 simp only [List.getElem?_modify]
 cases l[m]? with
 | none=>rfl
 | some x =>
  simp only [Option.map_eq_map,Option.map_some]
  by_cases h1 : b = m <;> simp [h1]
section
variable {u v : LUnit} {W : Int} {pos : Nat→Nat→Nat→Nat}
theorem Alike.refl (f : Fin) : Alike f f:=⟨rfl,rfl,rfl⟩
theorem Alike.trans {f g h : Fin} (a : Alike f g) (b : Alike g h) : Alike f h:=⟨b.state.trans a.state,b.value.trans a.value,b.out.trans a.out⟩
def NoMore (u v : LUnit) : Prop:=∀ (inp : List Int) (f m : Nat),(∀ x ∈ inp,inI x)→(resultM u inp f).state ≠ 1→f ≤ m→Alike (resultM u inp f) (resultM v inp m)∧(resultM v inp m).steps ≤ (resultM u inp f).steps
theorem run_more (u : LUnit) : ∀ (n m : Nat) (s : Mac),(runM u n s).state ≠ 1→n ≤ m→runM u m s = runM u n s
 | 0,_,_,h,_=>absurd rfl h
 | n + 1,m,s,h,hm=>by
  obtain ⟨m,rfl⟩ : ∃ q,m = q + 1:=⟨m - 1,by omega⟩
  rw [runM] at h ⊢
  rw [runM]
  cases he : stepM u s with
  | inl s' =>
   rw [he] at h
   exact run_more u n m s' h (by omega)
  | inr f=>rfl
theorem NoMore.refl (u : LUnit) : NoMore u u:=fun inp f m _ h hm=>by
 have : resultM u inp m = resultM u inp f:=run_more u f m _ h hm
 rw [this]
 exact ⟨.refl _,Nat.le_refl _⟩
theorem NoMore.trans {a b c : LUnit} (h : NoMore a b) (k : NoMore b c) : NoMore a c:=fun inp f m hin h1 hm=>by
 obtain ⟨h2,h3⟩:=h inp f f hin h1 (Nat.le_refl _)
 obtain ⟨h4,h5⟩:=k inp f m hin (by rw [h2.state]; exact h1) hm
 exact ⟨h2.trans h4,Nat.le_trans h5 h3⟩
end
structure Whole (u : LUnit) : Prop where
 ok : CheckOk u
 nums : UNums u
 gnums : GNums u
theorem Whole.fit {u : LUnit} (h : Whole u) : UnitFit u:=unit_fit (check_light h.ok) (check_zero.2 h.ok) h.nums
theorem Whole.start {u : LUnit} (h : Whole u) : StartOk u:=check_start (check_zero.2 h.ok) h.gnums
def putB (X : LFunc) (bl : List LBlock) : LFunc:={ X with blocks:=bl }
def putU (u : LUnit) (k : Nat) (bl : List LBlock) : LUnit:={ u with funcs:=u.funcs.modify k fun X=>putB X bl }
theorem putU_get (u : LUnit) (k : Nat) (bl : List LBlock) (j : Nat) : (putU u k bl).funcs[j]? = if k = j then (u.funcs[j]?).map (fun X=>putB X bl) else u.funcs[j]?:=by
 unfold putU
 simp only
 rw [List.getElem?_modify]
 by_cases e : k = j
 ·simp only [e,if_true]; rfl
 ·simp only [e,if_false,id_map']
end Go.Proofs.YtpadjpplidlfeaaDoor

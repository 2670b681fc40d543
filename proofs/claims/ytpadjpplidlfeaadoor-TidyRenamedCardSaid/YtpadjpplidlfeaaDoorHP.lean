/- Texts joined: TrimP Thin. -/
import Derived.Test.YtpadjpplidlfeaaDoorGF
import Derived.Test.YtpadjpplidlfeaaDoorHN
namespace Go.Proofs.YtpadjpplidlfeaaDoor
open Go Go.RowKit
section
variable {u v : LUnit} {W : Int} {pos : Nat→Nat→Nat→Nat}
def NoMore (u v : LUnit) : Prop:=∀ (inp : List Int) (f m : Nat),(∀ x ∈ inp,inI x)→(resultM u inp f).state ≠ 1→f ≤ m→Alike (resultM u inp f) (resultM v inp m)∧(resultM v inp m).steps ≤ (resultM u inp f).steps
theorem run_more (u : LUnit) : ∀ (n m : Nat) (s : Mac),(runM u n s).state ≠ 1→n ≤ m→runM u m s = runM u n s
 | 0,_,_,h,_=>absurd rfl h
 | n + 1,m,s,h,hm=>by
  obtain ⟨m,rfl⟩ : ∃ q,m = q + 1:=⟨m - 1,by omega⟩
  rw [runM] at h ⊢
  rw [runM]
  cases he : stepM u s with
  | inl s' =>
   rw [he] at h
   exact run_more u n m s' h (by omega)
  | inr f=>rfl
end
structure Whole (u : LUnit) : Prop where
 ok : CheckOk u
 nums : UNums u
 gnums : GNums u
theorem Whole.fit {u : LUnit} (h : Whole u) : UnitFit u:=unit_fit (check_light h.ok) (check_zero.2 h.ok) h.nums
theorem Whole.start {u : LUnit} (h : Whole u) : StartOk u:=check_start (check_zero.2 h.ok) h.gnums
end Go.Proofs.YtpadjpplidlfeaaDoor

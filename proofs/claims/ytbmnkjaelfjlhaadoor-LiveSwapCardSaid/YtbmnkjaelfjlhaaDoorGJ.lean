/- Texts joined: LiveK. -/
import Derived.Test.YtbmnkjaelfjlhaaDoorGI
/- The laws LiveIns and LiveOuts, walked. -/
namespace Go.Proofs.YtbmnkjaelfjlhaaDoor
open Go Go.RowKit
attribute [local irreducible] wpListIn Code.wpIn Exit.then Exit.inBlock bodyPost wpQuiet wpAnyIn wpAnyH
set_option maxHeartbeats 4000000

/-- a sum that fits -/
class AddOk (m n : Int) : Prop where
  lo : -9223372036854775808 ≤ m + n
  hi : m + n ≤ 9223372036854775807
instance {P : Program} {N : Nat} {ds : List Deferred} {S : Nat → Prop} {w0 : World} {L : List (Nat × Value)} {H : List Ent} {x y : Operand} {T T2 : Nat} {m n : Int} [hx : Ev L x (.int .i64 m)] [hy : Ev L y (.int .i64 n)] [h : AddOk m n] : RunsC P N ds S w0 L H (.binOp .add T x y T2) (.int .i64 (m + n)) := by
  have := runs_addW (P := P) (N := N) (ds := ds) (S := S) (w0 := w0) (L := L) (H := H) (x := x) (y := y) (T := T) (T2 := T2) (m := m) (n := n)
  rwa [wrap_in _ h.lo h.hi] at this
theorem intsL_bd {bl : List LBlock} {R : Nat} {s : Sp} (hR : R ≤ 100) : (intsL (liveN bl R s)).length ≤ 1000 ∧ ∀ x ∈ intsL (liveN bl R s), inI x := by
  have := liveN_len (bl := bl) (R := R) (s := s)
  refine ⟨by simp [intsL]; omega, fun x hx => ?_⟩
  obtain ⟨y, hy, rfl⟩ := List.mem_map.1 hx
  have := liveN_lt hy
  simp only [inI]
  omega
theorem inG_get {bl : List LBlock} {R b : Nat} (hb : b < bl.length) : (inG bl R)[b]? = some (intsL (liveN bl R (b, -1))) := by
  unfold inG
  rw [List.getElem?_map, List.getElem?_range hb]; rfl
end Go.Proofs.YtbmnkjaelfjlhaaDoor


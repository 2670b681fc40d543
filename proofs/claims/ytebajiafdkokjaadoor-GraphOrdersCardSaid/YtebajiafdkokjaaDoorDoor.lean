/- From the form's reading of a unit and a number to the walks' facts; the table of code.ways; a world for the witness. Shared by the laws of this seat. -/
import Derived.Test.YtebajiafdkokjaaDoorCards
import Derived.Test.YtebajiafdkokjaaDoorTie
import Derived.Test.YtebajiafdkokjaaDoorOpen
import Derived.Test.YtebajiafdkokjaaDoorCheckD
import Derived.ProofKit
import Derived.OpenShut
import Derived.Deep.DeepHandedRow
import Derived.Lib.LaidTab
namespace Go.Proofs.YtebajiafdkokjaaDoor
open Go Go.RowKit Go.ChangeShapes Go.WideShapes Go.ChangeAt
set_option maxRecDepth 100000

def waysLaid : List (String × DataW Unit) := [("turnery/code.ways", Rows.laid_turnery_code_ways)]
theorem gWays : Tryd.prog.globalNamed "turnery/code.ways" = some 0 := by kernel_rfl
theorem gWaysType : (Tryd.prog.globals[0]?).map (·.type) = some 160 := by kernel_rfl
theorem cWays : Tryd.prog.cellsOf 160 = 4 := by kernel_rfl
theorem ways_of {W : World} (h : laidMetH Tryd.prog waysLaid W) : CellsAt W 0 0 waysC := by
  have ht : Lib.TabIs Tryd.prog W "turnery/code.ways" .i64 [0, 0, 1, 2] := Lib.tabIs_of_head (rest := []) gWays gWaysType Tryd.underlying160 Tryd.underlying3 cInt cWays h
  intro j v hj
  rw [Nat.zero_add]
  match j, hj with
  | 0, hj => simp only [waysC, List.getElem?_cons_zero, Option.some.injEq] at hj; subst hj; exact ht.cell gWays 0 (by decide)
  | 1, hj => simp only [waysC, List.getElem?_cons_succ, List.getElem?_cons_zero, Option.some.injEq] at hj; subst hj; exact ht.cell gWays 1 (by decide)
  | 2, hj => simp only [waysC, List.getElem?_cons_succ, List.getElem?_cons_zero, Option.some.injEq] at hj; subst hj; exact ht.cell gWays 2 (by decide)
  | 3, hj => simp only [waysC, List.getElem?_cons_succ, List.getElem?_cons_zero, Option.some.injEq] at hj; subst hj; exact ht.cell gWays 3 (by decide)
  | j + 4, hj => simp [waysC] at hj
theorem sized_all {l : List Nat} (h : l.all (· ≤ reachBytes) = true) : ∀ k ∈ l, k ≤ reachBytes := by
  intro k hk
  have := List.all_eq_true.1 h k hk
  simpa using this

/-- a unit and a number, as a law gets them -/
theorem open_ui {H : Type} {enc : TypeId × Value → H} {W : World} {args : Array Value} {ds : List (DataW H)} {p : List MemPlace} {base : Nat} {params : Array TypeId} (hp : params = #[25, 3])
    (h1 : ∀ (j : Nat) t v, params[j]? = some t → args[j]? = some v → Value.okWide Tryd.prog W .any base t v)
    (hA : DataW.TrodAll enc Tryd.prog W 0 (fun _ => true) true [25, 3] args.toList ds p) (hz : ∀ k ∈ DataW.weightsEach Tryd.prog [25, 3] ds, k ≤ reachBytes) :
    ∃ (u : LUnit) (g fs : Value) (k : Int), args = #[.agg #[g, fs], .int .i64 k] ∧ SlAt W g 3 u.globals GlobalV ∧ SlAt W fs 4 u.funcs FuncV ∧ inI k := by
  subst hp
  obtain ⟨v0, vs0, d0, ds0, p0, q0, hargs, rfl, rfl, h0, r0⟩ := trodAll_cons hA
  obtain ⟨v1, vs1, d1, ds1, p1, q1, rfl, rfl, rfl, h1', r1⟩ := trodAll_cons r0
  obtain ⟨rfl, rfl, rfl⟩ := trodAll_nil r1
  obtain rfl : args = #[v0, v1] := by cases args; simp_all
  obtain ⟨cs0, rfl, _⟩ := okWide_struct Tryd.underlying25 (h1 0 25 v0 rfl rfl)
  obtain ⟨f0, k0⟩ := h0
  obtain ⟨f1, k1⟩ := h1'
  obtain ⟨cs0⟩ := cs0
  have hz0 : Small Tryd.prog 25 d0 := fun k hk => hz k (mem_weightsEach (i := 0) rfl rfl hk)
  obtain ⟨u, g, f, e0, hg, hf⟩ := o_unit k0 hz0
  have hv1 : v1.cells = #[v1] := by
    obtain ⟨n, rfl, _⟩ := okWide_int Tryd.underlying3 (h1 1 3 v1 rfl rfl)
    rfl
  obtain ⟨n, e1, hn⟩ := o_int k1
  simp only [Value.cells] at e0
  subst e0
  rw [hv1] at e1
  simp only [List.cons.injEq, and_true] at e1
  subst e1
  exact ⟨u, g, f, n, rfl, hg, hf, hn⟩

/-- a world for the witness: the settled one, the table holding what its initialiser lays -/
noncomputable def laidWorld (os : Os) : World :=
  { World.holding Tryd.prog os ⟨#[], #[], []⟩ with heap := (World.holding Tryd.prog os ⟨#[], #[], []⟩).heap.modify 0 fun
      | .cells _ t frozen => .cells #[.int .i64 0, .int .i64 0, .int .i64 1, .int .i64 2] t frozen
      | o => o }
def argsUI : Array Value := #[.agg #[.slice none 0 0, .slice none 0 0], .int .i64 0]
theorem laid_met (os : Os) (args : Array Value) : laidMet Tryd.prog waysLaid ((laidWorld os).forCall (fun _ _ => 0) ⟨#[], args, []⟩).memory :=
  laidMet_of_run' 8 (by kernel_rfl) (by kernel_rfl)
end Go.Proofs.YtebajiafdkokjaaDoor

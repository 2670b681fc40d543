/- Texts joined: DoorE DoorUILI DoorUIIIILI. -/
import Derived.Test.YtbmnkjaelfjlhaaDoorGH
/- From the form's reading of a unit, a slice of numbers and a number, to the walks' facts. -/
namespace Go.Proofs.YtbmnkjaelfjlhaaDoor
open Go Go.RowKit Go.ChangeShapes Go.WideShapes Go.ChangeAt
set_option maxRecDepth 100000

end Go.Proofs.YtbmnkjaelfjlhaaDoor


/- From the form's reading of a law's arguments (a unit, a number, a slice of numbers, a number), to the walks' facts. -/
namespace Go.Proofs.YtbmnkjaelfjlhaaDoor
open Go Go.RowKit Go.ChangeShapes Go.WideShapes Go.ChangeAt
set_option maxRecDepth 100000

end Go.Proofs.YtbmnkjaelfjlhaaDoor


/- From the form's reading of a law's arguments (a unit, a number, a number, a number, a number, a slice of numbers, a number), to the walks' facts. -/
namespace Go.Proofs.YtbmnkjaelfjlhaaDoor
open Go Go.RowKit Go.ChangeShapes Go.WideShapes Go.ChangeAt
set_option maxRecDepth 100000

theorem open_uiiiili {H : Type} {enc : TypeId × Value → H} {W : World} {args : Array Value} {ds : List (DataW H)} {p : List MemPlace} {base : Nat} {params : Array TypeId} (hp : params = #[25, 3, 3, 3, 3, 38, 3])
    (h1 : ∀ (j : Nat) t v, params[j]? = some t → args[j]? = some v → Value.okWide Tryd.prog W .any base t v)
    (hA : DataW.TrodAll enc Tryd.prog W 0 (fun _ => true) true [25, 3, 3, 3, 3, 38, 3] args.toList ds p) (hz : ∀ k ∈ DataW.weightsEach Tryd.prog [25, 3, 3, 3, 3, 38, 3] ds, k ≤ reachBytes) :
    ∃ (u : LUnit) (g fs : Value) (k1 : Int) (k2 : Int) (k3 : Int) (k4 : Int) (v5 : Value) (l5 : List Int) (k6 : Int), args = #[.agg #[g, fs], .int .i64 k1, .int .i64 k2, .int .i64 k3, .int .i64 k4, v5, .int .i64 k6] ∧ SlAt W g 3 u.globals GlobalV ∧ SlAt W fs 4 u.funcs FuncV ∧ inI k1 ∧ inI k2 ∧ inI k3 ∧ inI k4 ∧ SlAt W v5 1 l5 IntV ∧ inI k6 := by
  subst hp
  obtain ⟨v0, vs0, d0, ds0, p0, q0, hargs, rfl, rfl, h0', r0⟩ := trodAll_cons hA
  obtain ⟨v1, vs1, d1, ds1, p1, q1, rfl, rfl, rfl, h1', r1⟩ := trodAll_cons r0
  obtain ⟨v2, vs2, d2, ds2, p2, q2, rfl, rfl, rfl, h2', r2⟩ := trodAll_cons r1
  obtain ⟨v3, vs3, d3, ds3, p3, q3, rfl, rfl, rfl, h3', r3⟩ := trodAll_cons r2
  obtain ⟨v4, vs4, d4, ds4, p4, q4, rfl, rfl, rfl, h4', r4⟩ := trodAll_cons r3
  obtain ⟨v5, vs5, d5, ds5, p5, q5, rfl, rfl, rfl, h5', r5⟩ := trodAll_cons r4
  obtain ⟨v6, vs6, d6, ds6, p6, q6, rfl, rfl, rfl, h6', r6⟩ := trodAll_cons r5
  obtain ⟨rfl, rfl, rfl⟩ := trodAll_nil r6
  obtain rfl : args = #[v0, v1, v2, v3, v4, v5, v6] := by cases args; simp_all
  obtain ⟨f0, k0⟩ := h0'
  obtain ⟨f1, k1⟩ := h1'
  obtain ⟨f2, k2⟩ := h2'
  obtain ⟨f3, k3⟩ := h3'
  obtain ⟨f4, k4⟩ := h4'
  obtain ⟨f5, k5⟩ := h5'
  obtain ⟨f6, k6⟩ := h6'
  have hz0 : Small Tryd.prog 25 d0 := fun k hk => hz k (mem_weightsEach (i := 0) rfl rfl hk)
  obtain ⟨cs0, rfl, _⟩ := okWide_struct Tryd.underlying25 (h1 0 25 v0 rfl rfl)
  obtain ⟨cs0⟩ := cs0
  obtain ⟨u, g, f, e0, hg, hf⟩ := o_unit k0 hz0
  simp only [Value.cells] at e0
  subst e0
  have hv1 : v1.cells = #[v1] := by
    obtain ⟨n, rfl, _⟩ := okWide_int Tryd.underlying3 (h1 1 3 v1 rfl rfl)
    rfl
  obtain ⟨n1, e1, hn1⟩ := o_int k1
  rw [hv1] at e1
  simp only [List.cons.injEq, and_true] at e1
  subst e1
  have hv2 : v2.cells = #[v2] := by
    obtain ⟨n, rfl, _⟩ := okWide_int Tryd.underlying3 (h1 2 3 v2 rfl rfl)
    rfl
  obtain ⟨n2, e2, hn2⟩ := o_int k2
  rw [hv2] at e2
  simp only [List.cons.injEq, and_true] at e2
  subst e2
  have hv3 : v3.cells = #[v3] := by
    obtain ⟨n, rfl, _⟩ := okWide_int Tryd.underlying3 (h1 3 3 v3 rfl rfl)
    rfl
  obtain ⟨n3, e3, hn3⟩ := o_int k3
  rw [hv3] at e3
  simp only [List.cons.injEq, and_true] at e3
  subst e3
  have hv4 : v4.cells = #[v4] := by
    obtain ⟨n, rfl, _⟩ := okWide_int Tryd.underlying3 (h1 4 3 v4 rfl rfl)
    rfl
  obtain ⟨n4, e4, hn4⟩ := o_int k4
  rw [hv4] at e4
  simp only [List.cons.injEq, and_true] at e4
  subst e4
  have hz5 : Small Tryd.prog 38 d5 := fun k hk => hz k (mem_weightsEach (i := 5) rfl rfl hk)
  have hv5 : v5.cells = #[v5] := by
    obtain ⟨_, _, _, rfl⟩ := okWide_slice Tryd.underlying38 (h1 5 38 v5 rfl rfl)
    rfl
  rw [hv5] at k5
  obtain ⟨l5, hs5⟩ := o_ints (x := (d5, _)) k5 hz5
  have hv6 : v6.cells = #[v6] := by
    obtain ⟨n, rfl, _⟩ := okWide_int Tryd.underlying3 (h1 6 3 v6 rfl rfl)
    rfl
  obtain ⟨n6, e6, hn6⟩ := o_int k6
  rw [hv6] at e6
  simp only [List.cons.injEq, and_true] at e6
  subst e6
  exact ⟨u, g, f, n1, n2, n3, n4, v5, l5, n6, rfl, hg, hf, hn1, hn2, hn3, hn4, hs5, hn6⟩
def argsUIIIILI : Array Value := #[.agg #[.slice none 0 0, .slice none 0 0], .int .i64 0, .int .i64 0, .int .i64 0, .int .i64 0, .slice none 0 0, .int .i64 0]
end Go.Proofs.YtbmnkjaelfjlhaaDoor


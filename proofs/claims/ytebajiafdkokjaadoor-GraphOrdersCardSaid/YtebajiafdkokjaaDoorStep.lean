/- The rules of the walks: one for each operation and each form of code, said of known slots and of pieces of memory. What an operation yields is found by instance search. -/
import Derived.Test.YtebajiafdkokjaaDoorData
import Derived.Deep.Quiet
import Derived.BigQuiet
namespace Go.Proofs.YtebajiafdkokjaaDoor
open Go Go.RowKit

structure St (N : Nat) (ds : List Deferred) (S : Nat → Prop) (w0 : World) (L : List (Nat × Value)) (H : List Ent) (a : Act) (w : World) : Prop where
  fr : Fr N ds L a
  wd : Wd S w0 H w
/-- from wherever these slots are known and these pieces are held -/
def G (N : Nat) (ds : List Deferred) (S : Nat → Prop) (w0 : World) (L : List (Nat × Value)) (H : List Ent) (p : Act → World → Prop) : Prop := ∀ a w, St N ds S w0 L H a w → p a w

/-! ### What is asked of the program's types and functions -/
class FieldOff (P : Program) (T i : Nat) (off : outParam Nat) : Prop where
  run : ∀ (b o : Nat) (w : World), (Instr.fieldAt T (.pointer (some ⟨b, o, none⟩)) i).run P w = .ok (.pointer (some ⟨b, o + off, none⟩)) w
class ElemSize (P : Program) (T : Nat) (s : outParam Nat) : Prop where
  und : P.underlying T = some (.slice (P.elem T))
  sz : ∀ w : World, (sizeOf (P.elem T)).run P w = .ok s w
class OneCell (P : Program) (T : Nat) : Prop where
  agg : ∀ w : World, (isAgg T).run P w = .ok false w
  sz : ∀ w : World, (sizeOf T).run P w = .ok 1 w
class AggSize (P : Program) (T : Nat) (n : outParam Nat) : Prop where
  agg : ∀ w : World, (isAgg T).run P w = .ok true w
  sz : ∀ w : World, (sizeOf T).run P w = .ok n w
class ZeroVal (P : Program) (T : Nat) (z : outParam Value) : Prop where
  run : ∀ w : World, (zeroValue T).run P w = .ok z w
class EnterOk (P : Program) (f : Nat) : Prop where
  run : ∀ (args : Array Value) (w : World), (callFunc f args).run P w = .ok (.enter f args) w
/-- a struct type's zero cells, and where each field lies -/
class StructAt (P : Program) (T : Nat) (zs : outParam (List Value)) (places : outParam (List (Nat × Nat))) : Prop where
  built : ∀ parts cells, Instr.fill (fun i => places[i]?) zs.toArray parts = some cells → P.built T parts = some cells
/-- '==' of values that are no integers -/
class EqVal (P : Program) (T : Nat) (u v : Value) (r : outParam Bool) : Prop where
  grd : ∀ op x y w, (eqGuard op T x y u v).run P w = .ok () w
  eq : ∀ w : World, (binOp .eql T u v).run P w = .ok (.bool r) w
  ne : ∀ w : World, (binOp .neq T u v).run P w = .ok (.bool (!r)) w

/-! ### What instance search looks up in the context -/
class CellIs (w : World) (b o : Nat) (v : outParam Value) : Prop where
  eq : w.cell? ⟨b, o, none⟩ = some v
class CellsIs (w : World) (b o : Nat) (cs : outParam (List Value)) : Prop where
  eq : CellsAt w b o cs
instance (priority := high) {w : World} {b o j : Nat} {cs : List Value} {v : Value} [h : CellsIs w b o cs] [hv : ListAt cs j v] : CellIs w b (o + j) v := ⟨h.eq j v hv.at'⟩
instance {w : World} {b o : Nat} {cs : List Value} {v : Value} [h : CellsIs w b o cs] [hv : ListAt cs 0 v] : CellIs w b o v := ⟨h.eq 0 v hv.at'⟩
class AddrIs (a : Option Addr) (b o : outParam Nat) : Prop where
  eq : a = some ⟨b, o, none⟩
instance (b o : Nat) : AddrIs (some ⟨b, o, none⟩) b o := ⟨rfl⟩
class LtIs (i n : Nat) : Prop where
  lt : i < n
class NatIs (x : Int) (i : outParam Nat) : Prop where
  eq : x = (i : Int)
instance (i : Nat) : NatIs (i : Int) i := ⟨rfl⟩
instance : NatIs 0 0 := ⟨rfl⟩
instance : NatIs 1 1 := ⟨rfl⟩
instance : NatIs 2 2 := ⟨rfl⟩
instance : NatIs 3 3 := ⟨rfl⟩
class AddN (o k : Nat) (s : outParam Nat) : Prop where
  eq : o + k = s
instance (priority := 2000) (o : Nat) : AddN o 0 o := ⟨rfl⟩
instance (priority := 1900) (k : Nat) : AddN 0 k k := ⟨Nat.zero_add k⟩
instance (priority := 3000) : AddN 1 1 2 := ⟨rfl⟩
instance (priority := 3000) : AddN 1 2 3 := ⟨rfl⟩
instance (priority := 3000) : AddN 1 3 4 := ⟨rfl⟩
instance (priority := 3000) : AddN 1 4 5 := ⟨rfl⟩
instance (priority := 3000) : AddN 1 5 6 := ⟨rfl⟩
instance (priority := 3000) : AddN 1 6 7 := ⟨rfl⟩
instance (priority := 3000) : AddN 1 7 8 := ⟨rfl⟩
instance (priority := 3000) : AddN 1 8 9 := ⟨rfl⟩
instance (priority := 3000) : AddN 2 1 3 := ⟨rfl⟩
instance (priority := 3000) : AddN 2 2 4 := ⟨rfl⟩
instance (priority := 3000) : AddN 2 3 5 := ⟨rfl⟩
instance (priority := 3000) : AddN 2 4 6 := ⟨rfl⟩
instance (priority := 3000) : AddN 2 5 7 := ⟨rfl⟩
instance (priority := 3000) : AddN 2 6 8 := ⟨rfl⟩
instance (priority := 3000) : AddN 2 7 9 := ⟨rfl⟩
instance (priority := 3000) : AddN 2 8 10 := ⟨rfl⟩
instance (priority := 3000) : AddN 3 1 4 := ⟨rfl⟩
instance (priority := 3000) : AddN 3 2 5 := ⟨rfl⟩
instance (priority := 3000) : AddN 3 3 6 := ⟨rfl⟩
instance (priority := 3000) : AddN 3 4 7 := ⟨rfl⟩
instance (priority := 3000) : AddN 3 5 8 := ⟨rfl⟩
instance (priority := 3000) : AddN 3 6 9 := ⟨rfl⟩
instance (priority := 3000) : AddN 3 7 10 := ⟨rfl⟩
instance (priority := 3000) : AddN 3 8 11 := ⟨rfl⟩
instance (priority := 3000) : AddN 4 1 5 := ⟨rfl⟩
instance (priority := 3000) : AddN 4 2 6 := ⟨rfl⟩
instance (priority := 3000) : AddN 4 3 7 := ⟨rfl⟩
instance (priority := 3000) : AddN 4 4 8 := ⟨rfl⟩
instance (priority := 3000) : AddN 4 5 9 := ⟨rfl⟩
instance (priority := 3000) : AddN 4 6 10 := ⟨rfl⟩
instance (priority := 3000) : AddN 4 7 11 := ⟨rfl⟩
instance (priority := 3000) : AddN 4 8 12 := ⟨rfl⟩
instance (priority := 3000) : AddN 5 1 6 := ⟨rfl⟩
instance (priority := 3000) : AddN 5 2 7 := ⟨rfl⟩
instance (priority := 3000) : AddN 5 3 8 := ⟨rfl⟩
instance (priority := 3000) : AddN 5 4 9 := ⟨rfl⟩
instance (priority := 3000) : AddN 5 5 10 := ⟨rfl⟩
instance (priority := 3000) : AddN 5 6 11 := ⟨rfl⟩
instance (priority := 3000) : AddN 5 7 12 := ⟨rfl⟩
instance (priority := 3000) : AddN 5 8 13 := ⟨rfl⟩
instance (priority := 3000) : AddN 6 1 7 := ⟨rfl⟩
instance (priority := 3000) : AddN 6 2 8 := ⟨rfl⟩
instance (priority := 3000) : AddN 6 3 9 := ⟨rfl⟩
instance (priority := 3000) : AddN 6 4 10 := ⟨rfl⟩
instance (priority := 3000) : AddN 6 5 11 := ⟨rfl⟩
instance (priority := 3000) : AddN 6 6 12 := ⟨rfl⟩
instance (priority := 3000) : AddN 6 7 13 := ⟨rfl⟩
instance (priority := 3000) : AddN 6 8 14 := ⟨rfl⟩
instance (priority := 3000) : AddN 7 1 8 := ⟨rfl⟩
instance (priority := 3000) : AddN 7 2 9 := ⟨rfl⟩
instance (priority := 3000) : AddN 7 3 10 := ⟨rfl⟩
instance (priority := 3000) : AddN 7 4 11 := ⟨rfl⟩
instance (priority := 3000) : AddN 7 5 12 := ⟨rfl⟩
instance (priority := 3000) : AddN 7 6 13 := ⟨rfl⟩
instance (priority := 3000) : AddN 7 7 14 := ⟨rfl⟩
instance (priority := 3000) : AddN 7 8 15 := ⟨rfl⟩
instance (priority := 3000) : AddN 8 1 9 := ⟨rfl⟩
instance (priority := 3000) : AddN 8 2 10 := ⟨rfl⟩
instance (priority := 3000) : AddN 8 3 11 := ⟨rfl⟩
instance (priority := 3000) : AddN 8 4 12 := ⟨rfl⟩
instance (priority := 3000) : AddN 8 5 13 := ⟨rfl⟩
instance (priority := 3000) : AddN 8 6 14 := ⟨rfl⟩
instance (priority := 3000) : AddN 8 7 15 := ⟨rfl⟩
instance (priority := 3000) : AddN 8 8 16 := ⟨rfl⟩
instance (priority := 2500) (o : Nat) : AddN (o + 1) 1 (o + 2) := ⟨rfl⟩
instance (priority := 2500) (o : Nat) : AddN (o + 1) 2 (o + 3) := ⟨rfl⟩
instance (priority := 2500) (o : Nat) : AddN (o + 1) 3 (o + 4) := ⟨rfl⟩
instance (priority := 2500) (o : Nat) : AddN (o + 1) 4 (o + 5) := ⟨rfl⟩
instance (priority := 2500) (o : Nat) : AddN (o + 1) 5 (o + 6) := ⟨rfl⟩
instance (priority := 2500) (o : Nat) : AddN (o + 1) 6 (o + 7) := ⟨rfl⟩
instance (priority := 2500) (o : Nat) : AddN (o + 1) 7 (o + 8) := ⟨rfl⟩
instance (priority := 2500) (o : Nat) : AddN (o + 1) 8 (o + 9) := ⟨rfl⟩
instance (priority := 2500) (o : Nat) : AddN (o + 2) 1 (o + 3) := ⟨rfl⟩
instance (priority := 2500) (o : Nat) : AddN (o + 2) 2 (o + 4) := ⟨rfl⟩
instance (priority := 2500) (o : Nat) : AddN (o + 2) 3 (o + 5) := ⟨rfl⟩
instance (priority := 2500) (o : Nat) : AddN (o + 2) 4 (o + 6) := ⟨rfl⟩
instance (priority := 2500) (o : Nat) : AddN (o + 2) 5 (o + 7) := ⟨rfl⟩
instance (priority := 2500) (o : Nat) : AddN (o + 2) 6 (o + 8) := ⟨rfl⟩
instance (priority := 2500) (o : Nat) : AddN (o + 2) 7 (o + 9) := ⟨rfl⟩
instance (priority := 2500) (o : Nat) : AddN (o + 2) 8 (o + 10) := ⟨rfl⟩
instance (priority := 2500) (o : Nat) : AddN (o + 3) 1 (o + 4) := ⟨rfl⟩
instance (priority := 2500) (o : Nat) : AddN (o + 3) 2 (o + 5) := ⟨rfl⟩
instance (priority := 2500) (o : Nat) : AddN (o + 3) 3 (o + 6) := ⟨rfl⟩
instance (priority := 2500) (o : Nat) : AddN (o + 3) 4 (o + 7) := ⟨rfl⟩
instance (priority := 2500) (o : Nat) : AddN (o + 3) 5 (o + 8) := ⟨rfl⟩
instance (priority := 2500) (o : Nat) : AddN (o + 3) 6 (o + 9) := ⟨rfl⟩
instance (priority := 2500) (o : Nat) : AddN (o + 3) 7 (o + 10) := ⟨rfl⟩
instance (priority := 2500) (o : Nat) : AddN (o + 3) 8 (o + 11) := ⟨rfl⟩
instance (priority := 2500) (o : Nat) : AddN (o + 4) 1 (o + 5) := ⟨rfl⟩
instance (priority := 2500) (o : Nat) : AddN (o + 4) 2 (o + 6) := ⟨rfl⟩
instance (priority := 2500) (o : Nat) : AddN (o + 4) 3 (o + 7) := ⟨rfl⟩
instance (priority := 2500) (o : Nat) : AddN (o + 4) 4 (o + 8) := ⟨rfl⟩
instance (priority := 2500) (o : Nat) : AddN (o + 4) 5 (o + 9) := ⟨rfl⟩
instance (priority := 2500) (o : Nat) : AddN (o + 4) 6 (o + 10) := ⟨rfl⟩
instance (priority := 2500) (o : Nat) : AddN (o + 4) 7 (o + 11) := ⟨rfl⟩
instance (priority := 2500) (o : Nat) : AddN (o + 4) 8 (o + 12) := ⟨rfl⟩
instance (priority := 2500) (o : Nat) : AddN (o + 5) 1 (o + 6) := ⟨rfl⟩
instance (priority := 2500) (o : Nat) : AddN (o + 5) 2 (o + 7) := ⟨rfl⟩
instance (priority := 2500) (o : Nat) : AddN (o + 5) 3 (o + 8) := ⟨rfl⟩
instance (priority := 2500) (o : Nat) : AddN (o + 5) 4 (o + 9) := ⟨rfl⟩
instance (priority := 2500) (o : Nat) : AddN (o + 5) 5 (o + 10) := ⟨rfl⟩
instance (priority := 2500) (o : Nat) : AddN (o + 5) 6 (o + 11) := ⟨rfl⟩
instance (priority := 2500) (o : Nat) : AddN (o + 5) 7 (o + 12) := ⟨rfl⟩
instance (priority := 2500) (o : Nat) : AddN (o + 5) 8 (o + 13) := ⟨rfl⟩
instance (priority := 2500) (o : Nat) : AddN (o + 6) 1 (o + 7) := ⟨rfl⟩
instance (priority := 2500) (o : Nat) : AddN (o + 6) 2 (o + 8) := ⟨rfl⟩
instance (priority := 2500) (o : Nat) : AddN (o + 6) 3 (o + 9) := ⟨rfl⟩
instance (priority := 2500) (o : Nat) : AddN (o + 6) 4 (o + 10) := ⟨rfl⟩
instance (priority := 2500) (o : Nat) : AddN (o + 6) 5 (o + 11) := ⟨rfl⟩
instance (priority := 2500) (o : Nat) : AddN (o + 6) 6 (o + 12) := ⟨rfl⟩
instance (priority := 2500) (o : Nat) : AddN (o + 6) 7 (o + 13) := ⟨rfl⟩
instance (priority := 2500) (o : Nat) : AddN (o + 6) 8 (o + 14) := ⟨rfl⟩
instance (priority := 2500) (o : Nat) : AddN (o + 7) 1 (o + 8) := ⟨rfl⟩
instance (priority := 2500) (o : Nat) : AddN (o + 7) 2 (o + 9) := ⟨rfl⟩
instance (priority := 2500) (o : Nat) : AddN (o + 7) 3 (o + 10) := ⟨rfl⟩
instance (priority := 2500) (o : Nat) : AddN (o + 7) 4 (o + 11) := ⟨rfl⟩
instance (priority := 2500) (o : Nat) : AddN (o + 7) 5 (o + 12) := ⟨rfl⟩
instance (priority := 2500) (o : Nat) : AddN (o + 7) 6 (o + 13) := ⟨rfl⟩
instance (priority := 2500) (o : Nat) : AddN (o + 7) 7 (o + 14) := ⟨rfl⟩
instance (priority := 2500) (o : Nat) : AddN (o + 7) 8 (o + 15) := ⟨rfl⟩
instance (priority := 2500) (o : Nat) : AddN (o + 8) 1 (o + 9) := ⟨rfl⟩
instance (priority := 2500) (o : Nat) : AddN (o + 8) 2 (o + 10) := ⟨rfl⟩
instance (priority := 2500) (o : Nat) : AddN (o + 8) 3 (o + 11) := ⟨rfl⟩
instance (priority := 2500) (o : Nat) : AddN (o + 8) 4 (o + 12) := ⟨rfl⟩
instance (priority := 2500) (o : Nat) : AddN (o + 8) 5 (o + 13) := ⟨rfl⟩
instance (priority := 2500) (o : Nat) : AddN (o + 8) 6 (o + 14) := ⟨rfl⟩
instance (priority := 2500) (o : Nat) : AddN (o + 8) 7 (o + 15) := ⟨rfl⟩
instance (priority := 2500) (o : Nat) : AddN (o + 8) 8 (o + 16) := ⟨rfl⟩
instance (o k : Nat) : AddN o k (o + k) := ⟨rfl⟩

class NotIs (b : Bool) (c : outParam Bool) : Prop where
  eq : (!b) = c
instance (priority := 2000) : NotIs true false := ⟨rfl⟩
instance (priority := 2000) : NotIs false true := ⟨rfl⟩
instance (priority := 1500) (b : Bool) : NotIs (!b) b := ⟨by simp⟩
instance (b : Bool) : NotIs b (!b) := ⟨rfl⟩
class SlotIs (L : List (Nat × Value)) (t : Nat) (v : outParam Value) : Prop where
  mem : (t, v) ∈ L
instance (t : Nat) (v : Value) (L : List (Nat × Value)) : SlotIs ((t, v) :: L) t v := ⟨by simp⟩
instance (t : Nat) (v : Value) (p : Nat × Value) (L : List (Nat × Value)) [h : SlotIs L t v] : SlotIs (p :: L) t v := ⟨List.mem_cons_of_mem _ h.mem⟩
class Ev (L : List (Nat × Value)) (x : Operand) (v : outParam Value) : Prop where
  eq : ∀ (N : Nat) (ds : List Deferred) (a : Act), Fr N ds L a → a.eval x = v
instance (L : List (Nat × Value)) (t : Nat) (v : Value) [h : SlotIs L t v] : Ev L (.tmp t) v := ⟨fun _ _ a hF => by simp [Act.eval, Array.getD_eq_getD_getElem?, hF.slot _ h.mem]⟩
instance (L : List (Nat × Value)) (v : Value) : Ev L (.const v) v := ⟨fun _ _ _ _ => rfl⟩
instance (L : List (Nat × Value)) (g : Nat) : Ev L (.global g) (.pointer (some ⟨g, 0, none⟩)) := ⟨fun _ _ _ _ => rfl⟩
instance (L : List (Nat × Value)) (f : Nat) : Ev L (.func f) (.func (.func f) #[] #[]) := ⟨fun _ _ _ _ => rfl⟩
class Evs (L : List (Nat × Value)) (xs : List Operand) (vs : outParam (List Value)) : Prop where
  eq : ∀ (N : Nat) (ds : List Deferred) (a : Act), Fr N ds L a → xs.map a.eval = vs
instance (L : List (Nat × Value)) : Evs L [] [] := ⟨fun _ _ _ _ => rfl⟩
instance (L : List (Nat × Value)) (x : Operand) (v : Value) (xs : List Operand) (vs : List Value) [h : Ev L x v] [hs : Evs L xs vs] : Evs L (x :: xs) (v :: vs) := ⟨fun N ds a hF => by rw [List.map_cons, h.eq N ds a hF, hs.eq N ds a hF]⟩
class Evp (L : List (Nat × Value)) (xs : List (Nat × Operand)) (vs : outParam (List (Nat × Value))) : Prop where
  eq : ∀ (N : Nat) (ds : List Deferred) (a : Act), Fr N ds L a → xs.map (fun p => (p.1, a.eval p.2)) = vs
instance (L : List (Nat × Value)) : Evp L [] [] := ⟨fun _ _ _ _ => rfl⟩
instance (L : List (Nat × Value)) (i : Nat) (x : Operand) (v : Value) (xs : List (Nat × Operand)) (vs : List (Nat × Value)) [h : Ev L x v] [hs : Evp L xs vs] : Evp L ((i, x) :: xs) ((i, v) :: vs) := ⟨fun N ds a hF => by rw [List.map_cons, h.eq N ds a hF, hs.eq N ds a hF]⟩
/-- the place of slot d taken out -/
class Stale (L : List (Nat × Value)) (d : Nat) (L' : outParam (List (Nat × Value))) : Prop where
  sub : ∀ p ∈ L', p ∈ L
instance (d : Nat) (u : Value) (L : List (Nat × Value)) : Stale ((d, u) :: L) d L := ⟨fun _ h => List.mem_cons_of_mem _ h⟩
instance (d : Nat) (p : Nat × Value) (L L' : List (Nat × Value)) [h : Stale L d L'] : Stale (p :: L) d (p :: L') := ⟨fun q hq => by
  rcases List.mem_cons.1 hq with rfl | hq
  · simp
  · exact List.mem_cons_of_mem _ (h.sub q hq)⟩

section
variable {P : Program} {ro : Option Nat} {N : Nat} {ds : List Deferred} {S : Nat → Prop} {w0 : World} {L L' : List (Nat × Value)} {H H' : List Ent} {a : Act} {w : World}
  {ops : Array Oper} {rest : List Oper} {Q : Exit → Act → World → Prop} {p : Act → World → Prop}

theorem semAt_ne (ro : Option Nat) (ρ : Operand → Value) (o : Oper) (h : ∀ c, o.op ≠ .defer c) : o.semAt ro ρ = execOp ρ o := Oper.semAt_eq ro ρ o h

theorem step_val {o : Oper} {v : Value} {w' : World} (hg : o.guard = none) (hnd : ∀ c, o.op ≠ .defer c) (hrun : (execOp a.eval o).run P w = .ok (.value v) w')
    (hk : wpListIn (FW ro) 0 P ops Q rest (a.put o.dst v) w') : wpListIn (FW ro) 0 P ops Q (o :: rest) a w := by
  refine wpListIn_plain hg fun K hK => ?_
  refine ⟨fun _ _ => trivial, ?_⟩
  rw [semAt_ne _ _ _ hnd, hrun]
  exact hK _ _ hk
theorem step_skip {o : Oper} {w' : World} (hg : o.guard = none) (hnd : ∀ c, o.op ≠ .defer c) (hrun : (execOp a.eval o).run P w = .ok .skip w')
    (hk : wpListIn (FW ro) 0 P ops Q rest (a.put o.dst undef) w') : wpListIn (FW ro) 0 P ops Q (o :: rest) a w := by
  refine wpListIn_plain hg fun K hK => ?_
  refine ⟨fun _ _ => trivial, ?_⟩
  rw [semAt_ne _ _ _ hnd, hrun]
  exact hK _ _ hk

/-! ### What an operation yields, the world left as it is -/
class RunsC (P : Program) (N : Nat) (ds : List Deferred) (S : Nat → Prop) (w0 : World) (L : List (Nat × Value)) (H : List Ent) (op : Op) (v : outParam Value) : Prop where
  nd : ∀ c, op ≠ .defer c
  ns : ∀ cs b, op ≠ .select cs b
  run : ∀ (d : Option Tmp) (ty : Nat) (pos : String) (aft : Array Edge) (gd : Option (Nat × Bool)) a w, Fr N ds L a → Wd S w0 H w → (execOp a.eval ⟨d, op, ty, pos, aft, gd⟩).run P w = .ok (.value v) w
section
variable {x y c : Operand}
instance {v : Value} [hx : Ev L x v] : RunsC P N ds S w0 L H (.move x) v := ⟨fun _ h => (by cases h), fun _ _ h => (by cases h), fun _ _ _ _ _ a w hF _ => by simp [execOp, hx.eq _ _ _ hF]⟩
instance {v : Value} [hx : Ev L x v] : RunsC P N ds S w0 L H (.assign x) v := ⟨fun _ h => (by cases h), fun _ _ h => (by cases h), fun _ _ _ _ _ a w hF _ => by simp [execOp, hx.eq _ _ _ hF]⟩
instance {v : Value} [hc : Ev L c (.bool true)] [hx : Ev L x v] : RunsC P N ds S w0 L H (.pick c x y) v := ⟨fun _ h => (by cases h), fun _ _ h => (by cases h), fun _ _ _ _ _ a w hF _ => by simp [execOp, hx.eq _ _ _ hF, hc.eq _ _ _ hF, asBool]⟩
instance {v : Value} [hc : Ev L c (.bool false)] [hx : Ev L y v] : RunsC P N ds S w0 L H (.pick c x y) v := ⟨fun _ h => (by cases h), fun _ _ h => (by cases h), fun _ _ _ _ _ a w hF _ => by simp [execOp, hx.eq _ _ _ hF, hc.eq _ _ _ hF, asBool]⟩
instance {T i b o off o' : Nat} [hx : Ev L x (.pointer (some ⟨b, o, none⟩))] [h : FieldOff P T i off] [ho : AddN o off o'] : RunsC P N ds S w0 L H (.fieldAddr T x i) (.pointer (some ⟨b, o', none⟩)) :=
  ⟨fun _ h => (by cases h), fun _ _ h => (by cases h), fun _ _ _ _ _ a w hF _ => by simp [execOp, hx.eq _ _ _ hF, h.run, ho.eq]⟩
instance {T b o n k i s : Nat} {ad : Option Addr} {z : Int} [hx : Ev L x (.slice ad n k)] [hy : Ev L y (.int .i64 z)] [ha : AddrIs ad b o] [hz : NatIs z i] [hi : LtIs i n] [h : ElemSize P T s] : RunsC P N ds S w0 L H (.indexAddr T x y) (.pointer (some ⟨b, o + i * s, none⟩)) :=
  ⟨fun _ h => (by cases h), fun _ _ h => (by cases h), fun _ _ _ _ _ a w hF _ => by
    have h1 := hx.eq _ _ _ hF
    have h2 := hy.eq _ _ _ hF
    rw [ha.eq] at h1
    rw [hz.eq] at h2
    simp [execOp, h1, h2, run_indexAt_slice w T ⟨b, o, none⟩ n k .i64 i h.und, h.sz, hi.lt, Addr.add_lit]⟩
instance {T n k s : Nat} {ad : Option Addr} [hx : Ev L x (.slice ad n k)] [h : ElemSize P T s] : RunsC P N ds S w0 L H (.call { callee := .builtin .len, args := #[x], argTypes := #[T] }) (.int .i64 n) :=
  ⟨fun _ h => (by cases h), fun _ _ h => (by cases h), fun _ ty _ _ _ a w hF _ => by simp [execOp, resolve, invoke, builtin, hx.eq _ _ _ hF, run_len_slice w T ty ad n k h.und, goInt]⟩
theorem run_loadOne {T : Nat} [h : OneCell P T] {p : Addr} {v : Value} (hc : w.cell? p = some v) : (Instr.loadAt T (.pointer (some p))).run P w = .ok v w := by
  simp [Instr.loadAt, Instr.sureAddr, loadVar, h.agg, hc]
instance {T b o j t : Nat} {cs : List Value} {v : Value} [h : OneCell P T] [hx : Ev L x (.pointer (some ⟨b, o, none⟩))] [hb : BoxIn H b j cs t] [hv : ListAt cs o v] : RunsC P N ds S w0 L H (.load T x) v :=
  ⟨fun _ h => (by cases h), fun _ _ h => (by cases h), fun _ _ _ _ _ a w hF hW => by simp [execOp, hx.eq _ _ _ hF, run_loadOne (hW.cellBox j hb.at' hv.at')]⟩
/-- the call may write to old memory: to none of this -/
class OldIs (S : Nat → Prop) (b : Nat) : Prop where
  no : ¬ S b
instance (b : Nat) : OldIs NoS b := ⟨fun h => h⟩
instance {T b o : Nat} {v : Value} [h : OneCell P T] [hx : Ev L x (.pointer (some ⟨b, o, none⟩))] [hc : CellIs w0 b o v] [hs : OldIs S b] : RunsC P N ds S w0 L H (.load T x) v :=
  ⟨fun _ h => (by cases h), fun _ _ h => (by cases h), fun _ _ _ _ _ a w hF hW => by simp [execOp, hx.eq _ _ _ hF, run_loadOne (hW.cellOld hc.eq hs.no)]⟩
theorem run_loadAgg {T n : Nat} [h : AggSize P T n] {b o : Nat} {cs : List Value} (hn : cs.length = n) (hc : CellsAt w b o cs) : (Instr.loadAt T (.pointer (some ⟨b, o, none⟩))).run P w = .ok (.agg cs.toArray) w := by
  subst hn
  have h1 := run_loadCells_list (P := P) w ⟨b, o, none⟩ cs (fun j v hv => by rw [Addr.add_lit]; exact hc j v hv)
  simp [Instr.loadAt, Instr.sureAddr, loadVar, h.agg, h.sz, h1]
theorem CellsAt.old {b o : Nat} {cs : List Value} (h : Wd S w0 H w) (hc : CellsAt w0 b o cs) (hS : ¬ S b) : CellsAt w b o cs := fun j v hv => h.cellOld (hc j v hv) hS
instance {T b j t n : Nat} {cs : List Value} [h : AggSize P T n] [hx : Ev L x (.pointer (some ⟨b, 0, none⟩))] [hb : BoxIn H b j cs t] [hn : LenIs cs n] : RunsC P N ds S w0 L H (.load T x) (.agg cs.toArray) :=
  ⟨fun _ h => (by cases h), fun _ _ h => (by cases h), fun _ _ _ _ _ a w hF hW => by
    have := run_loadAgg (P := P) (T := T) hn.eq (fun i v hv => by rw [Nat.zero_add]; exact hW.cellBox j hb.at' hv : CellsAt w b 0 cs)
    simp [execOp, hx.eq _ _ _ hF, this]⟩
instance {T b o n : Nat} {cs : List Value} [h : AggSize P T n] [hx : Ev L x (.pointer (some ⟨b, o, none⟩))] [hc : CellsIs w0 b o cs] [hn : LenIs cs n] [hs : OldIs S b] : RunsC P N ds S w0 L H (.load T x) (.agg cs.toArray) :=
  ⟨fun _ h => (by cases h), fun _ _ h => (by cases h), fun _ _ _ _ _ a w hF hW => by simp [execOp, hx.eq _ _ _ hF, run_loadAgg hn.eq (hc.eq.old hW hs.no)]⟩
instance {T : Nat} {zs cs : List Value} {places : List (Nat × Nat)} {vparts : List (Nat × Value)} {parts : List (Nat × Operand)} [h : StructAt P T zs places] [hx : Evp L parts vparts] [hf : FillAt places zs vparts cs] : RunsC P N ds S w0 L H (.build T parts.toArray) (.agg cs.toArray) :=
  ⟨fun _ h => (by cases h), fun _ _ h => (by cases h), fun _ _ _ _ _ a w hF _ => by
    have e : (parts.toArray.map fun (p : Nat × Operand) => (p.1, a.eval p.2)) = vparts.toArray := by
      simp only [List.map_toArray]
      rw [hx.eq _ _ _ hF]
    have := run_build (P := P) w T vparts.toArray cs.toArray (h.built _ _ hf.eq)
    simp only [execOp, Sem.run_bind]
    rw [e, this]
    rfl⟩
instance {fn : Fn} {xs ys : List Operand} {us vs : List Value} [hx : Evs L xs us] [hy : Evs L ys vs] : RunsC P N ds S w0 L H (.makeFunc fn xs.toArray ys.toArray) (.func fn us.toArray vs.toArray) :=
  ⟨fun _ h => (by cases h), fun _ _ h => (by cases h), fun _ _ _ _ _ a w hF _ => by
    simp only [execOp, List.map_toArray, hx.eq _ _ _ hF, hy.eq _ _ _ hF, Instr.makeFunc]
    rfl⟩
theorem wrap_in (n : Int) (h1 : -9223372036854775808 ≤ n) (h2 : n ≤ 9223372036854775807) : IntKind.i64.wrap n = n := by
  have h := IntWalk.i64_in n (by omega)
  exact h
theorem runs_bin {T T2 : Nat} {op : BinOp} {u v r : Value} [hx : Ev L x u] [hy : Ev L y v]
    (hg : ∀ w, (eqGuard op T x y u v).run P w = .ok () w) (hr : ∀ w, (binOp op T u v).run P w = .ok r w) : RunsC P N ds S w0 L H (.binOp op T x y T2) r :=
  ⟨fun _ h => (by cases h), fun _ _ h => (by cases h), fun _ _ _ _ _ a w hF _ => by simp [execOp, hx.eq _ _ _ hF, hy.eq _ _ _ hF, hg, hr]⟩
theorem runs_add {T T2 : Nat} {m n : Int} [hx : Ev L x (.int .i64 m)] [hy : Ev L y (.int .i64 n)] (h1 : -9223372036854775808 ≤ m + n) (h2 : m + n ≤ 9223372036854775807) : RunsC P N ds S w0 L H (.binOp .add T x y T2) (.int .i64 (m + n)) :=
  runs_bin (fun _ => rfl) fun w => by rw [binOp_add]; simp [Op.intArith, wrap_in _ h1 h2]
theorem runs_sub {T T2 : Nat} {m n : Int} [hx : Ev L x (.int .i64 m)] [hy : Ev L y (.int .i64 n)] (h1 : -9223372036854775808 ≤ m - n) (h2 : m - n ≤ 9223372036854775807) : RunsC P N ds S w0 L H (.binOp .sub T x y T2) (.int .i64 (m - n)) :=
  runs_bin (fun _ => rfl) fun w => by rw [binOp_sub]; simp [Op.intArith, wrap_in _ h1 h2]
theorem runs_mul {T T2 : Nat} {m n : Int} [hx : Ev L x (.int .i64 m)] [hy : Ev L y (.int .i64 n)] (h1 : -9223372036854775808 ≤ m * n) (h2 : m * n ≤ 9223372036854775807) : RunsC P N ds S w0 L H (.binOp .mul T x y T2) (.int .i64 (m * n)) :=
  runs_bin (fun _ => rfl) fun w => by rw [binOp_mul]; simp [Op.intArith, wrap_in _ h1 h2]
instance {T T2 : Nat} {m n : Int} {q : IntKind} [hx : Ev L x (.int q m)] [hy : Ev L y (.int q n)] : RunsC P N ds S w0 L H (.binOp .lss T x y T2) (.bool (decide (m < n))) := runs_bin (fun _ => rfl) fun w => by rw [binOp_lss]; simp
instance {T T2 : Nat} {m n : Int} {q : IntKind} [hx : Ev L x (.int q m)] [hy : Ev L y (.int q n)] : RunsC P N ds S w0 L H (.binOp .leq T x y T2) (.bool (decide (m ≤ n))) := runs_bin (fun _ => rfl) fun w => by rw [binOp_leq]; simp
instance {T T2 : Nat} {m n : Int} {q : IntKind} [hx : Ev L x (.int q m)] [hy : Ev L y (.int q n)] : RunsC P N ds S w0 L H (.binOp .gtr T x y T2) (.bool (decide (n < m))) := runs_bin (fun _ => rfl) fun w => by rw [binOp_gtr]; simp
instance {T T2 : Nat} {m n : Int} {q : IntKind} [hx : Ev L x (.int q m)] [hy : Ev L y (.int q n)] : RunsC P N ds S w0 L H (.binOp .geq T x y T2) (.bool (decide (n ≤ m))) := runs_bin (fun _ => rfl) fun w => by rw [binOp_geq]; simp
instance {T T2 : Nat} {m n : Int} {q : IntKind} [hx : Ev L x (.int q m)] [hy : Ev L y (.int q n)] : RunsC P N ds S w0 L H (.binOp .eql T x y T2) (.bool (decide (m = n))) := runs_bin (fun _ => by rw [eqGuard_at_int]; rfl) fun w => by rw [binOp_eql]; rfl
instance {T T2 : Nat} {m n : Int} {q : IntKind} [hx : Ev L x (.int q m)] [hy : Ev L y (.int q n)] : RunsC P N ds S w0 L H (.binOp .neq T x y T2) (.bool (!decide (m = n))) := runs_bin (fun _ => by rw [eqGuard_at_int]; rfl) fun w => by rw [binOp_neq]; rfl
instance {T T2 : Nat} {u v : Value} {r : Bool} [hx : Ev L x u] [hy : Ev L y v] [h : EqVal P T u v r] : RunsC P N ds S w0 L H (.binOp .eql T x y T2) (.bool r) := runs_bin (h.grd _ _ _) h.eq
instance {T T2 : Nat} {u v : Value} {r : Bool} [hx : Ev L x u] [hy : Ev L y v] {r' : Bool} [h : EqVal P T u v r] [hn : NotIs r r'] : RunsC P N ds S w0 L H (.binOp .neq T x y T2) (.bool r') := runs_bin (h.grd _ _ _) fun w => by rw [h.ne, hn.eq]
instance {T : Nat} {b b' : Bool} [hx : Ev L x (.bool b)] [hn : NotIs b b'] : RunsC P N ds S w0 L H (.unOp .not T x) (.bool b') :=
  ⟨fun _ h => (by cases h), fun _ _ h => (by cases h), fun _ _ _ _ _ a w hF _ => by simp [execOp, hx.eq _ _ _ hF, Op.unary, hn.eq]⟩
end

/-- slot d may be written: it is one of the frame's, and nothing is known of it -/
def okPut (d N : Nat) (L : List (Nat × Value)) : Bool := d.blt N && L.all fun p => !Nat.beq p.1 d
theorem Fr.putOk (h : Fr N ds L a) {d : Nat} (hd : okPut d N L = true) (v : Value) : Fr N ds ((d, v) :: L) (a.put (some d) v) := by
  simp only [okPut, Bool.and_eq_true, List.all_eq_true] at hd
  refine h.put hd.1 v fun p hp e => ?_
  have := hd.2 p hp
  rw [e] at this
  simp at this
theorem Fr.stale (h : Fr N ds L a) (d : Nat) [hs : Stale L d L'] : Fr N ds L' a := ⟨h.size, h.defers, fun p hp => h.slot p (hs.sub p hp)⟩
/-- one operation that yields a value -/
theorem g_op {d ty : Nat} {pos : String} {aft : Array Edge} {op : Op} {v : Value} [h : RunsC P N ds S w0 L H op v] (hd : okPut d N L = true)
    (k : G N ds S w0 ((d, v) :: L) H (wpListIn (FW ro) 0 P ops Q rest)) : G N ds S w0 L H (wpListIn (FW ro) 0 P ops Q (⟨some d, op, ty, pos, aft, none⟩ :: rest)) :=
  fun a w hS => step_val rfl h.nd (h.run _ _ _ _ _ a w hS.fr hS.wd) (k _ _ ⟨hS.fr.putOk hd v, hS.wd⟩)
theorem g_opS {d ty : Nat} {pos : String} {aft : Array Edge} {op : Op} {v : Value} [h : RunsC P N ds S w0 L H op v] [hs : Stale L d L'] (hd : okPut d N L' = true)
    (k : G N ds S w0 ((d, v) :: L') H (wpListIn (FW ro) 0 P ops Q rest)) : G N ds S w0 L H (wpListIn (FW ro) 0 P ops Q (⟨some d, op, ty, pos, aft, none⟩ :: rest)) :=
  fun a w hS => step_val rfl h.nd (h.run _ _ _ _ _ a w hS.fr hS.wd) (k _ _ ⟨(hS.fr.stale (L' := L') d).putOk hd v, hS.wd⟩)
/-- a slot forgotten -/
theorem g_forget (d : Nat) [hs : Stale L d L'] (k : G N ds S w0 L' H p) : G N ds S w0 L H p := fun a w hS => k a w ⟨hS.fr.stale d, hS.wd⟩
theorem g_add {d ty T T2 : Nat} {pos : String} {aft : Array Edge} {x y : Operand} {m n : Int} [hx : Ev L x (.int .i64 m)] [hy : Ev L y (.int .i64 n)] (hd : okPut d N L = true) (h1 : -9223372036854775808 ≤ m + n) (h2 : m + n ≤ 9223372036854775807)
    (k : G N ds S w0 ((d, .int .i64 (m + n)) :: L) H (wpListIn (FW ro) 0 P ops Q rest)) : G N ds S w0 L H (wpListIn (FW ro) 0 P ops Q (⟨some d, .binOp .add T x y T2, ty, pos, aft, none⟩ :: rest)) := by
  have := runs_add (P := P) (N := N) (ds := ds) (S := S) (w0 := w0) (H := H) (T := T) (T2 := T2) (x := x) (y := y) (L := L) h1 h2
  exact g_op hd k
theorem g_sub {d ty T T2 : Nat} {pos : String} {aft : Array Edge} {x y : Operand} {m n : Int} [hx : Ev L x (.int .i64 m)] [hy : Ev L y (.int .i64 n)] (hd : okPut d N L = true) (h1 : -9223372036854775808 ≤ m - n) (h2 : m - n ≤ 9223372036854775807)
    (k : G N ds S w0 ((d, .int .i64 (m - n)) :: L) H (wpListIn (FW ro) 0 P ops Q rest)) : G N ds S w0 L H (wpListIn (FW ro) 0 P ops Q (⟨some d, .binOp .sub T x y T2, ty, pos, aft, none⟩ :: rest)) := by
  have := runs_sub (P := P) (N := N) (ds := ds) (S := S) (w0 := w0) (H := H) (T := T) (T2 := T2) (x := x) (y := y) (L := L) h1 h2
  exact g_op hd k
theorem g_mul {d ty T T2 : Nat} {pos : String} {aft : Array Edge} {x y : Operand} {m n : Int} [hx : Ev L x (.int .i64 m)] [hy : Ev L y (.int .i64 n)] (hd : okPut d N L = true) (h1 : -9223372036854775808 ≤ m * n) (h2 : m * n ≤ 9223372036854775807)
    (k : G N ds S w0 ((d, .int .i64 (m * n)) :: L) H (wpListIn (FW ro) 0 P ops Q rest)) : G N ds S w0 L H (wpListIn (FW ro) 0 P ops Q (⟨some d, .binOp .mul T x y T2, ty, pos, aft, none⟩ :: rest)) := by
  have := runs_mul (P := P) (N := N) (ds := ds) (S := S) (w0 := w0) (H := H) (T := T) (T2 := T2) (x := x) (y := y) (L := L) h1 h2
  exact g_op hd k

/-! ### New memory, stores -/
theorem g_box {d ty T : Nat} {pos : String} {aft : Array Edge} {x : Operand} {v : Value} {cs : List Value} [hx : Ev L x v] [hv : CellsOf v cs] (hd : okPut d N L = true)
    (k : ∀ b, w0.heap.size ≤ b → G N ds S w0 ((d, .pointer (some ⟨b, 0, none⟩)) :: L) (Ent.box b cs T :: H) (wpListIn (FW ro) 0 P ops Q rest)) : G N ds S w0 L H (wpListIn (FW ro) 0 P ops Q (⟨some d, .box T x, ty, pos, aft, none⟩ :: rest)) := by
  intro a w hS
  refine step_val (v := .pointer (some ⟨w.heap.size, 0, none⟩)) (w' := w.alloc (.cells v.cells T)) rfl (fun _ h => by cases h) ?_ ?_
  · simp [execOp, hx.eq _ _ _ hS.fr, Instr.box, newVar, newRow]
  · refine k _ hS.wd.size _ _ ⟨hS.fr.putOk hd _, ?_⟩
    have := hS.wd.box cs T
    have e : cs.toArray = v.cells := by rw [← hv.eq]
    rw [e] at this
    exact this
theorem g_alloc {d ty T : Nat} {z : Value} {cs : List Value} [h : ZeroVal P T z] [hv : CellsOf z cs] {pos : String} {aft : Array Edge} (hd : okPut d N L = true)
    (k : ∀ b, w0.heap.size ≤ b → G N ds S w0 ((d, .pointer (some ⟨b, 0, none⟩)) :: L) (Ent.box b cs T :: H) (wpListIn (FW ro) 0 P ops Q rest)) : G N ds S w0 L H (wpListIn (FW ro) 0 P ops Q (⟨some d, .alloc T, ty, pos, aft, none⟩ :: rest)) := by
  intro a w hS
  refine step_val (v := .pointer (some ⟨w.heap.size, 0, none⟩)) (w' := w.alloc (.cells z.cells T)) rfl (fun _ h => by cases h) ?_ ?_
  · simp [execOp, Instr.alloc, newVar, newRow, h.run]
  · refine k _ hS.wd.size _ _ ⟨hS.fr.putOk hd _, ?_⟩
    have := hS.wd.box cs T
    have e : cs.toArray = z.cells := by rw [← hv.eq]
    rw [e] at this
    exact this
theorem g_allocS {d ty T : Nat} {z : Value} {cs : List Value} [h : ZeroVal P T z] [hv : CellsOf z cs] [hs : Stale L d L'] {pos : String} {aft : Array Edge} (hd : okPut d N L' = true)
    (k : ∀ b, w0.heap.size ≤ b → G N ds S w0 ((d, .pointer (some ⟨b, 0, none⟩)) :: L') (Ent.box b cs T :: H) (wpListIn (FW ro) 0 P ops Q rest)) : G N ds S w0 L H (wpListIn (FW ro) 0 P ops Q (⟨some d, .alloc T, ty, pos, aft, none⟩ :: rest)) :=
  g_forget d (g_alloc hd k)
theorem run_storeOne {T : Nat} [h : OneCell P T] {p : Addr} {v u : Value} (h1 : v.oneCell' = true) (hc : w.cell? p = some u) (hz : w.frozen? p = false) : (Instr.storeAt T (.pointer (some p)) v).run P w = .ok () (w.setCell p v) := by
  have hs : (store p v).run P w = .ok () (w.setCell p v) := by
    rw [run_store P w p v .plain (by cases v <;> first | rfl | cases h1)]
    simp [hc, hz]
  have ha : p.add 0 = p := by simp [Addr.add]
  have hcs : v.cells = #[v] := by cases v <;> first | rfl | cases h1
  simp [Instr.storeAt, Instr.sureAddr, storeVar, h.sz, hcs, storeCells, hs, ha]
class OneV (v : Value) : Prop where
  one : v.oneCell' = true
instance (b : Bool) : OneV (.bool b) := ⟨rfl⟩
instance (k : IntKind) (n : Int) : OneV (.int k n) := ⟨rfl⟩
instance (s : ByteArray) : OneV (.string s) := ⟨rfl⟩
instance (p : Option Addr) : OneV (.pointer p) := ⟨rfl⟩
instance (p : Option Addr) (n c : Nat) : OneV (.slice p n c) := ⟨rfl⟩
instance (f : Fn) (x y : Array Value) : OneV (.func f x y) := ⟨rfl⟩
instance : OneV .nilFunc := ⟨rfl⟩
class OneVs (vs : List Value) : Prop where
  all : ∀ v ∈ vs, v.oneCell' = true
instance : OneVs [] := ⟨by simp⟩
instance (v : Value) (vs : List Value) [h : OneV v] [hs : OneVs vs] : OneVs (v :: vs) := ⟨by
  intro u hu
  rcases List.mem_cons.1 hu with rfl | hu
  · exact h.one
  · exact hs.all u hu⟩
theorem g_store {ty T b o j t : Nat} [h : OneCell P T] {cs cs' : List Value} {u v : Value} {pos : String} {aft : Array Edge} {x y : Operand}
    [hx : Ev L x (.pointer (some ⟨b, o, none⟩))] [hy : Ev L y v] [h1 : OneV v] [hb : BoxIn H b j cs t] [hu : ListAt cs o u] [hs : SetAt cs o v cs'] [hH : SetAt H j (Ent.box b cs' t) H']
    (k : G N ds S w0 L H' (wpListIn (FW ro) 0 P ops Q rest)) : G N ds S w0 L H (wpListIn (FW ro) 0 P ops Q (⟨none, .store T x y, ty, pos, aft, none⟩ :: rest)) := by
  intro a w hS
  have hbx := hS.wd.boxAt j hb.at'
  refine step_skip (w' := w.setCell ⟨b, o, none⟩ v) rfl (fun _ h => by cases h) ?_ ?_
  · have := run_storeOne (P := P) (T := T) h1.one (hS.wd.cellBox j hb.at' hu.at') (by simp [World.frozen?, hbx])
    simp [execOp, hx.eq _ _ _ hS.fr, hy.eq _ _ _ hS.fr, this]
  · refine k _ _ ⟨hS.fr, ?_⟩
    have := hS.wd.setBox j (o := o) v hb.at'
    rw [hs.set', hH.set'] at this
    exact this
/-- a whole struct into a box, or into a part of one -/
theorem g_storeAgg {ty T b o j t n : Nat} [h : AggSize P T n] {cs vs cs' : List Value} {pos : String} {aft : Array Edge} {x y : Operand}
    [hx : Ev L x (.pointer (some ⟨b, o, none⟩))] [hy : Ev L y (.agg vs.toArray)] [hb : BoxIn H b j cs t] [hn : LenIs vs n] [hp : PutAt cs o vs cs'] [h1 : OneVs vs] [hH : SetAt H j (Ent.box b cs' t) H']
    (k : G N ds S w0 L H' (wpListIn (FW ro) 0 P ops Q rest)) : G N ds S w0 L H (wpListIn (FW ro) 0 P ops Q (⟨none, .store T x y, ty, pos, aft, none⟩ :: rest)) := by
  intro a w hS
  have hbx := hS.wd.boxAt j hb.at'
  refine step_skip (w' := w.setRow b cs'.toArray) rfl (fun _ h => by cases h) ?_ ?_
  · have hs := run_storeCells_at P b o t vs 0 cs.toArray w hbx (by simpa using hp.le) h1.all
    have e : (cs.toArray.toList.take (o + 0) ++ vs ++ cs.toArray.toList.drop (o + 0 + vs.length)).toArray = cs'.toArray := by
      rw [← hp.eq, ← putL_eq cs o vs hp.le]
      simp
    rw [e] at hs
    simp [execOp, hx.eq _ _ _ hS.fr, hy.eq _ _ _ hS.fr, Instr.storeAt, Instr.sureAddr, storeVar, h.sz, Value.cells, hn.eq, hs]
  · refine k _ _ ⟨hS.fr, ?_⟩
    have := hS.wd.rowBox j cs' hb.at'
    rw [hH.set'] at this
    exact this

/-! ### What is guarded -/
class DstOf (ops : Array Oper) (j : Nat) (t : outParam Nat) : Prop where
  eq : (ops[j]?).bind (·.dst) = some t
instance {l : List Oper} {j t ty : Nat} {op : Op} {pos : String} {aft : Array Edge} {gd : Option (Nat × Bool)} [h : ListAt l j ⟨some t, op, ty, pos, aft, gd⟩] : DstOf l.toArray j t := ⟨by simp [h.at']⟩
theorem Fr.yield (h : Fr N ds L a) {j t : Nat} {b : Bool} [hj : DstOf ops j t] [hb : SlotIs L t (.bool b)] : yielded ops a.tmps j = some b := by
  have := h.slot _ hb.mem
  simp only at this
  simp [yielded, hj.eq, this]
class NotB (b : Bool) (c : outParam Bool) : Prop where
  eq : b = !c
instance : NotB true false := ⟨rfl⟩
instance : NotB false true := ⟨rfl⟩
theorem NotB.ne {b c : Bool} (h : NotB b c) : (some c == some b) = false := by
  have := h.eq
  cases b <;> cases c <;> first | rfl | cases this
theorem g_pass {d ty j t : Nat} {want b : Bool} {pos : String} {aft : Array Edge} {op : Op} [hj : DstOf ops j t] [hn : NotB want b] [hb : SlotIs L t (.bool b)] (hd : okPut d N L = true)
    (k : G N ds S w0 ((d, undef) :: L) H (wpListIn (FW ro) 0 P ops Q rest)) : G N ds S w0 L H (wpListIn (FW ro) 0 P ops Q (⟨some d, op, ty, pos, aft, some (j, want)⟩ :: rest)) := by
  intro a w hS
  refine wpListIn_step fun K hK => ?_
  have h1 : Region.wanted (⟨some d, op, ty, pos, aft, some (j, want)⟩ : Oper) (yielded ops a.tmps) = false := by
    simp only [Region.wanted, hS.fr.yield (ops := ops) (j := j) (b := b)]
    exact hn.ne
  rw [h1]
  exact ⟨fun _ _ => trivial, hK _ _ (k _ _ ⟨hS.fr.putOk hd undef, hS.wd⟩)⟩
theorem g_passS {d ty j t : Nat} {want b : Bool} {pos : String} {aft : Array Edge} {op : Op} [hj : DstOf ops j t] [hn : NotB want b] [_hb : SlotIs L t (.bool b)] [hs : Stale L d L'] [hb' : SlotIs L' t (.bool b)] (hd : okPut d N L' = true)
    (k : G N ds S w0 ((d, undef) :: L') H (wpListIn (FW ro) 0 P ops Q rest)) : G N ds S w0 L H (wpListIn (FW ro) 0 P ops Q (⟨some d, op, ty, pos, aft, some (j, want)⟩ :: rest)) :=
  g_forget d (g_pass (b := b) hd k)
/-- an operation without a slot, passed over -/
theorem g_pass0 {ty j t : Nat} {want b : Bool} {pos : String} {aft : Array Edge} {op : Op} [hj : DstOf ops j t] [hn : NotB want b] [hb : SlotIs L t (.bool b)]
    (k : G N ds S w0 L H (wpListIn (FW ro) 0 P ops Q rest)) : G N ds S w0 L H (wpListIn (FW ro) 0 P ops Q (⟨none, op, ty, pos, aft, some (j, want)⟩ :: rest)) := by
  intro a w hS
  refine wpListIn_step fun K hK => ?_
  have h1 : Region.wanted (⟨none, op, ty, pos, aft, some (j, want)⟩ : Oper) (yielded ops a.tmps) = false := by
    simp only [Region.wanted, hS.fr.yield (ops := ops) (j := j) (b := b)]
    exact hn.ne
  rw [h1]
  exact ⟨fun _ _ => trivial, hK _ _ (k _ _ hS)⟩
/-- the guard says yes: the operation as if it had none -/
theorem g_open {d : Option Tmp} {ty j t : Nat} {want : Bool} {pos : String} {aft : Array Edge} {op : Op} [hj : DstOf ops j t] [hb : SlotIs L t (.bool want)]
    (k : G N ds S w0 L H (wpListIn (FW ro) 0 P ops Q (⟨d, op, ty, pos, aft, none⟩ :: rest))) : G N ds S w0 L H (wpListIn (FW ro) 0 P ops Q (⟨d, op, ty, pos, aft, some (j, want)⟩ :: rest)) := by
  intro a w hS
  have h1 : Region.wanted (⟨d, op, ty, pos, aft, some (j, want)⟩ : Oper) (yielded ops a.tmps) = true := by
    simp only [Region.wanted, hS.fr.yield (ops := ops) (j := j) (b := want)]
    simp
  have h2 : Region.wanted (⟨d, op, ty, pos, aft, none⟩ : Oper) (yielded ops a.tmps) = true := rfl
  have k := k a w hS
  unfold wpListIn at k ⊢
  rw [if_pos h1]
  rw [if_pos h2] at k
  exact k

/-! ### Pieces of a region, and of what is known -/
theorem St.fix (h : St N ds S w0 L H a w) (hL : allIn L L') (hH : H'.Sublist H) : St N ds S w0 L' H' a w := ⟨h.fr.to hL, h.wd.sub hH⟩
/-- less is known -/
theorem g_fix (hL : allIn L L') (hH : H'.Sublist H) (k : G N ds S w0 L' H' p) : G N ds S w0 L H p := fun a w hS => k a w (hS.fix hL hH)
theorem g_done (hL : allIn L L') (hH : H'.Sublist H) : G N ds S w0 L H (St N ds S w0 L' H') := fun _ _ hS => hS.fix hL hH
theorem wpl_split {l : List Oper} (n : Nat) {M : Act → World → Prop} (h2 : ∀ a w, M a w → wpListIn (FW ro) 0 P ops Q (l.drop n) a w) :
    ∀ {a : Act} {w : World}, wpListIn (FW ro) 0 P ops (Exit.then M Q) (l.take n) a w → wpListIn (FW ro) 0 P ops Q l a w := by
  have upon : ∀ (o : Oper) (a : Act) (K K' : Act → World → Prop), (∀ a w, K a w → K' a w) → ∀ r, o.uponIn (FW ro) 0 P a K (Exit.then M Q) r → o.uponIn (FW ro) 0 P a K' Q r := by
    intro o a K K' hK r h
    cases r with
    | ok nx w1 =>
      cases nx with
      | value v => exact hK _ _ h
      | skip => exact hK _ _ h
      | defer d => exact hK _ _ h
      | enter f args =>
        refine ⟨h.1, h.2.mono fun e w2 hh => ?_⟩
        cases e with
        | returned v => exact hK _ _ hh
        | panicked c => exact hh
        | outgrown => exact hh
      | row r args => exact ⟨h.1, h.2.mono fun v w2 hh => hK _ _ hh⟩
      | round l f tmps assign body =>
        refine ⟨h.1, h.2.mono fun e w2 hh => ?_⟩
        cases e with
        | returned v => exact hK _ _ hh
        | panicked c => exact hh
        | outgrown => exact hh
      | _ => exact h
    | halt x w1 => cases x <;> exact h
  induction n generalizing l with
  | zero =>
    intro a w h
    exact h2 a w h
  | succ n ih =>
    intro a w h
    cases l with
    | nil => exact h2 a w h
    | cons o r =>
      simp only [List.take_succ_cons] at h
      simp only [List.drop_succ_cons] at h2
      unfold wpListIn at h ⊢
      split
      · rename_i hw
        rw [if_pos hw] at h
        exact ⟨h.1, upon o a _ _ (fun a w hh => ih h2 hh) _ h.2⟩
      · rename_i hw
        rw [if_neg hw] at h
        exact ⟨h.1, ih h2 h.2⟩
class SplitAt {α : Type} (l : List α) (n : Nat) (l1 l2 : outParam (List α)) : Prop where
  t : l.take n = l1
  d : l.drop n = l2
instance {α : Type} (l : List α) : SplitAt l 0 [] l := ⟨by simp, by simp⟩
instance {α : Type} (x : α) (l l1 l2 : List α) (n : Nat) [h : SplitAt l n l1 l2] : SplitAt (x :: l) (n + 1) (x :: l1) l2 := ⟨by simp [h.t], by simp [h.d]⟩
/-- after n operations slot d holds 'val'; all else that is known is as before -/
theorem g_join {l l1 l2 : List Oper} (n d : Nat) (val : Value) [hs : SplitAt l n l1 l2]
    (h1 : G N ds S w0 L H (wpListIn (FW ro) 0 P ops (Exit.then (St N ds S w0 ((d, val) :: L) H) Q) l1))
    (h2 : G N ds S w0 ((d, val) :: L) H (wpListIn (FW ro) 0 P ops Q l2)) : G N ds S w0 L H (wpListIn (FW ro) 0 P ops Q l) := fun a w hS =>
  wpl_split (M := St N ds S w0 ((d, val) :: L) H) n (fun a w h => by rw [hs.d]; exact h2 a w h) (by rw [hs.t]; exact h1 a w hS)

/-! ### Code -/
theorem g_region {id : Nat} {l : List Oper} (h : G N ds S w0 L H (wpListIn (FW ro) 0 P l.toArray Q l)) : G N ds S w0 L H (Code.wpIn (FW ro) 0 P (Code.region id l.toArray false) Q) := fun a w hS => wpIn_region_lit (h a w hS)
theorem g_nil (h : G N ds S w0 L H (Q .normal)) : G N ds S w0 L H (wpListIn (FW ro) 0 P ops Q []) := h
theorem g_seq {x y : Code} (h : G N ds S w0 L H (Code.wpIn (FW ro) 0 P x (Exit.then (Code.wpIn (FW ro) 0 P y Q) Q))) : G N ds S w0 L H (Code.wpIn (FW ro) 0 P (x.seq y) Q) := fun a w hS => wpIn_seq (h a w hS)
theorem g_block {id : Nat} {x : Code} (h : G N ds S w0 L H (Code.wpIn (FW ro) 0 P x (Exit.inBlock id Q))) : G N ds S w0 L H (Code.wpIn (FW ro) 0 P (Code.block id x) Q) := fun a w hS => wpIn_block (h a w hS)
theorem g_skip (h : G N ds S w0 L H (Q .normal)) : G N ds S w0 L H (Code.wpIn (FW ro) 0 P Code.skip Q) := fun a w hS => wpIn_skip (h a w hS)
theorem g_exit {id : Nat} (h : G N ds S w0 L H (Q (.exit id))) : G N ds S w0 L H (Code.wpIn (FW ro) 0 P (Code.exit id) Q) := fun a w hS => wpIn_exit (h a w hS)
theorem g_ret (h : G N ds S w0 L H (Q .ret)) : G N ds S w0 L H (Code.wpIn (FW ro) 0 P Code.ret Q) := fun a w hS => wpIn_ret (h a w hS)
theorem g_then {K : Act → World → Prop} (h : G N ds S w0 L H K) : G N ds S w0 L H (Exit.then K Q .normal) := h
theorem g_inBlock {id : Nat} (h : G N ds S w0 L H (Q .normal)) : G N ds S w0 L H (Exit.inBlock id Q .normal) := h
theorem g_exitHere {id : Nat} (h : G N ds S w0 L H (Q .normal)) : G N ds S w0 L H (Exit.inBlock id Q (.exit id)) := fun a w hS => by simp only [Exit.inBlock, if_true]; exact h a w hS
theorem g_exitOn {id id' : Nat} (hne : Nat.beq id' id = false) (h : G N ds S w0 L H (Q (.exit id'))) : G N ds S w0 L H (Exit.inBlock id Q (.exit id')) := fun a w hS => by
  have : ¬ id' = id := by intro e; subst e; simp at hne
  simp only [Exit.inBlock, if_neg this]; exact h a w hS
theorem g_thenExit {K : Act → World → Prop} {id : Nat} (h : G N ds S w0 L H (Q (.exit id))) : G N ds S w0 L H (Exit.then K Q (.exit id)) := h
theorem g_thenRet {K : Act → World → Prop} (h : G N ds S w0 L H (Q .ret)) : G N ds S w0 L H (Exit.then K Q .ret) := h
theorem g_blockRet {id : Nat} (h : G N ds S w0 L H (Q .ret)) : G N ds S w0 L H (Exit.inBlock id Q .ret) := h
theorem g_cond {c : Operand} {x y : Code} {b : Bool} [hc : Ev L c (.bool b)] (ht : b = true → G N ds S w0 L H (Code.wpIn (FW ro) 0 P x Q)) (hf : b = false → G N ds S w0 L H (Code.wpIn (FW ro) 0 P y Q)) : G N ds S w0 L H (Code.wpIn (FW ro) 0 P (Code.cond c x y) Q) :=
  fun a w hS => wpIn_cond_split (hc.eq _ _ _ hS.fr) (fun h => ht h a w hS) (fun h => hf h a w hS)
theorem g_condT {c : Operand} {x y : Code} [hc : Ev L c (.bool true)] (ht : G N ds S w0 L H (Code.wpIn (FW ro) 0 P x Q)) : G N ds S w0 L H (Code.wpIn (FW ro) 0 P (Code.cond c x y) Q) := g_cond (b := true) (fun _ => ht) (fun h => by cases h)
theorem g_condF {c : Operand} {x y : Code} [hc : Ev L c (.bool false)] (hf : G N ds S w0 L H (Code.wpIn (FW ro) 0 P y Q)) : G N ds S w0 L H (Code.wpIn (FW ro) 0 P (Code.cond c x y) Q) := g_cond (b := false) (fun h => by cases h) (fun _ => hf)
theorem c_loop {α : Type} (I : α → Act → World → Prop) (m : α → Nat) {c : Code} (x : α) (h0 : I x a w)
    (round : ∀ x a w, I x a w → c.wpIn (FW ro) 0 P (Exit.then (fun a' w' => ∃ x', I x' a' w' ∧ m x' < m x) Q) a w) : (Code.loop c).wpIn (FW ro) 0 P Q a w := by
  classical
  have ex : ∀ a w, (∃ x, I x a w) → ∃ x, I x a w ∧ ∀ y, I y a w → m x ≤ m y := by
    intro a w h
    have : ∀ k : Nat, ∀ x, I x a w → m x = k → ∃ x, I x a w ∧ ∀ y, I y a w → m x ≤ m y := by
      intro k
      induction k using Nat.strongRecOn with
      | _ k ih =>
        intro x hx hk
        by_cases hy : ∃ y, I y a w ∧ m y < m x
        · obtain ⟨y, hy1, hy2⟩ := hy
          exact ih (m y) (by omega) y hy1 rfl
        · exact ⟨x, hx, fun y hy' => Nat.le_of_not_lt fun hlt => hy ⟨y, hy', hlt⟩⟩
    obtain ⟨x, hx⟩ := h
    exact this _ x hx rfl
  refine wpIn_loop (fun a w => ∃ x, I x a w) (fun a w => if h : ∃ x, I x a w then m (Classical.choose (ex a w h)) else 0) ⟨x, h0⟩ fun a w hI => ?_
  have hs := Classical.choose_spec (ex a w hI)
  have hr := round _ a w hs.1
  refine Code.wpIn_mono (fun e a' w' q => ?_) hr
  cases e with
  | normal =>
    obtain ⟨x', hx', hlt⟩ := q
    have hI' : ∃ x, I x a' w' := ⟨x', hx'⟩
    refine ⟨hI', ?_⟩
    rw [dif_pos hI, dif_pos hI']
    exact Nat.lt_of_le_of_lt ((Classical.choose_spec (ex a' w' hI')).2 x' hx') hlt
  | _ => exact q
/-- what a round ends in -/
def Next {α : Type} (N : Nat) (ds : List Deferred) (S : Nat → Prop) (w0 : World) (I : α → Prop) (Lx : α → List (Nat × Value)) (Hx : α → List Ent) (m : α → Nat) (x : α) : Act → World → Prop :=
  fun a w => ∃ x', (I x' ∧ St N ds S w0 (Lx x') (Hx x') a w) ∧ m x' < m x
/-- a loop: what holds at the head of each round, by a number of rounds or whatever else tells them apart; a measure -/
theorem g_loop {α : Type} (I : α → Prop) (Lx : α → List (Nat × Value)) (Hx : α → List Ent) (m : α → Nat) {c : Code} (x : α) (hI : I x) (h0 : G N ds S w0 L H (St N ds S w0 (Lx x) (Hx x)))
    (round : ∀ x, I x → G N ds S w0 (Lx x) (Hx x) (Code.wpIn (FW ro) 0 P c (Exit.then (Next N ds S w0 I Lx Hx m x) Q))) : G N ds S w0 L H (Code.wpIn (FW ro) 0 P (Code.loop c) Q) :=
  fun a w hS => c_loop (fun x a w => I x ∧ St N ds S w0 (Lx x) (Hx x) a w) m x ⟨hI, h0 a w hS⟩ fun x a w h => round x h.1 a w h.2
theorem g_next {α : Type} {I : α → Prop} {Lx : α → List (Nat × Value)} {Hx : α → List Ent} {m : α → Nat} {x : α} (x' : α) (hI : I x') (hm : m x' < m x) (hL : allIn L (Lx x')) (hH : (Hx x').Sublist H) : G N ds S w0 L H (Next N ds S w0 I Lx Hx m x) :=
  fun _ _ hS => ⟨x', ⟨hI, hS.fix hL hH⟩, hm⟩

/-! ### Calls and ends -/
def Ret (P : Program) (f : FuncId) (args : List Value) (w : World) (R : Value → World → Prop) : Prop := CallsIn (FW none) 0 P f args.toArray w fun e w' => ∃ v, e = .returned v ∧ R v w'
/-- a callee that hands back v, whatever the world, and turns nothing that was there -/
def RetV (P : Program) (f : FuncId) (args : List Value) (w : World) (v : Value) : Prop := Ret P f args w fun u w' => u = v ∧ Chg NoS w w'
theorem Ret.mono {f : FuncId} {args : List Value} {R R' : Value → World → Prop} (h : Ret P f args w R) (hr : ∀ v w', R v w' → R' v w') : Ret P f args w R' :=
  CallsIn.mono h fun _ w' ⟨v, he, hR⟩ => ⟨v, he, hr v w' hR⟩
def enumL : Nat → List Value → List (Nat × Value)
  | _, [] => []
  | i, v :: r => (i, v) :: enumL (i + 1) r
theorem enumL_mem : ∀ (i : Nat) (l : List Value) (p : Nat × Value), p ∈ enumL i l → ∃ j, p.1 = i + j ∧ l[j]? = some p.2
  | i, [], p, h => by simp [enumL] at h
  | i, u :: r, p, h => by
    simp only [enumL, List.mem_cons] at h
    rcases h with rfl | h
    · exact ⟨0, rfl, rfl⟩
    · obtain ⟨j, h1, h2⟩ := enumL_mem (i + 1) r p h
      exact ⟨j + 1, by omega, h2⟩
theorem fr_enter {args : List Value} (hlen : args.length ≤ N) : Fr N [] (enumL 0 args) { tmps := args.toArray ++ Array.replicate (N - args.toArray.size) undef, defers := [] } := by
  refine ⟨by simp; omega, rfl, fun p h => ?_⟩
  obtain ⟨j, hj1, h2⟩ := enumL_mem 0 args p h
  have hj : j < args.length := (List.getElem?_eq_some_iff.1 h2).1
  rw [hj1, Nat.zero_add]
  rw [Array.getElem?_append_left (by simpa using hj)]
  simpa using h2
/-- slots 0, 1, .. hold the arguments -/
class EnumIs (i : Nat) (args : List Value) (L : outParam (List (Nat × Value))) : Prop where
  eq : enumL i args = L
instance (i : Nat) : EnumIs i [] [] := ⟨rfl⟩
class SuccIs (i : Nat) (j : outParam Nat) : Prop where
  eq : i + 1 = j
instance : SuccIs 0 1 := ⟨rfl⟩
instance : SuccIs 1 2 := ⟨rfl⟩
instance : SuccIs 2 3 := ⟨rfl⟩
instance : SuccIs 3 4 := ⟨rfl⟩
instance : SuccIs 4 5 := ⟨rfl⟩
instance : SuccIs 5 6 := ⟨rfl⟩
instance : SuccIs 6 7 := ⟨rfl⟩
instance : SuccIs 7 8 := ⟨rfl⟩
instance (i j : Nat) (v : Value) (r : List Value) (L : List (Nat × Value)) [hj : SuccIs i j] [h : EnumIs j r L] : EnumIs i (v :: r) ((i, v) :: L) := ⟨by simp only [enumL]; rw [hj.eq, h.eq]⟩
theorem ret_enter {f : FuncId} {fn : Func} {c : Code} {args : List Value} {R : Value → World → Prop} (hf : P.funcs[f]? = some fn) (hb : fn.body = some c) (hN : fn.ntmps = N) [hL : EnumIs 0 args L] (hlen : args.length.ble N = true) (hW : Wd S w H w)
    (h : G N [] S w L H (Code.wpIn (FW none) 0 P c (bodyPost P fn fun e w' => ∃ v, e = .returned v ∧ R v w'))) : Ret P f args w R := by
  subst hN
  refine callsIn_of_wp hf hb trivial (h _ _ ⟨?_, hW⟩)
  rw [← hL.eq]
  exact fr_enter (Nat.le_of_ble_eq_true hlen)
theorem g_call {d ty f : Nat} {args : List Operand} {vs : List Value} {tys : Array Nat} {pos : String} {aft : Array Edge} (R : World → Value → World → Prop) [h : EnterOk P f] [hx : Evs L args vs] (hd : okPut d N L = true)
    (hc : ∀ w, Wd S w0 H w → Ret P f vs w (R w))
    (k : ∀ v w w', Wd S w0 H w → R w v w' → ∀ a, Fr N ds ((d, v) :: L) a → wpListIn (FW ro) 0 P ops Q rest a w') : G N ds S w0 L H (wpListIn (FW ro) 0 P ops Q (⟨some d, .call { callee := .value (.func f), args := args.toArray, argTypes := tys }, ty, pos, aft, none⟩ :: rest)) := by
  intro a w hS
  refine wpListIn_plain rfl fun K hK => ?_
  refine ⟨fun _ _ => trivial, ?_⟩
  rw [semAt_ne _ _ _ (fun _ h => by cases h)]
  have hr : (execOp a.eval ⟨some d, .call { callee := .value (.func f), args := args.toArray, argTypes := tys }, ty, pos, aft, none⟩).run P w = .ok (.enter f vs.toArray) w := by
    simp [execOp, resolve, Act.eval, Deferred.ofValue, invoke, hx.eq _ _ _ hS.fr, h.run]
  rw [hr]
  refine ⟨fun h => (by cases h), ?_⟩
  refine CallsIn.mono (R := fun e w' => ∃ v, e = .returned v ∧ R w v w') (hc w hS.wd) fun e w' ⟨v, he, hR⟩ => ?_
  subst he
  exact hK _ _ (k v w w' hS.wd hR _ (hS.fr.putOk hd v))
theorem g_callV {d ty f : Nat} {args : List Operand} {vs : List Value} {tys : Array Nat} {pos : String} {aft : Array Edge} {u : Value} [h : EnterOk P f] [hx : Evs L args vs] (hd : okPut d N L = true)
    (hc : ∀ w, Wd S w0 H w → RetV P f vs w u)
    (k : G N ds S w0 ((d, u) :: L) H (wpListIn (FW ro) 0 P ops Q rest)) : G N ds S w0 L H (wpListIn (FW ro) 0 P ops Q (⟨some d, .call { callee := .value (.func f), args := args.toArray, argTypes := tys }, ty, pos, aft, none⟩ :: rest)) :=
  g_call (fun w v w' => v = u ∧ Chg NoS w w') hd hc fun v _ w' hw hR a hF => k a w' ⟨by rw [← hR.1]; exact hF, hw.call hR.2⟩
/-- a callee that hands back something that is told by x, with memory of its own -/
theorem g_callE {α : Type} {val : α → Value} {E : α → List Ent} {φ : α → Prop} {d ty f : Nat} {args : List Operand} {vs : List Value} {tys : Array Nat} {pos : String} {aft : Array Edge} [h : EnterOk P f] [hx : Evs L args vs] (hd : okPut d N L = true)
    (hc : ∀ w, Wd S w0 H w → Ret P f vs w fun u w' => ∃ x, u = val x ∧ Wd NoS w (E x) w' ∧ φ x)
    (k : ∀ x, φ x → G N ds S w0 ((d, val x) :: L) (E x ++ H) (wpListIn (FW ro) 0 P ops Q rest)) : G N ds S w0 L H (wpListIn (FW ro) 0 P ops Q (⟨some d, .call { callee := .value (.func f), args := args.toArray, argTypes := tys }, ty, pos, aft, none⟩ :: rest)) := by
  intro a w hS
  refine g_call (S := S) (w0 := w0) (H := H) (fun _ u w' => ∃ x, u = val x ∧ Wd S w0 (E x ++ H) w' ∧ φ x) hd (fun w hw => (hc w hw).mono fun v w' ⟨x, h1, h2, h3⟩ => ⟨x, h1, hw.more h2, h3⟩) (fun v w w' hw hR a hF => ?_) a w hS
  obtain ⟨x, rfl, h2, h3⟩ := hR
  exact k x h3 a w' ⟨hF, h2⟩
theorem g_ret1 {fn : Func} {R : Value → World → Prop} {t : Nat} {v : Value} (hr : fn.results = #[.tmp t]) [hv : SlotIs L t v] (hR : ∀ w, Wd S w0 H w → R v w) : G N [] S w0 L H (bodyPost P fn (fun e w' => ∃ v, e = .returned v ∧ R v w') .ret) := fun a w hS =>
  ⟨hS.fr.defers, v, by rw [results_tmp hr]; simp [Array.getD_eq_getD_getElem?, hS.fr.slot _ hv.mem], v, rfl, hR w hS.wd⟩
theorem g_retV {fn : Func} {t : Nat} {u v : Value} (hr : fn.results = #[.tmp t]) [hv : SlotIs L t v] (hu : v = u) : G N [] NoS w0 L H (bodyPost P fn (fun e w' => ∃ v, e = .returned v ∧ v = u ∧ Chg NoS w0 w') .ret) :=
  g_ret1 hr fun _ hw => ⟨hu, hw.chg⟩
theorem g_ret2 {fn : Func} {R : Value → World → Prop} {t s : Nat} {v u : Value} (hr : fn.results = #[.tmp t, .tmp s]) [hv : SlotIs L t v] [hu : SlotIs L s u] (hR : ∀ w, Wd S w0 H w → R (.tuple #[v, u]) w) : G N [] S w0 L H (bodyPost P fn (fun e w' => ∃ v, e = .returned v ∧ R v w') .ret) := fun a w hS =>
  ⟨hS.fr.defers, .tuple #[v, u], by rw [results_tmp2 hr]; simp [Array.getD_eq_getD_getElem?, hS.fr.slot _ hv.mem, hS.fr.slot _ hu.mem], _, rfl, hR w hS.wd⟩
theorem g_ret0 {fn : Func} {R : Value → World → Prop} (hr : fn.results = #[]) (hR : ∀ w, Wd S w0 H w → R (.tuple #[]) w) : G N [] S w0 L H (bodyPost P fn (fun e w' => ∃ v, e = .returned v ∧ R v w') .ret) := fun _ w hS =>
  ⟨hS.fr.defers, .tuple #[], results_none hr _ _ _, _, rfl, hR w hS.wd⟩
theorem g_end0 {fn : Func} {R : Value → World → Prop} (hr : fn.results = #[]) (hR : ∀ w, Wd S w0 H w → R (.tuple #[]) w) : G N [] S w0 L H (bodyPost P fn (fun e w' => ∃ v, e = .returned v ∧ R v w') .normal) := fun _ w hS =>
  ⟨hS.fr.defers, .tuple #[], results_none hr _ _ _, _, rfl, hR w hS.wd⟩

/-! ### A region that draws its order, where all operations and callees only read -/
def GQ (N : Nat) (ds : List Deferred) (L : List (Nat × Value)) (p : Act → Prop) : Prop := ∀ a, Fr N ds L a → p a
theorem g_draw {id : Nat} {l : List Oper} (hm : P.follows .mixedOrders = true) (hB : Region.lexB .any l.toArray = true)
    (h : GQ N ds L (wpQuiet P l.toArray (Wd S w0 H) (fun a' => ∀ w', Wd S w0 H w' → Q .normal a' w') l)) : G N ds S w0 L H (Code.wpIn (FW none) 0 P (Code.region id l.toArray true) Q) := fun a w hS =>
  wpIn_wide.2 (wp_region_quiet hm hB (hS.wd.same rfl rfl rfl rfl) (by simpa using h a hS.fr))
theorem q_nil (h : G N ds S w0 L H p) : GQ N ds L (wpQuiet P ops (Wd S w0 H) (fun a' => ∀ w', Wd S w0 H w' → p a' w') []) := fun a hF w hw => h a w ⟨hF, hw⟩
theorem q_op {Qq : Act → Prop} {d ty : Nat} {pos : String} {aft : Array Edge} {op : Op} {v : Value} [h : RunsC P N ds S w0 L H op v] (hd : okPut d N L = true)
    (k : GQ N ds ((d, v) :: L) (wpQuiet P ops (Wd S w0 H) Qq rest)) : GQ N ds L (wpQuiet P ops (Wd S w0 H) Qq (⟨some d, op, ty, pos, aft, none⟩ :: rest)) := by
  intro a hF
  have h2 : Region.wanted (⟨some d, op, ty, pos, aft, none⟩ : Oper) (yielded ops a.tmps) = true := rfl
  refine BigFrame.wpQuiet_want h2 fun K hK => ⟨v, fun w hw => ?_, hK _ (k _ (hF.putOk hd v))⟩
  unfold Oper.quietAt
  rw [h.run _ _ _ _ _ a w hF hw]
  exact ⟨rfl, rfl⟩
theorem q_forget {p : Act → Prop} (d : Nat) [hs : Stale L d L'] (k : GQ N ds L' p) : GQ N ds L p := fun a hF => k a (hF.stale d)
theorem q_opS {Qq : Act → Prop} {d ty : Nat} {pos : String} {aft : Array Edge} {op : Op} {v : Value} [h : RunsC P N ds S w0 L H op v] [hs : Stale L d L'] (hd : okPut d N L' = true)
    (k : GQ N ds ((d, v) :: L') (wpQuiet P ops (Wd S w0 H) Qq rest)) : GQ N ds L (wpQuiet P ops (Wd S w0 H) Qq (⟨some d, op, ty, pos, aft, none⟩ :: rest)) := by
  intro a hF
  have h2 : Region.wanted (⟨some d, op, ty, pos, aft, none⟩ : Oper) (yielded ops a.tmps) = true := rfl
  refine BigFrame.wpQuiet_want h2 fun K hK => ⟨v, fun w hw => ?_, hK _ (k _ ((hF.stale (L' := L') d).putOk hd v))⟩
  unfold Oper.quietAt
  rw [h.run _ _ _ _ _ a w hF hw]
  exact ⟨rfl, rfl⟩
theorem q_pass {Qq : Act → Prop} {d ty j t : Nat} {want b : Bool} {pos : String} {aft : Array Edge} {op : Op} [hj : DstOf ops j t] [hn : NotB want b] [hb : SlotIs L t (.bool b)] (hd : okPut d N L = true)
    (k : GQ N ds ((d, undef) :: L) (wpQuiet P ops (Wd S w0 H) Qq rest)) : GQ N ds L (wpQuiet P ops (Wd S w0 H) Qq (⟨some d, op, ty, pos, aft, some (j, want)⟩ :: rest)) := by
  intro a hF
  refine BigFrame.wpQuiet_skip ?_ (k _ (hF.putOk hd undef))
  simp only [Region.wanted, hF.yield (ops := ops) (j := j) (b := b)]
  exact hn.ne
theorem q_open {Qq : Act → Prop} {d : Option Tmp} {ty j t : Nat} {want : Bool} {pos : String} {aft : Array Edge} {op : Op} [hj : DstOf ops j t] [hb : SlotIs L t (.bool want)]
    (k : GQ N ds L (wpQuiet P ops (Wd S w0 H) Qq (⟨d, op, ty, pos, aft, none⟩ :: rest))) : GQ N ds L (wpQuiet P ops (Wd S w0 H) Qq (⟨d, op, ty, pos, aft, some (j, want)⟩ :: rest)) := by
  intro a hF
  have h1 : Region.wanted (⟨d, op, ty, pos, aft, some (j, want)⟩ : Oper) (yielded ops a.tmps) = true := by
    simp only [Region.wanted, hF.yield (ops := ops) (j := j) (b := want)]
    simp
  have h2 : Region.wanted (⟨d, op, ty, pos, aft, none⟩ : Oper) (yielded ops a.tmps) = true := rfl
  have k := k a hF
  unfold wpQuiet at k ⊢
  rw [if_pos h1]
  rw [if_pos h2] at k
  exact k
theorem q_add {Qq : Act → Prop} {d ty T T2 : Nat} {pos : String} {aft : Array Edge} {x y : Operand} {m n : Int} [hx : Ev L x (.int .i64 m)] [hy : Ev L y (.int .i64 n)] (hd : okPut d N L = true) (h1 : -9223372036854775808 ≤ m + n) (h2 : m + n ≤ 9223372036854775807)
    (k : GQ N ds ((d, .int .i64 (m + n)) :: L) (wpQuiet P ops (Wd S w0 H) Qq rest)) : GQ N ds L (wpQuiet P ops (Wd S w0 H) Qq (⟨some d, .binOp .add T x y T2, ty, pos, aft, none⟩ :: rest)) := by
  have := runs_add (P := P) (N := N) (ds := ds) (S := S) (w0 := w0) (H := H) (T := T) (T2 := T2) (x := x) (y := y) (L := L) h1 h2
  exact q_op hd k
theorem q_sub {Qq : Act → Prop} {d ty T T2 : Nat} {pos : String} {aft : Array Edge} {x y : Operand} {m n : Int} [hx : Ev L x (.int .i64 m)] [hy : Ev L y (.int .i64 n)] (hd : okPut d N L = true) (h1 : -9223372036854775808 ≤ m - n) (h2 : m - n ≤ 9223372036854775807)
    (k : GQ N ds ((d, .int .i64 (m - n)) :: L) (wpQuiet P ops (Wd S w0 H) Qq rest)) : GQ N ds L (wpQuiet P ops (Wd S w0 H) Qq (⟨some d, .binOp .sub T x y T2, ty, pos, aft, none⟩ :: rest)) := by
  have := runs_sub (P := P) (N := N) (ds := ds) (S := S) (w0 := w0) (H := H) (T := T) (T2 := T2) (x := x) (y := y) (L := L) h1 h2
  exact q_op hd k
theorem q_call {Qq : Act → Prop} {d ty f : Nat} {args : List Operand} {vs : List Value} {tys : Array Nat} {pos : String} {aft : Array Edge} {v : Value} [h : EnterOk P f] [hx : Evs L args vs] (hd : okPut d N L = true)
    (hc : ∀ w, Wd S w0 H w → RetV P f vs w v)
    (k : GQ N ds ((d, v) :: L) (wpQuiet P ops (Wd S w0 H) Qq rest)) : GQ N ds L (wpQuiet P ops (Wd S w0 H) Qq (⟨some d, .call { callee := .value (.func f), args := args.toArray, argTypes := tys }, ty, pos, aft, none⟩ :: rest)) := by
  intro a hF
  have h2 : Region.wanted (⟨some d, .call { callee := .value (.func f), args := args.toArray, argTypes := tys }, ty, pos, aft, none⟩ : Oper) (yielded ops a.tmps) = true := rfl
  refine BigFrame.wpQuiet_want h2 fun K hK => ⟨v, fun w hw => ?_, hK _ (k _ (hF.putOk hd v))⟩
  unfold Oper.quietAt
  have hr : (execOp a.eval ⟨some d, .call { callee := .value (.func f), args := args.toArray, argTypes := tys }, ty, pos, aft, none⟩).run P w = .ok (.enter f vs.toArray) w := by
    simp [execOp, resolve, Act.eval, Deferred.ofValue, invoke, hx.eq _ _ _ hF, h.run]
  rw [hr]
  refine ⟨rfl, ?_⟩
  have h3 : Calls P f vs.toArray w fun e w' => ∃ u, e = .returned u ∧ u = v ∧ Chg NoS w w' := callsIn_wide.1 (hc w hw)
  exact h3.mono fun e w' ⟨u, he, hu, hw'⟩ => ⟨by rw [he, hu], hw.call hw'⟩
end
end Go.Proofs.YtebajiafdkokjaaDoor

/- Texts joined: RunB RunC RunD. -/
import Derived.Test.YtpadjpplidlfeaaGreatDoorGF
import Derived.Test.YtpadjpplidlfeaaGreatDoorGX
import Derived.Test.YtpadjpplidlfeaaGreatDoorHA
/- The walker in memory; its top frame, what a value is, and what is set. -/
namespace Go.Proofs.YtpadjpplidlfeaaGreatDoor
open Go Go.RowKit
attribute [local irreducible] wpListIn Code.wpIn Exit.then Exit.inBlock bodyPost wpQuiet wpAnyIn wpAnyH bodyPostM oneH
set_option maxHeartbeats 8000000

instance nilOk {P : Program} {N : Nat} {ds : List Deferred} {S : Nat → Prop} {w0 : World} {L : List (Nat × Value)} {H : List Ent} {x : Operand} {p : Addr} [hx : Ev L x (.pointer (some p))] : RunsC P N ds S w0 L H (.nilCheck x) (.pointer (some p)) :=
  ⟨fun _ h => (by cases h), fun _ _ h => (by cases h), fun _ _ _ _ _ a w hF _ => by simp [execOp, hx.eq _ _ _ hF]⟩
/-- a frame, and where its registers lie -/
structure FRow where
  f : Frm
  a : Option Addr
  c : Nat
/-- how often each block of a function was come to, and where that lies -/
structure CRow where
  a : Option Addr
  c : Nat
  l : List Nat
def frC (r : FRow) : List Value := [.int .i64 r.f.fn, .int .i64 r.f.block, .int .i64 r.f.at', .slice r.a r.f.regs.length r.c, .int .i64 r.f.dst]
/-- the walker in memory -/
structure MacV where
  ma : Option Addr
  mc : Nat
  mem : List Int
  iv : Value
  inp : List Int
  state : Int
  value : Int
  oa : Option Addr
  oc : Nat
  out : List Int
  steps : Nat
  fa : Option Addr
  fc : Nat
  rows : List FRow
  ca : Option Addr
  cc : Nat
  cs : List CRow
/-- numbers and lengths are in bounds -/
structure MacV.Bd (m : MacV) : Prop where
  rows : m.rows.length ≤ 1000
  regs : ∀ r ∈ m.rows, r.f.regs.length ≤ 1000 ∧ (∀ x ∈ r.f.regs, inI x) ∧ inI r.f.dst
  mem : m.mem.length ≤ 100000 ∧ ∀ x ∈ m.mem, inI x
  out : m.out.length ≤ 1000 ∧ ∀ x ∈ m.out, inI x
  cs : m.cs.length ≤ 1000
  cnt : ∀ r ∈ m.cs, r.l.length ≤ 1000 ∧ ∀ x ∈ r.l, x ≤ m.steps + 1
  steps : m.steps ≤ 1000000
/-- what one reads at the top frame -/
structure TopAt (w : World) (p fb fo n : Nat) (t : FRow) : Prop where
  box : ∃ (g fs av mv iv st va ov sv cv : Value) (c : Nat), CellsAt w p 0 [g, fs, av, mv, iv, st, va, ov, sv, .slice (some ⟨fb, fo, none⟩) n c, cv]
  top : CellsAt w fb (fo + (n - 1) * 5) (frC t)
  regs : SlAt w (.slice t.a t.f.regs.length t.c) 1 t.f.regs IntV
  pos : 0 < n
  le : n ≤ 1000
theorem TopAt.chg {w w' : World} {p fb fo n : Nat} {t : FRow} (h : TopAt w p fb fo n t) (hc : Chg NoS w w') : TopAt w' p fb fo n t := by
  obtain ⟨⟨g, fs, av, mv, iv, st, va, ov, sv, cv, c, h1⟩, h2, h3, h4, h5⟩ := h
  exact ⟨⟨_, _, _, _, _, _, _, _, _, _, _, h1.keep hc⟩, h2.keep hc, h3.keep keeps_int hc, h4, h5⟩
def FRow.set (t : FRow) (dst n : Int) : FRow := { t with f := t.f.set dst n }
end Go.Proofs.YtpadjpplidlfeaaGreatDoor


/- The walker enters a function. -/
namespace Go.Proofs.YtpadjpplidlfeaaGreatDoor
open Go Go.RowKit
attribute [local irreducible] wpListIn Code.wpIn Exit.then Exit.inBlock bodyPost wpQuiet wpAnyIn wpAnyH bodyPostM oneH
set_option maxHeartbeats 8000000

section
variable {P : Program} {ro : Option Nat} {N : Nat} {ds : List Deferred} {S : Nat → Prop} {w0 : World} {L : List (Nat × Value)} {H : List Ent} {ops : Array Oper} {rest : List Oper} {Q : Exit → Act → World → Prop} {x y : Operand}
end
end Go.Proofs.YtpadjpplidlfeaaGreatDoor


/- The walker goes to a block. -/
namespace Go.Proofs.YtpadjpplidlfeaaGreatDoor
open Go Go.RowKit
attribute [local irreducible] wpListIn Code.wpIn Exit.then Exit.inBlock bodyPost wpQuiet wpAnyIn wpAnyH bodyPostM oneH
set_option maxHeartbeats 8000000

/-- what the frame's function is -/
structure AtFn (u : LUnit) (t : Frm) (X : LFunc) (R : Nat) : Prop where
  get : u.funcs[t.fn]? = some X
  ok : FuncOk R X.blocks
  regs : t.regs.length = R
end Go.Proofs.YtpadjpplidlfeaaGreatDoor


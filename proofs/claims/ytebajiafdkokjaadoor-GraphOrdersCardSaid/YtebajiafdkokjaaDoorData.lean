/- The data of the units as plain lists, and what it means that memory holds them. -/
import Derived.Test.YtebajiafdkokjaaDoorCore
namespace Go.Proofs.YtebajiafdkokjaaDoor
open Go Go.RowKit

structure LVal where
  reg : Bool
  n : Int
  deriving DecidableEq
structure LIns where
  op : Int
  dst : Int
  a : LVal
  b : LVal
  fn : Int
  args : List LVal
  deriving DecidableEq
structure LPhi where
  dst : Int
  src : List LVal
  deriving DecidableEq
structure LBlock where
  phis : List LPhi
  list : List LIns
  kind : Int
  on : LVal
  to : List Int
  deriving DecidableEq
structure LFunc where
  name : ByteArray
  params : Int
  regs : Int
  blocks : List LBlock
structure LGlobal where
  name : ByteArray
  size : Int
  init : List Int
structure LUnit where
  globals : List LGlobal
  funcs : List LFunc

def inI (x : Int) : Prop := -9223372036854775808 ≤ x ∧ x ≤ 9223372036854775807
def CellsAt (w : World) (b o : Nat) (cs : List Value) : Prop := ∀ j v, cs[j]? = some v → w.cell? ⟨b, o + j, none⟩ = some v
/-- v is a slice whose elements, of s cells each, read as l -/
def SlAt {α : Type} (w : World) (v : Value) (s : Nat) (l : List α) (V : World → α → List Value → Prop) : Prop :=
  ∃ (a : Option Addr) (n c b o : Nat), v = .slice a n c ∧ n = l.length ∧ n ≤ c ∧ n ≤ 140737488355328 ∧ c ≤ 9223372036854775807 ∧ (l ≠ [] → a = some ⟨b, o, none⟩) ∧ ∀ i x, l[i]? = some x → ∃ cs, CellsAt w b (o + i * s) cs ∧ V w x cs
def IntV (_ : World) (x : Int) (cs : List Value) : Prop := cs = [.int .i64 x] ∧ inI x
def BoolV (_ : World) (x : Bool) (cs : List Value) : Prop := cs = [.bool x]
def StrV (_ : World) (x : ByteArray) (cs : List Value) : Prop := cs = [.string x]
def ValV (_ : World) (x : LVal) (cs : List Value) : Prop := cs = [.bool x.reg, .int .i64 x.n] ∧ inI x.n
def PhiV (w : World) (x : LPhi) (cs : List Value) : Prop := ∃ v, cs = [.int .i64 x.dst, v] ∧ inI x.dst ∧ SlAt w v 2 x.src ValV
def InsV (w : World) (x : LIns) (cs : List Value) : Prop := ∃ v, cs = [.int .i64 x.op, .int .i64 x.dst, .bool x.a.reg, .int .i64 x.a.n, .bool x.b.reg, .int .i64 x.b.n, .int .i64 x.fn, v] ∧
  inI x.op ∧ inI x.dst ∧ inI x.a.n ∧ inI x.b.n ∧ inI x.fn ∧ SlAt w v 2 x.args ValV
def BlockV (w : World) (x : LBlock) (cs : List Value) : Prop := ∃ p l t, cs = [p, l, .int .i64 x.kind, .bool x.on.reg, .int .i64 x.on.n, t] ∧ inI x.kind ∧ inI x.on.n ∧
  SlAt w p 2 x.phis PhiV ∧ SlAt w l 8 x.list InsV ∧ SlAt w t 1 x.to IntV
def FuncV (w : World) (x : LFunc) (cs : List Value) : Prop := ∃ v, cs = [.string x.name, .int .i64 x.params, .int .i64 x.regs, v] ∧ inI x.params ∧ inI x.regs ∧ SlAt w v 6 x.blocks BlockV
def GlobalV (w : World) (x : LGlobal) (cs : List Value) : Prop := ∃ v, cs = [.string x.name, .int .i64 x.size, v] ∧ inI x.size ∧ SlAt w v 1 x.init IntV
def UnitV (w : World) (x : LUnit) (cs : List Value) : Prop := ∃ g f, cs = [g, f] ∧ SlAt w g 3 x.globals GlobalV ∧ SlAt w f 4 x.funcs FuncV

/-! ### They stay while old memory does -/
theorem cell_keep {w w' : World} (h : Chg NoS w w') {p : Addr} {v : Value} (hc : w.cell? p = some v) : w'.cell? p = some v := by
  rw [← hc]
  exact World.cell?_of_block (h.block _ (World.block_lt_of_cell? w p hc) fun h => h)
theorem CellsAt.keep {w w' : World} (h : Chg NoS w w') {b o : Nat} {cs : List Value} (hc : CellsAt w b o cs) : CellsAt w' b o cs := fun j v hj => cell_keep h (hc j v hj)
def Keeps {α : Type} (V : World → α → List Value → Prop) : Prop := ∀ w w', Chg NoS w w' → ∀ x cs, V w x cs → V w' x cs
theorem SlAt.keep {α : Type} {V : World → α → List Value → Prop} (hV : Keeps V) {w w' : World} (h : Chg NoS w w') {v : Value} {s : Nat} {l : List α} (hs : SlAt w v s l V) : SlAt w' v s l V := by
  obtain ⟨a, n, c, b, o, h1, h2, h3, hz, h4, h5, h6⟩ := hs
  refine ⟨a, n, c, b, o, h1, h2, h3, hz, h4, h5, fun i x hx => ?_⟩
  obtain ⟨cs, hc, hv⟩ := h6 i x hx
  exact ⟨cs, hc.keep h, hV w w' h x cs hv⟩
theorem keeps_int : Keeps IntV := fun _ _ _ _ _ h => h
theorem keeps_bool : Keeps BoolV := fun _ _ _ _ _ h => h
theorem keeps_str : Keeps StrV := fun _ _ _ _ _ h => h
theorem keeps_val : Keeps ValV := fun _ _ _ _ _ h => h
theorem keeps_phi : Keeps PhiV := fun _ _ hc _ _ ⟨v, h1, h2, h3⟩ => ⟨v, h1, h2, h3.keep keeps_val hc⟩
theorem keeps_ins : Keeps InsV := fun _ _ hc _ _ ⟨v, h1, h2, h3, h4, h5, h6, h7⟩ => ⟨v, h1, h2, h3, h4, h5, h6, h7.keep keeps_val hc⟩
theorem keeps_block : Keeps BlockV := fun _ _ hc _ _ ⟨p, l, t, h1, h2, h3, h4, h5, h6⟩ => ⟨p, l, t, h1, h2, h3, h4.keep keeps_phi hc, h5.keep keeps_ins hc, h6.keep keeps_int hc⟩
theorem keeps_func : Keeps FuncV := fun _ _ hc _ _ ⟨v, h1, h2, h3, h4⟩ => ⟨v, h1, h2, h3, h4.keep keeps_block hc⟩
theorem keeps_global : Keeps GlobalV := fun _ _ hc _ _ ⟨v, h1, h2, h3⟩ => ⟨v, h1, h2, h3.keep keeps_int hc⟩
theorem keeps_unit : Keeps UnitV := fun _ _ hc _ _ ⟨g, f, h1, h2, h3⟩ => ⟨g, f, h1, h2.keep keeps_global hc, h3.keep keeps_func hc⟩
end Go.Proofs.YtebajiafdkokjaaDoor

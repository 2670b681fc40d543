/- Texts joined: Copy Large Each EachB. -/
import Derived.Test.YtbmnkjaelfjlhaaDoorGC
import Derived.Test.YtbmnkjaelfjlhaaDoorGM
import Derived.Test.YtbmnkjaelfjlhaaDoorHA
/- graph.Copy: what it returns. -/
namespace Go.Proofs.YtbmnkjaelfjlhaaDoor
open Go Go.RowKit
attribute [local irreducible] wpListIn Code.wpIn Exit.then Exit.inBlock bodyPost wpQuiet wpAnyIn wpAnyH
set_option maxHeartbeats 8000000

end Go.Proofs.YtbmnkjaelfjlhaaDoor


/- graph.Large: what it returns. -/
namespace Go.Proofs.YtbmnkjaelfjlhaaDoor
open Go Go.RowKit
attribute [local irreducible] wpListIn Code.wpIn Exit.then Exit.inBlock bodyPost wpQuiet wpAnyIn wpAnyH
set_option maxHeartbeats 4000000

/-- how many phis and instructions -/
def manyL (bl : List LBlock) : Nat := (bl.map fun b => b.phis.length + b.list.length).sum
theorem many_take {bl : List LBlock} {i : Nat} {b : LBlock} (h : bl[i]? = some b) : manyL (bl.take (i + 1)) = manyL (bl.take i) + (b.phis.length + b.list.length) := by
  unfold manyL
  rw [List.take_add_one, h]
  simp
theorem many_le {bl : List LBlock} (h : ∀ b ∈ bl, b.phis.length ≤ 1000 ∧ b.list.length ≤ 1000) : ∀ i, manyL (bl.take i) ≤ 2000 * i := by
  intro i
  induction i with
  | zero => simp [manyL]
  | succ i ih =>
    cases hb : bl[i]? with
    | none =>
      have : bl.take (i + 1) = bl.take i := by rw [List.take_add_one, hb]; simp
      rw [this]; omega
    | some b =>
      have := h b (List.mem_of_getElem? hb)
      rw [many_take hb]; omega
end Go.Proofs.YtbmnkjaelfjlhaaDoor


/- graph.Each: what it returns. -/
namespace Go.Proofs.YtbmnkjaelfjlhaaDoor
open Go Go.RowKit
attribute [local irreducible] wpListIn Code.wpIn Exit.then Exit.inBlock bodyPost wpQuiet wpAnyIn wpAnyH
set_option maxHeartbeats 8000000

structure GRow where
  name : ByteArray
  size : Int
  a : Option Addr
  c : Nat
  init : List Int
structure QRow where
  name : ByteArray
  params : Int
  regs : Int
  a : Option Addr
  c : Nat
  blocks : List LBlock
def GRow.glo (g : GRow) : LGlobal := ⟨g.name, g.size, g.init⟩
def QRow.fun' (q : QRow) : LFunc := ⟨q.name, q.params, q.regs, q.blocks⟩
def gloC (g : GRow) : List Value := [.string g.name, .int .i64 g.size, .slice g.a g.init.length g.c]
def funC (q : QRow) : List Value := [.string q.name, .int .i64 q.params, .int .i64 q.regs, .slice q.a q.blocks.length q.c]
def gloE (g : GRow) : Ent := Ent.vec g.a g.init.length g.c 3 1 (g.init.map (.int .i64))
theorem gloC_len (g : GRow) : (gloC g).length = 3 := rfl
def GloC (_ : World) (g : GRow) (cs : List Value) : Prop := cs = gloC g
def FunC (_ : World) (q : QRow) (cs : List Value) : Prop := cs = funC q
theorem glo_rows {w : World} {v : Value} {l : List LGlobal} (h : SlAt w v 3 l GlobalV) : ∃ (a : Option Addr) (c : Nat) (gs : List GRow), v = .slice a gs.length c ∧ gs.map GRow.glo = l ∧ SlAt w v 3 gs GloC ∧ ∀ g ∈ gs, inI g.size ∧ SlAt w (.slice g.a g.init.length g.c) 1 g.init IntV := by
  obtain ⟨a, n, c, b, o, rfl, hn, _⟩ := id h
  obtain ⟨m, hml, hsl, hq⟩ := slAt_pick (U := GloC) (q := fun x y => GRow.glo y = x ∧ inI y.size ∧ SlAt w (.slice y.a y.init.length y.c) 1 y.init IntV) h fun x _ cs ⟨v, e, hd, hs⟩ => by
    have hs0 := hs
    obtain ⟨a', n', c', _, _, rfl, hn', _⟩ := hs0
    subst hn'
    exact ⟨⟨x.name, x.size, a', c', x.init⟩, e, rfl, hd, hs⟩
  have hmap := map_pick (f := GRow.glo) hml fun i x hx => by
    obtain ⟨y, hy, e, _⟩ := hq i x hx
    exact ⟨y, hy, e⟩
  refine ⟨a, c, m, by rw [hml, hn], hmap, hsl, fun p hp => ?_⟩
  obtain ⟨i, hi⟩ := List.getElem?_of_mem hp
  obtain ⟨y, hy, _, h2⟩ := hq i (l[i]'(by rw [← hml]; exact (List.getElem?_eq_some_iff.1 hi).1)) (List.getElem?_eq_getElem _)
  rw [hi] at hy
  obtain rfl := Option.some.inj hy
  exact h2
theorem fun_rows {w : World} {v : Value} {l : List LFunc} (h : SlAt w v 4 l FuncV) : ∃ (a : Option Addr) (c : Nat) (qs : List QRow), v = .slice a qs.length c ∧ qs.map QRow.fun' = l ∧ SlAt w v 4 qs FunC ∧ ∀ q ∈ qs, (inI q.params ∧ inI q.regs) ∧ SlAt w (.slice q.a q.blocks.length q.c) 6 q.blocks BlockV := by
  obtain ⟨a, n, c, b, o, rfl, hn, _⟩ := id h
  obtain ⟨m, hml, hsl, hq⟩ := slAt_pick (U := FunC) (q := fun x y => QRow.fun' y = x ∧ (inI y.params ∧ inI y.regs) ∧ SlAt w (.slice y.a y.blocks.length y.c) 6 y.blocks BlockV) h fun x _ cs ⟨v, e, hp, hr, hs⟩ => by
    have hs0 := hs
    obtain ⟨a', n', c', _, _, rfl, hn', _⟩ := hs0
    subst hn'
    exact ⟨⟨x.name, x.params, x.regs, a', c', x.blocks⟩, e, rfl, ⟨hp, hr⟩, hs⟩
  have hmap := map_pick (f := QRow.fun') hml fun i x hx => by
    obtain ⟨y, hy, e, _⟩ := hq i x hx
    exact ⟨y, hy, e⟩
  refine ⟨a, c, m, by rw [hml, hn], hmap, hsl, fun p hp => ?_⟩
  obtain ⟨i, hi⟩ := List.getElem?_of_mem hp
  obtain ⟨y, hy, _, h2⟩ := hq i (l[i]'(by rw [← hml]; exact (List.getElem?_eq_some_iff.1 hi).1)) (List.getElem?_eq_getElem _)
  rw [hi] at hy
  obtain rfl := Option.some.inj hy
  exact h2
/-- a function of the call's own -/
def fnE (a : Option Addr) (c : Nat) (bs : List BRow) : List Ent := Ent.vec a bs.length c 47 6 (bs.flatMap blkC) :: bs.map blkE
/-- a function that is done: its row, and the blocks of memory that it takes -/
structure DRow where
  q : QRow
  fp : Nat → Prop
end Go.Proofs.YtbmnkjaelfjlhaaDoor


/- graph.Each: what it returns. -/
namespace Go.Proofs.YtbmnkjaelfjlhaaDoor
open Go Go.RowKit
attribute [local irreducible] wpListIn Code.wpIn Exit.then Exit.inBlock bodyPost wpQuiet wpAnyIn wpAnyH
set_option maxHeartbeats 8000000

/-- a function that is small enough to be copied -/
structure FnLim (X : LFunc) : Prop where
  n : X.blocks.length ≤ 1000
  each : ∀ b ∈ X.blocks, b.phis.length ≤ 1000 ∧ (∀ p ∈ b.phis, p.src.length ≤ 1000) ∧ b.list.length ≤ 1000 ∧ (∀ i ∈ b.list, i.args.length ≤ 1000) ∧ b.to.length ≤ 1000
theorem FnLim.bd {X : LFunc} (h : FnLim X) {w : World} {b : BRow} (hb : b.blk ∈ X.blocks) (hA : BlkAt w b) : b.Bd := by
  obtain ⟨h1, h2, h3, h4, h5⟩ := h.each _ hb
  simp only [BRow.blk, List.length_map] at h1 h3 h5
  exact hA.bd h1 (fun p hp => h2 p.phi (by simp only [BRow.blk]; exact List.mem_map.2 ⟨p, hp, rfl⟩)) h3 (fun i hi => h4 i.x (by simp only [BRow.blk]; exact List.mem_map.2 ⟨i, hi, rfl⟩)) h5
end Go.Proofs.YtbmnkjaelfjlhaaDoor


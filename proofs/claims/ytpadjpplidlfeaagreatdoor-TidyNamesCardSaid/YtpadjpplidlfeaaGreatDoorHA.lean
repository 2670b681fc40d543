/- Texts joined: Clean OwnR Del RunP RunQ RunR. -/
import Derived.Test.YtpadjpplidlfeaaGreatDoorGF
import Derived.Test.YtpadjpplidlfeaaGreatDoorGG
import Derived.Test.YtpadjpplidlfeaaGreatDoorGI
import Derived.Test.YtpadjpplidlfeaaGreatDoorGJ
import Derived.Test.YtpadjpplidlfeaaGreatDoorGM
/- A call that is handed some of the pieces and reads what lies beside them: what is read lies in a world without these pieces. -/
namespace Go.Proofs.YtpadjpplidlfeaaGreatDoor
open Go Go.RowKit

/-- all that can be read there is read here -/
def CellLe (w w' : World) : Prop := ∀ p v, w.cell? p = some v → w'.cell? p = some v
theorem CellLe.refl (w : World) : CellLe w w := fun _ _ h => h
theorem CellLe.trans {a b c : World} (h : CellLe a b) (k : CellLe b c) : CellLe a c := fun p v hp => k p v (h p v hp)
theorem CellLe.chg {w w' : World} (h : Chg NoS w w') : CellLe w w' := fun _ _ hc => cell_keep h hc
theorem CellsAt.le {w w' : World} (h : CellLe w w') {b o : Nat} {cs : List Value} (hc : CellsAt w b o cs) : CellsAt w' b o cs := fun j v hj => h _ _ (hc j v hj)
def MonoV {α : Type} (V : World → α → List Value → Prop) : Prop := ∀ w w', CellLe w w' → ∀ x cs, V w x cs → V w' x cs
theorem SlAt.le {α : Type} {V : World → α → List Value → Prop} (hV : MonoV V) {w w' : World} (h : CellLe w w') {v : Value} {s : Nat} {l : List α} (hs : SlAt w v s l V) : SlAt w' v s l V := by
  obtain ⟨a, n, c, b, o, h1, h2, h3, hz, h4, h5, h6⟩ := hs
  refine ⟨a, n, c, b, o, h1, h2, h3, hz, h4, h5, fun i x hx => ?_⟩
  obtain ⟨cs, hc, hv⟩ := h6 i x hx
  exact ⟨cs, hc.le h, hV w w' h x cs hv⟩
theorem mono_int : MonoV IntV := fun _ _ _ _ _ h => h
theorem mono_val : MonoV ValV := fun _ _ _ _ _ h => h
/-- nothing of S can be read there -/
def Clean (S : Nat → Prop) (w : World) : Prop := ∀ p v, w.cell? p = some v → ¬ S p.block
theorem Clean.old {S : Nat → Prop} {w : World} (h : Clean S w) {b o : Nat} {v : Value} {l : List Value} (hc : CellsAt w b o (v :: l)) : OldIs S b := ⟨h _ _ (hc 0 v rfl)⟩
section
variable {P : Program} {ro : Option Nat} {N : Nat} {ds : List Deferred} {S : Nat → Prop} {w0 w : World} {L : List (Nat × Value)} {H H1 H2 Hr : List Ent} {ops : Array Oper} {rest : List Oper} {Q : Exit → Act → World → Prop} {M : Act → World → Prop} {l : List Oper} {fuel : Nat} {listed : Array Bool}
theorem Clean.le (hcl : Clean S w0) (hw : Wd S w0 (H1 ++ H2) w) : CellLe w0 (killW (fps H1) w) := fun p v hc => by
  have hlt := World.block_lt_of_cell? w0 p hc
  have hS := hcl p v hc
  rw [← hc]
  refine World.cell?_of_block ((kill_get w fun ⟨e, he, hb⟩ => ?_).trans (hw.chg.block _ hlt hS))
  have := (hw.own e (List.mem_append_left _ he) _ hb).1
  exact this.elim hS fun h => by omega
/-- what is old is read now, too -/
theorem Clean.now (hcl : Clean S w0) (hw : Wd S w0 H w) : CellLe w0 w := fun p v hc => by
  rw [← hc]
  exact World.cell?_of_block (hw.chg.block _ (World.block_lt_of_cell? w0 p hc) (hcl p v hc))
end
end Go.Proofs.YtpadjpplidlfeaaGreatDoor


/- Whole structs read from a row of the call's own, and written into it. -/
namespace Go.Proofs.YtpadjpplidlfeaaGreatDoor
open Go Go.RowKit

/-- what lies at a place of the call's own, some cells of it -/
class OwnAgg (H : List Ent) (b off : Nat) (cs : outParam (List Value)) : Prop where
  eq : ∀ S w0 w, Wd S w0 H w → CellsAt w b off cs
section
variable {P : Program} {ro : Option Nat} {N : Nat} {ds : List Deferred} {S : Nat → Prop} {w0 : World} {L : List (Nat × Value)} {H : List Ent} {ops : Array Oper} {rest : List Oper} {Q : Exit → Act → World → Prop} {x y : Operand}
instance {T b off n : Nat} {cs : List Value} [h : AggSize P T n] [hx : Ev L x (.pointer (some ⟨b, off, none⟩))] [hc : OwnAgg H b off cs] [hn : LenIs cs n] : RunsC P N ds S w0 L H (.load T x) (.agg cs.toArray) :=
  ⟨fun _ h => (by cases h), fun _ _ h => (by cases h), fun _ _ _ _ _ a w hF hW => by simp [execOp, hx.eq _ _ _ hF, run_loadAgg hn.eq (hc.eq _ _ _ hW)]⟩
theorem ownAgg {α : Type} {k b o n c e s i : Nat} {l : List α} {g : α → List Value} {y : α} (hk : H[k]? = some (Ent.vec (some ⟨b, o, none⟩) n c e s (l.flatMap g))) (hg : ∀ x, (g x).length = s) (hy : l[i]? = some y) : OwnAgg H b (o + i * s) (g y) :=
  ⟨fun _ _ w hw j v hj => by
    have := hw.vecCell hk (flat_at hg l i y j v hy hj)
    rwa [← Nat.add_assoc] at this⟩
theorem flat_cut {α : Type} {g : α → List Value} {s : Nat} (hg : ∀ x, (g x).length = s) : ∀ (l : List α) (i : Nat), (l.flatMap g).take (i * s) = (l.take i).flatMap g ∧ (l.flatMap g).drop (i * s) = (l.drop i).flatMap g
  | [], i => by simp
  | x :: l, 0 => by simp
  | x :: l, i + 1 => by
    obtain ⟨h1, h2⟩ := flat_cut hg l i
    have e : (i + 1) * s = (g x).length + i * s := by rw [hg, Nat.succ_mul]; omega
    rw [List.flatMap_cons, e, List.take_length_add_append, List.drop_length_add_append, h1, h2]
    simp
theorem flat_put {α : Type} {g : α → List Value} {s : Nat} (hg : ∀ x, (g x).length = s) {l : List α} {i : Nat} (hi : i < l.length) (y : α) : (l.flatMap g).take (i * s) ++ g y ++ (l.flatMap g).drop (i * s + s) = (l.set i y).flatMap g := by
  have e : i * s + s = (i + 1) * s := by rw [Nat.succ_mul]
  rw [e, (flat_cut hg l i).1, (flat_cut hg l (i + 1)).2]
  conv => rhs; rw [List.set_eq_take_append_cons_drop]
  rw [if_pos hi]
  simp
theorem flat_set {α : Type} {g : α → List Value} {s : Nat} (hg : ∀ x, (g x).length = s) : ∀ {l : List α} {i k : Nat} {x y : α} {v : Value}, l[i]? = some x → k < s → (g x).set k v = g y → (l.flatMap g).set (i * s + k) v = (l.set i y).flatMap g
  | [], i, k, x, y, v, hx, _, _ => by simp at hx
  | z :: l, 0, k, x, y, v, hx, hk, he => by
    simp only [List.getElem?_cons_zero, Option.some.injEq] at hx
    subst hx
    rw [List.flatMap_cons, Nat.zero_mul, Nat.zero_add, List.set_append_left _ _ (by rw [hg]; exact hk), he]
    simp
  | z :: l, i + 1, k, x, y, v, hx, hk, he => by
    have ih := flat_set hg (l := l) (i := i) (k := k) (x := x) (y := y) (v := v) (by simpa using hx) hk he
    have e : (i + 1) * s + k = (g z).length + (i * s + k) := by rw [hg, Nat.succ_mul]; omega
    rw [List.flatMap_cons, e, List.set_append_right _ _ (by omega), Nat.add_sub_cancel_left, ih]
    simp
/-- a whole struct into a row of the call's own -/
theorem g_storeVA {ty T b o off j n c e s m : Nat} (k : Nat) {xs vs : List Value} {pos : String} {aft : Array Go.Edge} [h : AggSize P T m] [hx : Ev L x (.pointer (some ⟨b, off, none⟩))] [hy : Ev L y (.agg vs.toArray)] [hn : LenIs vs m] [h1 : OneVs vs]
    (hk : H[k]? = some (Ent.vec (some ⟨b, o, none⟩) n c e s xs)) (hoff : off = o + j) (hfit : j + m ≤ xs.length)
    (kk : G N ds S w0 L (H.set k (Ent.vec (some ⟨b, o, none⟩) n c e s (xs.take j ++ vs ++ xs.drop (j + m)))) (wpListIn (FW ro) 0 P ops Q rest)) : G N ds S w0 L H (wpListIn (FW ro) 0 P ops Q (⟨none, .store T x y, ty, pos, aft, none⟩ :: rest)) := fun a w hS => by
  subst hoff
  obtain ⟨hl, hnc, hcm, pre, sp, rfl, hsp, hb⟩ := hS.wd.vecAt hk
  have hlt : b < w.heap.size := (Array.getElem?_eq_some_iff.1 hb).1
  have hvm := hn.eq
  have hs := run_storeCells_at P b (pre.length + j) e vs 0 _ w hb (by simp; omega) h1.all
  have hrow : (pre ++ xs ++ sp).take (pre.length + j + 0) ++ vs ++ (pre ++ xs ++ sp).drop (pre.length + j + 0 + vs.length) = pre ++ (xs.take j ++ vs ++ xs.drop (j + m)) ++ sp := by
    rw [Nat.add_zero, List.append_assoc pre xs sp, List.take_length_add_append, Nat.add_assoc, List.drop_length_add_append, List.take_append_of_le_length (by omega), List.drop_append_of_le_length (by omega), hvm]
    simp
  simp only at hs
  rw [hrow] at hs
  refine step_skip (w' := w.setRow b (pre ++ (xs.take j ++ vs ++ xs.drop (j + m)) ++ sp).toArray) rfl (fun _ h => by cases h) ?_ ?_
  · simp [execOp, hx.eq _ _ _ hS.fr, hy.eq _ _ _ hS.fr, Instr.storeAt, Instr.sureAddr, storeVar, h.sz, Value.cells, hvm, hs]
  · refine kk _ _ ⟨hS.fr, ?_⟩
    have hsz : ∀ q : Array Value, (w.setRow b q).heap.size = w.heap.size := fun q => by simp [World.setRow]
    refine hS.wd.turnAt hk ⟨rfl, rfl, rfl, by rw [hsz]; exact Nat.le_refl _, fun j _ hj => setRow_other w b j _ fun e' => hj (by simp [Ent.vec, e'])⟩ (fun b' hb' => ?_) fun w2 hw2 => ?_
    · simp only [Ent.vec, Option.map_some, Option.some.injEq] at hb' ⊢
      subst hb'
      exact ⟨.inl rfl, by rw [hsz]; exact hlt⟩
    · have := hw2 b (by simp [Ent.vec])
      refine ⟨?_, .inr ⟨b, pre, sp, rfl, hnc, hcm, hsp, ?_⟩⟩
      · simp only [List.length_append, List.length_take, List.length_drop]; omega
      · rw [this]
        exact setRow_heap w b _ _ e _ hb
end
end Go.Proofs.YtpadjpplidlfeaaGreatDoor


/- A row of the call's own: cells turned in place, an append onto a front of it, clear; slices.Delete of one value. -/
namespace Go.Proofs.YtpadjpplidlfeaaGreatDoor
open Go Go.RowKit
attribute [local irreducible] wpListIn Code.wpIn Exit.then Exit.inBlock bodyPost wpQuiet wpAnyIn wpAnyH
set_option maxHeartbeats 4000000

section
variable {P : Program} {ro : Option Nat} {N : Nat} {ds : List Deferred} {S : Nat → Prop} {w0 w : World} {L : List (Nat × Value)} {H : List Ent} {ops : Array Oper} {rest : List Oper} {Q : Exit → Act → World → Prop} {p : Act → World → Prop} {x y z u : Operand}
/-- cells from a place on, written over -/
theorem Wd.writeAt (hW : Wd S w0 H w) {k : Nat} {b o n c e s : Nat} {xs vs : List Value} (hk : H[k]? = some (Ent.vec (some ⟨b, o, none⟩) n c e s xs)) (j : Nat) (h1 : ∀ v ∈ vs, v.oneCell' = true) (hfit : j + vs.length ≤ xs.length) :
    ∃ w', (storeCells ⟨b, o + j, none⟩ vs).run P w = .ok () w' ∧ Wd S w0 (H.set k (Ent.vec (some ⟨b, o, none⟩) n c e s (xs.take j ++ vs ++ xs.drop (j + vs.length)))) w' := by
  obtain ⟨hl, hnc, hcm, pre, sp, rfl, hsp, hb⟩ := hW.vecAt hk
  have hlt : b < w.heap.size := (Array.getElem?_eq_some_iff.1 hb).1
  have hs := run_storeCells_at P b (pre.length + j) e vs 0 _ w hb (by simp; omega) h1
  have hrow : (pre ++ xs ++ sp).take (pre.length + j + 0) ++ vs ++ (pre ++ xs ++ sp).drop (pre.length + j + 0 + vs.length) = pre ++ (xs.take j ++ vs ++ xs.drop (j + vs.length)) ++ sp := by
    rw [Nat.add_zero, List.append_assoc pre xs sp, List.take_length_add_append, Nat.add_assoc, List.drop_length_add_append, List.take_append_of_le_length (by omega), List.drop_append_of_le_length (by omega)]
    simp
  simp only at hs
  rw [hrow] at hs
  refine ⟨_, hs, ?_⟩
  have hsz : ∀ q : Array Value, (w.setRow b q).heap.size = w.heap.size := fun q => by simp [World.setRow]
  refine hW.turnAt hk ⟨rfl, rfl, rfl, by rw [hsz]; exact Nat.le_refl _, fun j _ hj => setRow_other w b j _ fun e' => hj (by simp [Ent.vec, e'])⟩ (fun b' hb' => ?_) fun w2 hw2 => ?_
  · simp only [Ent.vec, Option.map_some, Option.some.injEq] at hb' ⊢
    subst hb'
    exact ⟨.inl rfl, by rw [hsz]; exact hlt⟩
  · have := hw2 b (by simp [Ent.vec])
    refine ⟨?_, .inr ⟨b, pre, sp, rfl, hnc, hcm, hsp, ?_⟩⟩
    · simp only [List.length_append, List.length_take, List.length_drop]; omega
    · rw [this]
      exact setRow_heap w b _ _ e _ hb
/-- a front of a row; the rest is spare -/
theorem Wd.shrink (hW : Wd S w0 H w) {k : Nat} {b o n c e s : Nat} {xs : List Value} (hk : H[k]? = some (Ent.vec (some ⟨b, o, none⟩) n c e s xs)) (m : Nat) (hm : m ≤ n) :
    Wd S w0 (H.set k (Ent.vec (some ⟨b, o, none⟩) m c e s (xs.take (m * s)))) w := by
  obtain ⟨hl, hnc, hcm, pre, sp, rfl, hsp, hb⟩ := hW.vecAt hk
  have hlt : b < w.heap.size := (Array.getElem?_eq_some_iff.1 hb).1
  have hms : m * s ≤ n * s := Nat.mul_le_mul_right _ hm
  refine hW.turnAt hk (Chg.refl _ _) (fun b' hb' => ?_) fun w2 hw2 => ?_
  · simp only [Ent.vec, Option.map_some, Option.some.injEq] at hb' ⊢
    subst hb'
    exact ⟨.inl rfl, hlt⟩
  · have := hw2 b (by simp [Ent.vec])
    refine ⟨by rw [List.length_take]; omega, .inr ⟨b, pre, xs.drop (m * s) ++ sp, rfl, by omega, hcm, ?_, ?_⟩⟩
    · rw [List.length_append, List.length_drop, hl]
      have h1 : (c - m) * s = (c - n) * s + (n - m) * s := by rw [← Nat.add_mul]; congr 1; omega
      have h2 : (n - m) * s = n * s - m * s := Nat.sub_mul _ _ _
      omega
    · rw [this, hb]
      have : pre ++ xs ++ sp = pre ++ xs.take (m * s) ++ (xs.drop (m * s) ++ sp) := by
        rw [List.append_assoc, List.append_assoc, ← List.append_assoc (xs.take _), List.take_append_drop]
      rw [this]
/-- 'x[i:]', of which nothing may be left -/
class CutFr (lo n : Nat) : Prop where
  le : lo ≤ n
def cutA (b o lo s c : Nat) : Option Addr := if c = lo then some ⟨b, o, none⟩ else some ⟨b, o + lo * s, none⟩
instance {T b o n c s lo : Nat} [hx : Ev L x (.slice (some ⟨b, o, none⟩) n c)] [hl : Ev L y (.int .i64 (lo : Int))] [h : ElemSize P T s] [hc : CutFr lo n] : RunsC P N ds S w0 L H (.slice T x (some y) none none) (.slice (cutA b o lo s c) (n - lo) (c - lo)) :=
  ⟨fun _ h => (by cases h), fun _ _ h => (by cases h), fun _ _ _ _ _ a w hF _ => by
    have hr := run_slice_l (P := P) w T (some ⟨b, o, none⟩) n c h.und .i64 lo (by omega) (by have := hc.le; omega)
    simp [execOp, hx.eq _ _ _ hF, hl.eq _ _ _ hF, run_sliceAt_slice (P := P) w T _ _ _ _ h.und, hr, h.sz, sliced, Addr.add_lit, cutA]⟩
end
end Go.Proofs.YtpadjpplidlfeaaGreatDoor


/- The walker of units, as plain functions: what a step does, and what a run comes to. No program in sight. -/
namespace Go.Proofs.YtpadjpplidlfeaaGreatDoor
open Go Go.RowKit

def wrapI (x : Int) : Int := IntKind.i64.wrap x
def bitsI (f : BitVec 64 → BitVec 64 → BitVec 64) (x y : Int) : Int := wrapI ((f (BitVec.ofInt 64 x) (BitVec.ofInt 64 y)).toNat : Int)
def andI (x y : Int) : Int := bitsI (· &&& ·) x y
def cntI (y : Int) : Nat := min (andI y 63).toNat 64
def yesI (b : Bool) : Int := if b then 1 else 0
/-- what an instruction that only reckons makes of two numbers; none: divided by 0 -/
def twoL (op a b : Int) : Option Int :=
  if op = 1 then some a else if op = 2 then some (wrapI (a + b)) else if op = 3 then some (wrapI (a - b)) else if op = 4 then some (wrapI (a * b))
  else if op = 5 then (if b = 0 then none else some (wrapI (a.tdiv b))) else if op = 6 then (if b = 0 then none else some (a.tmod b))
  else if op = 7 then some (andI a b) else if op = 8 then some (bitsI (· ||| ·) a b) else if op = 9 then some (bitsI (· ^^^ ·) a b)
  else if op = 10 then some (wrapI (a * 2 ^ cntI b)) else if op = 11 then some (a.fdiv (2 ^ cntI b))
  else if op = 12 then some (yesI (decide (a = b))) else if op = 13 then some (yesI (!decide (a = b))) else if op = 14 then some (yesI (decide (a < b))) else if op = 15 then some (yesI (decide (a ≤ b)))
  else if op = 16 then some (wrapI (0 - a)) else if op = 17 then some (bitsI (· ^^^ ·) (-1) a) else some 0

/-- a function under way -/
structure Frm where
  fn : Nat
  block : Nat
  at' : Nat
  regs : List Int
  dst : Int
/-- the walker: the frames below the top one in their order -/
structure Mac where
  mem : List Int
  inp : List Int
  out : List Int
  steps : Nat
  rest : List Frm
  top : Frm
  counts : List (List Nat)
/-- what a run comes to -/
structure Fin where
  state : Int
  value : Int
  out : List Int
  steps : Nat
  counts : List (List Nat)
def Mac.stop (s : Mac) (state value : Int) : Fin := ⟨state, value, s.out, s.steps, s.counts⟩
def valM (t : Frm) (v : LVal) : Int := if v.reg then t.regs.getD v.n.toNat 0 else v.n
def setR (regs : List Int) (dst n : Int) : List Int := if 0 ≤ dst then regs.set dst.toNat n else regs
def Frm.set (t : Frm) (dst n : Int) : Frm := { t with regs := setR t.regs dst n }
def bump (counts : List (List Nat)) (k b : Nat) : List (List Nat) := counts.modify k fun l => l.modify b (· + 1)
def Mac.set (s : Mac) (dst n : Int) : Mac := { s with top := s.top.set dst n }
/-- the phis of a block, done at once -/
def phisM (t : Frm) (k : Nat) (phis : List LPhi) : List Int := phis.foldl (fun regs p => regs.set p.dst.toNat (valM t (p.src.getD k noV))) t.regs
def jumpM (u : LUnit) (s : Mac) (to : Int) : Mac :=
  let bl := match u.funcs[s.top.fn]? with | some X => X.blocks | none => []
  let k := (preds bl to.toNat).idxOf s.top.block
  { s with top := { s.top with regs := phisM s.top k (phisOf bl to.toNat), block := to.toNat, at' := 0 }, counts := bump s.counts s.top.fn to.toNat }
def enterR (n : Nat) (args : List Int) : List Int := (args ++ List.replicate n 0).take n
def enterM (u : LUnit) (s : Mac) (fn : Nat) (dst : Int) (args : List Int) : Mac :=
  let n := match u.funcs[fn]? with | some X => X.regs.toNat | none => 0
  { s with rest := s.rest ++ [s.top], top := ⟨fn, 0, 0, enterR n args, dst⟩, counts := bump s.counts fn 0 }
def endM (u : LUnit) (s : Mac) (B : LBlock) : Mac ⊕ Fin :=
  if B.kind = 2 then .inl (jumpM u s (B.to.getD 0 0))
  else if B.kind = 3 then .inl (jumpM u s (if valM s.top B.on ≠ 0 then B.to.getD 0 0 else B.to.getD 1 0))
  else match s.rest.getLast? with
    | none => .inr (s.stop 0 (valM s.top B.on))
    | some t => .inl { s with rest := s.rest.dropLast, top := t.set s.top.dst (valM s.top B.on) }
def insM (u : LUnit) (s : Mac) (x : LIns) : Mac ⊕ Fin :=
  let a := valM s.top x.a
  let b := valM s.top x.b
  if x.op = 18 ∨ x.op = 19 then
    if !within a 0 ((s.mem.length : Int) - 1) then .inr (s.stop 3 0)
    else if x.op = 19 then .inl { s with mem := s.mem.set a.toNat b } else .inl (s.set x.dst (s.mem.getD a.toNat 0))
  else if x.op = 20 then (if s.rest.length + 1 = 30 then .inr (s.stop 4 0) else .inl (enterM u s x.fn.toNat x.dst (x.args.map (valM s.top))))
  else if x.op = 21 then .inl { s with top := s.top.set x.dst (s.inp.headD (-1)), inp := s.inp.tail }
  else if x.op = 22 then (if s.out.length = 200 then .inr (s.stop 5 0) else .inl { s with out := s.out ++ [a] })
  else match twoL x.op a b with
    | none => .inr (s.stop 2 0)
    | some n => .inl (s.set x.dst n)
def blockM (u : LUnit) (t : Frm) : LBlock := match u.funcs[t.fn]? with
  | some X => X.blocks.getD t.block ⟨[], [], 1, noV, []⟩
  | none => ⟨[], [], 1, noV, []⟩
def stepM (u : LUnit) (s : Mac) : Mac ⊕ Fin :=
  let B := blockM u s.top
  let s1 := { s with steps := s.steps + 1 }
  match B.list[s.top.at']? with
  | none => endM u s1 B
  | some x => insM u { s1 with top := { s1.top with at' := s1.top.at' + 1 } } x
/-- n more steps at the most -/
def runM (u : LUnit) : Nat → Mac → Fin
  | 0, s => s.stop 1 0
  | n + 1, s => match stepM u s with
    | .inl s' => runM u n s'
    | .inr f => f
def memL (gs : List LGlobal) : List Int := gs.flatMap fun g => g.init ++ List.replicate (g.size.toNat - g.init.length) 0
def startM (u : LUnit) (input : List Int) : Mac :=
  let m := (mainAt u.funcs).toNat
  let n := match u.funcs[m]? with | some X => X.regs.toNat | none => 0
  ⟨memL u.globals, input, [], 0, [], ⟨m, 0, 0, List.replicate n 0, -1⟩, bump (u.funcs.map fun X => List.replicate X.blocks.length 0) m 0⟩
/-- what the run of a unit comes to, in so many steps -/
def resultM (u : LUnit) (input : List Int) (fuel : Nat) : Fin := runM u fuel (startM u input)
end Go.Proofs.YtpadjpplidlfeaaGreatDoor


/- What holds of the walker of a unit that passes the check, step by step. No program in sight. -/
namespace Go.Proofs.YtpadjpplidlfeaaGreatDoor
open Go Go.RowKit

/-! ### Numbers stay within bounds -/
/-! ### Units that pass the check -/
structure InsFit (u : LUnit) (R : Nat) (x : LIns) : Prop where
  op : 1 ≤ x.op ∧ x.op ≤ 22
  a : ValOk R x.a
  b : ValOk R x.b
  dst : 0 ≤ x.dst → x.dst < R
  args : ∀ v ∈ x.args, ValOk R v
  few : x.args.length ≤ 1000
  call : x.op = 20 → ∃ (k : Nat) (Y : LFunc), x.fn = k ∧ u.funcs[k]? = some Y ∧ (x.args.length : Int) = Y.params
  nums : inI x.dst ∧ inI x.a.n ∧ inI x.b.n ∧ ∀ v ∈ x.args, inI v.n
structure BlkFit (u : LUnit) (R : Nat) (B : LBlock) : Prop where
  kind : (B.kind = 1 ∨ B.kind = 2 ∨ B.kind = 3) ∧ (B.to.length : Int) = B.kind - 1
  on : ValOk R B.on ∧ inI B.on.n
  list : B.list.length ≤ 1000 ∧ ∀ x ∈ B.list, InsFit u R x
  phis : B.phis.length ≤ 1000 ∧ ∀ q ∈ B.phis, ∀ v ∈ q.src, inI v.n
structure FnFit (u : LUnit) (X : LFunc) (R : Nat) : Prop where
  regs : X.regs = R
  le : R ≤ 100
  ok : FuncOk R X.blocks
  pos : 0 < X.blocks.length
  few : X.blocks.length ≤ 100
  params : 0 ≤ X.params ∧ X.params ≤ R
  blk : ∀ B ∈ X.blocks, BlkFit u R B
def UnitFit (u : LUnit) : Prop := u.funcs.length ≤ 1000 ∧ ∀ (k : Nat) (X : LFunc), u.funcs[k]? = some X → ∃ R, FnFit u X R
structure FrmOk (u : LUnit) (f : Frm) (X : LFunc) (R : Nat) : Prop where
  get : u.funcs[f.fn]? = some X
  fit : FnFit u X R
  regs : f.regs.length = R
  block : f.block < X.blocks.length
  nums : ∀ x ∈ f.regs, inI x
  dst : inI f.dst
  at' : ∀ B, X.blocks[f.block]? = some B → f.at' ≤ B.list.length
def shp (f : Frm) : Nat × Int := (f.regs.length, f.dst)
/-- what a function tells goes into a register of the one that called it -/
def DstS (l : List (Nat × Int)) : Prop := ∀ i p q, l[i]? = some p → l[i + 1]? = some q → 0 ≤ q.2 → q.2 < p.1
theorem DstS.add {l : List (Nat × Int)} {p q : Nat × Int} (h : DstS (l ++ [p])) (hq : 0 ≤ q.2 → q.2 < p.1) : DstS (l ++ [p] ++ [q]) := fun i a b ha hb h0 => by
  by_cases hi : i + 1 < (l ++ [p]).length
  · rw [List.getElem?_append_left (by omega)] at ha
    rw [List.getElem?_append_left hi] at hb
    exact h i a b ha hb h0
  · have hl : (l ++ [p]).length = l.length + 1 := by simp
    have hb' := (List.getElem?_eq_some_iff.1 hb).1
    have hl2 : (l ++ [p] ++ [q]).length = l.length + 2 := by simp
    have hil : i = l.length := by omega
    subst hil
    rw [List.getElem?_append_left (by omega)] at ha
    rw [List.getElem?_append_right (by omega), hl, Nat.sub_self] at hb
    simp at ha hb
    subst ha hb
    exact hq h0
theorem DstS.drop {l : List (Nat × Int)} {q : Nat × Int} (h : DstS (l ++ [q])) : DstS l := fun i a b ha hb h0 => by
  have h1 := (List.getElem?_eq_some_iff.1 ha).1
  have h2 := (List.getElem?_eq_some_iff.1 hb).1
  exact h i a b (by rw [List.getElem?_append_left h1]; exact ha) (by rw [List.getElem?_append_left h2]; exact hb) h0
theorem DstS.last {l : List (Nat × Int)} {p q : Nat × Int} (h : DstS (l ++ [p] ++ [q])) : 0 ≤ q.2 → q.2 < p.1 :=
  h l.length p q (by simp) (by rw [List.getElem?_append_right (by simp)]; simp)
structure MacOk (u : LUnit) (c : Nat) (s : Mac) : Prop where
  top : ∃ X R, FrmOk u s.top X R
  rest : ∀ f ∈ s.rest, ∃ X R, FrmOk u f X R
  dst : DstS ((s.rest ++ [s.top]).map shp)
  cnt : s.counts.length = u.funcs.length ∧ ∀ (k : Nat) (X : LFunc), u.funcs[k]? = some X → ∃ l, s.counts[k]? = some l ∧ l.length = X.blocks.length ∧ ∀ x ∈ l, x ≤ c
  deep : s.rest.length + 1 ≤ 30
  out : s.out.length ≤ 200 ∧ ∀ x ∈ s.out, inI x
  mem : s.mem.length ≤ 100000 ∧ ∀ x ∈ s.mem, inI x
  inp : ∀ x ∈ s.inp, inI x
theorem setRegs_in {regs : List Int} {d : Nat} {n : Int} (h : ∀ x ∈ regs, inI x) (hn : inI n) : ∀ x ∈ regs.set d n, inI x := fun x hx => by
  rcases List.mem_or_eq_of_mem_set hx with h1 | rfl
  · exact h x h1
  · exact hn
theorem FrmOk.set {u : LUnit} {f : Frm} {X : LFunc} {R : Nat} (h : FrmOk u f X R) (dst : Int) {n : Int} (hn : inI n) : FrmOk u (f.set dst n) X R := by
  refine ⟨h.get, h.fit, ?_, h.block, ?_, h.dst, h.at'⟩
  · unfold Frm.set setR; simp only; split <;> simp [h.regs]
  · unfold Frm.set setR
    simp only
    split
    · exact setRegs_in h.nums hn
    · exact h.nums
theorem shp_set (f : Frm) (dst n : Int) : shp (f.set dst n) = shp f := by unfold shp Frm.set setR; simp only; split <;> simp
theorem src_getD {R np k : Nat} {q : LPhi} (h : PhiOk R np q) (hk : k < np) : ∃ v ∈ q.src, q.src.getD k noV = v := by
  have := h.len
  exact ⟨q.src[k]'(by omega), List.getElem_mem _, by rw [List.getD_eq_getElem?_getD, List.getElem?_eq_getElem (by omega)]; rfl⟩
/-- where a frame may go -/
structure GoTo (X : LFunc) (b to : Nat) (T : LBlock) : Prop where
  get : X.blocks[to]? = some T
  mem : b ∈ preds X.blocks to
end Go.Proofs.YtpadjpplidlfeaaGreatDoor


/- A step of the walker keeps what holds of it. No program in sight. -/
namespace Go.Proofs.YtpadjpplidlfeaaGreatDoor
open Go Go.RowKit

theorem MacOk.mono {u : LUnit} {c d : Nat} {s : Mac} (h : MacOk u c s) (hcd : c ≤ d) : MacOk u d s :=
  ⟨h.top, h.rest, h.dst, ⟨h.cnt.1, fun k X hX => by
    obtain ⟨l, h1, h2, h3⟩ := h.cnt.2 k X hX
    exact ⟨l, h1, h2, fun x hx => Nat.le_trans (h3 x hx) hcd⟩⟩, h.deep, h.out, h.mem, h.inp⟩
theorem MacOk.set {u : LUnit} {c : Nat} {s : Mac} (h : MacOk u c s) (dst : Int) {n : Int} (hn : inI n) : MacOk u c (s.set dst n) := by
  obtain ⟨X, R, hf⟩ := h.top
  refine ⟨⟨X, R, hf.set dst hn⟩, h.rest, ?_, h.cnt, h.deep, h.out, h.mem, h.inp⟩
  have := h.dst
  simp only [Mac.set, List.map_append, List.map_cons, List.map_nil, shp_set] at this ⊢
  exact this
end Go.Proofs.YtpadjpplidlfeaaGreatDoor


/- More rules: slices that the call owns (made, written, appended to, cut), parts of structs, calls through function values, results that lie in memory, and regions that draw their order and write. -/
import Derived.Test.YtebajiafdkokjaaDoorStep
import Derived.OrdersIn
import Derived.Laws.OwnMore
namespace Go.Proofs.YtebajiafdkokjaaDoor
open Go Go.RowKit

/-- A slice that the call owns, from wherever in its block it begins. -/
def Ent.vec (a : Option Addr) (n c e s : Nat) (xs : List Value) : Ent :=
  ⟨fun k => a.map (·.block) = some k, fun w => xs.length = n * s ∧ ((a = none ∧ n = 0 ∧ c = 0) ∨
    ∃ (g : Nat) (pre sp : List Value), a = some ⟨g, pre.length, none⟩ ∧ n ≤ c ∧ c ≤ maxLen ∧ (c - n) * s ≤ sp.length ∧ w.heap[g]? = some (.cells (pre ++ xs ++ sp).toArray e (0, 0)))⟩

section
variable {S : Nat → Prop} {w0 w w' : World} {H : List Ent}
theorem Wd.vecAt (h : Wd S w0 H w) {k : Nat} {b o n c e s : Nat} {xs : List Value} (hk : H[k]? = some (Ent.vec (some ⟨b, o, none⟩) n c e s xs)) :
    xs.length = n * s ∧ n ≤ c ∧ c ≤ maxLen ∧ ∃ pre sp : List Value, pre.length = o ∧ (c - n) * s ≤ sp.length ∧ w.heap[b]? = some (.cells (pre ++ xs ++ sp).toArray e (0, 0)) := by
  obtain ⟨h1, h2⟩ := h.get hk
  rcases h2 with ⟨h2, _⟩ | ⟨g, pre, sp, h2, h3, h4, h5, h6⟩
  · cases h2
  · simp only [Option.some.injEq, Addr.mk.injEq, and_true] at h2
    obtain ⟨rfl, rfl⟩ := h2
    exact ⟨h1, h3, h4, pre, sp, rfl, h5, h6⟩
theorem Wd.vecCell (h : Wd S w0 H w) {k : Nat} {b o n c e s j : Nat} {xs : List Value} {v : Value} (hk : H[k]? = some (Ent.vec (some ⟨b, o, none⟩) n c e s xs)) (hv : xs[j]? = some v) : w.cell? ⟨b, o + j, none⟩ = some v := by
  obtain ⟨_, _, _, pre, sp, rfl, _, hb⟩ := h.vecAt hk
  have hj : j < xs.length := (List.getElem?_eq_some_iff.1 hv).1
  have hv' := (List.getElem?_eq_some_iff.1 hv).2
  simp [World.cell?, hb, List.getElem?_append, hj, hv']
theorem Wd.nilVec (h : Wd S w0 H w) (e s : Nat) : Wd S w0 (Ent.vec none 0 0 e s [] :: H) w :=
  ⟨h.chg, fun x hx b hb => by
    rcases List.mem_cons.1 hx with rfl | hx
    · simp [Ent.vec] at hb
    · exact h.own x hx b hb, fun x hx w' hs' hw' => by
    rcases List.mem_cons.1 hx with rfl | hx
    · exact ⟨by simp, .inl ⟨rfl, rfl, rfl⟩⟩
    · exact h.ok x hx w' hs' hw', List.pairwise_cons.2 ⟨fun x _ b hb => by simp [Ent.vec] at hb, h.apart⟩⟩
theorem Wd.vecNew (h : Wd S w0 H w) (e s n : Nat) (xs : List Value) (hl : xs.length = n * s) (hn : n ≤ maxLen) : Wd S w0 (Ent.vec (some ⟨w.heap.size, 0, none⟩) n n e s xs :: H) (w.alloc (.cells xs.toArray e)) := by
  refine Wd.more (E := [_]) h ⟨Chg.alloc _ _ _, ?_, ?_, by simp⟩
  · intro x hx b hb
    simp only [List.mem_singleton] at hx
    subst hx
    simp only [Ent.vec, Option.map_some, Option.some.injEq] at hb
    subst hb
    exact ⟨.inr (Nat.le_refl _), by simp⟩
  · intro x hx w2 _ hw2
    simp only [List.mem_singleton] at hx
    subst hx
    have := hw2 w.heap.size (by simp [Ent.vec])
    refine ⟨hl, .inr ⟨w.heap.size, [], [], rfl, Nat.le_refl _, hn, by simp, ?_⟩⟩
    rw [this]
    simpa using heap_alloc_new w (.cells xs.toArray e)
theorem Wd.setVec (h : Wd S w0 H w) {k : Nat} {b o n c e s j : Nat} {xs : List Value} (v : Value) (hk : H[k]? = some (Ent.vec (some ⟨b, o, none⟩) n c e s xs)) (hj : j < xs.length) :
    Wd S w0 (H.set k (Ent.vec (some ⟨b, o, none⟩) n c e s (xs.set j v))) (w.setCell ⟨b, o + j, none⟩ v) := by
  obtain ⟨h1, h2, h3, pre, sp, rfl, h5, hb⟩ := h.vecAt hk
  have hlt : b < w.heap.size := (Array.getElem?_eq_some_iff.1 hb).1
  refine h.turnAt hk ((Chg.setCell w _ v).mono fun x _ hx => ?_) (fun b' hb' => ?_) fun w2 hw2 => ?_
  · simp only [Ent.vec, Option.map_some, Option.some.injEq]; exact hx.symm
  · simp only [Ent.vec, Option.map_some, Option.some.injEq] at hb' ⊢
    subst hb'
    exact ⟨.inl rfl, by simpa [World.setCell] using hlt⟩
  · have := hw2 b (by simp [Ent.vec])
    refine ⟨by simpa using h1, .inr ⟨b, pre, sp, rfl, h2, h3, h5, ?_⟩⟩
    rw [this, heap_set_same hb v]
    simp [hj]
/-- what a whole row reads as, to one who only looks -/
theorem Wd.slAt (h : Wd S w0 H w) {α : Type} {V : World → α → List Value → Prop} {k : Nat} {a : Option Addr} {n c e s : Nat} {xs : List Value} {l : List α} (hk : H[k]? = some (Ent.vec a n c e s xs)) (hn : n = l.length) (hb : n ≤ 140737488355328)
    (hV : ∀ i x, l[i]? = some x → ∃ cs : List Value, (∀ j v, cs[j]? = some v → xs[i * s + j]? = some v) ∧ V w x cs) : SlAt w (.slice a n c) s l V := by
  obtain ⟨h1, h2⟩ := h.get hk
  rcases h2 with ⟨rfl, rfl, rfl⟩ | ⟨g, pre, sp, rfl, h3, h4, h5, h6⟩
  · have : l = [] := List.eq_nil_of_length_eq_zero hn.symm
    subst this
    exact ⟨none, 0, 0, 0, 0, rfl, rfl, Nat.le_refl _, by omega, by omega, by simp, by simp⟩
  · refine ⟨_, n, c, g, pre.length, rfl, hn, h3, hb, by simpa [maxLen] using h4, fun _ => rfl, fun i x hx => ?_⟩
    obtain ⟨cs, hc, hv⟩ := hV i x hx
    refine ⟨cs, fun j v hj => ?_, hv⟩
    have := h.vecCell hk (hc j v hj)
    rwa [← Nat.add_assoc] at this
end

/-! ### Classes -/
instance : SuccIs 8 9 := ⟨rfl⟩
instance : SuccIs 9 10 := ⟨rfl⟩
instance : SuccIs 10 11 := ⟨rfl⟩
instance : SuccIs 11 12 := ⟨rfl⟩
instance : SuccIs 12 13 := ⟨rfl⟩
instance : SuccIs 13 14 := ⟨rfl⟩
instance : SuccIs 14 15 := ⟨rfl⟩
instance : SuccIs 15 16 := ⟨rfl⟩
instance : SuccIs 16 17 := ⟨rfl⟩
instance : SuccIs 17 18 := ⟨rfl⟩
instance : SuccIs 18 19 := ⟨rfl⟩
instance : SuccIs 19 20 := ⟨rfl⟩
instance : SuccIs 20 21 := ⟨rfl⟩
instance : SuccIs 21 22 := ⟨rfl⟩
instance : SuccIs 22 23 := ⟨rfl⟩
instance : SuccIs 23 24 := ⟨rfl⟩
instance : SuccIs 24 25 := ⟨rfl⟩
instance : SuccIs 25 26 := ⟨rfl⟩
instance : SuccIs 26 27 := ⟨rfl⟩
instance : SuccIs 27 28 := ⟨rfl⟩
instance : SuccIs 28 29 := ⟨rfl⟩
instance : SuccIs 29 30 := ⟨rfl⟩
instance : SuccIs 30 31 := ⟨rfl⟩
instance : SuccIs 31 32 := ⟨rfl⟩
instance : SuccIs 32 33 := ⟨rfl⟩
instance : SuccIs 33 34 := ⟨rfl⟩
instance : SuccIs 34 35 := ⟨rfl⟩
instance : SuccIs 35 36 := ⟨rfl⟩
instance : SuccIs 36 37 := ⟨rfl⟩
instance : SuccIs 37 38 := ⟨rfl⟩
instance : SuccIs 38 39 := ⟨rfl⟩
instance : SuccIs 39 40 := ⟨rfl⟩
class LenO {α : Type} (l : List α) (n : outParam Nat) : Prop where
  eq : l.length = n
instance {α : Type} : LenO ([] : List α) 0 := ⟨rfl⟩
instance {α : Type} (x : α) (l : List α) (i j : Nat) [h : LenO l i] [hj : SuccIs i j] : LenO (x :: l) j := ⟨by rw [List.length_cons, h.eq, hj.eq]⟩
class ElemInfo (P : Program) (T : Nat) (e s by' : outParam Nat) (zs : outParam (List Value)) : Prop where
  und : P.underlying T = some (.slice e)
  info : (P.info? e).map (fun i => (i.zero.map (·.cells.toList), i.size, i.bytes)) = some (some zs, s, by')
theorem ElemInfo.get {P : Program} {T e s by' : Nat} {zs : List Value} (h : ElemInfo P T e s by' zs) : ∃ i z, P.info? e = some i ∧ i.zero = some z ∧ z.cells = zs.toArray ∧ i.size = s ∧ i.bytes = by' := by
  obtain ⟨i, hi, h1⟩ := Option.map_eq_some_iff.1 h.info
  simp only [Prod.mk.injEq] at h1
  obtain ⟨h1, h2, h3⟩ := h1
  obtain ⟨z, hz, h4⟩ := Option.map_eq_some_iff.1 h1
  exact ⟨i, z, hi, hz, by rw [← h4], h2, h3⟩
class VecIn (H : List Ent) (a : Option Addr) (n c : Nat) (k e s : outParam Nat) (xs : outParam (List Value)) : Prop where
  at' : H[k]? = some (Ent.vec a n c e s xs)
instance (a : Option Addr) (n c e s : Nat) (xs : List Value) (H : List Ent) : VecIn (Ent.vec a n c e s xs :: H) a n c 0 e s xs := ⟨rfl⟩
instance (a : Option Addr) (n c e s k : Nat) (xs : List Value) (H : List Ent) (x : Ent) [h : VecIn H a n c k e s xs] : VecIn (x :: H) a n c (k + 1) e s xs := ⟨h.at'⟩
class ElAt {α : Type} (l : List α) (i : Nat) (x : outParam α) : Prop where
  eq : l[i]? = some x
class XAt (xs : List Value) (j : Nat) (v : outParam Value) : Prop where
  eq : xs[j]? = some v
instance {α : Type} (f : α → Value) (l : List α) (i : Nat) (x : α) [h : ElAt l i x] : XAt (l.map f) (i * 1) (f x) := ⟨by simp [h.eq]⟩
instance {α : Type} (f : α → Value) (x : α) (l : List α) : XAt ((x :: l).map f) (0 * 1) (f x) := ⟨rfl⟩
instance {α : Type} (f : α → Value) (x : α) (l : List α) : XAt (f x :: l.map f) (0 * 1) (f x) := ⟨rfl⟩
class XSet (xs : List Value) (j : Nat) (v : Value) (xs' : outParam (List Value)) : Prop where
  eq : xs.set j v = xs'
  lt : j < xs.length
instance {α : Type} (f : α → Value) (l : List α) (i : Nat) (x y : α) [h : ElAt l i y] : XSet (l.map f) (i * 1) (f x) ((l.set i x).map f) :=
  ⟨by simp [List.map_set], by have := (List.getElem?_eq_some_iff.1 h.eq).1; simpa using this⟩
/-- what lies at a place of the call's own -/
class OwnCell (H : List Ent) (b off : Nat) (v : outParam Value) : Prop where
  eq : ∀ S w0 w, Wd S w0 H w → w.cell? ⟨b, off, none⟩ = some v
instance (b o j n c e s : Nat) (xs : List Value) (v : Value) (H : List Ent) [h : XAt xs j v] : OwnCell (Ent.vec (some ⟨b, o, none⟩) n c e s xs :: H) b (o + j) v :=
  ⟨fun _ _ _ hw => Wd.vecCell hw (k := 0) rfl h.eq⟩
instance (b off : Nat) (v : Value) (x : Ent) (H : List Ent) [h : OwnCell H b off v] : OwnCell (x :: H) b off v := ⟨fun S w0 w hw => h.eq S w0 w (hw.sub (List.sublist_cons_self _ _))⟩
/-- the piece that holds a place of the call's own -/
class OwnAt (H : List Ent) (b off : Nat) (k o j n c e s : outParam Nat) (xs : outParam (List Value)) : Prop where
  at' : H[k]? = some (Ent.vec (some ⟨b, o, none⟩) n c e s xs)
  eq : off = o + j
instance (b o j n c e s : Nat) (xs : List Value) (H : List Ent) : OwnAt (Ent.vec (some ⟨b, o, none⟩) n c e s xs :: H) b (o + j) 0 o j n c e s xs := ⟨rfl, rfl⟩
instance (b off k o j n c e s : Nat) (xs : List Value) (x : Ent) (H : List Ent) [h : OwnAt H b off k o j n c e s xs] : OwnAt (x :: H) b off (k + 1) o j n c e s xs := ⟨h.at', h.eq⟩
/-- a stretch of cells -/
class PartAt (cs : List Value) (o n : Nat) (vs : outParam (List Value)) : Prop where
  len : vs.length = n
  eq : ∀ j v, vs[j]? = some v → cs[o + j]? = some v
instance (cs : List Value) : PartAt cs 0 0 [] := ⟨rfl, by simp⟩
instance (c : Value) (cs vs : List Value) (n : Nat) [h : PartAt cs 0 n vs] : PartAt (c :: cs) 0 (n + 1) (c :: vs) := ⟨by simp [h.len], fun j v hj => by
  cases j with
  | zero => simpa using hj
  | succ j => simpa using h.eq j v (by simpa using hj)⟩
instance (c : Value) (cs vs : List Value) (o n : Nat) [h : PartAt cs o n vs] : PartAt (c :: cs) (o + 1) n vs := ⟨h.len, fun j v hj => by
  have := h.eq j v hj
  rw [show o + 1 + j = (o + j) + 1 by omega]
  simpa using this⟩

class SetFn (H : List Ent) (k : Nat) (f : outParam (Ent → List Ent)) : Prop where
  eq : ∀ e, H.set k e = f e
instance (x : Ent) (H : List Ent) : SetFn (x :: H) 0 (fun e => e :: H) := ⟨fun _ => rfl⟩
instance (x : Ent) (H : List Ent) (k : Nat) (f : Ent → List Ent) [h : SetFn H k f] : SetFn (x :: H) (k + 1) (fun e => x :: f e) := ⟨fun e => by rw [List.set_cons_succ, h.eq]⟩
theorem Wd.boxCells {S : Nat → Prop} {w0 w : World} {H : List Ent} (h : Wd S w0 H w) (b : Nat) {k t : Nat} {cs : List Value} [hb : BoxIn H b k cs t] : CellsAt w b 0 cs := fun j v hj => by rw [Nat.zero_add]; exact h.cellBox k hb.at' hj

section
variable {P : Program} {ro : Option Nat} {N : Nat} {ds : List Deferred} {S : Nat → Prop} {w0 : World} {L L' : List (Nat × Value)} {H H' : List Ent} {a : Act} {w : World}
  {ops : Array Oper} {rest : List Oper} {Q : Exit → Act → World → Prop} {p : Act → World → Prop} {x y : Operand}

/-! ### Reading -/
instance {T b off : Nat} {v : Value} [h : OneCell P T] [hx : Ev L x (.pointer (some ⟨b, off, none⟩))] [hc : OwnCell H b off v] : RunsC P N ds S w0 L H (.load T x) v :=
  ⟨fun _ h => (by cases h), fun _ _ h => (by cases h), fun _ _ _ _ _ a w hF hW => by simp [execOp, hx.eq _ _ _ hF, run_loadOne (hc.eq _ _ _ hW)]⟩
instance (priority := low) {T b o j t n : Nat} {cs vs : List Value} [h : AggSize P T n] [hx : Ev L x (.pointer (some ⟨b, o, none⟩))] [hb : BoxIn H b j cs t] [hp : PartAt cs o n vs] : RunsC P N ds S w0 L H (.load T x) (.agg vs.toArray) :=
  ⟨fun _ h => (by cases h), fun _ _ h => (by cases h), fun _ _ _ _ _ a w hF hW => by
    have := run_loadAgg (P := P) (T := T) hp.len (fun i v hv => hW.cellBox j hb.at' (hp.eq i v hv) : CellsAt w b o vs)
    simp [execOp, hx.eq _ _ _ hF, this]⟩
instance (priority := low) {T b o f n : Nat} {cs vs : List Value} [h : AggSize P T n] [hx : Ev L x (.pointer (some ⟨b, o + f, none⟩))] [hc : CellsIs w0 b o cs] [hp : PartAt cs f n vs] [hs : OldIs S b] : RunsC P N ds S w0 L H (.load T x) (.agg vs.toArray) :=
  ⟨fun _ h => (by cases h), fun _ _ h => (by cases h), fun _ _ _ _ _ a w hF hW => by
    have := run_loadAgg (P := P) (T := T) hp.len (fun i v hv => by rw [Nat.add_assoc]; exact hW.cellOld (hc.eq _ _ (hp.eq i v hv)) hs.no : CellsAt w b (o + f) vs)
    simp [execOp, hx.eq _ _ _ hF, this]⟩
instance (priority := low) {b j : Nat} {cs : List Value} {v : Value} {w : World} [h : CellsIs w b 0 cs] [hv : ListAt cs j v] : CellIs w b j v := ⟨by simpa using h.eq j v hv.at'⟩
instance (priority := low) {T b f n : Nat} {cs vs : List Value} [h : AggSize P T n] [hx : Ev L x (.pointer (some ⟨b, f, none⟩))] [hc : CellsIs w0 b 0 cs] [hp : PartAt cs f n vs] [hs : OldIs S b] : RunsC P N ds S w0 L H (.load T x) (.agg vs.toArray) :=
  ⟨fun _ h => (by cases h), fun _ _ h => (by cases h), fun _ _ _ _ _ a w hF hW => by
    have := run_loadAgg (P := P) (T := T) hp.len (fun i v hv => by have h1 := hc.eq _ _ (hp.eq i v hv); rw [Nat.zero_add] at h1; exact hW.cellOld h1 hs.no : CellsAt w b f vs)
    simp [execOp, hx.eq _ _ _ hF, this]⟩
class ArrOf (P : Program) (T : Nat) (n s : outParam Nat) : Prop where
  und : P.underlying T = some (.array (P.arrayLen T) (P.elem T))
  len : P.arrayLen T = n
  sz : ∀ w : World, (sizeOf (P.elem T)).run P w = .ok s w
instance {T b o n i s : Nat} {z : Int} [hx : Ev L x (.pointer (some ⟨b, o, none⟩))] [hy : Ev L y (.int .i64 z)] [hz : NatIs z i] [h : ArrOf P T n s] [hi : LtIs i n] : RunsC P N ds S w0 L H (.indexAddr T x y) (.pointer (some ⟨b, o + i * s, none⟩)) :=
  ⟨fun _ h => (by cases h), fun _ _ h => (by cases h), fun _ _ _ _ _ a w hF _ => by
    have h1 := hx.eq _ _ _ hF
    have h2 := hy.eq _ _ _ hF
    rw [hz.eq] at h2
    have hlt := hi.lt
    simp [execOp, h1, h2, run_indexAt_array w T ⟨b, o, none⟩ .i64 i h.und, h.sz, h.len, hlt, Addr.add_lit]⟩
class IsStr (P : Program) (T : Nat) : Prop where
  und : P.underlying T = some .string
instance {T : Nat} {s : ByteArray} [hx : Ev L x (.string s)] [h : IsStr P T] : RunsC P N ds S w0 L H (.call { callee := .builtin .len, args := #[x], argTypes := #[T] }) (.int .i64 s.size) :=
  ⟨fun _ h => (by cases h), fun _ _ h => (by cases h), fun _ ty _ _ _ a w hF _ => by simp [execOp, resolve, invoke, builtin, hx.eq _ _ _ hF, run_len_string w T ty s h.und, goInt]⟩
class ByteIs (s : ByteArray) (i : Nat) (c : outParam Int) : Prop where
  lt : i < s.size
  eq : ((s[i]'lt).toNat : Int) = c
instance {T i : Nat} {s : ByteArray} {z c : Int} [hx : Ev L x (.string s)] [hy : Ev L y (.int .i64 z)] [hz : NatIs z i] [hb : ByteIs s i c] [h : IsStr P T] : RunsC P N ds S w0 L H (.index T x y) (.int .u8 c) :=
  ⟨fun _ h => (by cases h), fun _ _ h => (by cases h), fun _ _ _ _ _ a w hF _ => by
    have h1 := hx.eq _ _ _ hF
    have h2 := hy.eq _ _ _ hF
    rw [hz.eq] at h2
    have hlt := hb.lt
    have he := hb.eq
    simp [execOp, h1, h2, run_index_string w T s .i64 i h.und, hlt, he]⟩
instance {vs : List Value} {i : Nat} {v : Value} [hx : Ev L x (.tuple vs.toArray)] [hv : ListAt vs i v] : RunsC P N ds S w0 L H (.extract x i) v :=
  ⟨fun _ h => (by cases h), fun _ _ h => (by cases h), fun _ _ _ _ _ a w hF _ => by simp [execOp, hx.eq _ _ _ hF, Instr.extract, hv.at']⟩
theorem runs_addW {T T2 : Nat} {m n : Int} [hx : Ev L x (.int .i64 m)] [hy : Ev L y (.int .i64 n)] : RunsC P N ds S w0 L H (.binOp .add T x y T2) (.int .i64 (IntKind.i64.wrap (m + n))) :=
  runs_bin (fun _ => rfl) fun w => by rw [binOp_add]; simp [Op.intArith]
theorem q_addW {Qq : Act → Prop} {d ty T T2 : Nat} {pos : String} {aft : Array Edge} {m n : Int} [hx : Ev L x (.int .i64 m)] [hy : Ev L y (.int .i64 n)] (hd : okPut d N L = true)
    (k : GQ N ds ((d, .int .i64 (IntKind.i64.wrap (m + n))) :: L) (wpQuiet P ops (Wd S w0 H) Qq rest)) : GQ N ds L (wpQuiet P ops (Wd S w0 H) Qq (⟨some d, .binOp .add T x y T2, ty, pos, aft, none⟩ :: rest)) := by
  have := runs_addW (P := P) (N := N) (ds := ds) (S := S) (w0 := w0) (H := H) (T := T) (T2 := T2) (x := x) (y := y) (L := L)
  exact q_op hd k
theorem g_addW {d ty T T2 : Nat} {pos : String} {aft : Array Edge} {m n : Int} [hx : Ev L x (.int .i64 m)] [hy : Ev L y (.int .i64 n)] (hd : okPut d N L = true)
    (k : G N ds S w0 ((d, .int .i64 (IntKind.i64.wrap (m + n))) :: L) H (wpListIn (FW ro) 0 P ops Q rest)) : G N ds S w0 L H (wpListIn (FW ro) 0 P ops Q (⟨some d, .binOp .add T x y T2, ty, pos, aft, none⟩ :: rest)) := by
  have := runs_addW (P := P) (N := N) (ds := ds) (S := S) (w0 := w0) (H := H) (T := T) (T2 := T2) (x := x) (y := y) (L := L)
  exact g_op hd k

/-! ### Guards that were passed over themselves -/
theorem Fr.yieldU (h : Fr N ds L a) {j t : Nat} [hj : DstOf ops j t] [hb : SlotIs L t undef] : yielded ops a.tmps j = none := by
  have := h.slot _ hb.mem
  simp only at this
  simp [yielded, hj.eq, this, undef]
theorem g_passU {d ty j t : Nat} {want : Bool} {pos : String} {aft : Array Edge} {op : Op} [hj : DstOf ops j t] [hb : SlotIs L t undef] (hd : okPut d N L = true)
    (k : G N ds S w0 ((d, undef) :: L) H (wpListIn (FW ro) 0 P ops Q rest)) : G N ds S w0 L H (wpListIn (FW ro) 0 P ops Q (⟨some d, op, ty, pos, aft, some (j, want)⟩ :: rest)) := by
  intro a w hS
  refine wpListIn_step fun K hK => ?_
  have h1 : Region.wanted (⟨some d, op, ty, pos, aft, some (j, want)⟩ : Oper) (yielded ops a.tmps) = false := by
    simp only [Region.wanted, hS.fr.yieldU (ops := ops) (j := j)]
    rfl
  rw [h1]
  exact ⟨fun _ _ => trivial, hK _ _ (k _ _ ⟨hS.fr.putOk hd undef, hS.wd⟩)⟩
theorem g_passUS {d ty j t : Nat} {want : Bool} {pos : String} {aft : Array Edge} {op : Op} [hj : DstOf ops j t] [_hb : SlotIs L t undef] [hs : Stale L d L'] [hb' : SlotIs L' t undef] (hd : okPut d N L' = true)
    (k : G N ds S w0 ((d, undef) :: L') H (wpListIn (FW ro) 0 P ops Q rest)) : G N ds S w0 L H (wpListIn (FW ro) 0 P ops Q (⟨some d, op, ty, pos, aft, some (j, want)⟩ :: rest)) :=
  g_forget d (g_passU hd k)
theorem q_passU {Qq : Act → Prop} {d ty j t : Nat} {want : Bool} {pos : String} {aft : Array Edge} {op : Op} [hj : DstOf ops j t] [hb : SlotIs L t undef] (hd : okPut d N L = true)
    (k : GQ N ds ((d, undef) :: L) (wpQuiet P ops (Wd S w0 H) Qq rest)) : GQ N ds L (wpQuiet P ops (Wd S w0 H) Qq (⟨some d, op, ty, pos, aft, some (j, want)⟩ :: rest)) := by
  intro a hF
  refine BigFrame.wpQuiet_skip ?_ (k _ (hF.putOk hd undef))
  simp only [Region.wanted, hF.yieldU (ops := ops) (j := j)]
  rfl

/-! ### Up to the operation that writes slot d -/
class SplitTo (l : List Oper) (d : Nat) (l1 l2 : outParam (List Oper)) : Prop where
  eq : ∃ n, l.take n = l1 ∧ l.drop n = l2
instance (priority := 2000) (d ty : Nat) (op : Op) (pos : String) (aft : Array Edge) (gd : Option (Nat × Bool)) (l : List Oper) : SplitTo (⟨some d, op, ty, pos, aft, gd⟩ :: l) d [⟨some d, op, ty, pos, aft, gd⟩] l := ⟨1, by simp, by simp⟩
instance (d : Nat) (o : Oper) (l l1 l2 : List Oper) [h : SplitTo l d l1 l2] : SplitTo (o :: l) d (o :: l1) l2 := ⟨by
  obtain ⟨n, h1, h2⟩ := h.eq
  exact ⟨n + 1, by simp [h1], by simp [h2]⟩⟩
/-- once slot d is written it holds 'val'; all else that is known is as before -/
theorem g_joinTo {l l1 l2 : List Oper} (d : Nat) (val : Value) [hs : SplitTo l d l1 l2]
    (h1 : G N ds S w0 L H (wpListIn (FW ro) 0 P ops (Exit.then (St N ds S w0 ((d, val) :: L) H) Q) l1))
    (h2 : G N ds S w0 ((d, val) :: L) H (wpListIn (FW ro) 0 P ops Q l2)) : G N ds S w0 L H (wpListIn (FW ro) 0 P ops Q l) := fun a w hS => by
  obtain ⟨n, e1, e2⟩ := hs.eq
  exact wpl_split (M := St N ds S w0 ((d, val) :: L) H) n (fun a w h => by rw [e2]; exact h2 a w h) (by rw [e1]; exact h1 a w hS)

/-- a piece of code, of which it is told what holds once it has ended -/
theorem g_mid {c y : Code} (L' : List (Nat × Value)) (H' : List Ent) (h1 : G N ds S w0 L H (Code.wpIn (FW ro) 0 P c (Exit.then (St N ds S w0 L' H') Q))) (h2 : G N ds S w0 L' H' (Code.wpIn (FW ro) 0 P y Q)) : G N ds S w0 L H (Code.wpIn (FW ro) 0 P c (Exit.then (Code.wpIn (FW ro) 0 P y Q) Q)) := fun a w hS =>
  Code.wpIn_mono (fun e a' w' q => by
    cases e with
    | normal => exact h2 a' w' q
    | _ => exact q) (h1 a w hS)

/-! ### Slices of the call's own -/
/-- what is held tells more of a slice that is not empty -/
theorem g_vec (k : Nat) {ad : Option Addr} {n c e s : Nat} {xs : List Value} (hk : H[k]? = some (Ent.vec ad n c e s xs)) (hn : 0 < n) (h : ∀ b o, ad = some ⟨b, o, none⟩ → G N ds S w0 L H p) : G N ds S w0 L H p := fun a w hS => by
  obtain ⟨_, h2⟩ := hS.wd.get hk
  rcases h2 with ⟨_, h2, _⟩ | ⟨g, pre, sp, h2, _⟩
  · omega
  · exact h _ _ h2 a w hS
/-- the bounds of a slice that is held -/
theorem g_vecLe (k : Nat) {ad : Option Addr} {n c e s : Nat} {xs : List Value} (hk : H[k]? = some (Ent.vec ad n c e s xs)) (h : xs.length = n * s → n ≤ c → c ≤ 9223372036854775807 → G N ds S w0 L H p) : G N ds S w0 L H p := fun a w hS => by
  obtain ⟨h1, h2⟩ := hS.wd.get hk
  rcases h2 with ⟨_, h2, h3⟩ | ⟨g, pre, sp, _, h3, h4, _⟩
  · exact h h1 (by omega) (by omega) a w hS
  · exact h h1 h3 (by simpa [maxLen] using h4) a w hS
theorem g_nilVec (e s : Nat) (h : G N ds S w0 L (Ent.vec none 0 0 e s [] :: H) p) : G N ds S w0 L H p := fun a w hS => h a w ⟨hS.fr, hS.wd.nilVec e s⟩
theorem g_storeV {ty T b off k o j n c e s : Nat} [h : OneCell P T] {xs xs' : List Value} {v : Value} {pos : String} {aft : Array Edge}
    [hx : Ev L x (.pointer (some ⟨b, off, none⟩))] [hy : Ev L y v] [h1 : OneV v] [hb : OwnAt H b off k o j n c e s xs] [hu : XSet xs j v xs'] [hH : SetAt H k (Ent.vec (some ⟨b, o, none⟩) n c e s xs') H']
    (kk : G N ds S w0 L H' (wpListIn (FW ro) 0 P ops Q rest)) : G N ds S w0 L H (wpListIn (FW ro) 0 P ops Q (⟨none, .store T x y, ty, pos, aft, none⟩ :: rest)) := by
  intro a w hS
  obtain ⟨_, _, _, pre, sp, hpre, _, hbx⟩ := hS.wd.vecAt hb.at'
  have e1 := hb.eq
  subst e1
  have hlt := hu.lt
  refine step_skip (w' := w.setCell ⟨b, o + j, none⟩ v) rfl (fun _ h => by cases h) ?_ ?_
  · have hc := hS.wd.vecCell hb.at' (List.getElem?_eq_getElem hlt)
    have := run_storeOne (P := P) (T := T) h1.one hc (by simp [World.frozen?, hbx])
    simp [execOp, hx.eq _ _ _ hS.fr, hy.eq _ _ _ hS.fr, this]
  · refine kk _ _ ⟨hS.fr, ?_⟩
    have := hS.wd.setVec v hb.at' hlt
    rw [hu.eq, hH.set'] at this
    exact this
theorem toList_madeCells (zs : List Value) (n : Nat) : (madeCells zs.toArray (n * zs.length)).toList = (List.replicate n zs).flatten := by
  cases zs with
  | nil => simp [madeCells]
  | cons z zs =>
    apply List.ext_getElem?
    intro i
    have h0 : 0 < (z :: zs).length := by simp
    rw [show (madeCells (z :: zs).toArray (n * (z :: zs).length)).toList[i]? = (madeCells (z :: zs).toArray (n * (z :: zs).length))[i]? by simp]
    by_cases hi : i < n * (z :: zs).length
    · have e : ((List.replicate n (z :: zs)).flatten)[i]? = (z :: zs)[i % (z :: zs).length]? := by
        clear h0
        induction n generalizing i with
        | zero => simp at hi
        | succ n ih =>
          rw [List.replicate_succ, List.flatten_cons]
          by_cases h1 : i < (z :: zs).length
          · rw [List.getElem?_append_left h1, Nat.mod_eq_of_lt h1]
          · rw [List.getElem?_append_right (by omega), ih (i - (z :: zs).length) (by rw [Nat.add_mul] at hi; omega)]
            rw [Nat.mod_eq_sub_mod (a := i) (by omega)]
      rw [e]
      have hlt : i % (z :: zs).length < (z :: zs).length := Nat.mod_lt _ h0
      have hm : (madeCells (z :: zs).toArray (n * (z :: zs).length))[i]? = some ((z :: zs).toArray[i % (z :: zs).toArray.size]!) := by
        unfold madeCells
        simp only [Array.getElem?_map]
        rw [Array.getElem?_range]
        rw [if_pos hi]; rfl
      rw [hm, List.getElem?_eq_getElem hlt]
      simp [getElem!_def]
      rw [List.getElem?_eq_getElem (by simpa using hlt)]
    · have e1 : (madeCells (z :: zs).toArray (n * (z :: zs).length)).size ≤ i := by unfold madeCells; simp at hi ⊢; omega
      have e2 : ((List.replicate n (z :: zs)).flatten).length ≤ i := by rw [List.length_flatten]; simp at hi ⊢; omega
      rw [Array.getElem?_eq_none e1, List.getElem?_eq_none e2]
theorem g_make {d ty T e by' n : Nat} {z1 z2 : Int} {z : Value} {pos : String} {aft : Array Edge} [h : ElemInfo P T e 1 by' [z]] [hx : Ev L x (.int .i64 z1)] [hz1 : NatIs z1 n] [hy : Ev L y (.int .i64 z2)] [hz2 : NatIs z2 n] (hd : okPut d N L = true) (hb : by' * n ≤ 281474976710656) (hm : n ≤ 9223372036854775807)
    (k : ∀ b, w0.heap.size ≤ b → G N ds S w0 ((d, .slice (some ⟨b, 0, none⟩) n n) :: L) (Ent.vec (some ⟨b, 0, none⟩) n n e 1 (List.replicate n z) :: H) (wpListIn (FW ro) 0 P ops Q rest)) : G N ds S w0 L H (wpListIn (FW ro) 0 P ops Q (⟨some d, .makeSlice T x y, ty, pos, aft, none⟩ :: rest)) := by
  intro a w hS
  obtain ⟨i, zz, hi, hzz, hcs, h1, h2⟩ := h.get
  have h3 := hx.eq _ _ _ hS.fr
  have h4 := hy.eq _ _ _ hS.fr
  rw [hz1.eq] at h3
  rw [hz2.eq] at h4
  have hb'' : (i.bytes : Int) * (n : Int) ≤ 281474976710656 := by
    have e : ((by' * n : Nat) : Int) ≤ 281474976710656 := by omega
    rw [Int.natCast_mul] at e; rw [h2]; exact e
  have hr := run_make (P := P) w T e i zz h.und hi hzz .i64 .i64 (n : Int) (n : Int) (by omega) (Int.le_refl _) hb'' (by omega)
  have hxs : madeCells zz.cells ((n : Int).toNat * i.size) = (List.replicate n z).toArray := by
    have := toList_madeCells [z] n
    rw [h1, hcs, Int.toNat_natCast]
    simp only [List.length_singleton] at this
    rw [show (List.replicate n [z]).flatten = List.replicate n z by simp] at this
    rw [← this]
  refine step_val (v := .slice (some ⟨w.heap.size, 0, none⟩) n n) (w' := w.alloc (.cells (List.replicate n z).toArray e)) rfl (fun _ h => by cases h) ?_ ?_
  · simp only [Int.toNat_natCast] at hr hxs
    simp [execOp, h3, h4, hr, hxs]
  · exact k _ hS.wd.size _ _ ⟨hS.fr.putOk hd _, hS.wd.vecNew e 1 n _ (by rw [List.length_replicate, Nat.mul_one]) (by unfold maxLen; omega)⟩
theorem fill_one (v : Value) (cs zs : List Value) (hv : v.cells.toList = cs) (hz : zs.length = cs.length) : Instr.fill (fun i => some (i * cs.length, cs.length)) zs.toArray [(0, v)] = some cs.toArray := by
  have hs : v.cells.size = cs.length := by rw [← hv]; simp
  have hf := fold_putL cs zs 0 0 (by omega)
  have e : v.cells = cs.toArray := by rw [← hv]
  have hp : putL zs 0 cs = cs := by
    rw [← putL_eq zs 0 cs (by omega)]
    simp [hz]
  simp only [Instr.fill]
  rw [if_neg (by simp [hs, hz])]
  rw [e]
  simp only [Nat.zero_mul]
  simp only [Nat.add_zero] at hf
  rw [hp] at hf
  simpa using hf
/-- a slice of one element -/
theorem g_build1 {d ty T e by' : Nat} {zs cs : List Value} {s : Nat} {v : Value} {pos : String} {aft : Array Edge} [h : ElemInfo P T e s by' zs] [hx : Ev L x v] [hv : CellsOf v cs] [hl : LenIs cs s] (hd : okPut d N L = true) (hs : ((Nat.blt 0 s && Nat.ble s 1000) && Nat.beq zs.length s) = true)
    (k : ∀ b, w0.heap.size ≤ b → G N ds S w0 ((d, .slice (some ⟨b, 0, none⟩) 1 1) :: L) (Ent.vec (some ⟨b, 0, none⟩) 1 1 e s cs :: H) (wpListIn (FW ro) 0 P ops Q rest)) : G N ds S w0 L H (wpListIn (FW ro) 0 P ops Q (⟨some d, .buildSlice T 1 #[(0, x)], ty, pos, aft, none⟩ :: rest)) := by
  intro a w hS
  obtain ⟨i, zz, hi, hzz, hcs, h1, h2⟩ := h.get
  simp only [Bool.and_eq_true, Nat.blt_eq, Nat.ble_eq] at hs
  have hle := hl.eq
  refine step_val (v := .slice (some ⟨w.heap.size, 0, none⟩) 1 1) (w' := w.alloc (.cells cs.toArray e)) rfl (fun _ h => by cases h) ?_ ?_
  · have hr := run_buildSlice (P := P) w T e 1 #[(0, v)] cs.toArray i zz h.und hi hzz (by rw [h1]; omega) (by rw [h1]; omega) (by
      rw [h1, ← hle]
      have := fill_one v cs ((Array.range (1 * cs.length)).map (zz.cells[· % zz.cells.size]!)).toList hv.eq (by simp)
      rw [Array.toArray_toList] at this
      exact this)
    simp [execOp, hx.eq _ _ _ hS.fr, hr]
  · exact k _ hS.wd.size _ _ ⟨hS.fr.putOk hd _, hS.wd.vecNew e s 1 _ (by omega) (by simp [maxLen])⟩
theorem fill_all : ∀ (vs : List Value) (i : Nat) (pre zs : List Value), (∀ v ∈ vs, v.oneCell' = true) → pre.length = i → zs.length = vs.length → Instr.fill (fun i => some (i * 1, 1)) (pre ++ zs).toArray (enumL i vs) = some (pre ++ vs).toArray
  | [], i, pre, zs, _, _, hz => by
    have : zs = [] := List.eq_nil_of_length_eq_zero (by simpa using hz)
    subst this; rfl
  | v :: vs, i, pre, [], _, _, hz => by simp at hz
  | v :: vs, i, pre, z :: zs, h1, hp, hz => by
    have hcs : v.cells = #[v] := by have := h1 v (by simp); cases v <;> first | rfl | cases this
    simp only [enumL, Instr.fill, hcs]
    rw [if_neg (by simp; omega)]
    have e : (Array.foldl (fun (cs : Array Value) (x : Value × Nat) => cs.setIfInBounds (i * 1 + x.2) x.1) (pre ++ z :: zs).toArray (#[v] : Array Value).zipIdx) = ((pre ++ [v]) ++ zs).toArray := by
      subst hp
      simp
    rw [e]
    have := fill_all vs (i + 1) (pre ++ [v]) zs (fun u hu => h1 u (List.mem_cons_of_mem _ hu)) (by simp [hp]) (by simpa using hz)
    simpa using this
class EnumP (parts : List (Nat × Value)) (vs : outParam (List Value)) (i : Nat) : Prop where
  eq : parts = enumL i vs
instance (i : Nat) : EnumP [] [] i := ⟨rfl⟩
instance (i j : Nat) (v : Value) (r : List (Nat × Value)) (vs : List Value) [hj : SuccIs i j] [h : EnumP r vs j] : EnumP ((i, v) :: r) (v :: vs) i := ⟨by simp only [enumL]; rw [hj.eq, ← h.eq]⟩
/-- a slice of a few elements of one cell each -/
theorem g_buildN {d ty T e by' n : Nat} {vparts : List (Nat × Value)} {parts : List (Nat × Operand)} {vs : List Value} {z : Value} {pos : String} {aft : Array Edge} [h : ElemInfo P T e 1 by' [z]] [hx : Evp L parts vparts] [hv : EnumP vparts vs 0] [hl : LenIs vs n] [h1 : OneVs vs] (hd : okPut d N L = true) (hs : (Nat.blt 0 n && Nat.ble n 1000) = true)
    (k : ∀ b, w0.heap.size ≤ b → G N ds S w0 ((d, .slice (some ⟨b, 0, none⟩) n n) :: L) (Ent.vec (some ⟨b, 0, none⟩) n n e 1 vs :: H) (wpListIn (FW ro) 0 P ops Q rest)) : G N ds S w0 L H (wpListIn (FW ro) 0 P ops Q (⟨some d, .buildSlice T n parts.toArray, ty, pos, aft, none⟩ :: rest)) := by
  intro a w hS
  obtain ⟨i, zz, hi, hzz, hcs, h2, h3⟩ := h.get
  simp only [Bool.and_eq_true, Nat.blt_eq, Nat.ble_eq] at hs
  have hle := hl.eq
  refine step_val (v := .slice (some ⟨w.heap.size, 0, none⟩) n n) (w' := w.alloc (.cells vs.toArray e)) rfl (fun _ h => by cases h) ?_ ?_
  · have hr := run_buildSlice (P := P) w T e n vparts.toArray vs.toArray i zz h.und hi hzz (by rw [h2]; omega) (by rw [h2]; omega) (by
      rw [h2, hv.eq]
      have := fill_all vs 0 [] ((Array.range (n * 1)).map (zz.cells[· % zz.cells.size]!)).toList h1.all rfl (by simp [hle])
      rw [List.nil_append, List.nil_append, Array.toArray_toList] at this
      exact this)
    have e1 : (parts.toArray.map fun (p : Nat × Operand) => (p.1, a.eval p.2)) = vparts.toArray := by
      simp only [List.map_toArray]
      rw [hx.eq _ _ _ hS.fr]
    simp only [execOp, Sem.run_bind]
    rw [e1, hr]
    rfl
  · exact k _ hS.wd.size _ _ ⟨hS.fr.putOk hd _, hS.wd.vecNew e 1 n _ (by omega) (by simp [maxLen]; omega)⟩
theorem Wd.append (hW : Wd S w0 H w) {T ty e s by' : Nat} {zs : List Value} (h : ElemInfo P T e s by' zs) (hs : 0 < s) {k : Nat} {ad : Option Addr} {n c : Nat} {xs : List Value} (hk : H[k]? = some (Ent.vec ad n c e s xs))
    {a2 : Addr} {m c2 : Nat} {news : List Value} (hm : 0 < m) (hl : news.length = m * s) (hnews : ∀ j u, news[j]? = some u → w.cell? (a2.add j) = some u) (h1 : ∀ u ∈ news, u.oneCell' = true) (hbytes : (n + m) * by' ≤ 140737488355328) (h63 : n + m ≤ 140737488355328) (hzs : zs.length = s) :
    ∃ a' c' w', (Builtin.append_ #[T, T] ty #[.slice ad n c, .slice (some a2) m c2]).run P w = .ok (.slice a' (n + m) c') w' ∧ Wd S w0 (H.set k (Ent.vec a' (n + m) c' e s (xs ++ news))) w' := by
  obtain ⟨i, z, hi, hz, hcs, h2, h3⟩ := h.get
  subst h2 h3
  obtain ⟨hx1, hx2⟩ := hW.get hk
  have hlen : (xs ++ news).length = (n + m) * i.size := by rw [List.length_append, hx1, hl, Nat.add_mul]
  have hzsz : z.cells.size = i.size := by rw [hcs]; simpa using hzs
  -- new memory
  have grown : ∀ old, Wd S w0 (H.set k (Ent.vec (some ⟨w.heap.size, 0, none⟩) (n + m) (grownCap w (n + m) old e) e i.size (xs ++ news))) (w.drew.alloc (.cells (xs.toArray ++ news.toArray ++ Builtin.zeroCells z.cells (grownCap w (n + m) old e - (n + m))) e)) := by
    intro old
    have hge := grownCap_ge w (n + m) old e
    have hcm : grownCap w (n + m) old e ≤ maxLen := grownCap_le_maxLen w (n + m) old e (by simp [maxLen]; omega)
    refine hW.turnAt hk ⟨rfl, rfl, rfl, by simp, fun b hb _ => heap_alloc_old w.drew _ hb⟩ (fun b hb => ?_) fun w2 hw2 => ?_
    · simp only [Ent.vec, Option.map_some, Option.some.injEq] at hb
      subst hb
      exact ⟨.inr (Nat.le_refl _), by simp⟩
    · have := hw2 w.heap.size (by simp [Ent.vec])
      refine ⟨hlen, .inr ⟨w.heap.size, [], (Builtin.zeroCells z.cells (grownCap w (n + m) old e - (n + m))).toList, rfl, hge, hcm, ?_, ?_⟩⟩
      · rw [Array.length_toList, size_zeroCells, hzsz]; exact Nat.le_refl _
      · rw [this]
        have e1 : (xs.toArray ++ news.toArray ++ Builtin.zeroCells z.cells (grownCap w (n + m) old e - (n + m))) = ([] ++ (xs ++ news) ++ (Builtin.zeroCells z.cells (grownCap w (n + m) old e - (n + m))).toList).toArray := by
          apply Array.toList_inj.1
          simp only [Array.toList_append, List.nil_append]
        rw [e1]
        exact heap_alloc_new w.drew _
  rcases hx2 with ⟨rfl, rfl, rfl⟩ | ⟨g, pre, sp, rfl, h4, h5, h6, h7⟩
  · have : xs = [] := List.eq_nil_of_length_eq_zero (by simpa using hx1)
    subst this
    have hr := run_append_nil (P := P) w T ty e i z h.und hi hz a2 m c2 news hl hnews hm (by omega) (by have hb := hbytes; simp only [Nat.zero_add] at hb; omega)
    have hgr := grown 0
    simp only [Nat.zero_add, List.nil_append, Array.empty_append] at hgr ⊢
    exact ⟨_, _, _, hr, hgr⟩
  · by_cases hroom : n + m ≤ c
    · have hmul : (n + m) * i.size ≤ c * i.size := Nat.mul_le_mul_right _ hroom
      have hsub : c * i.size = n * i.size + (c - n) * i.size := by rw [← Nat.add_mul]; congr 1; omega
      have hfit : news.length ≤ sp.length := by rw [hl]; rw [Nat.add_mul] at hmul; omega
      have hf := run_firstCells_some (P := P) w i.size m a2 m c2 news hl hnews
      have hst := run_storeCells_at P g (pre.length + n * i.size) e news 0 (pre ++ xs ++ sp).toArray w h7 (by simp [hx1]; omega) h1
      simp only [Nat.add_zero] at hst
      have etk : ((pre ++ xs ++ sp).toArray.toList.take (pre.length + n * i.size) ++ news ++ (pre ++ xs ++ sp).toArray.toList.drop (pre.length + n * i.size + news.length)) = pre ++ (xs ++ news) ++ sp.drop news.length := by
        have e1 : pre.length + n * i.size = (pre ++ xs).length := by simp [hx1]
        have e2 : (pre ++ xs ++ sp).toArray.toList = (pre ++ xs) ++ sp := rfl
        rw [e1, e2, List.take_left, List.drop_append]
        simp [List.append_assoc]
      rw [etk] at hst
      refine ⟨_, _, _, by simp [Builtin.append_, run_underlying h.und, sizeOf, typeInfo, hi, Builtin.lenOf, hroom, hf, Addr.add_lit, hst]; exact ⟨⟨rfl, rfl⟩, rfl⟩, ?_⟩
      have hlt : g < w.heap.size := (Array.getElem?_eq_some_iff.1 h7).1
      have hsz : ∀ cs, (w.setRow g cs).heap.size = w.heap.size := fun cs => by simp [World.setRow]
      refine hW.turnAt hk ⟨rfl, rfl, rfl, by rw [hsz]; exact Nat.le_refl _, fun b hb hne => setRow_other w g b _ (fun e => hne (by simp [Ent.vec, e]))⟩ (fun b hb => ?_) fun w2 hw2 => ?_
      · simp only [Ent.vec, Option.map_some, Option.some.injEq] at hb ⊢
        subst hb
        exact ⟨.inl rfl, by rw [hsz]; exact hlt⟩
      · have := hw2 g (by simp [Ent.vec])
        refine ⟨hlen, .inr ⟨g, pre, sp.drop news.length, rfl, hroom, h5, ?_, ?_⟩⟩
        · rw [List.length_drop, hl]
          have : (c - (n + m)) * i.size = (c - n) * i.size - m * i.size := by rw [← Nat.sub_mul]; congr 1; omega
          omega
        · rw [this]
          have := setRow_heap w g _ (pre ++ (xs ++ (news ++ List.drop news.length sp))).toArray e _ h7
          simpa using this
    · have holds : ∀ j u, xs[j]? = some u → w.cell? ((⟨g, pre.length, none⟩ : Addr).add j) = some u := fun j u hj => by
        rw [Addr.add_lit]
        exact hW.vecCell hk hj
      have hr := run_append_grow (P := P) w T ty e i z h.und hi hz ⟨g, pre.length, none⟩ n c xs hx1 holds a2 m c2 news hl hnews (by omega) (by omega) (growslice_fits (by omega) hbytes)
      exact ⟨_, _, _, hr, grown c⟩
theorem g_append {d ty T e s by' : Nat} {zs : List Value} {pos : String} {aft : Array Edge} {ad : Option Addr} {n c k : Nat} {xs : List Value} {b2 o2 m c2 k2 e2 : Nat} {news : List Value} [h : ElemInfo P T e s by' zs] [hx : Ev L x (.slice ad n c)] [hy : Ev L y (.slice (some ⟨b2, o2, none⟩) m c2)]
    [hv : VecIn H ad n c k e s xs] [hv2 : VecIn H (some ⟨b2, o2, none⟩) m c2 k2 e2 s news] [h1 : OneVs news] (hd : okPut d N L = true) (hs : ((Nat.blt 0 s && Nat.blt 0 m) && Nat.beq zs.length s) = true) (hbytes : (n + m) * by' ≤ 140737488355328) (h63 : n + m ≤ 140737488355328)
    {F : Ent → List Ent} [hF : SetFn H k F] (kk : ∀ a' c', G N ds S w0 ((d, .slice a' (n + m) c') :: L) (F (Ent.vec a' (n + m) c' e s (xs ++ news))) (wpListIn (FW ro) 0 P ops Q rest)) : G N ds S w0 L H (wpListIn (FW ro) 0 P ops Q (⟨some d, .call { callee := .builtin .append, args := #[x, y], argTypes := #[T, T] }, ty, pos, aft, none⟩ :: rest)) := by
  intro a w hS
  simp only [Bool.and_eq_true, Nat.blt_eq] at hs
  obtain ⟨hl, _⟩ := hS.wd.vecAt hv2.at'
  obtain ⟨a', c', w', hr, hw'⟩ := hS.wd.append (P := P) (ty := ty) (c2 := c2) h hs.1.1 hv.at' hs.1.2 hl (fun j u hj => by rw [Addr.add_lit]; exact hS.wd.vecCell hv2.at' hj) h1.all hbytes h63 (Nat.eq_of_beq_eq_true hs.2)
  refine step_val (v := .slice a' (n + m) c') (w' := w') rfl (fun _ h => by cases h) ?_ ?_
  · simp [execOp, resolve, invoke, builtin, hx.eq _ _ _ hS.fr, hy.eq _ _ _ hS.fr, hr]
  · rw [hF.eq] at hw'
    exact kk a' c' _ _ ⟨hS.fr.putOk hd _, hw'⟩
/-- the piece that grows is named -/
theorem g_appendAt {d ty T e s by' : Nat} {zs : List Value} {pos : String} {aft : Array Edge} {ad : Option Addr} {n c : Nat} (k : Nat) {xs : List Value} {b2 o2 m c2 k2 e2 : Nat} {news : List Value} [h : ElemInfo P T e s by' zs] [hx : Ev L x (.slice ad n c)] [hy : Ev L y (.slice (some ⟨b2, o2, none⟩) m c2)]
    (hk : H[k]? = some (Ent.vec ad n c e s xs)) [hv2 : VecIn H (some ⟨b2, o2, none⟩) m c2 k2 e2 s news] [h1 : OneVs news] (hd : okPut d N L = true) (hs : ((Nat.blt 0 s && Nat.blt 0 m) && Nat.beq zs.length s) = true) (hbytes : (n + m) * by' ≤ 140737488355328) (h63 : n + m ≤ 140737488355328)
    (kk : ∀ a' c', G N ds S w0 ((d, .slice a' (n + m) c') :: L) (H.set k (Ent.vec a' (n + m) c' e s (xs ++ news))) (wpListIn (FW ro) 0 P ops Q rest)) : G N ds S w0 L H (wpListIn (FW ro) 0 P ops Q (⟨some d, .call { callee := .builtin .append, args := #[x, y], argTypes := #[T, T] }, ty, pos, aft, none⟩ :: rest)) := by
  intro a w hS
  simp only [Bool.and_eq_true, Nat.blt_eq] at hs
  obtain ⟨hl, _⟩ := hS.wd.vecAt hv2.at'
  obtain ⟨a', c', w', hr, hw'⟩ := hS.wd.append (P := P) (ty := ty) (c2 := c2) h hs.1.1 hk hs.1.2 hl (fun j u hj => by rw [Addr.add_lit]; exact hS.wd.vecCell hv2.at' hj) h1.all hbytes h63 (Nat.eq_of_beq_eq_true hs.2)
  refine step_val (v := .slice a' (n + m) c') (w' := w') rfl (fun _ h => by cases h) ?_ ?_
  · simp [execOp, resolve, invoke, builtin, hx.eq _ _ _ hS.fr, hy.eq _ _ _ hS.fr, hr]
  · exact kk a' c' _ _ ⟨hS.fr.putOk hd _, hw'⟩
theorem g_eqH {H1 : List Ent} (h : H = H1) (k : G N ds S w0 L H1 p) : G N ds S w0 L H p := h ▸ k
theorem g_permH {H1 : List Ent} (h : H.Perm H1) (k : G N ds S w0 L H1 p) : G N ds S w0 L H p := fun a w hS => k a w ⟨hS.fr, hS.wd.perm h⟩
theorem Wd.nilVecs (h : Wd S w0 H w) (e s : Nat) : ∀ n : Nat, Wd S w0 (List.replicate n (Ent.vec none 0 0 e s []) ++ H) w
  | 0 => h
  | n + 1 => (Wd.nilVecs h e s n).nilVec e s
theorem g_nilVecs (e s n : Nat) (h : G N ds S w0 L (H ++ List.replicate n (Ent.vec none 0 0 e s [])) p) : G N ds S w0 L H p := fun a w hS => h a w ⟨hS.fr, (hS.wd.nilVecs e s n).perm List.perm_append_comm⟩
/-- 'x[1:]' -/
theorem g_tail {d ty T e s by' : Nat} {zs : List Value} {pos : String} {aft : Array Edge} {ad : Option Addr} {n c k : Nat} {xs : List Value} [h : ElemInfo P T e s by' zs] [hx : Ev L x (.slice ad n c)]
    [hv : VecIn H ad n c k e s xs] (hd : okPut d N L = true) (hn : 0 < n)
    {F : Ent → List Ent} [hF : SetFn H k F] (kk : ∀ a', G N ds S w0 ((d, .slice a' (n - 1) (c - 1)) :: L) (F (Ent.vec a' (n - 1) (c - 1) e s (xs.drop s))) (wpListIn (FW ro) 0 P ops Q rest)) : G N ds S w0 L H (wpListIn (FW ro) 0 P ops Q (⟨some d, .slice T x (some (.const (.int .i64 1))) none none, ty, pos, aft, none⟩ :: rest)) := by
  intro a w hS
  simp only [← hF.eq] at kk
  obtain ⟨hx1, hx2⟩ := hS.wd.get hv.at'
  rcases hx2 with ⟨_, h0, _⟩ | ⟨g, pre, sp, rfl, h4, h5, h6, h7⟩
  · omega
  obtain ⟨i, z, hi, hz, hcs, h2, h3⟩ := h.get
  have hel : P.elem T = e := by simp [Program.elem, h.und]
  have hsz : ∀ w : World, (sizeOf (P.elem T)).run P w = .ok s w := fun w => by rw [hel]; simp [sizeOf, typeInfo, hi, h2]
  have hr := run_slice_l (P := P) w T (some ⟨g, pre.length, none⟩) n c (by rw [hel]; exact h.und) .i64 1 (by omega) (by omega)
  have hsn : s ≤ xs.length := by rw [hx1]; exact Nat.le_mul_of_pos_left _ hn
  have hlt : g < w.heap.size := (Array.getElem?_eq_some_iff.1 h7).1
  have fin : ∀ pre', (∃ q, pre' ++ xs.drop s ++ sp = pre ++ xs ++ sp ∧ q = pre'.length) → Wd S w0 (H.set k (Ent.vec (some ⟨g, pre'.length, none⟩) (n - 1) (c - 1) e s (xs.drop s))) w := by
    intro pre' ⟨_, hq, _⟩
    refine hS.wd.turnAt hv.at' (Chg.refl _ _) (fun b hb => ?_) fun w2 hw2 => ?_
    · simp only [Ent.vec, Option.map_some, Option.some.injEq] at hb ⊢
      subst hb
      exact ⟨.inl rfl, hlt⟩
    · have := hw2 g (by simp [Ent.vec])
      refine ⟨by rw [List.length_drop, hx1, Nat.sub_mul, Nat.one_mul], .inr ⟨g, pre', sp, rfl, by omega, by omega, ?_, ?_⟩⟩
      · rw [show c - 1 - (n - 1) = c - n by omega]; exact h6
      · rw [this, hq]; exact h7
  by_cases hc : c = 1
  · have hn1 : n = 1 := by omega
    subst hc hn1
    refine step_val (v := .slice (some ⟨g, pre.length, none⟩) 0 0) (w' := w) rfl (fun _ h => by cases h) ?_ ?_
    · have ec : a.eval (.const (.int .i64 1)) = .int .i64 1 := rfl
      simp [execOp, hx.eq _ _ _ hS.fr, ec, run_sliceAt_slice (P := P) w T _ _ _ _ (by rw [hel]; exact h.und), hr, hsz, sliced]
    · refine kk (some ⟨g, pre.length, none⟩) _ _ ⟨hS.fr.putOk hd _, ?_⟩
      have hd0 : xs.drop s = [] := List.drop_of_length_le (by omega)
      refine hS.wd.turnAt hv.at' (Chg.refl _ _) (fun b hb => ?_) fun w2 hw2 => ?_
      · simp only [Ent.vec, Option.map_some, Option.some.injEq] at hb ⊢
        subst hb
        exact ⟨.inl rfl, hlt⟩
      · have := hw2 g (by simp [Ent.vec])
        refine ⟨by simp [hd0], .inr ⟨g, pre, xs ++ sp, rfl, by omega, by omega, by simp, ?_⟩⟩
        rw [this, hd0, h7]; simp
  · refine step_val (v := .slice (some ⟨g, pre.length + s, none⟩) (n - 1) (c - 1)) (w' := w) rfl (fun _ h => by cases h) ?_ ?_
    · have ec : a.eval (.const (.int .i64 1)) = .int .i64 1 := rfl
      simp [execOp, hx.eq _ _ _ hS.fr, ec, run_sliceAt_slice (P := P) w T _ _ _ _ (by rw [hel]; exact h.und), hr, hsz, sliced, hc, Addr.add_lit]
    · refine kk (some ⟨g, pre.length + s, none⟩) _ _ ⟨hS.fr.putOk hd _, ?_⟩
      have := fin (pre ++ xs.take s) ⟨_, by rw [List.append_assoc, List.append_assoc, List.append_assoc]; congr 1; rw [← List.append_assoc, List.take_append_drop], rfl⟩
      rw [List.length_append, List.length_take, Nat.min_eq_left hsn] at this
      exact this

/-! ### Calls through function values; results in memory -/
theorem g_callF {d ty f : Nat} {args : List Operand} {us vs xs : List Value} {tys : Array Nat} {pos : String} {aft : Array Edge} (R : World → Value → World → Prop) [h : EnterOk P f] [hx : Evs L args vs] [hf : Ev L x (.func (.func f) us.toArray xs.toArray)] (hd : okPut d N L = true)
    (hc : ∀ w, Wd S w0 H w → Ret P f (us ++ vs ++ xs) w (R w))
    (k : ∀ v w w', Wd S w0 H w → R w v w' → ∀ a, Fr N ds ((d, v) :: L) a → wpListIn (FW ro) 0 P ops Q rest a w') : G N ds S w0 L H (wpListIn (FW ro) 0 P ops Q (⟨some d, .call { callee := .value x, args := args.toArray, argTypes := tys }, ty, pos, aft, none⟩ :: rest)) := by
  intro a w hS
  refine wpListIn_plain rfl fun K hK => ?_
  refine ⟨fun _ _ => trivial, ?_⟩
  rw [semAt_ne _ _ _ (fun _ h => by cases h)]
  have hr : (execOp a.eval ⟨some d, .call { callee := .value x, args := args.toArray, argTypes := tys }, ty, pos, aft, none⟩).run P w = .ok (.enter f (us ++ vs ++ xs).toArray) w := by
    simp [execOp, resolve, hf.eq _ _ _ hS.fr, Deferred.ofValue, invoke, hx.eq _ _ _ hS.fr, h.run]
  rw [hr]
  refine ⟨fun h => (by cases h), ?_⟩
  refine CallsIn.mono (R := fun e w' => ∃ v, e = .returned v ∧ R w v w') (hc w hS.wd) fun e w' ⟨v, he, hR⟩ => ?_
  subst he
  exact hK _ _ (k v w w' hS.wd hR _ (hS.fr.putOk hd v))
theorem g_callFV {d ty f : Nat} {args : List Operand} {us vs xs : List Value} {tys : Array Nat} {pos : String} {aft : Array Edge} {u : Value} [h : EnterOk P f] [hx : Evs L args vs] [hf : Ev L x (.func (.func f) us.toArray xs.toArray)] (hd : okPut d N L = true)
    (hc : ∀ w, Wd S w0 H w → RetV P f (us ++ vs ++ xs) w u)
    (k : G N ds S w0 ((d, u) :: L) H (wpListIn (FW ro) 0 P ops Q rest)) : G N ds S w0 L H (wpListIn (FW ro) 0 P ops Q (⟨some d, .call { callee := .value x, args := args.toArray, argTypes := tys }, ty, pos, aft, none⟩ :: rest)) :=
  g_callF (fun w v w' => v = u ∧ Chg NoS w w') hd hc fun v _ w' hw hR a hF => k a w' ⟨by rw [← hR.1]; exact hF, hw.call hR.2⟩
theorem run_loadBox {T n b j t : Nat} {cs : List Value} [h : AggSize P T n] [hb : BoxIn H b j cs t] [hl : LenIs cs n] (hW : Wd S w0 H w) : (loadVar T ⟨b, 0, none⟩).run P w = .ok (.agg cs.toArray) w := by
  have h1 := run_loadCells_list (P := P) w ⟨b, 0, none⟩ cs (fun i v hv => by rw [Addr.add_lit, Nat.zero_add]; exact hW.cellBox j hb.at' hv)
  rw [hl.eq] at h1
  simp [loadVar, h.agg, h.sz, h1]
theorem g_retC {fn : Func} {R : Value → World → Prop} {t T n b j bt : Nat} {cs : List Value} (hr : fn.results = #[.cell t T]) [hv : SlotIs L t (.pointer (some ⟨b, 0, none⟩))] [h : AggSize P T n] [hb : BoxIn H b j cs bt] [hl : LenIs cs n] (hR : ∀ w, Wd S w0 H w → R (.agg cs.toArray) w) : G N [] S w0 L H (bodyPost P fn (fun e w' => ∃ v, e = .returned v ∧ R v w') .ret) := fun a w hS => by
  refine ⟨hS.fr.defers, .agg cs.toArray, ?_, _, rfl, hR w hS.wd⟩
  have := run_loadBox (P := P) (T := T) (b := b) (cs := cs) hS.wd
  simp [results, hr, Array.getD_eq_getD_getElem?, hS.fr.slot _ hv.mem, asAddr, this]
theorem g_retTC {fn : Func} {R : Value → World → Prop} {s t T n b j bt : Nat} {u : Value} {cs : List Value} (hr : fn.results = #[.tmp s, .cell t T]) [hu : SlotIs L s u] [hv : SlotIs L t (.pointer (some ⟨b, 0, none⟩))] [h : AggSize P T n] [hb : BoxIn H b j cs bt] [hl : LenIs cs n] (hR : ∀ w, Wd S w0 H w → R (.tuple #[u, .agg cs.toArray]) w) : G N [] S w0 L H (bodyPost P fn (fun e w' => ∃ v, e = .returned v ∧ R v w') .ret) := fun a w hS => by
  refine ⟨hS.fr.defers, _, ?_, _, rfl, hR w hS.wd⟩
  have := run_loadBox (P := P) (T := T) (b := b) (cs := cs) hS.wd
  simp [results, hr, Array.getD_eq_getD_getElem?, hS.fr.slot _ hv.mem, hS.fr.slot _ hu.mem, asAddr, this]
theorem g_retCC {fn : Func} {R : Value → World → Prop} {s T2 n2 b2 j2 bt2 t T n b j bt : Nat} {cs cs2 : List Value} (hr : fn.results = #[.cell s T2, .cell t T]) [hu : SlotIs L s (.pointer (some ⟨b2, 0, none⟩))] [h2 : AggSize P T2 n2] [hb2 : BoxIn H b2 j2 cs2 bt2] [hl2 : LenIs cs2 n2] [hv : SlotIs L t (.pointer (some ⟨b, 0, none⟩))] [h : AggSize P T n] [hb : BoxIn H b j cs bt] [hl : LenIs cs n] (hR : ∀ w, Wd S w0 H w → R (.tuple #[.agg cs2.toArray, .agg cs.toArray]) w) : G N [] S w0 L H (bodyPost P fn (fun e w' => ∃ v, e = .returned v ∧ R v w') .ret) := fun a w hS => by
  refine ⟨hS.fr.defers, _, ?_, _, rfl, hR w hS.wd⟩
  have h3 := run_loadBox (P := P) (T := T) (b := b) (cs := cs) hS.wd
  have h4 := run_loadBox (P := P) (T := T2) (b := b2) (cs := cs2) hS.wd
  simp [results, hr, Array.getD_eq_getD_getElem?, hS.fr.slot _ hv.mem, hS.fr.slot _ hu.mem, asAddr, h3, h4]

/-! ### A region that draws its order and writes: every order -/
/-- each operation number below n: it may not come now, or all is well if it does -/
def anyOps (P : Program) (N : Nat) (ds : List Deferred) (S : Nat → Prop) (w0 : World) (L : List (Nat × Value)) (H : List Ent) (ro : Option Nat) (l : List Oper) (Q : Exit → Act → World → Prop) (fuel : Nat) (listed : Array Bool) : Nat → Prop
  | 0 => True
  | i + 1 => ((Region.ready .any l.toArray listed).contains i = false ∨ ∃ o, l[i]? = some o ∧ G N ds S w0 L H (wpListIn (FW ro) 0 P l.toArray (Exit.then (wpAnyIn (FW ro) 0 P .any l.toArray Q fuel (listed.setIfInBounds i true)) Q) [o])) ∧ anyOps P N ds S w0 L H ro l Q fuel listed i
theorem any_nil {l : List Oper} {fuel : Nat} {listed : Array Bool} : anyOps P N ds S w0 L H ro l Q fuel listed 0 := trivial
theorem any_skip {l : List Oper} {fuel i : Nat} {listed : Array Bool} (h1 : (Region.ready .any l.toArray listed).contains i = false) (h2 : anyOps P N ds S w0 L H ro l Q fuel listed i) : anyOps P N ds S w0 L H ro l Q fuel listed (i + 1) := ⟨.inl h1, h2⟩
theorem any_cons {l : List Oper} {fuel i : Nat} {listed : Array Bool} {o : Oper} (h1 : G N ds S w0 L H (wpListIn (FW ro) 0 P l.toArray (Exit.then (wpAnyIn (FW ro) 0 P .any l.toArray Q fuel (listed.setIfInBounds i true)) Q) [o])) (h2 : anyOps P N ds S w0 L H ro l Q fuel listed i) [ho : ListAt l i o] : anyOps P N ds S w0 L H ro l Q fuel listed (i + 1) := ⟨.inr ⟨o, ho.at', h1⟩, h2⟩
theorem wpl_one {o : Oper} {M : Act → World → Prop} (h : wpListIn (FW ro) 0 P ops (Exit.then M Q) [o] a w) : if Region.wanted o (yielded ops a.tmps) then o.wpIn (FW ro) 0 P a w M Q else (∀ f, o.about P w a.eval = some f → (FW ro).fn f) ∧ M (a.put o.dst undef) w := by
  unfold wpListIn at h
  split
  · rename_i hw
    rw [if_pos hw] at h
    refine ⟨h.1, ?_⟩
    have h2 := h.2
    revert h2
    generalize (o.semAt (FW ro).round a.eval).run P w = r
    intro h2
    cases r with
    | ok nx w1 =>
      cases nx with
      | value v => exact h2
      | skip => exact h2
      | defer d => exact h2
      | enter f args =>
        refine ⟨h2.1, h2.2.mono fun e w2 hh => ?_⟩
        cases e <;> exact hh
      | row r args => exact ⟨h2.1, h2.2.mono fun v w2 hh => hh⟩
      | round l f tmps assign body =>
        refine ⟨h2.1, h2.2.mono fun e w2 hh => ?_⟩
        cases e <;> exact hh
      | _ => exact h2
    | halt x w1 => cases x <;> exact h2
  · rename_i hw
    rw [if_neg hw] at h
    exact ⟨h.1, h.2⟩
theorem anyOps_mem {l : List Oper} {fuel : Nat} {listed : Array Bool} : ∀ {n : Nat}, anyOps P N ds S w0 L H ro l Q fuel listed n → ∀ i, i < n → i ∈ Region.ready .any l.toArray listed → G N ds S w0 L H (fun a w => wpOpIn (FW ro) 0 P l.toArray Q i (wpAnyIn (FW ro) 0 P .any l.toArray Q fuel (listed.setIfInBounds i true)) a w)
  | 0, _, i, hi, _ => by omega
  | j + 1, ⟨h1, h2⟩, i, hi, hm => by
    by_cases hij : i = j
    · subst hij
      rcases h1 with h1 | ⟨o, ho, h1⟩
      · rw [List.contains_iff_mem.2 hm] at h1; cases h1
      · intro a w hS
        unfold wpOpIn
        rw [show l.toArray[i]? = some o by simpa using ho]
        exact wpl_one (h1 a w hS)
    · exact anyOps_mem h2 i (by omega) hm
theorem ready_lt {l : List Oper} {listed : Array Bool} {i : Nat} (h : i ∈ Region.ready .any l.toArray listed) : i < l.length := by
  unfold Region.ready at h
  have := List.mem_filter.1 h
  simpa using this.1
theorem g_any {l : List Oper} {fuel n : Nat} {listed : Array Bool} [hl : LenO l n] (hne : (Region.ready .any l.toArray listed).isEmpty = false) (h : anyOps P N ds S w0 L H ro l Q fuel listed n) : G N ds S w0 L H (wpAnyIn (FW ro) 0 P .any l.toArray Q (fuel + 1) listed) := fun a w hS => by
  refine ⟨fun e => ?_, fun i hi => anyOps_mem h i (by rw [← hl.eq]; exact ready_lt hi) hi a w hS⟩
  rw [e] at hne
  cases hne
theorem g_any0 {l : List Oper} {listed : Array Bool} (hr : Region.ready .any l.toArray listed = []) (h : G N ds S w0 L H (Q .normal)) : G N ds S w0 L H (wpAnyIn (FW ro) 0 P .any l.toArray Q 0 listed) := fun a w hS => ⟨hr, h a w hS⟩
/-- it ends normally, and this holds -/
def OnlyN (M : Act → World → Prop) : Exit → Act → World → Prop
  | .normal, a, w => M a w
  | _, _, _ => False
theorem g_only {M : Act → World → Prop} (h : G N ds S w0 L H M) : G N ds S w0 L H (OnlyN M .normal) := h
def notCall : Op → Bool
  | .call _ => false
  | _ => true
/-- what yields its value whatever the world may be taken first -/
theorem g_take {l : List Oper} {fuel d ty : Nat} (i : Nat) {pos : String} {aft : Array Edge} {op : Op} {v : Value} {listed : Array Bool} {M : Act → World → Prop} [ho : ListAt l i ⟨some d, op, ty, pos, aft, none⟩] [h : ∀ w, RunsC P N ds NoS w L [] op v] (hd : (okPut d N L && notCall op) = true)
    (hr : ((Region.noSelect l.toArray && Region.free .any l.toArray listed i) && (Region.ready .any l.toArray listed).contains i) = true)
    (k : G N ds S w0 ((d, v) :: L) H (wpAnyIn (FW none) 0 P .any l.toArray (OnlyN M) fuel (listed.setIfInBounds i true))) : G N ds S w0 L H (wpAnyIn (FW none) 0 P .any l.toArray (OnlyN M) (fuel + 1) listed) := fun a w hS => by
  simp only [Bool.and_eq_true] at hr hd
  refine wpAnyIn_take (i := i) (oi := ⟨some d, op, ty, pos, aft, none⟩) (v := v) rfl (by simpa using ho.at') hr.1.1 hr.1.2 hr.2 (fun c a w hh => hh) ⟨.inl ⟨rfl, fun w => ?_⟩, fun w => ?_⟩ (k _ _ ⟨hS.fr.putOk hd.1 v, hS.wd⟩)
  · exact (h w).run _ _ _ _ _ a w hS.fr (Wd.nil NoS w)
  · have := hd.2
    cases op <;> first | rfl | cases this
theorem g_takeG {l : List Oper} {fuel d ty j t : Nat} (i : Nat) {want : Bool} {pos : String} {aft : Array Edge} {op : Op} {v : Value} {listed : Array Bool} {M : Act → World → Prop} [ho : ListAt l i ⟨some d, op, ty, pos, aft, some (j, want)⟩] [hj : DstOf l.toArray j t] [hb : SlotIs L t (.bool want)] [h : ∀ w, RunsC P N ds NoS w L [] op v] (hd : (okPut d N L && notCall op) = true)
    (hr : ((Region.noSelect l.toArray && Region.free .any l.toArray listed i) && (Region.ready .any l.toArray listed).contains i) = true)
    (k : G N ds S w0 ((d, v) :: L) H (wpAnyIn (FW none) 0 P .any l.toArray (OnlyN M) fuel (listed.setIfInBounds i true))) : G N ds S w0 L H (wpAnyIn (FW none) 0 P .any l.toArray (OnlyN M) (fuel + 1) listed) := fun a w hS => by
  simp only [Bool.and_eq_true] at hr hd
  refine wpAnyIn_take (i := i) (oi := ⟨some d, op, ty, pos, aft, some (j, want)⟩) (v := v) rfl (by simpa using ho.at') hr.1.1 hr.1.2 hr.2 (fun c a w hh => hh) ⟨.inl ⟨?_, fun w => ?_⟩, fun w => ?_⟩ (k _ _ ⟨hS.fr.putOk hd.1 v, hS.wd⟩)
  · simp only [Region.wanted, hS.fr.yield (ops := l.toArray) (j := j) (b := want)]
    simp
  · exact (h w).run _ _ _ _ _ a w hS.fr (Wd.nil NoS w)
  · have := hd.2
    cases op <;> first | rfl | cases this
theorem g_takeP {l : List Oper} {fuel d ty j t : Nat} (i : Nat) {want b : Bool} {pos : String} {aft : Array Edge} {op : Op} {listed : Array Bool} {M : Act → World → Prop} [ho : ListAt l i ⟨some d, op, ty, pos, aft, some (j, want)⟩] [hj : DstOf l.toArray j t] [hn : NotB want b] [hb : SlotIs L t (.bool b)] (hd : (okPut d N L && notCall op) = true)
    (hr : ((Region.noSelect l.toArray && Region.free .any l.toArray listed i) && (Region.ready .any l.toArray listed).contains i) = true)
    (k : G N ds S w0 ((d, undef) :: L) H (wpAnyIn (FW none) 0 P .any l.toArray (OnlyN M) fuel (listed.setIfInBounds i true))) : G N ds S w0 L H (wpAnyIn (FW none) 0 P .any l.toArray (OnlyN M) (fuel + 1) listed) := fun a w hS => by
  simp only [Bool.and_eq_true] at hr hd
  refine wpAnyIn_take (i := i) (oi := ⟨some d, op, ty, pos, aft, some (j, want)⟩) (v := undef) rfl (by simpa using ho.at') hr.1.1 hr.1.2 hr.2 (fun c a w hh => hh) ⟨.inr ⟨?_, rfl⟩, fun w => ?_⟩ (k _ _ ⟨hS.fr.putOk hd.1 undef, hS.wd⟩)
  · simp only [Region.wanted, hS.fr.yield (ops := l.toArray) (j := j) (b := b)]
    exact hn.ne
  · have := hd.2
    cases op <;> first | rfl | cases this
/-- every order ends in what is named -/
theorem g_drawW {id n : Nat} {l : List Oper} [hl : LenO l n] (L' : List (Nat × Value)) (H' : List Ent) (hm : P.follows .mixedOrders = true)
    (h : G N ds S w0 L H (wpAnyIn (FW ro) 0 P .any l.toArray (OnlyN (St N ds S w0 L' H')) n (Array.replicate n false)))
    (k : G N ds S w0 L' H' (Q .normal)) : G N ds S w0 L H (Code.wpIn (FW ro) 0 P (Code.region id l.toArray true) Q) := fun a w hS => by
  refine wpIn_region_any hm ?_
  have h1 := h a { w with drawn := w.drawn + 1 } ⟨hS.fr, hS.wd.same rfl rfl rfl rfl⟩
  have key : ∀ (fuel : Nat) (listed : Array Bool) (a : Act) (w : World), wpAnyIn (FW ro) 0 P .any l.toArray (OnlyN (St N ds S w0 L' H')) fuel listed a w → wpAnyIn (FW ro) 0 P .any l.toArray Q fuel listed a w := by
    intro fuel
    induction fuel with
    | zero => exact fun listed a w h => ⟨h.1, k a w h.2⟩
    | succ fuel ih =>
      intro listed a w h
      refine ⟨fun e => k a w (h.1 e), fun i hi => ?_⟩
      have h2 := h.2 i hi
      unfold wpOpIn at h2 ⊢
      split
      · rename_i ho
        simp only [ho] at h2
        exact ih _ _ _ h2
      · rename_i o ho
        simp only [ho] at h2
        split
        · rename_i hw
          rw [if_pos hw] at h2
          refine ⟨h2.1, ?_⟩
          have h3 := h2.2
          revert h3
          generalize (o.semAt (FW ro).round a.eval).run P w = r
          intro h3
          cases r with
          | ok nx w1 =>
            cases nx with
            | value v => exact ih _ _ _ h3
            | skip => exact ih _ _ _ h3
            | defer d => exact ih _ _ _ h3
            | enter f args =>
              refine ⟨h3.1, h3.2.mono fun e w2 hh => ?_⟩
              cases e with
              | returned v => exact ih _ _ _ hh
              | panicked c => exact (hh : False).elim
              | outgrown => exact (Exists.elim hh fun _ h => Exists.elim h fun _ h => (h : False).elim)
            | row r args => exact ⟨h3.1, h3.2.mono fun v w2 hh => ih _ _ _ hh⟩
            | round l f tmps assign body =>
              refine ⟨h3.1, h3.2.mono fun e w2 hh => ?_⟩
              cases e with
              | returned v => exact ih _ _ _ hh
              | panicked c => exact (hh : False).elim
              | outgrown => exact (Exists.elim hh fun _ h => Exists.elim h fun _ h => (h : False).elim)
            | _ => exact h3
          | halt x w1 => cases x <;> exact (h3 : False).elim
        · rename_i hw
          rw [if_neg hw] at h2
          exact ⟨h2.1, ih _ _ _ h2.2⟩
  have := key _ _ _ _ h1
  rw [← hl.eq] at this
  simpa using this
end
end Go.Proofs.YtebajiafdkokjaaDoor

/- The base of the walks of this seat: frames as lists of known slots, the memory that a call owns as a list of pieces that lie apart, and one rule for each operation. Nothing of the program is named here. -/
import Derived.WalkKit
import Derived.TacticsIn
import Derived.RangeFuncCalls
import Derived.Great.BuildSlice
import Derived.Deep.MidRow
namespace Go.Proofs.YtebajiafdkokjaaDoor
open Go Go.RowKit

/-! ### Slots -/
def FW (ro : Option Nat) : Fence := { fn := fun _ => True, depth := none, alive := false, round := ro }

structure Fr (N : Nat) (ds : List Deferred) (L : List (Nat × Value)) (a : Act) : Prop where
  size : a.tmps.size = N
  defers : a.defers = ds
  slot : ∀ p ∈ L, a.tmps[p.1]? = some p.2

section
variable {N : Nat} {ds : List Deferred} {L : List (Nat × Value)} {a : Act}
theorem Fr.put (h : Fr N ds L a) {d : Nat} (hd : d.blt N = true) (v : Value) (hne : ∀ p ∈ L, ¬ p.1 = d) : Fr N ds ((d, v) :: L) (a.put (some d) v) := by
  have hd : d < N := by simpa using hd
  refine ⟨by simp [Act.put, h.size], by simpa [Act.put] using h.defers, fun p hp => ?_⟩
  rcases List.mem_cons.1 hp with rfl | hp
  · simp [Act.put, h.size, hd]
  · have h1 := hne p hp
    simp only [Act.put]
    rw [Array.getElem?_setIfInBounds, if_neg (by omega)]
    exact h.slot p hp
/-- all of the second list, one after the other -/
def allIn (L : List (Nat × Value)) : List (Nat × Value) → Prop
  | [] => True
  | p :: r => L.lookup p.1 = some p.2 ∧ allIn L r
theorem mem_of_lookup {L : List (Nat × Value)} {s : Nat} {v : Value} (h : L.lookup s = some v) : (s, v) ∈ L := by
  induction L with
  | nil => simp [List.lookup] at h
  | cons p r ih =>
    obtain ⟨k, u⟩ := p
    simp only [List.lookup_cons] at h
    by_cases e : s = k
    · subst e
      simp at h
      subst h; simp
    · have : (s == k) = false := by simpa using e
      simp only [this] at h
      exact List.mem_cons_of_mem _ (ih h)
theorem Fr.to (h : Fr N ds L a) {L' : List (Nat × Value)} (hs : allIn L L') : Fr N ds L' a := by
  refine ⟨h.size, h.defers, fun p hp => ?_⟩
  induction L' with
  | nil => simp at hp
  | cons q r ih =>
    obtain ⟨h1, h2⟩ := hs
    rcases List.mem_cons.1 hp with rfl | hp
    · exact h.slot p (mem_of_lookup h1)
    · exact ih h2 hp
end

/-! ### Memory -/
/-- But for the blocks of S, what was there is as it was. -/
structure Chg (S : Nat → Prop) (w w' : World) : Prop where
  os : w'.os = w.os
  tape : w'.tape = w.tape
  output : w'.output = w.output
  size : w.heap.size ≤ w'.heap.size
  block : ∀ k, k < w.heap.size → ¬ S k → w'.heap[k]? = w.heap[k]?
def NoS : Nat → Prop := fun _ => False
theorem Chg.refl (S : Nat → Prop) (w : World) : Chg S w w := ⟨rfl, rfl, rfl, Nat.le_refl _, fun _ _ _ => rfl⟩
theorem Chg.trans {S : Nat → Prop} {a b c : World} (h : Chg S a b) (k : Chg S b c) : Chg S a c :=
  ⟨k.os.trans h.os, k.tape.trans h.tape, k.output.trans h.output, Nat.le_trans h.size k.size, fun i hi hS => (k.block i (by have := h.size; omega) hS).trans (h.block i hi hS)⟩
theorem Chg.mono {S T : Nat → Prop} {w w' : World} (h : Chg S w w') (hs : ∀ b, b < w.heap.size → S b → T b) : Chg T w w' :=
  ⟨h.os, h.tape, h.output, h.size, fun k hk hT => h.block k hk fun hS => hT (hs k hk hS)⟩
theorem Chg.below {w w' : World} (h : Chg NoS w w') : Below w.heap.size w w' := ⟨h.os, h.tape, h.output, h.size, fun k hk => h.block k hk (fun h => h)⟩
theorem Chg.of_below {w w' : World} (h : Below w.heap.size w w') : Chg NoS w w' := ⟨h.os, h.tape, h.output, h.size, fun k hk _ => h.block k hk⟩
theorem Chg.heap {w w' : World} (ho : w'.os = w.os) (ht : w'.tape = w.tape) (hp : w'.output = w.output) (h : w'.heap = w.heap) (S : Nat → Prop) : Chg S w w' := ⟨ho, ht, hp, by rw [h]; exact Nat.le_refl _, fun _ _ _ => by rw [h]⟩
theorem Chg.alloc (w : World) (o : Obj) (S : Nat → Prop) : Chg S w (w.alloc o) := ⟨rfl, rfl, rfl, by simp, fun k hk _ => Below.heap_alloc w o k hk⟩
theorem Chg.setCell (w : World) (p : Addr) (v : Value) : Chg (fun b => b = p.block) w (w.setCell p v) :=
  ⟨rfl, rfl, rfl, by simp [World.setCell], fun k _ hk => Below.heap_setCell w p v k hk⟩
theorem Chg.grownBy {w w' : World} {row : Option Nat} (h : w.grownBy w' row) : Chg (fun b => row = some b) w w' := ⟨h.os, h.tape, h.output, h.size, fun k hk hS => h.block k hk fun e => hS e.symm⟩

/-- A piece of memory: its blocks, and what is said of it. -/
structure Ent where
  fp : Nat → Prop
  ok : World → Prop
def Ent.box (b : Nat) (cs : List Value) (t : TypeId) : Ent := ⟨fun k => k = b, fun w => w.heap[b]? = some (.cells cs.toArray t (0, 0))⟩
def Ent.row (v : Value) (e : TypeId) (size n : Nat) (xs : List Value) : Ent := ⟨fun k => v.ownBlock = some k, fun w => w.ownsRow 0 e size v n xs⟩
def fps (H : List Ent) : Nat → Prop := fun b => ∃ e ∈ H, e.fp b

/-- What a call that began in w0 and may write to S holds: its pieces, apart from each other. -/
structure Wd (S : Nat → Prop) (w0 : World) (H : List Ent) (w : World) : Prop where
  chg : Chg S w0 w
  own : ∀ e ∈ H, ∀ b, e.fp b → (S b ∨ w0.heap.size ≤ b) ∧ b < w.heap.size
  ok : ∀ e ∈ H, ∀ w' : World, w.heap.size ≤ w'.heap.size → (∀ b, e.fp b → w'.heap[b]? = w.heap[b]?) → e.ok w'
  apart : H.Pairwise fun e f => ∀ b, e.fp b → ¬ f.fp b

section
variable {S : Nat → Prop} {w0 w w' : World} {H H1 H' E : List Ent}
theorem Wd.nil (S : Nat → Prop) (w : World) : Wd S w [] w := ⟨Chg.refl _ _, by simp, by simp, by simp⟩
theorem Wd.get (h : Wd S w0 H w) {k : Nat} {e : Ent} (hk : H[k]? = some e) : e.ok w := h.ok e (List.mem_of_getElem? hk) w (Nat.le_refl _) fun _ _ => rfl
theorem Wd.size (h : Wd S w0 H w) : w0.heap.size ≤ w.heap.size := h.chg.size
theorem Wd.sub (h : Wd S w0 H w) (hs : H'.Sublist H) : Wd S w0 H' w :=
  ⟨h.chg, fun e he => h.own e (hs.subset he), fun e he => h.ok e (hs.subset he), h.apart.sublist hs⟩
theorem Wd.perm (h : Wd S w0 H w) (hp : H.Perm H') : Wd S w0 H' w :=
  ⟨h.chg, fun e he => h.own e (hp.mem_iff.2 he), fun e he => h.ok e (hp.mem_iff.2 he),
   (hp.pairwise_iff (fun hxy b hy hx => hxy b hx hy)).1 h.apart⟩
/-- what a callee is given: the first pieces -/
theorem Wd.pre (h : Wd S w0 (H1 ++ H) w) : Wd (fps H1) w H1 w :=
  ⟨Chg.refl _ _, fun e he b hb => ⟨.inl ⟨e, he, hb⟩, (h.own e (List.mem_append_left _ he) b hb).2⟩, fun e he => h.ok e (List.mem_append_left _ he), (List.pairwise_append.1 h.apart).1⟩
/-- a callee has run on the first pieces -/
theorem Wd.comp (h : Wd S w0 (H1 ++ H) w) (hc : Wd (fps H1) w E w') : Wd S w0 (E ++ H) w' := by
  have hS : ∀ b, fps H1 b → S b ∨ w0.heap.size ≤ b := fun b ⟨e, he, hb⟩ => (h.own e (List.mem_append_left _ he) b hb).1
  have hap := (List.pairwise_append.1 h.apart)
  have hsz := h.chg.size
  have hsz' := hc.chg.size
  have keep : ∀ f ∈ H, ∀ b, f.fp b → w'.heap[b]? = w.heap[b]? := fun f hf b hb =>
    hc.chg.block b (h.own f (List.mem_append_right _ hf) b hb).2 fun ⟨e, he, heb⟩ => hap.2.2 e he f hf b heb hb
  refine ⟨⟨hc.chg.os.trans h.chg.os, hc.chg.tape.trans h.chg.tape, hc.chg.output.trans h.chg.output, Nat.le_trans hsz hsz', fun k hk hnS => ?_⟩, ?_, ?_, ?_⟩
  · exact (hc.chg.block k (by omega) fun hf => (hS k hf).elim hnS fun h1 => by omega).trans (h.chg.block k hk hnS)
  · intro e he b hb
    rcases List.mem_append.1 he with he | he
    · have h1 := hc.own e he b hb
      exact ⟨h1.1.elim (hS b) fun h2 => .inr (by omega), h1.2⟩
    · have h1 := h.own e (List.mem_append_right _ he) b hb
      exact ⟨h1.1, by omega⟩
  · intro e he w2 hs2 hw2
    rcases List.mem_append.1 he with he | he
    · exact hc.ok e he w2 hs2 hw2
    · exact h.ok e (List.mem_append_right _ he) w2 (Nat.le_trans hsz' hs2) fun b hb => (hw2 b hb).trans (keep e he b hb)
  · refine List.pairwise_append.2 ⟨hc.apart, hap.2.1, fun e he f hf b hb hfb => ?_⟩
    have hlt := (h.own f (List.mem_append_right _ hf) b hfb).2
    rcases (hc.own e he b hb).1 with ⟨g, hg, hgb⟩ | h1
    · exact hap.2.2 g hg f hf b hgb hfb
    · omega
/-- a world that differs in nothing but draws -/
theorem Wd.same (h : Wd S w0 H w) (ho : w'.os = w.os) (ht : w'.tape = w.tape) (hp : w'.output = w.output) (hh : w'.heap = w.heap) : Wd S w0 H w' :=
  ⟨h.chg.trans (Chg.heap ho ht hp hh S), by rw [hh]; exact h.own, fun e he w2 hs2 hw2 => h.ok e he w2 (by rw [hh] at hs2; exact hs2) (by rw [hh] at hw2; exact hw2), h.apart⟩
theorem Wd.drew (h : Wd S w0 H w) : Wd S w0 H w.drew := h.same rfl rfl rfl rfl
/-- nothing that was there has turned: a call that made memory of its own -/
theorem Wd.more (h : Wd S w0 H w) (hc : Wd NoS w E w') : Wd S w0 (E ++ H) w' := by
  refine Wd.comp (H1 := []) h ⟨hc.chg.mono (fun b _ hb => hb.elim), fun e he b hb => ?_, hc.ok, hc.apart⟩
  have := hc.own e he b hb
  exact ⟨.inr (this.1.elim (fun h => h.elim) id), this.2⟩
theorem Wd.call (h : Wd S w0 H w) (hc : Chg NoS w w') : Wd S w0 H w' :=
  Wd.more (E := []) h ⟨hc, by simp, by simp, by simp⟩
theorem Wd.box (h : Wd S w0 H w) (cs : List Value) (t : TypeId) : Wd S w0 (Ent.box w.heap.size cs t :: H) (w.alloc (.cells cs.toArray t)) := by
  refine Wd.more (E := [Ent.box w.heap.size cs t]) h ⟨Chg.alloc _ _ _, ?_, ?_, by simp⟩
  · intro e he b hb
    simp only [List.mem_singleton] at he
    subst he
    simp only [Ent.box] at hb
    subst hb
    exact ⟨.inr (Nat.le_refl _), by simp⟩
  · intro e he w2 _ hw2
    simp only [List.mem_singleton] at he
    subst he
    have := hw2 w.heap.size rfl
    simp only [Ent.box]
    rw [this]
    exact heap_alloc_new w _
theorem wd_one {e e' : Ent} (hc : Chg e.fp w w') (ho : ∀ b, e'.fp b → (e.fp b ∨ w.heap.size ≤ b) ∧ b < w'.heap.size) (hok : ∀ w2 : World, (∀ b, e'.fp b → w2.heap[b]? = w'.heap[b]?) → e'.ok w2) : Wd (fps [e]) w [e'] w' := by
  refine ⟨hc.mono fun b _ hb => ⟨e, by simp, hb⟩, ?_, ?_, by simp⟩
  · intro f hf b hb
    simp only [List.mem_singleton] at hf
    subst hf
    have := ho b hb
    exact ⟨this.1.imp (fun h => ⟨e, by simp, h⟩) id, this.2⟩
  · intro f hf
    simp only [List.mem_singleton] at hf
    subst hf
    exact fun w2 _ h => hok w2 h
/-- the first piece has turned -/
theorem Wd.turn {e e' : Ent} (h : Wd S w0 (e :: H) w) (hc : Chg e.fp w w') (ho : ∀ b, e'.fp b → (e.fp b ∨ w.heap.size ≤ b) ∧ b < w'.heap.size) (hok : ∀ w2 : World, (∀ b, e'.fp b → w2.heap[b]? = w'.heap[b]?) → e'.ok w2) : Wd S w0 (e' :: H) w' :=
  Wd.comp (H1 := [e]) (E := [e']) h (wd_one hc ho hok)
theorem perm_set {α : Type} {l : List α} {k : Nat} {e : α} (h : l[k]? = some e) (e' : α) : (e' :: l.eraseIdx k).Perm (l.set k e') := by
  induction l generalizing k with
  | nil => simp at h
  | cons x r ih =>
    cases k with
    | zero => simp
    | succ k =>
      simp only [List.getElem?_cons_succ] at h
      simp only [List.eraseIdx_cons_succ, List.set_cons_succ]
      exact (List.Perm.swap x e' _).trans ((ih h).cons x)
theorem perm_pull {α : Type} {l : List α} {k : Nat} {e : α} (h : l[k]? = some e) : l.Perm (e :: l.eraseIdx k) := by
  have := perm_set h e
  have hs : l.set k e = l := by
    apply List.ext_getElem?
    intro i
    rw [List.getElem?_set]
    split
    · rename_i hi; subst hi; split
      · exact h.symm
      · rename_i hlt; rw [List.getElem?_eq_none (by omega)]
    · rfl
  rw [hs] at this
  exact this.symm
/-- piece number k has turned -/
theorem Wd.turnAt {k : Nat} {e e' : Ent} (h : Wd S w0 H w) (hk : H[k]? = some e) (hc : Chg e.fp w w') (ho : ∀ b, e'.fp b → (e.fp b ∨ w.heap.size ≤ b) ∧ b < w'.heap.size) (hok : ∀ w2 : World, (∀ b, e'.fp b → w2.heap[b]? = w'.heap[b]?) → e'.ok w2) : Wd S w0 (H.set k e') w' :=
  ((h.perm (perm_pull hk)).turn hc ho hok).perm (perm_set hk e')
/-- a callee has run on piece number k -/
theorem Wd.preAt {k : Nat} {e : Ent} (h : Wd S w0 H w) (hk : H[k]? = some e) : Wd (fps [e]) w [e] w := Wd.pre (H1 := [e]) (h.perm (perm_pull hk))
theorem Wd.compAt {k : Nat} {e e' : Ent} (h : Wd S w0 H w) (hk : H[k]? = some e) (hc : Wd (fps [e]) w (e' :: E) w') : Wd S w0 (E ++ H.set k e') w' := by
  have h1 := Wd.comp (H1 := [e]) (h.perm (perm_pull hk)) hc
  refine h1.perm ?_
  rw [List.cons_append]
  exact (List.perm_middle.symm).trans (List.Perm.append_left E (perm_set hk e'))
theorem Wd.cellOld (h : Wd S w0 H w) {p : Addr} {v : Value} (hc : w0.cell? p = some v) (hS : ¬ S p.block := by exact fun h => h) : w.cell? p = some v := by
  have hlt := World.block_lt_of_cell? w0 p hc
  rw [← hc]
  exact World.cell?_of_block (h.chg.block _ hlt hS)
theorem Wd.cellBox (h : Wd S w0 H w) (k : Nat) {b o : Nat} {cs : List Value} {t : TypeId} {v : Value} (hk : H[k]? = some (Ent.box b cs t)) (hc : cs[o]? = some v) : w.cell? ⟨b, o, none⟩ = some v := by
  have := h.get hk
  simp only [Ent.box] at this
  simp [World.cell?, this, hc]
theorem Wd.boxAt (h : Wd S w0 H w) (k : Nat) {b : Nat} {cs : List Value} {t : TypeId} (hk : H[k]? = some (Ent.box b cs t)) : w.heap[b]? = some (.cells cs.toArray t (0, 0)) := h.get hk
theorem heap_set_same {w : World} {b o : Nat} {cs : List Value} {t : TypeId} (hb : w.heap[b]? = some (.cells cs.toArray t (0, 0))) (v : Value) :
    (w.setCell ⟨b, o, none⟩ v).heap[b]? = some (.cells (cs.set o v).toArray t (0, 0)) := by
  simp [World.setCell, Array.getElem?_modify, hb]
theorem Wd.setBox (h : Wd S w0 H w) (k : Nat) {b o : Nat} {cs : List Value} {t : TypeId} (v : Value) (hk : H[k]? = some (Ent.box b cs t)) :
    Wd S w0 (H.set k (Ent.box b (cs.set o v) t)) (w.setCell ⟨b, o, none⟩ v) := by
  have hb := h.boxAt k hk
  have hlt : b < w.heap.size := (Array.getElem?_eq_some_iff.1 hb).1
  refine h.turnAt hk (Chg.setCell w ⟨b, o, none⟩ v) (fun b' hb' => ?_) fun w2 hw2 => ?_
  · simp only [Ent.box] at hb' ⊢
    subst hb'
    exact ⟨.inl rfl, by simpa [World.setCell] using hlt⟩
  · have := hw2 b rfl
    simp only [Ent.box]
    rw [this]
    exact heap_set_same hb v
theorem Wd.rowBox (h : Wd S w0 H w) (k : Nat) {b : Nat} {cs : List Value} {t : TypeId} (vs : List Value) (hk : H[k]? = some (Ent.box b cs t)) :
    Wd S w0 (H.set k (Ent.box b vs t)) (w.setRow b vs.toArray) := by
  have hb := h.boxAt k hk
  have hlt : b < w.heap.size := (Array.getElem?_eq_some_iff.1 hb).1
  have hsz : (w.setRow b vs.toArray).heap.size = w.heap.size := by simp [World.setRow]
  refine h.turnAt hk ⟨rfl, rfl, rfl, by rw [hsz]; exact Nat.le_refl _, fun k _ hk => setRow_other w b k _ hk⟩ (fun b' hb' => ?_) fun w2 hw2 => ?_
  · simp only [Ent.box] at hb' ⊢
    subst hb'
    exact ⟨.inl rfl, by rw [hsz]; exact hlt⟩
  · have := hw2 b rfl
    simp only [Ent.box]
    rw [this]
    exact setRow_heap w b cs.toArray _ t _ hb
end

/-! ### What instance search looks up -/
class ListAt {α : Type} (l : List α) (k : Nat) (x : outParam α) : Prop where
  at' : l[k]? = some x
instance {α : Type} (x : α) (l : List α) : ListAt (x :: l) 0 x := ⟨rfl⟩
instance {α : Type} (x y : α) (l : List α) (k : Nat) [h : ListAt l k x] : ListAt (y :: l) (k + 1) x := ⟨h.at'⟩
class SetAt {α : Type} (l : List α) (k : Nat) (x : α) (l' : outParam (List α)) : Prop where
  set' : l.set k x = l'
instance {α : Type} (x y : α) (l : List α) : SetAt (y :: l) 0 x (x :: l) := ⟨rfl⟩
instance {α : Type} (x y : α) (l l' : List α) (k : Nat) [h : SetAt l k x l'] : SetAt (y :: l) (k + 1) x (y :: l') := ⟨by rw [List.set_cons_succ, h.set']⟩
class LenIs {α : Type} (l : List α) (n : Nat) : Prop where
  eq : l.length = n
instance {α : Type} : LenIs ([] : List α) 0 := ⟨rfl⟩
instance {α : Type} (x : α) (l : List α) (n : Nat) [h : LenIs l n] : LenIs (x :: l) (n + 1) := ⟨by rw [List.length_cons, h.eq]⟩
/-- the box of block b is piece k -/
class BoxIn (H : List Ent) (b : Nat) (k : outParam Nat) (cs : outParam (List Value)) (t : outParam TypeId) : Prop where
  at' : H[k]? = some (Ent.box b cs t)
instance (b : Nat) (cs : List Value) (t : TypeId) (H : List Ent) : BoxIn (Ent.box b cs t :: H) b 0 cs t := ⟨rfl⟩
instance (b : Nat) (cs : List Value) (t : TypeId) (H : List Ent) (e : Ent) (k : Nat) [h : BoxIn H b k cs t] : BoxIn (e :: H) b (k + 1) cs t := ⟨h.at'⟩
class CellsOf (v : Value) (cs : outParam (List Value)) : Prop where
  eq : v.cells.toList = cs
instance (l : List Value) : CellsOf (.agg l.toArray) l := ⟨rfl⟩
instance (b : Bool) : CellsOf (.bool b) [.bool b] := ⟨rfl⟩
instance (k : IntKind) (n : Int) : CellsOf (.int k n) [.int k n] := ⟨rfl⟩
instance (s : ByteArray) : CellsOf (.string s) [.string s] := ⟨rfl⟩
instance (p : Option Addr) : CellsOf (.pointer p) [.pointer p] := ⟨rfl⟩
instance (p : Option Addr) (n c : Nat) : CellsOf (.slice p n c) [.slice p n c] := ⟨rfl⟩
instance (f : Fn) (x y : Array Value) : CellsOf (.func f x y) [.func f x y] := ⟨rfl⟩
instance : CellsOf .nilFunc [.nilFunc] := ⟨rfl⟩

/-! ### Struct literals -/
def putL : List Value → Nat → List Value → List Value
  | cs, _, [] => cs
  | [], _, _ :: _ => []
  | _ :: cs, 0, v :: vs => v :: putL cs 0 vs
  | c :: cs, o + 1, v :: vs => c :: putL cs o (v :: vs)
class PutAt (cs : List Value) (o : Nat) (vs : List Value) (cs' : outParam (List Value)) : Prop where
  eq : putL cs o vs = cs'
  le : o + vs.length ≤ cs.length
theorem putL_length : ∀ (cs : List Value) (o : Nat) (vs : List Value), (putL cs o vs).length = cs.length
  | [], _, [] => rfl
  | _ :: _, _, [] => rfl
  | [], _, _ :: _ => rfl
  | _ :: cs, 0, _ :: vs => by simp [putL, putL_length cs 0 vs]
  | _ :: cs, o + 1, v :: vs => by simp [putL, putL_length cs o (v :: vs)]
instance (cs : List Value) : PutAt cs 0 [] cs := ⟨by cases cs <;> rfl, by simp⟩
instance (c v : Value) (cs vs cs' : List Value) [h : PutAt cs 0 vs cs'] : PutAt (c :: cs) 0 (v :: vs) (v :: cs') := ⟨by simp only [putL, h.eq], by have := h.le; simp at this ⊢; omega⟩
instance (c v : Value) (cs vs cs' : List Value) (o : Nat) [h : PutAt cs o (v :: vs) cs'] : PutAt (c :: cs) (o + 1) (v :: vs) (c :: cs') := ⟨by simp only [putL, h.eq], by have := h.le; simp at this ⊢; omega⟩
theorem putL_eq : ∀ (cs : List Value) (o : Nat) (vs : List Value), o + vs.length ≤ cs.length → cs.take o ++ vs ++ cs.drop (o + vs.length) = putL cs o vs
  | [], o, [], h => by simp [putL]
  | c :: cs, o, [], h => by simp [putL]
  | [], _, _ :: _, h => by simp at h
  | c :: cs, 0, v :: vs, h => by
    have := putL_eq cs 0 vs (by simp at h ⊢; omega)
    simp [putL] at this ⊢
    exact this
  | c :: cs, o + 1, v :: vs, h => by
    have := putL_eq cs o (v :: vs) (by simp at h ⊢; omega)
    simp only [putL]
    rw [← this]
    have e : o + 1 + (v :: vs).length = (o + (v :: vs).length) + 1 := by omega
    rw [e]
    simp
class FillAt (places : List (Nat × Nat)) (cs : List Value) (parts : List (Nat × Value)) (cs' : outParam (List Value)) : Prop where
  eq : Instr.fill (fun i => places[i]?) cs.toArray parts = some cs'.toArray
theorem fold_putL : ∀ (vs : List Value) (cs : List Value) (o j : Nat), o + j + vs.length ≤ cs.length →
    (vs.zipIdx j).foldl (fun (a : Array Value) (p : Value × Nat) => a.setIfInBounds (o + p.2) p.1) cs.toArray = (putL cs (o + j) vs).toArray
  | [], cs, o, j, _ => by cases cs <;> simp [putL]
  | v :: vs, cs, o, j, hl => by
    simp only [List.zipIdx_cons, List.foldl_cons]
    rw [show cs.toArray.setIfInBounds (o + j) v = (cs.set (o + j) v).toArray by simp]
    rw [fold_putL vs (cs.set (o + j) v) o (j + 1) (by simp at hl ⊢; omega)]
    congr 1
    have key : ∀ (cs : List Value) (k : Nat), k + (v :: vs).length ≤ cs.length → putL (cs.set k v) (k + 1) vs = putL cs k (v :: vs) := by
      intro cs
      induction cs with
      | nil => intro k hk; simp at hk
      | cons c cs ih =>
        intro k hk
        cases k with
        | zero =>
          cases vs with
          | nil => cases cs <;> simp [putL]
          | cons u us => simp [putL]
        | succ k =>
          cases vs with
          | nil =>
            have := ih k (by simp at hk ⊢; omega)
            simp only [List.set_cons_succ, putL]
            rw [← this]
            cases cs.set k v <;> simp [putL]
          | cons u us =>
            have := ih k (by simp at hk ⊢; omega)
            simp only [List.set_cons_succ, putL]
            rw [← this]
    exact key cs (o + j) (by simp at hl ⊢; omega)
instance (places : List (Nat × Nat)) (cs : List Value) : FillAt places cs [] cs := ⟨rfl⟩
instance (places : List (Nat × Nat)) (cs vs cs1 cs2 : List Value) (i off size : Nat) (v : Value) (r : List (Nat × Value)) [hp : ListAt places i (off, size)] [hv : CellsOf v vs] [hq : PutAt cs off vs cs1] [hl : LenIs vs size] [hr : FillAt places cs1 r cs2] : FillAt places cs ((i, v) :: r) cs2 := ⟨by
  have hlen : v.cells.size = size := by rw [← Array.length_toList, hv.eq, hl.eq]
  have hle := hq.le
  have hne : ¬ ((decide (v.cells.size ≠ size) || decide (off + v.cells.size > cs.toArray.size)) = true) := by
    simp [hlen]
    rw [← hl.eq]; omega
  simp only [Instr.fill, hp.at']
  rw [if_neg hne]
  have hz : v.cells.zipIdx.foldl (fun cs (x : Value × Nat) => cs.setIfInBounds (off + x.2) x.1) cs.toArray = cs1.toArray := by
    have e : v.cells = vs.toArray := by rw [← hv.eq]
    rw [e]
    have := fold_putL vs cs off 0 (by omega)
    rw [← hq.eq]
    simpa using this
  rw [hz]
  exact hr.eq⟩
end Go.Proofs.YtebajiafdkokjaaDoor

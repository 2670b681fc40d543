/- Texts joined: Core Data Step More. -/
import Derived.BigQuiet
import Derived.Deep.MidRow
import Derived.Deep.Quiet
import Derived.Great.BuildSlice
import Derived.Laws.OwnMore
import Derived.OrdersIn
import Derived.RangeFuncCalls
import Derived.TacticsIn
import Derived.WalkKit
namespace Go.Proofs.YtdbljcahlpkgdaaDoor
open Go Go.RowKit
def FW (ro : Option Nat) : Fence:={ fn:=fun _=>True,depth:=none,alive:=false,round:=ro }
structure Fr (N : Nat) (ds : List Deferred) (L : List (Nat × Value)) (a : Act) : Prop where
 size : a.tmps.size = N
 defers : a.defers = ds
 slot : ∀ p ∈ L,a.tmps[p.1]? = some p.2
section
variable {N : Nat} {ds : List Deferred} {L : List (Nat × Value)} {a : Act}
theorem Fr.put (h : Fr N ds L a) {d : Nat} (hd : d.blt N = true) (v : Value) (hne : ∀ p ∈ L,¬ p.1 = d) : Fr N ds ((d,v)::L) (a.put (some d) v):=by
 have hd : d < N:=by simpa using hd
 refine ⟨by simp [Act.put,h.size],by simpa [Act.put] using h.defers,fun p hp=>?_⟩
 rcases List.mem_cons.1 hp with rfl|hp
 ·simp [Act.put,h.size,hd]
 ·have h1:=hne p hp
  simp only [Act.put]
  rw [Array.getElem?_setIfInBounds,if_neg (by omega)]
  exact h.slot p hp
def allIn (L : List (Nat × Value)) : List (Nat × Value)→Prop
 | []=>True
 | p::r=>L.lookup p.1 = some p.2∧allIn L r
theorem mem_of_lookup {L : List (Nat × Value)} {s : Nat} {v : Value} (h : L.lookup s = some v) : (s,v) ∈ L:=by
 induction L with
 | nil=>simp [List.lookup] at h
 | cons p r ih =>
  obtain ⟨k,u⟩:=p
  simp only [List.lookup_cons] at h
  by_cases e : s = k
  ·subst e
   simp at h
   subst h; simp
  ·have : (s == k) = false:=by simpa using e
   simp only [this] at h
   exact List.mem_cons_of_mem _ (ih h)
theorem Fr.to (h : Fr N ds L a) {L' : List (Nat × Value)} (hs : allIn L L') : Fr N ds L' a:=by
 refine ⟨h.size,h.defers,fun p hp=>?_⟩
 induction L' with
 | nil=>simp at hp
 | cons q r ih =>
  obtain ⟨h1,h2⟩:=hs
  rcases List.mem_cons.1 hp with rfl|hp
  ·exact h.slot p (mem_of_lookup h1)
  ·exact ih h2 hp
end
structure Chg (S : Nat→Prop) (w w' : World) : Prop where
 os : w'.os = w.os
 tape : w'.tape = w.tape
 output : w'.output = w.output
 size : w.heap.size ≤ w'.heap.size
 block : ∀ k,k < w.heap.size→¬ S k→w'.heap[k]? = w.heap[k]?
def NoS : Nat→Prop:=fun _=>False
theorem Chg.refl (S : Nat→Prop) (w : World) : Chg S w w:=⟨rfl,rfl,rfl,Nat.le_refl _,fun _ _ _=>rfl⟩
theorem Chg.trans {S : Nat→Prop} {a b c : World} (h : Chg S a b) (k : Chg S b c) : Chg S a c :=
 ⟨k.os.trans h.os,k.tape.trans h.tape,k.output.trans h.output,Nat.le_trans h.size k.size,fun i hi hS=>(k.block i (by have:=h.size; omega) hS).trans (h.block i hi hS)⟩
theorem Chg.mono {S T : Nat→Prop} {w w' : World} (h : Chg S w w') (hs : ∀ b,b < w.heap.size→S b→T b) : Chg T w w' :=
 ⟨h.os,h.tape,h.output,h.size,fun k hk hT=>h.block k hk fun hS=>hT (hs k hk hS)⟩
theorem Chg.below {w w' : World} (h : Chg NoS w w') : Below w.heap.size w w':=⟨h.os,h.tape,h.output,h.size,fun k hk=>h.block k hk (fun h=>h)⟩
theorem Chg.heap {w w' : World} (ho : w'.os = w.os) (ht : w'.tape = w.tape) (hp : w'.output = w.output) (h : w'.heap = w.heap) (S : Nat→Prop) : Chg S w w':=⟨ho,ht,hp,by rw [h]; exact Nat.le_refl _,fun _ _ _=>by rw [h]⟩
theorem Chg.alloc (w : World) (o : Obj) (S : Nat→Prop) : Chg S w (w.alloc o):=⟨rfl,rfl,rfl,by simp,fun k hk _=>Below.heap_alloc w o k hk⟩
theorem Chg.setCell (w : World) (p : Addr) (v : Value) : Chg (fun b=>b = p.block) w (w.setCell p v) :=
 ⟨rfl,rfl,rfl,by simp [World.setCell],fun k _ hk=>Below.heap_setCell w p v k hk⟩
structure Ent where
 fp : Nat→Prop
 ok : World→Prop
def Ent.box (b : Nat) (cs : List Value) (t : TypeId) : Ent:=⟨fun k=>k = b,fun w=>w.heap[b]? = some (.cells cs.toArray t (0,0))⟩
def fps (H : List Ent) : Nat→Prop:=fun b=>∃ e ∈ H,e.fp b
structure Wd (S : Nat→Prop) (w0 : World) (H : List Ent) (w : World) : Prop where
 chg : Chg S w0 w
 own : ∀ e ∈ H,∀ b,e.fp b→(S b ∨ w0.heap.size ≤ b)∧b < w.heap.size
 ok : ∀ e ∈ H,∀ w' : World,w.heap.size ≤ w'.heap.size→(∀ b,e.fp b→w'.heap[b]? = w.heap[b]?)→e.ok w'
 apart : H.Pairwise fun e f=>∀ b,e.fp b→¬ f.fp b
section
variable {S : Nat→Prop} {w0 w w' : World} {H H1 H' E : List Ent}
theorem Wd.nil (S : Nat→Prop) (w : World) : Wd S w [] w:=⟨Chg.refl _ _,by simp,by simp,by simp⟩
theorem Wd.get (h : Wd S w0 H w) {k : Nat} {e : Ent} (hk : H[k]? = some e) : e.ok w:=h.ok e (List.mem_of_getElem? hk) w (Nat.le_refl _) fun _ _=>rfl
theorem Wd.size (h : Wd S w0 H w) : w0.heap.size ≤ w.heap.size:=h.chg.size
theorem Wd.sub (h : Wd S w0 H w) (hs : H'.Sublist H) : Wd S w0 H' w :=
 ⟨h.chg,fun e he=>h.own e (hs.subset he),fun e he=>h.ok e (hs.subset he),h.apart.sublist hs⟩
theorem Wd.perm (h : Wd S w0 H w) (hp : H.Perm H') : Wd S w0 H' w :=
 ⟨h.chg,fun e he=>h.own e (hp.mem_iff.2 he),fun e he=>h.ok e (hp.mem_iff.2 he),
  (hp.pairwise_iff (fun hxy b hy hx=>hxy b hx hy)).1 h.apart⟩
theorem Wd.pre (h : Wd S w0 (H1++H) w) : Wd (fps H1) w H1 w :=
 ⟨Chg.refl _ _,fun e he b hb=>⟨.inl ⟨e,he,hb⟩,(h.own e (List.mem_append_left _ he) b hb).2⟩,fun e he=>h.ok e (List.mem_append_left _ he),(List.pairwise_append.1 h.apart).1⟩
theorem Wd.comp (h : Wd S w0 (H1++H) w) (hc : Wd (fps H1) w E w') : Wd S w0 (E++H) w':=by
 have hS : ∀ b,fps H1 b→S b ∨ w0.heap.size ≤ b:=fun b ⟨e,he,hb⟩=>(h.own e (List.mem_append_left _ he) b hb).1
 have hap:=(List.pairwise_append.1 h.apart)
 have hsz:=h.chg.size
 have hsz':=hc.chg.size
 have keep : ∀ f ∈ H,∀ b,f.fp b→w'.heap[b]? = w.heap[b]?:=fun f hf b hb =>
  hc.chg.block b (h.own f (List.mem_append_right _ hf) b hb).2 fun ⟨e,he,heb⟩=>hap.2.2 e he f hf b heb hb
 refine ⟨⟨hc.chg.os.trans h.chg.os,hc.chg.tape.trans h.chg.tape,hc.chg.output.trans h.chg.output,Nat.le_trans hsz hsz',fun k hk hnS=>?_⟩,?_,?_,?_⟩
 ·exact (hc.chg.block k (by omega) fun hf=>(hS k hf).elim hnS fun h1=>by omega).trans (h.chg.block k hk hnS)
 ·intro e he b hb
  rcases List.mem_append.1 he with he|he
  ·have h1:=hc.own e he b hb
   exact ⟨h1.1.elim (hS b) fun h2=>.inr (by omega),h1.2⟩
  ·have h1:=h.own e (List.mem_append_right _ he) b hb
   exact ⟨h1.1,by omega⟩
 ·intro e he w2 hs2 hw2
  rcases List.mem_append.1 he with he|he
  ·exact hc.ok e he w2 hs2 hw2
  ·exact h.ok e (List.mem_append_right _ he) w2 (Nat.le_trans hsz' hs2) fun b hb=>(hw2 b hb).trans (keep e he b hb)
 ·refine List.pairwise_append.2 ⟨hc.apart,hap.2.1,fun e he f hf b hb hfb=>?_⟩
  have hlt:=(h.own f (List.mem_append_right _ hf) b hfb).2
  rcases (hc.own e he b hb).1 with ⟨g,hg,hgb⟩|h1
  ·exact hap.2.2 g hg f hf b hgb hfb
  ·omega
theorem Wd.same (h : Wd S w0 H w) (ho : w'.os = w.os) (ht : w'.tape = w.tape) (hp : w'.output = w.output) (hh : w'.heap = w.heap) : Wd S w0 H w' :=
 ⟨h.chg.trans (Chg.heap ho ht hp hh S),by rw [hh]; exact h.own,fun e he w2 hs2 hw2=>h.ok e he w2 (by rw [hh] at hs2; exact hs2) (by rw [hh] at hw2; exact hw2),h.apart⟩
theorem Wd.more (h : Wd S w0 H w) (hc : Wd NoS w E w') : Wd S w0 (E++H) w':=by
 refine Wd.comp (H1:=[]) h ⟨hc.chg.mono (fun b _ hb=>hb.elim),fun e he b hb=>?_,hc.ok,hc.apart⟩
 have:=hc.own e he b hb
 exact ⟨.inr (this.1.elim (fun h=>h.elim) id),this.2⟩
theorem Wd.call (h : Wd S w0 H w) (hc : Chg NoS w w') : Wd S w0 H w' :=
 Wd.more (E:=[]) h ⟨hc,by simp,by simp,by simp⟩
theorem Wd.box (h : Wd S w0 H w) (cs : List Value) (t : TypeId) : Wd S w0 (Ent.box w.heap.size cs t::H) (w.alloc (.cells cs.toArray t)):=by
 refine Wd.more (E:=[Ent.box w.heap.size cs t]) h ⟨Chg.alloc _ _ _,?_,?_,by simp⟩
 ·intro e he b hb
  simp only [List.mem_singleton] at he
  subst he
  simp only [Ent.box] at hb
  subst hb
  exact ⟨.inr (Nat.le_refl _),by simp⟩
 ·intro e he w2 _ hw2
  simp only [List.mem_singleton] at he
  subst he
  have:=hw2 w.heap.size rfl
  simp only [Ent.box]
  rw [this]
  exact heap_alloc_new w _
theorem wd_one {e e' : Ent} (hc : Chg e.fp w w') (ho : ∀ b,e'.fp b→(e.fp b ∨ w.heap.size ≤ b)∧b < w'.heap.size) (hok : ∀ w2 : World,(∀ b,e'.fp b→w2.heap[b]? = w'.heap[b]?)→e'.ok w2) : Wd (fps [e]) w [e'] w':=by
 refine ⟨hc.mono fun b _ hb=>⟨e,by simp,hb⟩,?_,?_,by simp⟩
 ·intro f hf b hb
  simp only [List.mem_singleton] at hf
  subst hf
  have:=ho b hb
  exact ⟨this.1.imp (fun h=>⟨e,by simp,h⟩) id,this.2⟩
 ·intro f hf
  simp only [List.mem_singleton] at hf
  subst hf
  exact fun w2 _ h=>hok w2 h
theorem Wd.turn {e e' : Ent} (h : Wd S w0 (e::H) w) (hc : Chg e.fp w w') (ho : ∀ b,e'.fp b→(e.fp b ∨ w.heap.size ≤ b)∧b < w'.heap.size) (hok : ∀ w2 : World,(∀ b,e'.fp b→w2.heap[b]? = w'.heap[b]?)→e'.ok w2) : Wd S w0 (e'::H) w' :=
 Wd.comp (H1:=[e]) (E:=[e']) h (wd_one hc ho hok)
theorem perm_set {α : Type} {l : List α} {k : Nat} {e : α} (h : l[k]? = some e) (e' : α) : (e'::l.eraseIdx k).Perm (l.set k e'):=by
 induction l generalizing k with
 | nil=>simp at h
 | cons x r ih =>
  cases k with
  | zero=>simp
  | succ k =>
   simp only [List.getElem?_cons_succ] at h
   simp only [List.eraseIdx_cons_succ,List.set_cons_succ]
   exact (List.Perm.swap x e' _).trans ((ih h).cons x)
theorem perm_pull {α : Type} {l : List α} {k : Nat} {e : α} (h : l[k]? = some e) : l.Perm (e::l.eraseIdx k):=by
 have:=perm_set h e
 have hs : l.set k e = l:=by
  apply List.ext_getElem?
  intro i
  rw [List.getElem?_set]
  split
  ·rename_i hi; subst hi; split
   ·exact h.symm
   ·rename_i hlt; rw [List.getElem?_eq_none (by omega)]
  ·rfl
 rw [hs] at this
 exact this.symm
theorem Wd.turnAt {k : Nat} {e e' : Ent} (h : Wd S w0 H w) (hk : H[k]? = some e) (hc : Chg e.fp w w') (ho : ∀ b,e'.fp b→(e.fp b ∨ w.heap.size ≤ b)∧b < w'.heap.size) (hok : ∀ w2 : World,(∀ b,e'.fp b→w2.heap[b]? = w'.heap[b]?)→e'.ok w2) : Wd S w0 (H.set k e') w' :=
 ((h.perm (perm_pull hk)).turn hc ho hok).perm (perm_set hk e')
theorem Wd.cellOld (h : Wd S w0 H w) {p : Addr} {v : Value} (hc : w0.cell? p = some v) (hS : ¬ S p.block:=by exact fun h=>h) : w.cell? p = some v:=by
 have hlt:=World.block_lt_of_cell? w0 p hc
 rw [← hc]
 exact World.cell?_of_block (h.chg.block _ hlt hS)
theorem Wd.cellBox (h : Wd S w0 H w) (k : Nat) {b o : Nat} {cs : List Value} {t : TypeId} {v : Value} (hk : H[k]? = some (Ent.box b cs t)) (hc : cs[o]? = some v) : w.cell? ⟨b,o,none⟩ = some v:=by
 have:=h.get hk
 simp only [Ent.box] at this
 simp [World.cell?,this,hc]
theorem Wd.boxAt (h : Wd S w0 H w) (k : Nat) {b : Nat} {cs : List Value} {t : TypeId} (hk : H[k]? = some (Ent.box b cs t)) : w.heap[b]? = some (.cells cs.toArray t (0,0)):=h.get hk
theorem heap_set_same {w : World} {b o : Nat} {cs : List Value} {t : TypeId} (hb : w.heap[b]? = some (.cells cs.toArray t (0,0))) (v : Value) :
  (w.setCell ⟨b,o,none⟩ v).heap[b]? = some (.cells (cs.set o v).toArray t (0,0)):=by
 simp [World.setCell,Array.getElem?_modify,hb]
theorem Wd.setBox (h : Wd S w0 H w) (k : Nat) {b o : Nat} {cs : List Value} {t : TypeId} (v : Value) (hk : H[k]? = some (Ent.box b cs t)) :
  Wd S w0 (H.set k (Ent.box b (cs.set o v) t)) (w.setCell ⟨b,o,none⟩ v):=by
 have hb:=h.boxAt k hk
 have hlt : b < w.heap.size:=(Array.getElem?_eq_some_iff.1 hb).1
 refine h.turnAt hk (Chg.setCell w ⟨b,o,none⟩ v) (fun b' hb'=>?_) fun w2 hw2=>?_
 ·simp only [Ent.box] at hb' ⊢
  subst hb'
  exact ⟨.inl rfl,by simpa [World.setCell] using hlt⟩
 ·have:=hw2 b rfl
  simp only [Ent.box]
  rw [this]
  exact heap_set_same hb v
theorem Wd.rowBox (h : Wd S w0 H w) (k : Nat) {b : Nat} {cs : List Value} {t : TypeId} (vs : List Value) (hk : H[k]? = some (Ent.box b cs t)) :
  Wd S w0 (H.set k (Ent.box b vs t)) (w.setRow b vs.toArray):=by
 have hb:=h.boxAt k hk
 have hlt : b < w.heap.size:=(Array.getElem?_eq_some_iff.1 hb).1
 have hsz : (w.setRow b vs.toArray).heap.size = w.heap.size:=by simp [World.setRow]
 refine h.turnAt hk ⟨rfl,rfl,rfl,by rw [hsz]; exact Nat.le_refl _,fun k _ hk=>setRow_other w b k _ hk⟩ (fun b' hb'=>?_) fun w2 hw2=>?_
 ·simp only [Ent.box] at hb' ⊢
  subst hb'
  exact ⟨.inl rfl,by rw [hsz]; exact hlt⟩
 ·have:=hw2 b rfl
  simp only [Ent.box]
  rw [this]
  exact setRow_heap w b cs.toArray _ t _ hb
end
class ListAt {α : Type} (l : List α) (k : Nat) (x : outParam α) : Prop where
 at' : l[k]? = some x
instance {α : Type} (x : α) (l : List α) : ListAt (x::l) 0 x:=⟨rfl⟩
instance {α : Type} (x y : α) (l : List α) (k : Nat) [h : ListAt l k x] : ListAt (y::l) (k + 1) x:=⟨h.at'⟩
class SetAt {α : Type} (l : List α) (k : Nat) (x : α) (l' : outParam (List α)) : Prop where
 set' : l.set k x = l'
instance {α : Type} (x y : α) (l : List α) : SetAt (y::l) 0 x (x::l):=⟨rfl⟩
instance {α : Type} (x y : α) (l l' : List α) (k : Nat) [h : SetAt l k x l'] : SetAt (y::l) (k + 1) x (y::l'):=⟨by rw [List.set_cons_succ,h.set']⟩
class LenIs {α : Type} (l : List α) (n : Nat) : Prop where
 eq : l.length = n
instance {α : Type} : LenIs ([] : List α) 0:=⟨rfl⟩
instance {α : Type} (x : α) (l : List α) (n : Nat) [h : LenIs l n] : LenIs (x::l) (n + 1):=⟨by rw [List.length_cons,h.eq]⟩
class BoxIn (H : List Ent) (b : Nat) (k : outParam Nat) (cs : outParam (List Value)) (t : outParam TypeId) : Prop where
 at' : H[k]? = some (Ent.box b cs t)
instance (b : Nat) (cs : List Value) (t : TypeId) (H : List Ent) : BoxIn (Ent.box b cs t::H) b 0 cs t:=⟨rfl⟩
instance (b : Nat) (cs : List Value) (t : TypeId) (H : List Ent) (e : Ent) (k : Nat) [h : BoxIn H b k cs t] : BoxIn (e::H) b (k + 1) cs t:=⟨h.at'⟩
class CellsOf (v : Value) (cs : outParam (List Value)) : Prop where
 eq : v.cells.toList = cs
instance (l : List Value) : CellsOf (.agg l.toArray) l:=⟨rfl⟩
instance (b : Bool) : CellsOf (.bool b) [.bool b]:=⟨rfl⟩
instance (k : IntKind) (n : Int) : CellsOf (.int k n) [.int k n]:=⟨rfl⟩
instance (s : ByteArray) : CellsOf (.string s) [.string s]:=⟨rfl⟩
instance (p : Option Addr) : CellsOf (.pointer p) [.pointer p]:=⟨rfl⟩
instance (p : Option Addr) (n c : Nat) : CellsOf (.slice p n c) [.slice p n c]:=⟨rfl⟩
instance : CellsOf .nilFunc [.nilFunc]:=⟨rfl⟩
def putL : List Value→Nat→List Value→List Value
 | cs,_,[]=>cs
 | [],_,_::_=>[]
 | _::cs,0,v::vs=>v::putL cs 0 vs
 | c::cs,o + 1,v::vs=>c::putL cs o (v::vs)
class PutAt (cs : List Value) (o : Nat) (vs : List Value) (cs' : outParam (List Value)) : Prop where
 eq : putL cs o vs = cs'
 le : o + vs.length ≤ cs.length
instance (cs : List Value) : PutAt cs 0 [] cs:=⟨by cases cs <;> rfl,by simp⟩
instance (c v : Value) (cs vs cs' : List Value) [h : PutAt cs 0 vs cs'] : PutAt (c::cs) 0 (v::vs) (v::cs'):=⟨by simp only [putL,h.eq],by have:=h.le; simp at this ⊢; omega⟩
instance (c v : Value) (cs vs cs' : List Value) (o : Nat) [h : PutAt cs o (v::vs) cs'] : PutAt (c::cs) (o + 1) (v::vs) (c::cs'):=⟨by simp only [putL,h.eq],by have:=h.le; simp at this ⊢; omega⟩
theorem putL_eq : ∀ (cs : List Value) (o : Nat) (vs : List Value),o + vs.length ≤ cs.length→cs.take o++vs++cs.drop (o + vs.length) = putL cs o vs
 | [],o,[],h=>by simp [putL]
 | c::cs,o,[],h=>by simp [putL]
 | [],_,_::_,h=>by simp at h
 | c::cs,0,v::vs,h=>by
  have:=putL_eq cs 0 vs (by simp at h ⊢; omega)
  simp [putL] at this ⊢
  exact this
 | c::cs,o + 1,v::vs,h=>by
  have:=putL_eq cs o (v::vs) (by simp at h ⊢; omega)
  simp only [putL]
  rw [← this]
  have e : o + 1 + (v::vs).length = (o + (v::vs).length) + 1:=by omega
  rw [e]
  simp
class FillAt (places : List (Nat × Nat)) (cs : List Value) (parts : List (Nat × Value)) (cs' : outParam (List Value)) : Prop where
 eq : Instr.fill (fun i=>places[i]?) cs.toArray parts = some cs'.toArray
theorem fold_putL : ∀ (vs : List Value) (cs : List Value) (o j : Nat),o + j + vs.length ≤ cs.length →
  (vs.zipIdx j).foldl (fun (a : Array Value) (p : Value × Nat)=>a.setIfInBounds (o + p.2) p.1) cs.toArray = (putL cs (o + j) vs).toArray
 | [],cs,o,j,_=>by cases cs <;> simp [putL]
 | v::vs,cs,o,j,hl=>by
  simp only [List.zipIdx_cons,List.foldl_cons]
  rw [show cs.toArray.setIfInBounds (o + j) v = (cs.set (o + j) v).toArray by simp]
  rw [fold_putL vs (cs.set (o + j) v) o (j + 1) (by simp at hl ⊢; omega)]
  congr 1
  have key : ∀ (cs : List Value) (k : Nat),k + (v::vs).length ≤ cs.length→putL (cs.set k v) (k + 1) vs = putL cs k (v::vs):=by
   intro cs
   induction cs with
   | nil=>intro k hk; simp at hk
   | cons c cs ih =>
    intro k hk
    cases k with
    | zero =>
     cases vs with
     | nil=>cases cs <;> simp [putL]
     | cons u us=>simp [putL]
    | succ k =>
     cases vs with
     | nil =>
      have:=ih k (by simp at hk ⊢; omega)
      simp only [List.set_cons_succ,putL]
      rw [← this]
      cases cs.set k v <;> simp [putL]
     | cons u us =>
      have:=ih k (by simp at hk ⊢; omega)
      simp only [List.set_cons_succ,putL]
      rw [← this]
  exact key cs (o + j) (by simp at hl ⊢; omega)
instance (places : List (Nat × Nat)) (cs : List Value) : FillAt places cs [] cs:=⟨rfl⟩
instance (places : List (Nat × Nat)) (cs vs cs1 cs2 : List Value) (i off size : Nat) (v : Value) (r : List (Nat × Value)) [hp : ListAt places i (off,size)] [hv : CellsOf v vs] [hq : PutAt cs off vs cs1] [hl : LenIs vs size] [hr : FillAt places cs1 r cs2] : FillAt places cs ((i,v)::r) cs2:=⟨by
 have hlen : v.cells.size = size:=by rw [← Array.length_toList,hv.eq,hl.eq]
 have hle:=hq.le
 have hne : ¬ ((decide (v.cells.size ≠ size) || decide (off + v.cells.size > cs.toArray.size)) = true):=by
  simp [hlen]
  rw [← hl.eq]; omega
 simp only [Instr.fill,hp.at']
 rw [if_neg hne]
 have hz : v.cells.zipIdx.foldl (fun cs (x : Value × Nat)=>cs.setIfInBounds (off + x.2) x.1) cs.toArray = cs1.toArray:=by
  have e : v.cells = vs.toArray:=by rw [← hv.eq]
  rw [e]
  have:=fold_putL vs cs off 0 (by omega)
  rw [← hq.eq]
  simpa using this
 rw [hz]
 exact hr.eq⟩
structure LVal where
 reg : Bool
 n : Int
 deriving DecidableEq
structure LIns where
 op : Int
 dst : Int
 a : LVal
 b : LVal
 fn : Int
 args : List LVal
 deriving DecidableEq
structure LPhi where
 dst : Int
 src : List LVal
 deriving DecidableEq
structure LBlock where
 phis : List LPhi
 list : List LIns
 kind : Int
 on : LVal
 to : List Int
 deriving DecidableEq
structure LFunc where
 name : ByteArray
 params : Int
 regs : Int
 blocks : List LBlock
structure LGlobal where
 name : ByteArray
 size : Int
 init : List Int
structure LUnit where
 globals : List LGlobal
 funcs : List LFunc
def inI (x : Int) : Prop:=-9223372036854775808 ≤ x∧x ≤ 9223372036854775807
def CellsAt (w : World) (b o : Nat) (cs : List Value) : Prop:=∀ j v,cs[j]? = some v→w.cell? ⟨b,o + j,none⟩ = some v
def SlAt {α : Type} (w : World) (v : Value) (s : Nat) (l : List α) (V : World→α→List Value→Prop) : Prop :=
 ∃ (a : Option Addr) (n c b o : Nat),v = .slice a n c∧n = l.length∧n ≤ c∧n ≤ 140737488355328∧c ≤ 9223372036854775807∧(l ≠ []→a = some ⟨b,o,none⟩)∧∀ i x,l[i]? = some x→∃ cs,CellsAt w b (o + i * s) cs∧V w x cs
def IntV (_ : World) (x : Int) (cs : List Value) : Prop:=cs = [.int .i64 x]∧inI x
def StrV (_ : World) (x : ByteArray) (cs : List Value) : Prop:=cs = [.string x]
def ValV (_ : World) (x : LVal) (cs : List Value) : Prop:=cs = [.bool x.reg,.int .i64 x.n]∧inI x.n
def PhiV (w : World) (x : LPhi) (cs : List Value) : Prop:=∃ v,cs = [.int .i64 x.dst,v]∧inI x.dst∧SlAt w v 2 x.src ValV
def InsV (w : World) (x : LIns) (cs : List Value) : Prop:=∃ v,cs = [.int .i64 x.op,.int .i64 x.dst,.bool x.a.reg,.int .i64 x.a.n,.bool x.b.reg,.int .i64 x.b.n,.int .i64 x.fn,v] ∧
 inI x.op∧inI x.dst∧inI x.a.n∧inI x.b.n∧inI x.fn∧SlAt w v 2 x.args ValV
def BlockV (w : World) (x : LBlock) (cs : List Value) : Prop:=∃ p l t,cs = [p,l,.int .i64 x.kind,.bool x.on.reg,.int .i64 x.on.n,t]∧inI x.kind∧inI x.on.n ∧
 SlAt w p 2 x.phis PhiV∧SlAt w l 8 x.list InsV∧SlAt w t 1 x.to IntV
def FuncV (w : World) (x : LFunc) (cs : List Value) : Prop:=∃ v,cs = [.string x.name,.int .i64 x.params,.int .i64 x.regs,v]∧inI x.params∧inI x.regs∧SlAt w v 6 x.blocks BlockV
def GlobalV (w : World) (x : LGlobal) (cs : List Value) : Prop:=∃ v,cs = [.string x.name,.int .i64 x.size,v]∧inI x.size∧SlAt w v 1 x.init IntV
def UnitV (w : World) (x : LUnit) (cs : List Value) : Prop:=∃ g f,cs = [g,f]∧SlAt w g 3 x.globals GlobalV∧SlAt w f 4 x.funcs FuncV
theorem cell_keep {w w' : World} (h : Chg NoS w w') {p : Addr} {v : Value} (hc : w.cell? p = some v) : w'.cell? p = some v:=by
 rw [← hc]
 exact World.cell?_of_block (h.block _ (World.block_lt_of_cell? w p hc) fun h=>h)
theorem CellsAt.keep {w w' : World} (h : Chg NoS w w') {b o : Nat} {cs : List Value} (hc : CellsAt w b o cs) : CellsAt w' b o cs:=fun j v hj=>cell_keep h (hc j v hj)
def Keeps {α : Type} (V : World→α→List Value→Prop) : Prop:=∀ w w',Chg NoS w w'→∀ x cs,V w x cs→V w' x cs
theorem SlAt.keep {α : Type} {V : World→α→List Value→Prop} (hV : Keeps V) {w w' : World} (h : Chg NoS w w') {v : Value} {s : Nat} {l : List α} (hs : SlAt w v s l V) : SlAt w' v s l V:=by
 obtain ⟨a,n,c,b,o,h1,h2,h3,hz,h4,h5,h6⟩:=hs
 refine ⟨a,n,c,b,o,h1,h2,h3,hz,h4,h5,fun i x hx=>?_⟩
 obtain ⟨cs,hc,hv⟩:=h6 i x hx
 exact ⟨cs,hc.keep h,hV w w' h x cs hv⟩
theorem keeps_int : Keeps IntV:=fun _ _ _ _ _ h=>h
theorem keeps_str : Keeps StrV:=fun _ _ _ _ _ h=>h
theorem keeps_val : Keeps ValV:=fun _ _ _ _ _ h=>h
theorem keeps_phi : Keeps PhiV:=fun _ _ hc _ _ ⟨v,h1,h2,h3⟩=>⟨v,h1,h2,h3.keep keeps_val hc⟩
theorem keeps_ins : Keeps InsV:=fun _ _ hc _ _ ⟨v,h1,h2,h3,h4,h5,h6,h7⟩=>⟨v,h1,h2,h3,h4,h5,h6,h7.keep keeps_val hc⟩
theorem keeps_block : Keeps BlockV:=fun _ _ hc _ _ ⟨p,l,t,h1,h2,h3,h4,h5,h6⟩=>⟨p,l,t,h1,h2,h3,h4.keep keeps_phi hc,h5.keep keeps_ins hc,h6.keep keeps_int hc⟩
theorem keeps_func : Keeps FuncV:=fun _ _ hc _ _ ⟨v,h1,h2,h3,h4⟩=>⟨v,h1,h2,h3,h4.keep keeps_block hc⟩
theorem keeps_global : Keeps GlobalV:=fun _ _ hc _ _ ⟨v,h1,h2,h3⟩=>⟨v,h1,h2,h3.keep keeps_int hc⟩
structure St (N : Nat) (ds : List Deferred) (S : Nat→Prop) (w0 : World) (L : List (Nat × Value)) (H : List Ent) (a : Act) (w : World) : Prop where
 fr : Fr N ds L a
 wd : Wd S w0 H w
def G (N : Nat) (ds : List Deferred) (S : Nat→Prop) (w0 : World) (L : List (Nat × Value)) (H : List Ent) (p : Act→World→Prop) : Prop:=∀ a w,St N ds S w0 L H a w→p a w
class FieldOff (P : Program) (T i : Nat) (off : outParam Nat) : Prop where
 run : ∀ (b o : Nat) (w : World),(Instr.fieldAt T (.pointer (some ⟨b,o,none⟩)) i).run P w = .ok (.pointer (some ⟨b,o + off,none⟩)) w
class ElemSize (P : Program) (T : Nat) (s : outParam Nat) : Prop where
 und : P.underlying T = some (.slice (P.elem T))
 sz : ∀ w : World,(sizeOf (P.elem T)).run P w = .ok s w
class OneCell (P : Program) (T : Nat) : Prop where
 agg : ∀ w : World,(isAgg T).run P w = .ok false w
 sz : ∀ w : World,(sizeOf T).run P w = .ok 1 w
class AggSize (P : Program) (T : Nat) (n : outParam Nat) : Prop where
 agg : ∀ w : World,(isAgg T).run P w = .ok true w
 sz : ∀ w : World,(sizeOf T).run P w = .ok n w
class ZeroVal (P : Program) (T : Nat) (z : outParam Value) : Prop where
 run : ∀ w : World,(zeroValue T).run P w = .ok z w
class EnterOk (P : Program) (f : Nat) : Prop where
 run : ∀ (args : Array Value) (w : World),(callFunc f args).run P w = .ok (.enter f args) w
class StructAt (P : Program) (T : Nat) (zs : outParam (List Value)) (places : outParam (List (Nat × Nat))) : Prop where
 built : ∀ parts cells,Instr.fill (fun i=>places[i]?) zs.toArray parts = some cells→P.built T parts = some cells
class EqVal (P : Program) (T : Nat) (u v : Value) (r : outParam Bool) : Prop where
 grd : ∀ op x y w,(eqGuard op T x y u v).run P w = .ok () w
 eq : ∀ w : World,(binOp .eql T u v).run P w = .ok (.bool r) w
 ne : ∀ w : World,(binOp .neq T u v).run P w = .ok (.bool (!r)) w
class CellIs (w : World) (b o : Nat) (v : outParam Value) : Prop where
 eq : w.cell? ⟨b,o,none⟩ = some v
class CellsIs (w : World) (b o : Nat) (cs : outParam (List Value)) : Prop where
 eq : CellsAt w b o cs
instance (priority:=high) {w : World} {b o j : Nat} {cs : List Value} {v : Value} [h : CellsIs w b o cs] [hv : ListAt cs j v] : CellIs w b (o + j) v:=⟨h.eq j v hv.at'⟩
instance {w : World} {b o : Nat} {cs : List Value} {v : Value} [h : CellsIs w b o cs] [hv : ListAt cs 0 v] : CellIs w b o v:=⟨h.eq 0 v hv.at'⟩
class AddrIs (a : Option Addr) (b o : outParam Nat) : Prop where
 eq : a = some ⟨b,o,none⟩
instance (b o : Nat) : AddrIs (some ⟨b,o,none⟩) b o:=⟨rfl⟩
class LtIs (i n : Nat) : Prop where
 lt : i < n
class NatIs (x : Int) (i : outParam Nat) : Prop where
 eq : x = (i : Int)
instance (i : Nat) : NatIs (i : Int) i:=⟨rfl⟩
instance : NatIs 0 0:=⟨rfl⟩
instance : NatIs 1 1:=⟨rfl⟩
class AddN (o k : Nat) (s : outParam Nat) : Prop where
 eq : o + k = s
instance (priority:=2000) (o : Nat) : AddN o 0 o:=⟨rfl⟩
instance (priority:=1900) (k : Nat) : AddN 0 k k:=⟨Nat.zero_add k⟩
instance (priority:=3000) : AddN 2 1 3:=⟨rfl⟩
instance (priority:=3000) : AddN 2 2 4:=⟨rfl⟩
instance (priority:=3000) : AddN 2 3 5:=⟨rfl⟩
instance (priority:=2500) (o : Nat) : AddN (o + 2) 3 (o + 5):=⟨rfl⟩
instance (priority:=2500) (o : Nat) : AddN (o + 6) 1 (o + 7):=⟨rfl⟩
instance (o k : Nat) : AddN o k (o + k):=⟨rfl⟩
class NotIs (b : Bool) (c : outParam Bool) : Prop where
 eq : (!b) = c
instance (priority:=2000) : NotIs true false:=⟨rfl⟩
instance (priority:=2000) : NotIs false true:=⟨rfl⟩
instance (b : Bool) : NotIs b (!b):=⟨rfl⟩
class SlotIs (L : List (Nat × Value)) (t : Nat) (v : outParam Value) : Prop where
 mem : (t,v) ∈ L
instance (t : Nat) (v : Value) (L : List (Nat × Value)) : SlotIs ((t,v)::L) t v:=⟨by simp⟩
instance (t : Nat) (v : Value) (p : Nat × Value) (L : List (Nat × Value)) [h : SlotIs L t v] : SlotIs (p::L) t v:=⟨List.mem_cons_of_mem _ h.mem⟩
class Ev (L : List (Nat × Value)) (x : Operand) (v : outParam Value) : Prop where
 eq : ∀ (N : Nat) (ds : List Deferred) (a : Act),Fr N ds L a→a.eval x = v
instance (L : List (Nat × Value)) (t : Nat) (v : Value) [h : SlotIs L t v] : Ev L (.tmp t) v:=⟨fun _ _ a hF=>by simp [Act.eval,Array.getD_eq_getD_getElem?,hF.slot _ h.mem]⟩
instance (L : List (Nat × Value)) (v : Value) : Ev L (.const v) v:=⟨fun _ _ _ _=>rfl⟩
instance (L : List (Nat × Value)) (g : Nat) : Ev L (.global g) (.pointer (some ⟨g,0,none⟩)):=⟨fun _ _ _ _=>rfl⟩
instance (L : List (Nat × Value)) (f : Nat) : Ev L (.func f) (.func (.func f) #[] #[]):=⟨fun _ _ _ _=>rfl⟩
class Evs (L : List (Nat × Value)) (xs : List Operand) (vs : outParam (List Value)) : Prop where
 eq : ∀ (N : Nat) (ds : List Deferred) (a : Act),Fr N ds L a→xs.map a.eval = vs
instance (L : List (Nat × Value)) : Evs L [] []:=⟨fun _ _ _ _=>rfl⟩
instance (L : List (Nat × Value)) (x : Operand) (v : Value) (xs : List Operand) (vs : List Value) [h : Ev L x v] [hs : Evs L xs vs] : Evs L (x::xs) (v::vs):=⟨fun N ds a hF=>by rw [List.map_cons,h.eq N ds a hF,hs.eq N ds a hF]⟩
class Evp (L : List (Nat × Value)) (xs : List (Nat × Operand)) (vs : outParam (List (Nat × Value))) : Prop where
 eq : ∀ (N : Nat) (ds : List Deferred) (a : Act),Fr N ds L a→xs.map (fun p=>(p.1,a.eval p.2)) = vs
instance (L : List (Nat × Value)) : Evp L [] []:=⟨fun _ _ _ _=>rfl⟩
instance (L : List (Nat × Value)) (i : Nat) (x : Operand) (v : Value) (xs : List (Nat × Operand)) (vs : List (Nat × Value)) [h : Ev L x v] [hs : Evp L xs vs] : Evp L ((i,x)::xs) ((i,v)::vs):=⟨fun N ds a hF=>by rw [List.map_cons,h.eq N ds a hF,hs.eq N ds a hF]⟩
class Stale (L : List (Nat × Value)) (d : Nat) (L' : outParam (List (Nat × Value))) : Prop where
 sub : ∀ p ∈ L',p ∈ L
instance (d : Nat) (u : Value) (L : List (Nat × Value)) : Stale ((d,u)::L) d L:=⟨fun _ h=>List.mem_cons_of_mem _ h⟩
instance (d : Nat) (p : Nat × Value) (L L' : List (Nat × Value)) [h : Stale L d L'] : Stale (p::L) d (p::L'):=⟨fun q hq=>by
 rcases List.mem_cons.1 hq with rfl|hq
 ·simp
 ·exact List.mem_cons_of_mem _ (h.sub q hq)⟩
section
variable {P : Program} {ro : Option Nat} {N : Nat} {ds : List Deferred} {S : Nat→Prop} {w0 : World} {L L' : List (Nat × Value)} {H H' : List Ent} {a : Act} {w : World}
 {ops : Array Oper} {rest : List Oper} {Q : Exit→Act→World→Prop} {p : Act→World→Prop}
theorem semAt_ne (ro : Option Nat) (ρ : Operand→Value) (o : Oper) (h : ∀ c,o.op ≠ .defer c) : o.semAt ro ρ = execOp ρ o:=Oper.semAt_eq ro ρ o h
theorem step_val {o : Oper} {v : Value} {w' : World} (hg : o.guard = none) (hnd : ∀ c,o.op ≠ .defer c) (hrun : (execOp a.eval o).run P w = .ok (.value v) w')
  (hk : wpListIn (FW ro) 0 P ops Q rest (a.put o.dst v) w') : wpListIn (FW ro) 0 P ops Q (o::rest) a w:=by
 refine wpListIn_plain hg fun K hK=>?_
 refine ⟨fun _ _=>trivial,?_⟩
 rw [semAt_ne _ _ _ hnd,hrun]
 exact hK _ _ hk
theorem step_skip {o : Oper} {w' : World} (hg : o.guard = none) (hnd : ∀ c,o.op ≠ .defer c) (hrun : (execOp a.eval o).run P w = .ok .skip w')
  (hk : wpListIn (FW ro) 0 P ops Q rest (a.put o.dst undef) w') : wpListIn (FW ro) 0 P ops Q (o::rest) a w:=by
 refine wpListIn_plain hg fun K hK=>?_
 refine ⟨fun _ _=>trivial,?_⟩
 rw [semAt_ne _ _ _ hnd,hrun]
 exact hK _ _ hk
class RunsC (P : Program) (N : Nat) (ds : List Deferred) (S : Nat→Prop) (w0 : World) (L : List (Nat × Value)) (H : List Ent) (op : Op) (v : outParam Value) : Prop where
 nd : ∀ c,op ≠ .defer c
 ns : ∀ cs b,op ≠ .select cs b
 run : ∀ (d : Option Tmp) (ty : Nat) (pos : String) (aft : Array Go.Edge) (gd : Option (Nat × Bool)) a w,Fr N ds L a→Wd S w0 H w→(execOp a.eval ⟨d,op,ty,pos,aft,gd⟩).run P w = .ok (.value v) w
section
variable {x y c : Operand}
instance {v : Value} [hx : Ev L x v] : RunsC P N ds S w0 L H (.move x) v:=⟨fun _ h=>(by cases h),fun _ _ h=>(by cases h),fun _ _ _ _ _ a w hF _=>by simp [execOp,hx.eq _ _ _ hF]⟩
instance {v : Value} [hx : Ev L x v] : RunsC P N ds S w0 L H (.assign x) v:=⟨fun _ h=>(by cases h),fun _ _ h=>(by cases h),fun _ _ _ _ _ a w hF _=>by simp [execOp,hx.eq _ _ _ hF]⟩
instance {v : Value} [hc : Ev L c (.bool true)] [hx : Ev L x v] : RunsC P N ds S w0 L H (.pick c x y) v:=⟨fun _ h=>(by cases h),fun _ _ h=>(by cases h),fun _ _ _ _ _ a w hF _=>by simp [execOp,hx.eq _ _ _ hF,hc.eq _ _ _ hF,asBool]⟩
instance {v : Value} [hc : Ev L c (.bool false)] [hx : Ev L y v] : RunsC P N ds S w0 L H (.pick c x y) v:=⟨fun _ h=>(by cases h),fun _ _ h=>(by cases h),fun _ _ _ _ _ a w hF _=>by simp [execOp,hx.eq _ _ _ hF,hc.eq _ _ _ hF,asBool]⟩
instance {T i b o off o' : Nat} [hx : Ev L x (.pointer (some ⟨b,o,none⟩))] [h : FieldOff P T i off] [ho : AddN o off o'] : RunsC P N ds S w0 L H (.fieldAddr T x i) (.pointer (some ⟨b,o',none⟩)) :=
 ⟨fun _ h=>(by cases h),fun _ _ h=>(by cases h),fun _ _ _ _ _ a w hF _=>by simp [execOp,hx.eq _ _ _ hF,h.run,ho.eq]⟩
instance {T b o n k i s : Nat} {ad : Option Addr} {z : Int} [hx : Ev L x (.slice ad n k)] [hy : Ev L y (.int .i64 z)] [ha : AddrIs ad b o] [hz : NatIs z i] [hi : LtIs i n] [h : ElemSize P T s] : RunsC P N ds S w0 L H (.indexAddr T x y) (.pointer (some ⟨b,o + i * s,none⟩)) :=
 ⟨fun _ h=>(by cases h),fun _ _ h=>(by cases h),fun _ _ _ _ _ a w hF _=>by
  have h1:=hx.eq _ _ _ hF
  have h2:=hy.eq _ _ _ hF
  rw [ha.eq] at h1
  rw [hz.eq] at h2
  simp [execOp,h1,h2,run_indexAt_slice w T ⟨b,o,none⟩ n k .i64 i h.und,h.sz,hi.lt,Addr.add_lit]⟩
instance {T n k s : Nat} {ad : Option Addr} [hx : Ev L x (.slice ad n k)] [h : ElemSize P T s] : RunsC P N ds S w0 L H (.call { callee:=.builtin .len,args:=#[x],argTypes:=#[T] }) (.int .i64 n) :=
 ⟨fun _ h=>(by cases h),fun _ _ h=>(by cases h),fun _ ty _ _ _ a w hF _=>by simp [execOp,resolve,invoke,builtin,hx.eq _ _ _ hF,run_len_slice w T ty ad n k h.und,goInt]⟩
theorem run_loadOne {T : Nat} [h : OneCell P T] {p : Addr} {v : Value} (hc : w.cell? p = some v) : (Instr.loadAt T (.pointer (some p))).run P w = .ok v w:=by
 simp [Instr.loadAt,Instr.sureAddr,loadVar,h.agg,hc]
instance {T b o j t : Nat} {cs : List Value} {v : Value} [h : OneCell P T] [hx : Ev L x (.pointer (some ⟨b,o,none⟩))] [hb : BoxIn H b j cs t] [hv : ListAt cs o v] : RunsC P N ds S w0 L H (.load T x) v :=
 ⟨fun _ h=>(by cases h),fun _ _ h=>(by cases h),fun _ _ _ _ _ a w hF hW=>by simp [execOp,hx.eq _ _ _ hF,run_loadOne (hW.cellBox j hb.at' hv.at')]⟩
class OldIs (S : Nat→Prop) (b : Nat) : Prop where
 no : ¬ S b
instance (b : Nat) : OldIs NoS b:=⟨fun h=>h⟩
instance {T b o : Nat} {v : Value} [h : OneCell P T] [hx : Ev L x (.pointer (some ⟨b,o,none⟩))] [hc : CellIs w0 b o v] [hs : OldIs S b] : RunsC P N ds S w0 L H (.load T x) v :=
 ⟨fun _ h=>(by cases h),fun _ _ h=>(by cases h),fun _ _ _ _ _ a w hF hW=>by simp [execOp,hx.eq _ _ _ hF,run_loadOne (hW.cellOld hc.eq hs.no)]⟩
theorem run_loadAgg {T n : Nat} [h : AggSize P T n] {b o : Nat} {cs : List Value} (hn : cs.length = n) (hc : CellsAt w b o cs) : (Instr.loadAt T (.pointer (some ⟨b,o,none⟩))).run P w = .ok (.agg cs.toArray) w:=by
 subst hn
 have h1:=run_loadCells_list (P:=P) w ⟨b,o,none⟩ cs (fun j v hv=>by rw [Addr.add_lit]; exact hc j v hv)
 simp [Instr.loadAt,Instr.sureAddr,loadVar,h.agg,h.sz,h1]
theorem CellsAt.old {b o : Nat} {cs : List Value} (h : Wd S w0 H w) (hc : CellsAt w0 b o cs) (hS : ¬ S b) : CellsAt w b o cs:=fun j v hv=>h.cellOld (hc j v hv) hS
instance {T b j t n : Nat} {cs : List Value} [h : AggSize P T n] [hx : Ev L x (.pointer (some ⟨b,0,none⟩))] [hb : BoxIn H b j cs t] [hn : LenIs cs n] : RunsC P N ds S w0 L H (.load T x) (.agg cs.toArray) :=
 ⟨fun _ h=>(by cases h),fun _ _ h=>(by cases h),fun _ _ _ _ _ a w hF hW=>by
  have:=run_loadAgg (P:=P) (T:=T) hn.eq (fun i v hv=>by rw [Nat.zero_add]; exact hW.cellBox j hb.at' hv : CellsAt w b 0 cs)
  simp [execOp,hx.eq _ _ _ hF,this]⟩
instance {T b o n : Nat} {cs : List Value} [h : AggSize P T n] [hx : Ev L x (.pointer (some ⟨b,o,none⟩))] [hc : CellsIs w0 b o cs] [hn : LenIs cs n] [hs : OldIs S b] : RunsC P N ds S w0 L H (.load T x) (.agg cs.toArray) :=
 ⟨fun _ h=>(by cases h),fun _ _ h=>(by cases h),fun _ _ _ _ _ a w hF hW=>by simp [execOp,hx.eq _ _ _ hF,run_loadAgg hn.eq (hc.eq.old hW hs.no)]⟩
instance {T : Nat} {zs cs : List Value} {places : List (Nat × Nat)} {vparts : List (Nat × Value)} {parts : List (Nat × Operand)} [h : StructAt P T zs places] [hx : Evp L parts vparts] [hf : FillAt places zs vparts cs] : RunsC P N ds S w0 L H (.build T parts.toArray) (.agg cs.toArray) :=
 ⟨fun _ h=>(by cases h),fun _ _ h=>(by cases h),fun _ _ _ _ _ a w hF _=>by
  have e : (parts.toArray.map fun (p : Nat × Operand)=>(p.1,a.eval p.2)) = vparts.toArray:=by
   simp only [List.map_toArray]
   rw [hx.eq _ _ _ hF]
  have:=run_build (P:=P) w T vparts.toArray cs.toArray (h.built _ _ hf.eq)
  simp only [execOp,Sem.run_bind]
  rw [e,this]
  rfl⟩
instance {fn : Fn} {xs ys : List Operand} {us vs : List Value} [hx : Evs L xs us] [hy : Evs L ys vs] : RunsC P N ds S w0 L H (.makeFunc fn xs.toArray ys.toArray) (.func fn us.toArray vs.toArray) :=
 ⟨fun _ h=>(by cases h),fun _ _ h=>(by cases h),fun _ _ _ _ _ a w hF _=>by
  simp only [execOp,List.map_toArray,hx.eq _ _ _ hF,hy.eq _ _ _ hF,Instr.makeFunc]
  rfl⟩
theorem wrap_in (n : Int) (h1 : -9223372036854775808 ≤ n) (h2 : n ≤ 9223372036854775807) : IntKind.i64.wrap n = n:=by
 have h:=IntWalk.i64_in n (by omega)
 exact h
theorem runs_bin {T T2 : Nat} {op : BinOp} {u v r : Value} [hx : Ev L x u] [hy : Ev L y v]
  (hg : ∀ w,(eqGuard op T x y u v).run P w = .ok () w) (hr : ∀ w,(binOp op T u v).run P w = .ok r w) : RunsC P N ds S w0 L H (.binOp op T x y T2) r :=
 ⟨fun _ h=>(by cases h),fun _ _ h=>(by cases h),fun _ _ _ _ _ a w hF _=>by simp [execOp,hx.eq _ _ _ hF,hy.eq _ _ _ hF,hg,hr]⟩
theorem runs_add {T T2 : Nat} {m n : Int} [hx : Ev L x (.int .i64 m)] [hy : Ev L y (.int .i64 n)] (h1 : -9223372036854775808 ≤ m + n) (h2 : m + n ≤ 9223372036854775807) : RunsC P N ds S w0 L H (.binOp .add T x y T2) (.int .i64 (m + n)) :=
 runs_bin (fun _=>rfl) fun w=>by rw [binOp_add]; simp [Op.intArith,wrap_in _ h1 h2]
theorem runs_sub {T T2 : Nat} {m n : Int} [hx : Ev L x (.int .i64 m)] [hy : Ev L y (.int .i64 n)] (h1 : -9223372036854775808 ≤ m - n) (h2 : m - n ≤ 9223372036854775807) : RunsC P N ds S w0 L H (.binOp .sub T x y T2) (.int .i64 (m - n)) :=
 runs_bin (fun _=>rfl) fun w=>by rw [binOp_sub]; simp [Op.intArith,wrap_in _ h1 h2]
instance {T T2 : Nat} {m n : Int} {q : IntKind} [hx : Ev L x (.int q m)] [hy : Ev L y (.int q n)] : RunsC P N ds S w0 L H (.binOp .lss T x y T2) (.bool (decide (m < n))):=runs_bin (fun _=>rfl) fun w=>by rw [binOp_lss]; simp
instance {T T2 : Nat} {m n : Int} {q : IntKind} [hx : Ev L x (.int q m)] [hy : Ev L y (.int q n)] : RunsC P N ds S w0 L H (.binOp .leq T x y T2) (.bool (decide (m ≤ n))):=runs_bin (fun _=>rfl) fun w=>by rw [binOp_leq]; simp
instance {T T2 : Nat} {m n : Int} {q : IntKind} [hx : Ev L x (.int q m)] [hy : Ev L y (.int q n)] : RunsC P N ds S w0 L H (.binOp .gtr T x y T2) (.bool (decide (n < m))):=runs_bin (fun _=>rfl) fun w=>by rw [binOp_gtr]; simp
instance {T T2 : Nat} {m n : Int} {q : IntKind} [hx : Ev L x (.int q m)] [hy : Ev L y (.int q n)] : RunsC P N ds S w0 L H (.binOp .geq T x y T2) (.bool (decide (n ≤ m))):=runs_bin (fun _=>rfl) fun w=>by rw [binOp_geq]; simp
instance {T T2 : Nat} {m n : Int} {q : IntKind} [hx : Ev L x (.int q m)] [hy : Ev L y (.int q n)] : RunsC P N ds S w0 L H (.binOp .eql T x y T2) (.bool (decide (m = n))):=runs_bin (fun _=>by rw [eqGuard_at_int]; rfl) fun w=>by rw [binOp_eql]; rfl
instance {T T2 : Nat} {m n : Int} {q : IntKind} [hx : Ev L x (.int q m)] [hy : Ev L y (.int q n)] : RunsC P N ds S w0 L H (.binOp .neq T x y T2) (.bool (!decide (m = n))):=runs_bin (fun _=>by rw [eqGuard_at_int]; rfl) fun w=>by rw [binOp_neq]; rfl
instance {T T2 : Nat} {u v : Value} {r : Bool} [hx : Ev L x u] [hy : Ev L y v] [h : EqVal P T u v r] : RunsC P N ds S w0 L H (.binOp .eql T x y T2) (.bool r):=runs_bin (h.grd _ _ _) h.eq
instance {T T2 : Nat} {u v : Value} {r : Bool} [hx : Ev L x u] [hy : Ev L y v] {r' : Bool} [h : EqVal P T u v r] [hn : NotIs r r'] : RunsC P N ds S w0 L H (.binOp .neq T x y T2) (.bool r'):=runs_bin (h.grd _ _ _) fun w=>by rw [h.ne,hn.eq]
instance {T : Nat} {b b' : Bool} [hx : Ev L x (.bool b)] [hn : NotIs b b'] : RunsC P N ds S w0 L H (.unOp .not T x) (.bool b') :=
 ⟨fun _ h=>(by cases h),fun _ _ h=>(by cases h),fun _ _ _ _ _ a w hF _=>by simp [execOp,hx.eq _ _ _ hF,Op.unary,hn.eq]⟩
end
def okPut (d N : Nat) (L : List (Nat × Value)) : Bool:=d.blt N && L.all fun p=>!Nat.beq p.1 d
theorem Fr.putOk (h : Fr N ds L a) {d : Nat} (hd : okPut d N L = true) (v : Value) : Fr N ds ((d,v)::L) (a.put (some d) v):=by
 simp only [okPut,Bool.and_eq_true,List.all_eq_true] at hd
 refine h.put hd.1 v fun p hp e=>?_
 have:=hd.2 p hp
 rw [e] at this
 simp at this
theorem Fr.stale (h : Fr N ds L a) (d : Nat) [hs : Stale L d L'] : Fr N ds L' a:=⟨h.size,h.defers,fun p hp=>h.slot p (hs.sub p hp)⟩
theorem g_op {d ty : Nat} {pos : String} {aft : Array Go.Edge} {op : Op} {v : Value} [h : RunsC P N ds S w0 L H op v] (hd : okPut d N L = true)
  (k : G N ds S w0 ((d,v)::L) H (wpListIn (FW ro) 0 P ops Q rest)) : G N ds S w0 L H (wpListIn (FW ro) 0 P ops Q (⟨some d,op,ty,pos,aft,none⟩::rest)) :=
 fun a w hS=>step_val rfl h.nd (h.run _ _ _ _ _ a w hS.fr hS.wd) (k _ _ ⟨hS.fr.putOk hd v,hS.wd⟩)
theorem g_opS {d ty : Nat} {pos : String} {aft : Array Go.Edge} {op : Op} {v : Value} [h : RunsC P N ds S w0 L H op v] [hs : Stale L d L'] (hd : okPut d N L' = true)
  (k : G N ds S w0 ((d,v)::L') H (wpListIn (FW ro) 0 P ops Q rest)) : G N ds S w0 L H (wpListIn (FW ro) 0 P ops Q (⟨some d,op,ty,pos,aft,none⟩::rest)) :=
 fun a w hS=>step_val rfl h.nd (h.run _ _ _ _ _ a w hS.fr hS.wd) (k _ _ ⟨(hS.fr.stale (L':=L') d).putOk hd v,hS.wd⟩)
theorem g_add {d ty T T2 : Nat} {pos : String} {aft : Array Go.Edge} {x y : Operand} {m n : Int} [hx : Ev L x (.int .i64 m)] [hy : Ev L y (.int .i64 n)] (hd : okPut d N L = true) (h1 : -9223372036854775808 ≤ m + n) (h2 : m + n ≤ 9223372036854775807)
  (k : G N ds S w0 ((d,.int .i64 (m + n))::L) H (wpListIn (FW ro) 0 P ops Q rest)) : G N ds S w0 L H (wpListIn (FW ro) 0 P ops Q (⟨some d,.binOp .add T x y T2,ty,pos,aft,none⟩::rest)):=by
 have:=runs_add (P:=P) (N:=N) (ds:=ds) (S:=S) (w0:=w0) (H:=H) (T:=T) (T2:=T2) (x:=x) (y:=y) (L:=L) h1 h2
 exact g_op hd k
theorem g_sub {d ty T T2 : Nat} {pos : String} {aft : Array Go.Edge} {x y : Operand} {m n : Int} [hx : Ev L x (.int .i64 m)] [hy : Ev L y (.int .i64 n)] (hd : okPut d N L = true) (h1 : -9223372036854775808 ≤ m - n) (h2 : m - n ≤ 9223372036854775807)
  (k : G N ds S w0 ((d,.int .i64 (m - n))::L) H (wpListIn (FW ro) 0 P ops Q rest)) : G N ds S w0 L H (wpListIn (FW ro) 0 P ops Q (⟨some d,.binOp .sub T x y T2,ty,pos,aft,none⟩::rest)):=by
 have:=runs_sub (P:=P) (N:=N) (ds:=ds) (S:=S) (w0:=w0) (H:=H) (T:=T) (T2:=T2) (x:=x) (y:=y) (L:=L) h1 h2
 exact g_op hd k
theorem g_box {d ty T : Nat} {pos : String} {aft : Array Go.Edge} {x : Operand} {v : Value} {cs : List Value} [hx : Ev L x v] [hv : CellsOf v cs] (hd : okPut d N L = true)
  (k : ∀ b,w0.heap.size ≤ b→G N ds S w0 ((d,.pointer (some ⟨b,0,none⟩))::L) (Ent.box b cs T::H) (wpListIn (FW ro) 0 P ops Q rest)) : G N ds S w0 L H (wpListIn (FW ro) 0 P ops Q (⟨some d,.box T x,ty,pos,aft,none⟩::rest)):=by
 intro a w hS
 refine step_val (v:=.pointer (some ⟨w.heap.size,0,none⟩)) (w':=w.alloc (.cells v.cells T)) rfl (fun _ h=>by cases h) ?_ ?_
 ·simp [execOp,hx.eq _ _ _ hS.fr,Instr.box,newVar,newRow]
 ·refine k _ hS.wd.size _ _ ⟨hS.fr.putOk hd _,?_⟩
  have:=hS.wd.box cs T
  have e : cs.toArray = v.cells:=by rw [← hv.eq]
  rw [e] at this
  exact this
theorem g_alloc {d ty T : Nat} {z : Value} {cs : List Value} [h : ZeroVal P T z] [hv : CellsOf z cs] {pos : String} {aft : Array Go.Edge} (hd : okPut d N L = true)
  (k : ∀ b,w0.heap.size ≤ b→G N ds S w0 ((d,.pointer (some ⟨b,0,none⟩))::L) (Ent.box b cs T::H) (wpListIn (FW ro) 0 P ops Q rest)) : G N ds S w0 L H (wpListIn (FW ro) 0 P ops Q (⟨some d,.alloc T,ty,pos,aft,none⟩::rest)):=by
 intro a w hS
 refine step_val (v:=.pointer (some ⟨w.heap.size,0,none⟩)) (w':=w.alloc (.cells z.cells T)) rfl (fun _ h=>by cases h) ?_ ?_
 ·simp [execOp,Instr.alloc,newVar,newRow,h.run]
 ·refine k _ hS.wd.size _ _ ⟨hS.fr.putOk hd _,?_⟩
  have:=hS.wd.box cs T
  have e : cs.toArray = z.cells:=by rw [← hv.eq]
  rw [e] at this
  exact this
theorem run_storeOne {T : Nat} [h : OneCell P T] {p : Addr} {v u : Value} (h1 : v.oneCell' = true) (hc : w.cell? p = some u) (hz : w.frozen? p = false) : (Instr.storeAt T (.pointer (some p)) v).run P w = .ok () (w.setCell p v):=by
 have hs : (store p v).run P w = .ok () (w.setCell p v):=by
  rw [run_store P w p v .plain (by cases v <;> first|rfl|cases h1)]
  simp [hc,hz]
 have ha : p.add 0 = p:=by simp [Addr.add]
 have hcs : v.cells = #[v]:=by cases v <;> first|rfl|cases h1
 simp [Instr.storeAt,Instr.sureAddr,storeVar,h.sz,hcs,storeCells,hs,ha]
class OneV (v : Value) : Prop where
 one : v.oneCell' = true
instance (b : Bool) : OneV (.bool b):=⟨rfl⟩
instance (k : IntKind) (n : Int) : OneV (.int k n):=⟨rfl⟩
instance (s : ByteArray) : OneV (.string s):=⟨rfl⟩
instance (p : Option Addr) (n c : Nat) : OneV (.slice p n c):=⟨rfl⟩
instance (f : Fn) (x y : Array Value) : OneV (.func f x y):=⟨rfl⟩
class OneVs (vs : List Value) : Prop where
 all : ∀ v ∈ vs,v.oneCell' = true
instance : OneVs []:=⟨by simp⟩
instance (v : Value) (vs : List Value) [h : OneV v] [hs : OneVs vs] : OneVs (v::vs):=⟨by
 intro u hu
 rcases List.mem_cons.1 hu with rfl|hu
 ·exact h.one
 ·exact hs.all u hu⟩
theorem g_store {ty T b o j t : Nat} [h : OneCell P T] {cs cs' : List Value} {u v : Value} {pos : String} {aft : Array Go.Edge} {x y : Operand}
  [hx : Ev L x (.pointer (some ⟨b,o,none⟩))] [hy : Ev L y v] [h1 : OneV v] [hb : BoxIn H b j cs t] [hu : ListAt cs o u] [hs : SetAt cs o v cs'] [hH : SetAt H j (Ent.box b cs' t) H']
  (k : G N ds S w0 L H' (wpListIn (FW ro) 0 P ops Q rest)) : G N ds S w0 L H (wpListIn (FW ro) 0 P ops Q (⟨none,.store T x y,ty,pos,aft,none⟩::rest)):=by
 intro a w hS
 have hbx:=hS.wd.boxAt j hb.at'
 refine step_skip (w':=w.setCell ⟨b,o,none⟩ v) rfl (fun _ h=>by cases h) ?_ ?_
 ·have:=run_storeOne (P:=P) (T:=T) h1.one (hS.wd.cellBox j hb.at' hu.at') (by simp [World.frozen?,hbx])
  simp [execOp,hx.eq _ _ _ hS.fr,hy.eq _ _ _ hS.fr,this]
 ·refine k _ _ ⟨hS.fr,?_⟩
  have:=hS.wd.setBox j (o:=o) v hb.at'
  rw [hs.set',hH.set'] at this
  exact this
theorem g_storeAgg {ty T b o j t n : Nat} [h : AggSize P T n] {cs vs cs' : List Value} {pos : String} {aft : Array Go.Edge} {x y : Operand}
  [hx : Ev L x (.pointer (some ⟨b,o,none⟩))] [hy : Ev L y (.agg vs.toArray)] [hb : BoxIn H b j cs t] [hn : LenIs vs n] [hp : PutAt cs o vs cs'] [h1 : OneVs vs] [hH : SetAt H j (Ent.box b cs' t) H']
  (k : G N ds S w0 L H' (wpListIn (FW ro) 0 P ops Q rest)) : G N ds S w0 L H (wpListIn (FW ro) 0 P ops Q (⟨none,.store T x y,ty,pos,aft,none⟩::rest)):=by
 intro a w hS
 have hbx:=hS.wd.boxAt j hb.at'
 refine step_skip (w':=w.setRow b cs'.toArray) rfl (fun _ h=>by cases h) ?_ ?_
 ·have hs:=run_storeCells_at P b o t vs 0 cs.toArray w hbx (by simpa using hp.le) h1.all
  have e : (cs.toArray.toList.take (o + 0)++vs++cs.toArray.toList.drop (o + 0 + vs.length)).toArray = cs'.toArray:=by
   rw [← hp.eq,← putL_eq cs o vs hp.le]
   simp
  rw [e] at hs
  simp [execOp,hx.eq _ _ _ hS.fr,hy.eq _ _ _ hS.fr,Instr.storeAt,Instr.sureAddr,storeVar,h.sz,Value.cells,hn.eq,hs]
 ·refine k _ _ ⟨hS.fr,?_⟩
  have:=hS.wd.rowBox j cs' hb.at'
  rw [hH.set'] at this
  exact this
class DstOf (ops : Array Oper) (j : Nat) (t : outParam Nat) : Prop where
 eq : (ops[j]?).bind (·.dst) = some t
instance {l : List Oper} {j t ty : Nat} {op : Op} {pos : String} {aft : Array Go.Edge} {gd : Option (Nat × Bool)} [h : ListAt l j ⟨some t,op,ty,pos,aft,gd⟩] : DstOf l.toArray j t:=⟨by simp [h.at']⟩
theorem Fr.yield (h : Fr N ds L a) {j t : Nat} {b : Bool} [hj : DstOf ops j t] [hb : SlotIs L t (.bool b)] : yielded ops a.tmps j = some b:=by
 have:=h.slot _ hb.mem
 simp only at this
 simp [yielded,hj.eq,this]
class NotB (b : Bool) (c : outParam Bool) : Prop where
 eq : b = !c
instance : NotB true false:=⟨rfl⟩
instance : NotB false true:=⟨rfl⟩
theorem NotB.ne {b c : Bool} (h : NotB b c) : (some c == some b) = false:=by
 have:=h.eq
 cases b <;> cases c <;> first|rfl|cases this
theorem g_pass {d ty j t : Nat} {want b : Bool} {pos : String} {aft : Array Go.Edge} {op : Op} [hj : DstOf ops j t] [hn : NotB want b] [hb : SlotIs L t (.bool b)] (hd : okPut d N L = true)
  (k : G N ds S w0 ((d,undef)::L) H (wpListIn (FW ro) 0 P ops Q rest)) : G N ds S w0 L H (wpListIn (FW ro) 0 P ops Q (⟨some d,op,ty,pos,aft,some (j,want)⟩::rest)):=by
 intro a w hS
 refine wpListIn_step fun K hK=>?_
 have h1 : Region.wanted (⟨some d,op,ty,pos,aft,some (j,want)⟩ : Oper) (yielded ops a.tmps) = false:=by
  simp only [Region.wanted,hS.fr.yield (ops:=ops) (j:=j) (b:=b)]
  exact hn.ne
 rw [h1]
 exact ⟨fun _ _=>trivial,hK _ _ (k _ _ ⟨hS.fr.putOk hd undef,hS.wd⟩)⟩
theorem g_open {d : Option Tmp} {ty j t : Nat} {want : Bool} {pos : String} {aft : Array Go.Edge} {op : Op} [hj : DstOf ops j t] [hb : SlotIs L t (.bool want)]
  (k : G N ds S w0 L H (wpListIn (FW ro) 0 P ops Q (⟨d,op,ty,pos,aft,none⟩::rest))) : G N ds S w0 L H (wpListIn (FW ro) 0 P ops Q (⟨d,op,ty,pos,aft,some (j,want)⟩::rest)):=by
 intro a w hS
 have h1 : Region.wanted (⟨d,op,ty,pos,aft,some (j,want)⟩ : Oper) (yielded ops a.tmps) = true:=by
  simp only [Region.wanted,hS.fr.yield (ops:=ops) (j:=j) (b:=want)]
  simp
 have h2 : Region.wanted (⟨d,op,ty,pos,aft,none⟩ : Oper) (yielded ops a.tmps) = true:=rfl
 have k:=k a w hS
 unfold wpListIn at k ⊢
 rw [if_pos h1]
 rw [if_pos h2] at k
 exact k
theorem St.fix (h : St N ds S w0 L H a w) (hL : allIn L L') (hH : H'.Sublist H) : St N ds S w0 L' H' a w:=⟨h.fr.to hL,h.wd.sub hH⟩
theorem g_fix (hL : allIn L L') (hH : H'.Sublist H) (k : G N ds S w0 L' H' p) : G N ds S w0 L H p:=fun a w hS=>k a w (hS.fix hL hH)
theorem g_done (hL : allIn L L') (hH : H'.Sublist H) : G N ds S w0 L H (St N ds S w0 L' H'):=fun _ _ hS=>hS.fix hL hH
theorem wpl_split {l : List Oper} (n : Nat) {M : Act→World→Prop} (h2 : ∀ a w,M a w→wpListIn (FW ro) 0 P ops Q (l.drop n) a w) :
  ∀ {a : Act} {w : World},wpListIn (FW ro) 0 P ops (Exit.then M Q) (l.take n) a w→wpListIn (FW ro) 0 P ops Q l a w:=by
 have upon : ∀ (o : Oper) (a : Act) (K K' : Act→World→Prop),(∀ a w,K a w→K' a w)→∀ r,o.uponIn (FW ro) 0 P a K (Exit.then M Q) r→o.uponIn (FW ro) 0 P a K' Q r:=by
  intro o a K K' hK r h
  cases r with
  | ok nx w1 =>
   cases nx with
   | value v=>exact hK _ _ h
   | skip=>exact hK _ _ h
   | defer d=>exact hK _ _ h
   | enter f args =>
    refine ⟨h.1,h.2.mono fun e w2 hh=>?_⟩
    cases e with
    | returned v=>exact hK _ _ hh
    | panicked c=>exact hh
    | outgrown=>exact hh
   | row r args=>exact ⟨h.1,h.2.mono fun v w2 hh=>hK _ _ hh⟩
   | round l f tmps assign body =>
    refine ⟨h.1,h.2.mono fun e w2 hh=>?_⟩
    cases e with
    | returned v=>exact hK _ _ hh
    | panicked c=>exact hh
    | outgrown=>exact hh
   | _=>exact h
  | halt x w1=>cases x <;> exact h
 induction n generalizing l with
 | zero =>
  intro a w h
  exact h2 a w h
 | succ n ih =>
  intro a w h
  cases l with
  | nil=>exact h2 a w h
  | cons o r =>
   simp only [List.take_succ_cons] at h
   simp only [List.drop_succ_cons] at h2
   unfold wpListIn at h ⊢
   split
   ·rename_i hw
    rw [if_pos hw] at h
    exact ⟨h.1,upon o a _ _ (fun a w hh=>ih h2 hh) _ h.2⟩
   ·rename_i hw
    rw [if_neg hw] at h
    exact ⟨h.1,ih h2 h.2⟩
class SplitAt {α : Type} (l : List α) (n : Nat) (l1 l2 : outParam (List α)) : Prop where
 t : l.take n = l1
 d : l.drop n = l2
instance {α : Type} (l : List α) : SplitAt l 0 [] l:=⟨by simp,by simp⟩
instance {α : Type} (x : α) (l l1 l2 : List α) (n : Nat) [h : SplitAt l n l1 l2] : SplitAt (x::l) (n + 1) (x::l1) l2:=⟨by simp [h.t],by simp [h.d]⟩
theorem g_join {l l1 l2 : List Oper} (n d : Nat) (val : Value) [hs : SplitAt l n l1 l2]
  (h1 : G N ds S w0 L H (wpListIn (FW ro) 0 P ops (Exit.then (St N ds S w0 ((d,val)::L) H) Q) l1))
  (h2 : G N ds S w0 ((d,val)::L) H (wpListIn (FW ro) 0 P ops Q l2)) : G N ds S w0 L H (wpListIn (FW ro) 0 P ops Q l):=fun a w hS =>
 wpl_split (M:=St N ds S w0 ((d,val)::L) H) n (fun a w h=>by rw [hs.d]; exact h2 a w h) (by rw [hs.t]; exact h1 a w hS)
theorem g_region {id : Nat} {l : List Oper} (h : G N ds S w0 L H (wpListIn (FW ro) 0 P l.toArray Q l)) : G N ds S w0 L H (Code.wpIn (FW ro) 0 P (Code.region id l.toArray false) Q):=fun a w hS=>wpIn_region_lit (h a w hS)
theorem g_nil (h : G N ds S w0 L H (Q .normal)) : G N ds S w0 L H (wpListIn (FW ro) 0 P ops Q []):=h
theorem g_seq {x y : Code} (h : G N ds S w0 L H (Code.wpIn (FW ro) 0 P x (Exit.then (Code.wpIn (FW ro) 0 P y Q) Q))) : G N ds S w0 L H (Code.wpIn (FW ro) 0 P (x.seq y) Q):=fun a w hS=>wpIn_seq (h a w hS)
theorem g_block {id : Nat} {x : Code} (h : G N ds S w0 L H (Code.wpIn (FW ro) 0 P x (Exit.inBlock id Q))) : G N ds S w0 L H (Code.wpIn (FW ro) 0 P (Code.block id x) Q):=fun a w hS=>wpIn_block (h a w hS)
theorem g_skip (h : G N ds S w0 L H (Q .normal)) : G N ds S w0 L H (Code.wpIn (FW ro) 0 P Code.skip Q):=fun a w hS=>wpIn_skip (h a w hS)
theorem g_exit {id : Nat} (h : G N ds S w0 L H (Q (.exit id))) : G N ds S w0 L H (Code.wpIn (FW ro) 0 P (Code.exit id) Q):=fun a w hS=>wpIn_exit (h a w hS)
theorem g_ret (h : G N ds S w0 L H (Q .ret)) : G N ds S w0 L H (Code.wpIn (FW ro) 0 P Code.ret Q):=fun a w hS=>wpIn_ret (h a w hS)
theorem g_then {K : Act→World→Prop} (h : G N ds S w0 L H K) : G N ds S w0 L H (Exit.then K Q .normal):=h
theorem g_inBlock {id : Nat} (h : G N ds S w0 L H (Q .normal)) : G N ds S w0 L H (Exit.inBlock id Q .normal):=h
theorem g_exitHere {id : Nat} (h : G N ds S w0 L H (Q .normal)) : G N ds S w0 L H (Exit.inBlock id Q (.exit id)):=fun a w hS=>by simp only [Exit.inBlock,if_true]; exact h a w hS
theorem g_thenExit {K : Act→World→Prop} {id : Nat} (h : G N ds S w0 L H (Q (.exit id))) : G N ds S w0 L H (Exit.then K Q (.exit id)):=h
theorem g_thenRet {K : Act→World→Prop} (h : G N ds S w0 L H (Q .ret)) : G N ds S w0 L H (Exit.then K Q .ret):=h
theorem g_blockRet {id : Nat} (h : G N ds S w0 L H (Q .ret)) : G N ds S w0 L H (Exit.inBlock id Q .ret):=h
theorem g_cond {c : Operand} {x y : Code} {b : Bool} [hc : Ev L c (.bool b)] (ht : b = true→G N ds S w0 L H (Code.wpIn (FW ro) 0 P x Q)) (hf : b = false→G N ds S w0 L H (Code.wpIn (FW ro) 0 P y Q)) : G N ds S w0 L H (Code.wpIn (FW ro) 0 P (Code.cond c x y) Q) :=
 fun a w hS=>wpIn_cond_split (hc.eq _ _ _ hS.fr) (fun h=>ht h a w hS) (fun h=>hf h a w hS)
theorem g_condT {c : Operand} {x y : Code} [hc : Ev L c (.bool true)] (ht : G N ds S w0 L H (Code.wpIn (FW ro) 0 P x Q)) : G N ds S w0 L H (Code.wpIn (FW ro) 0 P (Code.cond c x y) Q):=g_cond (b:=true) (fun _=>ht) (fun h=>by cases h)
theorem g_condF {c : Operand} {x y : Code} [hc : Ev L c (.bool false)] (hf : G N ds S w0 L H (Code.wpIn (FW ro) 0 P y Q)) : G N ds S w0 L H (Code.wpIn (FW ro) 0 P (Code.cond c x y) Q):=g_cond (b:=false) (fun h=>by cases h) (fun _=>hf)
theorem c_loop {α : Type} (I : α→Act→World→Prop) (m : α→Nat) {c : Code} (x : α) (h0 : I x a w)
  (round : ∀ x a w,I x a w→c.wpIn (FW ro) 0 P (Exit.then (fun a' w'=>∃ x',I x' a' w'∧m x' < m x) Q) a w) : (Code.loop c).wpIn (FW ro) 0 P Q a w:=by
 classical
 have ex : ∀ a w,(∃ x,I x a w)→∃ x,I x a w∧∀ y,I y a w→m x ≤ m y:=by
  intro a w h
  have : ∀ k : Nat,∀ x,I x a w→m x = k→∃ x,I x a w∧∀ y,I y a w→m x ≤ m y:=by
   intro k
   induction k using Nat.strongRecOn with
   | _ k ih =>
    intro x hx hk
    by_cases hy : ∃ y,I y a w∧m y < m x
    ·obtain ⟨y,hy1,hy2⟩:=hy
     exact ih (m y) (by omega) y hy1 rfl
    ·exact ⟨x,hx,fun y hy'=>Nat.le_of_not_lt fun hlt=>hy ⟨y,hy',hlt⟩⟩
  obtain ⟨x,hx⟩:=h
  exact this _ x hx rfl
 refine wpIn_loop (fun a w=>∃ x,I x a w) (fun a w=>if h : ∃ x,I x a w then m (Classical.choose (ex a w h)) else 0) ⟨x,h0⟩ fun a w hI=>?_
 have hs:=Classical.choose_spec (ex a w hI)
 have hr:=round _ a w hs.1
 refine Code.wpIn_mono (fun e a' w' q=>?_) hr
 cases e with
 | normal =>
  obtain ⟨x',hx',hlt⟩:=q
  have hI' : ∃ x,I x a' w':=⟨x',hx'⟩
  refine ⟨hI',?_⟩
  rw [dif_pos hI,dif_pos hI']
  exact Nat.lt_of_le_of_lt ((Classical.choose_spec (ex a' w' hI')).2 x' hx') hlt
 | _=>exact q
def Next {α : Type} (N : Nat) (ds : List Deferred) (S : Nat→Prop) (w0 : World) (I : α→Prop) (Lx : α→List (Nat × Value)) (Hx : α→List Ent) (m : α→Nat) (x : α) : Act→World→Prop :=
 fun a w=>∃ x',(I x'∧St N ds S w0 (Lx x') (Hx x') a w)∧m x' < m x
theorem g_loop {α : Type} (I : α→Prop) (Lx : α→List (Nat × Value)) (Hx : α→List Ent) (m : α→Nat) {c : Code} (x : α) (hI : I x) (h0 : G N ds S w0 L H (St N ds S w0 (Lx x) (Hx x)))
  (round : ∀ x,I x→G N ds S w0 (Lx x) (Hx x) (Code.wpIn (FW ro) 0 P c (Exit.then (Next N ds S w0 I Lx Hx m x) Q))) : G N ds S w0 L H (Code.wpIn (FW ro) 0 P (Code.loop c) Q) :=
 fun a w hS=>c_loop (fun x a w=>I x∧St N ds S w0 (Lx x) (Hx x) a w) m x ⟨hI,h0 a w hS⟩ fun x a w h=>round x h.1 a w h.2
theorem g_next {α : Type} {I : α→Prop} {Lx : α→List (Nat × Value)} {Hx : α→List Ent} {m : α→Nat} {x : α} (x' : α) (hI : I x') (hm : m x' < m x) (hL : allIn L (Lx x')) (hH : (Hx x').Sublist H) : G N ds S w0 L H (Next N ds S w0 I Lx Hx m x) :=
 fun _ _ hS=>⟨x',⟨hI,hS.fix hL hH⟩,hm⟩
def Ret (P : Program) (f : FuncId) (args : List Value) (w : World) (R : Value→World→Prop) : Prop:=CallsIn (FW none) 0 P f args.toArray w fun e w'=>∃ v,e = .returned v∧R v w'
def RetV (P : Program) (f : FuncId) (args : List Value) (w : World) (v : Value) : Prop:=Ret P f args w fun u w'=>u = v∧Chg NoS w w'
theorem Ret.mono {f : FuncId} {args : List Value} {R R' : Value→World→Prop} (h : Ret P f args w R) (hr : ∀ v w',R v w'→R' v w') : Ret P f args w R' :=
 CallsIn.mono h fun _ w' ⟨v,he,hR⟩=>⟨v,he,hr v w' hR⟩
def enumL : Nat→List Value→List (Nat × Value)
 | _,[]=>[]
 | i,v::r=>(i,v)::enumL (i + 1) r
theorem enumL_mem : ∀ (i : Nat) (l : List Value) (p : Nat × Value),p ∈ enumL i l→∃ j,p.1 = i + j∧l[j]? = some p.2
 | i,[],p,h=>by simp [enumL] at h
 | i,u::r,p,h=>by
  simp only [enumL,List.mem_cons] at h
  rcases h with rfl|h
  ·exact ⟨0,rfl,rfl⟩
  ·obtain ⟨j,h1,h2⟩:=enumL_mem (i + 1) r p h
   exact ⟨j + 1,by omega,h2⟩
theorem fr_enter {args : List Value} (hlen : args.length ≤ N) : Fr N [] (enumL 0 args) { tmps:=args.toArray++Array.replicate (N - args.toArray.size) undef,defers:=[] }:=by
 refine ⟨by simp; omega,rfl,fun p h=>?_⟩
 obtain ⟨j,hj1,h2⟩:=enumL_mem 0 args p h
 have hj : j < args.length:=(List.getElem?_eq_some_iff.1 h2).1
 rw [hj1,Nat.zero_add]
 rw [Array.getElem?_append_left (by simpa using hj)]
 simpa using h2
class EnumIs (i : Nat) (args : List Value) (L : outParam (List (Nat × Value))) : Prop where
 eq : enumL i args = L
instance (i : Nat) : EnumIs i [] []:=⟨rfl⟩
class SuccIs (i : Nat) (j : outParam Nat) : Prop where
 eq : i + 1 = j
instance : SuccIs 0 1:=⟨rfl⟩
instance : SuccIs 1 2:=⟨rfl⟩
instance : SuccIs 2 3:=⟨rfl⟩
instance : SuccIs 3 4:=⟨rfl⟩
instance : SuccIs 4 5:=⟨rfl⟩
instance : SuccIs 5 6:=⟨rfl⟩
instance : SuccIs 6 7:=⟨rfl⟩
instance : SuccIs 7 8:=⟨rfl⟩
instance (i j : Nat) (v : Value) (r : List Value) (L : List (Nat × Value)) [hj : SuccIs i j] [h : EnumIs j r L] : EnumIs i (v::r) ((i,v)::L):=⟨by simp only [enumL]; rw [hj.eq,h.eq]⟩
theorem ret_enter {f : FuncId} {fn : Func} {c : Code} {args : List Value} {R : Value→World→Prop} (hf : P.funcs[f]? = some fn) (hb : fn.body = some c) (hN : fn.ntmps = N) [hL : EnumIs 0 args L] (hlen : args.length.ble N = true) (hW : Wd S w H w)
  (h : G N [] S w L H (Code.wpIn (FW none) 0 P c (bodyPost P fn fun e w'=>∃ v,e = .returned v∧R v w'))) : Ret P f args w R:=by
 subst hN
 refine callsIn_of_wp hf hb trivial (h _ _ ⟨?_,hW⟩)
 rw [← hL.eq]
 exact fr_enter (Nat.le_of_ble_eq_true hlen)
theorem g_call {d ty f : Nat} {args : List Operand} {vs : List Value} {tys : Array Nat} {pos : String} {aft : Array Go.Edge} (R : World→Value→World→Prop) [h : EnterOk P f] [hx : Evs L args vs] (hd : okPut d N L = true)
  (hc : ∀ w,Wd S w0 H w→Ret P f vs w (R w))
  (k : ∀ v w w',Wd S w0 H w→R w v w'→∀ a,Fr N ds ((d,v)::L) a→wpListIn (FW ro) 0 P ops Q rest a w') : G N ds S w0 L H (wpListIn (FW ro) 0 P ops Q (⟨some d,.call { callee:=.value (.func f),args:=args.toArray,argTypes:=tys },ty,pos,aft,none⟩::rest)):=by
 intro a w hS
 refine wpListIn_plain rfl fun K hK=>?_
 refine ⟨fun _ _=>trivial,?_⟩
 rw [semAt_ne _ _ _ (fun _ h=>by cases h)]
 have hr : (execOp a.eval ⟨some d,.call { callee:=.value (.func f),args:=args.toArray,argTypes:=tys },ty,pos,aft,none⟩).run P w = .ok (.enter f vs.toArray) w:=by
  simp [execOp,resolve,Act.eval,Deferred.ofValue,invoke,hx.eq _ _ _ hS.fr,h.run]
 rw [hr]
 refine ⟨fun h=>(by cases h),?_⟩
 refine CallsIn.mono (R:=fun e w'=>∃ v,e = .returned v∧R w v w') (hc w hS.wd) fun e w' ⟨v,he,hR⟩=>?_
 subst he
 exact hK _ _ (k v w w' hS.wd hR _ (hS.fr.putOk hd v))
theorem g_callV {d ty f : Nat} {args : List Operand} {vs : List Value} {tys : Array Nat} {pos : String} {aft : Array Go.Edge} {u : Value} [h : EnterOk P f] [hx : Evs L args vs] (hd : okPut d N L = true)
  (hc : ∀ w,Wd S w0 H w→RetV P f vs w u)
  (k : G N ds S w0 ((d,u)::L) H (wpListIn (FW ro) 0 P ops Q rest)) : G N ds S w0 L H (wpListIn (FW ro) 0 P ops Q (⟨some d,.call { callee:=.value (.func f),args:=args.toArray,argTypes:=tys },ty,pos,aft,none⟩::rest)) :=
 g_call (fun w v w'=>v = u∧Chg NoS w w') hd hc fun v _ w' hw hR a hF=>k a w' ⟨by rw [← hR.1]; exact hF,hw.call hR.2⟩
theorem g_callE {α : Type} {val : α→Value} {E : α→List Ent} {φ : α→Prop} {d ty f : Nat} {args : List Operand} {vs : List Value} {tys : Array Nat} {pos : String} {aft : Array Go.Edge} [h : EnterOk P f] [hx : Evs L args vs] (hd : okPut d N L = true)
  (hc : ∀ w,Wd S w0 H w→Ret P f vs w fun u w'=>∃ x,u = val x∧Wd NoS w (E x) w'∧φ x)
  (k : ∀ x,φ x→G N ds S w0 ((d,val x)::L) (E x++H) (wpListIn (FW ro) 0 P ops Q rest)) : G N ds S w0 L H (wpListIn (FW ro) 0 P ops Q (⟨some d,.call { callee:=.value (.func f),args:=args.toArray,argTypes:=tys },ty,pos,aft,none⟩::rest)):=by
 intro a w hS
 refine g_call (S:=S) (w0:=w0) (H:=H) (fun _ u w'=>∃ x,u = val x∧Wd S w0 (E x++H) w'∧φ x) hd (fun w hw=>(hc w hw).mono fun v w' ⟨x,h1,h2,h3⟩=>⟨x,h1,hw.more h2,h3⟩) (fun v w w' hw hR a hF=>?_) a w hS
 obtain ⟨x,rfl,h2,h3⟩:=hR
 exact k x h3 a w' ⟨hF,h2⟩
theorem g_ret1 {fn : Func} {R : Value→World→Prop} {t : Nat} {v : Value} (hr : fn.results = #[.tmp t]) [hv : SlotIs L t v] (hR : ∀ w,Wd S w0 H w→R v w) : G N [] S w0 L H (bodyPost P fn (fun e w'=>∃ v,e = .returned v∧R v w') .ret):=fun a w hS =>
 ⟨hS.fr.defers,v,by rw [results_tmp hr]; simp [Array.getD_eq_getD_getElem?,hS.fr.slot _ hv.mem],v,rfl,hR w hS.wd⟩
theorem g_retV {fn : Func} {t : Nat} {u v : Value} (hr : fn.results = #[.tmp t]) [hv : SlotIs L t v] (hu : v = u) : G N [] NoS w0 L H (bodyPost P fn (fun e w'=>∃ v,e = .returned v∧v = u∧Chg NoS w0 w') .ret) :=
 g_ret1 hr fun _ hw=>⟨hu,hw.chg⟩
theorem g_ret2 {fn : Func} {R : Value→World→Prop} {t s : Nat} {v u : Value} (hr : fn.results = #[.tmp t,.tmp s]) [hv : SlotIs L t v] [hu : SlotIs L s u] (hR : ∀ w,Wd S w0 H w→R (.tuple #[v,u]) w) : G N [] S w0 L H (bodyPost P fn (fun e w'=>∃ v,e = .returned v∧R v w') .ret):=fun a w hS =>
 ⟨hS.fr.defers,.tuple #[v,u],by rw [results_tmp2 hr]; simp [Array.getD_eq_getD_getElem?,hS.fr.slot _ hv.mem,hS.fr.slot _ hu.mem],_,rfl,hR w hS.wd⟩
theorem g_ret0 {fn : Func} {R : Value→World→Prop} (hr : fn.results = #[]) (hR : ∀ w,Wd S w0 H w→R (.tuple #[]) w) : G N [] S w0 L H (bodyPost P fn (fun e w'=>∃ v,e = .returned v∧R v w') .ret):=fun _ w hS =>
 ⟨hS.fr.defers,.tuple #[],results_none hr _ _ _,_,rfl,hR w hS.wd⟩
theorem g_end0 {fn : Func} {R : Value→World→Prop} (hr : fn.results = #[]) (hR : ∀ w,Wd S w0 H w→R (.tuple #[]) w) : G N [] S w0 L H (bodyPost P fn (fun e w'=>∃ v,e = .returned v∧R v w') .normal):=fun _ w hS =>
 ⟨hS.fr.defers,.tuple #[],results_none hr _ _ _,_,rfl,hR w hS.wd⟩
def GQ (N : Nat) (ds : List Deferred) (L : List (Nat × Value)) (p : Act→Prop) : Prop:=∀ a,Fr N ds L a→p a
theorem g_draw {id : Nat} {l : List Oper} (hm : P.follows .mixedOrders = true) (hB : Region.lexB .any l.toArray = true)
  (h : GQ N ds L (wpQuiet P l.toArray (Wd S w0 H) (fun a'=>∀ w',Wd S w0 H w'→Q .normal a' w') l)) : G N ds S w0 L H (Code.wpIn (FW none) 0 P (Code.region id l.toArray true) Q):=fun a w hS =>
 wpIn_wide.2 (wp_region_quiet hm hB (hS.wd.same rfl rfl rfl rfl) (by simpa using h a hS.fr))
theorem q_nil (h : G N ds S w0 L H p) : GQ N ds L (wpQuiet P ops (Wd S w0 H) (fun a'=>∀ w',Wd S w0 H w'→p a' w') []):=fun a hF w hw=>h a w ⟨hF,hw⟩
theorem q_op {Qq : Act→Prop} {d ty : Nat} {pos : String} {aft : Array Go.Edge} {op : Op} {v : Value} [h : RunsC P N ds S w0 L H op v] (hd : okPut d N L = true)
  (k : GQ N ds ((d,v)::L) (wpQuiet P ops (Wd S w0 H) Qq rest)) : GQ N ds L (wpQuiet P ops (Wd S w0 H) Qq (⟨some d,op,ty,pos,aft,none⟩::rest)):=by
 intro a hF
 have h2 : Region.wanted (⟨some d,op,ty,pos,aft,none⟩ : Oper) (yielded ops a.tmps) = true:=rfl
 refine BigFrame.wpQuiet_want h2 fun K hK=>⟨v,fun w hw=>?_,hK _ (k _ (hF.putOk hd v))⟩
 unfold Oper.quietAt
 rw [h.run _ _ _ _ _ a w hF hw]
 exact ⟨rfl,rfl⟩
theorem q_opS {Qq : Act→Prop} {d ty : Nat} {pos : String} {aft : Array Go.Edge} {op : Op} {v : Value} [h : RunsC P N ds S w0 L H op v] [hs : Stale L d L'] (hd : okPut d N L' = true)
  (k : GQ N ds ((d,v)::L') (wpQuiet P ops (Wd S w0 H) Qq rest)) : GQ N ds L (wpQuiet P ops (Wd S w0 H) Qq (⟨some d,op,ty,pos,aft,none⟩::rest)):=by
 intro a hF
 have h2 : Region.wanted (⟨some d,op,ty,pos,aft,none⟩ : Oper) (yielded ops a.tmps) = true:=rfl
 refine BigFrame.wpQuiet_want h2 fun K hK=>⟨v,fun w hw=>?_,hK _ (k _ ((hF.stale (L':=L') d).putOk hd v))⟩
 unfold Oper.quietAt
 rw [h.run _ _ _ _ _ a w hF hw]
 exact ⟨rfl,rfl⟩
theorem q_pass {Qq : Act→Prop} {d ty j t : Nat} {want b : Bool} {pos : String} {aft : Array Go.Edge} {op : Op} [hj : DstOf ops j t] [hn : NotB want b] [hb : SlotIs L t (.bool b)] (hd : okPut d N L = true)
  (k : GQ N ds ((d,undef)::L) (wpQuiet P ops (Wd S w0 H) Qq rest)) : GQ N ds L (wpQuiet P ops (Wd S w0 H) Qq (⟨some d,op,ty,pos,aft,some (j,want)⟩::rest)):=by
 intro a hF
 refine BigFrame.wpQuiet_skip ?_ (k _ (hF.putOk hd undef))
 simp only [Region.wanted,hF.yield (ops:=ops) (j:=j) (b:=b)]
 exact hn.ne
theorem q_open {Qq : Act→Prop} {d : Option Tmp} {ty j t : Nat} {want : Bool} {pos : String} {aft : Array Go.Edge} {op : Op} [hj : DstOf ops j t] [hb : SlotIs L t (.bool want)]
  (k : GQ N ds L (wpQuiet P ops (Wd S w0 H) Qq (⟨d,op,ty,pos,aft,none⟩::rest))) : GQ N ds L (wpQuiet P ops (Wd S w0 H) Qq (⟨d,op,ty,pos,aft,some (j,want)⟩::rest)):=by
 intro a hF
 have h1 : Region.wanted (⟨d,op,ty,pos,aft,some (j,want)⟩ : Oper) (yielded ops a.tmps) = true:=by
  simp only [Region.wanted,hF.yield (ops:=ops) (j:=j) (b:=want)]
  simp
 have h2 : Region.wanted (⟨d,op,ty,pos,aft,none⟩ : Oper) (yielded ops a.tmps) = true:=rfl
 have k:=k a hF
 unfold wpQuiet at k ⊢
 rw [if_pos h1]
 rw [if_pos h2] at k
 exact k
end
def Ent.vec (a : Option Addr) (n c e s : Nat) (xs : List Value) : Ent :=
 ⟨fun k=>a.map (·.block) = some k,fun w=>xs.length = n * s∧((a = none∧n = 0∧c = 0) ∨
  ∃ (g : Nat) (pre sp : List Value),a = some ⟨g,pre.length,none⟩∧n ≤ c∧c ≤ maxLen∧(c - n) * s ≤ sp.length∧w.heap[g]? = some (.cells (pre++xs++sp).toArray e (0,0)))⟩
section
variable {S : Nat→Prop} {w0 w w' : World} {H : List Ent}
theorem Wd.vecAt (h : Wd S w0 H w) {k : Nat} {b o n c e s : Nat} {xs : List Value} (hk : H[k]? = some (Ent.vec (some ⟨b,o,none⟩) n c e s xs)) :
  xs.length = n * s∧n ≤ c∧c ≤ maxLen∧∃ pre sp : List Value,pre.length = o∧(c - n) * s ≤ sp.length∧w.heap[b]? = some (.cells (pre++xs++sp).toArray e (0,0)):=by
 obtain ⟨h1,h2⟩:=h.get hk
 rcases h2 with ⟨h2,_⟩|⟨g,pre,sp,h2,h3,h4,h5,h6⟩
 ·cases h2
 ·simp only [Option.some.injEq,Addr.mk.injEq,and_true] at h2
  obtain ⟨rfl,rfl⟩:=h2
  exact ⟨h1,h3,h4,pre,sp,rfl,h5,h6⟩
theorem Wd.vecCell (h : Wd S w0 H w) {k : Nat} {b o n c e s j : Nat} {xs : List Value} {v : Value} (hk : H[k]? = some (Ent.vec (some ⟨b,o,none⟩) n c e s xs)) (hv : xs[j]? = some v) : w.cell? ⟨b,o + j,none⟩ = some v:=by
 obtain ⟨_,_,_,pre,sp,rfl,_,hb⟩:=h.vecAt hk
 have hj : j < xs.length:=(List.getElem?_eq_some_iff.1 hv).1
 have hv':=(List.getElem?_eq_some_iff.1 hv).2
 simp [World.cell?,hb,List.getElem?_append,hj,hv']
theorem Wd.nilVec (h : Wd S w0 H w) (e s : Nat) : Wd S w0 (Ent.vec none 0 0 e s []::H) w :=
 ⟨h.chg,fun x hx b hb=>by
  rcases List.mem_cons.1 hx with rfl|hx
  ·simp [Ent.vec] at hb
  ·exact h.own x hx b hb,fun x hx w' hs' hw'=>by
  rcases List.mem_cons.1 hx with rfl|hx
  ·exact ⟨by simp,.inl ⟨rfl,rfl,rfl⟩⟩
  ·exact h.ok x hx w' hs' hw',List.pairwise_cons.2 ⟨fun x _ b hb=>by simp [Ent.vec] at hb,h.apart⟩⟩
theorem Wd.vecNew (h : Wd S w0 H w) (e s n : Nat) (xs : List Value) (hl : xs.length = n * s) (hn : n ≤ maxLen) : Wd S w0 (Ent.vec (some ⟨w.heap.size,0,none⟩) n n e s xs::H) (w.alloc (.cells xs.toArray e)):=by
 refine Wd.more (E:=[_]) h ⟨Chg.alloc _ _ _,?_,?_,by simp⟩
 ·intro x hx b hb
  simp only [List.mem_singleton] at hx
  subst hx
  simp only [Ent.vec,Option.map_some,Option.some.injEq] at hb
  subst hb
  exact ⟨.inr (Nat.le_refl _),by simp⟩
 ·intro x hx w2 _ hw2
  simp only [List.mem_singleton] at hx
  subst hx
  have:=hw2 w.heap.size (by simp [Ent.vec])
  refine ⟨hl,.inr ⟨w.heap.size,[],[],rfl,Nat.le_refl _,hn,by simp,?_⟩⟩
  rw [this]
  simpa using heap_alloc_new w (.cells xs.toArray e)
theorem Wd.setVec (h : Wd S w0 H w) {k : Nat} {b o n c e s j : Nat} {xs : List Value} (v : Value) (hk : H[k]? = some (Ent.vec (some ⟨b,o,none⟩) n c e s xs)) (hj : j < xs.length) :
  Wd S w0 (H.set k (Ent.vec (some ⟨b,o,none⟩) n c e s (xs.set j v))) (w.setCell ⟨b,o + j,none⟩ v):=by
 obtain ⟨h1,h2,h3,pre,sp,rfl,h5,hb⟩:=h.vecAt hk
 have hlt : b < w.heap.size:=(Array.getElem?_eq_some_iff.1 hb).1
 refine h.turnAt hk ((Chg.setCell w _ v).mono fun x _ hx=>?_) (fun b' hb'=>?_) fun w2 hw2=>?_
 ·simp only [Ent.vec,Option.map_some,Option.some.injEq]; exact hx.symm
 ·simp only [Ent.vec,Option.map_some,Option.some.injEq] at hb' ⊢
  subst hb'
  exact ⟨.inl rfl,by simpa [World.setCell] using hlt⟩
 ·have:=hw2 b (by simp [Ent.vec])
  refine ⟨by simpa using h1,.inr ⟨b,pre,sp,rfl,h2,h3,h5,?_⟩⟩
  rw [this,heap_set_same hb v]
  simp [hj]
theorem Wd.slAt (h : Wd S w0 H w) {α : Type} {V : World→α→List Value→Prop} {k : Nat} {a : Option Addr} {n c e s : Nat} {xs : List Value} {l : List α} (hk : H[k]? = some (Ent.vec a n c e s xs)) (hn : n = l.length) (hb : n ≤ 140737488355328)
  (hV : ∀ i x,l[i]? = some x→∃ cs : List Value,(∀ j v,cs[j]? = some v→xs[i * s + j]? = some v)∧V w x cs) : SlAt w (.slice a n c) s l V:=by
 obtain ⟨h1,h2⟩:=h.get hk
 rcases h2 with ⟨rfl,rfl,rfl⟩|⟨g,pre,sp,rfl,h3,h4,h5,h6⟩
 ·have : l = []:=List.eq_nil_of_length_eq_zero hn.symm
  subst this
  exact ⟨none,0,0,0,0,rfl,rfl,Nat.le_refl _,by omega,by omega,by simp,by simp⟩
 ·refine ⟨_,n,c,g,pre.length,rfl,hn,h3,hb,by simpa [maxLen] using h4,fun _=>rfl,fun i x hx=>?_⟩
  obtain ⟨cs,hc,hv⟩:=hV i x hx
  refine ⟨cs,fun j v hj=>?_,hv⟩
  have:=h.vecCell hk (hc j v hj)
  rwa [← Nat.add_assoc] at this
end
instance : SuccIs 8 9:=⟨rfl⟩
instance : SuccIs 9 10:=⟨rfl⟩
instance : SuccIs 10 11:=⟨rfl⟩
instance : SuccIs 11 12:=⟨rfl⟩
instance : SuccIs 12 13:=⟨rfl⟩
instance : SuccIs 13 14:=⟨rfl⟩
instance : SuccIs 14 15:=⟨rfl⟩
instance : SuccIs 15 16:=⟨rfl⟩
instance : SuccIs 16 17:=⟨rfl⟩
instance : SuccIs 17 18:=⟨rfl⟩
instance : SuccIs 18 19:=⟨rfl⟩
instance : SuccIs 19 20:=⟨rfl⟩
instance : SuccIs 20 21:=⟨rfl⟩
instance : SuccIs 21 22:=⟨rfl⟩
instance : SuccIs 22 23:=⟨rfl⟩
instance : SuccIs 23 24:=⟨rfl⟩
instance : SuccIs 24 25:=⟨rfl⟩
instance : SuccIs 25 26:=⟨rfl⟩
instance : SuccIs 26 27:=⟨rfl⟩
instance : SuccIs 27 28:=⟨rfl⟩
instance : SuccIs 28 29:=⟨rfl⟩
instance : SuccIs 29 30:=⟨rfl⟩
instance : SuccIs 30 31:=⟨rfl⟩
instance : SuccIs 31 32:=⟨rfl⟩
instance : SuccIs 32 33:=⟨rfl⟩
instance : SuccIs 33 34:=⟨rfl⟩
instance : SuccIs 34 35:=⟨rfl⟩
instance : SuccIs 35 36:=⟨rfl⟩
instance : SuccIs 36 37:=⟨rfl⟩
instance : SuccIs 37 38:=⟨rfl⟩
class LenO {α : Type} (l : List α) (n : outParam Nat) : Prop where
 eq : l.length = n
instance {α : Type} : LenO ([] : List α) 0:=⟨rfl⟩
instance {α : Type} (x : α) (l : List α) (i j : Nat) [h : LenO l i] [hj : SuccIs i j] : LenO (x::l) j:=⟨by rw [List.length_cons,h.eq,hj.eq]⟩
class ElemInfo (P : Program) (T : Nat) (e s by' : outParam Nat) (zs : outParam (List Value)) : Prop where
 und : P.underlying T = some (.slice e)
 info : (P.info? e).map (fun i=>(i.zero.map (·.cells.toList),i.size,i.bytes)) = some (some zs,s,by')
theorem ElemInfo.get {P : Program} {T e s by' : Nat} {zs : List Value} (h : ElemInfo P T e s by' zs) : ∃ i z,P.info? e = some i∧i.zero = some z∧z.cells = zs.toArray∧i.size = s∧i.bytes = by':=by
 obtain ⟨i,hi,h1⟩:=Option.map_eq_some_iff.1 h.info
 simp only [Prod.mk.injEq] at h1
 obtain ⟨h1,h2,h3⟩:=h1
 obtain ⟨z,hz,h4⟩:=Option.map_eq_some_iff.1 h1
 exact ⟨i,z,hi,hz,by rw [← h4],h2,h3⟩
class VecIn (H : List Ent) (a : Option Addr) (n c : Nat) (k e s : outParam Nat) (xs : outParam (List Value)) : Prop where
 at' : H[k]? = some (Ent.vec a n c e s xs)
instance (a : Option Addr) (n c e s : Nat) (xs : List Value) (H : List Ent) : VecIn (Ent.vec a n c e s xs::H) a n c 0 e s xs:=⟨rfl⟩
instance (a : Option Addr) (n c e s k : Nat) (xs : List Value) (H : List Ent) (x : Ent) [h : VecIn H a n c k e s xs] : VecIn (x::H) a n c (k + 1) e s xs:=⟨h.at'⟩
class ElAt {α : Type} (l : List α) (i : Nat) (x : outParam α) : Prop where
 eq : l[i]? = some x
class XAt (xs : List Value) (j : Nat) (v : outParam Value) : Prop where
 eq : xs[j]? = some v
instance {α : Type} (f : α→Value) (l : List α) (i : Nat) (x : α) [h : ElAt l i x] : XAt (l.map f) (i * 1) (f x):=⟨by simp [h.eq]⟩
class XSet (xs : List Value) (j : Nat) (v : Value) (xs' : outParam (List Value)) : Prop where
 eq : xs.set j v = xs'
 lt : j < xs.length
instance {α : Type} (f : α→Value) (l : List α) (i : Nat) (x y : α) [h : ElAt l i y] : XSet (l.map f) (i * 1) (f x) ((l.set i x).map f) :=
 ⟨by simp [List.map_set],by have:=(List.getElem?_eq_some_iff.1 h.eq).1; simpa using this⟩
class OwnCell (H : List Ent) (b off : Nat) (v : outParam Value) : Prop where
 eq : ∀ S w0 w,Wd S w0 H w→w.cell? ⟨b,off,none⟩ = some v
instance (b o j n c e s : Nat) (xs : List Value) (v : Value) (H : List Ent) [h : XAt xs j v] : OwnCell (Ent.vec (some ⟨b,o,none⟩) n c e s xs::H) b (o + j) v :=
 ⟨fun _ _ _ hw=>Wd.vecCell hw (k:=0) rfl h.eq⟩
instance (b off : Nat) (v : Value) (x : Ent) (H : List Ent) [h : OwnCell H b off v] : OwnCell (x::H) b off v:=⟨fun S w0 w hw=>h.eq S w0 w (hw.sub (List.sublist_cons_self _ _))⟩
class OwnAt (H : List Ent) (b off : Nat) (k o j n c e s : outParam Nat) (xs : outParam (List Value)) : Prop where
 at' : H[k]? = some (Ent.vec (some ⟨b,o,none⟩) n c e s xs)
 eq : off = o + j
instance (b o j n c e s : Nat) (xs : List Value) (H : List Ent) : OwnAt (Ent.vec (some ⟨b,o,none⟩) n c e s xs::H) b (o + j) 0 o j n c e s xs:=⟨rfl,rfl⟩
instance (b off k o j n c e s : Nat) (xs : List Value) (x : Ent) (H : List Ent) [h : OwnAt H b off k o j n c e s xs] : OwnAt (x::H) b off (k + 1) o j n c e s xs:=⟨h.at',h.eq⟩
class PartAt (cs : List Value) (o n : Nat) (vs : outParam (List Value)) : Prop where
 len : vs.length = n
 eq : ∀ j v,vs[j]? = some v→cs[o + j]? = some v
instance (cs : List Value) : PartAt cs 0 0 []:=⟨rfl,by simp⟩
instance (c : Value) (cs vs : List Value) (n : Nat) [h : PartAt cs 0 n vs] : PartAt (c::cs) 0 (n + 1) (c::vs):=⟨by simp [h.len],fun j v hj=>by
 cases j with
 | zero=>simpa using hj
 | succ j=>simpa using h.eq j v (by simpa using hj)⟩
instance (c : Value) (cs vs : List Value) (o n : Nat) [h : PartAt cs o n vs] : PartAt (c::cs) (o + 1) n vs:=⟨h.len,fun j v hj=>by
 have:=h.eq j v hj
 rw [show o + 1 + j = (o + j) + 1 by omega]
 simpa using this⟩
class SetFn (H : List Ent) (k : Nat) (f : outParam (Ent→List Ent)) : Prop where
 eq : ∀ e,H.set k e = f e
instance (x : Ent) (H : List Ent) : SetFn (x::H) 0 (fun e=>e::H):=⟨fun _=>rfl⟩
instance (x : Ent) (H : List Ent) (k : Nat) (f : Ent→List Ent) [h : SetFn H k f] : SetFn (x::H) (k + 1) (fun e=>x::f e):=⟨fun e=>by rw [List.set_cons_succ,h.eq]⟩
theorem Wd.boxCells {S : Nat→Prop} {w0 w : World} {H : List Ent} (h : Wd S w0 H w) (b : Nat) {k t : Nat} {cs : List Value} [hb : BoxIn H b k cs t] : CellsAt w b 0 cs:=fun j v hj=>by rw [Nat.zero_add]; exact h.cellBox k hb.at' hj
section
variable {P : Program} {ro : Option Nat} {N : Nat} {ds : List Deferred} {S : Nat→Prop} {w0 : World} {L L' : List (Nat × Value)} {H H' : List Ent} {a : Act} {w : World}
 {ops : Array Oper} {rest : List Oper} {Q : Exit→Act→World→Prop} {p : Act→World→Prop} {x y : Operand}
instance {T b off : Nat} {v : Value} [h : OneCell P T] [hx : Ev L x (.pointer (some ⟨b,off,none⟩))] [hc : OwnCell H b off v] : RunsC P N ds S w0 L H (.load T x) v :=
 ⟨fun _ h=>(by cases h),fun _ _ h=>(by cases h),fun _ _ _ _ _ a w hF hW=>by simp [execOp,hx.eq _ _ _ hF,run_loadOne (hc.eq _ _ _ hW)]⟩
instance (priority:=low) {T b o j t n : Nat} {cs vs : List Value} [h : AggSize P T n] [hx : Ev L x (.pointer (some ⟨b,o,none⟩))] [hb : BoxIn H b j cs t] [hp : PartAt cs o n vs] : RunsC P N ds S w0 L H (.load T x) (.agg vs.toArray) :=
 ⟨fun _ h=>(by cases h),fun _ _ h=>(by cases h),fun _ _ _ _ _ a w hF hW=>by
  have:=run_loadAgg (P:=P) (T:=T) hp.len (fun i v hv=>hW.cellBox j hb.at' (hp.eq i v hv) : CellsAt w b o vs)
  simp [execOp,hx.eq _ _ _ hF,this]⟩
instance (priority:=low) {b j : Nat} {cs : List Value} {v : Value} {w : World} [h : CellsIs w b 0 cs] [hv : ListAt cs j v] : CellIs w b j v:=⟨by simpa using h.eq j v hv.at'⟩
instance (priority:=low) {T b f n : Nat} {cs vs : List Value} [h : AggSize P T n] [hx : Ev L x (.pointer (some ⟨b,f,none⟩))] [hc : CellsIs w0 b 0 cs] [hp : PartAt cs f n vs] [hs : OldIs S b] : RunsC P N ds S w0 L H (.load T x) (.agg vs.toArray) :=
 ⟨fun _ h=>(by cases h),fun _ _ h=>(by cases h),fun _ _ _ _ _ a w hF hW=>by
  have:=run_loadAgg (P:=P) (T:=T) hp.len (fun i v hv=>by have h1:=hc.eq _ _ (hp.eq i v hv); rw [Nat.zero_add] at h1; exact hW.cellOld h1 hs.no : CellsAt w b f vs)
  simp [execOp,hx.eq _ _ _ hF,this]⟩
class ArrOf (P : Program) (T : Nat) (n s : outParam Nat) : Prop where
 und : P.underlying T = some (.array (P.arrayLen T) (P.elem T))
 len : P.arrayLen T = n
 sz : ∀ w : World,(sizeOf (P.elem T)).run P w = .ok s w
instance {T b o n i s : Nat} {z : Int} [hx : Ev L x (.pointer (some ⟨b,o,none⟩))] [hy : Ev L y (.int .i64 z)] [hz : NatIs z i] [h : ArrOf P T n s] [hi : LtIs i n] : RunsC P N ds S w0 L H (.indexAddr T x y) (.pointer (some ⟨b,o + i * s,none⟩)) :=
 ⟨fun _ h=>(by cases h),fun _ _ h=>(by cases h),fun _ _ _ _ _ a w hF _=>by
  have h1:=hx.eq _ _ _ hF
  have h2:=hy.eq _ _ _ hF
  rw [hz.eq] at h2
  have hlt:=hi.lt
  simp [execOp,h1,h2,run_indexAt_array w T ⟨b,o,none⟩ .i64 i h.und,h.sz,h.len,hlt,Addr.add_lit]⟩
class IsStr (P : Program) (T : Nat) : Prop where
 und : P.underlying T = some .string
instance {T : Nat} {s : ByteArray} [hx : Ev L x (.string s)] [h : IsStr P T] : RunsC P N ds S w0 L H (.call { callee:=.builtin .len,args:=#[x],argTypes:=#[T] }) (.int .i64 s.size) :=
 ⟨fun _ h=>(by cases h),fun _ _ h=>(by cases h),fun _ ty _ _ _ a w hF _=>by simp [execOp,resolve,invoke,builtin,hx.eq _ _ _ hF,run_len_string w T ty s h.und,goInt]⟩
class ByteIs (s : ByteArray) (i : Nat) (c : outParam Int) : Prop where
 lt : i < s.size
 eq : ((s[i]'lt).toNat : Int) = c
instance {T i : Nat} {s : ByteArray} {z c : Int} [hx : Ev L x (.string s)] [hy : Ev L y (.int .i64 z)] [hz : NatIs z i] [hb : ByteIs s i c] [h : IsStr P T] : RunsC P N ds S w0 L H (.index T x y) (.int .u8 c) :=
 ⟨fun _ h=>(by cases h),fun _ _ h=>(by cases h),fun _ _ _ _ _ a w hF _=>by
  have h1:=hx.eq _ _ _ hF
  have h2:=hy.eq _ _ _ hF
  rw [hz.eq] at h2
  have hlt:=hb.lt
  have he:=hb.eq
  simp [execOp,h1,h2,run_index_string w T s .i64 i h.und,hlt,he]⟩
instance {vs : List Value} {i : Nat} {v : Value} [hx : Ev L x (.tuple vs.toArray)] [hv : ListAt vs i v] : RunsC P N ds S w0 L H (.extract x i) v :=
 ⟨fun _ h=>(by cases h),fun _ _ h=>(by cases h),fun _ _ _ _ _ a w hF _=>by simp [execOp,hx.eq _ _ _ hF,Instr.extract,hv.at']⟩
theorem runs_addW {T T2 : Nat} {m n : Int} [hx : Ev L x (.int .i64 m)] [hy : Ev L y (.int .i64 n)] : RunsC P N ds S w0 L H (.binOp .add T x y T2) (.int .i64 (IntKind.i64.wrap (m + n))) :=
 runs_bin (fun _=>rfl) fun w=>by rw [binOp_add]; simp [Op.intArith]
theorem q_addW {Qq : Act→Prop} {d ty T T2 : Nat} {pos : String} {aft : Array Go.Edge} {m n : Int} [hx : Ev L x (.int .i64 m)] [hy : Ev L y (.int .i64 n)] (hd : okPut d N L = true)
  (k : GQ N ds ((d,.int .i64 (IntKind.i64.wrap (m + n)))::L) (wpQuiet P ops (Wd S w0 H) Qq rest)) : GQ N ds L (wpQuiet P ops (Wd S w0 H) Qq (⟨some d,.binOp .add T x y T2,ty,pos,aft,none⟩::rest)):=by
 have:=runs_addW (P:=P) (N:=N) (ds:=ds) (S:=S) (w0:=w0) (H:=H) (T:=T) (T2:=T2) (x:=x) (y:=y) (L:=L)
 exact q_op hd k
theorem Fr.yieldU (h : Fr N ds L a) {j t : Nat} [hj : DstOf ops j t] [hb : SlotIs L t undef] : yielded ops a.tmps j = none:=by
 have:=h.slot _ hb.mem
 simp only at this
 simp [yielded,hj.eq,this,undef]
theorem g_passU {d ty j t : Nat} {want : Bool} {pos : String} {aft : Array Go.Edge} {op : Op} [hj : DstOf ops j t] [hb : SlotIs L t undef] (hd : okPut d N L = true)
  (k : G N ds S w0 ((d,undef)::L) H (wpListIn (FW ro) 0 P ops Q rest)) : G N ds S w0 L H (wpListIn (FW ro) 0 P ops Q (⟨some d,op,ty,pos,aft,some (j,want)⟩::rest)):=by
 intro a w hS
 refine wpListIn_step fun K hK=>?_
 have h1 : Region.wanted (⟨some d,op,ty,pos,aft,some (j,want)⟩ : Oper) (yielded ops a.tmps) = false:=by
  simp only [Region.wanted,hS.fr.yieldU (ops:=ops) (j:=j)]
  rfl
 rw [h1]
 exact ⟨fun _ _=>trivial,hK _ _ (k _ _ ⟨hS.fr.putOk hd undef,hS.wd⟩)⟩
theorem q_passU {Qq : Act→Prop} {d ty j t : Nat} {want : Bool} {pos : String} {aft : Array Go.Edge} {op : Op} [hj : DstOf ops j t] [hb : SlotIs L t undef] (hd : okPut d N L = true)
  (k : GQ N ds ((d,undef)::L) (wpQuiet P ops (Wd S w0 H) Qq rest)) : GQ N ds L (wpQuiet P ops (Wd S w0 H) Qq (⟨some d,op,ty,pos,aft,some (j,want)⟩::rest)):=by
 intro a hF
 refine BigFrame.wpQuiet_skip ?_ (k _ (hF.putOk hd undef))
 simp only [Region.wanted,hF.yieldU (ops:=ops) (j:=j)]
 rfl
class SplitTo (l : List Oper) (d : Nat) (l1 l2 : outParam (List Oper)) : Prop where
 eq : ∃ n,l.take n = l1∧l.drop n = l2
instance (priority:=2000) (d ty : Nat) (op : Op) (pos : String) (aft : Array Go.Edge) (gd : Option (Nat × Bool)) (l : List Oper) : SplitTo (⟨some d,op,ty,pos,aft,gd⟩::l) d [⟨some d,op,ty,pos,aft,gd⟩] l:=⟨1,by simp,by simp⟩
instance (d : Nat) (o : Oper) (l l1 l2 : List Oper) [h : SplitTo l d l1 l2] : SplitTo (o::l) d (o::l1) l2:=⟨by
 obtain ⟨n,h1,h2⟩:=h.eq
 exact ⟨n + 1,by simp [h1],by simp [h2]⟩⟩
theorem g_joinTo {l l1 l2 : List Oper} (d : Nat) (val : Value) [hs : SplitTo l d l1 l2]
  (h1 : G N ds S w0 L H (wpListIn (FW ro) 0 P ops (Exit.then (St N ds S w0 ((d,val)::L) H) Q) l1))
  (h2 : G N ds S w0 ((d,val)::L) H (wpListIn (FW ro) 0 P ops Q l2)) : G N ds S w0 L H (wpListIn (FW ro) 0 P ops Q l):=fun a w hS=>by
 obtain ⟨n,e1,e2⟩:=hs.eq
 exact wpl_split (M:=St N ds S w0 ((d,val)::L) H) n (fun a w h=>by rw [e2]; exact h2 a w h) (by rw [e1]; exact h1 a w hS)
theorem g_mid {c y : Code} (L' : List (Nat × Value)) (H' : List Ent) (h1 : G N ds S w0 L H (Code.wpIn (FW ro) 0 P c (Exit.then (St N ds S w0 L' H') Q))) (h2 : G N ds S w0 L' H' (Code.wpIn (FW ro) 0 P y Q)) : G N ds S w0 L H (Code.wpIn (FW ro) 0 P c (Exit.then (Code.wpIn (FW ro) 0 P y Q) Q)):=fun a w hS =>
 Code.wpIn_mono (fun e a' w' q=>by
  cases e with
  | normal=>exact h2 a' w' q
  | _=>exact q) (h1 a w hS)
theorem g_vec (k : Nat) {ad : Option Addr} {n c e s : Nat} {xs : List Value} (hk : H[k]? = some (Ent.vec ad n c e s xs)) (hn : 0 < n) (h : ∀ b o,ad = some ⟨b,o,none⟩→G N ds S w0 L H p) : G N ds S w0 L H p:=fun a w hS=>by
 obtain ⟨_,h2⟩:=hS.wd.get hk
 rcases h2 with ⟨_,h2,_⟩|⟨g,pre,sp,h2,_⟩
 ·omega
 ·exact h _ _ h2 a w hS
theorem g_vecLe (k : Nat) {ad : Option Addr} {n c e s : Nat} {xs : List Value} (hk : H[k]? = some (Ent.vec ad n c e s xs)) (h : xs.length = n * s→n ≤ c→c ≤ 9223372036854775807→G N ds S w0 L H p) : G N ds S w0 L H p:=fun a w hS=>by
 obtain ⟨h1,h2⟩:=hS.wd.get hk
 rcases h2 with ⟨_,h2,h3⟩|⟨g,pre,sp,_,h3,h4,_⟩
 ·exact h h1 (by omega) (by omega) a w hS
 ·exact h h1 h3 (by simpa [maxLen] using h4) a w hS
theorem g_nilVec (e s : Nat) (h : G N ds S w0 L (Ent.vec none 0 0 e s []::H) p) : G N ds S w0 L H p:=fun a w hS=>h a w ⟨hS.fr,hS.wd.nilVec e s⟩
theorem g_storeV {ty T b off k o j n c e s : Nat} [h : OneCell P T] {xs xs' : List Value} {v : Value} {pos : String} {aft : Array Go.Edge}
  [hx : Ev L x (.pointer (some ⟨b,off,none⟩))] [hy : Ev L y v] [h1 : OneV v] [hb : OwnAt H b off k o j n c e s xs] [hu : XSet xs j v xs'] [hH : SetAt H k (Ent.vec (some ⟨b,o,none⟩) n c e s xs') H']
  (kk : G N ds S w0 L H' (wpListIn (FW ro) 0 P ops Q rest)) : G N ds S w0 L H (wpListIn (FW ro) 0 P ops Q (⟨none,.store T x y,ty,pos,aft,none⟩::rest)):=by
 intro a w hS
 obtain ⟨_,_,_,pre,sp,hpre,_,hbx⟩:=hS.wd.vecAt hb.at'
 have e1:=hb.eq
 subst e1
 have hlt:=hu.lt
 refine step_skip (w':=w.setCell ⟨b,o + j,none⟩ v) rfl (fun _ h=>by cases h) ?_ ?_
 ·have hc:=hS.wd.vecCell hb.at' (List.getElem?_eq_getElem hlt)
  have:=run_storeOne (P:=P) (T:=T) h1.one hc (by simp [World.frozen?,hbx])
  simp [execOp,hx.eq _ _ _ hS.fr,hy.eq _ _ _ hS.fr,this]
 ·refine kk _ _ ⟨hS.fr,?_⟩
  have:=hS.wd.setVec v hb.at' hlt
  rw [hu.eq,hH.set'] at this
  exact this
theorem toList_madeCells (zs : List Value) (n : Nat) : (madeCells zs.toArray (n * zs.length)).toList = (List.replicate n zs).flatten:=by
 cases zs with
 | nil=>simp [madeCells]
 | cons z zs =>
  apply List.ext_getElem?
  intro i
  have h0 : 0 < (z::zs).length:=by simp
  rw [show (madeCells (z::zs).toArray (n * (z::zs).length)).toList[i]? = (madeCells (z::zs).toArray (n * (z::zs).length))[i]? by simp]
  by_cases hi : i < n * (z::zs).length
  ·have e : ((List.replicate n (z::zs)).flatten)[i]? = (z::zs)[i % (z::zs).length]?:=by
    clear h0
    induction n generalizing i with
    | zero=>simp at hi
    | succ n ih =>
     rw [List.replicate_succ,List.flatten_cons]
     by_cases h1 : i < (z::zs).length
     ·rw [List.getElem?_append_left h1,Nat.mod_eq_of_lt h1]
     ·rw [List.getElem?_append_right (by omega),ih (i - (z::zs).length) (by rw [Nat.add_mul] at hi; omega)]
      rw [Nat.mod_eq_sub_mod (a:=i) (by omega)]
   rw [e]
   have hlt : i % (z::zs).length < (z::zs).length:=Nat.mod_lt _ h0
   have hm : (madeCells (z::zs).toArray (n * (z::zs).length))[i]? = some ((z::zs).toArray[i % (z::zs).toArray.size]!):=by
    unfold madeCells
    simp only [Array.getElem?_map]
    rw [Array.getElem?_range]
    rw [if_pos hi]; rfl
   rw [hm,List.getElem?_eq_getElem hlt]
   simp [getElem!_def]
   rw [List.getElem?_eq_getElem (by simpa using hlt)]
  ·have e1 : (madeCells (z::zs).toArray (n * (z::zs).length)).size ≤ i:=by unfold madeCells; simp at hi ⊢; omega
   have e2 : ((List.replicate n (z::zs)).flatten).length ≤ i:=by rw [List.length_flatten]; simp at hi ⊢; omega
   rw [Array.getElem?_eq_none e1,List.getElem?_eq_none e2]
theorem g_make {d ty T e by' n : Nat} {z1 z2 : Int} {z : Value} {pos : String} {aft : Array Go.Edge} [h : ElemInfo P T e 1 by' [z]] [hx : Ev L x (.int .i64 z1)] [hz1 : NatIs z1 n] [hy : Ev L y (.int .i64 z2)] [hz2 : NatIs z2 n] (hd : okPut d N L = true) (hb : by' * n ≤ 281474976710656) (hm : n ≤ 9223372036854775807)
  (k : ∀ b,w0.heap.size ≤ b→G N ds S w0 ((d,.slice (some ⟨b,0,none⟩) n n)::L) (Ent.vec (some ⟨b,0,none⟩) n n e 1 (List.replicate n z)::H) (wpListIn (FW ro) 0 P ops Q rest)) : G N ds S w0 L H (wpListIn (FW ro) 0 P ops Q (⟨some d,.makeSlice T x y,ty,pos,aft,none⟩::rest)):=by
 intro a w hS
 obtain ⟨i,zz,hi,hzz,hcs,h1,h2⟩:=h.get
 have h3:=hx.eq _ _ _ hS.fr
 have h4:=hy.eq _ _ _ hS.fr
 rw [hz1.eq] at h3
 rw [hz2.eq] at h4
 have hb'' : (i.bytes : Int) * (n : Int) ≤ 281474976710656:=by
  have e : ((by' * n : Nat) : Int) ≤ 281474976710656:=by omega
  rw [Int.natCast_mul] at e; rw [h2]; exact e
 have hr:=run_make (P:=P) w T e i zz h.und hi hzz .i64 .i64 (n : Int) (n : Int) (by omega) (Int.le_refl _) hb'' (by omega)
 have hxs : madeCells zz.cells ((n : Int).toNat * i.size) = (List.replicate n z).toArray:=by
  have:=toList_madeCells [z] n
  rw [h1,hcs,Int.toNat_natCast]
  simp only [List.length_singleton] at this
  rw [show (List.replicate n [z]).flatten = List.replicate n z by simp] at this
  rw [← this]
 refine step_val (v:=.slice (some ⟨w.heap.size,0,none⟩) n n) (w':=w.alloc (.cells (List.replicate n z).toArray e)) rfl (fun _ h=>by cases h) ?_ ?_
 ·simp only [Int.toNat_natCast] at hr hxs
  simp [execOp,h3,h4,hr,hxs]
 ·exact k _ hS.wd.size _ _ ⟨hS.fr.putOk hd _,hS.wd.vecNew e 1 n _ (by rw [List.length_replicate,Nat.mul_one]) (by unfold maxLen; omega)⟩
theorem fill_one (v : Value) (cs zs : List Value) (hv : v.cells.toList = cs) (hz : zs.length = cs.length) : Instr.fill (fun i=>some (i * cs.length,cs.length)) zs.toArray [(0,v)] = some cs.toArray:=by
 have hs : v.cells.size = cs.length:=by rw [← hv]; simp
 have hf:=fold_putL cs zs 0 0 (by omega)
 have e : v.cells = cs.toArray:=by rw [← hv]
 have hp : putL zs 0 cs = cs:=by
  rw [← putL_eq zs 0 cs (by omega)]
  simp [hz]
 simp only [Instr.fill]
 rw [if_neg (by simp [hs,hz])]
 rw [e]
 simp only [Nat.zero_mul]
 simp only [Nat.add_zero] at hf
 rw [hp] at hf
 simpa using hf
theorem g_build1 {d ty T e by' : Nat} {zs cs : List Value} {s : Nat} {v : Value} {pos : String} {aft : Array Go.Edge} [h : ElemInfo P T e s by' zs] [hx : Ev L x v] [hv : CellsOf v cs] [hl : LenIs cs s] (hd : okPut d N L = true) (hs : ((Nat.blt 0 s && Nat.ble s 1000) && Nat.beq zs.length s) = true)
  (k : ∀ b,w0.heap.size ≤ b→G N ds S w0 ((d,.slice (some ⟨b,0,none⟩) 1 1)::L) (Ent.vec (some ⟨b,0,none⟩) 1 1 e s cs::H) (wpListIn (FW ro) 0 P ops Q rest)) : G N ds S w0 L H (wpListIn (FW ro) 0 P ops Q (⟨some d,.buildSlice T 1 #[(0,x)],ty,pos,aft,none⟩::rest)):=by
 intro a w hS
 obtain ⟨i,zz,hi,hzz,hcs,h1,h2⟩:=h.get
 simp only [Bool.and_eq_true,Nat.blt_eq,Nat.ble_eq] at hs
 have hle:=hl.eq
 refine step_val (v:=.slice (some ⟨w.heap.size,0,none⟩) 1 1) (w':=w.alloc (.cells cs.toArray e)) rfl (fun _ h=>by cases h) ?_ ?_
 ·have hr:=run_buildSlice (P:=P) w T e 1 #[(0,v)] cs.toArray i zz h.und hi hzz (by rw [h1]; omega) (by rw [h1]; omega) (by
   rw [h1,← hle]
   have:=fill_one v cs ((Array.range (1 * cs.length)).map (zz.cells[· % zz.cells.size]!)).toList hv.eq (by simp)
   rw [Array.toArray_toList] at this
   exact this)
  simp [execOp,hx.eq _ _ _ hS.fr,hr]
 ·exact k _ hS.wd.size _ _ ⟨hS.fr.putOk hd _,hS.wd.vecNew e s 1 _ (by omega) (by simp [maxLen])⟩
theorem fill_all : ∀ (vs : List Value) (i : Nat) (pre zs : List Value),(∀ v ∈ vs,v.oneCell' = true)→pre.length = i→zs.length = vs.length→Instr.fill (fun i=>some (i * 1,1)) (pre++zs).toArray (enumL i vs) = some (pre++vs).toArray
 | [],i,pre,zs,_,_,hz=>by
  have : zs = []:=List.eq_nil_of_length_eq_zero (by simpa using hz)
  subst this; rfl
 | v::vs,i,pre,[],_,_,hz=>by simp at hz
 | v::vs,i,pre,z::zs,h1,hp,hz=>by
  have hcs : v.cells = #[v]:=by have:=h1 v (by simp); cases v <;> first|rfl|cases this
  simp only [enumL,Instr.fill,hcs]
  rw [if_neg (by simp; omega)]
  have e : (Array.foldl (fun (cs : Array Value) (x : Value × Nat)=>cs.setIfInBounds (i * 1 + x.2) x.1) (pre++z::zs).toArray (#[v] : Array Value).zipIdx) = ((pre++[v])++zs).toArray:=by
   subst hp
   simp
  rw [e]
  have:=fill_all vs (i + 1) (pre++[v]) zs (fun u hu=>h1 u (List.mem_cons_of_mem _ hu)) (by simp [hp]) (by simpa using hz)
  simpa using this
class EnumP (parts : List (Nat × Value)) (vs : outParam (List Value)) (i : Nat) : Prop where
 eq : parts = enumL i vs
instance (i : Nat) : EnumP [] [] i:=⟨rfl⟩
instance (i j : Nat) (v : Value) (r : List (Nat × Value)) (vs : List Value) [hj : SuccIs i j] [h : EnumP r vs j] : EnumP ((i,v)::r) (v::vs) i:=⟨by simp only [enumL]; rw [hj.eq,← h.eq]⟩
theorem g_buildN {d ty T e by' n : Nat} {vparts : List (Nat × Value)} {parts : List (Nat × Operand)} {vs : List Value} {z : Value} {pos : String} {aft : Array Go.Edge} [h : ElemInfo P T e 1 by' [z]] [hx : Evp L parts vparts] [hv : EnumP vparts vs 0] [hl : LenIs vs n] [h1 : OneVs vs] (hd : okPut d N L = true) (hs : (Nat.blt 0 n && Nat.ble n 1000) = true)
  (k : ∀ b,w0.heap.size ≤ b→G N ds S w0 ((d,.slice (some ⟨b,0,none⟩) n n)::L) (Ent.vec (some ⟨b,0,none⟩) n n e 1 vs::H) (wpListIn (FW ro) 0 P ops Q rest)) : G N ds S w0 L H (wpListIn (FW ro) 0 P ops Q (⟨some d,.buildSlice T n parts.toArray,ty,pos,aft,none⟩::rest)):=by
 intro a w hS
 obtain ⟨i,zz,hi,hzz,hcs,h2,h3⟩:=h.get
 simp only [Bool.and_eq_true,Nat.blt_eq,Nat.ble_eq] at hs
 have hle:=hl.eq
 refine step_val (v:=.slice (some ⟨w.heap.size,0,none⟩) n n) (w':=w.alloc (.cells vs.toArray e)) rfl (fun _ h=>by cases h) ?_ ?_
 ·have hr:=run_buildSlice (P:=P) w T e n vparts.toArray vs.toArray i zz h.und hi hzz (by rw [h2]; omega) (by rw [h2]; omega) (by
   rw [h2,hv.eq]
   have:=fill_all vs 0 [] ((Array.range (n * 1)).map (zz.cells[· % zz.cells.size]!)).toList h1.all rfl (by simp [hle])
   rw [List.nil_append,List.nil_append,Array.toArray_toList] at this
   exact this)
  have e1 : (parts.toArray.map fun (p : Nat × Operand)=>(p.1,a.eval p.2)) = vparts.toArray:=by
   simp only [List.map_toArray]
   rw [hx.eq _ _ _ hS.fr]
  simp only [execOp,Sem.run_bind]
  rw [e1,hr]
  rfl
 ·exact k _ hS.wd.size _ _ ⟨hS.fr.putOk hd _,hS.wd.vecNew e 1 n _ (by omega) (by simp [maxLen]; omega)⟩
theorem Wd.append (hW : Wd S w0 H w) {T ty e s by' : Nat} {zs : List Value} (h : ElemInfo P T e s by' zs) (hs : 0 < s) {k : Nat} {ad : Option Addr} {n c : Nat} {xs : List Value} (hk : H[k]? = some (Ent.vec ad n c e s xs))
  {a2 : Addr} {m c2 : Nat} {news : List Value} (hm : 0 < m) (hl : news.length = m * s) (hnews : ∀ j u,news[j]? = some u→w.cell? (a2.add j) = some u) (h1 : ∀ u ∈ news,u.oneCell' = true) (hbytes : (n + m) * by' ≤ 140737488355328) (h63 : n + m ≤ 140737488355328) (hzs : zs.length = s) :
  ∃ a' c' w',(Builtin.append_ #[T,T] ty #[.slice ad n c,.slice (some a2) m c2]).run P w = .ok (.slice a' (n + m) c') w'∧Wd S w0 (H.set k (Ent.vec a' (n + m) c' e s (xs++news))) w':=by
 obtain ⟨i,z,hi,hz,hcs,h2,h3⟩:=h.get
 subst h2 h3
 obtain ⟨hx1,hx2⟩:=hW.get hk
 have hlen : (xs++news).length = (n + m) * i.size:=by rw [List.length_append,hx1,hl,Nat.add_mul]
 have hzsz : z.cells.size = i.size:=by rw [hcs]; simpa using hzs
 -- new memory
 have grown : ∀ old,Wd S w0 (H.set k (Ent.vec (some ⟨w.heap.size,0,none⟩) (n + m) (grownCap w (n + m) old e) e i.size (xs++news))) (w.drew.alloc (.cells (xs.toArray++news.toArray++Builtin.zeroCells z.cells (grownCap w (n + m) old e - (n + m))) e)):=by
  intro old
  have hge:=grownCap_ge w (n + m) old e
  have hcm : grownCap w (n + m) old e ≤ maxLen:=grownCap_le_maxLen w (n + m) old e (by simp [maxLen]; omega)
  refine hW.turnAt hk ⟨rfl,rfl,rfl,by simp,fun b hb _=>heap_alloc_old w.drew _ hb⟩ (fun b hb=>?_) fun w2 hw2=>?_
  ·simp only [Ent.vec,Option.map_some,Option.some.injEq] at hb
   subst hb
   exact ⟨.inr (Nat.le_refl _),by simp⟩
  ·have:=hw2 w.heap.size (by simp [Ent.vec])
   refine ⟨hlen,.inr ⟨w.heap.size,[],(Builtin.zeroCells z.cells (grownCap w (n + m) old e - (n + m))).toList,rfl,hge,hcm,?_,?_⟩⟩
   ·rw [Array.length_toList,size_zeroCells,hzsz]; exact Nat.le_refl _
   ·rw [this]
    have e1 : (xs.toArray++news.toArray++Builtin.zeroCells z.cells (grownCap w (n + m) old e - (n + m))) = ([]++(xs++news)++(Builtin.zeroCells z.cells (grownCap w (n + m) old e - (n + m))).toList).toArray:=by
     apply Array.toList_inj.1
     simp only [Array.toList_append,List.nil_append]
    rw [e1]
    exact heap_alloc_new w.drew _
 rcases hx2 with ⟨rfl,rfl,rfl⟩|⟨g,pre,sp,rfl,h4,h5,h6,h7⟩
 ·have : xs = []:=List.eq_nil_of_length_eq_zero (by simpa using hx1)
  subst this
  have hr:=run_append_nil (P:=P) w T ty e i z h.und hi hz a2 m c2 news hl hnews hm (by omega) (by have hb:=hbytes; simp only [Nat.zero_add] at hb; omega)
  have hgr:=grown 0
  simp only [Nat.zero_add,List.nil_append,Array.empty_append] at hgr ⊢
  exact ⟨_,_,_,hr,hgr⟩
 ·by_cases hroom : n + m ≤ c
  ·have hmul : (n + m) * i.size ≤ c * i.size:=Nat.mul_le_mul_right _ hroom
   have hsub : c * i.size = n * i.size + (c - n) * i.size:=by rw [← Nat.add_mul]; congr 1; omega
   have hfit : news.length ≤ sp.length:=by rw [hl]; rw [Nat.add_mul] at hmul; omega
   have hf:=run_firstCells_some (P:=P) w i.size m a2 m c2 news hl hnews
   have hst:=run_storeCells_at P g (pre.length + n * i.size) e news 0 (pre++xs++sp).toArray w h7 (by simp [hx1]; omega) h1
   simp only [Nat.add_zero] at hst
   have etk : ((pre++xs++sp).toArray.toList.take (pre.length + n * i.size)++news++(pre++xs++sp).toArray.toList.drop (pre.length + n * i.size + news.length)) = pre++(xs++news)++sp.drop news.length:=by
    have e1 : pre.length + n * i.size = (pre++xs).length:=by simp [hx1]
    have e2 : (pre++xs++sp).toArray.toList = (pre++xs)++sp:=rfl
    rw [e1,e2,List.take_left,List.drop_append]
    simp [List.append_assoc]
   rw [etk] at hst
   refine ⟨_,_,_,by simp [Builtin.append_,run_underlying h.und,sizeOf,typeInfo,hi,Builtin.lenOf,hroom,hf,Addr.add_lit,hst]; exact ⟨⟨rfl,rfl⟩,rfl⟩,?_⟩
   have hlt : g < w.heap.size:=(Array.getElem?_eq_some_iff.1 h7).1
   have hsz : ∀ cs,(w.setRow g cs).heap.size = w.heap.size:=fun cs=>by simp [World.setRow]
   refine hW.turnAt hk ⟨rfl,rfl,rfl,by rw [hsz]; exact Nat.le_refl _,fun b hb hne=>setRow_other w g b _ (fun e=>hne (by simp [Ent.vec,e]))⟩ (fun b hb=>?_) fun w2 hw2=>?_
   ·simp only [Ent.vec,Option.map_some,Option.some.injEq] at hb ⊢
    subst hb
    exact ⟨.inl rfl,by rw [hsz]; exact hlt⟩
   ·have:=hw2 g (by simp [Ent.vec])
    refine ⟨hlen,.inr ⟨g,pre,sp.drop news.length,rfl,hroom,h5,?_,?_⟩⟩
    ·rw [List.length_drop,hl]
     have : (c - (n + m)) * i.size = (c - n) * i.size - m * i.size:=by rw [← Nat.sub_mul]; congr 1; omega
     omega
    ·rw [this]
     have:=setRow_heap w g _ (pre++(xs++(news++List.drop news.length sp))).toArray e _ h7
     simpa using this
  ·have holds : ∀ j u,xs[j]? = some u→w.cell? ((⟨g,pre.length,none⟩ : Addr).add j) = some u:=fun j u hj=>by
    rw [Addr.add_lit]
    exact hW.vecCell hk hj
   have hr:=run_append_grow (P:=P) w T ty e i z h.und hi hz ⟨g,pre.length,none⟩ n c xs hx1 holds a2 m c2 news hl hnews (by omega) (by omega) (growslice_fits (by omega) hbytes)
   exact ⟨_,_,_,hr,grown c⟩
theorem g_append {d ty T e s by' : Nat} {zs : List Value} {pos : String} {aft : Array Go.Edge} {ad : Option Addr} {n c k : Nat} {xs : List Value} {b2 o2 m c2 k2 e2 : Nat} {news : List Value} [h : ElemInfo P T e s by' zs] [hx : Ev L x (.slice ad n c)] [hy : Ev L y (.slice (some ⟨b2,o2,none⟩) m c2)]
  [hv : VecIn H ad n c k e s xs] [hv2 : VecIn H (some ⟨b2,o2,none⟩) m c2 k2 e2 s news] [h1 : OneVs news] (hd : okPut d N L = true) (hs : ((Nat.blt 0 s && Nat.blt 0 m) && Nat.beq zs.length s) = true) (hbytes : (n + m) * by' ≤ 140737488355328) (h63 : n + m ≤ 140737488355328)
  {F : Ent→List Ent} [hF : SetFn H k F] (kk : ∀ a' c',G N ds S w0 ((d,.slice a' (n + m) c')::L) (F (Ent.vec a' (n + m) c' e s (xs++news))) (wpListIn (FW ro) 0 P ops Q rest)) : G N ds S w0 L H (wpListIn (FW ro) 0 P ops Q (⟨some d,.call { callee:=.builtin .append,args:=#[x,y],argTypes:=#[T,T] },ty,pos,aft,none⟩::rest)):=by
 intro a w hS
 simp only [Bool.and_eq_true,Nat.blt_eq] at hs
 obtain ⟨hl,_⟩:=hS.wd.vecAt hv2.at'
 obtain ⟨a',c',w',hr,hw'⟩:=hS.wd.append (P:=P) (ty:=ty) (c2:=c2) h hs.1.1 hv.at' hs.1.2 hl (fun j u hj=>by rw [Addr.add_lit]; exact hS.wd.vecCell hv2.at' hj) h1.all hbytes h63 (Nat.eq_of_beq_eq_true hs.2)
 refine step_val (v:=.slice a' (n + m) c') (w':=w') rfl (fun _ h=>by cases h) ?_ ?_
 ·simp [execOp,resolve,invoke,builtin,hx.eq _ _ _ hS.fr,hy.eq _ _ _ hS.fr,hr]
 ·rw [hF.eq] at hw'
  exact kk a' c' _ _ ⟨hS.fr.putOk hd _,hw'⟩
theorem g_appendAt {d ty T e s by' : Nat} {zs : List Value} {pos : String} {aft : Array Go.Edge} {ad : Option Addr} {n c : Nat} (k : Nat) {xs : List Value} {b2 o2 m c2 k2 e2 : Nat} {news : List Value} [h : ElemInfo P T e s by' zs] [hx : Ev L x (.slice ad n c)] [hy : Ev L y (.slice (some ⟨b2,o2,none⟩) m c2)]
  (hk : H[k]? = some (Ent.vec ad n c e s xs)) [hv2 : VecIn H (some ⟨b2,o2,none⟩) m c2 k2 e2 s news] [h1 : OneVs news] (hd : okPut d N L = true) (hs : ((Nat.blt 0 s && Nat.blt 0 m) && Nat.beq zs.length s) = true) (hbytes : (n + m) * by' ≤ 140737488355328) (h63 : n + m ≤ 140737488355328)
  (kk : ∀ a' c',G N ds S w0 ((d,.slice a' (n + m) c')::L) (H.set k (Ent.vec a' (n + m) c' e s (xs++news))) (wpListIn (FW ro) 0 P ops Q rest)) : G N ds S w0 L H (wpListIn (FW ro) 0 P ops Q (⟨some d,.call { callee:=.builtin .append,args:=#[x,y],argTypes:=#[T,T] },ty,pos,aft,none⟩::rest)):=by
 intro a w hS
 simp only [Bool.and_eq_true,Nat.blt_eq] at hs
 obtain ⟨hl,_⟩:=hS.wd.vecAt hv2.at'
 obtain ⟨a',c',w',hr,hw'⟩:=hS.wd.append (P:=P) (ty:=ty) (c2:=c2) h hs.1.1 hk hs.1.2 hl (fun j u hj=>by rw [Addr.add_lit]; exact hS.wd.vecCell hv2.at' hj) h1.all hbytes h63 (Nat.eq_of_beq_eq_true hs.2)
 refine step_val (v:=.slice a' (n + m) c') (w':=w') rfl (fun _ h=>by cases h) ?_ ?_
 ·simp [execOp,resolve,invoke,builtin,hx.eq _ _ _ hS.fr,hy.eq _ _ _ hS.fr,hr]
 ·exact kk a' c' _ _ ⟨hS.fr.putOk hd _,hw'⟩
theorem g_eqH {H1 : List Ent} (h : H = H1) (k : G N ds S w0 L H1 p) : G N ds S w0 L H p:=h ▸ k
theorem g_permH {H1 : List Ent} (h : H.Perm H1) (k : G N ds S w0 L H1 p) : G N ds S w0 L H p:=fun a w hS=>k a w ⟨hS.fr,hS.wd.perm h⟩
theorem Wd.nilVecs (h : Wd S w0 H w) (e s : Nat) : ∀ n : Nat,Wd S w0 (List.replicate n (Ent.vec none 0 0 e s [])++H) w
 | 0=>h
 | n + 1=>(Wd.nilVecs h e s n).nilVec e s
theorem g_nilVecs (e s n : Nat) (h : G N ds S w0 L (H++List.replicate n (Ent.vec none 0 0 e s [])) p) : G N ds S w0 L H p:=fun a w hS=>h a w ⟨hS.fr,(hS.wd.nilVecs e s n).perm List.perm_append_comm⟩
theorem g_callF {d ty f : Nat} {args : List Operand} {us vs xs : List Value} {tys : Array Nat} {pos : String} {aft : Array Go.Edge} (R : World→Value→World→Prop) [h : EnterOk P f] [hx : Evs L args vs] [hf : Ev L x (.func (.func f) us.toArray xs.toArray)] (hd : okPut d N L = true)
  (hc : ∀ w,Wd S w0 H w→Ret P f (us++vs++xs) w (R w))
  (k : ∀ v w w',Wd S w0 H w→R w v w'→∀ a,Fr N ds ((d,v)::L) a→wpListIn (FW ro) 0 P ops Q rest a w') : G N ds S w0 L H (wpListIn (FW ro) 0 P ops Q (⟨some d,.call { callee:=.value x,args:=args.toArray,argTypes:=tys },ty,pos,aft,none⟩::rest)):=by
 intro a w hS
 refine wpListIn_plain rfl fun K hK=>?_
 refine ⟨fun _ _=>trivial,?_⟩
 rw [semAt_ne _ _ _ (fun _ h=>by cases h)]
 have hr : (execOp a.eval ⟨some d,.call { callee:=.value x,args:=args.toArray,argTypes:=tys },ty,pos,aft,none⟩).run P w = .ok (.enter f (us++vs++xs).toArray) w:=by
  simp [execOp,resolve,hf.eq _ _ _ hS.fr,Deferred.ofValue,invoke,hx.eq _ _ _ hS.fr,h.run]
 rw [hr]
 refine ⟨fun h=>(by cases h),?_⟩
 refine CallsIn.mono (R:=fun e w'=>∃ v,e = .returned v∧R w v w') (hc w hS.wd) fun e w' ⟨v,he,hR⟩=>?_
 subst he
 exact hK _ _ (k v w w' hS.wd hR _ (hS.fr.putOk hd v))
theorem g_callFV {d ty f : Nat} {args : List Operand} {us vs xs : List Value} {tys : Array Nat} {pos : String} {aft : Array Go.Edge} {u : Value} [h : EnterOk P f] [hx : Evs L args vs] [hf : Ev L x (.func (.func f) us.toArray xs.toArray)] (hd : okPut d N L = true)
  (hc : ∀ w,Wd S w0 H w→RetV P f (us++vs++xs) w u)
  (k : G N ds S w0 ((d,u)::L) H (wpListIn (FW ro) 0 P ops Q rest)) : G N ds S w0 L H (wpListIn (FW ro) 0 P ops Q (⟨some d,.call { callee:=.value x,args:=args.toArray,argTypes:=tys },ty,pos,aft,none⟩::rest)) :=
 g_callF (fun w v w'=>v = u∧Chg NoS w w') hd hc fun v _ w' hw hR a hF=>k a w' ⟨by rw [← hR.1]; exact hF,hw.call hR.2⟩
theorem run_loadBox {T n b j t : Nat} {cs : List Value} [h : AggSize P T n] [hb : BoxIn H b j cs t] [hl : LenIs cs n] (hW : Wd S w0 H w) : (loadVar T ⟨b,0,none⟩).run P w = .ok (.agg cs.toArray) w:=by
 have h1:=run_loadCells_list (P:=P) w ⟨b,0,none⟩ cs (fun i v hv=>by rw [Addr.add_lit,Nat.zero_add]; exact hW.cellBox j hb.at' hv)
 rw [hl.eq] at h1
 simp [loadVar,h.agg,h.sz,h1]
theorem g_retC {fn : Func} {R : Value→World→Prop} {t T n b j bt : Nat} {cs : List Value} (hr : fn.results = #[.cell t T]) [hv : SlotIs L t (.pointer (some ⟨b,0,none⟩))] [h : AggSize P T n] [hb : BoxIn H b j cs bt] [hl : LenIs cs n] (hR : ∀ w,Wd S w0 H w→R (.agg cs.toArray) w) : G N [] S w0 L H (bodyPost P fn (fun e w'=>∃ v,e = .returned v∧R v w') .ret):=fun a w hS=>by
 refine ⟨hS.fr.defers,.agg cs.toArray,?_,_,rfl,hR w hS.wd⟩
 have:=run_loadBox (P:=P) (T:=T) (b:=b) (cs:=cs) hS.wd
 simp [results,hr,Array.getD_eq_getD_getElem?,hS.fr.slot _ hv.mem,asAddr,this]
def anyOps (P : Program) (N : Nat) (ds : List Deferred) (S : Nat→Prop) (w0 : World) (L : List (Nat × Value)) (H : List Ent) (ro : Option Nat) (l : List Oper) (Q : Exit→Act→World→Prop) (fuel : Nat) (listed : Array Bool) : Nat→Prop
 | 0=>True
 | i + 1=>((Region.ready .any l.toArray listed).contains i = false ∨ ∃ o,l[i]? = some o∧G N ds S w0 L H (wpListIn (FW ro) 0 P l.toArray (Exit.then (wpAnyIn (FW ro) 0 P .any l.toArray Q fuel (listed.setIfInBounds i true)) Q) [o]))∧anyOps P N ds S w0 L H ro l Q fuel listed i
theorem any_nil {l : List Oper} {fuel : Nat} {listed : Array Bool} : anyOps P N ds S w0 L H ro l Q fuel listed 0:=trivial
theorem any_skip {l : List Oper} {fuel i : Nat} {listed : Array Bool} (h1 : (Region.ready .any l.toArray listed).contains i = false) (h2 : anyOps P N ds S w0 L H ro l Q fuel listed i) : anyOps P N ds S w0 L H ro l Q fuel listed (i + 1):=⟨.inl h1,h2⟩
theorem any_cons {l : List Oper} {fuel i : Nat} {listed : Array Bool} {o : Oper} (h1 : G N ds S w0 L H (wpListIn (FW ro) 0 P l.toArray (Exit.then (wpAnyIn (FW ro) 0 P .any l.toArray Q fuel (listed.setIfInBounds i true)) Q) [o])) (h2 : anyOps P N ds S w0 L H ro l Q fuel listed i) [ho : ListAt l i o] : anyOps P N ds S w0 L H ro l Q fuel listed (i + 1):=⟨.inr ⟨o,ho.at',h1⟩,h2⟩
theorem wpl_one {o : Oper} {M : Act→World→Prop} (h : wpListIn (FW ro) 0 P ops (Exit.then M Q) [o] a w) : if Region.wanted o (yielded ops a.tmps) then o.wpIn (FW ro) 0 P a w M Q else (∀ f,o.about P w a.eval = some f→(FW ro).fn f)∧M (a.put o.dst undef) w:=by
 unfold wpListIn at h
 split
 ·rename_i hw
  rw [if_pos hw] at h
  refine ⟨h.1,?_⟩
  have h2:=h.2
  revert h2
  generalize (o.semAt (FW ro).round a.eval).run P w = r
  intro h2
  cases r with
  | ok nx w1 =>
   cases nx with
   | value v=>exact h2
   | skip=>exact h2
   | defer d=>exact h2
   | enter f args =>
    refine ⟨h2.1,h2.2.mono fun e w2 hh=>?_⟩
    cases e <;> exact hh
   | row r args=>exact ⟨h2.1,h2.2.mono fun v w2 hh=>hh⟩
   | round l f tmps assign body =>
    refine ⟨h2.1,h2.2.mono fun e w2 hh=>?_⟩
    cases e <;> exact hh
   | _=>exact h2
  | halt x w1=>cases x <;> exact h2
 ·rename_i hw
  rw [if_neg hw] at h
  exact ⟨h.1,h.2⟩
theorem anyOps_mem {l : List Oper} {fuel : Nat} {listed : Array Bool} : ∀ {n : Nat},anyOps P N ds S w0 L H ro l Q fuel listed n→∀ i,i < n→i ∈ Region.ready .any l.toArray listed→G N ds S w0 L H (fun a w=>wpOpIn (FW ro) 0 P l.toArray Q i (wpAnyIn (FW ro) 0 P .any l.toArray Q fuel (listed.setIfInBounds i true)) a w)
 | 0,_,i,hi,_=>by omega
 | j + 1,⟨h1,h2⟩,i,hi,hm=>by
  by_cases hij : i = j
  ·subst hij
   rcases h1 with h1|⟨o,ho,h1⟩
   ·rw [List.contains_iff_mem.2 hm] at h1; cases h1
   ·intro a w hS
    unfold wpOpIn
    rw [show l.toArray[i]? = some o by simpa using ho]
    exact wpl_one (h1 a w hS)
  ·exact anyOps_mem h2 i (by omega) hm
theorem ready_lt {l : List Oper} {listed : Array Bool} {i : Nat} (h : i ∈ Region.ready .any l.toArray listed) : i < l.length:=by
 unfold Region.ready at h
 have:=List.mem_filter.1 h
 simpa using this.1
theorem g_any {l : List Oper} {fuel n : Nat} {listed : Array Bool} [hl : LenO l n] (hne : (Region.ready .any l.toArray listed).isEmpty = false) (h : anyOps P N ds S w0 L H ro l Q fuel listed n) : G N ds S w0 L H (wpAnyIn (FW ro) 0 P .any l.toArray Q (fuel + 1) listed):=fun a w hS=>by
 refine ⟨fun e=>?_,fun i hi=>anyOps_mem h i (by rw [← hl.eq]; exact ready_lt hi) hi a w hS⟩
 rw [e] at hne
 cases hne
theorem g_any0 {l : List Oper} {listed : Array Bool} (hr : Region.ready .any l.toArray listed = []) (h : G N ds S w0 L H (Q .normal)) : G N ds S w0 L H (wpAnyIn (FW ro) 0 P .any l.toArray Q 0 listed):=fun a w hS=>⟨hr,h a w hS⟩
def OnlyN (M : Act→World→Prop) : Exit→Act→World→Prop
 | .normal,a,w=>M a w
 | _,_,_=>False
def notCall : Op→Bool
 | .call _=>false
 | _=>true
theorem g_take {l : List Oper} {fuel d ty : Nat} (i : Nat) {pos : String} {aft : Array Go.Edge} {op : Op} {v : Value} {listed : Array Bool} {M : Act→World→Prop} [ho : ListAt l i ⟨some d,op,ty,pos,aft,none⟩] [h : ∀ w,RunsC P N ds NoS w L [] op v] (hd : (okPut d N L && notCall op) = true)
  (hr : ((Region.noSelect l.toArray && Region.free .any l.toArray listed i) && (Region.ready .any l.toArray listed).contains i) = true)
  (k : G N ds S w0 ((d,v)::L) H (wpAnyIn (FW none) 0 P .any l.toArray (OnlyN M) fuel (listed.setIfInBounds i true))) : G N ds S w0 L H (wpAnyIn (FW none) 0 P .any l.toArray (OnlyN M) (fuel + 1) listed):=fun a w hS=>by
 simp only [Bool.and_eq_true] at hr hd
 refine wpAnyIn_take (i:=i) (oi:=⟨some d,op,ty,pos,aft,none⟩) (v:=v) rfl (by simpa using ho.at') hr.1.1 hr.1.2 hr.2 (fun c a w hh=>hh) ⟨.inl ⟨rfl,fun w=>?_⟩,fun w=>?_⟩ (k _ _ ⟨hS.fr.putOk hd.1 v,hS.wd⟩)
 ·exact (h w).run _ _ _ _ _ a w hS.fr (Wd.nil NoS w)
 ·have:=hd.2
  cases op <;> first|rfl|cases this
theorem g_drawW {id n : Nat} {l : List Oper} [hl : LenO l n] (L' : List (Nat × Value)) (H' : List Ent) (hm : P.follows .mixedOrders = true)
  (h : G N ds S w0 L H (wpAnyIn (FW ro) 0 P .any l.toArray (OnlyN (St N ds S w0 L' H')) n (Array.replicate n false)))
  (k : G N ds S w0 L' H' (Q .normal)) : G N ds S w0 L H (Code.wpIn (FW ro) 0 P (Code.region id l.toArray true) Q):=fun a w hS=>by
 refine wpIn_region_any hm ?_
 have h1:=h a { w with drawn:=w.drawn + 1 } ⟨hS.fr,hS.wd.same rfl rfl rfl rfl⟩
 have key : ∀ (fuel : Nat) (listed : Array Bool) (a : Act) (w : World),wpAnyIn (FW ro) 0 P .any l.toArray (OnlyN (St N ds S w0 L' H')) fuel listed a w→wpAnyIn (FW ro) 0 P .any l.toArray Q fuel listed a w:=by
  intro fuel
  induction fuel with
  | zero=>exact fun listed a w h=>⟨h.1,k a w h.2⟩
  | succ fuel ih =>
   intro listed a w h
   refine ⟨fun e=>k a w (h.1 e),fun i hi=>?_⟩
   have h2:=h.2 i hi
   unfold wpOpIn at h2 ⊢
   split
   ·rename_i ho
    simp only [ho] at h2
    exact ih _ _ _ h2
   ·rename_i o ho
    simp only [ho] at h2
    split
    ·rename_i hw
     rw [if_pos hw] at h2
     refine ⟨h2.1,?_⟩
     have h3:=h2.2
     revert h3
     generalize (o.semAt (FW ro).round a.eval).run P w = r
     intro h3
     cases r with
     | ok nx w1 =>
      cases nx with
      | value v=>exact ih _ _ _ h3
      | skip=>exact ih _ _ _ h3
      | defer d=>exact ih _ _ _ h3
      | enter f args =>
       refine ⟨h3.1,h3.2.mono fun e w2 hh=>?_⟩
       cases e with
       | returned v=>exact ih _ _ _ hh
       | panicked c=>exact (hh : False).elim
       | outgrown=>exact (Exists.elim hh fun _ h=>Exists.elim h fun _ h=>(h : False).elim)
      | row r args=>exact ⟨h3.1,h3.2.mono fun v w2 hh=>ih _ _ _ hh⟩
      | round l f tmps assign body =>
       refine ⟨h3.1,h3.2.mono fun e w2 hh=>?_⟩
       cases e with
       | returned v=>exact ih _ _ _ hh
       | panicked c=>exact (hh : False).elim
       | outgrown=>exact (Exists.elim hh fun _ h=>Exists.elim h fun _ h=>(h : False).elim)
      | _=>exact h3
     | halt x w1=>cases x <;> exact (h3 : False).elim
    ·rename_i hw
     rw [if_neg hw] at h2
     exact ⟨h2.1,ih _ _ _ h2.2⟩
 have:=key _ _ _ _ h1
 rw [← hl.eq] at this
 simpa using this
end
end Go.Proofs.YtdbljcahlpkgdaaDoor

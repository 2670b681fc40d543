/- Texts joined: GraphA GraphB Parts Sure Dfs Post Back Range SureA Visit Held SureB DrawE. -/
import Derived.LoopIn
import Derived.LoopNIn
import Derived.OrdersHeld
import Derived.OwnWalkIn
import Derived.RangeFuncBound
import Derived.RangeFuncLeaves
import Derived.RangeFuncNested
import Derived.Shelf.Abstract
import Derived.TacticsInMore
import Derived.Test.YtbmnkjaelfjlhaaDoorChecked
import Derived.WalkKit
import Derived.Test.YtbmnkjaelfjlhaaDoorGA
import Derived.Test.YtbmnkjaelfjlhaaDoorGB
import Derived.Test.YtbmnkjaelfjlhaaDoorGC
/- graph.From: which blocks a block reaches. -/
namespace Go.Proofs.YtbmnkjaelfjlhaaDoor
open Go Go.RowKit
attribute [local irreducible] wpListIn Code.wpIn Exit.then Exit.inBlock bodyPost wpQuiet wpAnyIn
set_option maxHeartbeats 2000000

def intN (x : Nat) : Value := .int .i64 (x : Int)
end Go.Proofs.YtbmnkjaelfjlhaaDoor


/- turneryref3.Has, From and Part: what each returns. -/
namespace Go.Proofs.YtbmnkjaelfjlhaaDoor
open Go Go.RowKit
attribute [local irreducible] wpListIn Code.wpIn Exit.then Exit.inBlock bodyPost wpQuiet wpAnyIn
set_option maxHeartbeats 2000000

theorem has_c (v : Value) (l : List Int) (x : Int) (w0 : World) (hv : SlAt w0 v 1 l IntV) : RetV Tryd.prog 28 [v, .int .i64 x] w0 (.bool (decide (x ∈ l))) := by
  obtain ⟨a, n, c, b, o, rfl, hn, hnc, hnb, hc, ha, hel⟩ := hv
  refine ret_enter Tryd.func28 rfl Tryd.ntmps28 rfl (Wd.nil NoS w0) ?_
  repeat (first | refine g_op rfl ?_ | refine g_then ?_ | refine g_nil ?_ | refine g_region ?_ | refine g_seq ?_ | refine g_block ?_)
  refine g_loop (fun (i : Nat) => i ≤ n ∧ ∀ j t, j < i → l[j]? = some t → t ≠ x) (fun i => [(5, .int .i64 i), (0, .slice a n c), (1, .int .i64 x)]) (fun _ => []) (fun i => n - i) 0 ⟨Nat.zero_le _, by simp⟩ (g_done (by repeat (first | exact trivial | refine ⟨rfl, ?_⟩)) (by simp)) fun i ⟨hi, hall⟩ => ?_
  repeat (first | refine g_op rfl ?_ | refine g_then ?_ | refine g_nil ?_ | refine g_region ?_ | refine g_seq ?_)
  refine g_cond (fun h1 => ?_) (fun h1 => ?_)
  · have hlt : i < n := by simpa using h1
    obtain ⟨t, ht⟩ := get_lt hn hlt
    have had : AddrIs a b o := ⟨ha (ne_of_get ht)⟩
    have hli : LtIs i n := ⟨hlt⟩
    obtain ⟨cs, hcs, rfl, _⟩ := hel i t ht
    have hci : CellsIs w0 b (o + i * 1) _ := ⟨hcs⟩
    repeat (first | refine g_op rfl ?_ | refine g_then ?_ | refine g_nil ?_ | refine g_region ?_ | refine g_seq ?_ | refine g_block ?_ | refine g_skip ?_)
    refine g_cond (fun h2 => ?_) (fun h2 => ?_)
    · repeat (first | refine g_op rfl ?_ | refine g_then ?_ | refine g_nil ?_ | refine g_region ?_ | refine g_seq ?_ | refine g_ret ?_ | refine g_thenRet ?_ | refine g_blockRet ?_)
      refine g_retV rfl ?_
      have : t = x := by simpa using h2
      rw [decide_eq_true (this ▸ List.mem_of_getElem? ht)]
    · repeat (first | refine g_op rfl ?_ | refine g_then ?_ | refine g_nil ?_ | refine g_region ?_ | refine g_opS rfl ?_ | refine g_inBlock ?_ | refine g_skip ?_ | refine g_add rfl (by omega) (by omega) ?_)
      refine g_next (i + 1) ⟨hlt, fun j q hj hq => ?_⟩ (by omega) (by repeat (first | exact trivial | refine ⟨rfl, ?_⟩)) (by simp)
      by_cases hji : j = i
      · subst hji
        rw [ht] at hq
        simp only [Option.some.injEq] at hq
        subst hq
        simpa using h2
      · exact hall j q (by omega) hq
  · have hge : i = n := by have := h1; simp at this; omega
    repeat (first | refine g_op rfl ?_ | refine g_then ?_ | refine g_nil ?_ | refine g_region ?_ | refine g_seq ?_ | refine g_exit ?_ | refine g_thenExit ?_ | refine g_exitHere ?_ | refine g_ret ?_)
    refine g_retV rfl ?_
    rw [decide_eq_false]
    intro hm
    obtain ⟨j, hj⟩ := List.getElem?_of_mem hm
    exact hall j x (by have := (List.getElem?_eq_some_iff.1 hj).1; omega) hj rfl

end Go.Proofs.YtbmnkjaelfjlhaaDoor


/- graph.Parts and the law GraphParts. -/
namespace Go.Proofs.YtbmnkjaelfjlhaaDoor
open Go Go.RowKit
attribute [local irreducible] wpListIn Code.wpIn Exit.then Exit.inBlock bodyPost wpQuiet wpAnyIn
set_option maxHeartbeats 2000000

theorem bodyErr_good {fs : List LFunc} {f : LFunc} (h : bodyErr fs f = 0) : GoodB f.blocks := by
  unfold bodyErr at h
  split at h
  · rename_i h1; exact absurd h h1
  · rename_i h1
    have hz := firstI_zero (by simpa using h1)
    intro b hb
    obtain ⟨j, hj⟩ := List.getElem?_of_mem hb
    have := hz j (List.getElem?_eq_some_iff.1 hj).1
    simp only [at0, hj] at this
    exact endE_ok this
theorem check_bodies {u : LUnit} (h : (checkL u).1 = 0) : ∀ X ∈ u.funcs, bodyErr u.funcs X = 0 := by
  unfold checkL at h
  split at h
  · cases h
  · split at h
    · rename_i h2; exact absurd h h2
    · split at h
      · rename_i h2; exact absurd h h2
      · split at h
        · rename_i h2; exact absurd h h2
        · rename_i h4
          have hz := firstI_zero (by simpa using h4)
          intro X hX
          obtain ⟨j, hj⟩ := List.getElem?_of_mem hX
          have := hz j (List.getElem?_eq_some_iff.1 hj).1
          simpa only [at0, hj] using this
end Go.Proofs.YtbmnkjaelfjlhaaDoor


/- Ends that can be reached, blocks that every way to an end meets, control dependences: as plain facts. No program in sight. -/
namespace Go.Proofs.YtbmnkjaelfjlhaaDoor
open Go Go.RowKit

def kindOf (bl : List LBlock) (i : Nat) : Int := match bl[i]? with | some b => b.kind | none => 0
def CanEnd (bl : List LBlock) (wo : Int) (b : Nat) : Prop := (b : Int) ≠ wo ∧ ∃ x, Rch bl wo b x ∧ kindOf bl x = 1
theorem canEnd_kind {bl : List LBlock} {wo : Int} {b : Nat} (hb : (b : Int) ≠ wo) (h : kindOf bl b = 1) : CanEnd bl wo b := ⟨hb, b, Rch.refl, h⟩
theorem canEnd_step {bl : List LBlock} {wo : Int} {b t : Nat} (hb : (b : Int) ≠ wo) (he : Edge bl b t) (h : CanEnd bl wo t) : CanEnd bl wo b := by
  obtain ⟨ht, x, hr, hk⟩ := h
  exact ⟨hb, x, (Rch.refl.step he ht).trans hr, hk⟩
theorem rch_ne {bl : List LBlock} {wo : Int} {b x : Nat} (hb : (b : Int) ≠ wo) (h : Rch bl wo b x) : (x : Int) ≠ wo := by
  cases h with
  | refl => exact hb
  | step _ _ hw => exact hw
def Sure (bl : List LBlock) (b c : Nat) : Prop := CanEnd bl (-1) b ∧ ¬ CanEnd bl c b
end Go.Proofs.YtbmnkjaelfjlhaaDoor


/- Going from block to block, each once, as plain functions and facts. No program in sight. -/
namespace Go.Proofs.YtbmnkjaelfjlhaaDoor
open Go Go.RowKit

/-- what a going-through keeps: the length, what is seen; and the list grows by no more than is newly seen -/
def Grows (st st' : List Bool × List Nat) : Prop := st'.1.length = st.1.length ∧ (∀ x : Nat, st.1[x]? = some true → st'.1[x]? = some true) ∧ unseen st'.1 ≤ unseen st.1 ∧ st'.2.length + unseen st'.1 ≤ st.2.length + unseen st.1
theorem Grows.refl (st : List Bool × List Nat) : Grows st st := ⟨rfl, fun _ h => h, Nat.le_refl _, Nat.le_refl _⟩
theorem Grows.trans {a b c : List Bool × List Nat} (h : Grows a b) (k : Grows b c) : Grows a c := ⟨k.1.trans h.1, fun x hx => k.2.1 x (h.2.1 x hx), Nat.le_trans k.2.2.1 h.2.2.1, Nat.le_trans k.2.2.2 h.2.2.2⟩
end Go.Proofs.YtbmnkjaelfjlhaaDoor


/- The nearest block on each way to an end, as plain facts. No program in sight. -/
namespace Go.Proofs.YtbmnkjaelfjlhaaDoor
open Go Go.RowKit

/-- an end in n steps, never through 'wo' -/
inductive EndIn (bl : List LBlock) (wo : Int) : Nat → Nat → Prop
  | here {x : Nat} : (x : Int) ≠ wo → kindOf bl x = 1 → EndIn bl wo 0 x
  | step {n x y : Nat} : (x : Int) ≠ wo → Edge bl x y → EndIn bl wo n y → EndIn bl wo (n + 1) x
theorem EndIn.can {bl : List LBlock} {wo : Int} {n x : Nat} (h : EndIn bl wo n x) : CanEnd bl wo x := by
  induction h with
  | here hx hk => exact canEnd_kind hx hk
  | step hx he _ ih => exact canEnd_step hx he ih
theorem CanEnd.within {bl : List LBlock} {wo : Int} {x : Nat} (h : CanEnd bl wo x) : ∃ n, EndIn bl wo n x := by
  obtain ⟨hx, y, hr, hk⟩ := h
  have key : ∀ y, Rch bl wo x y → (∃ n, EndIn bl wo n y) → ∃ n, EndIn bl wo n x := by
    intro y hr
    induction hr with
    | refl => exact id
    | step hr' he _ ih => exact fun ⟨n, hn⟩ => ih ⟨n + 1, .step (rch_ne hx hr') he hn⟩
  exact key y hr ⟨0, .here (rch_ne hx hr) hk⟩
/-- a way to an end that cannot avoid c comes to c -/
theorem EndIn.split {bl : List LBlock} {wo : Int} {n x c : Nat} (h : EndIn bl wo n x) (hc : ¬ CanEnd bl c x) : ∃ m, m ≤ n ∧ EndIn bl wo m c ∧ (x ≠ c → m < n) := by
  induction h with
  | @here x hx hk =>
    by_cases e : x = c
    · subst e; exact ⟨0, Nat.le_refl _, .here hx hk, fun h => absurd rfl h⟩
    · exact absurd (canEnd_kind (by omega) hk) hc
  | @step n x y hx he hy ih =>
    by_cases e : x = c
    · subst e; exact ⟨n + 1, Nat.le_refl _, .step hx he hy, fun h => absurd rfl h⟩
    · obtain ⟨m, h1, h2, _⟩ := ih fun hy => hc (canEnd_step (by omega) he hy)
      exact ⟨m, by omega, h2, fun _ => by omega⟩
theorem Sure.trans {bl : List LBlock} {b c d : Nat} (h : Sure bl b c) (k : Sure bl c d) : Sure bl b d := by
  refine ⟨h.1, fun hd => ?_⟩
  obtain ⟨n, hn⟩ := hd.within
  obtain ⟨m, _, hm, _⟩ := hn.split h.2
  exact k.2 hm.can
/-! ### Told by the numbers -/
def cnt (p : Nat → Prop) [DecidablePred p] (n : Nat) : Nat := ((List.range n).filter fun c => decide (p c)).length
end Go.Proofs.YtbmnkjaelfjlhaaDoor


/- slices.Backward over numbers: the iterator's contract. -/
namespace Go.Proofs.YtbmnkjaelfjlhaaDoor
open Go Go.RowKit Go.Shelf
attribute [local go_sem] Oper.semAt_some

/-- what keeps these blocks -/
def KeepB (K : Nat → Prop) (W W' : World) : Prop := ∀ b, K b → W'.heap[b]? = W.heap[b]?
theorem KeepB.cell {K : Nat → Prop} {W W' : World} (h : KeepB K W W') {p : Addr} (hp : K p.block) : W'.cell? p = W.cell? p := World.cell?_of_block (h _ hp)
end Go.Proofs.YtbmnkjaelfjlhaaDoor


/- A range over a function: the rule of the walks; calls that are handed pieces; a function that holds such a range. -/
namespace Go.Proofs.YtbmnkjaelfjlhaaDoor
open Go Go.RowKit

/-- all else that was made so far, as it lies in W -/
def Ent.rest (U : Nat → Prop) (W : World) : Ent := ⟨U, fun w => W.heap.size ≤ w.heap.size ∧ ∀ b, U b → w.heap[b]? = W.heap[b]?⟩
/-- the block that the rounds' deferred calls would lie in -/
def Ent.mark (D : Nat) : Ent := ⟨fun k => k = D, fun w => w.heap[D]? = some (.deferred (some []))⟩

section
variable {S : Nat → Prop} {w0 wz w w' W : World} {H H1 H2 H' E F : List Ent}
theorem Wd.grown {row : Option Nat} (h : Wd S w0 H W) (hg : W.grownBy w' row) (hr : ∀ r, row = some r → w0.heap.size ≤ r ∧ ¬ fps H r) : Wd S w0 H w' := by
  have hb : ∀ b, fps H b → w'.heap[b]? = W.heap[b]? := fun b ⟨e, he, hb⟩ => hg.block b (h.own e he b hb).2 fun hrow => (hr b hrow.symm).2 ⟨e, he, hb⟩
  refine ⟨⟨hg.os.trans h.chg.os, hg.tape.trans h.chg.tape, hg.output.trans h.chg.output, Nat.le_trans h.chg.size hg.size, fun k hk hS => ?_⟩, fun e he b hb => ?_, fun e he w2 hs hw2 => ?_, h.apart⟩
  · exact (hg.block k (by have := h.chg.size; omega) fun hrow => by have := (hr k hrow.symm).1; omega).trans (h.chg.block k hk hS)
  · have := h.own e he b hb
    exact ⟨this.1, by have := hg.size; omega⟩
  · exact h.ok e he w2 (Nat.le_trans hg.size hs) fun b hbb => (hw2 b hbb).trans (hb b ⟨e, he, hbb⟩)
end
/-- pieces of plain cells -/
class CellsE (e : Ent) : Prop where
  ok : ∀ w, e.ok w → ∀ b, e.fp b → ∃ cs t z, w.heap[b]? = some (.cells cs t z)
class CellsL (H : List Ent) : Prop where
  all : ∀ e ∈ H, CellsE e
instance (b : Nat) (cs : List Value) (t : TypeId) : CellsE (Ent.box b cs t) := ⟨fun w h k hk => by subst hk; exact ⟨_, _, _, h⟩⟩
instance (a : Option Addr) (n c e s : Nat) (xs : List Value) : CellsE (Ent.vec a n c e s xs) := ⟨fun w h k hk => by
  rcases h.2 with ⟨rfl, _⟩ | ⟨g, pre, sp, rfl, _, _, _, hb⟩
  · cases hk
  · simp only [Ent.vec, Option.map_some, Option.some.injEq] at hk
    subst hk
    exact ⟨_, _, _, hb⟩⟩
instance : CellsL [] := ⟨by simp⟩
instance (e : Ent) (H : List Ent) [h : CellsE e] [hs : CellsL H] : CellsL (e :: H) := ⟨fun f hf => by
  rcases List.mem_cons.1 hf with rfl | hf
  · exact h
  · exact hs.all f hf⟩

section
variable {P : Program} {N : Nat} {ds : List Deferred} {S : Nat → Prop} {w0 : World} {L L' : List (Nat × Value)} {H H' : List Ent} {a : Act} {w : World}
  {ops : Array Oper} {rest : List Oper} {Q : Exit → Act → World → Prop} {p : Act → World → Prop}
/-- a call that is handed the first pieces, through a function value -/
theorem g_callFS {α : Type} {ro : Option Nat} {val : α → Value} {E : α → List Ent} {φ : α → Prop} {H1 H2 : List Ent} {d ty f : Nat} {args : List Operand} {us vs xs : List Value} {tys : Array Nat} {x : Operand} {pos : String} {aft : Array Go.Edge} [h : EnterOk P f] [hx : Evs L args vs] [hf : Ev L x (.func (.func f) us.toArray xs.toArray)] (hd : okPut d N L = true)
    (hc : ∀ w, Wd S w0 (H1 ++ H2) w → Ret P f (us ++ vs ++ xs) w fun u w' => ∃ x, u = val x ∧ Wd (fps H1) w (E x) w' ∧ φ x)
    (k : ∀ x, φ x → G N ds S w0 ((d, val x) :: L) (E x ++ H2) (wpListIn (FW ro) 0 P ops Q rest)) : G N ds S w0 L (H1 ++ H2) (wpListIn (FW ro) 0 P ops Q (⟨some d, .call { callee := .value x, args := args.toArray, argTypes := tys }, ty, pos, aft, none⟩ :: rest)) := by
  intro a w hS
  refine g_callF (S := S) (w0 := w0) (H := H1 ++ H2) (xs := xs) (us := us) (vs := vs) (fun _ u w' => ∃ x, u = val x ∧ Wd S w0 (E x ++ H2) w' ∧ φ x) hd (fun w hw => (hc w hw).mono fun v w' ⟨x, h1, h2, h3⟩ => ⟨x, h1, hw.comp h2, h3⟩) (fun v w w' hw hR a hF => ?_) a w hS
  obtain ⟨x, rfl, h2, h3⟩ := hR
  exact k x h3 a w' ⟨hF, h2⟩
/-- a call that is handed the first pieces -/
theorem g_callS {α : Type} {ro : Option Nat} {val : α → Value} {E : α → List Ent} {φ : α → Prop} {H1 H2 : List Ent} {d ty f : Nat} {args : List Operand} {vs : List Value} {tys : Array Nat} {pos : String} {aft : Array Go.Edge} [h : EnterOk P f] [hx : Evs L args vs] (hd : okPut d N L = true)
    (hc : ∀ w, Wd S w0 (H1 ++ H2) w → Ret P f vs w fun u w' => ∃ x, u = val x ∧ Wd (fps H1) w (E x) w' ∧ φ x)
    (k : ∀ x, φ x → G N ds S w0 ((d, val x) :: L) (E x ++ H2) (wpListIn (FW ro) 0 P ops Q rest)) : G N ds S w0 L (H1 ++ H2) (wpListIn (FW ro) 0 P ops Q (⟨some d, .call { callee := .value (.func f), args := args.toArray, argTypes := tys }, ty, pos, aft, none⟩ :: rest)) := by
  intro a w hS
  refine g_call (S := S) (w0 := w0) (H := H1 ++ H2) (vs := vs) (fun _ u w' => ∃ x, u = val x ∧ Wd S w0 (E x ++ H2) w' ∧ φ x) hd (fun w hw => (hc w hw).mono fun v w' ⟨x, h1, h2, h3⟩ => ⟨x, h1, hw.comp h2, h3⟩) (fun v w w' hw hR a hF => ?_) a w hS
  obtain ⟨x, rfl, h2, h3⟩ := hR
  exact k x h3 a w' ⟨hF, h2⟩

/-! ### Pieces picked by their places -/
class SelAt (H : List Ent) (is : List Nat) (H' : outParam (List Ent)) : Prop where
  eq : is.filterMap (fun i => H[i]?) = H'
instance (H : List Ent) : SelAt H [] [] := ⟨rfl⟩
instance (H H' : List Ent) (i : Nat) (is : List Nat) (e : Ent) [h : ListAt H i e] [hs : SelAt H is H'] : SelAt H (i :: is) (e :: H') := ⟨by rw [List.filterMap_cons, h.at', hs.eq]⟩
theorem Wd.at_apart (h : Wd S w0 H w) {i j : Nat} {e f : Ent} (he : H[i]? = some e) (hf : H[j]? = some f) (hij : i ≠ j) : ∀ b, e.fp b → ¬ f.fp b := by
  obtain ⟨hi, rfl⟩ := List.getElem?_eq_some_iff.1 he
  obtain ⟨hj, rfl⟩ := List.getElem?_eq_some_iff.1 hf
  have hp := List.pairwise_iff_getElem.1 h.apart
  intro b hb hfb
  by_cases hlt : i < j
  · exact hp i j hi hj hlt b hb hfb
  · exact hp j i hj hi (by omega) b hfb hb
theorem Wd.sel (h : Wd S w0 H w) (is : List Nat) (hn : is.Nodup) [hs : SelAt H is H'] : Wd S w0 H' w := by
  rw [← hs.eq]
  refine ⟨h.chg, fun e he => ?_, fun e he => ?_, ?_⟩
  · obtain ⟨i, _, hi⟩ := List.mem_filterMap.1 he
    exact h.own e (List.mem_of_getElem? hi)
  · obtain ⟨i, _, hi⟩ := List.mem_filterMap.1 he
    exact h.ok e (List.mem_of_getElem? hi)
  · refine List.Pairwise.filterMap (R := fun i j => i ≠ j) _ (fun i j hij e he f hf => ?_) hn
    exact h.at_apart he hf hij
theorem g_sel (is : List Nat) (hn : is.Nodup) [hs : SelAt H is H'] (k : G N ds S w0 L H' p) : G N ds S w0 L H p := fun a w hS => k a w ⟨hS.fr, hS.wd.sel is hn⟩

/-! ### A function that holds a range over a function -/
/-- the like of 'ret_enter', from an elder world on -/
theorem ret_enterZ {f : FuncId} {fn : Func} {c : Code} {args : List Value} {R : Value → World → Prop} (hf : P.funcs[f]? = some fn) (hb : fn.body = some c) (hN : fn.ntmps = N) [hL : EnumIs 0 args L] (hlen : args.length.ble N = true) (hW : Wd S w0 H w)
    (h : G N [] S w0 L H (Code.wpIn (FW none) 0 P c (bodyPost P fn fun e w' => ∃ v, e = .returned v ∧ R v w'))) : Ret P f args w R := by
  subst hN
  refine callsIn_of_wp hf hb trivial (h _ _ ⟨?_, hW⟩)
  rw [← hL.eq]
  exact fr_enter (Nat.le_of_ble_eq_true hlen)
/-! ### The range -/
end
end Go.Proofs.YtbmnkjaelfjlhaaDoor


/- dom.ends: from which blocks an end can be reached. -/
namespace Go.Proofs.YtbmnkjaelfjlhaaDoor
open Go Go.RowKit
attribute [local irreducible] wpListIn Code.wpIn Exit.then Exit.inBlock bodyPost wpQuiet wpAnyIn
set_option maxHeartbeats 2000000

end Go.Proofs.YtbmnkjaelfjlhaaDoor


/- slices.Backward, graph.Post and its closure: what each does. -/
namespace Go.Proofs.YtbmnkjaelfjlhaaDoor
open Go Go.RowKit
attribute [local irreducible] wpListIn Code.wpIn Exit.then Exit.inBlock bodyPost wpQuiet wpAnyIn bodyPostM
set_option maxHeartbeats 4000000

/-- rounds over such pairs -/
abbrev BackA (n : Nat) : Type := { p : Int × Nat // p.2 < n }
def BackA.enc {n : Nat} (x : BackA n) : Int × Int := (x.1.1, (x.1.2 : Int))
end Go.Proofs.YtbmnkjaelfjlhaaDoor


/- A region that draws its order, reads, and ends in one store: what is read lies in pieces that the store leaves alone. One walk serves every order. -/
namespace Go.Proofs.YtbmnkjaelfjlhaaDoor
open Go Go.RowKit

section
variable {P : Program} {N : Nat} {ds : List Deferred} {S : Nat → Prop} {w0 : World} {L L' : List (Nat × Value)} {H H' Hr : List Ent} {Q : Exit → Act → World → Prop} {x y : Operand} {M : Act → World → Prop} {l : List Oper} {fuel : Nat} {listed : Array Bool}

theorem g_drawH {id n : Nat} [hl : LenO l n] (Hr : List Ent) (hm : P.follows .mixedOrders = true) (_hH : Hr.Sublist H)
    (h : G N ds S w0 L H (wpAnyH P .any l.toArray (OnlyN (Q .normal)) (Wd S w0 Hr) n (Array.replicate n false))) : G N ds S w0 L H (Code.wpIn (FW none) 0 P (Code.region id l.toArray true) Q) := fun a w hS => by
  refine wpIn_wide.2 (wp_region_any hm ?_)
  have h1 := wpAny_of_held _ _ _ _ (h a { w with drawn := w.drawn + 1 } ⟨hS.fr, hS.wd.same rfl rfl rfl rfl⟩)
  rw [← hl.eq] at h1
  have key : ∀ (fuel : Nat) (listed : Array Bool) (a : Act) (w : World), wpAny P .any l.toArray (OnlyN (Q .normal)) fuel listed a w → wpAny P .any l.toArray Q fuel listed a w := by
    intro fuel
    induction fuel with
    | zero => exact fun listed a w h => ⟨h.1, h.2⟩
    | succ fuel ih =>
      intro listed a w h
      refine ⟨fun e => h.1 e, fun i hi => ?_⟩
      have h2 := h.2 i hi
      unfold wpOp at h2 ⊢
      split
      · rename_i ho
        simp only [ho] at h2
        exact ih _ _ _ h2
      · rename_i o ho
        simp only [ho] at h2
        split
        · rename_i hw
          rw [if_pos hw] at h2
          rcases h2 with h3 | ⟨_, a', w', h3⟩
          · left
            unfold Oper.wp at h3 ⊢
            revert h3
            generalize (execOp a.eval o).run P w = r
            intro h3
            cases r with
            | ok nx w1 =>
              cases nx with
              | value v => exact ih _ _ _ h3
              | skip => exact ih _ _ _ h3
              | defer d => exact ih _ _ _ h3
              | enter f args =>
                refine Calls.mono h3 fun e w2 hh => ?_
                cases e with
                | returned v => exact ih _ _ _ hh
                | panicked c => exact (hh : False).elim
                | outgrown => exact (Exists.elim hh fun _ h => Exists.elim h fun _ h => (h : False).elim)
              | row r args => exact Rows.mono h3 fun v w2 hh => ih _ _ _ hh
              | _ => exact h3
            | halt x w1 => cases x <;> exact (h3 : False).elim
          · exact (h3 : False).elim
        · rename_i hw
          rw [if_neg hw] at h2
          exact ih _ _ _ h2
  have := key _ _ _ _ h1
  simpa using this
theorem h_take {d ty : Nat} (i : Nat) {pos : String} {aft : Array Go.Edge} {op : Op} {v : Value} [ho : ListAt l i ⟨some d, op, ty, pos, aft, none⟩] [h : RunsC P N ds S w0 L Hr op v] (hd : okPut d N L = true)
    (hr : ((Region.noSelect l.toArray && Region.free .any l.toArray listed i) && (Region.ready .any l.toArray listed).contains i) = true) (hH : Hr.Sublist H)
    (k : G N ds S w0 ((d, v) :: L) H (wpAnyH P .any l.toArray (OnlyN M) (Wd S w0 Hr) fuel (listed.setIfInBounds i true))) : G N ds S w0 L H (wpAnyH P .any l.toArray (OnlyN M) (Wd S w0 Hr) (fuel + 1) listed) := fun a w hS => by
  simp only [Bool.and_eq_true] at hr
  exact wpAnyH_take (i := i) (oi := ⟨some d, op, ty, pos, aft, none⟩) (v := v) (by simpa using ho.at') hr.1.1 hr.1.2 hr.2 (fun c a w hh => hh) (.inl ⟨rfl, fun w hw => h.run _ _ _ _ _ a w hS.fr hw⟩) (hS.wd.sub hH) (k _ _ ⟨hS.fr.putOk hd v, hS.wd⟩)
/-- the one operation that is left: a store into a slice of the call's own -/
theorem h_storeV {ty T b off k o j n c e s : Nat} (i : Nat) [h : OneCell P T] {xs xs' : List Value} {v : Value} {pos : String} {aft : Array Go.Edge} [ho : ListAt l i ⟨none, .store T x y, ty, pos, aft, none⟩]
    [hx : Ev L x (.pointer (some ⟨b, off, none⟩))] [hy : Ev L y v] [h1 : OneV v] [hb : OwnAt H b off k o j n c e s xs] [hu : XSet xs j v xs'] [hH : SetAt H k (Ent.vec (some ⟨b, o, none⟩) n c e s xs') H']
    (hr : decide (Region.ready .any l.toArray listed = [i]) = true) (hr2 : (Region.ready .any l.toArray (listed.setIfInBounds i true)).isEmpty = true) (hHr : Hr.Sublist H')
    (kk : G N ds S w0 L H' M) : G N ds S w0 L H (wpAnyH P .any l.toArray (OnlyN M) (Wd S w0 Hr) (fuel + 1) listed) := by
  intro a w hS
  obtain ⟨_, _, _, pre, sp, hpre, _, hbx⟩ := hS.wd.vecAt hb.at'
  have e1 := hb.eq
  subst e1
  have hlt := hu.lt
  have hc := hS.wd.vecCell hb.at' (List.getElem?_eq_getElem hlt)
  have hrun := run_storeOne (P := P) (T := T) h1.one hc (by simp [World.frozen?, hbx])
  have hw' := hS.wd.setVec v hb.at' hlt
  rw [hu.eq, hH.set'] at hw'
  refine wpAnyH_all (of_decide_eq_true hr) (by simp) fun i' hi' => ?_
  simp only [List.mem_singleton] at hi'
  subst hi'
  unfold wpOp
  rw [show l.toArray[i']? = some ⟨none, .store T x y, ty, pos, aft, none⟩ by simpa using ho.at']
  simp only
  have hwt : Region.wanted (⟨none, .store T x y, ty, pos, aft, none⟩ : Oper) (yielded l.toArray a.tmps) = true := rfl
  rw [if_pos hwt]
  left
  unfold Oper.wp
  rw [show (execOp a.eval ⟨none, .store T x y, ty, pos, aft, none⟩).run P w = .ok .skip (w.setCell ⟨b, o + j, none⟩ v) by simp [execOp, hx.eq _ _ _ hS.fr, hy.eq _ _ _ hS.fr, hrun]]
  refine ⟨hw'.sub hHr, wpAnyH_done (List.isEmpty_iff.1 hr2) ?_ _⟩
  exact kk _ _ ⟨hS.fr, hw'⟩
end
end Go.Proofs.YtbmnkjaelfjlhaaDoor


/- turneryref3.Ends, dom.sure, turneryref3.SureTable: what each returns. -/
namespace Go.Proofs.YtbmnkjaelfjlhaaDoor
open Go Go.RowKit
attribute [local irreducible] wpListIn Code.wpIn Exit.then Exit.inBlock bodyPost wpQuiet wpAnyIn
set_option maxHeartbeats 2000000

/-- a place that a packed piece tells of -/
class PackCell (F : World → Prop) (b off : Nat) (v : outParam Value) : Prop where
  eq : ∀ w, F w → w.cell? ⟨b, off, none⟩ = some v
instance (fp : Nat → Prop) (F : World → Prop) (b off : Nat) (v : Value) (H : List Ent) [h : PackCell F b off v] : OwnCell (⟨fp, F⟩ :: H) b off v := ⟨fun _ _ w hw => h.eq w (hw.get (k := 0) rfl)⟩

end Go.Proofs.YtbmnkjaelfjlhaaDoor


/- A region that draws its order and writes: every order ends in one of the states that are told by some z. Grids of rows, as plain facts. -/
namespace Go.Proofs.YtbmnkjaelfjlhaaDoor
open Go Go.RowKit

section
variable {P : Program} {ro : Option Nat} {N : Nat} {ds : List Deferred} {S : Nat → Prop} {w0 : World} {L L' : List (Nat × Value)} {H H' : List Ent} {Q : Exit → Act → World → Prop}
end

/-! ### Rows of those c for which R b c, row by row -/
end Go.Proofs.YtbmnkjaelfjlhaaDoor


/- A range over a function: the rule of the walks; calls that are handed pieces; a function that holds such a range. -/
import Derived.Test.YtebajiafdkokjaaDoorMore
import Derived.Test.YtebajiafdkokjaaDoorBack
namespace Go.Proofs.YtebajiafdkokjaaDoor
open Go Go.RowKit

/-- all else that was made so far, as it lies in W -/
def Ent.rest (U : Nat → Prop) (W : World) : Ent := ⟨U, fun w => W.heap.size ≤ w.heap.size ∧ ∀ b, U b → w.heap[b]? = W.heap[b]?⟩
def restOf (n : Nat) (W : World) (H : List Ent) : Nat → Prop := fun b => n ≤ b ∧ b < W.heap.size ∧ ¬ fps H b
/-- the block that the rounds' deferred calls would lie in -/
def Ent.mark (D : Nat) : Ent := ⟨fun k => k = D, fun w => w.heap[D]? = some (.deferred (some []))⟩

section
variable {S : Nat → Prop} {w0 wz w w' W : World} {H H1 H2 H' E F : List Ent}
theorem Wd.withRest (h : Wd S w0 H W) : Wd S w0 (Ent.rest (restOf w0.heap.size W H) W :: H) W :=
  ⟨h.chg, fun e he b hb => by
    rcases List.mem_cons.1 he with rfl | he
    · exact ⟨.inr hb.1, hb.2.1⟩
    · exact h.own e he b hb, fun e he w' hs hw' => by
    rcases List.mem_cons.1 he with rfl | he
    · exact ⟨hs, fun b hb => hw' b hb⟩
    · exact h.ok e he w' hs hw', List.pairwise_cons.2 ⟨fun f hf b hb hfb => hb.2.2 ⟨f, hf, hfb⟩, h.apart⟩⟩
/-- from the base world on, all else kept: so from any world in between -/
theorem wd_rest (hz : Chg NoS wz w) (h : Wd NoS wz (Ent.rest (restOf wz.heap.size w H1) w :: E) w') : Wd (fps H1) w E w' := by
  obtain ⟨hs, hr⟩ := h.get (k := 0) rfl
  have hap := List.pairwise_cons.1 h.apart
  refine ⟨⟨h.chg.os.trans hz.os.symm, h.chg.tape.trans hz.tape.symm, h.chg.output.trans hz.output.symm, hs, fun k hk hnS => ?_⟩, fun e he b hb => ?_, fun e he => h.ok e (List.mem_cons_of_mem _ he), hap.2⟩
  · by_cases hlt : k < wz.heap.size
    · exact (h.chg.block k hlt fun h => h).trans (hz.block k hlt fun h => h).symm
    · exact hr k ⟨by omega, hk, hnS⟩
  · obtain ⟨h1, h2⟩ := h.own e (List.mem_cons_of_mem _ he) b hb
    have h1 : wz.heap.size ≤ b := h1.elim (fun h => h.elim) id
    refine ⟨?_, h2⟩
    by_cases hlt : b < w.heap.size
    · left
      exact Classical.byContradiction fun hn => hap.1 e he b ⟨h1, hlt, hn⟩ hb
    · right; omega
theorem Wd.grown {row : Option Nat} (h : Wd S w0 H W) (hg : W.grownBy w' row) (hr : ∀ r, row = some r → w0.heap.size ≤ r ∧ ¬ fps H r) : Wd S w0 H w' := by
  have hb : ∀ b, fps H b → w'.heap[b]? = W.heap[b]? := fun b ⟨e, he, hb⟩ => hg.block b (h.own e he b hb).2 fun hrow => (hr b hrow.symm).2 ⟨e, he, hb⟩
  refine ⟨⟨hg.os.trans h.chg.os, hg.tape.trans h.chg.tape, hg.output.trans h.chg.output, Nat.le_trans h.chg.size hg.size, fun k hk hS => ?_⟩, fun e he b hb => ?_, fun e he w2 hs hw2 => ?_, h.apart⟩
  · exact (hg.block k (by have := h.chg.size; omega) fun hrow => by have := (hr k hrow.symm).1; omega).trans (h.chg.block k hk hS)
  · have := h.own e he b hb
    exact ⟨this.1, by have := hg.size; omega⟩
  · exact h.ok e he w2 (Nat.le_trans hg.size hs) fun b hbb => (hw2 b hbb).trans (hb b ⟨e, he, hbb⟩)
theorem Wd.shut {D : Nat} (h : Wd S w0 (Ent.mark D :: H) w) (hD : w0.heap.size ≤ D) (o : Obj) : Wd S w0 H (w.putObj D o) := by
  refine (h.sub (List.sublist_cons_self _ _)).grown (grownBy_putObj' w D o) fun r hr => ?_
  cases hr
  exact ⟨hD, fun ⟨f, hf, hfb⟩ => (List.pairwise_cons.1 h.apart).1 f hf D rfl hfb⟩
end
/-- pieces of plain cells -/
class CellsE (e : Ent) : Prop where
  ok : ∀ w, e.ok w → ∀ b, e.fp b → ∃ cs t z, w.heap[b]? = some (.cells cs t z)
class CellsL (H : List Ent) : Prop where
  all : ∀ e ∈ H, CellsE e
instance (b : Nat) (cs : List Value) (t : TypeId) : CellsE (Ent.box b cs t) := ⟨fun w h k hk => by subst hk; exact ⟨_, _, _, h⟩⟩
instance (a : Option Addr) (n c e s : Nat) (xs : List Value) : CellsE (Ent.vec a n c e s xs) := ⟨fun w h k hk => by
  rcases h.2 with ⟨rfl, _⟩ | ⟨g, pre, sp, rfl, _, _, _, hb⟩
  · cases hk
  · simp only [Ent.vec, Option.map_some, Option.some.injEq] at hk
    subst hk
    exact ⟨_, _, _, hb⟩⟩
instance : CellsL [] := ⟨by simp⟩
instance (e : Ent) (H : List Ent) [h : CellsE e] [hs : CellsL H] : CellsL (e :: H) := ⟨fun f hf => by
  rcases List.mem_cons.1 hf with rfl | hf
  · exact h
  · exact hs.all f hf⟩

section
variable {P : Program} {N : Nat} {ds : List Deferred} {S : Nat → Prop} {w0 : World} {L L' : List (Nat × Value)} {H H' : List Ent} {a : Act} {w : World}
  {ops : Array Oper} {rest : List Oper} {Q : Exit → Act → World → Prop} {p : Act → World → Prop}
theorem wpIn_deep {ro : Option Nat} {m n : Nat} {c : Code} (h : c.wpIn (FW ro) m P Q a w) : c.wpIn (FW ro) n P Q a w := fun b k cs hb hf _ => h b k cs hb hf (fun d hd => by cases hd)
theorem callsIn_deep {ro : Option Nat} {m n : Nat} {f : FuncId} {args : Array Value} {R : Ending → World → Prop} (h : CallsIn (FW ro) m P f args w R) : CallsIn (FW ro) n P f args w R := ⟨h.1, fun cs _ => h.2 cs (fun d hd => by cases hd)⟩

/-- a call that is handed the first pieces, through a function value -/
theorem g_callFS {α : Type} {ro : Option Nat} {val : α → Value} {E : α → List Ent} {φ : α → Prop} {H1 H2 : List Ent} {d ty f : Nat} {args : List Operand} {us vs xs : List Value} {tys : Array Nat} {x : Operand} {pos : String} {aft : Array Edge} [h : EnterOk P f] [hx : Evs L args vs] [hf : Ev L x (.func (.func f) us.toArray xs.toArray)] (hd : okPut d N L = true)
    (hc : ∀ w, Wd S w0 (H1 ++ H2) w → Ret P f (us ++ vs ++ xs) w fun u w' => ∃ x, u = val x ∧ Wd (fps H1) w (E x) w' ∧ φ x)
    (k : ∀ x, φ x → G N ds S w0 ((d, val x) :: L) (E x ++ H2) (wpListIn (FW ro) 0 P ops Q rest)) : G N ds S w0 L (H1 ++ H2) (wpListIn (FW ro) 0 P ops Q (⟨some d, .call { callee := .value x, args := args.toArray, argTypes := tys }, ty, pos, aft, none⟩ :: rest)) := by
  intro a w hS
  refine g_callF (S := S) (w0 := w0) (H := H1 ++ H2) (xs := xs) (us := us) (vs := vs) (fun _ u w' => ∃ x, u = val x ∧ Wd S w0 (E x ++ H2) w' ∧ φ x) hd (fun w hw => (hc w hw).mono fun v w' ⟨x, h1, h2, h3⟩ => ⟨x, h1, hw.comp h2, h3⟩) (fun v w w' hw hR a hF => ?_) a w hS
  obtain ⟨x, rfl, h2, h3⟩ := hR
  exact k x h3 a w' ⟨hF, h2⟩
/-- a call that is handed the first pieces -/
theorem g_callS {α : Type} {ro : Option Nat} {val : α → Value} {E : α → List Ent} {φ : α → Prop} {H1 H2 : List Ent} {d ty f : Nat} {args : List Operand} {vs : List Value} {tys : Array Nat} {pos : String} {aft : Array Edge} [h : EnterOk P f] [hx : Evs L args vs] (hd : okPut d N L = true)
    (hc : ∀ w, Wd S w0 (H1 ++ H2) w → Ret P f vs w fun u w' => ∃ x, u = val x ∧ Wd (fps H1) w (E x) w' ∧ φ x)
    (k : ∀ x, φ x → G N ds S w0 ((d, val x) :: L) (E x ++ H2) (wpListIn (FW ro) 0 P ops Q rest)) : G N ds S w0 L (H1 ++ H2) (wpListIn (FW ro) 0 P ops Q (⟨some d, .call { callee := .value (.func f), args := args.toArray, argTypes := tys }, ty, pos, aft, none⟩ :: rest)) := by
  intro a w hS
  refine g_call (S := S) (w0 := w0) (H := H1 ++ H2) (vs := vs) (fun _ u w' => ∃ x, u = val x ∧ Wd S w0 (E x ++ H2) w' ∧ φ x) hd (fun w hw => (hc w hw).mono fun v w' ⟨x, h1, h2, h3⟩ => ⟨x, h1, hw.comp h2, h3⟩) (fun v w w' hw hR a hF => ?_) a w hS
  obtain ⟨x, rfl, h2, h3⟩ := hR
  exact k x h3 a w' ⟨hF, h2⟩

/-! ### Pieces picked by their places -/
class SelAt (H : List Ent) (is : List Nat) (H' : outParam (List Ent)) : Prop where
  eq : is.filterMap (fun i => H[i]?) = H'
instance (H : List Ent) : SelAt H [] [] := ⟨rfl⟩
instance (H H' : List Ent) (i : Nat) (is : List Nat) (e : Ent) [h : ListAt H i e] [hs : SelAt H is H'] : SelAt H (i :: is) (e :: H') := ⟨by rw [List.filterMap_cons, h.at', hs.eq]⟩
theorem Wd.at_apart (h : Wd S w0 H w) {i j : Nat} {e f : Ent} (he : H[i]? = some e) (hf : H[j]? = some f) (hij : i ≠ j) : ∀ b, e.fp b → ¬ f.fp b := by
  obtain ⟨hi, rfl⟩ := List.getElem?_eq_some_iff.1 he
  obtain ⟨hj, rfl⟩ := List.getElem?_eq_some_iff.1 hf
  have hp := List.pairwise_iff_getElem.1 h.apart
  intro b hb hfb
  by_cases hlt : i < j
  · exact hp i j hi hj hlt b hb hfb
  · exact hp j i hj hi (by omega) b hfb hb
theorem Wd.sel (h : Wd S w0 H w) (is : List Nat) (hn : is.Nodup) [hs : SelAt H is H'] : Wd S w0 H' w := by
  rw [← hs.eq]
  refine ⟨h.chg, fun e he => ?_, fun e he => ?_, ?_⟩
  · obtain ⟨i, _, hi⟩ := List.mem_filterMap.1 he
    exact h.own e (List.mem_of_getElem? hi)
  · obtain ⟨i, _, hi⟩ := List.mem_filterMap.1 he
    exact h.ok e (List.mem_of_getElem? hi)
  · refine List.Pairwise.filterMap (R := fun i j => i ≠ j) _ (fun i j hij e he f hf => ?_) hn
    exact h.at_apart he hf hij
theorem g_sel (is : List Nat) (hn : is.Nodup) [hs : SelAt H is H'] (k : G N ds S w0 L H' p) : G N ds S w0 L H p := fun a w hS => k a w ⟨hS.fr, hS.wd.sel is hn⟩

/-! ### A function that holds a range over a function -/
theorem ret_enterM {f : FuncId} {fn : Func} {c : Code} {args : List Value} {R : Value → World → Prop} (hf : P.funcs[f]? = some fn) (hb : fn.body = some c) (hN : fn.ntmps = N) [hL : EnumIs 0 args L] (hlen : args.length.ble N = true) (hW : Wd S w0 H w)
    (h : G N [] S w0 L H (Code.wpIn (FW none) 0 P c (bodyPostM (FW none) 0 P fn fun e w' => ∃ v, e = .returned v ∧ R v w'))) : Ret P f args w R := by
  subst hN
  refine callsIn_of_wp_marks hf hb trivial (h _ _ ⟨?_, hW⟩)
  rw [← hL.eq]
  exact fr_enter (Nat.le_of_ble_eq_true hlen)
/-- the like of 'ret_enter', from an elder world on -/
theorem ret_enterZ {f : FuncId} {fn : Func} {c : Code} {args : List Value} {R : Value → World → Prop} (hf : P.funcs[f]? = some fn) (hb : fn.body = some c) (hN : fn.ntmps = N) [hL : EnumIs 0 args L] (hlen : args.length.ble N = true) (hW : Wd S w0 H w)
    (h : G N [] S w0 L H (Code.wpIn (FW none) 0 P c (bodyPost P fn fun e w' => ∃ v, e = .returned v ∧ R v w'))) : Ret P f args w R := by
  subst hN
  refine callsIn_of_wp hf hb trivial (h _ _ ⟨?_, hW⟩)
  rw [← hL.eq]
  exact fr_enter (Nat.le_of_ble_eq_true hlen)
theorem leaves_mark {fn : Func} {tmps : Array Value} {R : Value → World → Prop} {D : Nat} {v : Value} (hD : w0.heap.size ≤ D) (hW : Wd S w0 (Ent.mark D :: H) w) (hr : ∀ w, (results fn tmps).run P w = .ok v w) (hR : ∀ w, Wd S w0 H w → R v w) :
    LeavesInM (FW none) 0 P fn tmps (fun e w' => ∃ v, e = .returned v ∧ R v w') [⟨.collected D, #[]⟩] .returning w := by
  refine ⟨by simp, .inl ⟨D, _, rfl, run_takeDeferred (hW.get (k := 0) rfl), ?_⟩⟩
  exact ⟨v, hr _, v, rfl, hR _ (hW.shut hD _)⟩
theorem g_endM0 {fn : Func} {R : Value → World → Prop} {D : Nat} (hr : fn.results = #[]) (hD : w0.heap.size ≤ D) (hR : ∀ w, Wd S w0 H w → R (.tuple #[]) w) : G N [⟨.collected D, #[]⟩] S w0 L (Ent.mark D :: H) (bodyPostM (FW none) 0 P fn (fun e w' => ∃ v, e = .returned v ∧ R v w') .normal) := fun a w hS => by
  show LeavesInM _ _ _ _ _ _ _ _ _
  rw [hS.fr.defers]
  exact leaves_mark hD hS.wd (fun w => results_none hr _ _ _) hR
theorem g_retM1 {fn : Func} {R : Value → World → Prop} {D t : Nat} {v : Value} (hr : fn.results = #[.tmp t]) [hv : SlotIs L t v] (hD : w0.heap.size ≤ D) (hR : ∀ w, Wd S w0 H w → R v w) : G N [⟨.collected D, #[]⟩] S w0 L (Ent.mark D :: H) (bodyPostM (FW none) 0 P fn (fun e w' => ∃ v, e = .returned v ∧ R v w') .ret) := fun a w hS => by
  show LeavesInM _ _ _ _ _ _ _ _ _
  rw [hS.fr.defers]
  exact leaves_mark hD hS.wd (fun w => by rw [results_tmp hr]; simp [Array.getD_eq_getD_getElem?, hS.fr.slot _ hv.mem]) hR

/-! ### The range -/
/-- behind a round -/
def Rnd {σ : Type} (S : Nat → Prop) (w0 : World) (I : σ → Prop) (R : Ent) (Hc : σ → List Ent) (F : List Ent) : Act → World → Prop := fun _ w => ∃ s, I s ∧ Wd S w0 (R :: (Hc s ++ F)) w
theorem g_rnd {σ : Type} {I : σ → Prop} {R : Ent} {Hc : σ → List Ent} {F : List Ent} (s : σ) (hI : I s) (hH : (R :: (Hc s ++ F)).Sublist H) : G N ds S w0 L H (Rnd S w0 I R Hc F) := fun _ _ hS => ⟨s, hI, hS.wd.sub hH⟩
theorem g_range {α σ : Type} {g : Operand} {ps : Array Tmp} {assign body : Code} {gf : Nat} {lb : List Value} [hg : Ev L g (.func (.func gf) #[] lb.toArray)] [eg : EnterOk P gf] (F : List Ent) (Hc : σ → List Ent) (hcl : ∀ s, CellsL (Hc s)) (xs : List α) {encs : α → Array Value}
    {Bs : Nat} {bcs : List Value} {bt : TypeId} (hBs : Ent.box Bs bcs bt ∈ F)
    (hseq : ∀ w, Wd S w0 H w → SeqStopsK (FW none) 4 P gf lb.toArray encs (KeepB fun b => (b < w0.heap.size ∧ ¬ S b) ∨ b = Bs) (fun ys => ys = xs) (fun pre => pre <+: xs) xs.length w)
    (I : List α → σ → Prop) (s0 : σ) (h0 : I [] s0) (hH : (Hc s0 ++ F).Sublist H) (hps : ∀ x, (encs x).size = ps.size)
    (L0 La : α → List (Nat × Value)) (hput : ∀ x a, Fr N ds L a → Fr N [] (L0 x) { tmps := (ps.zip (encs x)).foldl (fun t (p, v) => t.setIfInBounds p v) a.tmps, defers := [] })
    (hassign : ∀ (l : Nat) (x : α) (s : σ) (R : Ent), G N [] S w0 (L0 x) (R :: (Hc s ++ F)) (assign.wpIn (FW (some l)) 0 P (Exit.then (St N [] S w0 (La x) (R :: (Hc s ++ F))) (fun _ _ _ => False))))
    (hbody : ∀ (l : Nat) (pre : List α) (x : α) (s : σ) (R : Ent), I pre s → pre.length < xs.length → G N [] S w0 (La x) (R :: (Hc s ++ F)) (body.wpIn (FW (some l)) 0 P (Exit.then (Rnd S w0 (I (pre ++ [x])) R Hc F) (fun _ _ _ => False))))
    (k : ∀ D s, w0.heap.size ≤ D → I xs s → G N (⟨.collected D, #[]⟩ :: ds) S w0 L (Ent.mark D :: (Hc s ++ F)) (Q .normal)) : G N ds S w0 L H (Code.wpIn (FW none) 0 P (Code.rangeFunc g ps assign body) Q) := fun a w hS => by
  have hsz := hS.wd.size
  have hF : ∀ e ∈ F, ∀ b, e.fp b → b < w.heap.size := fun e he b hb => (hS.wd.own e (hH.subset (List.mem_append_right _ he)) b hb).2
  have hcell : ∀ s W, Wd S w0 (Hc s ++ F) W → ∀ r o, W.heap[r]? = some o → o.isCells = false → w.heap.size ≤ r → ¬ fps (Hc s ++ F) r := by
    rintro s W hW r o ho hn hle ⟨e, he, hb⟩
    rcases List.mem_append.1 he with he | he
    · obtain ⟨j, hj⟩ := List.getElem?_of_mem (List.mem_append_left F he)
      obtain ⟨cs, t, z, hc⟩ := ((hcl s).all e he).ok W (hW.get hj) r hb
      rw [hc] at ho
      cases ho
      cases hn
    · have := hF e he r hb; omega
  have hbox : ∀ s W, Wd S w0 (Hc s ++ F) W → W.heap[Bs]? = some (.cells bcs.toArray bt (0, 0)) := fun s W hW => by
    obtain ⟨j, hj⟩ := List.getElem?_of_mem (List.mem_append_right (Hc s) hBs)
    exact hW.get hj
  have hout : ∀ s s' W W', Wd S w0 (Hc s ++ F) W → Wd S w0 (Ent.rest (restOf w0.heap.size W (Hc s ++ F)) W :: (Hc s' ++ F)) W' → KeepsFrom w.heap.size W W' ∧ KeepB (fun b => (b < w0.heap.size ∧ ¬ S b) ∨ b = Bs) W W' := by
    intro s s' W W' hW hW'
    obtain ⟨hs, hr⟩ := hW'.get (k := 0) rfl
    refine ⟨⟨hs, fun j o hj ho hn => ?_⟩, fun b hb => ?_⟩
    · exact (hr j ⟨by omega, (Array.getElem?_eq_some_iff.1 ho).1, hcell s W hW j o ho hn hj⟩).trans ho
    · rcases hb with ⟨h1, h2⟩ | rfl
      · exact (hW'.chg.block b h1 h2).trans (hW.chg.block b h1 h2).symm
      · exact (hbox s' W' (hW'.sub (List.sublist_cons_self _ _))).trans (hbox s W hW).symm
  refine wpIn_deep (m := 5) ?_
  refine wpIn_rangeFunc_ownH (F := FW none) (n := 5) (w0 := w) rfl (by omega) (hg.eq _ _ _ hS.fr) trivial (fun args w => eg.run args w) (hseq w hS.wd) (fun h1 h2 b hb => (h2 b hb).trans (h1 b hb)) (fun W l o o' hl _ _ _ b hb => ?_) (Below.refl _ _) hps
    (fun pre W => ∃ s, I pre s ∧ Wd S w0 (Hc s ++ F) W) (fun _ _ _ => False) (fun pre W W' row ⟨s, hI, hW⟩ hg hr => ⟨s, hI, hW.grown hg fun r e => ?_⟩) (fun _ _ _ _ _ h => h.elim) ⟨s0, h0, hS.wd.sub hH⟩ (fun x a' _ => Fr N [] (La x) a') (fun _ _ _ _ _ _ h _ _ => h) ?_ ?_ ?_ ?_
  · have hlt : b < w.heap.size := by
      rcases hb with ⟨h1, _⟩ | rfl
      · omega
      · exact hF _ hBs b rfl
    exact World.putObj_heap_other (by omega)
  · obtain ⟨h1, o, ho, hn⟩ := hr r e
    exact ⟨by omega, hcell s W hW r o ho hn h1⟩
  · rintro l pre x W K ⟨s, hI, hW⟩ hK
    refine wpIn_deep (m := 0) ?_
    refine Code.wpIn_mono (fun e a' W' q => ?_) (hassign l x s _ _ W ⟨hput x a hS.fr, hW.withRest⟩)
    cases e with
    | normal =>
      have ho := hout s s W W' hW q.wd
      exact hK a' W' ho.1 ho.2 ⟨s, hI, q.wd.sub (List.sublist_cons_self _ _)⟩ q.fr
    | _ => exact q.elim
  · rintro l pre x a' W _ _ ⟨s, hI, hW⟩ ha hlt
    refine wpIn_deep (m := 0) ?_
    refine Code.wpIn_mono (fun e a' W' q => ?_) (hbody l pre x s _ hI hlt a' W ⟨ha, hW.withRest⟩)
    cases e with
    | normal =>
      obtain ⟨s', hI', hW'⟩ := q
      have ho := hout s s' W W' hW hW'
      exact ⟨ho.1, ho.2, s', hI', hW'.sub (List.sublist_cons_self _ _)⟩
    | _ => exact q.elim
  · rintro D ys W hD rfl ⟨s, hI, hW⟩ hd
    refine k D s (by omega) hI _ W ⟨⟨hS.fr.size, by rw [hS.fr.defers], hS.fr.slot⟩, ?_⟩
    have hn : ¬ fps (Hc s ++ F) D := hcell s W hW D _ hd rfl hD
    exact ⟨hW.chg, fun e he b hb => by
      rcases List.mem_cons.1 he with rfl | he
      · cases hb
        exact ⟨.inr (by omega), (Array.getElem?_eq_some_iff.1 hd).1⟩
      · exact hW.own e he b hb, fun e he w2 hs hw2 => by
      rcases List.mem_cons.1 he with rfl | he
      · exact (hw2 D rfl).trans hd
      · exact hW.ok e he w2 hs hw2, List.pairwise_cons.2 ⟨fun f hf b hb hfb => by cases hb; exact hn ⟨f, hf, hfb⟩, hW.apart⟩⟩
  · intro D c pre W _ _ h
    exact h.elim
end
end Go.Proofs.YtebajiafdkokjaaDoor

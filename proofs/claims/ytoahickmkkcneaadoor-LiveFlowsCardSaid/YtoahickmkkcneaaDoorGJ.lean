/- Texts joined: LiveK RangeG LiveL LiveM LiveN. -/
import Derived.Test.YtoahickmkkcneaaDoorGF
import Derived.Test.YtoahickmkkcneaaDoorGI
/- The laws LiveIns and LiveOuts, walked. -/
namespace Go.Proofs.YtoahickmkkcneaaDoor
open Go Go.RowKit
attribute [local irreducible] wpListIn Code.wpIn Exit.then Exit.inBlock bodyPost wpQuiet wpAnyIn wpAnyH
set_option maxHeartbeats 4000000

/-- a sum that fits -/
class AddOk (m n : Int) : Prop where
  lo : -9223372036854775808 ≤ m + n
  hi : m + n ≤ 9223372036854775807
instance {P : Program} {N : Nat} {ds : List Deferred} {S : Nat → Prop} {w0 : World} {L : List (Nat × Value)} {H : List Ent} {x y : Operand} {T T2 : Nat} {m n : Int} [hx : Ev L x (.int .i64 m)] [hy : Ev L y (.int .i64 n)] [h : AddOk m n] : RunsC P N ds S w0 L H (.binOp .add T x y T2) (.int .i64 (m + n)) := by
  have := runs_addW (P := P) (N := N) (ds := ds) (S := S) (w0 := w0) (L := L) (H := H) (x := x) (y := y) (T := T) (T2 := T2) (m := m) (n := n)
  rwa [wrap_in _ h.lo h.hi] at this
theorem ints_same (a b : Value) (l : List Int) (w0 : World) (ha : SlAt w0 a 1 l IntV) (hb : SlAt w0 b 1 l IntV) : RetV Tryd.prog 40 [a, b] w0 (.bool true) := by
  have := ints_c a b l l w0 ha hb
  rwa [decide_eq_true rfl] at this
theorem rowI_sl {S : Nat → Prop} {w0 w : World} {rs : List Row} {i : Nat} {r : Row} (h : Wd S w0 (rs.map entR) w) (hr : rs[i]? = some r) (hb : r.l.length ≤ 1000 ∧ ∀ x ∈ r.l, inI x) : SlAt w (.slice r.a r.l.length r.c) 1 r.l IntV := by
  refine h.slAt (k := i) (e := 3) (xs := r.l.map (.int .i64)) (by rw [List.getElem?_map, hr]; rfl) rfl (by omega) fun j y hy => ⟨[.int .i64 y], fun q v hq => ?_, rfl, hb.2 y (List.mem_of_getElem? hy)⟩
  match q, hq with
  | 0, hq => simpa [hy] using hq
theorem intsL_bd {bl : List LBlock} {R : Nat} {s : Sp} (hR : R ≤ 100) : (intsL (liveN bl R s)).length ≤ 1000 ∧ ∀ x ∈ intsL (liveN bl R s), inI x := by
  have := liveN_len (bl := bl) (R := R) (s := s)
  refine ⟨by simp [intsL]; omega, fun x hx => ?_⟩
  obtain ⟨y, hy, rfl⟩ := List.mem_map.1 hx
  have := liveN_lt hy
  simp only [inI]
  omega
theorem inG_get {bl : List LBlock} {R b : Nat} (hb : b < bl.length) : (inG bl R)[b]? = some (intsL (liveN bl R (b, -1))) := by
  unfold inG
  rw [List.getElem?_map, List.getElem?_range hb]; rfl
theorem outG_get {bl : List LBlock} {R b : Nat} {B : LBlock} (hB : bl[b]? = some B) : (outG bl R)[b]? = some (intsL (liveN bl R (b, (B.list.length : Int) + 1))) := by
  unfold outG
  rw [List.getElem?_map, List.getElem?_range (List.getElem?_eq_some_iff.1 hB).1]
  simp only [Option.map_some, hB, Option.getD_some]
end Go.Proofs.YtoahickmkkcneaaDoor

/- A range over a function whose rounds make memory that lasts: the pieces that the rounds hold may grow. -/
namespace Go.Proofs.YtoahickmkkcneaaDoor
open Go Go.RowKit

/-- plain cells of another type than T -/
class TyN (T : Nat) (e : Ent) : Prop where
  ty : ∀ w, e.ok w → ∀ b, e.fp b → ∃ cs t z, w.heap[b]? = some (.cells cs t z) ∧ t ≠ T
theorem TyN.cells {T : Nat} {e : Ent} (h : TyN T e) (w : World) (hw : e.ok w) (b : Nat) (hb : e.fp b) : ∃ cs t z, w.heap[b]? = some (.cells cs t z) := by
  obtain ⟨cs, t, z, h1, _⟩ := h.ty w hw b hb
  exact ⟨cs, t, z, h1⟩
theorem tyN_box {T b : Nat} {cs : List Value} {t : TypeId} (hne : t ≠ T) : TyN T (Ent.box b cs t) := ⟨fun w h k hk => by subst hk; exact ⟨_, _, _, h, hne⟩⟩
theorem tyN_vec {T : Nat} {a : Option Addr} {n c e s : Nat} {xs : List Value} (hne : e ≠ T) : TyN T (Ent.vec a n c e s xs) := ⟨fun w h k hk => by
  rcases h.2 with ⟨rfl, _⟩ | ⟨g, pre, sp, rfl, _, _, _, hb⟩
  · cases hk
  · simp only [Ent.vec, Option.map_some, Option.some.injEq] at hk
    subst hk
    exact ⟨_, _, _, hb, hne⟩⟩
section
variable {P : Program} {ro : Option Nat} {N : Nat} {ds : List Deferred} {S : Nat → Prop} {w0 : World} {L L' : List (Nat × Value)} {H H' : List Ent} {a : Act} {w : World}
  {ops : Array Oper} {rest : List Oper} {Q : Exit → Act → World → Prop} {p : Act → World → Prop} {x y : Operand}
theorem g_rangeG {α σ : Type} {g : Operand} {ps : Array Tmp} {assign body : Code} {gf : Nat} {lb : List Value} [hg : Ev L g (.func (.func gf) #[] lb.toArray)] [eg : EnterOk P gf] (F : List Ent) (Hc : σ → List Ent) (s0 : σ) (T : Nat) (hcl : ∀ s, ∀ e ∈ Hc s, TyN T e) (xs : List α) {encs : α → Array Value}
    {Bs : Nat} {bcs : List Value} {bt : TypeId} (hBs : Ent.box Bs bcs bt ∈ F)
    (hseq : ∀ w, Wd NoS w0 H w → SeqStopsK (FW none) 4 P gf lb.toArray encs (KeepX fun b => (fps (Hc s0 ++ F) b ∨ w.heap.size ≤ b) ∧ b ≠ Bs) (fun ys => ys = xs) (fun pre => pre <+: xs) xs.length w)
    (I : List α → σ → Prop) (h0 : I [] s0) (hH : (Hc s0 ++ F).Sublist H) (hps : ∀ x, (encs x).size = ps.size) (bx : α → List Value)
    (L0 : α → List (Nat × Value)) (La : α → Nat → List (Nat × Value)) (hput : ∀ x a, Fr N ds L a → Fr N [] (L0 x) { tmps := (ps.zip (encs x)).foldl (fun t (p, v) => t.setIfInBounds p v) a.tmps, defers := [] })
    (hassign : ∀ (l : Nat) (x : α) (s : σ) (R : Ent), G N [] NoS w0 (L0 x) (R :: (Hc s ++ F)) (assign.wpIn (FW (some l)) 0 P (Exit.then (fun a w => ∃ q, St N [] NoS w0 (La x q) (Ent.box q (bx x) T :: R :: (Hc s ++ F)) a w) (fun _ _ _ => False))))
    (hbody : ∀ (l : Nat) (pre : List α) (x : α) (s : σ) (q : Nat) (R : Ent), I pre s → pre.length < xs.length → G N [] NoS w0 (La x q) (R :: Ent.box q (bx x) T :: (Hc s ++ F)) (body.wpIn (FW (some l)) 0 P (Exit.then (Rnd NoS w0 (I (pre ++ [x])) R Hc (Ent.box q (bx x) T :: F)) (fun _ _ _ => False))))
    (k : ∀ D s, w0.heap.size ≤ D → I xs s → G N (⟨.collected D, #[]⟩ :: ds) NoS w0 L (Ent.mark D :: (Hc s ++ F)) (Q .normal)) : G N ds NoS w0 L H (Code.wpIn (FW none) 0 P (Code.rangeFunc g ps assign body) Q) := fun a w hS => by
  have hsz := hS.wd.size
  have hF : ∀ e ∈ F, ∀ b, e.fp b → b < w.heap.size := fun e he b hb => (hS.wd.own e (hH.subset (List.mem_append_right _ he)) b hb).2
  have hcell : ∀ s W, Wd NoS w0 (Hc s ++ F) W → ∀ r o, W.heap[r]? = some o → o.isCells = false → w.heap.size ≤ r → ¬ fps (Hc s ++ F) r := by
    rintro s W hW r o ho hn hle ⟨e, he, hb⟩
    rcases List.mem_append.1 he with he | he
    · obtain ⟨j, hj⟩ := List.getElem?_of_mem (List.mem_append_left F he)
      obtain ⟨cs, t, z, hc⟩ := (hcl s e he).cells W (hW.get hj) r hb
      rw [hc] at ho
      cases ho
      cases hn
    · have := hF e he r hb; omega
  have hbox : ∀ s W, Wd NoS w0 (Hc s ++ F) W → W.heap[Bs]? = some (.cells bcs.toArray bt (0, 0)) := fun s W hW => by
    obtain ⟨j, hj⟩ := List.getElem?_of_mem (List.mem_append_right (Hc s) hBs)
    exact hW.get hj
  have htyp : ∀ s W, Wd NoS w0 (Hc s ++ F) W → ∀ q cs z, W.heap[q]? = some (.cells cs T z) → ¬ fps (Hc s) q := by
    rintro s W hW q cs z hq ⟨e, he, hb⟩
    obtain ⟨j, hj⟩ := List.getElem?_of_mem (List.mem_append_left F he)
    obtain ⟨cs', t, z', hc, hne⟩ := (hcl s e he).ty W (hW.get hj) q hb
    rw [hc] at hq
    simp only [Option.some.injEq, Obj.cells.injEq] at hq
    exact hne hq.2.1
  have hold : ∀ s, (∀ b, fps (Hc s) b → fps (Hc s0 ++ F) b ∨ w.heap.size ≤ b) → ∀ b, fps (Hc s ++ F) b → fps (Hc s0 ++ F) b ∨ w.heap.size ≤ b := by
    rintro s h b ⟨e, he, hb⟩
    rcases List.mem_append.1 he with he | he
    · exact h b ⟨e, he, hb⟩
    · exact .inl ⟨e, List.mem_append_right _ he, hb⟩
  have hout : ∀ s s' (H0 : List Ent) W W', Wd NoS w0 (Hc s ++ F) W → (∀ r o, W.heap[r]? = some o → o.isCells = false → w.heap.size ≤ r → ¬ fps H0 r) → Wd NoS w0 (Ent.rest (restOf w0.heap.size W H0) W :: (Hc s' ++ F)) W' → (∀ b, fps H0 b → fps (Hc s0 ++ F) b ∨ w.heap.size ≤ b) → KeepsFrom w.heap.size W W' ∧ KeepX (fun b => (fps (Hc s0 ++ F) b ∨ w.heap.size ≤ b) ∧ b ≠ Bs) W W' := by
    intro s s' H0 W W' hW hc0 hW' hx
    obtain ⟨hs, hr⟩ := hW'.get (k := 0) rfl
    refine ⟨⟨hs, fun j o hj ho hn => ?_⟩, fun b cs t z hb hc => ?_⟩
    · exact (hr j ⟨by omega, (Array.getElem?_eq_some_iff.1 ho).1, hc0 j o ho hn hj⟩).trans ho
    · by_cases e : b = Bs
      · subst e
        exact (hbox s' W' (hW'.sub (List.sublist_cons_self _ _))).trans ((hbox s W hW).symm.trans hc)
      · have hnf : ¬ (fps (Hc s0 ++ F) b ∨ w.heap.size ≤ b) := fun h => hb ⟨h, e⟩
        by_cases hlt : b < w0.heap.size
        · exact ((hW'.chg.block b hlt fun h => h).trans (hW.chg.block b hlt fun h => h).symm).trans hc
        · exact (hr b ⟨by omega, (Array.getElem?_eq_some_iff.1 hc).1, fun h0 => hnf (hx b h0)⟩).trans hc
  refine wpIn_deep (m := 5) ?_
  refine wpIn_rangeFunc_ownH (F := FW none) (n := 5) (w0 := w) rfl (by omega) (hg.eq _ _ _ hS.fr) trivial (fun args w => eg.run args w) (hseq w hS.wd) (fun h1 h2 => h1.trans h2) (fun W l o o' hl ho hn _ b cs t z _ hc => ?_) (Below.refl _ _) hps
    (fun pre W => ∃ s, I pre s ∧ Wd NoS w0 (Hc s ++ F) W ∧ w.heap.size ≤ W.heap.size ∧ ∀ b, fps (Hc s) b → fps (Hc s0 ++ F) b ∨ w.heap.size ≤ b) (fun _ _ _ => False) (fun pre W W' row ⟨s, hI, hW, hsW, hgr⟩ hg hr => ⟨s, hI, hW.grown hg fun r e => ?_, Nat.le_trans hsW hg.size, hgr⟩) (fun _ _ _ _ _ h => h.elim) ⟨s0, h0, hS.wd.sub hH, Nat.le_refl _, fun b ⟨e, he, hb⟩ => .inl ⟨e, List.mem_append_left _ he, hb⟩⟩
    (fun x a' W => ∃ q, Fr N [] (La x q) a' ∧ W.heap[q]? = some (.cells (bx x).toArray T (0, 0)) ∧ w.heap.size ≤ q ∧ ¬ fps F q) (fun x a' _ W W' row ⟨q, h1, h2, h3, h4⟩ hg hr => ⟨q, h1, ?_, h3, h4⟩) ?_ ?_ ?_ ?_
  · refine (World.putObj_heap_other fun e => ?_).trans hc
    subst e
    rw [hc] at ho
    cases ho
    cases hn
  · obtain ⟨h1, o, ho, hn⟩ := hr r e
    exact ⟨by omega, hcell s W hW r o ho hn h1⟩
  · refine (hg.block q (Array.getElem?_eq_some_iff.1 h2).1 fun e => ?_).trans h2
    obtain ⟨_, o, ho, hn⟩ := hr q e.symm
    rw [h2] at ho
    cases ho
    cases hn
  · rintro l pre x W K ⟨s, hI, hW, hsW, hgr⟩ hK
    refine wpIn_deep (m := 0) ?_
    refine Code.wpIn_mono (fun e a' W' q => ?_) (hassign l x s _ _ W ⟨hput x a hS.fr, hW.withRest⟩)
    cases e with
    | normal =>
      obtain ⟨q, hq⟩ := q
      have ho := hout s s _ W W' hW (hcell s W hW) (hq.wd.sub (List.sublist_cons_self _ _)) (hold s hgr)
      have hap := List.pairwise_cons.1 hq.wd.apart
      have hqf : ¬ fps (Hc s ++ F) q := fun ⟨e, he, hb⟩ => hap.1 e (List.mem_cons_of_mem _ he) q rfl hb
      have hqo := hq.wd.own (Ent.box q (bx x) T) (by simp) q rfl
      refine hK a' W' ho.1 ho.2 ⟨s, hI, hq.wd.sub (List.Sublist.cons _ (List.Sublist.cons _ (List.Sublist.refl _))), Nat.le_trans hsW ho.1.size, hgr⟩ ⟨q, hq.fr, hq.wd.get (k := 0) rfl, ?_, fun ⟨e, he, hb⟩ => hqf ⟨e, List.mem_append_right _ he, hb⟩⟩
      refine Classical.byContradiction fun hlt => ?_
      have h1 : w0.heap.size ≤ q := hqo.1.elim (fun h => h.elim) id
      exact hap.1 (Ent.rest (restOf w0.heap.size W (Hc s ++ F)) W) (by simp) q rfl ⟨h1, by omega, hqf⟩
    | _ => exact q.elim
  · rintro l pre x a' W _ _ ⟨s, hI, hW, hsW, hgr⟩ ⟨q', h1, h2, h3, h5⟩ hlt
    have h4 : ¬ fps (Hc s ++ F) q' := by
      rintro ⟨e, he, hb⟩
      rcases List.mem_append.1 he with he | he
      · exact htyp s W hW q' _ _ h2 ⟨e, he, hb⟩
      · exact h5 ⟨e, he, hb⟩
    have hWb : Wd NoS w0 (Ent.box q' (bx x) T :: (Hc s ++ F)) W := ⟨hW.chg, fun e he b hb => by
      rcases List.mem_cons.1 he with rfl | he
      · cases hb
        exact ⟨.inr (by omega), (Array.getElem?_eq_some_iff.1 h2).1⟩
      · exact hW.own e he b hb, fun e he w2 hs hw2 => by
      rcases List.mem_cons.1 he with rfl | he
      · exact (hw2 q' rfl).trans h2
      · exact hW.ok e he w2 hs hw2, List.pairwise_cons.2 ⟨fun f hf b hb hfb => by cases hb; exact h4 ⟨f, hf, hfb⟩, hW.apart⟩⟩
    refine wpIn_deep (m := 0) ?_
    refine Code.wpIn_mono (fun e a' W' q => ?_) (hbody l pre x s q' _ hI hlt a' W ⟨h1, hWb.withRest⟩)
    cases e with
    | normal =>
      obtain ⟨s', hI', hW'⟩ := q
      have hW2 : Wd NoS w0 (Ent.rest (restOf w0.heap.size W (Ent.box q' (bx x) T :: (Hc s ++ F))) W :: (Hc s' ++ F)) W' := hW'.sub (List.Sublist.cons_cons _ (List.Sublist.append_left (List.sublist_cons_self _ _) _))
      have hq2 : W'.heap[q']? = some (.cells (bx x).toArray T (0, 0)) := by
        obtain ⟨j, hj⟩ := List.getElem?_of_mem (show Ent.box q' (bx x) T ∈ Ent.rest (restOf w0.heap.size W (Ent.box q' (bx x) T :: (Hc s ++ F))) W :: (Hc s' ++ (Ent.box q' (bx x) T :: F)) by simp)
        exact hW'.get hj
      have ho := hout s s' _ W W' hW (fun r o ho hn hle => by
        rintro ⟨e, he, hb⟩
        rcases List.mem_cons.1 he with rfl | he
        · cases hb
          rw [h2] at ho
          cases ho
          cases hn
        · exact hcell s W hW r o ho hn hle ⟨e, he, hb⟩) hW2 (fun b hb => by
        obtain ⟨e, he, hb⟩ := hb
        rcases List.mem_cons.1 he with rfl | he
        · cases hb
          exact .inr h3
        · exact hold s hgr b ⟨e, he, hb⟩)
      refine ⟨ho.1, ho.2, s', hI', hW2.sub (List.sublist_cons_self _ _), Nat.le_trans hsW ho.1.size, fun b ⟨e, he, hb⟩ => ?_⟩
      refine Classical.byContradiction fun hn => ?_
      have hap := List.pairwise_cons.1 hW2.apart
      have hlo := (hW2.own e (List.mem_cons_of_mem _ (List.mem_append_left _ he)) b hb).1.elim (fun h => h.elim) id
      refine hap.1 e (List.mem_append_left _ he) b ⟨hlo, ?_, fun ⟨e2, he2, hb2⟩ => hn ?_⟩ hb
      · refine Classical.byContradiction fun h => hn (.inr (by omega))
      · rcases List.mem_cons.1 he2 with rfl | he2
        · cases hb2
          exact .inr h3
        · exact hold s hgr b ⟨e2, he2, hb2⟩
    | _ => exact q.elim
  · rintro D ys W hD rfl ⟨s, hI, hW, _, _⟩ hd
    refine k D s (by omega) hI _ W ⟨⟨hS.fr.size, by rw [hS.fr.defers], hS.fr.slot⟩, ?_⟩
    have hn : ¬ fps (Hc s ++ F) D := hcell s W hW D _ hd rfl hD
    exact ⟨hW.chg, fun e he b hb => by
      rcases List.mem_cons.1 he with rfl | he
      · cases hb
        exact ⟨.inr (by omega), (Array.getElem?_eq_some_iff.1 hd).1⟩
      · exact hW.own e he b hb, fun e he w2 hs hw2 => by
      rcases List.mem_cons.1 he with rfl | he
      · exact (hw2 D rfl).trans hd
      · exact hW.ok e he w2 hs hw2, List.pairwise_cons.2 ⟨fun f hf b hb hfb => by cases hb; exact hn ⟨f, hf, hfb⟩, hW.apart⟩⟩
  · intro D c pre W _ _ h
    exact h.elim
theorem leaves_marksW {fn : Func} {tmps : Array Value} {R : Value → World → Prop} {v : Value} (hr : ∀ w, Wd NoS w0 H w → (results fn tmps).run P w = .ok v w) (hR : ∀ w, Wd NoS w0 H w → R v w) : ∀ (Ds : List Nat) (w : World), Wd NoS w0 (marks Ds ++ H) w →
    LeavesInM (FW none) 0 P fn tmps (fun e w' => ∃ v, e = .returned v ∧ R v w') (dsOf Ds) .returning w
  | [], w, hW => ⟨v, hr w hW, v, rfl, hR w hW⟩
  | D :: Ds, w, hW => by
    have h1 : Wd NoS w0 (Ent.mark D :: (marks Ds ++ H)) w := hW
    have hD : w0.heap.size ≤ D := (h1.own (Ent.mark D) (by simp) D rfl).1.elim (fun h => h.elim) id
    exact ⟨by simp, .inl ⟨D, _, rfl, run_takeDeferred (h1.get (k := 0) rfl), leaves_marksW hr hR Ds _ (h1.shut hD _)⟩⟩
theorem g_retMsTC {fn : Func} {R : Value → World → Prop} (Ds : List Nat) {s t T n b j bt : Nat} {u : Value} {cs : List Value} (hr : fn.results = #[.tmp s, .cell t T]) [hu : SlotIs L s u] [hv : SlotIs L t (.pointer (some ⟨b, 0, none⟩))] [h : AggSize P T n] [hb : BoxIn H b j cs bt] [hl : LenIs cs n] (hR : ∀ w, Wd NoS w0 H w → R (.tuple #[u, .agg cs.toArray]) w) : G N (dsOf Ds) NoS w0 L (marks Ds ++ H) (bodyPostM (FW none) 0 P fn (fun e w' => ∃ v, e = .returned v ∧ R v w') .ret) := fun a w hS => by
  show LeavesInM _ _ _ _ _ _ _ _ _
  rw [hS.fr.defers]
  refine leaves_marksW (fun w hw => ?_) hR Ds w hS.wd
  have := run_loadBox (P := P) (T := T) (b := b) (cs := cs) hw
  simp [results, hr, Array.getD_eq_getD_getElem?, hS.fr.slot _ hv.mem, hS.fr.slot _ hu.mem, asAddr, this]
end
end Go.Proofs.YtoahickmkkcneaaDoor

/- What is live within a block, told from its end on; slices.Reverse of rows. -/
namespace Go.Proofs.YtoahickmkkcneaaDoor
open Go Go.RowKit
attribute [local irreducible] wpListIn Code.wpIn Exit.then Exit.inBlock bodyPost wpQuiet wpAnyIn wpAnyH
set_option maxHeartbeats 4000000

theorem live_len {bl : List LBlock} {b r : Nat} {B : LBlock} (hB : bl[b]? = some B) : LiveS bl r b B.list.length ↔ (namesR [B.on] r = true ∨ LiveS bl r b (B.list.length + 1)) := by
  constructor
  · intro h
    generalize hj : (B.list.length : Int) = j at h
    cases h with
    | phi => omega
    | use hB' hx => rw [hB] at hB'; cases hB'; have := (List.getElem?_eq_some_iff.1 hx).1; omega
    | go hB' hx => rw [hB] at hB'; cases hB'; have := (List.getElem?_eq_some_iff.1 hx).1; omega
    | on hB' hn => rw [hB] at hB'; cases hB'; exact .inl hn
    | take hB' _ ht hk => rw [hB] at hB'; cases hB'; exact .inr (.take hB (.inr (by omega)) ht hk)
    | jump hB' _ ht hk => rw [hB] at hB'; cases hB'; exact .inr (.jump hB (.inr (by omega)) ht hk)
  · rintro (h | h)
    · exact .on hB h
    · generalize hj : (B.list.length : Int) + 1 = j at h
      cases h with
      | phi => omega
      | use hB' hx => rw [hB] at hB'; cases hB'; have := (List.getElem?_eq_some_iff.1 hx).1; omega
      | go hB' hx => rw [hB] at hB'; cases hB'; have := (List.getElem?_eq_some_iff.1 hx).1; omega
      | on hB' => rw [hB] at hB'; cases hB'; omega
      | take hB' _ ht hk => rw [hB] at hB'; cases hB'; exact .take hB (.inl rfl) ht hk
      | jump hB' _ ht hk => rw [hB] at hB'; cases hB'; exact .jump hB (.inl rfl) ht hk
theorem live_ins {bl : List LBlock} {b r i : Nat} {B : LBlock} {x : LIns} (hB : bl[b]? = some B) (hx : B.list[i]? = some x) : LiveS bl r b i ↔ (namesR (usesOf x) r = true ∨ (x.dst ≠ r ∧ LiveS bl r b (i + 1 : Nat))) := by
  have hlt := (List.getElem?_eq_some_iff.1 hx).1
  constructor
  · intro h
    generalize hj : (i : Int) = j at h
    cases h with
    | phi => omega
    | @use _ i' _ _ hB' hx' hn =>
      rw [hB] at hB'; cases hB'
      have : i' = i := by omega
      subst this
      rw [hx] at hx'; cases hx'
      exact .inl hn
    | @go _ i' _ _ hB' hx' hd hl =>
      rw [hB] at hB'; cases hB'
      have : i' = i := by omega
      subst this
      rw [hx] at hx'; cases hx'
      exact .inr ⟨hd, hl⟩
    | on hB' => rw [hB] at hB'; cases hB'; omega
    | take hB' hj' => rw [hB] at hB'; cases hB'; omega
    | jump hB' hj' => rw [hB] at hB'; cases hB'; omega
  · rintro (h | ⟨h1, h2⟩)
    · exact .use hB hx h
    · exact .go hB hx h1 h2
/-- the sets from the end on -/
def setsL (s : List Bool) : List LIns → List (List Bool)
  | [] => [s]
  | x :: l => s :: setsL (insV s x) l
theorem setsL_add (x : LIns) : ∀ (l : List LIns) (s : List Bool), setsL s (l ++ [x]) = setsL s l ++ [insV (l.foldl insV s) x]
  | [], s => rfl
  | y :: l, s => by simp only [List.cons_append, setsL, setsL_add x l, List.foldl_cons]
theorem setsL_len : ∀ (l : List LIns) (s : List Bool), (setsL s l).length = l.length + 1
  | [], s => rfl
  | y :: l, s => by simp only [setsL, List.length_cons, setsL_len l]
theorem setsL_get : ∀ (l : List LIns) (s : List Bool) (k : Nat), k ≤ l.length → (setsL s l)[k]? = some ((l.take k).foldl insV s)
  | [], s, k, h => by
    have : k = 0 := by simpa using h
    subst this; rfl
  | y :: l, s, 0, _ => rfl
  | y :: l, s, k + 1, h => by
    simp only [setsL, List.getElem?_cons_succ, List.take_succ_cons, List.foldl_cons]
    exact setsL_get l (insV s y) k (by simpa using h)
theorem foldV_len : ∀ (l : List LIns) (s : List Bool), (l.foldl insV s).length = s.length
  | [], _ => rfl
  | y :: l, s => by rw [List.foldl_cons, foldV_len l, insV_length]
/-- the lists of a block -/
noncomputable def atG (bl : List LBlock) (R b n : Nat) : List (List Int) := (List.range (n + 1)).map fun j => intsL (liveN bl R (b, (j : Nat)))
theorem at_sets {R : Nat} {bl : List LBlock} {b : Nat} {B : LBlock} (hf : FuncOk R bl) (hB : bl[b]? = some B) {s : List Bool} (hs : s.length = R) (h : ∀ r, has s r ↔ LiveS bl r b B.list.length) :
    ((setsL s B.list.reverse).map fun s => intsL (trueN s)).reverse = atG bl R b B.list.length := by
  have hst : ∀ k, k ≤ B.list.length → ∀ r, has ((B.list.reverse.take k).foldl insV s) r ↔ LiveS bl r b ((B.list.length - k : Nat) : Int) := by
    intro k
    induction k with
    | zero => exact fun _ r => h r
    | succ k ih =>
      intro hk r
      obtain ⟨x, hx⟩ : ∃ x, B.list[B.list.length - 1 - k]? = some x := ⟨_, List.getElem?_eq_getElem (by omega)⟩
      have hxo := (hf.block b B hB).list x (List.mem_of_getElem? hx)
      rw [List.take_add_one, List.getElem?_reverse (by omega), hx, List.foldl_append]
      simp only [Option.toList_some, List.foldl_cons, List.foldl_nil]
      have hl : ((B.list.reverse.take k).foldl insV s).length = R := by rw [foldV_len, hs]
      rw [has_insV (by rw [hl]; exact hxo), ih (by omega) r, ← uses_vals hxo, show B.list.length - (k + 1) = B.list.length - 1 - k by omega, live_ins hB hx, show B.list.length - 1 - k + 1 = B.list.length - k by omega]
  apply List.ext_getElem?
  intro i
  unfold atG
  by_cases hi : i ≤ B.list.length
  · rw [List.getElem?_reverse (by rw [List.length_map, setsL_len, List.length_reverse]; omega), List.length_map, setsL_len, List.length_reverse, List.getElem?_map, setsL_get _ _ _ (by rw [List.length_reverse]; omega), List.getElem?_map, List.getElem?_range (by omega)]
    simp only [Option.map_some, Option.some.injEq]
    have := hst (B.list.length + 1 - 1 - i) (by omega)
    rw [show B.list.length - (B.list.length + 1 - 1 - i) = i by omega] at this
    rw [true_live (R := R) (bl := bl) (s := (b, (i : Int))) (by rw [foldV_len, hs]) this]
  · rw [List.getElem?_eq_none (by rw [List.length_reverse, List.length_map, setsL_len, List.length_reverse]; omega), List.getElem?_eq_none (by simp; omega)]

instance (r : Row) : OneV (valR r) := ⟨rfl⟩
theorem rev_swapA {α : Type} {l l' : List α} {i j : Nat} {x y : α} (hl : l'.length = l.length) (hij : i < j) (hj : i + j + 1 = l.length) (h : ∀ k, k < l.length → l'[k]? = if k < i ∨ j < k then l[l.length - 1 - k]? else l[k]?) (hx : l'[i]? = some x) (hy : l'[j]? = some y) :
    ∀ k, k < l.length → ((l'.set i y).set j x)[k]? = if k < i + 1 ∨ j - 1 < k then l[l.length - 1 - k]? else l[k]? := by
  intro k hk
  have hi := h i (by omega)
  have hjj := h j (by omega)
  rw [if_neg (by omega), hx] at hi
  rw [if_neg (by omega), hy] at hjj
  rw [List.getElem?_set, List.getElem?_set]
  by_cases e1 : j = k
  · subst e1
    rw [if_pos rfl, if_pos (by simp; omega), if_pos (by omega), show l.length - 1 - j = i by omega, hi]
  · rw [if_neg e1]
    by_cases e2 : i = k
    · subst e2
      rw [if_pos rfl, if_pos (by omega), if_pos (by omega), show l.length - 1 - i = j by omega, hjj]
    · rw [if_neg e2, h k hk]
      by_cases e3 : k < i ∨ j < k
      · rw [if_pos e3, if_pos (by omega)]
      · rw [if_neg e3, if_neg (by omega)]
theorem rev_doneA {α : Type} {l l' : List α} {i : Nat} (hl : l'.length = l.length) (hi : l.length ≤ 2 * i + 1) (h : ∀ k, k < l.length → l'[k]? = if k < i ∨ (l.length : Int) - 1 - i < k then l[l.length - 1 - k]? else l[k]?) : l' = l.reverse := by
  apply List.ext_getElem?
  intro k
  by_cases hk : k < l.length
  · rw [h k hk, List.getElem?_reverse hk]
    by_cases e : k < i ∨ (l.length : Int) - 1 - i < k
    · rw [if_pos e]
    · rw [if_neg e, show l.length - 1 - k = k by omega]
  · rw [List.getElem?_eq_none (by omega), List.getElem?_eq_none (by rw [List.length_reverse]; omega)]
theorem reverseR_c (a : Option Addr) (c : Nat) (l : List Row) (hlen : l.length ≤ 100000) (w : World) (hw : Wd (fps [Ent.vec a l.length c 35 1 (l.map valR)]) w [Ent.vec a l.length c 35 1 (l.map valR)] w) :
    Ret Tryd.prog 61 [.slice a l.length c] w fun u w' => ∃ _ : Unit, u = .tuple #[] ∧ Wd (fps [Ent.vec a l.length c 35 1 (l.map valR)]) w [Ent.vec a l.length c 35 1 (l.reverse.map valR)] w' ∧ True := by
  refine ret_enter Tryd.func61 rfl Tryd.ntmps61 rfl hw ?_
  generalize fps [Ent.vec a l.length c 35 1 (l.map valR)] = SS
  repeat (first | refine g_op rfl ?_ | refine g_then ?_ | refine g_nil ?_ | refine g_region ?_ | refine g_seq ?_ | refine g_block ?_ | refine g_sub rfl (by omega) (by omega) ?_)
  refine g_loop (fun (x : Nat × Int × Option Addr × List Row) => x.2.1 = (l.length : Int) - 1 - x.1 ∧ x.1 ≤ l.length ∧ x.2.2.2.length = l.length ∧ x.2.2.1 = a ∧ ∀ k, k < l.length → x.2.2.2[k]? = if k < x.1 ∨ (l.length : Int) - 1 - x.1 < k then l[l.length - 1 - k]? else l[k]?) (fun x => [(2, .int .i64 x.1), (3, .int .i64 x.2.1), (0, .slice x.2.2.1 l.length c)])
    (fun x => [Ent.vec x.2.2.1 l.length c 35 1 (x.2.2.2.map valR)]) (fun x => l.length - x.1) (0, (l.length : Int) - 1, a, l) ⟨by simp, Nat.zero_le _, rfl, rfl, fun k hk => by rw [if_neg (by simp only; omega)]⟩ (g_done (by repeat (first | exact trivial | refine ⟨rfl, ?_⟩)) (List.Sublist.refl _)) fun x ⟨hj, hi, hl, ha, hall⟩ => ?_
  obtain ⟨i, j, a', l'⟩ := x
  simp only at hj hi hl ha hall ⊢
  repeat (first | refine g_op rfl ?_ | refine g_then ?_ | refine g_nil ?_ | refine g_region ?_ | refine g_seq ?_)
  refine g_cond (fun h1 => ?_) (fun h1 => ?_)
  · have hlt : (i : Int) < j := by simpa using h1
    obtain ⟨jn, rfl⟩ : ∃ jn : Nat, j = jn := ⟨j.toNat, by omega⟩
    refine g_vec 0 rfl (by omega) fun rb ro hra => ?_
    obtain ⟨x, hx⟩ : ∃ x, l'[i]? = some x := ⟨_, List.getElem?_eq_getElem (by omega)⟩
    obtain ⟨y, hy⟩ : ∃ y, l'[jn]? = some y := ⟨_, List.getElem?_eq_getElem (by omega)⟩
    rw [hra]
    have hli : LtIs i l.length := ⟨by omega⟩
    have hlj : LtIs jn l.length := ⟨by omega⟩
    have he1 : ElAt l' i x := ⟨hx⟩
    have he2 : ElAt l' jn y := ⟨hy⟩
    have he3 : ElAt (l'.set i y) jn y := ⟨by rw [List.getElem?_set, if_neg (by omega), hy]⟩
    have he4 : ElAt (l'.set jn x) i x := ⟨by rw [List.getElem?_set, if_neg (by omega), hx]⟩
    repeat (first | refine g_then ?_ | refine g_seq ?_ | refine g_block ?_ | refine g_skip ?_)
    refine g_drawW [(2, .int .i64 i), (3, .int .i64 jn), (0, .slice (some ⟨rb, ro, none⟩) l.length c)] [Ent.vec (some ⟨rb, ro, none⟩) l.length c 35 1 (((l'.set i y).set jn x).map valR)] mixed ?_ ?_
    · repeat' (first | refine g_take 0 rfl (by decide +kernel) ?_ | refine g_take 1 rfl (by decide +kernel) ?_ | refine g_take 2 rfl (by decide +kernel) ?_ | refine g_take 3 rfl (by decide +kernel) ?_ | refine g_take 4 rfl (by decide +kernel) ?_ | refine g_take 5 rfl (by decide +kernel) ?_ | refine g_take 6 rfl (by decide +kernel) ?_ | refine g_take 8 rfl (by decide +kernel) ?_ | refine g_take 9 rfl (by decide +kernel) ?_ | refine g_take 10 rfl (by decide +kernel) ?_ | refine g_take 12 rfl (by decide +kernel) ?_ | refine g_take 14 rfl (by decide +kernel) ?_ | refine g_any0 (by decide +kernel) ?_ | refine g_any (by decide +kernel) ?_ | refine any_nil | refine any_skip (by decide +kernel) ?_ | refine any_cons ?_ ?_ | refine g_op rfl ?_ | refine g_then ?_ | refine g_nil ?_ | refine g_storeV ?_)
      all_goals exact g_done (by repeat (first | exact trivial | refine ⟨rfl, ?_⟩)) (List.Sublist.refl _)
    · repeat (first | refine g_op rfl ?_ | refine g_then ?_ | refine g_nil ?_ | refine g_region ?_ | refine g_opS rfl ?_ | refine g_inBlock ?_ | refine g_add rfl (by omega) (by omega) ?_ | refine g_sub rfl (by omega) (by omega) ?_)
      refine g_next (i + 1, (jn : Int) - 1, some ⟨rb, ro, none⟩, (l'.set i y).set jn x) ⟨by simp only; omega, by simp only; omega, by simpa using hl, by rw [← hra]; exact ha, fun k hk => ?_⟩ (by simp only; omega) (by repeat (first | exact trivial | refine ⟨rfl, ?_⟩)) (List.Sublist.refl _)
      have := rev_swapA hl (by omega) (by omega) (fun k hk => by
        rw [hall k hk]
        by_cases e : k < i ∨ jn < k
        · rw [if_pos e, if_pos (by omega)]
        · rw [if_neg e, if_neg (by omega)]) hx hy k hk
      rw [this]
      by_cases e : k < i + 1 ∨ jn - 1 < k
      · rw [if_pos e, if_pos (by simp only; omega)]
      · rw [if_neg e, if_neg (by simp only; omega)]
  · have hge : l' = l.reverse := rev_doneA hl (by simp at h1; omega) hall
    repeat (first | refine g_exit ?_ | refine g_thenExit ?_ | refine g_exitHere ?_)
    refine g_end0 rfl fun w' hw' => ⟨(), rfl, ?_, trivial⟩
    rw [← hge, ← ha]
    exact hw'
end Go.Proofs.YtoahickmkkcneaaDoor

/- live.At: what it returns. -/
namespace Go.Proofs.YtoahickmkkcneaaDoor
open Go Go.RowKit
attribute [local irreducible] wpListIn Code.wpIn Exit.then Exit.inBlock bodyPost wpQuiet wpAnyIn wpAnyH bodyPostM
set_option maxHeartbeats 8000000

theorem permLive {α : Type} (a r q p v : α) (F R : List α) : (a :: r :: q :: p :: v :: (F ++ R)).Perm (r :: ((a :: p :: v :: R) ++ (q :: F))) := by
  have h1 : (R ++ q :: F).Perm (q :: (F ++ R)) := List.perm_middle.trans (List.Perm.cons q List.perm_append_comm)
  have h2 : (p :: v :: (R ++ q :: F)).Perm (p :: v :: q :: (F ++ R)) := (h1.cons v).cons p
  have h3 : (p :: v :: q :: (F ++ R)).Perm (q :: p :: v :: (F ++ R)) := ((List.Perm.swap q v _).cons p).trans (List.Perm.swap q p _)
  exact (List.Perm.swap r a _).trans ((((h2.trans h3).symm).cons a).cons r)
theorem permEnd {α : Type} (m a p v : α) (R F : List α) : (m :: ((a :: p :: v :: R) ++ F)).Perm (v :: m :: a :: p :: (R ++ F)) := List.perm_middle (l₁ := [m, a, p]) (a := v)
theorem permAt {α : Type} (v m a p : α) (R F : List α) : ([v] ++ (m :: a :: p :: (R ++ F))).Perm (m :: (F ++ (p :: v :: a :: R))) := by
  have h1 : (F ++ (p :: v :: a :: R)).Perm (p :: v :: a :: (R ++ F)) := List.perm_append_comm
  have h2 : (v :: a :: p :: (R ++ F)).Perm (p :: v :: a :: (R ++ F)) := List.perm_middle (l₁ := [v, a]) (a := p)
  exact (List.Perm.swap m v _).trans ((h2.trans h1.symm).cons m)
theorem vecB_sl {S : Nat → Prop} {w0 w : World} {H : List Ent} {k : Nat} {a : Option Addr} {R c : Nat} {s : List Bool} (h : Wd S w0 H w) (hk : H[k]? = some (vecB a R c s)) (hl : s.length = R) (hR : R ≤ 1000) : SlAt w (.slice a R c) 1 s BoolV := by
  refine h.slAt (k := k) (a := a) (n := R) (c := c) (e := 4) (s := 1) (xs := s.map .bool) hk hl.symm (by omega) fun j y hy => ⟨[.bool y], fun q v hq => ?_, rfl⟩
  match q, hq with
  | 0, hq => simpa [hy] using hq
theorem trueN_eq {s : List Bool} {R : Nat} (h : s.length = R) : trueN s = (List.range R).filter fun r => decide (s[r]? = some true) := by unfold trueN; rw [h]
theorem at_bad (u : LUnit) (hl : light u) (k : Int) (hk : inI k) (b : Int) (hbad : (askedL u k).1 ≠ 0) (g fs : Value) (w0 : World) (hg : SlAt w0 g 3 u.globals GlobalV) (hf : SlAt w0 fs 4 u.funcs FuncV) (hways : CellsAt w0 0 0 waysC) :
    RetV Tryd.prog 22 [.agg #[g, fs], .int .i64 k, .int .i64 b] w0 (.tuple #[.slice none 0 0, .agg #[.int .i64 (askedL u k).1, .int .i64 (askedL u k).2]]) := by
  have hg0 := hg
  have hf0 := hf
  obtain ⟨ga, gn, gc, gb, go, rfl, _⟩ := hg
  obtain ⟨fa, fn, fc, fb, fo, rfl, _⟩ := hf
  refine ret_enterM Tryd.func22 rfl Tryd.ntmps22 rfl (Wd.nil NoS w0) ?_
  repeat (first | refine g_op rfl ?_ | refine g_then ?_ | refine g_nil ?_ | refine g_region ?_ | refine g_seq ?_ | refine g_box rfl fun _ _ => ?_ | refine g_alloc rfl fun _ _ => ?_)
  rename_i p3 _ p7 _
  refine g_callV rfl (fun w hw => func_bad u hl k hk hbad _ _ w (hg0.keep keeps_global hw.chg) (hf0.keep keeps_func hw.chg) (hways.keep hw.chg)) ?_
  unfold zeroFn
  repeat (first | refine g_op rfl ?_ | refine g_then ?_ | refine g_nil ?_ | refine g_region ?_ | refine g_seq ?_ | refine g_alloc rfl fun _ _ => ?_ | refine g_storeAgg ?_)
  rename_i p8 _ p9 _
  refine g_cond (fun h1 => ?_) (fun h1 => ?_)
  · repeat (refine g_seq ?_)
    refine g_drawW [(6, .slice none 0 0), (7, .pointer (some ⟨p7, 0, none⟩))] [Ent.box p7 [.int .i64 (askedL u k).1, .int .i64 (askedL u k).2] 29] mixed ?_ ?_
    · repeat' (first | refine g_any0 (by decide +kernel) ?_ | refine g_any (by decide +kernel) ?_ | refine any_nil | refine any_skip (by decide +kernel) ?_ | refine any_cons ?_ ?_ | refine g_op rfl ?_ | refine g_then ?_ | refine g_nil ?_ | refine g_opS rfl ?_ | refine g_storeAgg ?_)
      all_goals exact g_done (by repeat (first | exact trivial | refine ⟨rfl, ?_⟩)) (by simp)
    · repeat (first | refine g_then ?_ | refine g_ret ?_ | refine g_thenRet ?_)
      exact g_retMsTC [] rfl fun _ hw => ⟨rfl, hw.chg⟩
  · exact absurd h1 (by simp [hbad])
theorem at_ok (u : LUnit) (hl : light u) (k : Nat) (hgood : (askedL u k).1 = 0) (X : LFunc) (hX : u.funcs[k]? = some X) (hch : (checkL u).1 = 0) (b : Nat) (B : LBlock) (hB : X.blocks[b]? = some B) (g fs : Value) (w0 : World) (hg : SlAt w0 g 3 u.globals GlobalV) (hf : SlAt w0 fs 4 u.funcs FuncV) (hways : CellsAt w0 0 0 waysC) :
    Ret Tryd.prog 22 [.agg #[g, fs], .int .i64 k, .int .i64 b] w0 fun v w' => ∃ x : Option Addr × Nat × List Row, v = .tuple #[.slice x.1 (B.list.length + 1) x.2.1, .agg #[.int .i64 0, .int .i64 0]] ∧ Wd NoS w0 (Ent.vec x.1 (B.list.length + 1) x.2.1 35 1 (x.2.2.map valR) :: x.2.2.map entR) w' ∧ x.2.2.map (·.l) = atG X.blocks X.regs.toNat b B.list.length := by
  classical
  have hg0 := hg
  have hf0 := hf
  obtain ⟨ga, gn, gc, gb, go, rfl, _⟩ := hg
  obtain ⟨fa, fn, fc, fb, fo, rfl, _⟩ := hf
  have hlx := hl.2 X (List.mem_of_getElem? hX)
  have h24 := hlx.1
  obtain ⟨bv, hbv, hfc⟩ := func_ok u hl k hgood _ _ X hX w0 hg0 hf0 hways
  have hbv0 := hbv
  obtain ⟨ba, n, bc, bb, bo', rfl, hn, hnc, hnb, hbc, hba, hel⟩ := hbv
  refine ret_enterM Tryd.func22 rfl Tryd.ntmps22 rfl (Wd.nil NoS w0) ?_
  repeat (first | refine g_op rfl ?_ | refine g_then ?_ | refine g_nil ?_ | refine g_region ?_ | refine g_seq ?_ | refine g_box rfl fun _ _ => ?_ | refine g_alloc rfl fun _ _ => ?_)
  rename_i p3 _ p7 _
  refine g_callV rfl (fun w hw => hfc w hw.chg) ?_
  repeat (first | refine g_op rfl ?_ | refine g_then ?_ | refine g_nil ?_ | refine g_region ?_ | refine g_seq ?_ | refine g_alloc rfl fun _ _ => ?_ | refine g_storeAgg ?_ | refine g_skip ?_ | refine g_condF ?_ | refine g_sub rfl (by omega) (by omega) ?_)
  rename_i p8 _ p9 _
  obtain ⟨R, hXR, hR, hFO⟩ := check_func hch hX
  have hlens := light_lens hlx
  have hargs := check_args hch hX
  rw [show X.regs.toNat = R by omega, hXR]
  have hbn : b < n := by rw [hn]; exact (List.getElem?_eq_some_iff.1 hB).1
  refine g_callV rfl (fun w hw => within_c _ _ _ w) ?_
  rw [show within (b : Int) 0 ((n : Int) - 1) = true by simp [within]; omega]
  repeat (first | refine g_op rfl ?_ | refine g_then ?_ | refine g_nil ?_ | refine g_region ?_ | refine g_seq ?_ | refine g_skip ?_ | refine g_condF ?_)
  refine g_callE (val := fun x : (Option Addr × Nat × List RowB) × (Option Addr × Nat × List RowB) => .tuple #[.slice x.1.1 X.blocks.length x.1.2.1, .slice x.2.1 X.blocks.length x.2.2.1]) (E := fun x => Ent.vec x.1.1 X.blocks.length x.1.2.1 89 1 (x.1.2.2.map (valS R)) :: Ent.vec x.2.1 X.blocks.length x.2.2.1 89 1 (x.2.2.2.map (valS R)) :: (x.1.2.2.map (entS R) ++ x.2.2.2.map (entS R))) (φ := fun x => AllR R X.blocks x.1.2.2 x.2.2.2) rfl
    (fun w hw => allOf_c _ _ R hR X.blocks _ w (hbv0.keep keeps_block hw.chg) (by omega) hFO hargs hlens) fun x hA => ?_
  obtain ⟨⟨ia, ic, ins⟩, ⟨oa, oc, outs⟩⟩ := x
  simp only at hA ⊢
  obtain ⟨q, hq⟩ : ∃ q, outs[b]? = some q := ⟨_, List.getElem?_eq_getElem (by rw [hA.outLen, ← hn]; exact hbn)⟩
  obtain ⟨sa, sc, s0⟩ := q
  have hs0 : s0.length = R := hA.outRow _ (List.mem_of_getElem? hq)
  have hs0L := fun r => hA.outAt b _ r B hq hB
  simp only at hs0L
  refine g_wd (H' := [Ent.box p9 [.int .i64 0, .int .i64 0] 29, Ent.box p8 [.string X.name, .int .i64 X.params, .int .i64 R, .slice ba n bc] 34, Ent.box p7 [.int .i64 0, .int .i64 0] 29, Ent.vec oa X.blocks.length oc 89 1 (outs.map (valS R)), vecB sa R sc s0]) (fun w hw => ?_) ?_
  · refine (hw.perm List.perm_append_comm).sub ?_
    exact List.Sublist.cons_cons _ (List.Sublist.cons_cons _ (List.Sublist.cons_cons _ (List.Sublist.cons _ (List.Sublist.cons _ (List.Sublist.cons_cons _ (List.singleton_sublist.2 (List.mem_append_right _ (List.mem_map.2 ⟨_, List.mem_of_getElem? hq, rfl⟩))))))))
  refine g_vec 3 rfl (by omega) fun vb vo hva => ?_
  subst hva
  have hlb : LtIs b X.blocks.length := ⟨by omega⟩
  have hxa : XAt (outs.map (valS R)) (b * 1) (.slice sa R sc) := ⟨by simp [hq, valS]⟩
  repeat (first | refine g_op rfl ?_ | refine g_then ?_ | refine g_nil ?_ | refine g_region ?_ | refine g_seq ?_ | refine g_store ?_ | refine g_alloc rfl fun _ _ => ?_)
  rename_i p12 _
  obtain ⟨csB, hcsB, pv, lv, tv, rfl, _, _, hpv, hlv, htv⟩ := hel b B hB
  obtain ⟨pa, pn, pc, _, _, rfl, _⟩ := hpv
  obtain ⟨ta, tn, tc, _, _, rfl, _⟩ := htv
  obtain ⟨la, ln, lc, lb, lo, rfl, hln, hlnc, _, _, hla, hlel⟩ := hlv
  have hadB : AddrIs ba bb bo' := ⟨hba (ne_of_get hB)⟩
  have hlbn : LtIs b n := ⟨hbn⟩
  have hciB : CellsIs w0 bb (bo' + b * 6) _ := ⟨hcsB⟩
  have hBo := hFO.block b B hB
  refine g_permH (H1 := [vecB sa R sc s0] ++ [Ent.box p12 [.slice sa R sc] 89, Ent.box p9 [.int .i64 0, .int .i64 0] 29, Ent.box p8 [.string X.name, .int .i64 X.params, .int .i64 R, .slice ba n bc] 34, Ent.box p7 [.int .i64 0, .int .i64 0] 29, Ent.vec (some ⟨vb, vo, none⟩) X.blocks.length oc 89 1 (outs.map (valS R))]) (by simpa using (List.perm_append_comm (l₁ := [Ent.box p12 [.slice sa R sc] 89, Ent.box p9 [.int .i64 0, .int .i64 0] 29, Ent.box p8 [.string X.name, .int .i64 X.params, .int .i64 R, .slice ba n bc] 34, Ent.box p7 [.int .i64 0, .int .i64 0] 29, Ent.vec (some ⟨vb, vo, none⟩) X.blocks.length oc 89 1 (outs.map (valS R))]) (l₂ := [vecB sa R sc s0]))) ?_
  refine g_fix (L' := [(12, .pointer (some ⟨p12, 0, none⟩)), (8, .pointer (some ⟨p8, 0, none⟩)), (9, .pointer (some ⟨p9, 0, none⟩)), (7, .pointer (some ⟨p7, 0, none⟩)), (2, .int .i64 b)]) (by repeat (first | exact trivial | refine ⟨rfl, ?_⟩)) (List.Sublist.refl _) ?_
  refine g_mid [(12, .pointer (some ⟨p12, 0, none⟩)), (8, .pointer (some ⟨p8, 0, none⟩)), (9, .pointer (some ⟨p9, 0, none⟩)), (7, .pointer (some ⟨p7, 0, none⟩)), (2, .int .i64 b)] [vecB sa R sc (takeV s0 B.on), Ent.box p12 [.slice sa R sc] 89, Ent.box p9 [.int .i64 0, .int .i64 0] 29, Ent.box p8 [.string X.name, .int .i64 X.params, .int .i64 R, .slice ba n bc] 34, Ent.box p7 [.int .i64 0, .int .i64 0] 29] ?_ ?_
  · refine g_drawH [Ent.box p12 [.slice sa R sc] 89, Ent.box p9 [.int .i64 0, .int .i64 0] 29, Ent.box p8 [.string X.name, .int .i64 X.params, .int .i64 R, .slice ba n bc] 34, Ent.box p7 [.int .i64 0, .int .i64 0] 29] mixed (by simp) ?_
    refine h_take 0 rfl (by decide +kernel) (by simp) ?_
    refine h_take 1 rfl (by decide +kernel) (by simp) ?_
    refine h_take 2 rfl (by decide +kernel) (by simp) ?_
    refine h_take 3 rfl (by decide +kernel) (by simp) ?_
    refine h_take 4 rfl (by decide +kernel) (by simp) ?_
    refine h_take 5 rfl (by decide +kernel) (by simp) ?_
    refine h_take 6 rfl (by decide +kernel) (by simp) ?_
    refine h_take 7 rfl (by decide +kernel) (by simp) ?_
    refine h_callS 8 (H1 := [vecB sa R sc s0]) (H2 := [Ent.box p12 [.slice sa R sc] 89, Ent.box p9 [.int .i64 0, .int .i64 0] 29, Ent.box p8 [.string X.name, .int .i64 X.params, .int .i64 R, .slice ba n bc] 34, Ent.box p7 [.int .i64 0, .int .i64 0] 29, Ent.vec (some ⟨vb, vo, none⟩) X.blocks.length oc 89 1 (outs.map (valS R))]) (val := fun _ : Unit => .tuple #[]) (E := fun _ => [vecB sa R sc (takeV s0 B.on)]) (φ := fun _ => True) rfl (by decide +kernel) (by simp) (fun w hw => take_c sa R sc s0 hs0 B.on hBo.on w hw.pre) fun _ _ => ?_
    refine h_end (by decide +kernel) ?_
    repeat (refine g_then ?_)
    exact g_done (by repeat (first | exact trivial | refine ⟨rfl, ?_⟩)) (List.Sublist.cons_cons _ (List.Sublist.cons_cons _ (List.Sublist.cons_cons _ (List.Sublist.cons_cons _ (List.Sublist.cons_cons _ (List.nil_sublist _))))))
  have hs1 : (takeV s0 B.on).length = R := by rw [takeV_length, hs0]
  have hs1L : ∀ r, has (takeV s0 B.on) r ↔ LiveS X.blocks r b B.list.length := fun r => by
    rw [has_takeV (by rw [hs0]; exact hBo.on), hs0L, live_len hB]
    simp only [namesR, List.any_cons, List.any_nil, Bool.or_false, Bool.and_eq_true, decide_eq_true_eq]
    exact Or.comm
  generalize takeV s0 B.on = s1 at hs1 hs1L
  repeat (first | refine g_op rfl ?_ | refine g_region ?_ | refine g_seq ?_)
  refine g_callE (val := fun x : Option Addr × Nat × List Nat => .slice x.1 x.2.2.length x.2.1) (E := fun x => [Ent.vec x.1 x.2.2.length x.2.1 3 1 (x.2.2.map intN)]) (φ := fun x => x.2.2 = trueN s1) rfl (fun w hw => by
    have := list_c sa R sc s1 (by omega) w (vecB_sl hw (k := 0) rfl hs1 (by omega))
    rw [← trueN_eq hs1] at this
    exact this) fun x hx => ?_
  obtain ⟨xa, xc, l1⟩ := x
  simp only at hx
  subst hx
  have htl := trueN_len (s := s1)
  simp only [List.cons_append, List.nil_append]
  repeat (first | refine g_op rfl ?_ | refine g_then ?_ | refine g_nil ?_ | refine g_region ?_ | refine g_seq ?_ | refine g_store ?_ | refine g_alloc rfl fun _ _ => ?_ | refine g_build1 rfl rfl fun _ _ => ?_)
  rename_i e1 _ p13 _
  refine g_callE (val := fun p : Nat × Nat => .func (.func 94) #[] #[.pointer (some ⟨p.1, 0, none⟩)]) (E := fun p => [Ent.box p.1 [.slice la ln lc] p.2]) (φ := fun _ => True) rfl (fun w hw => backwardI_c _ ⟨_, _, _, rfl⟩ w) fun Bp _ => ?_
  obtain ⟨Bs, Bt⟩ := Bp
  simp only [List.cons_append, List.nil_append]
  repeat (first | refine g_then ?_ | refine g_nil ?_ | refine g_block ?_)
  obtain ⟨zs, xs, hzl, h8, hxs, hxm, hzc⟩ := insA_ex (R := R) (wz := w0) hBo.list (hargs B (List.mem_of_getElem? hB)) hlel
  have hfold : ∀ (l : List (InsA R w0)) (s : List Bool), l.foldl (fun s y => insV s y.1.2.1) s = (l.map (·.1.2.1)).foldl insV s := fun l s => by rw [List.foldl_map]
  refine g_fix (L' := [(61, .func (.func 94) #[] #[.pointer (some ⟨Bs, 0, none⟩)]), (13, .pointer (some ⟨p13, 0, none⟩)), (12, .pointer (some ⟨p12, 0, none⟩)), (8, .pointer (some ⟨p8, 0, none⟩)), (9, .pointer (some ⟨p9, 0, none⟩)), (7, .pointer (some ⟨p7, 0, none⟩)), (2, .int .i64 b)]) (by repeat (first | exact trivial | refine ⟨rfl, ?_⟩)) (List.Sublist.refl _) ?_
  refine g_sel [4, 1, 2, 3, 0, 5, 6, 7, 8] (by decide) ?_
  refine g_eqH (H1 := ([vecB sa R sc s1, Ent.box p13 [.slice (some ⟨e1, 0, none⟩) 1 1] 27, Ent.vec (some ⟨e1, 0, none⟩) 1 1 35 1 ([(⟨xa, xc, intsL (trueN s1)⟩ : Row)].map valR)] ++ [(⟨xa, xc, intsL (trueN s1)⟩ : Row)].map entR) ++ [Ent.box Bs [.slice la ln lc] Bt, Ent.box p12 [.slice sa R sc] 89, Ent.box p9 [.int .i64 0, .int .i64 0] 29, Ent.box p8 [.string X.name, .int .i64 X.params, .int .i64 R, .slice ba n bc] 34, Ent.box p7 [.int .i64 0, .int .i64 0] 29]) ?_ ?_
  · simp only [valR, entR, intsL, map_intN, List.map_cons, List.map_nil, List.length_map, List.cons_append, List.nil_append]
  refine g_rangeG (α := InsA R w0) (σ := List Bool × Option Addr × Nat × List Row) (gf := 94) (lb := [.pointer (some ⟨Bs, 0, none⟩)]) [Ent.box Bs [.slice la ln lc] Bt, Ent.box p12 [.slice sa R sc] 89, Ent.box p9 [.int .i64 0, .int .i64 0] 29, Ent.box p8 [.string X.name, .int .i64 X.params, .int .i64 R, .slice ba n bc] 34, Ent.box p7 [.int .i64 0, .int .i64 0] 29] (fun s => [vecB sa R sc s.1, Ent.box p13 [.slice s.2.1 s.2.2.2.length s.2.2.1] 27, Ent.vec s.2.1 s.2.2.2.length s.2.2.1 35 1 (s.2.2.2.map valR)] ++ s.2.2.2.map entR) (s1, some ⟨e1, 0, none⟩, 1, [(⟨xa, xc, intsL (trueN s1)⟩ : Row)]) 54 (fun s e he => ?_) xs
    (encs := fun y => #[.int .i64 (InsA.enc y).1, .agg (InsA.enc y).2.toArray]) (Bs := Bs) (bcs := [.slice la ln lc]) (bt := Bt) (List.mem_cons_self ..)
    (fun w1 hw1 => ?_) (fun pre s => s.1 = (pre.map (·.1.2.1)).foldl insV s1 ∧ s.2.2.2.map (·.l) = (setsL s1 (pre.map (·.1.2.1))).map fun s => intsL (trueN s)) ⟨rfl, rfl⟩ (List.Sublist.refl _) (fun _ => rfl) (fun y => insC y.1.2.1 y.1.2.2)
    (fun y => [(63, .agg (insC y.1.2.1 y.1.2.2).toArray), (62, .int .i64 y.1.1), (13, .pointer (some ⟨p13, 0, none⟩)), (12, .pointer (some ⟨p12, 0, none⟩)), (8, .pointer (some ⟨p8, 0, none⟩)), (9, .pointer (some ⟨p9, 0, none⟩)), (7, .pointer (some ⟨p7, 0, none⟩)), (2, .int .i64 b)]) (fun y q => [(15, .pointer (some ⟨q, 0, none⟩)), (13, .pointer (some ⟨p13, 0, none⟩)), (12, .pointer (some ⟨p12, 0, none⟩)), (8, .pointer (some ⟨p8, 0, none⟩)), (9, .pointer (some ⟨p9, 0, none⟩)), (7, .pointer (some ⟨p7, 0, none⟩)), (2, .int .i64 b)]) (fun y a h => ?_) (fun l y s R' => ?_) (fun l pre y s q RR hI hlt => ?_) fun D s2 hD hI => ?_
  · rcases List.mem_append.1 he with he | he
    · simp only [List.mem_cons, List.not_mem_nil, or_false] at he
      rcases he with rfl | rfl | rfl
      · exact tyN_vec (by decide)
      · exact tyN_box (by decide)
      · exact tyN_vec (by decide)
    · obtain ⟨r, _, rfl⟩ := List.mem_map.1 he
      exact tyN_vec (by decide)
  · have hownz : ∀ b', fps _ b' → w0.heap.size ≤ b' := fun b' ⟨e, he, hb'⟩ => (hw1.own e he b' hb').1.elim (fun h => h.elim) id
    refine backInsStops (R := R) (wz := w0) (b := lb) (o := lo) (by omega) (fun hne => hla (fun e => hne (by rw [e] at hzl; exact List.eq_nil_of_length_eq_zero hzl))) (by have := (hlens B (List.mem_of_getElem? hB)).1; omega) h8 hzc (fun b' hb' h => ?_) (fun h => h.2 rfl) hw1.chg (hw1.cellBox 4 (b := Bs) (cs := [.slice la ln lc]) (t := Bt) (o := 0) rfl rfl) hxs
    rcases h.1 with h | h
    · have := hownz b' h; omega
    · have := hw1.size; omega
  · have h2 := ((h.to (L' := [(13, .pointer (some ⟨p13, 0, none⟩)), (12, .pointer (some ⟨p12, 0, none⟩)), (8, .pointer (some ⟨p8, 0, none⟩)), (9, .pointer (some ⟨p9, 0, none⟩)), (7, .pointer (some ⟨p7, 0, none⟩)), (2, .int .i64 b)]) (by repeat (first | exact trivial | refine ⟨rfl, ?_⟩))).putOk (d := 62) rfl (.int .i64 y.1.1)).putOk (d := 63) rfl (.agg (insC y.1.2.1 y.1.2.2).toArray)
    have e : (#[62, 63].zip #[Value.int .i64 (InsA.enc y).1, .agg (InsA.enc y).2.toArray]).foldl (fun (t : Array Value) (q : Tmp × Value) => t.setIfInBounds q.1 q.2) a.tmps = (a.tmps.setIfInBounds 62 (.int .i64 y.1.1)).setIfInBounds 63 (.agg (insC y.1.2.1 y.1.2.2).toArray) := by simp [InsA.enc]
    refine ⟨Eq.trans (congrArg Array.size e) h2.size, rfl, fun p hp => ?_⟩
    exact Eq.trans (congrArg (fun t : Array Value => t[p.1]?) e) (h2.slot p hp)
  · simp only [insC]
    repeat (first | refine g_then ?_ | refine g_nil ?_ | refine g_region ?_ | refine g_alloc rfl fun _ _ => ?_ | refine g_storeAgg ?_)
    exact g_doneP _ (by repeat (first | exact trivial | refine ⟨rfl, ?_⟩)) (List.Sublist.refl _)
  · obtain ⟨⟨i0, x, ⟨va, vn, vc⟩⟩, hxo, hxal, hxs2⟩ := y
    obtain ⟨s, ra, rc, rs⟩ := s
    obtain ⟨hI1, hI2⟩ := hI
    simp only at hxo hxal hxs2 hI1 hI2
    have hsl2 : s.length = R := by rw [hI1, foldV_len, hs1]
    have hrl : rs.length = pre.length + 1 := by have := congrArg List.length hI2; simpa [setsL_len] using this
    have hxl : xs.length = B.list.length := by have := congrArg List.length hxm; simpa using this
    have hBl := (hlens B (List.mem_of_getElem? hB)).1
    simp only
    refine g_permH (H1 := RR :: Ent.box q (insC x (va, vn, vc)) 54 :: vecB sa R sc s :: Ent.box p13 [.slice ra rs.length rc] 27 :: Ent.vec ra rs.length rc 35 1 (rs.map valR) :: Ent.box Bs [.slice la ln lc] Bt :: Ent.box p12 [.slice sa R sc] 89 :: Ent.box p9 [.int .i64 0, .int .i64 0] 29 :: Ent.box p8 [.string X.name, .int .i64 X.params, .int .i64 R, .slice ba n bc] 34 :: Ent.box p7 [.int .i64 0, .int .i64 0] 29 :: rs.map entR) (List.Perm.cons _ (List.Perm.cons _ (List.Perm.cons _ (List.Perm.cons _ (List.Perm.cons _ (List.perm_append_comm (l₁ := rs.map entR) (l₂ := [Ent.box Bs [.slice la ln lc] Bt, Ent.box p12 [.slice sa R sc] 89, Ent.box p9 [.int .i64 0, .int .i64 0] 29, Ent.box p8 [.string X.name, .int .i64 X.params, .int .i64 R, .slice ba n bc] 34, Ent.box p7 [.int .i64 0, .int .i64 0] 29]))))))) ?_
    simp only [insC]
    repeat (first | refine g_op rfl ?_ | refine g_region ?_ | refine g_seq ?_ | refine g_block ?_)
    refine g_permH (List.perm_middle (l₁ := [RR, Ent.box q (insC x (va, vn, vc)) 54]) (a := vecB sa R sc s)) ?_
    refine g_eqH (H1 := [vecB sa R sc s] ++ (RR :: Ent.box q (insC x (va, vn, vc)) 54 :: Ent.box p13 [.slice ra rs.length rc] 27 :: Ent.vec ra rs.length rc 35 1 (rs.map valR) :: Ent.box Bs [.slice la ln lc] Bt :: Ent.box p12 [.slice sa R sc] 89 :: Ent.box p9 [.int .i64 0, .int .i64 0] 29 :: Ent.box p8 [.string X.name, .int .i64 X.params, .int .i64 R, .slice ba n bc] 34 :: Ent.box p7 [.int .i64 0, .int .i64 0] 29 :: rs.map entR)) rfl ?_
    refine g_callS (val := fun _ : Unit => .tuple #[]) (E := fun _ => [vecB sa R sc (insV s x)]) (φ := fun _ => True) rfl (fun w hw => setAhead_c sa R sc s hsl2 x hxo (by omega) va vn vc w0 hxs2 w (hw.sub (List.sublist_append_left _ _))) fun _ _ => ?_
    simp only [List.cons_append, List.nil_append]
    have hsv : (insV s x).length = R := by rw [insV_length, hsl2]
    have hsn : setsL s1 ((pre ++ [(⟨(i0, x, (va, vn, vc)), hxo, hxal, hxs2⟩ : InsA R w0)]).map (·.1.2.1)) = setsL s1 (pre.map (·.1.2.1)) ++ [insV s x] := by
      rw [List.map_append, List.map_cons, List.map_nil, setsL_add, ← hI1]
    have hfn : ((pre ++ [(⟨(i0, x, (va, vn, vc)), hxo, hxal, hxs2⟩ : InsA R w0)]).map (·.1.2.1)).foldl insV s1 = insV s x := by
      rw [List.map_append, List.foldl_append, ← hI1]; rfl
    generalize insV s x = s' at hsv hsn hfn
    have htl' := trueN_len (s := s')
    repeat (first | refine g_then ?_ | refine g_nil ?_)
    refine g_fix (L' := [(15, .pointer (some ⟨q, 0, none⟩)), (13, .pointer (some ⟨p13, 0, none⟩)), (12, .pointer (some ⟨p12, 0, none⟩)), (8, .pointer (some ⟨p8, 0, none⟩)), (9, .pointer (some ⟨p9, 0, none⟩)), (7, .pointer (some ⟨p7, 0, none⟩)), (2, .int .i64 b)]) (by repeat (first | exact trivial | refine ⟨rfl, ?_⟩)) (List.Sublist.refl _) ?_
    refine g_drawE (fun z : (Option Addr × Nat) × (Option Addr × Nat) => [(15, .pointer (some ⟨q, 0, none⟩)), (13, .pointer (some ⟨p13, 0, none⟩)), (12, .pointer (some ⟨p12, 0, none⟩)), (8, .pointer (some ⟨p8, 0, none⟩)), (9, .pointer (some ⟨p9, 0, none⟩)), (7, .pointer (some ⟨p7, 0, none⟩)), (2, .int .i64 b)]) (fun z => vecB sa R sc s' :: RR :: Ent.box q (insC x (va, vn, vc)) 54 :: Ent.box p13 [.slice z.1.1 (rs.length + 1) z.1.2] 27 :: Ent.vec z.1.1 (rs.length + 1) z.1.2 35 1 ((rs ++ [(⟨z.2.1, z.2.2, intsL (trueN s')⟩ : Row)]).map valR) :: Ent.box Bs [.slice la ln lc] Bt :: Ent.box p12 [.slice sa R sc] 89 :: Ent.box p9 [.int .i64 0, .int .i64 0] 29 :: Ent.box p8 [.string X.name, .int .i64 X.params, .int .i64 R, .slice ba n bc] 34 :: Ent.box p7 [.int .i64 0, .int .i64 0] 29 :: (rs ++ [(⟨z.2.1, z.2.2, intsL (trueN s')⟩ : Row)]).map entR) mixed ?_ fun z => ?_
    · repeat' (first | refine g_any (by decide +kernel) ?_ | refine any_nil | refine any_skip (by decide +kernel) ?_ | refine any_cons ?_ ?_ | refine g_op rfl ?_ | refine g_then ?_ | refine g_nil ?_)
      all_goals
        refine g_callE (val := fun x : Option Addr × Nat × List Nat => .slice x.1 x.2.2.length x.2.1) (E := fun x => [Ent.vec x.1 x.2.2.length x.2.1 3 1 (x.2.2.map intN)]) (φ := fun x => x.2.2 = trueN s') rfl (fun w hw => by
          have := list_c sa R sc s' (by omega) w (vecB_sl hw (k := 0) rfl hsv (by omega))
          rw [← trueN_eq hsv] at this
          exact this) fun x hx => ?_
        obtain ⟨ya, yc, l1⟩ := x
        simp only at hx
        subst hx
        simp only [List.cons_append, List.nil_append]
      repeat' (first | refine g_any (by decide +kernel) ?_ | refine any_nil | refine any_skip (by decide +kernel) ?_ | refine any_cons ?_ ?_ | refine g_op rfl ?_ | refine g_then ?_ | refine g_nil ?_ | refine g_build1 rfl rfl fun _ _ => ?_)
      all_goals
        refine g_append rfl rfl (by omega) (by omega) fun a' c' => ?_
      repeat' (first | refine g_any0 (by decide +kernel) ?_ | refine g_any (by decide +kernel) ?_ | refine any_nil | refine any_skip (by decide +kernel) ?_ | refine any_cons ?_ ?_ | refine g_then ?_ | refine g_nil ?_ | refine g_store ?_)
      all_goals
        refine g_fix (L' := [(15, .pointer (some ⟨q, 0, none⟩)), (13, .pointer (some ⟨p13, 0, none⟩)), (12, .pointer (some ⟨p12, 0, none⟩)), (8, .pointer (some ⟨p8, 0, none⟩)), (9, .pointer (some ⟨p9, 0, none⟩)), (7, .pointer (some ⟨p7, 0, none⟩)), (2, .int .i64 b)]) (by repeat (first | exact trivial | refine ⟨rfl, ?_⟩)) (List.Sublist.cons _ (List.Sublist.refl _)) ?_
        refine g_permH (List.perm_append_comm (l₁ := [Ent.vec ya (trueN s').length yc 3 1 ((trueN s').map intN)])) ?_
        refine g_eqH (H1 := vecB sa R sc s' :: RR :: Ent.box q (insC x (va, vn, vc)) 54 :: Ent.box p13 [.slice a' (rs.length + 1) c'] 27 :: Ent.vec a' (rs.length + 1) c' 35 1 ((rs ++ [(⟨ya, yc, intsL (trueN s')⟩ : Row)]).map valR) :: Ent.box Bs [.slice la ln lc] Bt :: Ent.box p12 [.slice sa R sc] 89 :: Ent.box p9 [.int .i64 0, .int .i64 0] 29 :: Ent.box p8 [.string X.name, .int .i64 X.params, .int .i64 R, .slice ba n bc] 34 :: Ent.box p7 [.int .i64 0, .int .i64 0] 29 :: (rs ++ [(⟨ya, yc, intsL (trueN s')⟩ : Row)]).map entR) (by simp only [valR, entR, intsL, map_intN, List.map_append, List.map_cons, List.map_nil, List.length_map, List.cons_append, List.nil_append]) ?_
        exact g_doneE ((a', c'), (ya, yc)) (by repeat (first | exact trivial | refine ⟨rfl, ?_⟩)) (List.Sublist.refl _)
    · repeat (first | refine g_then ?_ | refine g_inBlock ?_)
      obtain ⟨⟨za, zc⟩, ⟨ya, yc⟩⟩ := z
      simp only
      refine g_permH (permLive _ _ _ _ _ [Ent.box Bs [.slice la ln lc] Bt, Ent.box p12 [.slice sa R sc] 89, Ent.box p9 [.int .i64 0, .int .i64 0] 29, Ent.box p8 [.string X.name, .int .i64 X.params, .int .i64 R, .slice ba n bc] 34, Ent.box p7 [.int .i64 0, .int .i64 0] 29] _) ?_
      refine g_eqH (H1 := RR :: ((vecB sa R sc s' :: Ent.box p13 [.slice za (rs ++ [(⟨ya, yc, intsL (trueN s')⟩ : Row)]).length zc] 27 :: Ent.vec za (rs ++ [(⟨ya, yc, intsL (trueN s')⟩ : Row)]).length zc 35 1 ((rs ++ [(⟨ya, yc, intsL (trueN s')⟩ : Row)]).map valR) :: (rs ++ [(⟨ya, yc, intsL (trueN s')⟩ : Row)]).map entR) ++ (Ent.box q (insC x (va, vn, vc)) 54 :: [Ent.box Bs [.slice la ln lc] Bt, Ent.box p12 [.slice sa R sc] 89, Ent.box p9 [.int .i64 0, .int .i64 0] 29, Ent.box p8 [.string X.name, .int .i64 X.params, .int .i64 R, .slice ba n bc] 34, Ent.box p7 [.int .i64 0, .int .i64 0] 29]))) ?_ ?_
      · rw [List.length_append, List.length_singleton]
      refine g_rnd (s', za, zc, rs ++ [(⟨ya, yc, intsL (trueN s')⟩ : Row)]) ⟨hfn.symm, ?_⟩ (List.Sublist.refl _)
      simp only
      rw [hsn, List.map_append, List.map_append, hI2]; rfl
  · obtain ⟨s, ra, rc, rs⟩ := s2
    obtain ⟨hI1, hI2⟩ := hI
    simp only at hI1 hI2 ⊢
    rw [hxm] at hI2
    have hrl : rs.length = B.list.length + 1 := by have := congrArg List.length hI2; simpa [setsL_len] using this
    have hBl := (hlens B (List.mem_of_getElem? hB)).1
    repeat (first | refine g_then ?_ | refine g_region ?_ | refine g_seq ?_ | refine g_inBlock ?_)
    refine g_permH (permEnd _ _ _ _ _ _) ?_
    repeat (refine g_op rfl ?_)
    refine g_eqH (H1 := [Ent.vec ra rs.length rc 35 1 (rs.map valR)] ++ (Ent.mark D :: vecB sa R sc s :: Ent.box p13 [.slice ra rs.length rc] 27 :: (rs.map entR ++ [Ent.box Bs [.slice la ln lc] Bt, Ent.box p12 [.slice sa R sc] 89, Ent.box p9 [.int .i64 0, .int .i64 0] 29, Ent.box p8 [.string X.name, .int .i64 X.params, .int .i64 R, .slice ba n bc] 34, Ent.box p7 [.int .i64 0, .int .i64 0] 29]))) rfl ?_
    refine g_callS (val := fun _ : Unit => .tuple #[]) (E := fun _ => [Ent.vec ra rs.length rc 35 1 (rs.reverse.map valR)]) (φ := fun _ => True) rfl (fun w hw => reverseR_c ra rc rs (by omega) w hw.pre) fun _ _ => ?_
    refine g_permH (permAt _ _ _ _ _ _) ?_
    simp only [List.cons_append, List.nil_append]
    refine g_fix (L' := [(13, .pointer (some ⟨p13, 0, none⟩)), (9, .pointer (some ⟨p9, 0, none⟩)), (7, .pointer (some ⟨p7, 0, none⟩))]) (by repeat (first | exact trivial | refine ⟨rfl, ?_⟩)) (List.Sublist.refl _) ?_
    repeat (first | refine g_then ?_ | refine g_nil ?_ | refine g_seq ?_)
    refine g_drawW [(6, .slice ra rs.length rc), (7, .pointer (some ⟨p7, 0, none⟩))] (Ent.mark D :: Ent.box p7 [.int .i64 0, .int .i64 0] 29 :: Ent.vec ra rs.length rc 35 1 (rs.reverse.map valR) :: rs.map entR) mixed ?_ ?_
    · repeat' (first | refine g_any0 (by decide +kernel) ?_ | refine g_any (by decide +kernel) ?_ | refine any_nil | refine any_skip (by decide +kernel) ?_ | refine any_cons ?_ ?_ | refine g_op rfl ?_ | refine g_then ?_ | refine g_nil ?_ | refine g_storeAgg ?_)
      all_goals exact g_done (by repeat (first | exact trivial | refine ⟨rfl, ?_⟩)) (List.Sublist.cons_cons _ (List.Sublist.cons _ (List.Sublist.cons _ (List.Sublist.cons _ (List.Sublist.cons _ (List.Sublist.cons_cons _ (List.Sublist.cons _ (List.Sublist.cons_cons _ (List.Sublist.cons _ (List.Sublist.refl _))))))))))
    · repeat (first | refine g_then ?_ | refine g_ret ?_)
      refine g_eqH (H1 := marks [D] ++ (Ent.box p7 [.int .i64 0, .int .i64 0] 29 :: Ent.vec ra rs.length rc 35 1 (rs.reverse.map valR) :: rs.map entR)) rfl ?_
      refine g_retMsTC [D] rfl fun w hw => ⟨(ra, rc, rs.reverse), by rw [hrl], ?_, ?_⟩
      · simp only
        rw [← hrl]
        exact (hw.sub (List.Sublist.cons _ (List.Sublist.refl _))).perm (List.Perm.cons _ ((List.reverse_perm rs).symm.map entR))
      · simp only
        rw [List.map_reverse, hI2]
        exact at_sets hFO hB hs1 hs1L
end Go.Proofs.YtoahickmkkcneaaDoor

/- live.At out of range; the law LiveAts, walked. -/
namespace Go.Proofs.YtoahickmkkcneaaDoor
open Go Go.RowKit
attribute [local irreducible] wpListIn Code.wpIn Exit.then Exit.inBlock bodyPost wpQuiet wpAnyIn wpAnyH bodyPostM
set_option maxHeartbeats 8000000

theorem at_range (u : LUnit) (hl : light u) (k : Nat) (hgood : (askedL u k).1 = 0) (X : LFunc) (hX : u.funcs[k]? = some X) (b : Int) (hb : b < 0 ∨ (X.blocks.length : Int) ≤ b) (g fs : Value) (w0 : World) (hg : SlAt w0 g 3 u.globals GlobalV) (hf : SlAt w0 fs 4 u.funcs FuncV) (hways : CellsAt w0 0 0 waysC) :
    RetV Tryd.prog 22 [.agg #[g, fs], .int .i64 k, .int .i64 b] w0 (.tuple #[.slice none 0 0, .agg #[.int .i64 3, .int .i64 (-1)]]) := by
  classical
  have hg0 := hg
  have hf0 := hf
  obtain ⟨ga, gn, gc, gb, go, rfl, _⟩ := hg
  obtain ⟨fa, fn, fc, fb, fo, rfl, _⟩ := hf
  have hlx := hl.2 X (List.mem_of_getElem? hX)
  have h24 := hlx.1
  obtain ⟨bv, hbv, hfc⟩ := func_ok u hl k hgood _ _ X hX w0 hg0 hf0 hways
  have hbv0 := hbv
  obtain ⟨ba, n, bc, bb, bo', rfl, hn, hnc, hnb, hbc, hba, hel⟩ := hbv
  refine ret_enterM Tryd.func22 rfl Tryd.ntmps22 rfl (Wd.nil NoS w0) ?_
  repeat (first | refine g_op rfl ?_ | refine g_then ?_ | refine g_nil ?_ | refine g_region ?_ | refine g_seq ?_ | refine g_box rfl fun _ _ => ?_ | refine g_alloc rfl fun _ _ => ?_)
  rename_i p3 _ p7 _
  refine g_callV rfl (fun w hw => hfc w hw.chg) ?_
  repeat (first | refine g_op rfl ?_ | refine g_then ?_ | refine g_nil ?_ | refine g_region ?_ | refine g_seq ?_ | refine g_alloc rfl fun _ _ => ?_ | refine g_storeAgg ?_ | refine g_skip ?_ | refine g_condF ?_ | refine g_sub rfl (by omega) (by omega) ?_)
  rename_i p8 _ p9 _
  refine g_callV rfl (fun w hw => within_c _ _ _ w) ?_
  rw [show within b 0 ((n : Int) - 1) = false by simp only [within, Bool.and_eq_false_iff, decide_eq_false_iff_not]; omega]
  repeat (first | refine g_op rfl ?_ | refine g_then ?_ | refine g_nil ?_ | refine g_region ?_ | refine g_seq ?_ | refine g_condT ?_)
  refine g_callV rfl (fun w hw => fault_c 3 (-1) w) ?_
  repeat (first | refine g_then ?_ | refine g_nil ?_ | refine g_opS rfl ?_ | refine g_storeAgg ?_ | refine g_ret ?_ | refine g_thenRet ?_)
  exact g_retMsTC [] rfl fun _ hw => ⟨rfl, hw.chg⟩
end Go.Proofs.YtoahickmkkcneaaDoor

/- Texts joined: RangeB RangeG RangeF RangeS LiveP LiveQ BackB Vals LiveA LiveB LiveC. -/
import Derived.Laws.Cover3
import Derived.Test.YtbmnkjaelfjlhaaDoorGB
import Derived.Test.YtbmnkjaelfjlhaaDoorGD
import Derived.Test.YtbmnkjaelfjlhaaDoorGE
/- More rules: a range whose loop variable lies in a box; loops in which marks pile up; append of what can be read; slices against nil. -/
namespace Go.Proofs.YtbmnkjaelfjlhaaDoor
open Go Go.RowKit

theorem flat_one {α : Type} (f : α → Value) : ∀ l : List α, l.flatMap (fun x => [f x]) = l.map f
  | [] => rfl
  | x :: l => by rw [List.flatMap_cons, flat_one f l]; rfl
theorem flat_len {α : Type} {g : α → List Value} {s : Nat} (h : ∀ x, (g x).length = s) : ∀ l : List α, (l.flatMap g).length = l.length * s
  | [] => by simp
  | x :: l => by rw [List.flatMap_cons, List.length_append, h, flat_len h l, List.length_cons, Nat.add_mul]; omega
theorem flat_at {α : Type} {g : α → List Value} {s : Nat} (h : ∀ x, (g x).length = s) : ∀ (l : List α) (i : Nat) (x : α) (j : Nat) (v : Value), l[i]? = some x → (g x)[j]? = some v → (l.flatMap g)[i * s + j]? = some v
  | [], i, x, j, v, hi, _ => by simp at hi
  | y :: l, 0, x, j, v, hi, hj => by
    simp only [List.getElem?_cons_zero, Option.some.injEq] at hi
    subst hi
    rw [List.flatMap_cons, List.getElem?_append_left (by have := (List.getElem?_eq_some_iff.1 hj).1; omega)]
    simpa using hj
  | y :: l, i + 1, x, j, v, hi, hj => by
    rw [List.flatMap_cons, List.getElem?_append_right (by rw [h, Nat.add_mul]; omega), h, show (i + 1) * s + j - s = i * s + j by rw [Nat.add_mul]; omega]
    exact flat_at h l i x j v (by simpa using hi) hj
theorem flat_from {α : Type} {g : α → List Value} {s : Nat} (h : ∀ x, (g x).length = s) : ∀ (l : List α) (k : Nat) (v : Value), (l.flatMap g)[k]? = some v → ∃ i x j, l[i]? = some x ∧ (g x)[j]? = some v ∧ k = i * s + j
  | [], k, v, hk => by simp at hk
  | y :: l, k, v, hk => by
    rw [List.flatMap_cons] at hk
    by_cases hlt : k < (g y).length
    · rw [List.getElem?_append_left hlt] at hk
      exact ⟨0, y, k, rfl, hk, by omega⟩
    · rw [List.getElem?_append_right (by omega), h] at hk
      obtain ⟨i, x, j, h1, h2, h3⟩ := flat_from h l _ v hk
      rw [h] at hlt
      exact ⟨i + 1, x, j, by simpa using h1, h2, by rw [Nat.add_mul]; omega⟩

section
variable {P : Program} {ro : Option Nat} {N : Nat} {ds : List Deferred} {S : Nat → Prop} {w0 : World} {L L' : List (Nat × Value)} {H H' : List Ent} {a : Act} {w : World}
  {ops : Array Oper} {rest : List Oper} {Q : Exit → Act → World → Prop} {p : Act → World → Prop} {x y : Operand}

instance {T e s by' : Nat} {zs : List Value} [h : ElemInfo P T e s by' zs] (ad : Option Addr) (n c : Nat) : EqVal P T (.slice ad n c) (.slice none 0 0) ad.isNone :=
  ⟨fun op _ _ w => by unfold eqGuard; split <;> simp, fun w => by simp [binOp, run_equal_slice_nil w T e ad n c h.und], fun w => run_neq_slice_nil w T e ad n c h.und⟩

/-- 'append(x, y...)' of elements that can be read -/
theorem g_appendF {α : Type} {d ty T e s by' : Nat} {zs : List Value} {pos : String} {aft : Array Go.Edge} {ad a2 : Option Addr} {n c m c2 k : Nat} {xs : List Value} [h : ElemInfo P T e s by' zs] [hx : Ev L x (.slice ad n c)] [hy : Ev L y (.slice a2 m c2)]
    [hv : VecIn H ad n c k e s xs] (hd : okPut d N L = true) (hs : (Nat.blt 0 s && Nat.beq zs.length s) = true) (l : List α) {V : World → α → List Value → Prop} (g : α → List Value) (hg : ∀ w x cs, V w x cs → cs = g x) (hlen : ∀ x, (g x).length = s) (hone : ∀ x, ∀ u ∈ g x, u.oneCell' = true)
    (hsl : ∀ w, Wd S w0 H w → SlAt w (.slice a2 m c2) s l V) (hbytes : (n + m) * by' ≤ 140737488355328) (h63 : n + m ≤ 140737488355328)
    {F : Ent → List Ent} [hF : SetFn H k F] (kk : ∀ a' c', G N ds S w0 ((d, .slice a' (n + m) c') :: L) (F (Ent.vec a' (n + m) c' e s (xs ++ l.flatMap g))) (wpListIn (FW ro) 0 P ops Q rest)) : G N ds S w0 L H (wpListIn (FW ro) 0 P ops Q (⟨some d, .call { callee := .builtin .append, args := #[x, y], argTypes := #[T, T] }, ty, pos, aft, none⟩ :: rest)) := by
  intro a w hS
  simp only [Bool.and_eq_true, Nat.blt_eq] at hs
  obtain ⟨a2', m', c2', b, o, hval, hm, hmc, _, _, ha, hel⟩ := hsl w hS.wd
  simp only [Value.slice.injEq] at hval
  obtain ⟨rfl, rfl, rfl⟩ := hval
  by_cases h0 : m = 0
  · subst h0
    have hl : l = [] := List.eq_nil_of_length_eq_zero hm.symm
    subst hl
    obtain ⟨i, zz, hi, _, _, _, _⟩ := h.get
    have hnc : n ≤ c := by
      obtain ⟨_, h2⟩ := hS.wd.get hv.at'
      rcases h2 with ⟨_, h2, h3⟩ | ⟨_, _, _, _, h3, _⟩ <;> omega
    have hr : (Builtin.append_ #[T, T] ty #[.slice ad n c, .slice a2 0 c2]).run P w = .ok (.slice ad n c) w := by
      cases ad <;> cases a2 <;> simp [Builtin.append_, run_underlying h.und, sizeOf, typeInfo, hi, Builtin.lenOf, Builtin.firstCells, hnc, storeCells, loadCells, loadCellsFrom]
    refine step_val (v := .slice ad n c) (w' := w) rfl (fun _ h => by cases h) ?_ ?_
    · simp [execOp, resolve, invoke, builtin, hx.eq _ _ _ hS.fr, hy.eq _ _ _ hS.fr, hr]
    · have := kk ad c
      simp only [List.flatMap_nil, List.append_nil, Nat.add_zero] at this
      rw [← hF.eq, set_self hv.at'] at this
      exact this _ _ ⟨hS.fr.putOk hd _, hS.wd⟩
  · have hne : l ≠ [] := by rintro rfl; simp at hm; exact h0 hm
    have ha := ha hne
    subst ha
    obtain ⟨a', c', w', hr, hw'⟩ := hS.wd.append (P := P) (ty := ty) (c2 := c2) (a2 := ⟨b, o, none⟩) (m := m) (news := l.flatMap g) h hs.1 hv.at' (by omega) (by rw [flat_len hlen, hm]) (fun j u hj => by
      obtain ⟨i, q, j', h1, h2, rfl⟩ := flat_from hlen l j u hj
      obtain ⟨cs, hc, hV⟩ := hel i q h1
      rw [hg _ _ _ hV] at hc
      have := hc j' u h2
      rw [Addr.add_lit, ← Nat.add_assoc]
      exact this) (fun u hu => by obtain ⟨q, _, hq⟩ := List.mem_flatMap.1 hu; exact hone q u hq) hbytes h63 (Nat.eq_of_beq_eq_true hs.2)
    refine step_val (v := .slice a' (n + m) c') (w' := w') rfl (fun _ h => by cases h) ?_ ?_
    · simp [execOp, resolve, invoke, builtin, hx.eq _ _ _ hS.fr, hy.eq _ _ _ hS.fr, hr]
    · rw [hF.eq] at hw'
      exact kk a' c' _ _ ⟨hS.fr.putOk hd _, hw'⟩

/-! ### Marks that pile up -/
def marks (Ds : List Nat) : List Ent := Ds.map Ent.mark
def dsOf (Ds : List Nat) : List Deferred := Ds.map fun D => ⟨.collected D, #[]⟩
def NextD {α : Type} (N : Nat) (dx : α → List Deferred) (S : Nat → Prop) (w0 : World) (I : α → Prop) (Lx : α → List (Nat × Value)) (Hx : α → List Ent) (m : α → Nat) (x : α) : Act → World → Prop :=
  fun a w => ∃ x', (I x' ∧ St N (dx x') S w0 (Lx x') (Hx x') a w) ∧ m x' < m x
/-- a loop in which deferred marks pile up -/
theorem g_loopD {α : Type} (dx : α → List Deferred) (I : α → Prop) (Lx : α → List (Nat × Value)) (Hx : α → List Ent) (m : α → Nat) {c : Code} (x : α) (hds : dx x = ds) (hI : I x) (h0 : G N ds S w0 L H (St N ds S w0 (Lx x) (Hx x)))
    (round : ∀ x, I x → G N (dx x) S w0 (Lx x) (Hx x) (Code.wpIn (FW ro) 0 P c (Exit.then (NextD N dx S w0 I Lx Hx m x) Q))) : G N ds S w0 L H (Code.wpIn (FW ro) 0 P (Code.loop c) Q) :=
  fun a w hS => c_loop (fun x a w => I x ∧ St N (dx x) S w0 (Lx x) (Hx x) a w) m x ⟨hI, by rw [hds]; exact h0 a w hS⟩ fun x a w h => round x h.1 a w h.2
theorem g_nextD {α : Type} {dx : α → List Deferred} {I : α → Prop} {Lx : α → List (Nat × Value)} {Hx : α → List Ent} {m : α → Nat} {x : α} (x' : α) (hds : dx x' = ds) (hI : I x') (hm : m x' < m x) (hL : allIn L (Lx x')) (hH : (Hx x').Sublist H) : G N ds S w0 L H (NextD N dx S w0 I Lx Hx m x) :=
  fun _ _ hS => ⟨x', ⟨hI, by rw [hds]; exact hS.fix hL hH⟩, hm⟩
theorem leaves_marks {fn : Func} {tmps : Array Value} {R : Value → World → Prop} {v : Value} (hr : ∀ w, (results fn tmps).run P w = .ok v w) (hR : ∀ w, Wd NoS w0 H w → R v w) : ∀ (Ds : List Nat) (w : World), Wd NoS w0 (marks Ds ++ H) w →
    LeavesInM (FW none) 0 P fn tmps (fun e w' => ∃ v, e = .returned v ∧ R v w') (dsOf Ds) .returning w
  | [], w, hW => ⟨v, hr w, v, rfl, hR w hW⟩
  | D :: Ds, w, hW => by
    have h1 : Wd NoS w0 (Ent.mark D :: (marks Ds ++ H)) w := hW
    have hD : w0.heap.size ≤ D := (h1.own (Ent.mark D) (by simp) D rfl).1.elim (fun h => h.elim) id
    exact ⟨by simp, .inl ⟨D, _, rfl, run_takeDeferred (h1.get (k := 0) rfl), leaves_marks hr hR Ds _ (h1.shut hD _)⟩⟩
theorem g_retMs2 {fn : Func} {R : Value → World → Prop} {Ds : List Nat} {s t : Nat} {v u : Value} (hr : fn.results = #[.tmp s, .tmp t]) [hv : SlotIs L s v] [hu : SlotIs L t u] (hR : ∀ w, Wd NoS w0 H w → R (.tuple #[v, u]) w) : G N (dsOf Ds) NoS w0 L (marks Ds ++ H) (bodyPostM (FW none) 0 P fn (fun e w' => ∃ v, e = .returned v ∧ R v w') .ret) := fun a w hS => by
  show LeavesInM _ _ _ _ _ _ _ _ _
  rw [hS.fr.defers]
  exact leaves_marks (fun w => by rw [results_tmp2 hr]; simp [Array.getD_eq_getD_getElem?, hS.fr.slot _ hv.mem, hS.fr.slot _ hu.mem]) hR Ds w hS.wd
/-! ### A range whose loop variable lies in a box -/
/-- what keeps all cells but those of these blocks -/
def KeepX (own : Nat → Prop) (W W' : World) : Prop := ∀ b cs t z, ¬ own b → W.heap[b]? = some (.cells cs t z) → W'.heap[b]? = some (.cells cs t z)
theorem KeepX.refl (own : Nat → Prop) (W : World) : KeepX own W W := fun _ _ _ _ _ h => h
theorem KeepX.trans {own : Nat → Prop} {A B C : World} (h : KeepX own A B) (k : KeepX own B C) : KeepX own A C := fun b cs t z hb hc => k b cs t z hb (h b cs t z hb hc)
theorem cell_block {W : World} {p : Addr} {v : Value} (h : W.cell? p = some v) : ∃ cs t z, W.heap[p.block]? = some (.cells cs t z) := by
  unfold World.cell? at h
  revert h
  cases W.heap[p.block]? with
  | none => intro h; simp at h
  | some o => cases o <;> intro h <;> first | exact ⟨_, _, _, rfl⟩ | simp at h
theorem KeepX.cell {own : Nat → Prop} {A B : World} (h : KeepX own A B) {p : Addr} {v : Value} (hp : ¬ own p.block) (hc : A.cell? p = some v) : B.cell? p = some v := by
  obtain ⟨cs, t, z, hb⟩ := cell_block hc
  have := h _ _ _ _ hp hb
  rw [← hc]
  exact World.cell?_of_block (this.trans hb.symm)
theorem g_doneP {Lp : Nat → List (Nat × Value)} {Hp : Nat → List Ent} (q : Nat) (hL : allIn L (Lp q)) (hH : (Hp q).Sublist H) : G N ds S w0 L H (fun a w => ∃ q, St N ds S w0 (Lp q) (Hp q) a w) := fun _ _ hS => ⟨q, hS.fix hL hH⟩
theorem g_rangeB {α σ : Type} {g : Operand} {ps : Array Tmp} {assign body : Code} {gf : Nat} {lb : List Value} [hg : Ev L g (.func (.func gf) #[] lb.toArray)] [eg : EnterOk P gf] (F : List Ent) (Hc : σ → List Ent) (s0 : σ) (hcl : ∀ s, CellsL (Hc s)) (hfp : ∀ s s' b, fps (Hc s) b → fps (Hc s') b) (xs : List α) {encs : α → Array Value}
    {Bs : Nat} {bcs : List Value} {bt : TypeId} (hBs : Ent.box Bs bcs bt ∈ F)
    (hseq : ∀ w, Wd NoS w0 H w → SeqStopsK (FW none) 4 P gf lb.toArray encs (KeepX fun b => fps (Hc s0 ++ F) b ∧ b ≠ Bs) (fun ys => ys = xs) (fun pre => pre <+: xs) xs.length w)
    (I : List α → σ → Prop) (h0 : I [] s0) (hH : (Hc s0 ++ F).Sublist H) (hps : ∀ x, (encs x).size = ps.size) (bx : α → List Value) (T : Nat)
    (L0 : α → List (Nat × Value)) (La : α → Nat → List (Nat × Value)) (hput : ∀ x a, Fr N ds L a → Fr N [] (L0 x) { tmps := (ps.zip (encs x)).foldl (fun t (p, v) => t.setIfInBounds p v) a.tmps, defers := [] })
    (hassign : ∀ (l : Nat) (x : α) (s : σ) (R : Ent), G N [] NoS w0 (L0 x) (R :: (Hc s ++ F)) (assign.wpIn (FW (some l)) 0 P (Exit.then (fun a w => ∃ q, St N [] NoS w0 (La x q) (Ent.box q (bx x) T :: R :: (Hc s ++ F)) a w) (fun _ _ _ => False))))
    (hbody : ∀ (l : Nat) (pre : List α) (x : α) (s : σ) (q : Nat) (R : Ent), I pre s → pre.length < xs.length → G N [] NoS w0 (La x q) (R :: Ent.box q (bx x) T :: (Hc s ++ F)) (body.wpIn (FW (some l)) 0 P (Exit.then (Rnd NoS w0 (I (pre ++ [x])) R Hc (Ent.box q (bx x) T :: F)) (fun _ _ _ => False))))
    (k : ∀ D s, w0.heap.size ≤ D → I xs s → G N (⟨.collected D, #[]⟩ :: ds) NoS w0 L (Ent.mark D :: (Hc s ++ F)) (Q .normal)) : G N ds NoS w0 L H (Code.wpIn (FW none) 0 P (Code.rangeFunc g ps assign body) Q) := fun a w hS => by
  have hsz := hS.wd.size
  have hF : ∀ e ∈ F, ∀ b, e.fp b → b < w.heap.size := fun e he b hb => (hS.wd.own e (hH.subset (List.mem_append_right _ he)) b hb).2
  have hcell : ∀ s W, Wd NoS w0 (Hc s ++ F) W → ∀ r o, W.heap[r]? = some o → o.isCells = false → w.heap.size ≤ r → ¬ fps (Hc s ++ F) r := by
    rintro s W hW r o ho hn hle ⟨e, he, hb⟩
    rcases List.mem_append.1 he with he | he
    · obtain ⟨j, hj⟩ := List.getElem?_of_mem (List.mem_append_left F he)
      obtain ⟨cs, t, z, hc⟩ := ((hcl s).all e he).ok W (hW.get hj) r hb
      rw [hc] at ho
      cases ho
      cases hn
    · have := hF e he r hb; omega
  have hbox : ∀ s W, Wd NoS w0 (Hc s ++ F) W → W.heap[Bs]? = some (.cells bcs.toArray bt (0, 0)) := fun s W hW => by
    obtain ⟨j, hj⟩ := List.getElem?_of_mem (List.mem_append_right (Hc s) hBs)
    exact hW.get hj
  have hfpF : ∀ s s' b, fps (Hc s ++ F) b → fps (Hc s' ++ F) b := by
    rintro s s' b ⟨e, he, hb⟩
    rcases List.mem_append.1 he with he | he
    · obtain ⟨e', he', hb'⟩ := hfp s s' b ⟨e, he, hb⟩
      exact ⟨e', List.mem_append_left _ he', hb'⟩
    · exact ⟨e, List.mem_append_right _ he, hb⟩
  have hout : ∀ s s' (H0 : List Ent) W W', Wd NoS w0 (Hc s ++ F) W → (∀ r o, W.heap[r]? = some o → o.isCells = false → w.heap.size ≤ r → ¬ fps H0 r) → Wd NoS w0 (Ent.rest (restOf w0.heap.size W H0) W :: (Hc s' ++ F)) W' → (∀ b, fps H0 b → ¬ fps (Hc s0 ++ F) b → W'.heap[b]? = W.heap[b]?) → KeepsFrom w.heap.size W W' ∧ KeepX (fun b => fps (Hc s0 ++ F) b ∧ b ≠ Bs) W W' := by
    intro s s' H0 W W' hW hc0 hW' hx
    obtain ⟨hs, hr⟩ := hW'.get (k := 0) rfl
    refine ⟨⟨hs, fun j o hj ho hn => ?_⟩, fun b cs t z hb hc => ?_⟩
    · exact (hr j ⟨by omega, (Array.getElem?_eq_some_iff.1 ho).1, hc0 j o ho hn hj⟩).trans ho
    · by_cases e : b = Bs
      · subst e
        exact (hbox s' W' (hW'.sub (List.sublist_cons_self _ _))).trans ((hbox s W hW).symm.trans hc)
      · have hnf : ¬ fps (Hc s0 ++ F) b := fun h => hb ⟨h, e⟩
        by_cases hlt : b < w0.heap.size
        · exact ((hW'.chg.block b hlt fun h => h).trans (hW.chg.block b hlt fun h => h).symm).trans hc
        · by_cases h0 : fps H0 b
          · exact (hx b h0 hnf).trans hc
          · exact (hr b ⟨by omega, (Array.getElem?_eq_some_iff.1 hc).1, h0⟩).trans hc
  refine wpIn_deep (m := 5) ?_
  refine wpIn_rangeFunc_ownH (F := FW none) (n := 5) (w0 := w) rfl (by omega) (hg.eq _ _ _ hS.fr) trivial (fun args w => eg.run args w) (hseq w hS.wd) (fun h1 h2 => h1.trans h2) (fun W l o o' hl ho hn _ b cs t z _ hc => ?_) (Below.refl _ _) hps
    (fun pre W => ∃ s, I pre s ∧ Wd NoS w0 (Hc s ++ F) W ∧ w.heap.size ≤ W.heap.size) (fun _ _ _ => False) (fun pre W W' row ⟨s, hI, hW, hsW⟩ hg hr => ⟨s, hI, hW.grown hg fun r e => ?_, Nat.le_trans hsW hg.size⟩) (fun _ _ _ _ _ h => h.elim) ⟨s0, h0, hS.wd.sub hH, Nat.le_refl _⟩
    (fun x a' W => ∃ q, Fr N [] (La x q) a' ∧ W.heap[q]? = some (.cells (bx x).toArray T (0, 0)) ∧ w.heap.size ≤ q ∧ ∀ s, ¬ fps (Hc s ++ F) q) (fun x a' _ W W' row ⟨q, h1, h2, h3, h4⟩ hg hr => ⟨q, h1, ?_, h3, h4⟩) ?_ ?_ ?_ ?_
  · refine (World.putObj_heap_other fun e => ?_).trans hc
    subst e
    rw [hc] at ho
    cases ho
    cases hn
  · obtain ⟨h1, o, ho, hn⟩ := hr r e
    exact ⟨by omega, hcell s W hW r o ho hn h1⟩
  · refine (hg.block q (Array.getElem?_eq_some_iff.1 h2).1 fun e => ?_).trans h2
    obtain ⟨_, o, ho, hn⟩ := hr q e.symm
    rw [h2] at ho
    cases ho
    cases hn
  · rintro l pre x W K ⟨s, hI, hW, hsW⟩ hK
    refine wpIn_deep (m := 0) ?_
    refine Code.wpIn_mono (fun e a' W' q => ?_) (hassign l x s _ _ W ⟨hput x a hS.fr, hW.withRest⟩)
    cases e with
    | normal =>
      obtain ⟨q, hq⟩ := q
      have ho := hout s s _ W W' hW (hcell s W hW) (hq.wd.sub (List.sublist_cons_self _ _)) fun b hb hn => absurd (hfpF s s0 b hb) hn
      have hap := List.pairwise_cons.1 hq.wd.apart
      have hqf : ¬ fps (Hc s ++ F) q := fun ⟨e, he, hb⟩ => hap.1 e (List.mem_cons_of_mem _ he) q rfl hb
      have hqo := hq.wd.own (Ent.box q (bx x) T) (by simp) q rfl
      refine hK a' W' ho.1 ho.2 ⟨s, hI, hq.wd.sub (List.Sublist.cons _ (List.Sublist.cons _ (List.Sublist.refl _))), Nat.le_trans hsW ho.1.size⟩ ⟨q, hq.fr, hq.wd.get (k := 0) rfl, ?_, fun s' h => hqf (hfpF s' s q h)⟩
      refine Classical.byContradiction fun hlt => ?_
      have h1 : w0.heap.size ≤ q := hqo.1.elim (fun h => h.elim) id
      exact hap.1 (Ent.rest (restOf w0.heap.size W (Hc s ++ F)) W) (by simp) q rfl ⟨h1, by omega, hqf⟩
    | _ => exact q.elim
  · rintro l pre x a' W _ _ ⟨s, hI, hW, hsW⟩ ⟨q', h1, h2, h3, h4⟩ hlt
    have hWb : Wd NoS w0 (Ent.box q' (bx x) T :: (Hc s ++ F)) W := ⟨hW.chg, fun e he b hb => by
      rcases List.mem_cons.1 he with rfl | he
      · cases hb
        exact ⟨.inr (by omega), (Array.getElem?_eq_some_iff.1 h2).1⟩
      · exact hW.own e he b hb, fun e he w2 hs hw2 => by
      rcases List.mem_cons.1 he with rfl | he
      · exact (hw2 q' rfl).trans h2
      · exact hW.ok e he w2 hs hw2, List.pairwise_cons.2 ⟨fun f hf b hb hfb => by cases hb; exact h4 s ⟨f, hf, hfb⟩, hW.apart⟩⟩
    refine wpIn_deep (m := 0) ?_
    refine Code.wpIn_mono (fun e a' W' q => ?_) (hbody l pre x s q' _ hI hlt a' W ⟨h1, hWb.withRest⟩)
    cases e with
    | normal =>
      obtain ⟨s', hI', hW'⟩ := q
      have hW2 : Wd NoS w0 (Ent.rest (restOf w0.heap.size W (Ent.box q' (bx x) T :: (Hc s ++ F))) W :: (Hc s' ++ F)) W' := hW'.sub (List.Sublist.cons_cons _ (List.Sublist.append_left (List.sublist_cons_self _ _) _))
      have hq2 : W'.heap[q']? = some (.cells (bx x).toArray T (0, 0)) := by
        obtain ⟨j, hj⟩ := List.getElem?_of_mem (show Ent.box q' (bx x) T ∈ Ent.rest (restOf w0.heap.size W (Ent.box q' (bx x) T :: (Hc s ++ F))) W :: (Hc s' ++ (Ent.box q' (bx x) T :: F)) by simp)
        exact hW'.get hj
      have ho := hout s s' _ W W' hW (fun r o ho hn hle => by
        rintro ⟨e, he, hb⟩
        rcases List.mem_cons.1 he with rfl | he
        · cases hb
          rw [h2] at ho
          cases ho
          cases hn
        · exact hcell s W hW r o ho hn hle ⟨e, he, hb⟩) hW2 (fun b hb hn => by
        obtain ⟨e, he, hb⟩ := hb
        rcases List.mem_cons.1 he with rfl | he
        · cases hb
          exact hq2.trans h2.symm
        · exact absurd (hfpF s s0 b ⟨e, he, hb⟩) hn)
      exact ⟨ho.1, ho.2, s', hI', hW2.sub (List.sublist_cons_self _ _), Nat.le_trans hsW ho.1.size⟩
    | _ => exact q.elim
  · rintro D ys W hD rfl ⟨s, hI, hW, _⟩ hd
    refine k D s (by omega) hI _ W ⟨⟨hS.fr.size, by rw [hS.fr.defers], hS.fr.slot⟩, ?_⟩
    have hn : ¬ fps (Hc s ++ F) D := hcell s W hW D _ hd rfl hD
    exact ⟨hW.chg, fun e he b hb => by
      rcases List.mem_cons.1 he with rfl | he
      · cases hb
        exact ⟨.inr (by omega), (Array.getElem?_eq_some_iff.1 hd).1⟩
      · exact hW.own e he b hb, fun e he w2 hs hw2 => by
      rcases List.mem_cons.1 he with rfl | he
      · exact (hw2 D rfl).trans hd
      · exact hW.ok e he w2 hs hw2, List.pairwise_cons.2 ⟨fun f hf b hb hfb => by cases hb; exact hn ⟨f, hf, hfb⟩, hW.apart⟩⟩
  · intro D c pre W _ _ h
    exact h.elim
end
end Go.Proofs.YtbmnkjaelfjlhaaDoor


/- A range over a function whose rounds make memory that lasts: the pieces that the rounds hold may grow. -/
namespace Go.Proofs.YtbmnkjaelfjlhaaDoor
open Go Go.RowKit

/-- plain cells of another type than T -/
class TyN (T : Nat) (e : Ent) : Prop where
  ty : ∀ w, e.ok w → ∀ b, e.fp b → ∃ cs t z, w.heap[b]? = some (.cells cs t z) ∧ t ≠ T
theorem TyN.cells {T : Nat} {e : Ent} (h : TyN T e) (w : World) (hw : e.ok w) (b : Nat) (hb : e.fp b) : ∃ cs t z, w.heap[b]? = some (.cells cs t z) := by
  obtain ⟨cs, t, z, h1, _⟩ := h.ty w hw b hb
  exact ⟨cs, t, z, h1⟩
section
variable {P : Program} {ro : Option Nat} {N : Nat} {ds : List Deferred} {S : Nat → Prop} {w0 : World} {L L' : List (Nat × Value)} {H H' : List Ent} {a : Act} {w : World}
  {ops : Array Oper} {rest : List Oper} {Q : Exit → Act → World → Prop} {p : Act → World → Prop} {x y : Operand}
end
end Go.Proofs.YtbmnkjaelfjlhaaDoor


/- A range over a function whose rounds make memory that lasts, of the same kind as the round's own element: where it lies a box tells. -/
namespace Go.Proofs.YtbmnkjaelfjlhaaDoor
open Go Go.RowKit

/-- plain cells -/
def CellE (e : Ent) : Prop := ∀ w, e.ok w → ∀ b, e.fp b → ∃ cs t z, w.heap[b]? = some (.cells cs t z)
theorem cellE_box {b : Nat} {cs : List Value} {t : TypeId} : CellE (Ent.box b cs t) := fun _ h k hk => by subst hk; exact ⟨_, _, _, h⟩
theorem cellE_vec {a : Option Addr} {n c e s : Nat} {xs : List Value} : CellE (Ent.vec a n c e s xs) := fun w h k hk => by
  rcases h.2 with ⟨rfl, _⟩ | ⟨g, pre, sp, rfl, _, _, _, hb⟩
  · cases hk
  · simp only [Ent.vec, Option.map_some, Option.some.injEq] at hk
    subst hk
    exact ⟨_, _, _, hb⟩
section
variable {P : Program} {ro : Option Nat} {N : Nat} {ds : List Deferred} {S : Nat → Prop} {w0 : World} {L L' : List (Nat × Value)} {H H' : List Ent} {a : Act} {w : World}
  {ops : Array Oper} {rest : List Oper} {Q : Exit → Act → World → Prop} {p : Act → World → Prop} {x y : Operand}
end
end Go.Proofs.YtbmnkjaelfjlhaaDoor


/- The same where the call may turn memory that was there: all that may turn is held or gone. -/
namespace Go.Proofs.YtbmnkjaelfjlhaaDoor
open Go Go.RowKit

def restS (S : Nat → Prop) (n : Nat) (W : World) (H : List Ent) : Nat → Prop := fun b => (S b ∨ n ≤ b) ∧ b < W.heap.size ∧ ¬ fps H b
theorem Wd.withRestS {S : Nat → Prop} {w0 W : World} {H : List Ent} (h : Wd S w0 H W) : Wd S w0 (Ent.rest (restS S w0.heap.size W H) W :: H) W :=
  ⟨h.chg, fun e he b hb => by
    rcases List.mem_cons.1 he with rfl | he
    · exact ⟨hb.1, hb.2.1⟩
    · exact h.own e he b hb, fun e he w' hs hw' => by
    rcases List.mem_cons.1 he with rfl | he
    · exact ⟨hs, fun b hb => hw' b hb⟩
    · exact h.ok e he w' hs hw', List.pairwise_cons.2 ⟨fun f hf b hb hfb => hb.2.2 ⟨f, hf, hfb⟩, h.apart⟩⟩
theorem wd_restS {S : Nat → Prop} {wz w w' : World} {H1 E : List Ent} (_hcl : ∀ p v, wz.cell? p = some v → ¬ S p.block) (hz : Chg S wz w) (h : Wd S wz (Ent.rest (restS S wz.heap.size w H1) w :: E) w') : Wd (fps H1) w E w' := by
  obtain ⟨hs, hr⟩ := h.get (k := 0) rfl
  have hap := List.pairwise_cons.1 h.apart
  refine ⟨⟨h.chg.os.trans hz.os.symm, h.chg.tape.trans hz.tape.symm, h.chg.output.trans hz.output.symm, hs, fun k hk hnS => ?_⟩, fun e he b hb => ?_, fun e he => h.ok e (List.mem_cons_of_mem _ he), hap.2⟩
  · by_cases hlt : S k ∨ wz.heap.size ≤ k
    · exact hr k ⟨hlt, hk, hnS⟩
    · have hk1 : k < wz.heap.size := Classical.byContradiction fun h => hlt (.inr (by omega))
      exact (h.chg.block k hk1 fun h => hlt (.inl h)).trans (hz.block k hk1 fun h => hlt (.inl h)).symm
  · obtain ⟨h1, h2⟩ := h.own e (List.mem_cons_of_mem _ he) b hb
    refine ⟨?_, h2⟩
    by_cases hlt : b < w.heap.size
    · left
      exact Classical.byContradiction fun hn => hap.1 e he b ⟨h1, hlt, hn⟩ hb
    · right; omega
section
variable {P : Program} {ro : Option Nat} {N : Nat} {ds : List Deferred} {S : Nat → Prop} {w0 : World} {L L' : List (Nat × Value)} {H H' : List Ent} {a : Act} {w : World}
  {ops : Array Oper} {rest : List Oper} {Q : Exit → Act → World → Prop} {p : Act → World → Prop} {x y : Operand}
theorem g_rangeS {α σ : Type} {g : Operand} {ps : Array Tmp} {assign body : Code} {gf : Nat} {lb : List Value} [hg : Ev L g (.func (.func gf) #[] lb.toArray)] [eg : EnterOk P gf] (F : List Ent) (Hc : σ → List Ent) (s0 : σ) (T : Nat) (hcl : ∀ s, ∀ e ∈ Hc s, CellE e) (fv : Nat) (fx : Nat → Prop) (hfoot : ∀ s W, Wd S w0 (Hc s ++ F) W → ∃ a n c t, W.heap[fv]? = some (.cells #[.slice a n c] t (0, 0)) ∧ ∀ b, fps (Hc s) b ↔ (fx b ∨ a.map (·.block) = some b)) (xs : List α) {encs : α → Array Value}
    {Bs : Nat} {bcs : List Value} {bt : TypeId} (hBs : Ent.box Bs bcs bt ∈ F)
    (hseq : ∀ w, Wd S w0 H w → SeqStopsK (FW none) 4 P gf lb.toArray encs (KeepX fun b => (fps (Hc s0 ++ F) b ∨ S b ∨ w.heap.size ≤ b) ∧ b ≠ Bs) (fun ys => ys = xs) (fun pre => pre <+: xs) xs.length w)
    (I : List α → σ → Prop) (h0 : I [] s0) (hH : (Hc s0 ++ F).Sublist H) (hps : ∀ x, (encs x).size = ps.size) (bx : α → List Value)
    (L0 : α → List (Nat × Value)) (La : α → Nat → List (Nat × Value)) (hput : ∀ x a, Fr N ds L a → Fr N [] (L0 x) { tmps := (ps.zip (encs x)).foldl (fun t (p, v) => t.setIfInBounds p v) a.tmps, defers := [] })
    (hassign : ∀ (l : Nat) (x : α) (s : σ) (R : Ent), G N [] S w0 (L0 x) (R :: (Hc s ++ F)) (assign.wpIn (FW (some l)) 0 P (Exit.then (fun a w => ∃ q, St N [] S w0 (La x q) (Ent.box q (bx x) T :: R :: (Hc s ++ F)) a w) (fun _ _ _ => False))))
    (hbody : ∀ (l : Nat) (pre : List α) (x : α) (s : σ) (q : Nat) (R : Ent), I pre s → pre.length < xs.length → G N [] S w0 (La x q) (R :: Ent.box q (bx x) T :: (Hc s ++ F)) (body.wpIn (FW (some l)) 0 P (Exit.then (Rnd S w0 (I (pre ++ [x])) R Hc (Ent.box q (bx x) T :: F)) (fun _ _ _ => False))))
    (k : ∀ D s, w0.heap.size ≤ D → I xs s → G N (⟨.collected D, #[]⟩ :: ds) S w0 L (Ent.mark D :: (Hc s ++ F)) (Q .normal)) : G N ds S w0 L H (Code.wpIn (FW none) 0 P (Code.rangeFunc g ps assign body) Q) := fun a w hS => by
  have hsz := hS.wd.size
  have hF : ∀ e ∈ F, ∀ b, e.fp b → b < w.heap.size := fun e he b hb => (hS.wd.own e (hH.subset (List.mem_append_right _ he)) b hb).2
  have hcell : ∀ s W, Wd S w0 (Hc s ++ F) W → ∀ r o, W.heap[r]? = some o → o.isCells = false → w.heap.size ≤ r → ¬ fps (Hc s ++ F) r := by
    rintro s W hW r o ho hn hle ⟨e, he, hb⟩
    rcases List.mem_append.1 he with he | he
    · obtain ⟨j, hj⟩ := List.getElem?_of_mem (List.mem_append_left F he)
      obtain ⟨cs, t, z, hc⟩ := hcl s e he W (hW.get hj) r hb
      rw [hc] at ho
      cases ho
      cases hn
    · have := hF e he r hb; omega
  have hbox : ∀ s W, Wd S w0 (Hc s ++ F) W → W.heap[Bs]? = some (.cells bcs.toArray bt (0, 0)) := fun s W hW => by
    obtain ⟨j, hj⟩ := List.getElem?_of_mem (List.mem_append_right (Hc s) hBs)
    exact hW.get hj
  have hold : ∀ s, (∀ b, fps (Hc s) b → fps (Hc s0 ++ F) b ∨ S b ∨ w.heap.size ≤ b) → ∀ b, fps (Hc s ++ F) b → fps (Hc s0 ++ F) b ∨ S b ∨ w.heap.size ≤ b := by
    rintro s h b ⟨e, he, hb⟩
    rcases List.mem_append.1 he with he | he
    · exact h b ⟨e, he, hb⟩
    · exact .inl ⟨e, List.mem_append_right _ he, hb⟩
  have hout : ∀ s s' (H0 : List Ent) W W', Wd S w0 (Hc s ++ F) W → (∀ r o, W.heap[r]? = some o → o.isCells = false → w.heap.size ≤ r → ¬ fps H0 r) → Wd S w0 (Ent.rest (restS S w0.heap.size W H0) W :: (Hc s' ++ F)) W' → (∀ b, fps H0 b → fps (Hc s0 ++ F) b ∨ S b ∨ w.heap.size ≤ b) → KeepsFrom w.heap.size W W' ∧ KeepX (fun b => (fps (Hc s0 ++ F) b ∨ S b ∨ w.heap.size ≤ b) ∧ b ≠ Bs) W W' := by
    intro s s' H0 W W' hW hc0 hW' hx
    obtain ⟨hs, hr⟩ := hW'.get (k := 0) rfl
    refine ⟨⟨hs, fun j o hj ho hn => ?_⟩, fun b cs t z hb hc => ?_⟩
    · exact (hr j ⟨by omega, (Array.getElem?_eq_some_iff.1 ho).1, hc0 j o ho hn hj⟩).trans ho
    · by_cases e : b = Bs
      · subst e
        exact (hbox s' W' (hW'.sub (List.sublist_cons_self _ _))).trans ((hbox s W hW).symm.trans hc)
      · have hnf : ¬ (fps (Hc s0 ++ F) b ∨ S b ∨ w.heap.size ≤ b) := fun h => hb ⟨h, e⟩
        by_cases hlt : b < w0.heap.size
        · exact ((hW'.chg.block b hlt fun h => hnf (.inr (.inl h))).trans (hW.chg.block b hlt fun h => hnf (.inr (.inl h))).symm).trans hc
        · exact (hr b ⟨by omega, (Array.getElem?_eq_some_iff.1 hc).1, fun h0 => hnf (hx b h0)⟩).trans hc
  refine wpIn_deep (m := 5) ?_
  refine wpIn_rangeFunc_ownH (F := FW none) (n := 5) (w0 := w) rfl (by omega) (hg.eq _ _ _ hS.fr) trivial (fun args w => eg.run args w) (hseq w hS.wd) (fun h1 h2 => h1.trans h2) (fun W l o o' hl ho hn _ b cs t z _ hc => ?_) (Below.refl _ _) hps
    (fun pre W => ∃ s, I pre s ∧ Wd S w0 (Hc s ++ F) W ∧ w.heap.size ≤ W.heap.size ∧ ∀ b, fps (Hc s) b → fps (Hc s0 ++ F) b ∨ S b ∨ w.heap.size ≤ b) (fun _ _ _ => False) (fun pre W W' row ⟨s, hI, hW, hsW, hgr⟩ hg hr => ⟨s, hI, hW.grown hg fun r e => ?_, Nat.le_trans hsW hg.size, hgr⟩) (fun _ _ _ _ _ h => h.elim) ⟨s0, h0, hS.wd.sub hH, Nat.le_refl _, fun b ⟨e, he, hb⟩ => .inl ⟨e, List.mem_append_left _ he, hb⟩⟩
    (fun x a' W => ∃ q, Fr N [] (La x q) a' ∧ W.heap[q]? = some (.cells (bx x).toArray T (0, 0)) ∧ w.heap.size ≤ q ∧ ¬ fps F q ∧ ¬ fx q ∧ ∃ a n c t, W.heap[fv]? = some (.cells #[.slice a n c] t (0, 0)) ∧ ¬ a.map (·.block) = some q) (fun x a' _ W W' row ⟨q, h1, h2, h3, h4, h5, fa, fn, fc, ft, h6, h7⟩ hg hr => ⟨q, h1, ?_, h3, h4, h5, fa, fn, fc, ft, ?_, h7⟩) ?_ ?_ ?_ ?_
  · refine (World.putObj_heap_other fun e => ?_).trans hc
    subst e
    rw [hc] at ho
    cases ho
    cases hn
  · obtain ⟨h1, o, ho, hn⟩ := hr r e
    exact ⟨by omega, hcell s W hW r o ho hn h1⟩
  · refine (hg.block q (Array.getElem?_eq_some_iff.1 h2).1 fun e => ?_).trans h2
    obtain ⟨_, o, ho, hn⟩ := hr q e.symm
    rw [h2] at ho
    cases ho
    cases hn
  · refine (hg.block fv (Array.getElem?_eq_some_iff.1 h6).1 fun e => ?_).trans h6
    obtain ⟨_, o, ho, hn⟩ := hr fv e.symm
    rw [h6] at ho
    cases ho
    cases hn
  · rintro l pre x W K ⟨s, hI, hW, hsW, hgr⟩ hK
    refine wpIn_deep (m := 0) ?_
    refine Code.wpIn_mono (fun e a' W' q => ?_) (hassign l x s _ _ W ⟨hput x a hS.fr, hW.withRestS⟩)
    cases e with
    | normal =>
      obtain ⟨q, hq⟩ := q
      have ho := hout s s _ W W' hW (hcell s W hW) (hq.wd.sub (List.sublist_cons_self _ _)) (hold s hgr)
      have hap := List.pairwise_cons.1 hq.wd.apart
      have hqf : ¬ fps (Hc s ++ F) q := fun ⟨e, he, hb⟩ => hap.1 e (List.mem_cons_of_mem _ he) q rfl hb
      have hqo := hq.wd.own (Ent.box q (bx x) T) (by simp) q rfl
      refine hK a' W' ho.1 ho.2 ⟨s, hI, hq.wd.sub (List.Sublist.cons _ (List.Sublist.cons _ (List.Sublist.refl _))), Nat.le_trans hsW ho.1.size, hgr⟩ (by
        obtain ⟨fa, fn, fc, ft, h6, h7⟩ := hfoot s W' (hq.wd.sub (List.Sublist.cons _ (List.Sublist.cons _ (List.Sublist.refl _))))
        have hqn : ¬ fps (Hc s) q := fun ⟨e, he, hb⟩ => hqf ⟨e, List.mem_append_left _ he, hb⟩
        refine ⟨q, hq.fr, hq.wd.get (k := 0) rfl, ?_, fun ⟨e, he, hb⟩ => hqf ⟨e, List.mem_append_right _ he, hb⟩, fun h => hqn ((h7 q).2 (.inl h)), fa, fn, fc, ft, h6, fun h => hqn ((h7 q).2 (.inr h))⟩
        refine Classical.byContradiction fun hlt => ?_
        have h1 := hqo.1
        exact hap.1 (Ent.rest (restS S w0.heap.size W (Hc s ++ F)) W) (by simp) q rfl ⟨h1, by omega, hqf⟩)
    | _ => exact q.elim
  · rintro l pre x a' W _ _ ⟨s, hI, hW, hsW, hgr⟩ ⟨q', h1, h2, h3, h5, h8, fa, fn, fc, ft, h6, h7⟩ hlt
    have h4 : ¬ fps (Hc s ++ F) q' := by
      rintro ⟨e, he, hb⟩
      rcases List.mem_append.1 he with he | he
      · obtain ⟨ga, gn, gc, gt, k6, k7⟩ := hfoot s W hW
        rw [h6] at k6
        simp only [Option.some.injEq, Obj.cells.injEq] at k6
        have e1 := k6.1
        simp only [Array.mk.injEq, List.cons.injEq, Value.slice.injEq, and_true] at e1
        rcases (k7 q').1 ⟨e, he, hb⟩ with k8 | k8
        · exact h8 k8
        · rw [← e1.1] at k8; exact h7 k8
      · exact h5 ⟨e, he, hb⟩
    have hWb : Wd S w0 (Ent.box q' (bx x) T :: (Hc s ++ F)) W := ⟨hW.chg, fun e he b hb => by
      rcases List.mem_cons.1 he with rfl | he
      · cases hb
        exact ⟨.inr (by omega), (Array.getElem?_eq_some_iff.1 h2).1⟩
      · exact hW.own e he b hb, fun e he w2 hs hw2 => by
      rcases List.mem_cons.1 he with rfl | he
      · exact (hw2 q' rfl).trans h2
      · exact hW.ok e he w2 hs hw2, List.pairwise_cons.2 ⟨fun f hf b hb hfb => by cases hb; exact h4 ⟨f, hf, hfb⟩, hW.apart⟩⟩
    refine wpIn_deep (m := 0) ?_
    refine Code.wpIn_mono (fun e a' W' q => ?_) (hbody l pre x s q' _ hI hlt a' W ⟨h1, hWb.withRestS⟩)
    cases e with
    | normal =>
      obtain ⟨s', hI', hW'⟩ := q
      have hW2 : Wd S w0 (Ent.rest (restS S w0.heap.size W (Ent.box q' (bx x) T :: (Hc s ++ F))) W :: (Hc s' ++ F)) W' := hW'.sub (List.Sublist.cons_cons _ (List.Sublist.append_left (List.sublist_cons_self _ _) _))
      have hq2 : W'.heap[q']? = some (.cells (bx x).toArray T (0, 0)) := by
        obtain ⟨j, hj⟩ := List.getElem?_of_mem (show Ent.box q' (bx x) T ∈ Ent.rest (restS S w0.heap.size W (Ent.box q' (bx x) T :: (Hc s ++ F))) W :: (Hc s' ++ (Ent.box q' (bx x) T :: F)) by simp)
        exact hW'.get hj
      have ho := hout s s' _ W W' hW (fun r o ho hn hle => by
        rintro ⟨e, he, hb⟩
        rcases List.mem_cons.1 he with rfl | he
        · cases hb
          rw [h2] at ho
          cases ho
          cases hn
        · exact hcell s W hW r o ho hn hle ⟨e, he, hb⟩) hW2 (fun b hb => by
        obtain ⟨e, he, hb⟩ := hb
        rcases List.mem_cons.1 he with rfl | he
        · cases hb
          exact .inr (.inr h3)
        · exact hold s hgr b ⟨e, he, hb⟩)
      refine ⟨ho.1, ho.2, s', hI', hW2.sub (List.sublist_cons_self _ _), Nat.le_trans hsW ho.1.size, fun b ⟨e, he, hb⟩ => ?_⟩
      refine Classical.byContradiction fun hn => ?_
      have hap := List.pairwise_cons.1 hW2.apart
      have hlo := (hW2.own e (List.mem_cons_of_mem _ (List.mem_append_left _ he)) b hb).1
      refine hap.1 e (List.mem_append_left _ he) b ⟨hlo, ?_, fun ⟨e2, he2, hb2⟩ => hn ?_⟩ hb
      · refine Classical.byContradiction fun h => hn (.inr (by omega))
      · rcases List.mem_cons.1 he2 with rfl | he2
        · cases hb2
          exact .inr (.inr h3)
        · exact hold s hgr b ⟨e2, he2, hb2⟩
    | _ => exact q.elim
  · rintro D ys W hD rfl ⟨s, hI, hW, _, _⟩ hd
    refine k D s (by omega) hI _ W ⟨⟨hS.fr.size, by rw [hS.fr.defers], hS.fr.slot⟩, ?_⟩
    have hn : ¬ fps (Hc s ++ F) D := hcell s W hW D _ hd rfl hD
    exact ⟨hW.chg, fun e he b hb => by
      rcases List.mem_cons.1 he with rfl | he
      · cases hb
        exact ⟨.inr (by omega), (Array.getElem?_eq_some_iff.1 hd).1⟩
      · exact hW.own e he b hb, fun e he w2 hs hw2 => by
      rcases List.mem_cons.1 he with rfl | he
      · exact (hw2 D rfl).trans hd
      · exact hW.ok e he w2 hs hw2, List.pairwise_cons.2 ⟨fun f hf b hb hfb => by cases hb; exact hn ⟨f, hf, hfb⟩, hW.apart⟩⟩
  · intro D c pre W _ _ h
    exact h.elim
theorem g_rangeBS {α σ : Type} {g : Operand} {ps : Array Tmp} {assign body : Code} {gf : Nat} {lb : List Value} [hg : Ev L g (.func (.func gf) #[] lb.toArray)] [eg : EnterOk P gf] (F : List Ent) (Hc : σ → List Ent) (s0 : σ) (hcl : ∀ s, CellsL (Hc s)) (hfp : ∀ s s' b, fps (Hc s) b → fps (Hc s') b) (xs : List α) {encs : α → Array Value}
    {Bs : Nat} {bcs : List Value} {bt : TypeId} (hBs : Ent.box Bs bcs bt ∈ F)
    (hseq : ∀ w, Wd S w0 H w → SeqStopsK (FW none) 4 P gf lb.toArray encs (KeepX fun b => fps (Hc s0 ++ F) b ∧ b ≠ Bs) (fun ys => ys = xs) (fun pre => pre <+: xs) xs.length w)
    (I : List α → σ → Prop) (h0 : I [] s0) (hH : (Hc s0 ++ F).Sublist H) (hps : ∀ x, (encs x).size = ps.size) (bx : α → List Value) (T : Nat)
    (L0 : α → List (Nat × Value)) (La : α → Nat → List (Nat × Value)) (hput : ∀ x a, Fr N ds L a → Fr N [] (L0 x) { tmps := (ps.zip (encs x)).foldl (fun t (p, v) => t.setIfInBounds p v) a.tmps, defers := [] })
    (hassign : ∀ (l : Nat) (x : α) (s : σ) (R : Ent), G N [] S w0 (L0 x) (R :: (Hc s ++ F)) (assign.wpIn (FW (some l)) 0 P (Exit.then (fun a w => ∃ q, St N [] S w0 (La x q) (Ent.box q (bx x) T :: R :: (Hc s ++ F)) a w) (fun _ _ _ => False))))
    (hbody : ∀ (l : Nat) (pre : List α) (x : α) (s : σ) (q : Nat) (R : Ent), I pre s → pre.length < xs.length → G N [] S w0 (La x q) (R :: Ent.box q (bx x) T :: (Hc s ++ F)) (body.wpIn (FW (some l)) 0 P (Exit.then (Rnd S w0 (I (pre ++ [x])) R Hc (Ent.box q (bx x) T :: F)) (fun _ _ _ => False))))
    (k : ∀ D s, w0.heap.size ≤ D → I xs s → G N (⟨.collected D, #[]⟩ :: ds) S w0 L (Ent.mark D :: (Hc s ++ F)) (Q .normal)) : G N ds S w0 L H (Code.wpIn (FW none) 0 P (Code.rangeFunc g ps assign body) Q) := fun a w hS => by
  have hsz := hS.wd.size
  have hF : ∀ e ∈ F, ∀ b, e.fp b → b < w.heap.size := fun e he b hb => (hS.wd.own e (hH.subset (List.mem_append_right _ he)) b hb).2
  have hcell : ∀ s W, Wd S w0 (Hc s ++ F) W → ∀ r o, W.heap[r]? = some o → o.isCells = false → w.heap.size ≤ r → ¬ fps (Hc s ++ F) r := by
    rintro s W hW r o ho hn hle ⟨e, he, hb⟩
    rcases List.mem_append.1 he with he | he
    · obtain ⟨j, hj⟩ := List.getElem?_of_mem (List.mem_append_left F he)
      obtain ⟨cs, t, z, hc⟩ := ((hcl s).all e he).ok W (hW.get hj) r hb
      rw [hc] at ho
      cases ho
      cases hn
    · have := hF e he r hb; omega
  have hbox : ∀ s W, Wd S w0 (Hc s ++ F) W → W.heap[Bs]? = some (.cells bcs.toArray bt (0, 0)) := fun s W hW => by
    obtain ⟨j, hj⟩ := List.getElem?_of_mem (List.mem_append_right (Hc s) hBs)
    exact hW.get hj
  have hfpF : ∀ s s' b, fps (Hc s ++ F) b → fps (Hc s' ++ F) b := by
    rintro s s' b ⟨e, he, hb⟩
    rcases List.mem_append.1 he with he | he
    · obtain ⟨e', he', hb'⟩ := hfp s s' b ⟨e, he, hb⟩
      exact ⟨e', List.mem_append_left _ he', hb'⟩
    · exact ⟨e, List.mem_append_right _ he, hb⟩
  have hout : ∀ s s' (H0 : List Ent) W W', Wd S w0 (Hc s ++ F) W → (∀ r o, W.heap[r]? = some o → o.isCells = false → w.heap.size ≤ r → ¬ fps H0 r) → Wd S w0 (Ent.rest (restS S w0.heap.size W H0) W :: (Hc s' ++ F)) W' → (∀ b, fps H0 b → ¬ fps (Hc s0 ++ F) b → W'.heap[b]? = W.heap[b]?) → KeepsFrom w.heap.size W W' ∧ KeepX (fun b => fps (Hc s0 ++ F) b ∧ b ≠ Bs) W W' := by
    intro s s' H0 W W' hW hc0 hW' hx
    obtain ⟨hs, hr⟩ := hW'.get (k := 0) rfl
    refine ⟨⟨hs, fun j o hj ho hn => ?_⟩, fun b cs t z hb hc => ?_⟩
    · exact (hr j ⟨by omega, (Array.getElem?_eq_some_iff.1 ho).1, hc0 j o ho hn hj⟩).trans ho
    · by_cases e : b = Bs
      · subst e
        exact (hbox s' W' (hW'.sub (List.sublist_cons_self _ _))).trans ((hbox s W hW).symm.trans hc)
      · have hnf : ¬ fps (Hc s0 ++ F) b := fun h => hb ⟨h, e⟩
        by_cases hlt : S b ∨ w0.heap.size ≤ b
        · by_cases h0 : fps H0 b
          · exact (hx b h0 hnf).trans hc
          · exact (hr b ⟨hlt, (Array.getElem?_eq_some_iff.1 hc).1, h0⟩).trans hc
        · have hb1 : b < w0.heap.size := Classical.byContradiction fun h => hlt (.inr (by omega))
          exact ((hW'.chg.block b hb1 fun h => hlt (.inl h)).trans (hW.chg.block b hb1 fun h => hlt (.inl h)).symm).trans hc
  refine wpIn_deep (m := 5) ?_
  refine wpIn_rangeFunc_ownH (F := FW none) (n := 5) (w0 := w) rfl (by omega) (hg.eq _ _ _ hS.fr) trivial (fun args w => eg.run args w) (hseq w hS.wd) (fun h1 h2 => h1.trans h2) (fun W l o o' hl ho hn _ b cs t z _ hc => ?_) (Below.refl _ _) hps
    (fun pre W => ∃ s, I pre s ∧ Wd S w0 (Hc s ++ F) W ∧ w.heap.size ≤ W.heap.size) (fun _ _ _ => False) (fun pre W W' row ⟨s, hI, hW, hsW⟩ hg hr => ⟨s, hI, hW.grown hg fun r e => ?_, Nat.le_trans hsW hg.size⟩) (fun _ _ _ _ _ h => h.elim) ⟨s0, h0, hS.wd.sub hH, Nat.le_refl _⟩
    (fun x a' W => ∃ q, Fr N [] (La x q) a' ∧ W.heap[q]? = some (.cells (bx x).toArray T (0, 0)) ∧ w.heap.size ≤ q ∧ ∀ s, ¬ fps (Hc s ++ F) q) (fun x a' _ W W' row ⟨q, h1, h2, h3, h4⟩ hg hr => ⟨q, h1, ?_, h3, h4⟩) ?_ ?_ ?_ ?_
  · refine (World.putObj_heap_other fun e => ?_).trans hc
    subst e
    rw [hc] at ho
    cases ho
    cases hn
  · obtain ⟨h1, o, ho, hn⟩ := hr r e
    exact ⟨by omega, hcell s W hW r o ho hn h1⟩
  · refine (hg.block q (Array.getElem?_eq_some_iff.1 h2).1 fun e => ?_).trans h2
    obtain ⟨_, o, ho, hn⟩ := hr q e.symm
    rw [h2] at ho
    cases ho
    cases hn
  · rintro l pre x W K ⟨s, hI, hW, hsW⟩ hK
    refine wpIn_deep (m := 0) ?_
    refine Code.wpIn_mono (fun e a' W' q => ?_) (hassign l x s _ _ W ⟨hput x a hS.fr, hW.withRestS⟩)
    cases e with
    | normal =>
      obtain ⟨q, hq⟩ := q
      have ho := hout s s _ W W' hW (hcell s W hW) (hq.wd.sub (List.sublist_cons_self _ _)) fun b hb hn => absurd (hfpF s s0 b hb) hn
      have hap := List.pairwise_cons.1 hq.wd.apart
      have hqf : ¬ fps (Hc s ++ F) q := fun ⟨e, he, hb⟩ => hap.1 e (List.mem_cons_of_mem _ he) q rfl hb
      have hqo := hq.wd.own (Ent.box q (bx x) T) (by simp) q rfl
      refine hK a' W' ho.1 ho.2 ⟨s, hI, hq.wd.sub (List.Sublist.cons _ (List.Sublist.cons _ (List.Sublist.refl _))), Nat.le_trans hsW ho.1.size⟩ ⟨q, hq.fr, hq.wd.get (k := 0) rfl, ?_, fun s' h => hqf (hfpF s' s q h)⟩
      refine Classical.byContradiction fun hlt => ?_
      have h1 := hqo.1
      exact hap.1 (Ent.rest (restS S w0.heap.size W (Hc s ++ F)) W) (by simp) q rfl ⟨h1, by omega, hqf⟩
    | _ => exact q.elim
  · rintro l pre x a' W _ _ ⟨s, hI, hW, hsW⟩ ⟨q', h1, h2, h3, h4⟩ hlt
    have hWb : Wd S w0 (Ent.box q' (bx x) T :: (Hc s ++ F)) W := ⟨hW.chg, fun e he b hb => by
      rcases List.mem_cons.1 he with rfl | he
      · cases hb
        exact ⟨.inr (by omega), (Array.getElem?_eq_some_iff.1 h2).1⟩
      · exact hW.own e he b hb, fun e he w2 hs hw2 => by
      rcases List.mem_cons.1 he with rfl | he
      · exact (hw2 q' rfl).trans h2
      · exact hW.ok e he w2 hs hw2, List.pairwise_cons.2 ⟨fun f hf b hb hfb => by cases hb; exact h4 s ⟨f, hf, hfb⟩, hW.apart⟩⟩
    refine wpIn_deep (m := 0) ?_
    refine Code.wpIn_mono (fun e a' W' q => ?_) (hbody l pre x s q' _ hI hlt a' W ⟨h1, hWb.withRestS⟩)
    cases e with
    | normal =>
      obtain ⟨s', hI', hW'⟩ := q
      have hW2 : Wd S w0 (Ent.rest (restS S w0.heap.size W (Ent.box q' (bx x) T :: (Hc s ++ F))) W :: (Hc s' ++ F)) W' := hW'.sub (List.Sublist.cons_cons _ (List.Sublist.append_left (List.sublist_cons_self _ _) _))
      have hq2 : W'.heap[q']? = some (.cells (bx x).toArray T (0, 0)) := by
        obtain ⟨j, hj⟩ := List.getElem?_of_mem (show Ent.box q' (bx x) T ∈ Ent.rest (restS S w0.heap.size W (Ent.box q' (bx x) T :: (Hc s ++ F))) W :: (Hc s' ++ (Ent.box q' (bx x) T :: F)) by simp)
        exact hW'.get hj
      have ho := hout s s' _ W W' hW (fun r o ho hn hle => by
        rintro ⟨e, he, hb⟩
        rcases List.mem_cons.1 he with rfl | he
        · cases hb
          rw [h2] at ho
          cases ho
          cases hn
        · exact hcell s W hW r o ho hn hle ⟨e, he, hb⟩) hW2 (fun b hb hn => by
        obtain ⟨e, he, hb⟩ := hb
        rcases List.mem_cons.1 he with rfl | he
        · cases hb
          exact hq2.trans h2.symm
        · exact absurd (hfpF s s0 b ⟨e, he, hb⟩) hn)
      exact ⟨ho.1, ho.2, s', hI', hW2.sub (List.sublist_cons_self _ _), Nat.le_trans hsW ho.1.size⟩
    | _ => exact q.elim
  · rintro D ys W hD rfl ⟨s, hI, hW, _⟩ hd
    refine k D s (by omega) hI _ W ⟨⟨hS.fr.size, by rw [hS.fr.defers], hS.fr.slot⟩, ?_⟩
    have hn : ¬ fps (Hc s ++ F) D := hcell s W hW D _ hd rfl hD
    exact ⟨hW.chg, fun e he b hb => by
      rcases List.mem_cons.1 he with rfl | he
      · cases hb
        exact ⟨.inr (by omega), (Array.getElem?_eq_some_iff.1 hd).1⟩
      · exact hW.own e he b hb, fun e he w2 hs hw2 => by
      rcases List.mem_cons.1 he with rfl | he
      · exact (hw2 D rfl).trans hd
      · exact hW.ok e he w2 hs hw2, List.pairwise_cons.2 ⟨fun f hf b hb hfb => by cases hb; exact hn ⟨f, hf, hfb⟩, hW.apart⟩⟩
  · intro D c pre W _ _ h
    exact h.elim
end
end Go.Proofs.YtbmnkjaelfjlhaaDoor


/- What is still needed, as plain functions and facts. No program in sight. -/
namespace Go.Proofs.YtbmnkjaelfjlhaaDoor
open Go Go.RowKit

def namesR (l : List LVal) (r : Nat) : Bool := l.any fun v => v.reg && decide (v.n = r)
def valsOf (x : LIns) : List LVal := (if (shape x.op).2.1 then [x.a] else []) ++ ((if (shape x.op).2.2 then [x.b] else []) ++ x.args)
def usesOf (x : LIns) : List LVal := if x.op = 21 then [] else if x.op = 20 then x.args else if (2 ≤ x.op ∧ x.op ≤ 15) ∨ x.op = 19 then [x.a, x.b] else if 1 ≤ x.op ∧ x.op ≤ 22 then [x.a] else []
/-- a register that there is -/
def ValOk (R : Nat) (v : LVal) : Prop := v.reg = true → 0 ≤ v.n ∧ v.n < R
structure InsOk (R : Nat) (x : LIns) : Prop where
  op : 1 ≤ x.op ∧ x.op ≤ 22
  args : x.op ≠ 20 → x.args = []
  dst : 0 ≤ x.dst → x.dst < R
  vals : ∀ v ∈ valsOf x, ValOk R v
theorem uses_vals {R : Nat} {x : LIns} (h : InsOk R x) : usesOf x = valsOf x := by
  have h1 := h.op
  unfold usesOf valsOf shape
  by_cases e20 : x.op = 20
  · simp [e20]
  · rw [h.args e20]
    by_cases e21 : x.op = 21
    · simp [e21]
    · rw [if_neg e21, if_neg e20]
      by_cases e1 : ((x.op = 1 ∨ x.op = 16) ∨ x.op = 17) ∨ x.op = 18
      · rw [if_pos e1, if_neg (by omega), if_pos h1]; simp
      · rw [if_neg e1]
        by_cases e2 : 2 ≤ x.op ∧ x.op ≤ 15
        · rw [if_pos e2, if_pos (.inl e2)]; simp
        · rw [if_neg e2]
          by_cases e3 : x.op = 19
          · rw [if_pos e3, if_pos (.inr e3)]; simp
          · have e4 : x.op = 22 := by omega
            simp [e4]

def takeV (s : List Bool) (v : LVal) : List Bool := if v.reg then s.set v.n.toNat true else s
def insV (s : List Bool) (x : LIns) : List Bool := (valsOf x).foldl takeV (if 0 ≤ x.dst then s.set x.dst.toNat false else s)
theorem takeV_length (s : List Bool) (v : LVal) : (takeV s v).length = s.length := by unfold takeV; split <;> simp
theorem takes_length (l : List LVal) : ∀ s : List Bool, (l.foldl takeV s).length = s.length := by
  induction l with
  | nil => exact fun _ => rfl
  | cons v l ih => exact fun s => by rw [List.foldl_cons, ih, takeV_length]
theorem insV_length (s : List Bool) (x : LIns) : (insV s x).length = s.length := by unfold insV; rw [takes_length]; split <;> simp
def has (s : List Bool) (r : Nat) : Prop := s[r]? = some true
theorem has_takeV {s : List Bool} {v : LVal} {r : Nat} (hv : ValOk s.length v) : has (takeV s v) r ↔ (has s r ∨ (v.reg = true ∧ v.n = r)) := by
  unfold takeV has
  by_cases h : v.reg = true
  · have := hv h
    rw [if_pos h, List.getElem?_set]
    by_cases e : v.n.toNat = r
    · rw [if_pos e, if_pos (by omega)]
      simp only [true_iff]
      exact .inr ⟨h, by omega⟩
    · rw [if_neg e]
      exact ⟨.inl, fun h => h.resolve_right fun h => e (by omega)⟩
  · rw [if_neg h]
    exact ⟨.inl, fun h' => h'.resolve_right fun h' => h h'.1⟩
theorem has_takes {r : Nat} : ∀ (l : List LVal) (s : List Bool), (∀ v ∈ l, ValOk s.length v) → (has (l.foldl takeV s) r ↔ (has s r ∨ namesR l r = true))
  | [], s, _ => by simp [namesR]
  | v :: l, s, h => by
    rw [List.foldl_cons, has_takes l (takeV s v) (by rw [takeV_length]; exact fun u hu => h u (List.mem_cons_of_mem _ hu)), has_takeV (h v (by simp))]
    simp only [namesR, List.any_cons, Bool.or_eq_true, Bool.and_eq_true, decide_eq_true_eq, or_assoc]
theorem has_set_false {s : List Bool} {d r : Nat} : has (s.set d false) r ↔ (has s r ∧ d ≠ r) := by
  unfold has
  rw [List.getElem?_set]
  by_cases e : d = r
  · subst e
    simp only [if_true, ne_eq, not_true_eq_false, and_false, iff_false]
    split <;> simp
  · rw [if_neg e]; simp [e]
theorem has_insV {s : List Bool} {x : LIns} {r : Nat} (hx : InsOk s.length x) : has (insV s x) r ↔ (namesR (valsOf x) r = true ∨ (x.dst ≠ r ∧ has s r)) := by
  unfold insV
  rw [has_takes _ _ (by split <;> simpa using hx.vals)]
  by_cases h : 0 ≤ x.dst
  · rw [if_pos h, has_set_false]
    constructor
    · rintro (⟨h1, h2⟩ | h1)
      · exact .inr ⟨fun e => h2 (by omega), h1⟩
      · exact .inl h1
    · rintro (h1 | ⟨h1, h2⟩)
      · exact .inr h1
      · exact .inl ⟨h2, fun e => h1 (by omega)⟩
  · rw [if_neg h]
    constructor
    · rintro (h1 | h1)
      · exact .inr ⟨by omega, h1⟩
      · exact .inl h1
    · rintro (h1 | ⟨_, h1⟩)
      · exact .inr h1
      · exact .inl h1

/-! ### Who leads to a block; what its phis take -/
def preds (bl : List LBlock) (t : Nat) : List Nat := (List.range bl.length).filter fun i => decide ((t : Int) ∈ toOf bl i)
def phisOf (bl : List LBlock) (t : Nat) : List LPhi := match bl[t]? with | some B => B.phis | none => []
def noV : LVal := ⟨false, 0⟩
/-- does a phi of t take r from b? -/
def takesR (bl : List LBlock) (t b r : Nat) : Bool := (phisOf bl t).any fun p => namesR [p.src[(preds bl t).idxOf b]?.getD noV] r
structure PhiOk (R np : Nat) (p : LPhi) : Prop where
  dst : 0 ≤ p.dst ∧ p.dst < R
  len : p.src.length = np
  vals : ∀ v ∈ p.src, ValOk R v
structure BlockOk (R : Nat) (bl : List LBlock) (b : Nat) (B : LBlock) : Prop where
  phis : ∀ p ∈ B.phis, PhiOk R (preds bl b).length p
  list : ∀ x ∈ B.list, InsOk R x
  on : ValOk R B.on
  to : B.to.Nodup
structure FuncOk (R : Nat) (bl : List LBlock) : Prop where
  good : GoodB bl
  block : ∀ b B, bl[b]? = some B → BlockOk R bl b B

/-! ### Live -/
/-- is r live at a place of block b: -1 ahead of its phis, i ahead of instruction i, their number: ahead of the end, one more: behind it -/
inductive LiveS (bl : List LBlock) (r : Nat) : Nat → Int → Prop
  | phi {b : Nat} {B : LBlock} : bl[b]? = some B → (∀ p ∈ B.phis, p.dst ≠ r) → LiveS bl r b 0 → LiveS bl r b (-1)
  | use {b i : Nat} {B : LBlock} {x : LIns} : bl[b]? = some B → B.list[i]? = some x → namesR (usesOf x) r = true → LiveS bl r b i
  | go {b i : Nat} {B : LBlock} {x : LIns} : bl[b]? = some B → B.list[i]? = some x → x.dst ≠ r → LiveS bl r b (i + 1 : Nat) → LiveS bl r b i
  | on {b : Nat} {B : LBlock} : bl[b]? = some B → namesR [B.on] r = true → LiveS bl r b B.list.length
  | take {b : Nat} {B : LBlock} {j : Int} {t : Nat} : bl[b]? = some B → (j = B.list.length ∨ j = B.list.length + 1) → (t : Int) ∈ B.to → takesR bl t b r = true → LiveS bl r b j
  | jump {b : Nat} {B : LBlock} {j : Int} {t : Nat} : bl[b]? = some B → (j = B.list.length ∨ j = B.list.length + 1) → (t : Int) ∈ B.to → LiveS bl r t (-1) → LiveS bl r b j

/-- live behind block b, where what is live ahead of each block is told by I -/
def Beh (bl : List LBlock) (I : Nat → Nat → Prop) (b r : Nat) : Prop := ∃ t : Nat, (t : Int) ∈ toOf bl b ∧ (takesR bl t b r = true ∨ I t r)
/-- live ahead of instruction i -/
def Suf (l : List LIns) (on : LVal) (P : Nat → Prop) (r : Nat) : Prop := match l with
  | [] => namesR [on] r = true ∨ P r
  | x :: l => namesR (usesOf x) r = true ∨ (x.dst ≠ r ∧ Suf l on P r)
/-- live ahead of a block -/
def Head (bl : List LBlock) (I : Nat → Nat → Prop) (b r : Nat) : Prop := ∃ B, bl[b]? = some B ∧ (∀ p ∈ B.phis, p.dst ≠ r) ∧ Suf B.list B.on (Beh bl I b) r
theorem Beh.mono {bl : List LBlock} {I J : Nat → Nat → Prop} (h : ∀ t r, I t r → J t r) {b r : Nat} (k : Beh bl I b r) : Beh bl J b r := by
  obtain ⟨t, h1, h2⟩ := k
  exact ⟨t, h1, h2.imp id (h t r)⟩
theorem Suf.mono {on : LVal} {P Q : Nat → Prop} (h : ∀ r, P r → Q r) : ∀ {l : List LIns} {r : Nat}, Suf l on P r → Suf l on Q r
  | [], r, k => k.imp id (h r)
  | _ :: _, _, k => k.imp id fun ⟨h1, h2⟩ => ⟨h1, Suf.mono h h2⟩
theorem Suf.congr {on : LVal} {P Q : Nat → Prop} (h : ∀ r, P r ↔ Q r) {l : List LIns} {r : Nat} : Suf l on P r ↔ Suf l on Q r := ⟨Suf.mono fun r => (h r).1, Suf.mono fun r => (h r).2⟩
theorem Head.mono {bl : List LBlock} {I J : Nat → Nat → Prop} (h : ∀ t r, I t r → J t r) {b r : Nat} (k : Head bl I b r) : Head bl J b r := by
  obtain ⟨B, h1, h2, h3⟩ := k
  exact ⟨B, h1, h2, Suf.mono (fun r => Beh.mono h) h3⟩
/-- what is computed from live sets is live -/
theorem beh_live {bl : List LBlock} {I : Nat → Nat → Prop} (h : ∀ t r, I t r → LiveS bl r t (-1)) {b r : Nat} {B : LBlock} (hB : bl[b]? = some B) {j : Int} (hj : j = B.list.length ∨ j = B.list.length + 1) (k : Beh bl I b r) : LiveS bl r b j := by
  obtain ⟨t, h1, h2⟩ := k
  rw [toOf_get hB] at h1
  rcases h2 with h2 | h2
  · exact .take hB hj h1 h2
  · exact .jump hB hj h1 (h t r h2)
theorem suf_live {bl : List LBlock} {b r : Nat} {B : LBlock} (hB : bl[b]? = some B) {P : Nat → Prop} (hP : P r → LiveS bl r b B.list.length) : ∀ (l : List LIns) (i : Nat), B.list.drop i = l → Suf l B.on P r → i ≤ B.list.length → LiveS bl r b i
  | [], i, hd, k, hle => by
    have hi : i = B.list.length := by
      have := List.drop_eq_nil_iff.1 hd
      omega
    subst hi
    exact k.elim (fun h => .on hB h) hP
  | x :: l, i, hd, k, hle => by
    have hlt : i < B.list.length := by
      by_cases h : i < B.list.length
      · exact h
      · rw [List.drop_eq_nil_of_le (by omega)] at hd; cases hd
    have hx : B.list[i]? = some x := by
      have := congrArg (fun l => l[0]?) hd
      simpa using this
    have hd' : B.list.drop (i + 1) = l := by
      have := congrArg (List.drop 1) hd
      simpa [List.drop_drop] using this
    rcases k with k | ⟨k1, k2⟩
    · exact .use hB hx k
    · exact .go hB hx k1 (suf_live hB hP l (i + 1) hd' k2 (by omega))
theorem head_live {bl : List LBlock} {I : Nat → Nat → Prop} (h : ∀ t r, I t r → LiveS bl r t (-1)) {b r : Nat} (k : Head bl I b r) : LiveS bl r b (-1) := by
  obtain ⟨B, hB, h2, h3⟩ := k
  exact .phi hB h2 (suf_live hB (fun hP => beh_live h hB (.inl rfl) hP) B.list 0 rfl h3 (Nat.zero_le _))
/-- what is closed holds all that is live -/
theorem live_closed {bl : List LBlock} {I : Nat → Nat → Prop} {r : Nat} (h : ∀ b, Head bl I b r → I b r) {b : Nat} {j : Int} (k : LiveS bl r b j) :
    ∀ B, bl[b]? = some B → (j = -1 → I b r) ∧ (∀ i : Nat, j = i → i ≤ B.list.length → Suf (B.list.drop i) B.on (Beh bl I b) r) ∧ (j = B.list.length + 1 → Beh bl I b r) := by
  induction k with
  | @phi b B hB hp _ ih =>
    intro B' hB'
    rw [hB] at hB'; cases hB'
    have h1 := (ih B hB).2.1 0 rfl (Nat.zero_le _)
    exact ⟨fun _ => h b ⟨B, hB, hp, h1⟩, fun i hi => by omega, fun hj => by omega⟩
  | @use b i B x hB hx hn =>
    intro B' hB'
    rw [hB] at hB'; cases hB'
    have hlt := (List.getElem?_eq_some_iff.1 hx).1
    refine ⟨fun e => by omega, fun i' hi' _ => ?_, fun hj => by omega⟩
    have : i' = i := by omega
    subst this
    rw [List.drop_eq_getElem_cons hlt, show B.list[i'] = x from (List.getElem?_eq_some_iff.1 hx).2]
    exact .inl hn
  | @go b i B x hB hx hd _ ih =>
    intro B' hB'
    rw [hB] at hB'; cases hB'
    have hlt := (List.getElem?_eq_some_iff.1 hx).1
    refine ⟨fun e => by omega, fun i' hi' _ => ?_, fun hj => by omega⟩
    have : i' = i := by omega
    subst this
    rw [List.drop_eq_getElem_cons hlt, show B.list[i'] = x from (List.getElem?_eq_some_iff.1 hx).2]
    exact .inr ⟨hd, (ih B hB).2.1 (i' + 1) rfl (by omega)⟩
  | @on b B hB hn =>
    intro B' hB'
    rw [hB] at hB'; cases hB'
    refine ⟨fun e => by omega, fun i' hi' _ => ?_, fun hj => by omega⟩
    have : i' = B.list.length := by omega
    subst this
    rw [List.drop_length]
    exact .inl hn
  | @take b B j t hB hj ht hk =>
    intro B' hB'
    rw [hB] at hB'; cases hB'
    have hb : Beh bl I b r := ⟨t, by rw [toOf_get hB]; exact ht, .inl hk⟩
    refine ⟨fun e => by omega, fun i' hi' hle => ?_, fun _ => hb⟩
    have : i' = B.list.length := by omega
    subst this
    rw [List.drop_length]
    exact .inr hb
  | @jump b B j t hB hj ht _ ih =>
    intro B' hB'
    rw [hB] at hB'; cases hB'
    have hb : Beh bl I b r := by
      refine ⟨t, by rw [toOf_get hB]; exact ht, .inr ?_⟩
      cases hT : bl[t]? with
      | some T => exact (ih T hT).1 rfl
      | none =>
        rename_i hl
        cases hl with
        | phi hB2 => rw [hT] at hB2; cases hB2
        | take hB2 => rw [hT] at hB2; cases hB2
        | jump hB2 => rw [hT] at hB2; cases hB2
    refine ⟨fun e => by omega, fun i' hi' hle => ?_, fun _ => hb⟩
    have : i' = B.list.length := by omega
    subst this
    rw [List.drop_length]
    exact .inr hb
end Go.Proofs.YtbmnkjaelfjlhaaDoor


/- From the check's facts to what the live sets lean on; the sets as lists. -/
namespace Go.Proofs.YtbmnkjaelfjlhaaDoor
open Go Go.RowKit

/-! ### Predecessors -/
theorem aheadIn_get (i t : Nat) : ∀ (l : List Int) (rows : List (List Int)), (∀ z ∈ l, 0 ≤ z) → (l.foldl (aheadIn i) rows)[t]? = rows[t]?.map (· ++ (l.filter fun z : Int => decide (z = (t : Int))).map fun _ => (i : Int))
  | [], rows, _ => by
    simp only [List.foldl_nil, List.filter_nil, List.map_nil, List.append_nil]
    cases rows[t]? <;> rfl
  | z :: l, rows, h => by
    rw [List.foldl_cons, aheadIn_get i t l _ fun y hy => h y (List.mem_cons_of_mem _ hy)]
    have hz := h z (by simp)
    unfold aheadIn
    rw [List.getElem?_modify]
    by_cases e : z.toNat = t
    · have e2 : z = t := by omega
      rw [e]
      cases rows[t]? with
      | none => simp
      | some r => simp [e2]
    · have e2 : ¬ z = t := by omega
      cases hr : rows[t]? with
      | none => simp
      | some r => simp [e, e2]
theorem filter_one {l : List Int} (hn : l.Nodup) (t : Int) : l.filter (fun z : Int => decide (z = t)) = if t ∈ l then [t] else [] := by
  induction l with
  | nil => simp
  | cons z l ih =>
    rw [List.nodup_cons] at hn
    have := ih hn.2
    by_cases e : z = t
    · subst e
      rw [List.filter_cons_of_pos (by simp), this, if_neg hn.1, if_pos (by simp)]
    · rw [List.filter_cons_of_neg (by simpa using e), this]
      by_cases h : t ∈ l
      · rw [if_pos h, if_pos (List.mem_cons_of_mem _ h)]
      · rw [if_neg h, if_neg (by simp only [List.mem_cons, not_or]; exact ⟨fun h => e h.symm, h⟩)]
theorem aheadTo_get {bl : List LBlock} (hok : GoodB bl) (hto : ∀ (b : Nat) (B : LBlock), bl[b]? = some B → B.to.Nodup) {t : Nat} (ht : t < bl.length) : ∀ i, i ≤ bl.length → (aheadTo bl i)[t]? = some (((List.range i).filter fun i => decide ((t : Int) ∈ toOf bl i)).map fun x : Nat => (x : Int))
  | 0, _ => by simp [aheadTo, ht]
  | i + 1, hi => by
    obtain ⟨B, hB⟩ : ∃ B, bl[i]? = some B := ⟨_, List.getElem?_eq_getElem (by omega)⟩
    simp only [aheadTo, hB]
    rw [aheadIn_get i t _ _ fun z hz => ((hok B (List.mem_of_getElem? hB)).2 z hz).1, aheadTo_get hok hto ht i (by omega), filter_one (hto i B hB), List.range_succ, List.filter_append, List.map_append]
    simp only [Option.map_some, Option.some.injEq]
    congr 1
    by_cases h : (t : Int) ∈ B.to
    · rw [if_pos h]; simp [toOf_get hB, h]
    · rw [if_neg h]; simp [toOf_get hB, h]
theorem aheadL_get {bl : List LBlock} (hok : GoodB bl) (hto : ∀ (b : Nat) (B : LBlock), bl[b]? = some B → B.to.Nodup) {t : Nat} (ht : t < bl.length) : (aheadL bl)[t]? = some ((preds bl t).map fun x : Nat => (x : Int)) := aheadTo_get hok hto ht bl.length (Nat.le_refl _)

/-! ### What the check tells -/
theorem valErr_ok {R : Nat} {v : LVal} (h : valErr R v = 0) : ValOk R v := by
  intro hr
  unfold valErr within at h
  rw [hr] at h
  by_cases h1 : 0 ≤ v.n
  · by_cases h2 : v.n ≤ (R : Int) - 1
    · exact ⟨h1, by omega⟩
    · simp [h2] at h
  · simp [h1] at h
theorem dstErr_ok {R : Nat} {n : Int} (h : dstErr R n = 0) : 0 ≤ n ∧ n < R := by
  unfold dstErr within at h
  by_cases h1 : 0 ≤ n
  · by_cases h2 : n ≤ (R : Int) - 1
    · exact ⟨h1, by omega⟩
    · simp [h2] at h
  · simp [h1] at h
theorem at0_all {α : Type} {f : α → Int} {l : List α} (h : (firstI (at0 l f) l.length).1 = 0) : ∀ x ∈ l, f x = 0 := fun x hx => by
  obtain ⟨j, hj⟩ := List.getElem?_of_mem hx
  have := firstI_zero h j (List.getElem?_eq_some_iff.1 hj).1
  simpa [at0, hj] using this
theorem insErr_ok {fs : List LFunc} {R : Nat} {x : LIns} (h : insErr fs R x = 0) : InsOk R x := by
  unfold insErr at h
  split at h
  · cases h
  rename_i h1
  split at h
  · cases h
  rename_i h2
  split at h
  · rename_i h3
    simp only [Bool.and_eq_true, Bool.not_eq_true', decide_eq_false_iff_not] at h3
    exact absurd h h3.2
  rename_i h3
  split at h
  · rename_i h4; exact absurd h h4
  rename_i h4
  split at h
  · rename_i h5; exact absurd h h5
  rename_i h5
  have hop : 1 ≤ x.op ∧ x.op ≤ 22 := by simpa [within] using h1
  simp only [strayB, Bool.or_eq_true, Bool.and_eq_true, Bool.not_eq_true', decide_eq_false_iff_not, decide_eq_true_eq, not_or, not_and, Decidable.not_not, Bool.not_eq_false] at h2
  simp only [ne_eq, Decidable.not_not] at h4 h5
  have harg : x.op ≠ 20 → x.args = [] := fun e => by
    have := (h2.2 e).2
    exact List.eq_nil_of_length_eq_zero (by omega)
  refine ⟨hop, harg, fun hd => ?_, fun v hv => ?_⟩
  · by_cases hs : (shape x.op).1 = true
    · simp only [Bool.and_eq_true, Bool.not_eq_true', decide_eq_false_iff_not, hs, true_and, not_and, Decidable.not_not, Bool.and_eq_false_iff] at h3
      have := h3 (by
        by_cases e : x.op = 20
        · right; omega
        · left; exact e)
      exact (dstErr_ok this).2
    · have := h2.1.1.1 (by simpa using hs)
      omega
  · unfold valsOf at hv
    rcases List.mem_append.1 hv with hv | hv
    · split at hv
      · simp only [List.mem_singleton] at hv; subst hv; exact valErr_ok h4
      · cases hv
    · rcases List.mem_append.1 hv with hv | hv
      · split at hv
        · simp only [List.mem_singleton] at hv; subst hv; exact valErr_ok h5
        · cases hv
      · unfold callErr at h
        by_cases e : x.op = 20
        · rw [if_neg (by simpa using e)] at h
          split at h
          · cases h
          · split at h
            · cases h
            · exact valErr_ok (at0_all h v hv)
        · rw [harg e] at hv; cases hv
theorem endErr_ok {n R : Nat} {b : LBlock} (h : endErr n R b = 0) : ValOk R b.on ∧ b.to.Nodup := by
  unfold endErr endE at h
  split at h
  · cases h
  rename_i h1
  split at h
  · cases h
  rename_i h2
  split at h
  · cases h
  split at h
  · cases h
  rename_i h4
  refine ⟨valErr_ok h, ?_⟩
  simp only [within, Bool.not_eq_true', Bool.and_eq_false_iff, decide_eq_false_iff_not, not_or, Decidable.not_not] at h1
  simp only [ne_eq, Decidable.not_not] at h2
  simp only [Bool.or_eq_true, Bool.and_eq_true, decide_eq_true_eq, not_or, not_and] at h4
  have h5 := h4.1
  generalize b.to = l at h2 h5
  match l, h2, h5 with
  | [], _, _ => simp
  | [x], _, _ => simp
  | [x, y], h2, h5 =>
    have := h5 (by simp at h2; omega)
    simp at this
    simp [this]
  | x :: y :: z :: l, h2, _ => simp at h2; omega
theorem func_okF {fs : List LFunc} {f : LFunc} {R : Nat} (hR : f.regs = R) (h : bodyErr fs f = 0) : FuncOk R f.blocks := by
  have hg := bodyErr_good h
  unfold bodyErr at h
  split at h
  · rename_i h1; exact absurd h h1
  rename_i h1
  have hend := at0_all (by simpa using h1 : (firstI (at0 f.blocks (endErr f.blocks.length f.regs)) f.blocks.length).1 = 0)
  rw [hR] at hend
  have hto : ∀ (b : Nat) (B : LBlock), f.blocks[b]? = some B → B.to.Nodup := fun b B hB => (endErr_ok (hend B (List.mem_of_getElem? hB))).2
  refine ⟨hg, fun b B hB => ?_⟩
  have hb := firstI_zero h b (List.getElem?_eq_some_iff.1 hB).1
  simp only [blockErr, hB] at hb
  split at hb
  · rename_i h2; exact absurd hb h2
  rename_i h2
  have hphi := at0_all (by simpa using h2 : (firstI (at0 B.phis (phiErr f.regs f.blocks b)) B.phis.length).1 = 0)
  have hins := at0_all hb
  rw [hR] at hphi hins
  refine ⟨fun p hp => ?_, fun x hx => insErr_ok (hins x hx), (endErr_ok (hend B (List.mem_of_getElem? hB))).1, hto b B hB⟩
  have hp' := hphi p hp
  unfold phiErr phiE at hp'
  split at hp'
  · cases hp'
  split at hp'
  · rename_i h3; exact absurd hp' h3
  rename_i h3
  split at hp'
  · cases hp'
  rename_i h4
  rw [aheadL_get hg hto (List.getElem?_eq_some_iff.1 hB).1] at h4
  simp only [Option.getD_some, List.length_map, ne_eq, Decidable.not_not] at h4
  exact ⟨dstErr_ok (by simpa using h3), by omega, fun v hv => valErr_ok (at0_all hp' v hv)⟩
theorem check_head {u : LUnit} (h : (checkL u).1 = 0) {k : Nat} {X : LFunc} (hX : u.funcs[k]? = some X) : 0 ≤ X.params ∧ X.params ≤ X.regs ∧ X.regs ≤ 100 := by
  unfold checkL at h
  split at h
  · cases h
  · split at h
    · rename_i h2; exact absurd h h2
    · split at h
      · rename_i h2; exact absurd h h2
      · rename_i h3
        have hz := firstI_zero (by simpa using h3)
        have := hz k (List.getElem?_eq_some_iff.1 hX).1
        simp only [headAt, at0, hX, headErr] at this
        split at this
        · cases this
        split at this
        · cases this
        split at this
        · cases this
        rename_i h4
        simp only [within, Bool.or_eq_true, Bool.not_eq_true', Bool.and_eq_false_iff, decide_eq_false_iff_not, not_or, Decidable.not_not] at h4
        omega
/-- a function of a unit that passes the check -/
theorem check_func {u : LUnit} (h : (checkL u).1 = 0) {k : Nat} {X : LFunc} (hX : u.funcs[k]? = some X) : ∃ R : Nat, X.regs = R ∧ R ≤ 100 ∧ FuncOk R X.blocks := by
  have h1 := check_head h hX
  refine ⟨X.regs.toNat, by omega, by omega, func_okF (by omega) (check_bodies h X (List.mem_of_getElem? hX))⟩

/-! ### The sets as lists -/
theorem has_suf {R : Nat} {on : LVal} {P : Nat → Prop} {s : List Bool} (hs : s.length = R) (h0 : ∀ r, has s r ↔ Suf [] on P r) : ∀ l : List LIns, (∀ x ∈ l, InsOk R x) → (l.reverse.foldl insV s).length = R ∧ ∀ r, has (l.reverse.foldl insV s) r ↔ Suf l on P r
  | [], _ => ⟨hs, h0⟩
  | x :: l, h => by
    have ih := has_suf hs h0 l fun y hy => h y (List.mem_cons_of_mem _ hy)
    have hx := h x (by simp)
    rw [List.reverse_cons, List.foldl_append]
    simp only [List.foldl_cons, List.foldl_nil]
    refine ⟨by rw [insV_length]; exact ih.1, fun r => ?_⟩
    rw [has_insV (by rw [ih.1]; exact hx), ih.2 r]
    simp only [Suf]
    rw [uses_vals hx]
theorem has_phis {r : Nat} : ∀ (l : List LPhi) (s : List Bool), (∀ p ∈ l, 0 ≤ p.dst) → (has (l.foldl (fun s p => s.set p.dst.toNat false) s) r ↔ (has s r ∧ ∀ p ∈ l, p.dst ≠ r))
  | [], s, _ => by simp
  | p :: l, s, h => by
    have hp := h p (by simp)
    rw [List.foldl_cons, has_phis l _ fun q hq => h q (List.mem_cons_of_mem _ hq), has_set_false]
    simp only [List.mem_cons, forall_eq_or_imp, and_assoc]
    constructor
    · rintro ⟨h1, h2, h3⟩; exact ⟨h1, fun e => h2 (by omega), h3⟩
    · rintro ⟨h1, h2, h3⟩; exact ⟨h1, fun e => h2 (by omega), h3⟩
/-- live ahead of a block by what is live behind it -/
def headV (B : LBlock) (s : List Bool) : List Bool := B.phis.foldl (fun s p => s.set p.dst.toNat false) (B.list.reverse.foldl insV (takeV s B.on))
theorem has_headV {R : Nat} {bl : List LBlock} {b : Nat} {B : LBlock} {I : Nat → Nat → Prop} (hf : FuncOk R bl) (hB : bl[b]? = some B) {s : List Bool} (hs : s.length = R) (h : ∀ r, has s r ↔ Beh bl I b r) (r : Nat) : has (headV B s) r ↔ Head bl I b r := by
  have ho := hf.block b B hB
  unfold headV
  have h1 : ∀ r, has (takeV s B.on) r ↔ Suf [] B.on (Beh bl I b) r := fun r => by
    rw [has_takeV (by rw [hs]; exact ho.on), h r]
    simp only [Suf, namesR, List.any_cons, List.any_nil, Bool.or_false, Bool.and_eq_true, decide_eq_true_eq]
    exact or_comm
  have h2 := has_suf (by rw [takeV_length]; exact hs) h1 B.list ho.list
  rw [has_phis _ _ fun p hp => (ho.phis p hp).dst.1, h2.2 r]
  constructor
  · rintro ⟨h3, h4⟩; exact ⟨B, hB, h4, h3⟩
  · rintro ⟨B', hB', h3, h4⟩
    rw [hB] at hB'; cases hB'
    exact ⟨h4, h3⟩
end Go.Proofs.YtbmnkjaelfjlhaaDoor


/- slices.Backward over instructions, core.Vals: the iterators' contracts. -/
namespace Go.Proofs.YtbmnkjaelfjlhaaDoor
open Go Go.RowKit Go.Shelf
attribute [local go_sem] Oper.semAt_some

/-- the pairs that have come after k rounds over l, from its end on -/
def downL (l : List (List Value)) (k : Nat) : List (Int × List Value) := (List.range k).map fun (j : Nat) => (((l.length - 1 - j : Nat) : Int), l[l.length - 1 - j]?.getD [])
theorem downL_length (l : List (List Value)) (k : Nat) : (downL l k).length = k := by simp [downL]

set_option maxRecDepth 100000 in
set_option maxHeartbeats 2000000 in
theorem backIns1_in (n : Nat) (hn : 1 ≤ n) {α : Type} (enc : α → Int × List Value) (l Bs b off cap : Nat) (K : Nat → Prop) (Kp : World → World → Prop) (hKr : ∀ W, Kp W W) (hKt : ∀ A B C, Kp A B → Kp B C → Kp A C) (hKc : ∀ A B, Kp A B → ∀ p v, K p.block → A.cell? p = some v → B.cell? p = some v) (zs : List (List Value)) (xs : List α) (hxs : xs.map enc = downL zs zs.length) (hlen : zs.length ≤ 100000) (hb : zs ≠ [] → K b) (hBsK : K Bs) (J Jx : List α → World → Prop) (a : Option Addr) (ha : zs ≠ [] → a = some ⟨b, off, none⟩)
    (hY : ∀ pre x W, J pre W → pre.length < zs.length → YieldAt Fence.wide (n - 1) Tryd.prog l #[.int .i64 (enc x).1, .agg (enc x).2.toArray] W fun e W' =>
      (e = .returned (.bool true) ∧ J (pre ++ [x]) W' ∧ Kp W W') ∨ (e = .returned (.bool false) ∧ Jx (pre ++ [x]) W'))
    (W : World) (hBs : W.cell? ⟨Bs, 0, none⟩ = some (.slice a zs.length cap)) (h8 : ∀ z ∈ zs, z.length = 8) (hc : ∀ m z, zs[m]? = some z → ∀ j v, z[j]? = some v → W.cell? ⟨b, off + m * 8 + j, none⟩ = some v) (h0 : J [] W) :
    CallsIn Fence.wide n Tryd.prog 143 #[.func (.yield l) #[] #[], .pointer (some ⟨Bs, 0, none⟩)] W fun e W' => (∃ v, e = .returned v) ∧
      ((∃ ys, ys = xs ∧ J ys W') ∨ (∃ pre, pre <+: xs ∧ Jx pre W')) := by
  refine callsIn_of_wp Tryd.func143 rfl trivial ?_ rfl
  simp only [Tryd.ntmps143, List.size_toArray, List.length_cons, List.length_nil, Nat.reduceAdd, Nat.reduceSub, Array.replicate_succ, Array.replicate_zero, List.push_toArray, List.append_toArray, List.nil_append, List.cons_append]
  have hxl : xs.length = zs.length := by have := congrArg List.length hxs; rwa [List.length_map, downL_length] at this
  have hwr : wrap64 ((zs.length : Int) - 1) = (zs.length : Int) - 1 := wrap64_in' _ (by omega) (by omega)
  gi_wp2
  gi_loopw [3] (fun i wr => ∃ m : Nat, m ≤ zs.length ∧ i = .int .i64 ((m : Int) - 1) ∧ J (xs.take (zs.length - m)) wr ∧ Kp W wr) (fun i _ => (intOf i + 1).toNat)
  case atStart => exact ⟨zs.length, Nat.le_refl _, by first | rfl | simp [hwr], by simpa using h0, hKr _⟩
  case round =>
    obtain ⟨m, hm, rfl, hJs, hk⟩ := hrel
    cases m with
    | zero =>
      gi_wp2
      go_end0
      exact ⟨⟨_, rfl⟩, .inl ⟨xs, rfl, by rw [Nat.sub_zero, List.take_of_length_le (by omega)] at hJs; exact hJs⟩⟩
    | succ m =>
      have hne : zs ≠ [] := by rintro rfl; simp at hm
      obtain rfl := ha hne
      rw [show (((m + 1 : Nat) : Int) - 1) = (m : Int) by omega]
      obtain ⟨z, hz⟩ : ∃ z, zs[m]? = some z := ⟨_, List.getElem?_eq_getElem (by omega)⟩
      have hz8 := h8 z (List.mem_of_getElem? hz)
      obtain ⟨c0, c1, c2, c3, c4, c5, c6, c7, rfl⟩ : ∃ c0 c1 c2 c3 c4 c5 c6 c7, z = [c0, c1, c2, c3, c4, c5, c6, c7] := by
        match z, hz8 with
        | [c0, c1, c2, c3, c4, c5, c6, c7], _ => exact ⟨c0, c1, c2, c3, c4, c5, c6, c7, rfl⟩
      have hc0 : wr.cell? ⟨b, off + m * 8, none⟩ = some c0 := hKc _ _ hk ⟨b, off + m * 8, none⟩ _ (hb hne) (hc m _ hz 0 c0 rfl)
      have hc1 : wr.cell? ⟨b, off + m * 8 + 1, none⟩ = some c1 := hKc _ _ hk ⟨b, off + m * 8 + 1, none⟩ _ (hb hne) (hc m _ hz 1 c1 rfl)
      have hc2 : wr.cell? ⟨b, off + m * 8 + 2, none⟩ = some c2 := hKc _ _ hk ⟨b, off + m * 8 + 2, none⟩ _ (hb hne) (hc m _ hz 2 c2 rfl)
      have hc3 : wr.cell? ⟨b, off + m * 8 + 3, none⟩ = some c3 := hKc _ _ hk ⟨b, off + m * 8 + 3, none⟩ _ (hb hne) (hc m _ hz 3 c3 rfl)
      have hc4 : wr.cell? ⟨b, off + m * 8 + 4, none⟩ = some c4 := hKc _ _ hk ⟨b, off + m * 8 + 4, none⟩ _ (hb hne) (hc m _ hz 4 c4 rfl)
      have hc5 : wr.cell? ⟨b, off + m * 8 + 5, none⟩ = some c5 := hKc _ _ hk ⟨b, off + m * 8 + 5, none⟩ _ (hb hne) (hc m _ hz 5 c5 rfl)
      have hc6 : wr.cell? ⟨b, off + m * 8 + 6, none⟩ = some c6 := hKc _ _ hk ⟨b, off + m * 8 + 6, none⟩ _ (hb hne) (hc m _ hz 6 c6 rfl)
      have hc7 : wr.cell? ⟨b, off + m * 8 + 7, none⟩ = some c7 := hKc _ _ hk ⟨b, off + m * 8 + 7, none⟩ _ (hb hne) (hc m _ hz 7 c7 rfl)
      have hBx : wr.cell? ⟨Bs, 0, none⟩ = some (.slice (some ⟨b, off, none⟩) zs.length cap) := hKc _ _ hk ⟨Bs, 0, none⟩ _ hBsK hBs
      have hlt : m < zs.length := by omega
      obtain ⟨x, hx⟩ : ∃ x, xs[zs.length - (m + 1)]? = some x := ⟨_, List.getElem?_eq_getElem (by omega)⟩
      have hex : enc x = ((m : Int), [c0, c1, c2, c3, c4, c5, c6, c7]) := by
        have h1 : (xs.map enc)[zs.length - (m + 1)]? = some (enc x) := by rw [List.getElem?_map, hx]; rfl
        rw [hxs, downL, List.getElem?_map, List.getElem?_range (by omega)] at h1
        simp only [Option.map_some, Option.some.injEq] at h1
        rw [← h1, show zs.length - 1 - (zs.length - (m + 1)) = m by omega, hz]; rfl
      have hY1 := hY _ x wr hJs (by rw [List.length_take]; omega)
      rw [hex] at hY1
      have htk : xs.take (zs.length - (m + 1)) ++ [x] = xs.take (zs.length - m) := by
        rw [show zs.length - m = (zs.length - (m + 1)) + 1 by omega, List.take_add_one, hx]; rfl
      rw [htk] at hY1
      obtain ⟨fn, tmps, assign, body, hy, hR⟩ := hY1
      dsimp only at hy
      have hwr2 : wrap64 ((m : Int) - 1) = (m : Int) - 1 := wrap64_in' _ (by omega) (by omega)
      gi_wp2
      refine hR.mono ?_
      rintro e W3 (⟨rfl, hJ3, hk3⟩ | ⟨rfl, hJx3⟩)
      · gi_wp2
        go_roundw
        case rel => exact ⟨m, by omega, by first | rfl | simp [hwr2], hJ3, hKt _ _ _ hk hk3⟩
        case measure => simp [intOf]
      · gi_wp2
        refine bodyPost_ret (results_none rfl _ _ _) rfl ?_
        exact ⟨⟨_, rfl⟩, .inr ⟨_, List.take_prefix _ _, hJx3⟩⟩
end Go.Proofs.YtbmnkjaelfjlhaaDoor


/- core.Vals: the iterator over the values of an instruction. -/
namespace Go.Proofs.YtbmnkjaelfjlhaaDoor
open Go Go.RowKit

section
variable {P : Program} {N : Nat} {ds : List Deferred} {S : Nat → Prop} {w0 : World} {L : List (Nat × Value)} {H : List Ent} {ops : Array Oper} {rest : List Oper} {Q : Exit → Act → World → Prop} {p : Act → World → Prop}
/-- from here on the world as it is -/
theorem rebase {a : Act} {w : World} (hF : Fr N ds L a) (h : G N ds NoS w L [] p) : p a w := h a w ⟨hF, Wd.nil NoS w⟩
/-- a call of yield -/
theorem g_yield {d ty l m : Nat} {args : List Operand} {vs : List Value} {tys : Array Nat} {pos : String} {aft : Array Go.Edge} {x : Operand} (R : World → Value → World → Prop) [hf : Ev L x (.func (.yield l) #[] #[])] [hx : Evs L args vs] (hd : okPut d N L = true)
    (hc : ∀ w, Wd S w0 H w → YieldAt (FW none) m P l vs.toArray w fun e w' => ∃ v, e = .returned v ∧ R w v w')
    (k : ∀ v w w', Wd S w0 H w → R w v w' → ∀ a, Fr N ds ((d, v) :: L) a → wpListIn (FW none) 0 P ops Q rest a w') : G N ds S w0 L H (wpListIn (FW none) 0 P ops Q (⟨some d, .call { callee := .value x, args := args.toArray, argTypes := tys }, ty, pos, aft, none⟩ :: rest)) := by
  intro a w hS
  obtain ⟨fn, tmps, assign, body, hy, hR⟩ := hc w hS.wd
  refine wpListIn_plain rfl fun K hK => ?_
  refine ⟨fun _ _ => trivial, ?_⟩
  rw [semAt_ne _ _ _ (fun _ h => by cases h)]
  have hr : (execOp a.eval ⟨some d, .call { callee := .value x, args := args.toArray, argTypes := tys }, ty, pos, aft, none⟩).run P w = .ok (.round l fn tmps assign body) w := by
    simp [execOp, resolve, hf.eq _ _ _ hS.fr, Deferred.ofValue, invoke, hx.eq _ _ _ hS.fr, hy]
  rw [hr]
  refine ⟨fun h => (by cases h), ?_⟩
  have hR0 : RoundIn (FW none) (0 - 1) P l fn tmps assign body w fun e w' => ∃ v, e = .returned v ∧ R w v w' := ⟨hR.1, fun c cs _ => hR.2 c cs (fun d hd => by cases hd)⟩
  refine hR0.mono fun e w' ⟨v, he, hv⟩ => ?_
  subst he
  exact hK _ _ (k v w w' hS.wd hv _ (hS.fr.putOk hd v))
/-- once slot d is written, M holds -/
theorem g_joinM {ro : Option Nat} {l l1 l2 : List Oper} (d : Nat) (M : Act → World → Prop) [hs : SplitTo l d l1 l2] (h1 : G N ds S w0 L H (wpListIn (FW ro) 0 P ops (Exit.then M Q) l1)) (h2 : ∀ a w, M a w → wpListIn (FW ro) 0 P ops Q l2 a w) : G N ds S w0 L H (wpListIn (FW ro) 0 P ops Q l) := fun a w hS => by
  obtain ⟨n, e1, e2⟩ := hs.eq
  exact wpl_split (M := M) n (fun a w h => by rw [e2]; exact h2 a w h) (by rw [e1]; exact h1 a w hS)
end
theorem CellsAt.mono {w w' : World} (h : ∀ p v, w.cell? p = some v → w'.cell? p = some v) {b o : Nat} {cs : List Value} (hc : CellsAt w b o cs) : CellsAt w' b o cs := fun j v hj => h _ _ (hc j v hj)
theorem SlAt.mono {α : Type} {V : World → α → List Value → Prop} {w w' : World} (hV : ∀ x cs, V w x cs → V w' x cs) (h : ∀ p v, w.cell? p = some v → w'.cell? p = some v) {v : Value} {s : Nat} {l : List α} (hs : SlAt w v s l V) : SlAt w' v s l V := by
  obtain ⟨a, n, c, b, o, h1, h2, h3, hz, h4, h5, h6⟩ := hs
  refine ⟨a, n, c, b, o, h1, h2, h3, hz, h4, h5, fun i x hx => ?_⟩
  obtain ⟨cs, hc, hv⟩ := h6 i x hx
  exact ⟨cs, hc.mono h, hV x cs hv⟩
theorem Chg.cells {w w' : World} (h : Chg NoS w w') : ∀ p v, w.cell? p = some v → w'.cell? p = some v := fun _ _ hc => cell_keep h hc
/-- new memory alone: an iterator's caller does not mind -/
theorem jchg {β : Type} {B : Nat} {J : β → World → Prop} (h : AbidesFrom B J) {s : β} {w w' : World} (hc : Chg NoS w w') (hs : J s w) : J s w' :=
  h s w w' none hs ⟨hc.os, hc.tape, hc.output, hc.size, fun k hk _ => hc.block k hk fun h => h⟩ (fun r e => by cases e)
attribute [local irreducible] wpListIn Code.wpIn Exit.then Exit.inBlock bodyPost wpQuiet wpAnyIn
set_option maxHeartbeats 4000000

theorem vals_c (x : LIns) (xv : Value) (hxv : ∃ a n c, xv = .slice a n c) (w0 : World) :
    Ret Tryd.prog 144 [.agg #[.int .i64 x.op, .int .i64 x.dst, .bool x.a.reg, .int .i64 x.a.n, .bool x.b.reg, .int .i64 x.b.n, .int .i64 x.fn, xv]] w0 fun u w' => ∃ p : Nat, u = .func (.func 161) #[] #[.pointer (some ⟨p, 0, none⟩)] ∧ Wd NoS w0 [Ent.box p [.int .i64 x.op, .int .i64 x.dst, .bool x.a.reg, .int .i64 x.a.n, .bool x.b.reg, .int .i64 x.b.n, .int .i64 x.fn, xv] 71] w' ∧ True := by
  obtain ⟨a, n, c, rfl⟩ := hxv
  refine ret_enter Tryd.func144 rfl Tryd.ntmps144 rfl (Wd.nil NoS w0) ?_
  repeat (first | refine g_op rfl ?_ | refine g_then ?_ | refine g_nil ?_ | refine g_region ?_ | refine g_seq ?_ | refine g_opS rfl ?_ | refine g_box rfl fun _ _ => ?_ | refine g_ret ?_)
  exact g_ret1 rfl fun w hw => ⟨_, rfl, hw, trivial⟩
theorem vals1_c {α : Type} (enc : α → LVal) (x : LIns) (va : Option Addr) (vn vc : Nat) (xs : List α) (hxs : xs.map enc = valsOf x) (hlen : x.args.length ≤ 100000) (l bp : Nat) (own : Nat → Prop) (wz : World) (hsl : SlAt wz (.slice va vn vc) 2 x.args ValV) (hown : ∀ p v, wz.cell? p = some v → ¬ own p.block) (hbp : ¬ own bp) (W : World) (hownW : ∀ b, W.heap.size ≤ b → ¬ own b) (J Jx : List α → World → Prop) (B : Nat) (hJ : AbidesFrom B J) (hJx : AbidesFrom B Jx)
    (hY : ∀ pre y W, J pre W → pre.length < xs.length → YieldAt (FW none) 3 Tryd.prog l #[.agg #[.bool (enc y).reg, .int .i64 (enc y).n]] W fun e W' =>
      (e = .returned (.bool true) ∧ J (pre ++ [y]) W' ∧ KeepX own W W') ∨ (e = .returned (.bool false) ∧ Jx (pre ++ [y]) W'))
    (hz : ∀ p v, wz.cell? p = some v → W.cell? p = some v) (hc : CellsAt W bp 0 [.int .i64 x.op, .int .i64 x.dst, .bool x.a.reg, .int .i64 x.a.n, .bool x.b.reg, .int .i64 x.b.n, .int .i64 x.fn, .slice va vn vc]) (h0 : J [] W) :
    Ret Tryd.prog 161 [.func (.yield l) #[] #[], .pointer (some ⟨bp, 0, none⟩)] W fun _ W' => (∃ ys, ys = xs ∧ J ys W') ∨ (∃ pre, pre <+: xs ∧ Jx pre W') := by
  have hbpi : CellsIs W bp 0 _ := ⟨hc⟩
  refine ret_enter Tryd.func161 rfl Tryd.ntmps161 rfl (Wd.nil NoS W) ?_
  repeat (first | refine g_op rfl ?_ | refine g_region ?_ | refine g_seq ?_)
  refine g_callV rfl (fun w hw => shapes_c x.op w) ?_
  repeat (first | refine g_op rfl ?_ | refine g_then ?_ | refine g_nil ?_ | refine g_region ?_ | refine g_seq ?_ | refine g_alloc rfl fun _ _ => ?_ | refine g_storeAgg ?_)
  rename_i p3 hp3
  have henc : ∀ j v, (valsOf x)[j]? = some v → ∃ y, xs[j]? = some y ∧ enc y = v := fun j v hj => by
    rw [← hxs, List.getElem?_map] at hj
    obtain ⟨y, hy, e⟩ := Option.map_eq_some_iff.1 hj
    exact ⟨y, hy, e⟩
  have hxl : xs.length = (valsOf x).length := by have := congrArg List.length hxs; rwa [List.length_map] at this
  have htk : ∀ j y, xs[j]? = some y → xs.take j ++ [y] = xs.take (j + 1) := fun j y hy => by rw [List.take_add_one, hy]; rfl
  -- one more value
  have step : ∀ j v, (valsOf x)[j]? = some v → ∀ w, J (xs.take j) w → YieldAt (FW none) 3 Tryd.prog l [Value.agg #[.bool v.reg, .int .i64 v.n]].toArray w fun e W' => ∃ u, e = .returned u ∧ ((u = .bool true ∧ J (xs.take (j + 1)) W' ∧ KeepX own w W') ∨ (u = .bool false ∧ Jx (xs.take (j + 1)) W')) := fun j v hj w hJw => by
    obtain ⟨y, hy, rfl⟩ := henc j v hj
    have hlt := (List.getElem?_eq_some_iff.1 hy).1
    have := hY (xs.take j) y w hJw (by rw [List.length_take]; omega)
    rw [htk j y hy] at this
    exact this.mono fun e W' h => h.elim (fun ⟨h1, h2, h3⟩ => ⟨_, h1, .inl ⟨rfl, h2, h3⟩⟩) fun ⟨h1, h2⟩ => ⟨_, h1, .inr ⟨rfl, h2⟩⟩
  have keepW : ∀ w, (∀ p v, wz.cell? p = some v → w.cell? p = some v) → ∀ w', KeepX own w w' → ∀ p v, wz.cell? p = some v → w'.cell? p = some v := fun w h w' hk p v hp => hk.cell (hown p v hp) (h p v hp)
  have keepC : ∀ b cs, ¬ own b → ∀ w, CellsAt w b 0 cs → ∀ w', KeepX own w w' → CellsAt w' b 0 cs := fun b cs hb w h w' hk j v hj => hk.cell hb (h j v hj)
  unfold valsOf at hxl step
  generalize shape x.op = sh at hxl step ⊢
  obtain ⟨s1, sA, sB⟩ := sh
  simp only at hxl step ⊢
  have hn3 : ¬ own p3 := hownW p3 hp3
  refine g_joinM 18 (fun a w => (Fr 41 [] [(18, .bool false), (3, .pointer (some ⟨p3, 0, none⟩)), (0, .func (.yield l) #[] #[]), (1, .pointer (some ⟨bp, 0, none⟩))] a ∧ J (xs.take (if sA then 1 else 0)) w ∧ (∀ p v, wz.cell? p = some v → w.cell? p = some v) ∧ CellsAt w bp 0 [.int .i64 x.op, .int .i64 x.dst, .bool x.a.reg, .int .i64 x.a.n, .bool x.b.reg, .int .i64 x.b.n, .int .i64 x.fn, .slice va vn vc] ∧ CellsAt w p3 0 [.bool s1, .bool sA, .bool sB]) ∨ (Fr 41 [] [(18, .bool true), (0, .func (.yield l) #[] #[]), (1, .pointer (some ⟨bp, 0, none⟩))] a ∧ ∃ pre, pre <+: xs ∧ Jx pre w)) ?_ ?_
  · cases sA
    · repeat (first | refine g_op rfl ?_ | refine g_then ?_ | refine g_nil ?_ | refine g_pass rfl ?_)
      exact fun a w hS => .inl ⟨hS.fr.to (by repeat (first | exact trivial | refine ⟨rfl, ?_⟩)), jchg hJ hS.wd.chg (by simpa using h0), fun p v h => cell_keep hS.wd.chg (hz p v h), hc.keep hS.wd.chg, hS.wd.boxCells p3⟩
    · repeat (first | refine g_op rfl ?_ | refine g_open ?_)
      refine g_yield (m := 3) (fun w v w' => (v = .bool true ∧ J (xs.take 1) w' ∧ KeepX own w w') ∨ (v = .bool false ∧ Jx (xs.take 1) w')) rfl (fun w hw => step 0 x.a rfl w (jchg hJ hw.chg (by simpa using h0))) fun v w w' hw hR a hF => ?_
      rcases hR with ⟨rfl, hJ', hk⟩ | ⟨rfl, hJ'⟩
      · have hb' := keepC bp _ hbp w (hc.keep hw.chg) w' hk
        have h3' := keepC p3 _ hn3 w (hw.boxCells p3) w' hk
        have hz' := keepW w (fun p v h => cell_keep hw.chg (hz p v h)) w' hk
        refine rebase hF ?_
        repeat (first | refine g_op rfl ?_ | refine g_then ?_ | refine g_nil ?_ | refine g_open ?_)
        exact fun a w hS => .inl ⟨hS.fr.to (by repeat (first | exact trivial | refine ⟨rfl, ?_⟩)), jchg hJ hS.wd.chg hJ', fun p v h => cell_keep hS.wd.chg (hz' p v h), hb'.keep hS.wd.chg, h3'.keep hS.wd.chg⟩
      · refine rebase hF ?_
        repeat (first | refine g_op rfl ?_ | refine g_then ?_ | refine g_nil ?_ | refine g_open ?_)
        exact fun a w hS => .inr ⟨hS.fr.to (by repeat (first | exact trivial | refine ⟨rfl, ?_⟩)), _, List.take_prefix _ _, jchg hJx hS.wd.chg hJ'⟩
  intro a w hM
  rcases hM with ⟨hF, hJA, hzA, hbA, h3A⟩ | ⟨hF, pre, hpre, hJA⟩
  case inr =>
    refine rebase hF ?_
    repeat (first | refine g_op rfl ?_ | refine g_then ?_ | refine g_nil ?_ | refine g_pass rfl ?_ | refine g_condT ?_ | refine g_ret ?_ | refine g_thenRet ?_ | refine g_passU rfl ?_)
    exact g_ret0 rfl fun w' hw' => .inr ⟨pre, hpre, jchg hJx hw'.chg hJA⟩
  refine rebase hF ?_
  have hbi : CellsIs w bp 0 _ := ⟨hbA⟩
  have h3i : CellsIs w p3 0 _ := ⟨h3A⟩
  repeat (first | refine g_op rfl ?_ | refine g_open ?_)
  refine g_joinM 28 (fun a w => (Fr 41 [] [(28, .bool false), (0, .func (.yield l) #[] #[]), (1, .pointer (some ⟨bp, 0, none⟩))] a ∧ J (xs.take ((if sA then 1 else 0) + (if sB then 1 else 0))) w ∧ (∀ p v, wz.cell? p = some v → w.cell? p = some v) ∧ CellsAt w bp 0 [.int .i64 x.op, .int .i64 x.dst, .bool x.a.reg, .int .i64 x.a.n, .bool x.b.reg, .int .i64 x.b.n, .int .i64 x.fn, .slice va vn vc]) ∨ (Fr 41 [] [(28, .bool true), (0, .func (.yield l) #[] #[]), (1, .pointer (some ⟨bp, 0, none⟩))] a ∧ ∃ pre, pre <+: xs ∧ Jx pre w)) ?_ ?_
  · cases sB
    · repeat (first | refine g_op rfl ?_ | refine g_then ?_ | refine g_nil ?_ | refine g_open ?_ | refine g_pass rfl ?_)
      exact fun a w2 hS => .inl ⟨hS.fr.to (by repeat (first | exact trivial | refine ⟨rfl, ?_⟩)), jchg hJ hS.wd.chg (by simpa using hJA), fun p v h => cell_keep hS.wd.chg (hzA p v h), hbA.keep hS.wd.chg⟩
    · repeat (first | refine g_op rfl ?_ | refine g_open ?_)
      refine g_yield (m := 3) (fun w v w' => (v = .bool true ∧ J (xs.take ((if sA then 1 else 0) + 1)) w' ∧ KeepX own w w') ∨ (v = .bool false ∧ Jx (xs.take ((if sA then 1 else 0) + 1)) w')) rfl (fun w2 hw => step (if sA then 1 else 0) x.b (by cases sA <;> rfl) w2 (jchg hJ hw.chg hJA)) fun v w2 w' hw hR a hF => ?_
      rcases hR with ⟨rfl, hJ', hk⟩ | ⟨rfl, hJ'⟩
      · have hb' := keepC bp _ hbp w2 (hbA.keep hw.chg) w' hk
        have hz' := keepW w2 (fun p v h => cell_keep hw.chg (hzA p v h)) w' hk
        refine rebase hF ?_
        repeat (first | refine g_op rfl ?_ | refine g_then ?_ | refine g_nil ?_ | refine g_open ?_)
        exact fun a w hS => .inl ⟨hS.fr.to (by repeat (first | exact trivial | refine ⟨rfl, ?_⟩)), jchg hJ hS.wd.chg hJ', fun p v h => cell_keep hS.wd.chg (hz' p v h), hb'.keep hS.wd.chg⟩
      · refine rebase hF ?_
        repeat (first | refine g_op rfl ?_ | refine g_then ?_ | refine g_nil ?_ | refine g_open ?_)
        exact fun a w hS => .inr ⟨hS.fr.to (by repeat (first | exact trivial | refine ⟨rfl, ?_⟩)), _, List.take_prefix _ _, jchg hJx hS.wd.chg hJ'⟩
  intro a w hM
  rcases hM with ⟨hF, hJB, hzB, hbB⟩ | ⟨hF, pre, hpre, hJB⟩
  case inr =>
    refine rebase hF ?_
    repeat (first | refine g_then ?_ | refine g_nil ?_ | refine g_condT ?_ | refine g_ret ?_ | refine g_thenRet ?_)
    exact g_ret0 rfl fun w' hw' => .inr ⟨pre, hpre, jchg hJx hw'.chg hJB⟩
  refine rebase hF ?_
  have hbi2 : CellsIs w bp 0 _ := ⟨hbB⟩
  repeat (first | refine g_op rfl ?_ | refine g_then ?_ | refine g_nil ?_ | refine g_region ?_ | refine g_seq ?_ | refine g_block ?_ | refine g_skip ?_ | refine g_condF ?_)
  generalize hc0 : (if sA = true then 1 else 0) + (if sB = true then 1 else 0) = c0 at hJB
  have hn : vn = x.args.length := by
    obtain ⟨_, _, _, _, _, e, h, _⟩ := hsl
    simp only [Value.slice.injEq] at e
    rw [e.2.1]; exact h
  have hstep : ∀ i v, x.args[i]? = some v → ((if sA = true then [x.a] else []) ++ ((if sB = true then [x.b] else []) ++ x.args))[c0 + i]? = some v := fun i v hi => by
    subst hc0
    cases sA <;> cases sB <;> simp [hi, Nat.add_comm]
  have hxl2 : xs.length = c0 + x.args.length := by
    subst hc0
    rw [hxl]
    cases sA <;> cases sB <;> simp <;> omega
  intro a w1 hS1
  have hJ1 := jchg hJ hS1.wd.chg hJB
  have hz1 := fun p v h => cell_keep hS1.wd.chg (hzB p v h)
  have hF1 := hS1.fr
  refine c_loop (fun (i : Nat) a w => i ≤ vn ∧ Fr 41 [] [(32, .int .i64 (i : Int)), (30, .slice va vn vc), (31, .int .i64 vn), (0, .func (.yield l) #[] #[]), (1, .pointer (some ⟨bp, 0, none⟩))] a ∧ J (xs.take (c0 + i)) w ∧ ∀ p v, wz.cell? p = some v → w.cell? p = some v) (fun i => vn - i) 0 ⟨Nat.zero_le _, hF1.to (by repeat (first | exact trivial | refine ⟨rfl, ?_⟩)), by simpa using hJ1, hz1⟩ ?_
  rintro i a w ⟨hi, hF, hJi, hzi⟩
  refine rebase hF ?_
  repeat (first | refine g_op rfl ?_ | refine g_then ?_ | refine g_nil ?_ | refine g_region ?_ | refine g_seq ?_)
  refine g_cond (fun h1 => ?_) (fun h1 => ?_)
  · have hlt : i < vn := by simpa using h1
    obtain ⟨v, hv⟩ : ∃ v, x.args[i]? = some v := ⟨_, List.getElem?_eq_getElem (by omega)⟩
    have hsl2 : SlAt w (.slice va vn vc) 2 x.args ValV := SlAt.mono (w := wz) (w' := w) (V := ValV) (fun _ _ h => h) hzi hsl
    obtain ⟨va', vn', vc', vb, vo, e, hvn, _, _, _, hva, hvel⟩ := hsl2
    simp only [Value.slice.injEq] at e
    obtain ⟨rfl, rfl, rfl⟩ := e
    have had : AddrIs va vb vo := ⟨hva (ne_of_get hv)⟩
    have hli : LtIs i vn := ⟨hlt⟩
    obtain ⟨cs, hcs, rfl, _⟩ := hvel i v hv
    have hci : CellsIs w vb (vo + i * 2) _ := ⟨hcs⟩
    repeat (first | refine g_op rfl ?_ | refine g_then ?_ | refine g_nil ?_ | refine g_region ?_ | refine g_seq ?_ | refine g_alloc rfl fun _ _ => ?_ | refine g_storeAgg ?_ | refine g_block ?_ | refine g_skip ?_)
    refine g_yield (m := 3) (fun w v w' => (v = .bool true ∧ J (xs.take (c0 + i + 1)) w' ∧ KeepX own w w') ∨ (v = .bool false ∧ Jx (xs.take (c0 + i + 1)) w')) rfl (fun w2 hw => step (c0 + i) v (hstep i v hv) w2 (jchg hJ hw.chg hJi)) fun v w2 w' hw hR a hF => ?_
    rcases hR with ⟨rfl, hJ', hk⟩ | ⟨rfl, hJ'⟩
    · have hz' := keepW w2 (fun p v h => cell_keep hw.chg (hzi p v h)) w' hk
      refine rebase hF ?_
      repeat (first | refine g_op rfl ?_ | refine g_then ?_ | refine g_nil ?_ | refine g_region ?_ | refine g_opS rfl ?_ | refine g_inBlock ?_ | refine g_skip ?_ | refine g_condF ?_ | refine g_add rfl (by omega) (by omega) ?_)
      exact fun a w3 hS => ⟨i + 1, ⟨hlt, hS.fr.to (by repeat (first | exact trivial | refine ⟨rfl, ?_⟩)), jchg hJ hS.wd.chg hJ', fun p v h => cell_keep hS.wd.chg (hz' p v h)⟩, by omega⟩
    · refine rebase hF ?_
      repeat (first | refine g_op rfl ?_ | refine g_then ?_ | refine g_nil ?_ | refine g_condT ?_ | refine g_ret ?_ | refine g_thenRet ?_ | refine g_blockRet ?_)
      exact g_ret0 rfl fun w3 hw3 => .inr ⟨_, List.take_prefix _ _, jchg hJx hw3.chg hJ'⟩
  · have hge : i = vn := by have := h1; simp at this; omega
    repeat (first | refine g_exit ?_ | refine g_thenExit ?_ | refine g_exitHere ?_)
    refine g_end0 rfl fun w3 hw3 => .inl ⟨xs, rfl, ?_⟩
    rw [List.take_of_length_le (by omega)] at hJi
    exact jchg hJ hw3.chg hJi
end Go.Proofs.YtbmnkjaelfjlhaaDoor


/- The live sets' small methods: take, list, Clone, Equal, Index, Place. What each does. -/
namespace Go.Proofs.YtbmnkjaelfjlhaaDoor
open Go Go.RowKit
attribute [local irreducible] wpListIn Code.wpIn Exit.then Exit.inBlock bodyPost wpQuiet wpAnyIn
set_option maxHeartbeats 4000000

def vecB (a : Option Addr) (R c : Nat) (s : List Bool) : Ent := Ent.vec a R c 4 1 (s.map .bool)
theorem take_c (a : Option Addr) (R c : Nat) (s : List Bool) (hs : s.length = R) (v : LVal) (hv : ValOk R v) (w : World) (hw : Wd (fps [vecB a R c s]) w [vecB a R c s] w) :
    Ret Tryd.prog 94 [.slice a R c, .agg #[.bool v.reg, .int .i64 v.n]] w fun u w' => ∃ _ : Unit, u = .tuple #[] ∧ Wd (fps [vecB a R c s]) w [vecB a R c (takeV s v)] w' ∧ True := by
  refine ret_enter Tryd.func94 rfl Tryd.ntmps94 rfl hw ?_
  generalize fps [vecB a R c s] = SS
  unfold vecB
  repeat (first | refine g_op rfl ?_ | refine g_then ?_ | refine g_nil ?_ | refine g_region ?_ | refine g_seq ?_ | refine g_box rfl fun _ _ => ?_)
  unfold takeV
  unfold ValOk at hv
  generalize v.reg = b at hv
  cases b
  · repeat (first | refine g_skip ?_ | refine g_condF ?_)
    exact g_end0 rfl fun w' hw' => ⟨(), rfl, hw'.sel [1] (by decide), trivial⟩
  · obtain ⟨k, hk⟩ : ∃ k : Nat, v.n = k := ⟨v.n.toNat, by have := hv rfl; omega⟩
    have hkR : k < R := by have := hv rfl; omega
    obtain ⟨y, hy⟩ : ∃ y, s[k]? = some y := ⟨_, List.getElem?_eq_getElem (by omega)⟩
    refine g_vec 1 rfl (by omega) fun vb vo hva => ?_
    subst hva
    have hli : LtIs k R := ⟨hkR⟩
    have hea : ElAt s k y := ⟨hy⟩
    have hni : NatIs v.n k := ⟨hk⟩
    repeat (first | refine g_op rfl ?_ | refine g_nil ?_ | refine g_region ?_ | refine g_condT ?_ | refine g_storeV ?_)
    refine g_end0 rfl fun w' hw' => ⟨(), rfl, ?_, trivial⟩
    rw [if_pos rfl, show v.n.toNat = k by omega]
    exact hw'.sel [1] (by decide)
theorem idxOf_le {x : Nat} : ∀ {l : List Nat} {i : Nat}, l[i]? = some x → l.idxOf x ≤ i
  | [], i, h => by simp at h
  | y :: l, 0, h => by
    simp only [List.getElem?_cons_zero, Option.some.injEq] at h
    subst h
    simp
  | y :: l, i + 1, h => by
    rw [List.idxOf_cons]
    cases (y == x)
    · have := idxOf_le (l := l) (i := i) (by simpa using h)
      simpa using this
    · simp
theorem place_c (v : Value) (l : List Nat) (x : Nat) (w0 : World) (hx : x ∈ l) (hv : SlAt w0 v 1 (l.map fun x : Nat => (x : Int)) IntV) : RetV Tryd.prog 162 [v, .int .i64 x] w0 (.int .i64 (l.idxOf x : Nat)) := by
  obtain ⟨a, n, c, b, o, rfl, hn, hnc, hnb, hc, ha, hel⟩ := hv
  rw [List.length_map] at hn
  have hil := List.idxOf_lt_length_of_mem hx
  refine ret_enter Tryd.func162 rfl Tryd.ntmps162 rfl (Wd.nil NoS w0) ?_
  repeat (first | refine g_op rfl ?_ | refine g_then ?_ | refine g_nil ?_ | refine g_region ?_ | refine g_seq ?_ | refine g_block ?_)
  refine g_loop (fun (i : Nat) => i ≤ l.idxOf x) (fun i => [(5, .int .i64 i), (0, .slice a n c), (1, .int .i64 x)]) (fun _ => []) (fun i => n - i) 0 (Nat.zero_le _) (g_done (by repeat (first | exact trivial | refine ⟨rfl, ?_⟩)) (by simp)) fun i hi => ?_
  repeat (first | refine g_op rfl ?_ | refine g_then ?_ | refine g_nil ?_ | refine g_region ?_ | refine g_seq ?_)
  refine g_cond (fun h1 => ?_) (fun h1 => ?_)
  · have hlt : i < n := by simpa using h1
    obtain ⟨t, ht⟩ : ∃ t, l[i]? = some t := ⟨_, List.getElem?_eq_getElem (by omega)⟩
    have ht' : (l.map fun x : Nat => (x : Int))[i]? = some (t : Int) := by rw [List.getElem?_map, ht]; rfl
    have had : AddrIs a b o := ⟨ha (ne_of_get ht')⟩
    have hli : LtIs i n := ⟨hlt⟩
    obtain ⟨cs, hcs, rfl, _⟩ := hel i _ ht'
    have hci : CellsIs w0 b (o + i * 1) _ := ⟨hcs⟩
    repeat (first | refine g_op rfl ?_ | refine g_then ?_ | refine g_nil ?_ | refine g_region ?_ | refine g_seq ?_ | refine g_block ?_ | refine g_skip ?_)
    refine g_cond (fun h2 => ?_) (fun h2 => ?_)
    · have h5 : (t : Int) = x := by simpa using h2
      have htx : t = x := by omega
      subst htx
      have : l.idxOf t = i := by
        have h4 := idxOf_le ht
        omega
      repeat (first | refine g_op rfl ?_ | refine g_then ?_ | refine g_nil ?_ | refine g_region ?_ | refine g_seq ?_ | refine g_ret ?_ | refine g_thenRet ?_ | refine g_blockRet ?_)
      exact g_retV rfl (by rw [this])
    · repeat (first | refine g_op rfl ?_ | refine g_then ?_ | refine g_nil ?_ | refine g_region ?_ | refine g_opS rfl ?_ | refine g_inBlock ?_ | refine g_skip ?_ | refine g_add rfl (by omega) (by omega) ?_)
      refine g_next (i + 1) ?_ (by omega) (by repeat (first | exact trivial | refine ⟨rfl, ?_⟩)) (by simp)
      refine Nat.lt_of_le_of_ne hi fun e => ?_
      subst e
      have h3 := List.getElem_idxOf hil
      have h4 := (List.getElem?_eq_some_iff.1 ht).2
      rw [h3] at h4
      simp [h4] at h2
  · exact absurd h1 (by simp; omega)
theorem index_c (v : Value) (l : List Nat) (x : Nat) (w0 : World) (hx : x ∈ l) (hv : SlAt w0 v 1 (l.map fun x : Nat => (x : Int)) IntV) : RetV Tryd.prog 111 [v, .int .i64 x] w0 (.int .i64 (l.idxOf x : Nat)) := by
  obtain ⟨a, n, c, b, o, rfl, hn, hnc, hnb, hc, ha, hel⟩ := hv
  rw [List.length_map] at hn
  have hil := List.idxOf_lt_length_of_mem hx
  refine ret_enter Tryd.func111 rfl Tryd.ntmps111 rfl (Wd.nil NoS w0) ?_
  repeat (first | refine g_op rfl ?_ | refine g_then ?_ | refine g_nil ?_ | refine g_region ?_ | refine g_seq ?_ | refine g_block ?_)
  refine g_loop (fun (i : Nat) => i ≤ l.idxOf x) (fun i => [(8, .int .i64 i), (6, .slice a n c), (7, .int .i64 n), (0, .slice a n c), (1, .int .i64 x)]) (fun _ => []) (fun i => n - i) 0 (Nat.zero_le _) (g_done (by repeat (first | exact trivial | refine ⟨rfl, ?_⟩)) (by simp)) fun i hi => ?_
  repeat (first | refine g_op rfl ?_ | refine g_then ?_ | refine g_nil ?_ | refine g_region ?_ | refine g_seq ?_)
  refine g_cond (fun h1 => ?_) (fun h1 => ?_)
  · have hlt : i < n := by simpa using h1
    obtain ⟨t, ht⟩ : ∃ t, l[i]? = some t := ⟨_, List.getElem?_eq_getElem (by omega)⟩
    have ht' : (l.map fun x : Nat => (x : Int))[i]? = some (t : Int) := by rw [List.getElem?_map, ht]; rfl
    have had : AddrIs a b o := ⟨ha (ne_of_get ht')⟩
    have hli : LtIs i n := ⟨hlt⟩
    obtain ⟨cs, hcs, rfl, _⟩ := hel i _ ht'
    have hci : CellsIs w0 b (o + i * 1) _ := ⟨hcs⟩
    repeat (first | refine g_op rfl ?_ | refine g_then ?_ | refine g_nil ?_ | refine g_region ?_ | refine g_seq ?_ | refine g_block ?_ | refine g_skip ?_)
    refine g_cond (fun h2 => ?_) (fun h2 => ?_)
    · have h5 : (x : Int) = t := by simpa using h2
      have htx : x = t := by omega
      subst htx
      have : l.idxOf x = i := by
        have h4 := idxOf_le ht
        omega
      repeat (first | refine g_op rfl ?_ | refine g_then ?_ | refine g_nil ?_ | refine g_region ?_ | refine g_seq ?_ | refine g_ret ?_ | refine g_thenRet ?_ | refine g_blockRet ?_)
      exact g_retV rfl (by rw [this])
    · repeat (first | refine g_then ?_ | refine g_nil ?_ | refine g_region ?_ | refine g_opS rfl ?_ | refine g_inBlock ?_ | refine g_skip ?_ | refine g_add rfl (by omega) (by omega) ?_)
      refine g_next (i + 1) ?_ (by omega) (by repeat (first | exact trivial | refine ⟨rfl, ?_⟩)) (by simp)
      refine Nat.lt_of_le_of_ne hi fun e => ?_
      subst e
      have h3 := List.getElem_idxOf hil
      have h4 := (List.getElem?_eq_some_iff.1 ht).2
      rw [h3] at h4
      simp [h4] at h2
  · exact absurd h1 (by simp; omega)
theorem equalB_c (a b : Value) (l m : List Bool) (w0 : World) (ha : SlAt w0 a 1 l BoolV) (hb : SlAt w0 b 1 m BoolV) : RetV Tryd.prog 105 [a, b] w0 (.bool (decide (l = m))) := by
  obtain ⟨aa, an, ac, ab, ao, rfl, han, hanc, hanb, hac, haa, hael⟩ := ha
  obtain ⟨ba, bn, bc, bb, bo, rfl, hbn, hbnc, hbnb, hbc, hba, hbel⟩ := hb
  refine ret_enter Tryd.func105 rfl Tryd.ntmps105 rfl (Wd.nil NoS w0) ?_
  repeat (first | refine g_op rfl ?_ | refine g_then ?_ | refine g_nil ?_ | refine g_region ?_ | refine g_seq ?_)
  refine g_cond (fun h1 => ?_) (fun h1 => ?_)
  · repeat (first | refine g_then ?_ | refine g_nil ?_ | refine g_region ?_ | refine g_seq ?_ | refine g_opS rfl ?_ | refine g_ret ?_ | refine g_thenRet ?_)
    refine g_retV rfl ?_
    rw [decide_eq_false]
    rintro rfl
    simp at h1; omega
  have hlen : an = bn := by simp at h1; omega
  repeat (first | refine g_op rfl ?_ | refine g_then ?_ | refine g_nil ?_ | refine g_region ?_ | refine g_seq ?_ | refine g_block ?_ | refine g_skip ?_)
  refine g_loop (fun (i : Nat) => i ≤ an ∧ ∀ j, j < i → l[j]? = m[j]?) (fun i => [(13, .int .i64 i), (11, .slice aa an ac), (12, .int .i64 an), (0, .slice aa an ac), (1, .slice ba bn bc)]) (fun _ => []) (fun i => an - i) 0 ⟨Nat.zero_le _, by simp⟩ (g_done (by repeat (first | exact trivial | refine ⟨rfl, ?_⟩)) (by simp)) fun i ⟨hi, hall⟩ => ?_
  repeat (first | refine g_op rfl ?_ | refine g_then ?_ | refine g_nil ?_ | refine g_region ?_ | refine g_seq ?_)
  refine g_cond (fun h2 => ?_) (fun h2 => ?_)
  · have hlt : i < an := by simpa using h2
    obtain ⟨x, hx⟩ := get_lt han hlt
    obtain ⟨y, hy⟩ := get_lt hbn (show i < bn by omega)
    have had : AddrIs aa ab ao := ⟨haa (ne_of_get hx)⟩
    have hbd : AddrIs ba bb bo := ⟨hba (ne_of_get hy)⟩
    have hli : LtIs i an := ⟨hlt⟩
    have hlj : LtIs i bn := ⟨by omega⟩
    obtain ⟨cs, hcs, rfl⟩ := hael i x hx
    obtain ⟨cs2, hcs2, rfl⟩ := hbel i y hy
    have hci : CellsIs w0 ab (ao + i * 1) _ := ⟨hcs⟩
    have hcj : CellsIs w0 bb (bo + i * 1) _ := ⟨hcs2⟩
    repeat (first | refine g_op rfl ?_ | refine g_then ?_ | refine g_nil ?_ | refine g_region ?_ | refine g_seq ?_ | refine g_block ?_ | refine g_skip ?_)
    refine g_draw mixed (by kernel_rfl) ?_
    repeat (first | refine q_op rfl ?_ | refine q_nil ?_)
    repeat (refine g_then ?_)
    refine g_cond (fun h3 => ?_) (fun h3 => ?_)
    · repeat (first | refine g_op rfl ?_ | refine g_then ?_ | refine g_nil ?_ | refine g_region ?_ | refine g_seq ?_ | refine g_ret ?_ | refine g_thenRet ?_ | refine g_blockRet ?_)
      refine g_retV rfl ?_
      rw [decide_eq_false]
      rintro rfl
      rw [hx] at hy
      simp only [Option.some.injEq] at hy
      simp [hy] at h3
    · have hxy : x = y := by simpa using h3
      repeat (first | refine g_then ?_ | refine g_nil ?_ | refine g_region ?_ | refine g_opS rfl ?_ | refine g_inBlock ?_ | refine g_skip ?_ | refine g_add rfl (by omega) (by omega) ?_)
      refine g_next (i + 1) ⟨hlt, fun j hj => ?_⟩ (by omega) (by repeat (first | exact trivial | refine ⟨rfl, ?_⟩)) (by simp)
      by_cases hji : j = i
      · subst hji; rw [hx, hy, hxy]
      · exact hall j (by omega)
  · have hge : i = an := by have := h2; simp at this; omega
    repeat (first | refine g_op rfl ?_ | refine g_then ?_ | refine g_nil ?_ | refine g_region ?_ | refine g_seq ?_ | refine g_exit ?_ | refine g_thenExit ?_ | refine g_exitHere ?_ | refine g_ret ?_)
    refine g_retV rfl ?_
    rw [decide_eq_true]
    apply List.ext_getElem?
    intro j
    by_cases hj : j < an
    · exact hall j (by omega)
    · rw [List.getElem?_eq_none (by omega), List.getElem?_eq_none (by omega)]
theorem cloneB_c (a : Option Addr) (R c : Nat) (l : List Bool) (hR : R ≤ 1000) (w0 : World) (hl : SlAt w0 (.slice a R c) 1 l BoolV) :
    Ret Tryd.prog 104 [.slice a R c] w0 fun u w' => ∃ x : Option Addr × Nat, u = .slice x.1 R x.2 ∧ Wd NoS w0 [vecB x.1 R x.2 l] w' ∧ True := by
  refine ret_enter Tryd.func104 rfl Tryd.ntmps104 rfl (Wd.nil NoS w0) ?_
  repeat (first | refine g_op rfl ?_ | refine g_then ?_ | refine g_nil ?_ | refine g_region ?_ | refine g_seq ?_)
  cases a with
  | none =>
    have hl0 : l = [] ∧ R = 0 := by
      obtain ⟨a', n, c', b, o, hv, hn, _, _, _, ha, _⟩ := hl
      simp only [Value.slice.injEq] at hv
      obtain ⟨rfl, rfl, rfl⟩ := hv
      have h0 : l = [] := Classical.byContradiction fun h => by cases ha h
      exact ⟨h0, by rw [hn, h0]; rfl⟩
    obtain ⟨rfl, rfl⟩ := hl0
    repeat (first | refine g_then ?_ | refine g_nil ?_ | refine g_region ?_ | refine g_seq ?_ | refine g_opS rfl ?_ | refine g_condT ?_ | refine g_ret ?_ | refine g_thenRet ?_)
    refine g_nilVec 4 1 ?_
    exact g_ret1 rfl fun w hw => ⟨(none, 0), rfl, hw, trivial⟩
  | some ad =>
    repeat (first | refine g_then ?_ | refine g_region ?_ | refine g_seq ?_ | refine g_skip ?_ | refine g_condF ?_)
    refine g_build0 rfl fun eb _ => ?_
    repeat (refine g_op rfl ?_)
    refine g_appendF rfl rfl l (fun b => [.bool b]) (fun _ _ _ h => h) (fun _ => rfl) (fun _ u hu => by simp only [List.mem_singleton] at hu; subst hu; rfl) (fun w hw => hl.keep keeps_bool hw.chg) (by omega) (by omega) fun a' c' => ?_
    rw [flat_one, List.nil_append, Nat.zero_add]
    repeat (first | refine g_then ?_ | refine g_nil ?_ | refine g_opS rfl ?_ | refine g_ret ?_)
    exact g_ret1 rfl fun w hw => ⟨(a', c'), rfl, hw, trivial⟩
end Go.Proofs.YtbmnkjaelfjlhaaDoor


/- (Set).Ahead, slices.Backward over instructions. -/
namespace Go.Proofs.YtbmnkjaelfjlhaaDoor
open Go Go.RowKit
attribute [local irreducible] wpListIn Code.wpIn Exit.then Exit.inBlock bodyPost wpQuiet wpAnyIn bodyPostM
set_option maxHeartbeats 4000000

theorem backwardI_c (v : Value) (hv : ∃ a n c, v = .slice a n c) (w0 : World) : Ret Tryd.prog 95 [v] w0 fun u w' => ∃ p : Nat × Nat, u = .func (.func 143) #[] #[.pointer (some ⟨p.1, 0, none⟩)] ∧ Wd NoS w0 [Ent.box p.1 [v] p.2] w' ∧ True := by
  obtain ⟨a, n, c, rfl⟩ := hv
  refine ret_enter Tryd.func95 rfl Tryd.ntmps95 rfl (Wd.nil NoS w0) ?_
  repeat (first | refine g_op rfl ?_ | refine g_then ?_ | refine g_nil ?_ | refine g_region ?_ | refine g_seq ?_ | refine g_opS rfl ?_ | refine g_box rfl fun _ _ => ?_ | refine g_ret ?_)
  exact g_ret1 rfl fun w hw => ⟨(_, _), rfl, hw, trivial⟩
/-- registers that there are -/
abbrev ValA (R : Nat) : Type := { v : LVal // ValOk R v }
theorem valA_ex {R : Nat} : ∀ l : List LVal, (∀ v ∈ l, ValOk R v) → ∃ xs : List (ValA R), xs.map (·.1) = l
  | [], _ => ⟨[], rfl⟩
  | v :: l, h => by
    obtain ⟨xs, hxs⟩ := valA_ex l fun u hu => h u (List.mem_cons_of_mem _ hu)
    exact ⟨⟨v, h v (by simp)⟩ :: xs, by rw [List.map_cons, hxs]⟩
theorem takeA_fold {R : Nat} (xs : List (ValA R)) (s : List Bool) : xs.foldl (fun s y => takeV s y.1) s = (xs.map (·.1)).foldl takeV s := by rw [List.foldl_map]
theorem setAhead_c (a : Option Addr) (R c : Nat) (s : List Bool) (hs : s.length = R) (x : LIns) (hx : InsOk R x) (hlen : x.args.length ≤ 100000) (va : Option Addr) (vn vc : Nat) (S : Nat → Prop) (wz : World) (hclz : ∀ p v, wz.cell? p = some v → ¬ S p.block) (hsl : SlAt wz (.slice va vn vc) 2 x.args ValV) (w : World) (hw : Wd S wz [vecB a R c s] w) :
    Ret Tryd.prog 97 [.slice a R c, .agg #[.int .i64 x.op, .int .i64 x.dst, .bool x.a.reg, .int .i64 x.a.n, .bool x.b.reg, .int .i64 x.b.n, .int .i64 x.fn, .slice va vn vc]] w fun u w' => ∃ _ : Unit, u = .tuple #[] ∧ Wd (fps [vecB a R c s]) w [vecB a R c (insV s x)] w' ∧ True := by
  have hz := hw.chg
  refine ret_enterM (w0 := wz) (S := S) Tryd.func97 rfl Tryd.ntmps97 rfl hw.withRestS ?_
  generalize hrest : Ent.rest (restS S wz.heap.size w [vecB a R c s]) w = RS
  repeat (first | refine g_op rfl ?_ | refine g_then ?_ | refine g_nil ?_ | refine g_region ?_ | refine g_seq ?_ | refine g_box rfl fun _ _ => ?_)
  rename_i b2 _ b3 _
  generalize hs1 : (if 0 ≤ x.dst then s.set x.dst.toNat false else s) = s1
  have hs1l : s1.length = R := by subst hs1; split <;> simpa using hs
  refine g_mid [(2, .pointer (some ⟨b2, 0, none⟩)), (3, .pointer (some ⟨b3, 0, none⟩))] [Ent.box b3 [.int .i64 x.op, .int .i64 x.dst, .bool x.a.reg, .int .i64 x.a.n, .bool x.b.reg, .int .i64 x.b.n, .int .i64 x.fn, .slice va vn vc] 71, Ent.box b2 [.slice a R c] 146, RS, vecB a R c s1] ?_ ?_
  · refine g_cond (fun h1 => ?_) (fun h1 => ?_)
    · have h0 : 0 ≤ x.dst := by simpa using h1
      have hR := hx.dst h0
      obtain ⟨k, hk⟩ : ∃ k : Nat, x.dst = k := ⟨x.dst.toNat, by omega⟩
      obtain ⟨y, hy⟩ : ∃ y, s[k]? = some y := ⟨_, List.getElem?_eq_getElem (by omega)⟩
      unfold vecB
      refine g_vec 3 rfl (by omega) fun vb vo hva => ?_
      have hli : LtIs k R := ⟨by omega⟩
      have hea : ElAt s k y := ⟨hy⟩
      have hni : NatIs x.dst k := ⟨hk⟩
      rw [hva]
      repeat (first | refine g_op rfl ?_ | refine g_then ?_ | refine g_nil ?_ | refine g_region ?_ | refine g_storeV ?_)
      rw [if_pos h0, show x.dst.toNat = k by omega] at hs1
      rw [hs1]
      exact g_done (by repeat (first | exact trivial | refine ⟨rfl, ?_⟩)) (List.Sublist.refl _)
    · have h0 : ¬ 0 ≤ x.dst := by simpa using h1
      repeat (first | refine g_then ?_ | refine g_skip ?_)
      rw [if_neg h0] at hs1
      rw [hs1]
      exact g_done (by repeat (first | exact trivial | refine ⟨rfl, ?_⟩)) (List.Sublist.refl _)
  repeat (first | refine g_op rfl ?_ | refine g_region ?_ | refine g_seq ?_)
  refine g_callE (val := fun p : Nat => .func (.func 161) #[] #[.pointer (some ⟨p, 0, none⟩)]) (E := fun p => [Ent.box p [.int .i64 x.op, .int .i64 x.dst, .bool x.a.reg, .int .i64 x.a.n, .bool x.b.reg, .int .i64 x.b.n, .int .i64 x.fn, .slice va vn vc] 71]) (φ := fun _ => True) rfl (fun w hw => vals_c x _ ⟨_, _, _, rfl⟩ w) fun bp _ => ?_
  simp only [List.cons_append, List.nil_append]
  repeat (first | refine g_then ?_ | refine g_nil ?_ | refine g_block ?_)
  obtain ⟨xs, hxs⟩ := valA_ex (R := R) (valsOf x) hx.vals
  have hfin : xs.foldl (fun s y => takeV s y.1) s1 = insV s x := by rw [takeA_fold, hxs, ← hs1]; rfl
  refine g_fix (L' := [(13, .func (.func 161) #[] #[.pointer (some ⟨bp, 0, none⟩)]), (2, .pointer (some ⟨b2, 0, none⟩)), (3, .pointer (some ⟨b3, 0, none⟩))]) (by repeat (first | exact trivial | refine ⟨rfl, ?_⟩)) (List.Sublist.refl _) ?_
  refine g_sel [4, 0, 1, 2, 3] (by decide) ?_
  refine g_rangeBS (α := ValA R) (gf := 161) (lb := [.pointer (some ⟨bp, 0, none⟩)]) [Ent.box bp [.int .i64 x.op, .int .i64 x.dst, .bool x.a.reg, .int .i64 x.a.n, .bool x.b.reg, .int .i64 x.b.n, .int .i64 x.fn, .slice va vn vc] 71, Ent.box b3 [.int .i64 x.op, .int .i64 x.dst, .bool x.a.reg, .int .i64 x.a.n, .bool x.b.reg, .int .i64 x.b.n, .int .i64 x.fn, .slice va vn vc] 71, Ent.box b2 [.slice a R c] 146, RS] (fun s : List Bool => [vecB a R c s]) s1 (fun s => ⟨by intro e he; simp only [List.mem_singleton] at he; subst he; unfold vecB; infer_instance⟩) (fun s s' b ⟨e, he, hb⟩ => ⟨vecB a R c s', by simp, by simp only [List.mem_singleton] at he; subst he; exact hb⟩) xs
    (encs := fun y => #[.agg #[.bool y.1.reg, .int .i64 y.1.n]]) (Bs := bp) (bcs := [.int .i64 x.op, .int .i64 x.dst, .bool x.a.reg, .int .i64 x.a.n, .bool x.b.reg, .int .i64 x.b.n, .int .i64 x.fn, .slice va vn vc]) (bt := 71) (by simp)
    (fun w1 hw1 => ?_) (fun pre s => s = pre.foldl (fun s y => takeV s y.1) s1) rfl (List.Sublist.refl _) (fun _ => rfl) (fun y => [.bool y.1.reg, .int .i64 y.1.n]) 41
    (fun y => [(14, .agg #[.bool y.1.reg, .int .i64 y.1.n]), (2, .pointer (some ⟨b2, 0, none⟩)), (3, .pointer (some ⟨b3, 0, none⟩))]) (fun y q => [(4, .pointer (some ⟨q, 0, none⟩)), (2, .pointer (some ⟨b2, 0, none⟩)), (3, .pointer (some ⟨b3, 0, none⟩))]) (fun y a h => ?_) (fun l y s R => ?_) (fun l pre y s q RR hI hlt => ?_) fun D s2 hD hI => ?_
  · intro l J Jx W hW hJ hJx hY h0
    have hownz : ∀ b, fps ([vecB a R c s1] ++ [Ent.box bp [.int .i64 x.op, .int .i64 x.dst, .bool x.a.reg, .int .i64 x.a.n, .bool x.b.reg, .int .i64 x.b.n, .int .i64 x.fn, .slice va vn vc] 71, Ent.box b3 [.int .i64 x.op, .int .i64 x.dst, .bool x.a.reg, .int .i64 x.a.n, .bool x.b.reg, .int .i64 x.b.n, .int .i64 x.fn, .slice va vn vc] 71, Ent.box b2 [.slice a R c] 146, RS]) b → (S b ∨ wz.heap.size ≤ b) ∧ b < w1.heap.size := fun b ⟨e, he, hb⟩ => hw1.own e he b hb
    have hkz : ∀ p v, wz.cell? p = some v → w1.cell? p = some v := fun p v hp => (World.cell?_of_block (hw1.chg.block _ (World.block_lt_of_cell? wz p hp) (hclz p v hp))).trans hp
    have h2 := vals1_c (α := ValA R) (fun y => y.1) x va vn vc xs hxs hlen l bp _ wz hsl (fun p v hp h => (hownz _ h.1).1.elim (hclz p v hp) fun h2 => by have := World.block_lt_of_cell? wz p hp; omega) (fun h => h.2 rfl) W (fun b hb h => by have := (hownz b h.1).2; have := hW.size; omega) J Jx _ hJ hJx hY (fun p v hp => by
      have h3 := hkz p v hp
      exact (hW.cell (World.block_lt_of_cell? w1 _ h3)).trans h3) (fun j v hj => by
      have h3 : w1.cell? ⟨bp, 0 + j, none⟩ = some v := hw1.boxCells bp j v hj
      exact (hW.cell (World.block_lt_of_cell? w1 _ h3)).trans h3) h0
    exact callsIn_deep (CallsIn.mono h2 fun e w' ⟨v, he, hh⟩ => ⟨⟨v, he⟩, hh⟩)
  · have h2 := (h.to (L' := [(2, .pointer (some ⟨b2, 0, none⟩)), (3, .pointer (some ⟨b3, 0, none⟩))]) (by repeat (first | exact trivial | refine ⟨rfl, ?_⟩))).putOk (d := 14) rfl (.agg #[.bool y.1.reg, .int .i64 y.1.n])
    have e : (#[14].zip #[Value.agg #[.bool y.1.reg, .int .i64 y.1.n]]).foldl (fun (t : Array Value) (q : Tmp × Value) => t.setIfInBounds q.1 q.2) a.tmps = a.tmps.setIfInBounds 14 (.agg #[.bool y.1.reg, .int .i64 y.1.n]) := by simp
    refine ⟨Eq.trans (congrArg Array.size e) h2.size, rfl, fun p hp => ?_⟩
    exact Eq.trans (congrArg (fun t : Array Value => t[p.1]?) e) (h2.slot p hp)
  · repeat (first | refine g_then ?_ | refine g_nil ?_ | refine g_region ?_ | refine g_alloc rfl fun _ _ => ?_ | refine g_storeAgg ?_)
    exact g_doneP _ (by repeat (first | exact trivial | refine ⟨rfl, ?_⟩)) (List.Sublist.refl _)
  · have hsl2 : s.length = R := by
      rw [hI, takeA_fold, takes_length, hs1l]
    simp only [List.cons_append, List.nil_append]
    repeat (first | refine g_op rfl ?_ | refine g_region ?_ | refine g_block ?_)
    refine g_sel [2, 0, 1, 3, 4, 5, 6] (by decide) ?_
    refine g_eqH (H1 := [vecB a R c s] ++ [RR, Ent.box q [.bool y.1.reg, .int .i64 y.1.n] 41, Ent.box bp [.int .i64 x.op, .int .i64 x.dst, .bool x.a.reg, .int .i64 x.a.n, .bool x.b.reg, .int .i64 x.b.n, .int .i64 x.fn, .slice va vn vc] 71, Ent.box b3 [.int .i64 x.op, .int .i64 x.dst, .bool x.a.reg, .int .i64 x.a.n, .bool x.b.reg, .int .i64 x.b.n, .int .i64 x.fn, .slice va vn vc] 71, Ent.box b2 [.slice a R c] 146, RS]) rfl ?_
    refine g_callS (val := fun _ : Unit => .tuple #[]) (E := fun _ => [vecB a R c (takeV s y.1)]) (φ := fun _ => True) rfl (fun w hw => take_c a R c s hsl2 y.1 y.2 w hw.pre) fun _ _ => ?_
    simp only [List.cons_append, List.nil_append]
    repeat (first | refine g_then ?_ | refine g_nil ?_ | refine g_inBlock ?_)
    refine g_sel [1, 0, 2, 3, 4, 5, 6] (by decide) ?_
    refine g_rnd (takeV s y.1) ?_ (List.Sublist.refl _)
    rw [List.foldl_append, ← hI]; rfl
  · simp only [List.cons_append, List.nil_append]
    repeat (refine g_inBlock ?_)
    refine g_sel [0, 5, 1] (by decide) ?_
    refine g_endM0 rfl hD fun w' hw' => ⟨(), rfl, ?_, trivial⟩
    rw [← hfin, ← hI]
    rw [← hrest] at hw'
    exact wd_restS hclz hz hw'
end Go.Proofs.YtbmnkjaelfjlhaaDoor


/- graph.Ahead, live.BehindOf: what each returns. -/
namespace Go.Proofs.YtbmnkjaelfjlhaaDoor
open Go Go.RowKit
attribute [local irreducible] wpListIn Code.wpIn Exit.then Exit.inBlock bodyPost wpQuiet wpAnyIn
set_option maxHeartbeats 4000000

theorem graphAhead_c (nm pa re : Value) (bl : List LBlock) (bs : Value) (w0 : World) (hbs : SlAt w0 bs 6 bl BlockV) (hlen : bl.length ≤ 100) (hok : GoodB bl) :
    Ret Tryd.prog 74 [.agg #[nm, pa, re, bs]] w0 fun u w' => ∃ x : (Option Addr × Nat × Nat) × (Nat → Prop), u = .slice x.1.1 x.1.2.1 x.1.2.2 ∧ Wd NoS w0 [⟨x.2, fun w => SlAt w (.slice x.1.1 x.1.2.1 x.1.2.2) 1 (aheadL bl) RowV⟩] w' ∧ True := by
  obtain ⟨ba, n, bc, bb, bo', rfl, hn, hnc, hnb, hbc, hba, hel⟩ := hbs
  refine ret_enter Tryd.func74 rfl Tryd.ntmps74 rfl (Wd.nil NoS w0) ?_
  repeat (first | refine g_op rfl ?_ | refine g_then ?_ | refine g_nil ?_ | refine g_region ?_ | refine g_seq ?_ | refine g_box rfl fun _ _ => ?_ | refine g_block ?_ | refine g_make rfl (by omega) (by omega) fun _ _ => ?_)
  rename_i b1 _ bo _
  refine g_nilVecs 3 1 n ?_
  rw [show (List.replicate n (Value.slice none 0 0)) = (List.replicate n (⟨none, 0, []⟩ : Row)).map valR by simp [valR], show (List.replicate n (Ent.vec none 0 0 3 1 [])) = (List.replicate n (⟨none, 0, []⟩ : Row)).map entR by simp [entR]]
  refine g_loop (fun (x : Nat × List Row) => x.1 ≤ n ∧ x.2.map (·.l) = aheadTo bl x.1 ∧ x.2.length = n ∧ ∀ r ∈ x.2, r.l.length ≤ 2 * x.1 ∧ ∀ y ∈ r.l, inI y) (fun x => [(15, .int .i64 x.1), (13, .slice ba n bc), (14, .int .i64 n), (3, .slice (some ⟨bo, 0, none⟩) n n)]) (fun x => Ent.vec (some ⟨bo, 0, none⟩) n n 38 1 (x.2.map valR) :: x.2.map entR) (fun x => n - x.1) (0, List.replicate n ⟨none, 0, []⟩)
    ⟨Nat.zero_le _, by simp [aheadTo, hn], by simp, by simp⟩ (g_done (by repeat (first | exact trivial | refine ⟨rfl, ?_⟩)) (List.Sublist.cons_cons _ (List.Sublist.cons _ (List.Sublist.refl _)))) fun x ⟨hi, hrows, hrl, hbd⟩ => ?_
  obtain ⟨i, rs⟩ := x
  simp only at hi hrows hrl hbd ⊢
  repeat (first | refine g_op rfl ?_ | refine g_then ?_ | refine g_nil ?_ | refine g_region ?_ | refine g_seq ?_)
  refine g_cond (fun h1 => ?_) (fun h1 => ?_)
  · have hlt : i < n := by simpa using h1
    obtain ⟨B, hB⟩ := get_lt hn hlt
    have had : AddrIs ba bb bo' := ⟨hba (ne_of_get hB)⟩
    have hli : LtIs i n := ⟨hlt⟩
    obtain ⟨cs, hcs, pv, lv, tv, rfl, _, _, hphis, hlist, ht⟩ := hel i B hB
    obtain ⟨pa', pn, pc, _, _, rfl, _⟩ := hphis
    obtain ⟨la, ln, lc, _, _, rfl, _⟩ := hlist
    obtain ⟨ta, tn, tc, tb, to', rfl, htn, htnc, htnb, htc, hta, htel⟩ := ht
    have hci : CellsIs w0 bb (bo' + i * 6) _ := ⟨hcs⟩
    have htok : toOk bl.length B.to := hok B (List.mem_of_getElem? hB)
    repeat (first | refine g_op rfl ?_ | refine g_then ?_ | refine g_nil ?_ | refine g_region ?_ | refine g_seq ?_ | refine g_alloc rfl fun _ _ => ?_ | refine g_storeAgg ?_ | refine g_block ?_ | refine g_skip ?_)
    refine g_loop (fun (x : Nat × List Row) => x.1 ≤ tn ∧ x.2.map (·.l) = (B.to.take x.1).foldl (aheadIn i) (aheadTo bl i) ∧ x.2.length = n ∧ ∀ r ∈ x.2, r.l.length ≤ 2 * i + x.1 ∧ ∀ y ∈ r.l, inI y) (fun x => [(24, .int .i64 x.1), (22, .slice ta tn tc), (23, .int .i64 tn), (4, .int .i64 i), (15, .int .i64 i), (13, .slice ba n bc), (14, .int .i64 n), (3, .slice (some ⟨bo, 0, none⟩) n n)])
      (fun x => Ent.vec (some ⟨bo, 0, none⟩) n n 38 1 (x.2.map valR) :: x.2.map entR) (fun x => tn - x.1) (0, rs)
      ⟨Nat.zero_le _, by simpa using hrows, hrl, fun r hr => by simpa using hbd r hr⟩ (g_done (by repeat (first | exact trivial | refine ⟨rfl, ?_⟩)) (List.Sublist.cons _ (List.Sublist.refl _))) fun x ⟨hj, hrows', hrl', hbd'⟩ => ?_
    obtain ⟨j, rs'⟩ := x
    simp only at hj hrows' hrl' hbd' ⊢
    repeat (first | refine g_op rfl ?_ | refine g_then ?_ | refine g_nil ?_ | refine g_region ?_ | refine g_seq ?_)
    refine g_cond (fun h2 => ?_) (fun h2 => ?_)
    · have hjlt : j < tn := by simpa using h2
      obtain ⟨t, htj⟩ := get_lt htn hjlt
      have htt := htok.2 t (List.mem_of_getElem? htj)
      obtain ⟨k, hk⟩ : ∃ k : Nat, t = k := ⟨t.toNat, by omega⟩
      have hkn : k < n := by omega
      have hkl : k < rs'.length := by omega
      obtain ⟨r, hr⟩ : ∃ r, rs'[k]? = some r := ⟨_, List.getElem?_eq_getElem hkl⟩
      have had2 : AddrIs ta tb to' := ⟨hta (ne_of_get htj)⟩
      have hli2 : LtIs j tn := ⟨hjlt⟩
      have hli3 : LtIs k n := ⟨hkn⟩
      have hni : NatIs t k := ⟨hk⟩
      obtain ⟨cs2, hcs2, rfl, _⟩ := htel j t htj
      have hci2 : CellsIs w0 tb (to' + j * 1) _ := ⟨hcs2⟩
      have hxa : XAt (rs'.map valR) (k * 1) (.slice r.a r.l.length r.c) := ⟨by simp [hr, valR]⟩
      have hrb := hbd' r (List.mem_of_getElem? hr)
      repeat (first | refine g_op rfl ?_ | refine g_then ?_ | refine g_nil ?_ | refine g_region ?_ | refine g_seq ?_ | refine g_block ?_ | refine g_skip ?_ | refine g_build1 rfl rfl fun _ _ => ?_)
      rename_i bt _
      have htok1 := htok.1
      refine g_appendAt (k + 2) (xs := r.l.map (.int .i64)) (e := 3) (by simp [hr, entR]) rfl rfl (by omega) (by omega) fun a' c' => ?_
      refine g_eqH (H1 := Ent.vec (some ⟨bt, 0, none⟩) 1 1 3 1 [.int .i64 i] :: Ent.vec (some ⟨bo, 0, none⟩) n n 38 1 (rs'.map valR) :: (rs'.set k ⟨a', c', r.l ++ [(i : Int)]⟩).map entR) (by simp [entR, List.map_set]) ?_
      have hxs : XSet (rs'.map valR) (k * 1) (.slice a' (r.l.length + 1) c') ((rs'.set k ⟨a', c', r.l ++ [(i : Int)]⟩).map valR) := ⟨by simp [valR, List.map_set], by simpa using hkl⟩
      repeat (first | refine g_op rfl ?_ | refine g_then ?_ | refine g_nil ?_ | refine g_region ?_ | refine g_opS rfl ?_ | refine g_inBlock ?_ | refine g_add rfl (by omega) (by omega) ?_ | refine g_storeV ?_)
      refine g_next (j + 1, rs'.set k ⟨a', c', r.l ++ [(i : Int)]⟩) ⟨hjlt, ?_, by simpa using hrl', ?_⟩ (by simp only; omega) (by repeat (first | exact trivial | refine ⟨rfl, ?_⟩)) (List.Sublist.cons _ (List.Sublist.refl _))
      · simp only
        rw [List.take_add_one, htj]
        simp only [Option.toList_some, List.foldl_append, List.foldl_cons, List.foldl_nil]
        rw [← hrows', aheadIn, show t.toNat = k by omega]
        exact map_set_modify hr rfl
      · intro q hq
        rcases List.mem_or_eq_of_mem_set hq with hq | rfl
        · have := hbd' q hq
          exact ⟨by simp only; omega, this.2⟩
        · refine ⟨by simp only [List.length_append, List.length_singleton]; omega, fun y hy => ?_⟩
          rcases List.mem_append.1 hy with hy | hy
          · exact hrb.2 y hy
          · simp only [List.mem_singleton] at hy
            subst hy
            simp only [inI]; omega
    · have hge : j = tn := by have := h2; simp at this; omega
      repeat (first | refine g_then ?_ | refine g_nil ?_ | refine g_region ?_ | refine g_opS rfl ?_ | refine g_inBlock ?_ | refine g_add rfl (by omega) (by omega) ?_ | refine g_exit ?_ | refine g_thenExit ?_ | refine g_exitHere ?_)
      refine g_next (i + 1, rs') ⟨hlt, ?_, hrl', fun r hr => ?_⟩ (by simp only; omega) (by repeat (first | exact trivial | refine ⟨rfl, ?_⟩)) (List.Sublist.refl _)
      · simp only [aheadTo, hB]
        rw [hrows', hge, htn, List.take_length]
      · have := hbd' r hr
        have htok1 := htok.1
        exact ⟨by simp only; omega, this.2⟩
  · have hge : i = n := by have := h1; simp at this; omega
    repeat (first | refine g_op rfl ?_ | refine g_then ?_ | refine g_nil ?_ | refine g_region ?_ | refine g_seq ?_ | refine g_exit ?_ | refine g_thenExit ?_ | refine g_exitHere ?_ | refine g_ret ?_)
    refine g_ret1 rfl fun w hw => ⟨((some ⟨bo, 0, none⟩, n, n), fps (Ent.vec (some ⟨bo, 0, none⟩) n n 38 1 (rs.map valR) :: rs.map entR)), rfl, ?_, trivial⟩
    have hw' : Wd NoS w0 ((Ent.vec (some ⟨bo, 0, none⟩) n n 38 1 (rs.map valR) :: rs.map entR) ++ []) w := by rw [List.append_nil]; exact hw
    refine hw'.pack _ fun w2 hw2 => ?_
    have := rows_sl (H := []) (by rw [List.append_nil]; exact hw2) hrl.symm (by omega) fun r hr => ⟨by have := (hbd r hr).1; omega, (hbd r hr).2⟩
    rw [hrows, hge, hn] at this
    exact hn ▸ this

/-- sets, as one reads them -/
def SetV (w : World) (l : List Bool) (cs : List Value) : Prop := ∃ v, cs = [v] ∧ SlAt w v 1 l BoolV
/-- what the sets tell -/
def inOf (rows : List (List Bool)) (t r : Nat) : Prop := ∃ s, rows[t]? = some s ∧ has s r
theorem preds_mem {bl : List LBlock} {t b : Nat} (hb : b < bl.length) (h : (t : Int) ∈ toOf bl b) : b ∈ preds bl t := by
  unfold preds
  rw [List.mem_filter]
  exact ⟨by simpa using hb, by simpa using h⟩
theorem phisOf_get {bl : List LBlock} {t : Nat} {B : LBlock} (h : bl[t]? = some B) : phisOf bl t = B.phis := by simp [phisOf, h]
theorem behindOf_c (nm pa : Value) (R : Nat) (hR : R ≤ 100) (bl : List LBlock) (bs : Value) (b : Nat) (rows : List (List Bool)) (aa ia : Option Addr) (an ac ic : Nat) (w0 : World) (hbs : SlAt w0 bs 6 bl BlockV) (n' : Nat) (hn' : n' = bl.length) (hf : FuncOk R bl) (hb : b < bl.length) (hrl : rows.length = bl.length) (hrR : ∀ s ∈ rows, s.length = R)
    (hah : SlAt w0 (.slice aa an ac) 1 (aheadL bl) RowV) (hin : SlAt w0 (.slice ia n' ic) 1 rows SetV) :
    Ret Tryd.prog 103 [.agg #[nm, pa, .int .i64 R, bs], .slice aa an ac, .slice ia n' ic, .int .i64 b] w0 fun u w' => ∃ x : Nat × List Bool, u = .slice (some ⟨x.1, 0, none⟩) R R ∧ Wd NoS w0 [vecB (some ⟨x.1, 0, none⟩) R R x.2] w' ∧ (x.2.length = R ∧ ∀ r, has x.2 r ↔ Beh bl (inOf rows) b r) := by
  subst hn'
  have hok := hf.good
  have hto : ∀ (b : Nat) (B : LBlock), bl[b]? = some B → B.to.Nodup := fun b B hB => (hf.block b B hB).to
  obtain ⟨ba, n, bc, bb, bo', rfl, hn, hnc, hnb, hbc, hba, hel⟩ := hbs
  obtain ⟨ia', in', ic', ib, io, hv, hin1, _, _, _, hia, hiel⟩ := hin
  simp only [Value.slice.injEq] at hv
  obtain ⟨rfl, rfl, rfl⟩ := hv
  obtain ⟨aa', an', ac', ab, ao, hv, han, _, _, _, haa, hael⟩ := hah
  simp only [Value.slice.injEq] at hv
  obtain ⟨rfl, rfl, rfl⟩ := hv
  rw [← hn] at hb hrl ⊢
  refine ret_enter Tryd.func103 rfl Tryd.ntmps103 rfl (Wd.nil NoS w0) ?_
  obtain ⟨B, hB⟩ := get_lt hn hb
  have had : AddrIs ba bb bo' := ⟨hba (ne_of_get hB)⟩
  have hli : LtIs b n := ⟨hb⟩
  obtain ⟨cs, hcs, pv', lv, tv, rfl, _, _, hphis, hlist, ht⟩ := hel b B hB
  obtain ⟨pa', pn, pc, _, _, rfl, _⟩ := hphis
  obtain ⟨la, ln, lc, _, _, rfl, _⟩ := hlist
  obtain ⟨ta, tn, tc, tb, to', rfl, htn, htnc, htnb, htc, hta, htel⟩ := ht
  have hci : CellsIs w0 bb (bo' + b * 6) _ := ⟨hcs⟩
  have hBok := hok B (List.mem_of_getElem? hB)
  repeat (first | refine g_op rfl ?_ | refine g_then ?_ | refine g_nil ?_ | refine g_region ?_ | refine g_seq ?_ | refine g_box rfl fun _ _ => ?_ | refine g_alloc rfl fun _ _ => ?_ | refine g_storeAgg ?_ | refine g_block ?_ | refine g_make rfl (by omega) (by omega) fun _ _ => ?_)
  rename_i p4 _ ob _ p10 _
  rw [show List.replicate R (Value.bool false) = (List.replicate R false).map Value.bool by simp]
  refine g_loop (fun (x : Nat × List Bool) => x.1 ≤ tn ∧ x.2.length = R ∧ ∀ r, has x.2 r ↔ ∃ t : Nat, (∃ q, q < x.1 ∧ B.to[q]? = some (t : Int)) ∧ (takesR bl t b r = true ∨ inOf rows t r)) (fun x => [(31, .int .i64 x.1), (29, .slice ta tn tc), (30, .int .i64 tn), (9, .slice (some ⟨ob, 0, none⟩) R R), (4, .pointer (some ⟨p4, 0, none⟩)), (1, .slice aa an ac), (2, .slice ia n ic), (3, .int .i64 b)]) (fun x => [vecB (some ⟨ob, 0, none⟩) R R x.2, Ent.box p4 [nm, pa, .int .i64 R, .slice ba n bc] 35]) (fun x => tn - x.1) (0, List.replicate R false)
    ⟨Nat.zero_le _, by simp, fun r => by simp [has, List.getElem?_replicate]⟩ (g_done (by repeat (first | exact trivial | refine ⟨rfl, ?_⟩)) (List.Sublist.cons _ (List.Sublist.refl _))) fun x ⟨hi, hsl, hs⟩ => ?_
  obtain ⟨i, s⟩ := x
  simp only at hi hsl hs ⊢
  repeat (first | refine g_op rfl ?_ | refine g_then ?_ | refine g_nil ?_ | refine g_region ?_ | refine g_seq ?_)
  refine g_cond (fun h1 => ?_) (fun h1 => ?_)
  · have hilt : i < tn := by simpa using h1
    obtain ⟨t, htj⟩ := get_lt htn hilt
    have htt := hBok.2 t (List.mem_of_getElem? htj)
    obtain ⟨k, hk⟩ : ∃ k : Nat, t = k := ⟨t.toNat, by omega⟩
    subst hk
    have hkn : k < n := by omega
    have had2 : AddrIs ta tb to' := ⟨hta (ne_of_get htj)⟩
    have hli2 : LtIs i tn := ⟨hilt⟩
    obtain ⟨cs2, hcs2, rfl, _⟩ := htel i _ htj
    have hci2 : CellsIs w0 tb (to' + i * 1) _ := ⟨hcs2⟩
    obtain ⟨T, hT⟩ := get_lt hn hkn
    have hlk : LtIs k n := ⟨hkn⟩
    obtain ⟨csT, hcsT, pvT, lvT, tvT, rfl, _, _, hphisT, hlistT, htoT⟩ := hel k T hT
    obtain ⟨xa, xn, xc, xb, xo, rfl, hxn, hxnc, hxnb, hxc, hxa, hxel⟩ := hphisT
    obtain ⟨l2a, l2n, l2c, _, _, rfl, _⟩ := hlistT
    obtain ⟨t2a, t2n, t2c, _, _, rfl, _⟩ := htoT
    have hciT : CellsIs w0 bb (bo' + k * 6) _ := ⟨hcsT⟩
    obtain ⟨row, hrow⟩ := get_lt hrl.symm hkn
    have hadi : AddrIs ia ib io := ⟨hia (ne_of_get hrow)⟩
    obtain ⟨csr, hcsr, rv, rfl, hrv⟩ := hiel k row hrow
    have hciR : CellsIs w0 ib (io + k * 1) _ := ⟨hcsr⟩
    have hrowR := hrR row (List.mem_of_getElem? hrow)
    obtain ⟨ra, rn, rc, rb, ro, rfl, hrn, hrnc, hrnb, hrc, hra, hrel⟩ := hrv
    have hrnR : R = rn := by omega
    subst hrnR
    repeat (first | refine g_op rfl ?_ | refine g_then ?_ | refine g_nil ?_ | refine g_region ?_ | refine g_seq ?_ | refine g_alloc rfl fun _ _ => ?_ | refine g_storeAgg ?_ | refine g_block ?_ | refine g_skip ?_)
    rename_i p13 _
    refine g_loop (fun (x : Nat × List Bool) => x.1 ≤ R ∧ x.2.length = R ∧ ∀ r, has x.2 r ↔ (has s r ∨ (r < x.1 ∧ has row r))) (fun x => [(45, .int .i64 x.1), (43, .slice ra R rc), (44, .int .i64 R), (12, .int .i64 k), (13, .pointer (some ⟨p13, 0, none⟩)), (31, .int .i64 i), (29, .slice ta tn tc), (30, .int .i64 tn), (9, .slice (some ⟨ob, 0, none⟩) R R), (4, .pointer (some ⟨p4, 0, none⟩)), (1, .slice aa an ac), (2, .slice ia n ic), (3, .int .i64 b)]) (fun x => [vecB (some ⟨ob, 0, none⟩) R R x.2, Ent.box p13 [.slice xa xn xc, .slice l2a l2n l2c, .int .i64 T.kind, .bool T.on.reg, .int .i64 T.on.n, .slice t2a t2n t2c] 47, Ent.box p4 [nm, pa, .int .i64 R, .slice ba n bc] 35]) (fun x => R - x.1) (0, s)
      ⟨Nat.zero_le _, hsl, fun r => by simp⟩ ?_ fun x ⟨hj, hsl', hs'⟩ => ?_
    · refine g_sel [1, 0, 2] (by decide) ?_
      exact g_done (by repeat (first | exact trivial | refine ⟨rfl, ?_⟩)) (List.Sublist.refl _)
    obtain ⟨j, s'⟩ := x
    simp only at hj hsl' hs' ⊢
    repeat (first | refine g_op rfl ?_ | refine g_then ?_ | refine g_nil ?_ | refine g_region ?_ | refine g_seq ?_)
    refine g_cond (fun h2 => ?_) (fun h2 => ?_)
    · have hjlt : j < R := by simpa using h2
      obtain ⟨y, hy⟩ := get_lt hrn hjlt
      have hadr : AddrIs ra rb ro := ⟨hra (ne_of_get hy)⟩
      have hlj : LtIs j R := ⟨hjlt⟩
      obtain ⟨cs3, hcs3, rfl⟩ := hrel j y hy
      have hci3 : CellsIs w0 rb (ro + j * 1) _ := ⟨hcs3⟩
      obtain ⟨z, hz⟩ : ∃ z, s'[j]? = some z := ⟨_, List.getElem?_eq_getElem (by omega)⟩
      have hez : ElAt s' j z := ⟨hz⟩
      have hnew : ∀ r, has (s'.set j (z || y)) r ↔ (has s r ∨ (r < j + 1 ∧ has row r)) := fun r => by
        unfold has
        rw [List.getElem?_set]
        by_cases e : j = r
        · subst e
          have h3 := hs' j
          unfold has at h3
          rw [hz] at h3
          rw [if_pos rfl, if_pos (by omega), hy]
          cases z <;> cases y <;> simp at h3 ⊢ <;> first | exact h3 | (simp [h3])
        · rw [if_neg e]
          have h3 := hs' r
          unfold has at h3
          rw [h3]
          constructor
          · rintro (h | ⟨h, h4⟩)
            · exact .inl h
            · exact .inr ⟨by omega, h4⟩
          · rintro (h | ⟨h, h4⟩)
            · exact .inl h
            · exact .inr ⟨by omega, h4⟩
      unfold vecB
      cases z
      · repeat (first | refine g_op rfl ?_ | refine g_then ?_ | refine g_nil ?_ | refine g_region ?_ | refine g_seq ?_ | refine g_opS rfl ?_ | refine g_open ?_ | refine g_inBlock ?_ | refine g_block ?_ | refine g_skip ?_ | refine g_add rfl (by omega) (by omega) ?_ | refine g_storeV ?_)
        exact g_next (j + 1, s'.set j y) ⟨hjlt, by simpa using hsl', by simpa using hnew⟩ (by simp only; omega) (by repeat (first | exact trivial | refine ⟨rfl, ?_⟩)) (List.Sublist.refl _)
      · repeat (first | refine g_op rfl ?_ | refine g_then ?_ | refine g_nil ?_ | refine g_region ?_ | refine g_seq ?_ | refine g_opS rfl ?_ | refine g_pass rfl ?_ | refine g_inBlock ?_ | refine g_block ?_ | refine g_skip ?_ | refine g_add rfl (by omega) (by omega) ?_ | refine g_storeV ?_)
        exact g_next (j + 1, s'.set j true) ⟨hjlt, by simpa using hsl', by simpa using hnew⟩ (by simp only; omega) (by repeat (first | exact trivial | refine ⟨rfl, ?_⟩)) (List.Sublist.refl _)
    · have hge : j = R := by have := h2; simp at this; omega
      have hpm := preds_mem (by omega : b < bl.length) (show (k : Int) ∈ toOf bl b by rw [toOf_get hB]; exact List.mem_of_getElem? htj)
      have hag := aheadL_get hok hto (show k < bl.length by omega)
      have hada : AddrIs aa ab ao := ⟨haa (ne_of_get hag)⟩
      have hlka : LtIs k an := ⟨by rw [han]; exact (List.getElem?_eq_some_iff.1 hag).1⟩
      obtain ⟨csa, hcsa, av, rfl, hav⟩ := hael k _ hag
      have hciA : CellsIs w0 ab (ao + k * 1) _ := ⟨hcsa⟩
      have hav0 := hav
      obtain ⟨a2, a2n, a2c, _, _, rfl, _⟩ := hav
      have hTo := hf.block k T hT
      repeat (first | refine g_op rfl ?_ | refine g_then ?_ | refine g_region ?_ | refine g_seq ?_ | refine g_exit ?_ | refine g_thenExit ?_ | refine g_exitHere ?_)
      refine g_callV rfl (fun w hw => index_c _ (preds bl k) b w hpm (hav0.keep keeps_int hw.chg)) ?_
      have hidx : (preds bl k).idxOf b < (preds bl k).length := List.idxOf_lt_length_of_mem hpm
      generalize hix : (preds bl k).idxOf b = ix at hidx
      repeat (first | refine g_op rfl ?_ | refine g_then ?_ | refine g_nil ?_ | refine g_region ?_ | refine g_seq ?_ | refine g_block ?_)
      refine g_loop (fun (x : Nat × List Bool) => x.1 ≤ xn ∧ x.2.length = R ∧ ∀ r, has x.2 r ↔ (has s' r ∨ ∃ q p, q < x.1 ∧ T.phis[q]? = some p ∧ namesR [p.src[ix]?.getD noV] r = true)) (fun x => [(70, .int .i64 x.1), (68, .slice xa xn xc), (69, .int .i64 xn), (16, .int .i64 (ix : Nat)), (12, .int .i64 k), (13, .pointer (some ⟨p13, 0, none⟩)), (31, .int .i64 i), (29, .slice ta tn tc), (30, .int .i64 tn), (9, .slice (some ⟨ob, 0, none⟩) R R), (4, .pointer (some ⟨p4, 0, none⟩)), (1, .slice aa an ac), (2, .slice ia n ic), (3, .int .i64 b)]) (fun x => [vecB (some ⟨ob, 0, none⟩) R R x.2, Ent.box p13 [.slice xa xn xc, .slice l2a l2n l2c, .int .i64 T.kind, .bool T.on.reg, .int .i64 T.on.n, .slice t2a t2n t2c] 47, Ent.box p4 [nm, pa, .int .i64 R, .slice ba n bc] 35]) (fun x => xn - x.1) (0, s')
        ⟨Nat.zero_le _, hsl', fun r => by simp⟩ (g_done (by repeat (first | exact trivial | refine ⟨rfl, ?_⟩)) (List.Sublist.refl _)) fun x ⟨hj3, hsl3, hs3⟩ => ?_
      obtain ⟨m, s3⟩ := x
      simp only at hj3 hsl3 hs3 ⊢
      repeat (first | refine g_op rfl ?_ | refine g_then ?_ | refine g_nil ?_ | refine g_region ?_ | refine g_seq ?_)
      refine g_cond (fun h3 => ?_) (fun h3 => ?_)
      · have hmlt : m < xn := by simpa using h3
        obtain ⟨p, hp⟩ := get_lt hxn hmlt
        have hadx : AddrIs xa xb xo := ⟨hxa (ne_of_get hp)⟩
        have hlm : LtIs m xn := ⟨hmlt⟩
        obtain ⟨csp, hcsp, sv, rfl, _, hsv⟩ := hxel m p hp
        have hciP : CellsIs w0 xb (xo + m * 2) _ := ⟨hcsp⟩
        have hpo := hTo.phis p (List.mem_of_getElem? hp)
        obtain ⟨s2a, s2n, s2c, s2b, s2o, rfl, hs2n, _, _, _, hs2a, hs2el⟩ := hsv
        obtain ⟨v, hv⟩ : ∃ v, p.src[ix]? = some v := ⟨_, List.getElem?_eq_getElem (by rw [hpo.len]; exact hidx)⟩
        have hads : AddrIs s2a s2b s2o := ⟨hs2a (ne_of_get hv)⟩
        have hlix : LtIs ix s2n := ⟨by rw [hs2n, hpo.len]; exact hidx⟩
        obtain ⟨csv, hcsv, rfl, _⟩ := hs2el ix v hv
        have hciV : CellsIs w0 s2b (s2o + ix * 2) _ := ⟨hcsv⟩
        have hvo := hpo.vals v (List.mem_of_getElem? hv)
        repeat (first | refine g_op rfl ?_ | refine g_then ?_ | refine g_nil ?_ | refine g_region ?_ | refine g_seq ?_ | refine g_alloc rfl fun _ _ => ?_ | refine g_storeAgg ?_ | refine g_block ?_ | refine g_skip ?_)
        rename_i p18 _
        refine g_sel [1, 0, 2, 3] (by decide) ?_
        refine g_eqH (H1 := [vecB (some ⟨ob, 0, none⟩) R R s3] ++ [Ent.box p18 [.int .i64 p.dst, .slice s2a s2n s2c] 69, Ent.box p13 [.slice xa xn xc, .slice l2a l2n l2c, .int .i64 T.kind, .bool T.on.reg, .int .i64 T.on.n, .slice t2a t2n t2c] 47, Ent.box p4 [nm, pa, .int .i64 R, .slice ba n bc] 35]) rfl ?_
        refine g_callS (val := fun _ : Unit => .tuple #[]) (E := fun _ => [vecB (some ⟨ob, 0, none⟩) R R (takeV s3 v)]) (φ := fun _ => True) rfl (fun w hw => take_c (some ⟨ob, 0, none⟩) R R s3 hsl3 v hvo w hw.pre) fun _ _ => ?_
        simp only [List.cons_append, List.nil_append]
        repeat (first | refine g_then ?_ | refine g_nil ?_ | refine g_region ?_ | refine g_opS rfl ?_ | refine g_inBlock ?_ | refine g_add rfl (by omega) (by omega) ?_)
        refine g_next (m + 1, takeV s3 v) ⟨hmlt, by rw [takeV_length]; exact hsl3, fun r => ?_⟩ (by simp only; omega) (by repeat (first | exact trivial | refine ⟨rfl, ?_⟩)) (List.Sublist.cons_cons _ (List.Sublist.cons _ (List.Sublist.refl _)))
        simp only
        rw [has_takeV (by rw [hsl3]; exact hvo), hs3 r]
        have hnm : namesR [p.src[ix]?.getD noV] r = true ↔ (v.reg = true ∧ v.n = r) := by rw [hv]; simp [namesR]
        constructor
        · rintro ((h | ⟨q, p', h4, h5, h6⟩) | h)
          · exact .inl h
          · exact .inr ⟨q, p', by omega, h5, h6⟩
          · exact .inr ⟨m, p, by omega, hp, hnm.2 h⟩
        · rintro (h | ⟨q, p', h4, h5, h6⟩)
          · exact .inl (.inl h)
          · by_cases e : q = m
            · subst e
              rw [hp] at h5
              simp only [Option.some.injEq] at h5
              subst h5
              exact .inr (hnm.1 h6)
            · exact .inl (.inr ⟨q, p', by omega, h5, h6⟩)
      · have hge3 : m = xn := by have := h3; simp at this; omega
        repeat (first | refine g_then ?_ | refine g_nil ?_ | refine g_region ?_ | refine g_opS rfl ?_ | refine g_inBlock ?_ | refine g_add rfl (by omega) (by omega) ?_ | refine g_exit ?_ | refine g_thenExit ?_ | refine g_exitHere ?_)
        refine g_next (i + 1, s3) ⟨hilt, hsl3, fun r => ?_⟩ (by simp only; omega) (by repeat (first | exact trivial | refine ⟨rfl, ?_⟩)) (List.Sublist.cons_cons _ (List.Sublist.cons _ (List.Sublist.refl _)))
        simp only
        rw [hs3 r, hs' r, hs r]
        have htk : takesR bl k b r = true ↔ ∃ q p, q < m ∧ T.phis[q]? = some p ∧ namesR [p.src[ix]?.getD noV] r = true := by
          unfold takesR
          rw [phisOf_get hT, List.any_eq_true, hix]
          constructor
          · rintro ⟨p, hp, h⟩
            obtain ⟨q, hq⟩ := List.getElem?_of_mem hp
            exact ⟨q, p, by have := (List.getElem?_eq_some_iff.1 hq).1; omega, hq, h⟩
          · rintro ⟨q, p, _, hq, h⟩
            exact ⟨p, List.mem_of_getElem? hq, h⟩
        have hIn : inOf rows k r ↔ (r < j ∧ has row r) := by
          unfold inOf
          rw [hrow]
          constructor
          · rintro ⟨s, e, h⟩
            simp only [Option.some.injEq] at e
            subst e
            exact ⟨by have := (List.getElem?_eq_some_iff.1 h).1; omega, h⟩
          · rintro ⟨_, h⟩; exact ⟨row, rfl, h⟩
        rw [← htk, ← hIn]
        constructor
        · rintro ((⟨t, ⟨q, h4, h5⟩, h6⟩ | h) | h)
          · exact ⟨t, ⟨q, by omega, h5⟩, h6⟩
          · exact ⟨k, ⟨i, by omega, htj⟩, .inr h⟩
          · exact ⟨k, ⟨i, by omega, htj⟩, .inl h⟩
        · rintro ⟨t, ⟨q, h4, h5⟩, h6⟩
          by_cases e : q = i
          · subst e
            rw [htj] at h5
            have h7 : (k : Int) = t := by simpa using h5
            have : k = t := by omega
            subst this
            rcases h6 with h6 | h6
            · exact .inr h6
            · exact .inl (.inr h6)
          · exact .inl (.inl ⟨t, ⟨q, by omega, h5⟩, h6⟩)
  · have hge : i = tn := by have := h1; simp at this; omega
    repeat (first | refine g_op rfl ?_ | refine g_then ?_ | refine g_nil ?_ | refine g_region ?_ | refine g_seq ?_ | refine g_exit ?_ | refine g_thenExit ?_ | refine g_exitHere ?_ | refine g_ret ?_)
    refine g_ret1 rfl fun w hw => ⟨(ob, s), rfl, hw.sel [0] (by decide), hsl, fun r => ?_⟩
    simp only
    rw [hs r]
    unfold Beh
    rw [toOf_get hB]
    constructor
    · rintro ⟨t, ⟨q, _, hq⟩, h⟩; exact ⟨t, List.mem_of_getElem? hq, h⟩
    · rintro ⟨t, ht, h⟩
      obtain ⟨q, hq⟩ := List.getElem?_of_mem ht
      exact ⟨t, ⟨q, by have := (List.getElem?_eq_some_iff.1 hq).1; omega, hq⟩, h⟩
end Go.Proofs.YtbmnkjaelfjlhaaDoor


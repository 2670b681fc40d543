/- From the form's reading of an argument to the plain data, and from a walk's end to the row's post. -/
import Derived.Test.YtebajiafdkokjaaInst
import Derived.Test.YtebajiafdkokjaaData
import Derived.ProofKit
import Derived.Deep.Slices
namespace Go.Proofs.Ytebajiafdkokjaa
open Go Go.RowKit Go.ChangeShapes Go.WideShapes

section
variable {H : Type} {enc : TypeId × Value → H} {P : Program} {w : World} {base : Nat} {spare : Nat → Bool} {held : Bool}
theorem inI_of_wf {x : Int} (h : (Lit.int .i64 x).wf = true) : inI x := by
  simpa [inI, Lit.wf, IntKind.min, IntKind.max, IntKind.signed, IntKind.bits] using h
theorem choose_list {α : Type} {n : Nat} {p : Nat → α → Prop} (h : ∀ i, i < n → ∃ x, p i x) : ∃ l : List α, l.length = n ∧ ∀ i x, l[i]? = some x → p i x := by
  induction n with
  | zero => exact ⟨[], rfl, by simp⟩
  | succ n ih =>
    obtain ⟨l, hl, hp⟩ := ih (fun i hi => h i (by omega))
    obtain ⟨x, hx⟩ := h n (by omega)
    refine ⟨l ++ [x], by simp [hl], fun i y hy => ?_⟩
    by_cases hi : i < l.length
    · rw [List.getElem?_append_left hi] at hy; exact hp i y hy
    · rw [List.getElem?_append_right (by omega)] at hy
      have : i - l.length = 0 := by
        cases hk : i - l.length with
        | zero => rfl
        | succ k => rw [hk] at hy; simp at hy
      rw [this] at hy
      simp at hy
      subst hy
      have : i = n := by omega
      subst this; exact hx
theorem open_sl {α : Type} {V : World → α → List Value → Prop} {t e s : Nat} (ht : P.underlying t = some (.slice e)) (hs : P.cellsOf e = s) (hpos : 0 < s)
    (hV : ∀ fuel cs x, cs.length = s → DataW.trod enc P w base spare held fuel e cs = some x → ∃ u, V w u cs)
    {fuel : Nat} {v : Value} {x : DataW H × List MemPlace} (h : DataW.trod enc P w base spare held fuel t [v] = some x) : ∃ l, SlAt w v s l V := by
  rcases Deep.open_slice ht h with ⟨hcs, _⟩ | ⟨a, len, cap, m, n, D, Pl, hcs, _, hl, hm, hmm, _, hi⟩
  · simp only [List.cons.injEq, and_true] at hcs
    subst hcs
    exact ⟨[], none, 0, 0, 0, 0, rfl, rfl, Nat.le_refl _, by omega, by simp, by simp⟩
  · simp only [List.cons.injEq, and_true] at hcs
    subst hcs
    have hlm : len ≤ m := by rw [hmm]; split <;> omega
    obtain ⟨l, hll, hp⟩ := choose_list (α := α) (n := len) (p := fun i u => ∃ cs', w.cells? base (a.add (i * s)) s = some cs' ∧ V w u cs') (fun i hil => by
      obtain ⟨cs', hc, ht'⟩ := hi i (by omega)
      rw [hs] at hc
      obtain ⟨u, hu⟩ := hV n cs' _ (World.cells?_some hc).2.1 ht'
      exact ⟨u, cs', hc, hu⟩)
    refine ⟨l, some a, len, cap, a.block, a.off, rfl, hll.symm, hl, by simpa [maxLen] using hm, fun hne => ?_, fun i u hu => ?_⟩
    · have h0 : 0 < l.length := List.length_pos_iff.2 hne
      obtain ⟨cs', hc, _⟩ := hp 0 _ (List.getElem?_eq_getElem h0)
      obtain ⟨_, hlen, hat⟩ := World.cells?_some hc
      have h1 := hat 0 hpos
      rw [List.getElem?_eq_getElem (by omega)] at h1
      have := World.cell?_spot h1
      simp only [Nat.zero_mul, Addr.add_zero'] at this
      obtain ⟨b, o, sp⟩ := a
      simp only at this
      subst this; rfl
    · obtain ⟨cs', hc, hv⟩ := hp i u hu
      refine ⟨cs', fun j y hj => ?_, hv⟩
      obtain ⟨_, hlen, hat⟩ := World.cells?_some hc
      have hjl : j < s := by have := (List.getElem?_eq_some_iff.1 hj).1; omega
      have h1 := hat j hjl
      rw [hj] at h1
      have hsp : a.spot = none := by
        have h0 := hat 0 hpos
        rw [List.getElem?_eq_getElem (by omega), Addr.add_zero'] at h0
        have := World.cell?_spot h0
        unfold Addr.add at this
        split at this
        · exact this
        · rename_i hne
          have h0' : 0 < l.length := by have := (List.getElem?_eq_some_iff.1 hu).1; omega
          obtain ⟨cs0, hc0, _⟩ := hp 0 _ (List.getElem?_eq_getElem h0')
          obtain ⟨_, hlen0, hat0⟩ := World.cells?_some hc0
          have h3 := hat0 0 hpos
          rw [List.getElem?_eq_getElem (by omega)] at h3
          have := World.cell?_spot h3
          simpa only [Nat.zero_mul, Addr.add_zero'] using this
      obtain ⟨b, o, sp⟩ := a
      simp only at hsp
      subst hsp
      rw [Addr.add_lit, Addr.add_lit] at h1
      exact h1
theorem open_oneS {t f : Nat} {cs : List Value} {i j : Nat} {r : Option (DataW H × List MemPlace)} (h : DataW.trod enc P w base spare held f t ((cs.drop i).take j) = r) (hr : r.isSome = true) : ∃ x, DataW.trod enc P w base spare held f t ((cs.drop i).take j) = some x := by
  cases r with
  | none => cases hr
  | some x => exact ⟨x, h⟩
end

section
variable {H : Type} {enc : TypeId × Value → H} {w : World} {base : Nat} {spare : Nat → Bool} {held : Bool}
theorem field_of {t : Nat} {fs : Array Field} {fuel : Nat} {cs : List Value} {x : DataW H × List MemPlace} (ht : Try.prog.underlying t = some (.struct fs)) (h : DataW.trod enc Try.prog w base spare held fuel t cs = some x) :
    ∃ n, cs.length = Try.prog.cellsOf t ∧ ∀ (i T off : Nat), (fs[i]?).map (fun f => (f.type, f.offset)) = some (T, off) → ∃ y, DataW.trod enc Try.prog w base spare held n T ((cs.drop off).take (Try.prog.cellsOf T)) = some y := by
  obtain ⟨xs, n, _, _, hlen, hxl, hf⟩ := DataW.trod_struct ht h
  refine ⟨n, hlen, fun i T off hi => ?_⟩
  obtain ⟨f, hif, e⟩ := Option.map_eq_some_iff.1 hi
  simp only [Prod.mk.injEq] at e
  obtain ⟨rfl, rfl⟩ := e
  have h1 := hf i f hif
  have hlt : i < xs.length := by rw [hxl]; exact (Array.getElem?_eq_some_iff.1 hif).1
  rw [List.getElem?_eq_getElem hlt] at h1
  exact ⟨_, h1⟩
theorem cInt : Try.prog.cellsOf 3 = 1 := by kernel_rfl
theorem cBool : Try.prog.cellsOf 4 = 1 := by kernel_rfl
theorem cStr : Try.prog.cellsOf 9 = 1 := by kernel_rfl
theorem cInts : Try.prog.cellsOf 31 = 1 := by kernel_rfl
theorem cVal : Try.prog.cellsOf 27 = 2 := by kernel_rfl
theorem cVals : Try.prog.cellsOf 28 = 1 := by kernel_rfl
theorem cIns : Try.prog.cellsOf 30 = 8 := by kernel_rfl
theorem cInss : Try.prog.cellsOf 59 = 1 := by kernel_rfl
theorem cPhi : Try.prog.cellsOf 65 = 2 := by kernel_rfl
theorem cPhis : Try.prog.cellsOf 58 = 1 := by kernel_rfl
theorem cEnd : Try.prog.cellsOf 61 = 4 := by kernel_rfl
theorem cBlock : Try.prog.cellsOf 63 = 6 := by kernel_rfl
theorem cBlocks : Try.prog.cellsOf 54 = 1 := by kernel_rfl
theorem cFunc : Try.prog.cellsOf 56 = 4 := by kernel_rfl
theorem cFuncs : Try.prog.cellsOf 23 = 1 := by kernel_rfl
theorem cGlobal : Try.prog.cellsOf 33 = 3 := by kernel_rfl
theorem cGlobals : Try.prog.cellsOf 22 = 1 := by kernel_rfl
theorem cUnit : Try.prog.cellsOf 25 = 2 := by kernel_rfl

theorem o_int {fuel : Nat} {cs : List Value} {x : DataW H × List MemPlace} (h : DataW.trod enc Try.prog w base spare held fuel 3 cs = some x) : ∃ u, IntV w u cs := by
  obtain ⟨n, rfl, _, hw⟩ := DataW.trod_int Try.underlying3 h
  exact ⟨n, rfl, inI_of_wf hw⟩
theorem o_bool {fuel : Nat} {cs : List Value} {x : DataW H × List MemPlace} (h : DataW.trod enc Try.prog w base spare held fuel 4 cs = some x) : ∃ b, cs = [.bool b] := by
  obtain ⟨b, rfl, _⟩ := DataW.trod_bool Try.underlying4 h
  exact ⟨b, rfl⟩
theorem o_val {fuel : Nat} {cs : List Value} {x : DataW H × List MemPlace} (h : DataW.trod enc Try.prog w base spare held fuel 27 cs = some x) : ∃ u, ValV w u cs := by
  obtain ⟨n, hl, hf⟩ := field_of Try.underlying27 h
  rw [cVal] at hl
  match cs, hl with
  | [c0, c1], _ =>
    obtain ⟨y0, h0⟩ := hf 0 4 0 rfl
    obtain ⟨y1, h1⟩ := hf 1 3 1 rfl
    rw [cBool] at h0; rw [cInt] at h1
    obtain ⟨b, hb⟩ := o_bool h0
    obtain ⟨m, hm, hi⟩ := o_int h1
    simp at hb hm
    subst hb hm
    exact ⟨⟨b, m⟩, rfl, hi⟩
theorem o_ints {fuel : Nat} {v : Value} {x : DataW H × List MemPlace} (h : DataW.trod enc Try.prog w base spare held fuel 31 [v] = some x) : ∃ l, SlAt w v 1 l IntV :=
  open_sl Try.underlying31 cInt (by omega) (fun _ _ _ _ hh => o_int hh) h
theorem o_vals {fuel : Nat} {v : Value} {x : DataW H × List MemPlace} (h : DataW.trod enc Try.prog w base spare held fuel 28 [v] = some x) : ∃ l, SlAt w v 2 l ValV :=
  open_sl Try.underlying28 cVal (by omega) (fun _ _ _ _ hh => o_val hh) h
theorem o_phi {fuel : Nat} {cs : List Value} {x : DataW H × List MemPlace} (h : DataW.trod enc Try.prog w base spare held fuel 65 cs = some x) : ∃ u, PhiV w u cs := by
  obtain ⟨n, hl, hf⟩ := field_of Try.underlying65 h
  rw [cPhi] at hl
  match cs, hl with
  | [c0, c1], _ =>
    obtain ⟨y0, h0⟩ := hf 0 3 0 rfl
    obtain ⟨y1, h1⟩ := hf 1 28 1 rfl
    rw [cInt] at h0; rw [cVals] at h1
    obtain ⟨m, hm, hi⟩ := o_int h0
    simp at hm
    subst hm
    obtain ⟨l, hs⟩ := o_vals h1
    exact ⟨⟨m, l⟩, c1, rfl, hi, hs⟩
theorem o_ins {fuel : Nat} {cs : List Value} {x : DataW H × List MemPlace} (h : DataW.trod enc Try.prog w base spare held fuel 30 cs = some x) : ∃ u, InsV w u cs := by
  obtain ⟨n, hl, hf⟩ := field_of Try.underlying30 h
  rw [cIns] at hl
  match cs, hl with
  | [c0, c1, c2, c3, c4, c5, c6, c7], _ =>
    obtain ⟨y0, h0⟩ := hf 0 3 0 rfl
    obtain ⟨y1, h1⟩ := hf 1 3 1 rfl
    obtain ⟨y2, h2⟩ := hf 2 27 2 rfl
    obtain ⟨y3, h3⟩ := hf 3 27 4 rfl
    obtain ⟨y4, h4⟩ := hf 4 3 6 rfl
    obtain ⟨y5, h5⟩ := hf 5 28 7 rfl
    rw [cInt] at h0 h1 h4; rw [cVal] at h2 h3; rw [cVals] at h5
    obtain ⟨a0, e0, i0⟩ := o_int h0
    obtain ⟨a1, e1, i1⟩ := o_int h1
    obtain ⟨a2, e2, i2⟩ := o_val h2
    obtain ⟨a3, e3, i3⟩ := o_val h3
    obtain ⟨a4, e4, i4⟩ := o_int h4
    obtain ⟨l, hs⟩ := o_vals h5
    simp at e0 e1 e2 e3 e4
    obtain ⟨e2, e2'⟩ := e2
    obtain ⟨e3, e3'⟩ := e3
    subst e0 e1 e2 e2' e3 e3' e4
    exact ⟨⟨a0, a1, a2, a3, a4, l⟩, c7, rfl, i0, i1, i2, i3, i4, hs⟩
theorem o_phis {fuel : Nat} {v : Value} {x : DataW H × List MemPlace} (h : DataW.trod enc Try.prog w base spare held fuel 58 [v] = some x) : ∃ l, SlAt w v 2 l PhiV :=
  open_sl Try.underlying58 cPhi (by omega) (fun _ _ _ _ hh => o_phi hh) h
theorem o_inss {fuel : Nat} {v : Value} {x : DataW H × List MemPlace} (h : DataW.trod enc Try.prog w base spare held fuel 59 [v] = some x) : ∃ l, SlAt w v 8 l InsV :=
  open_sl Try.underlying59 cIns (by omega) (fun _ _ _ _ hh => o_ins hh) h
theorem o_block {fuel : Nat} {cs : List Value} {x : DataW H × List MemPlace} (h : DataW.trod enc Try.prog w base spare held fuel 63 cs = some x) : ∃ u, BlockV w u cs := by
  obtain ⟨n, hl, hf⟩ := field_of Try.underlying63 h
  rw [cBlock] at hl
  match cs, hl with
  | [c0, c1, c2, c3, c4, c5], _ =>
    obtain ⟨y0, h0⟩ := hf 0 58 0 rfl
    obtain ⟨y1, h1⟩ := hf 1 59 1 rfl
    obtain ⟨y2, h2⟩ := hf 2 61 2 rfl
    rw [cPhis] at h0; rw [cInss] at h1; rw [cEnd] at h2
    obtain ⟨lp, sp⟩ := o_phis h0
    obtain ⟨li, si⟩ := o_inss h1
    obtain ⟨m, hm, hg⟩ := field_of Try.underlying61 h2
    obtain ⟨z0, k0⟩ := hg 0 3 0 rfl
    obtain ⟨z1, k1⟩ := hg 1 27 1 rfl
    obtain ⟨z2, k2⟩ := hg 2 31 3 rfl
    rw [cInt] at k0; rw [cVal] at k1; rw [cInts] at k2
    obtain ⟨a0, e0, i0⟩ := o_int k0
    obtain ⟨a1, e1, i1⟩ := o_val k1
    obtain ⟨lt, st⟩ := o_ints k2
    simp at e0 e1
    obtain ⟨e1, e1'⟩ := e1
    subst e0 e1 e1'
    exact ⟨⟨lp, li, a0, a1, lt⟩, c0, c1, c5, rfl, i0, i1, sp, si, st⟩
theorem o_blocks {fuel : Nat} {v : Value} {x : DataW H × List MemPlace} (h : DataW.trod enc Try.prog w base spare held fuel 54 [v] = some x) : ∃ l, SlAt w v 6 l BlockV :=
  open_sl Try.underlying54 cBlock (by omega) (fun _ _ _ _ hh => o_block hh) h
theorem o_func {fuel : Nat} {cs : List Value} {x : DataW H × List MemPlace} (h : DataW.trod enc Try.prog w base spare held fuel 56 cs = some x) : ∃ u, FuncV w u cs := by
  obtain ⟨n, hl, hf⟩ := field_of Try.underlying56 h
  rw [cFunc] at hl
  match cs, hl with
  | [c0, c1, c2, c3], _ =>
    obtain ⟨y0, h0⟩ := hf 0 9 0 rfl
    obtain ⟨y1, h1⟩ := hf 1 3 1 rfl
    obtain ⟨y2, h2⟩ := hf 2 3 2 rfl
    obtain ⟨y3, h3⟩ := hf 3 54 3 rfl
    rw [cStr] at h0; rw [cInt] at h1 h2; rw [cBlocks] at h3
    obtain ⟨s, e0, _, _⟩ := DataW.trod_string Try.underlying9 h0
    obtain ⟨a1, e1, i1⟩ := o_int h1
    obtain ⟨a2, e2, i2⟩ := o_int h2
    obtain ⟨l, hs⟩ := o_blocks h3
    simp at e0 e1 e2
    subst e0 e1 e2
    exact ⟨⟨s, a1, a2, l⟩, c3, rfl, i1, i2, hs⟩
theorem o_global {fuel : Nat} {cs : List Value} {x : DataW H × List MemPlace} (h : DataW.trod enc Try.prog w base spare held fuel 33 cs = some x) : ∃ u, GlobalV w u cs := by
  obtain ⟨n, hl, hf⟩ := field_of Try.underlying33 h
  rw [cGlobal] at hl
  match cs, hl with
  | [c0, c1, c2], _ =>
    obtain ⟨y0, h0⟩ := hf 0 9 0 rfl
    obtain ⟨y1, h1⟩ := hf 1 3 1 rfl
    obtain ⟨y2, h2⟩ := hf 2 31 2 rfl
    rw [cStr] at h0; rw [cInt] at h1; rw [cInts] at h2
    obtain ⟨s, e0, _, _⟩ := DataW.trod_string Try.underlying9 h0
    obtain ⟨a1, e1, i1⟩ := o_int h1
    obtain ⟨l, hs⟩ := o_ints h2
    simp at e0 e1
    subst e0 e1
    exact ⟨⟨s, a1, l⟩, c2, rfl, i1, hs⟩
theorem o_unit {fuel : Nat} {cs : List Value} {x : DataW H × List MemPlace} (h : DataW.trod enc Try.prog w base spare held fuel 25 cs = some x) : ∃ u, UnitV w u cs := by
  obtain ⟨n, hl, hf⟩ := field_of Try.underlying25 h
  rw [cUnit] at hl
  match cs, hl with
  | [c0, c1], _ =>
    obtain ⟨y0, h0⟩ := hf 0 22 0 rfl
    obtain ⟨y1, h1⟩ := hf 1 23 1 rfl
    rw [cGlobals] at h0; rw [cFuncs] at h1
    obtain ⟨lg, sg⟩ := open_sl Try.underlying22 cGlobal (by omega) (fun _ _ _ _ hh => o_global hh) h0
    obtain ⟨lf, sf⟩ := open_sl Try.underlying23 cFunc (by omega) (fun _ _ _ _ hh => o_func hh) h1
    exact ⟨⟨lg, lf⟩, c0, c1, rfl, sg, sf⟩
end

/-! ### From the walk to the row -/
theorem own : ownKnob Try.prog.godebug = none := by kernel_rfl
theorem laidOut : laidOutB Try.prog = true := by kernel_rfl
theorem trodAll_below {H : Type} {enc : TypeId × Value → H} {W W' : World} (hb : Below W.heap.size W W') : ∀ (ts : List TypeId) (vs : List Value) (ds : List (DataW H)) (ps : List MemPlace),
    (∀ t ∈ ts, Try.prog.readableRec t = true ∧ t < Try.prog.types.size) → DataW.TrodAll enc Try.prog W 0 (fun _ => true) true ts vs ds ps → DataW.TrodAll enc Try.prog W' 0 (fun b => decide (b < W.heap.size)) true ts vs ds ps
  | [], vs, ds, ps, _, h => by obtain ⟨rfl, rfl, rfl⟩ := trodAll_nil h; exact rfl
  | t :: ts, vs, ds, ps, hr, h => by
    obtain ⟨v, vs', d, ds', p, q, rfl, rfl, rfl, h0, h1⟩ := trodAll_cons h
    have lt0 : ∀ x ∈ p, x.block < W.heap.size := by obtain ⟨m, hm⟩ := h0; exact DataW.trod_lt m _ _ _ hm
    exact ⟨p, q, Below.trod laidOut (hr t (by simp)).1 (hr t (by simp)).2 h0 hb lt0, trodAll_below hb ts vs' ds' q (fun u hu => hr u (by simp [hu])) h1, rfl⟩
/-- a law that returns true wherever its arguments can be read, and writes nothing that was there -/
theorem law_post {k : FuncId} {fn : Func} {s : ChangeSpec} {ts : List TypeId} (hp : fn.params.toList = ts) (hres : fn.resultTypes = #[4]) (hvars : s.vars = [])
    (hts : ∀ t ∈ ts, Try.prog.readableRec t = true ∧ t < Try.prog.types.size)
    {H : Type} {enc : TypeId × Value → H} {W : World} {args : Array Value} {ds gs : List (DataW H)} {before : List MemPlace}
    (hfn : ds.length = ts.length → s.fn H ds = { results := [.lit (.bool true)], args := ds })
    (hW : DataW.Whole enc Try.prog fn.params.toList s.vars false W args.toList ds gs before)
    (hwalk : ∀ p, DataW.TrodAll enc Try.prog W 0 (fun _ => true) true ts args.toList ds p → RetV Try.prog k args.toList W (.bool true)) :
    Calls Try.prog k args W fun e W' => ∃ v, e = .returned v ∧ s.post enc Try.prog fn false true false false W args v W' := by
  have hW' := hW
  obtain ⟨p, q, hA, hV, rfl, hfz, hnd⟩ := hW
  rw [hp] at hA
  rw [hvars] at hV
  obtain ⟨rfl, rfl⟩ := trodVars_none hV
  have hlen : ∀ (ts : List TypeId) (vs : List Value) (ds : List (DataW H)) (ps : List MemPlace), DataW.TrodAll enc Try.prog W 0 (fun _ => true) true ts vs ds ps → ds.length = ts.length := by
    intro ts
    induction ts with
    | nil => intro vs ds ps h; obtain ⟨_, rfl, _⟩ := trodAll_nil h; rfl
    | cons t ts ih => intro vs ds ps h; obtain ⟨v, vs', d, ds', p, q, rfl, rfl, rfl, h0, h1⟩ := trodAll_cons h; simp [ih _ _ _ h1]
  have hs := hfn (hlen _ _ _ _ hA)
  have h3 : Calls Try.prog k args W fun e w' => ∃ u, e = .returned u ∧ u = .bool true ∧ Chg NoS W w' := by
    have := callsIn_wide.1 (hwalk _ hA)
    simpa using this
  refine h3.mono fun e W' ⟨u, he, hu, hc⟩ => ?_
  subst hu
  refine ⟨_, he, ds, [], _, [], p, [], hW', ?_, ?_, ?_, hc.below.frame _, fun h => by cases h⟩
  · rw [List.append_nil, hs, hres]
    exact trodAll_mk1 (shut_bool Try.underlying4 _)
  · rw [List.append_nil, hs, hp]
    exact trodAll_below hc.below _ _ _ _ hts hA
  · rw [List.append_nil, hs, hvars]
    exact rfl
end Go.Proofs.Ytebajiafdkokjaa

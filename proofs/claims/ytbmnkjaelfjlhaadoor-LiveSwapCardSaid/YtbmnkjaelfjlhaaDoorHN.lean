/- Texts joined: Same Many Sim Pass Agree SwapP. -/
import Derived.Test.YtbmnkjaelfjlhaaDoorGC
import Derived.Test.YtbmnkjaelfjlhaaDoorGE
import Derived.Test.YtbmnkjaelfjlhaaDoorGF
import Derived.Test.YtbmnkjaelfjlhaaDoorHA
import Derived.Test.YtbmnkjaelfjlhaaDoorHI
import Derived.Test.YtbmnkjaelfjlhaaDoorHK
/- turnerysame.Vals, Ins, Block, Func, Globals, Units: of two readings of the same they tell that they are the same. -/
namespace Go.Proofs.YtbmnkjaelfjlhaaDoor
open Go Go.RowKit
attribute [local irreducible] wpListIn Code.wpIn Exit.then Exit.inBlock bodyPost wpQuiet wpAnyIn wpAnyH bodyPostM
set_option maxHeartbeats 4000000

end Go.Proofs.YtbmnkjaelfjlhaaDoor


/- turneryref3.Many, Large; turnerysame.None; turnerylaw3.given. -/
namespace Go.Proofs.YtbmnkjaelfjlhaaDoor
open Go Go.RowKit
attribute [local irreducible] wpListIn Code.wpIn Exit.then Exit.inBlock bodyPost wpQuiet wpAnyIn wpAnyH bodyPostM
set_option maxHeartbeats 4000000

theorem many_c (nm pa re : Value) (bl : List LBlock) (bs : Value) (w0 : World) (hbs : SlAt w0 bs 6 bl BlockV) (hlen : bl.length ≤ 1000) (hb : ∀ b ∈ bl, b.phis.length ≤ 1000 ∧ b.list.length ≤ 1000) :
    RetV Tryd.prog 33 [.agg #[nm, pa, re, bs]] w0 (.int .i64 (manyL bl : Nat)) := by
  obtain ⟨ba, n, bc, bb, bo, rfl, rfl, hnc, hnb, hbc, hba, hel⟩ := hbs
  refine ret_enter Tryd.func33 rfl Tryd.ntmps33 rfl (Wd.nil NoS w0) ?_
  repeat (first | refine g_op rfl ?_ | refine g_then ?_ | refine g_nil ?_ | refine g_region ?_ | refine g_seq ?_ | refine g_box rfl fun _ _ => ?_ | refine g_block ?_)
  rename_i p1 _
  have hml := many_le hb
  refine g_loop (fun (i : Nat) => i ≤ bl.length) (fun i => [(4, .int .i64 i), (3, .int .i64 (manyL (bl.take i))), (1, .pointer (some ⟨p1, 0, none⟩))]) (fun _ => [Ent.box p1 [nm, pa, re, .slice ba bl.length bc] 35]) (fun i => bl.length - i) 0 (Nat.zero_le _) (g_done (by repeat (first | exact trivial | refine ⟨rfl, ?_⟩)) (by simp)) fun i hi => ?_
  repeat (first | refine g_op rfl ?_ | refine g_then ?_ | refine g_nil ?_ | refine g_region ?_ | refine g_seq ?_)
  refine g_cond (fun h1 => ?_) (fun h1 => ?_)
  · have hlt : i < bl.length := by simpa using h1
    obtain ⟨B, hB⟩ : ∃ B, bl[i]? = some B := ⟨_, List.getElem?_eq_getElem hlt⟩
    have had : AddrIs ba bb bo := ⟨hba (ne_of_get hB)⟩
    have hli : LtIs i bl.length := ⟨hlt⟩
    obtain ⟨cs, hcs, pv, lv, tv, rfl, _, _, hpv, hlv, htv⟩ := hel i B hB
    obtain ⟨pa', pn, pc, _, _, rfl, rfl, _⟩ := hpv
    obtain ⟨la, ln, lc, _, _, rfl, rfl, _⟩ := hlv
    have hci : CellsIs w0 bb (bo + i * 6) _ := ⟨hcs⟩
    have hBl := hb B (List.mem_of_getElem? hB)
    have hm := hml i
    have hmt := many_take hB
    repeat (first | refine g_then ?_ | refine g_seq ?_ | refine g_block ?_ | refine g_skip ?_)
    refine g_draw mixed (by kernel_rfl) ?_
    repeat (first | refine q_op rfl ?_ | refine q_opS rfl ?_ | refine q_add rfl (by omega) (by omega) ?_ | refine q_nil ?_)
    repeat (first | refine g_op rfl ?_ | refine g_then ?_ | refine g_nil ?_ | refine g_region ?_ | refine g_opS rfl ?_ | refine g_inBlock ?_ | refine g_add rfl (by omega) (by omega) ?_)
    rw [show (manyL (bl.take i) : Int) + (B.phis.length : Int) + (B.list.length : Int) = (manyL (bl.take (i + 1)) : Nat) by omega, show (i : Int) + 1 = ((i + 1 : Nat) : Int) by omega]
    exact g_next (i + 1) hlt (by omega) (by repeat (first | exact trivial | refine ⟨rfl, ?_⟩)) (List.Sublist.refl _)
  have hge : i = bl.length := by have := h1; simp at this; omega
  subst hge
  rw [List.take_length]
  repeat (first | refine g_op rfl ?_ | refine g_then ?_ | refine g_nil ?_ | refine g_region ?_ | refine g_seq ?_ | refine g_exit ?_ | refine g_thenExit ?_ | refine g_exitHere ?_ | refine g_ret ?_)
  exact g_retV rfl rfl
end Go.Proofs.YtbmnkjaelfjlhaaDoor


/- A run of one unit beside a run of another one. No program in sight. -/
namespace Go.Proofs.YtbmnkjaelfjlhaaDoor
open Go Go.RowKit

/-! ### Steps that go on -/
def Goes (v : LUnit) : Nat → Mac → Mac → Prop
  | 0, t, t' => t = t'
  | k + 1, t, t' => ∃ t1, stepM v t = .inl t1 ∧ Goes v k t1 t'
theorem goes_run {v : LUnit} : ∀ {k : Nat} {t t' : Mac}, Goes v k t t' → ∀ m, runM v (k + m) t = runM v m t'
  | 0, _, _, h, m => by rw [show _ = _ from h, Nat.zero_add]
  | k + 1, t, t', ⟨t1, h1, h2⟩, m => by
    rw [show k + 1 + m = (k + m) + 1 by omega, runM, h1]
    exact goes_run h2 m
theorem Goes.one {v : LUnit} {t t' : Mac} (h : stepM v t = .inl t') : Goes v 1 t t' := ⟨t', h, rfl⟩
theorem Goes.trans {v : LUnit} : ∀ {k j : Nat} {a b c : Mac}, Goes v k a b → Goes v j b c → Goes v (k + j) a c
  | 0, j, a, b, c, h, h2 => by rw [show a = b from h, Nat.zero_add]; exact h2
  | k + 1, j, a, b, c, ⟨t1, h1, h⟩, h2 => by rw [show k + 1 + j = (k + j) + 1 by omega]; exact ⟨t1, h1, h.trans h2⟩
theorem endM_fin {u : LUnit} {s : Mac} {B : LBlock} {f : Fin} (h : endM u s B = .inr f) : f = s.stop 0 (valM s.top B.on) := by
  unfold endM at h
  split at h
  · cases h
  split at h
  · cases h
  split at h
  · exact (Sum.inr.inj h).symm
  · cases h
theorem insM_fin {u : LUnit} {s : Mac} {x : LIns} {f : Fin} (h : insM u s x = .inr f) : ∃ c : Int, c ≠ 1 ∧ f = s.stop c 0 := by
  unfold insM at h
  simp only at h
  repeat' (split at h)
  all_goals first
    | (cases h; done)
    | exact ⟨_, by decide, (Sum.inr.inj h).symm⟩
theorem step_steps {u : LUnit} {s s' : Mac} (h : stepM u s = .inl s') : s'.steps = s.steps + 1 := by
  rw [stepM_eq] at h
  split at h
  · exact endM_steps h
  · exact insM_steps h
theorem step_finS {u : LUnit} {s : Mac} {f : Fin} (h : stepM u s = .inr f) : f.steps = s.steps + 1 ∧ f.state ≠ 1 := by
  rw [stepM_eq] at h
  split at h
  · rw [endM_fin h]; exact ⟨rfl, show (0 : Int) ≠ 1 by decide⟩
  · obtain ⟨c, h1, h2⟩ := insM_fin h
    rw [h2]; exact ⟨rfl, h1⟩
theorem goes_steps {v : LUnit} : ∀ {k : Nat} {t t' : Mac}, Goes v k t t' → t'.steps = t.steps + k
  | 0, t, t', h => by rw [show t = t' from h]; rfl
  | k + 1, t, t', ⟨t1, h1, h2⟩ => by rw [goes_steps h2, step_steps h1]; omega

/-! ### What one run does in a step, the other one does in some steps of its own -/
structure Alike (f g : Fin) : Prop where
  state : g.state = f.state
  value : g.value = f.value
  out : g.out = f.out
def Sim (u v : LUnit) (lo hi : Nat) (R : Mac → Mac → Prop) : Prop := ∀ s t, R s t →
  (∀ s', stepM u s = .inl s' → ∃ k t', lo ≤ k ∧ k ≤ hi ∧ Goes v k t t' ∧ R s' t') ∧
  (∀ f, stepM u s = .inr f → ∃ k t' g, lo ≤ k + 1 ∧ k + 1 ≤ hi ∧ Goes v k t t' ∧ stepM v t' = .inr g ∧ Alike f g)
theorem sim_run {u v : LUnit} {lo hi : Nat} {R : Mac → Mac → Prop} (h : Sim u v lo hi R) : ∀ (n : Nat) (s t : Mac) (m : Nat), R s t → (runM u n s).state ≠ 1 → hi * n ≤ m →
    Alike (runM u n s) (runM v m t) ∧ ∃ i j, (runM u n s).steps = s.steps + i ∧ (runM v m t).steps = t.steps + j ∧ lo * i ≤ j ∧ j ≤ hi * i
  | 0, s, t, m, _, h1, _ => absurd rfl h1
  | n + 1, s, t, m, hR, h1, hm => by
    rw [Nat.mul_add, Nat.mul_one] at hm
    obtain ⟨hg, hf⟩ := h s t hR
    rw [runM] at h1 ⊢
    cases he : stepM u s with
    | inl s' =>
      rw [he] at h1
      simp only at h1 ⊢
      obtain ⟨k, t', hlo, hhi, hgo, hR'⟩ := hg s' he
      obtain ⟨q, rfl⟩ : ∃ q, m = k + q := ⟨m - k, by omega⟩
      rw [goes_run hgo]
      obtain ⟨ha, i, j, e1, e2, e3, e4⟩ := sim_run h n s' t' q hR' h1 (by omega)
      have h5 := step_steps he
      have h6 := goes_steps hgo
      refine ⟨ha, i + 1, j + k, by omega, by omega, ?_, ?_⟩
      · rw [Nat.mul_add]; omega
      · rw [Nat.mul_add]; omega
    | inr f =>
      simp only
      obtain ⟨k, t', g, hlo, hhi, hgo, hst, ha⟩ := hf f he
      obtain ⟨q, rfl⟩ : ∃ q, m = k + (q + 1) := ⟨m - k - 1, by omega⟩
      rw [goes_run hgo, runM, hst]
      simp only
      have h5 := (step_finS he).1
      have h6 := goes_steps hgo
      have h7 := (step_finS hst).1
      exact ⟨ha, 1, k + 1, h5, by omega, by omega, by omega⟩

/-! ### Frames side by side -/
inductive Stk (FR : Int → Int → Frm → Frm → Prop) : List Frm → List Frm → Int → Int → Prop
  | nil (d e : Int) : Stk FR [] [] d e
  | add {l m : List Frm} {f g : Frm} {d e : Int} : Stk FR l m f.dst g.dst → FR d e f g → Stk FR (l ++ [f]) (m ++ [g]) d e
theorem Stk.len {FR : Int → Int → Frm → Frm → Prop} {l m : List Frm} {d e : Int} (h : Stk FR l m d e) : m.length = l.length := by
  induction h with
  | nil => rfl
  | add _ _ ih => simp [ih]
theorem Stk.cases' {FR : Int → Int → Frm → Frm → Prop} {l' m : List Frm} {d e : Int} (h : Stk FR l' m d e) : (l' = [] ∧ m = []) ∨ ∃ l f m' g, l' = l ++ [f] ∧ m = m' ++ [g] ∧ Stk FR l m' f.dst g.dst ∧ FR d e f g := by
  cases h with
  | nil => exact .inl ⟨rfl, rfl⟩
  | add h1 h2 => exact .inr ⟨_, _, _, _, rfl, rfl, h1, h2⟩
structure RelM (FR : Int → Int → Frm → Frm → Prop) (FT : Frm → Frm → Prop) (s t : Mac) : Prop where
  mem : t.mem = s.mem
  inp : t.inp = s.inp
  out : t.out = s.out
  stk : Stk FR s.rest t.rest s.top.dst t.top.dst
  top : FT s.top t.top
theorem ins_sim {u v : LUnit} {s t : Mac} {x y : LIns} (hop : y.op = x.op) (hfn : y.fn = x.fn) (ha : valM t.top y.a = valM s.top x.a) (hb : valM t.top y.b = valM s.top x.b) (hargs : x.op = 20 → y.args.map (valM t.top) = x.args.map (valM s.top))
    (hm : t.mem = s.mem) (hi : t.inp = s.inp) (ho : t.out = s.out) (hl : t.rest.length = s.rest.length) (hdx : x.op = 19 ∨ x.op = 22 → x.dst < 0) (hdy : x.op = 19 ∨ x.op = 22 → y.dst < 0) :
    (∃ f g, insM u s x = .inr f ∧ insM v t y = .inr g ∧ Alike f g) ∨
    (x.op = 20 ∧ insM u s x = .inl (enterM u s x.fn.toNat x.dst (x.args.map (valM s.top))) ∧ insM v t y = .inl (enterM v t x.fn.toNat y.dst (x.args.map (valM s.top)))) ∨
    (x.op ≠ 20 ∧ ∃ mem inp out n, insM u s x = .inl { s with mem := mem, inp := inp, out := out, top := s.top.set x.dst n } ∧ insM v t y = .inl { t with mem := mem, inp := inp, out := out, top := t.top.set y.dst n }) := by
  obtain ⟨smem, sinp, sout, ss, sr, st, sc⟩ := s
  obtain ⟨tmem, tinp, tout, ts, tr, tt, tc⟩ := t
  simp only at ha hb hargs hm hi ho hl
  subst hm hi ho
  have hset : ∀ (f : Frm) (d n : Int), d < 0 → f.set d n = f := fun f d n h => by
    unfold Frm.set setR
    rw [if_neg (by omega)]
  unfold insM
  simp only [hop, hfn, ha, hb, hl]
  by_cases h1 : x.op = 18 ∨ x.op = 19
  · simp only [if_pos h1]
    by_cases hw : (!within (valM st x.a) 0 ((tmem.length : Int) - 1)) = true
    · simp only [hw, if_true]
      exact .inl ⟨_, _, rfl, rfl, rfl, rfl, rfl⟩
    · simp only [hw]
      refine .inr (.inr ⟨by omega, ?_⟩)
      by_cases h9 : x.op = 19
      · simp only [h9, if_true]
        refine ⟨tmem.set (valM st x.a).toNat (valM st x.b), tinp, tout, 0, ?_, ?_⟩
        · rw [hset _ _ _ (hdx (.inl h9))]; rfl
        · rw [hset _ _ _ (hdy (.inl h9))]; rfl
      · simp only [h9, if_false]
        exact ⟨_, _, _, _, rfl, rfl⟩
  simp only [if_neg h1]
  by_cases h2 : x.op = 20
  · simp only [if_pos h2, hargs h2]
    by_cases hd : sr.length + 1 = 30
    · simp only [hd, if_true]
      exact .inl ⟨_, _, rfl, rfl, rfl, rfl, rfl⟩
    · simp only [hd, if_false]
      exact .inr (.inl ⟨h2, by trivial, by trivial⟩)
  simp only [if_neg h2]
  by_cases h3 : x.op = 21
  · simp only [if_pos h3]
    exact .inr (.inr ⟨by omega, _, _, _, _, rfl, rfl⟩)
  simp only [if_neg h3]
  by_cases h4 : x.op = 22
  · simp only [if_pos h4]
    by_cases hd : tout.length = 200
    · simp only [hd, if_true]
      exact .inl ⟨_, _, rfl, rfl, rfl, rfl, rfl⟩
    · simp only [hd, if_false]
      refine .inr (.inr ⟨by omega, tmem, tinp, tout ++ [valM st x.a], 0, ?_, ?_⟩)
      · rw [hset _ _ _ (hdx (.inr h4))]
      · rw [hset _ _ _ (hdy (.inr h4))]
  simp only [if_neg h4]
  cases twoL x.op (valM st x.a) (valM st x.b) with
  | none => exact .inl ⟨_, _, rfl, rfl, rfl, rfl, rfl⟩
  | some n => exact .inr (.inr ⟨h2, _, _, _, _, rfl, rfl⟩)
theorem ret_sim {u v : LUnit} {FR : Int → Int → Frm → Frm → Prop} {s t : Mac} {B C : LBlock} (h2 : B.kind ≠ 2) (h3 : B.kind ≠ 3) (hk : C.kind = B.kind) (hon : valM t.top C.on = valM s.top B.on) (ho : t.out = s.out) (hs : Stk FR s.rest t.rest s.top.dst t.top.dst) :
    (∃ f g, endM u s B = .inr f ∧ endM v t C = .inr g ∧ Alike f g) ∨
    (∃ l f m g, s.rest = l ++ [f] ∧ t.rest = m ++ [g] ∧ endM u s B = .inl { s with rest := l, top := f.set s.top.dst (valM s.top B.on) } ∧ endM v t C = .inl { t with rest := m, top := g.set t.top.dst (valM s.top B.on) } ∧ Stk FR l m f.dst g.dst ∧ FR s.top.dst t.top.dst f g) := by
  unfold endM
  rw [hk, hon]
  simp only [if_neg h2, if_neg h3]
  rcases hs.cases' with ⟨e1, e2⟩ | ⟨l, f, m, g, e1, e2, e3, e4⟩
  · refine .inl ⟨s.stop 0 (valM s.top B.on), t.stop 0 (valM s.top B.on), by rw [e1]; rfl, by rw [e2]; rfl, rfl, rfl, ho⟩
  · refine .inr ⟨l, f, m, g, e1, e2, ?_, ?_, e3, e4⟩
    · rw [e1]; simp
    · rw [e2]; simp
theorem jump_sim {u v : LUnit} {s t : Mac} {B C : LBlock} (hB : B.kind = 2 ∨ B.kind = 3) (hk : C.kind = B.kind) (hl : (B.to.length : Int) = B.kind - 1) (hon : valM t.top C.on = valM s.top B.on) :
    ∃ i, i < B.to.length ∧ endM u s B = .inl (jumpM u s (B.to.getD i 0)) ∧ endM v t C = .inl (jumpM v t (C.to.getD i 0)) := by
  unfold endM
  rw [hk, hon]
  rcases hB with h | h
  · simp only [if_pos h]
    exact ⟨0, by omega, rfl, rfl⟩
  · simp only [if_neg (show ¬ B.kind = 2 by omega), if_pos h]
    by_cases h0 : valM s.top B.on ≠ 0
    · simp only [if_pos h0]
      exact ⟨0, by omega, rfl, rfl⟩
    · simp only [if_neg h0]
      exact ⟨1, by omega, rfl, rfl⟩

/-! ### Phis, done at once -/
def setAll (regs : List Int) (l : List (Nat × Int)) : List Int := l.foldl (fun rs p => rs.set p.1 p.2) regs
def lastV : List (Nat × Int) → Nat → Option Int
  | [], _ => none
  | p :: l, r => match lastV l r with
    | some x => some x
    | none => if p.1 = r then some p.2 else none
theorem lastV_cons (p : Nat × Int) (l : List (Nat × Int)) (r : Nat) : lastV (p :: l) r = match lastV l r with | some x => some x | none => if p.1 = r then some p.2 else none := rfl
theorem setAll_len (l : List (Nat × Int)) : ∀ regs : List Int, (setAll regs l).length = regs.length := by
  induction l with
  | nil => exact fun _ => rfl
  | cons p l ih => exact fun regs => by unfold setAll at ih ⊢; rw [List.foldl_cons, ih, List.length_set]
theorem setAll_get (l : List (Nat × Int)) (r : Nat) : ∀ regs : List Int, (setAll regs l)[r]? = (regs[r]?).map fun x => (lastV l r).getD x := by
  induction l with
  | nil => exact fun regs => by simp [setAll, lastV]
  | cons p l ih =>
    intro regs
    unfold setAll at ih ⊢
    rw [List.foldl_cons, ih, List.getElem?_set]
    rw [lastV_cons]
    cases h : lastV l r with
    | some x =>
      by_cases e : p.1 = r
      · by_cases hl : p.1 < regs.length
        · simp [e, e ▸ hl]
        · simp [e, e ▸ hl]
      · simp [e]
    | none =>
      by_cases e : p.1 = r
      · by_cases hl : p.1 < regs.length
        · simp [e, e ▸ hl]
        · simp [e, e ▸ hl]
      · simp [e]
theorem phisM_all (f : Frm) (k : Nat) (ps : List LPhi) : phisM f k ps = setAll f.regs (ps.map fun p => (p.dst.toNat, valM f (p.src.getD k noV))) := by
  unfold phisM setAll
  rw [List.foldl_map]
theorem lastV_none {l : List (Nat × Int)} {r : Nat} : lastV l r = none ↔ ∀ p ∈ l, p.1 ≠ r := by
  induction l with
  | nil => simp [lastV]
  | cons p l ih =>
    rw [lastV_cons]
    cases h : lastV l r with
    | some x =>
      rw [h] at ih
      simp only [reduceCtorEq, false_iff] at ih ⊢
      exact fun hh => ih fun q hq => hh q (List.mem_cons_of_mem _ hq)
    | none =>
      have ih := ih.1 h
      simp only
      split
      · rename_i e
        simp only [reduceCtorEq, false_iff]
        exact fun hh => hh p (by simp) e
      · rename_i e
        simp only [true_iff]
        intro q hq
        rcases List.mem_cons.1 hq with rfl | hq
        · exact e
        · exact ih q hq
end Go.Proofs.YtbmnkjaelfjlhaaDoor


/- A unit whose functions were turned one by one passes the check when each of them does. No program in sight. -/
namespace Go.Proofs.YtbmnkjaelfjlhaaDoor
open Go Go.RowKit

/-- one function in the place of another one -/
structure FnTo (fs : List LFunc) (X Y : LFunc) : Prop where
  name : Y.name = X.name
  params : Y.params = X.params
  regs : Y.params ≤ Y.regs ∧ Y.regs ≤ 100
  many : 1 ≤ Y.blocks.length ∧ Y.blocks.length ≤ 40
  size : sizeOfBs Y.blocks ≤ 300
  body : BodyOk fs Y
theorem map_eq_of {α β : Type} {l m : List α} {g : α → β} (hl : m.length = l.length) (h : ∀ (i : Nat) x y, l[i]? = some x → m[i]? = some y → g y = g x) : m.map g = l.map g := by
  apply List.ext_getElem?
  intro i
  rw [List.getElem?_map, List.getElem?_map]
  by_cases hi : i < l.length
  · rw [List.getElem?_eq_getElem hi, List.getElem?_eq_getElem (show i < m.length by omega)]
    simp only [Option.map_some]
    rw [h i _ _ (List.getElem?_eq_getElem hi) (List.getElem?_eq_getElem (by omega))]
  · rw [List.getElem?_eq_none (by omega), List.getElem?_eq_none (by omega)]
theorem check_map {u v : LUnit} (h : CheckOk u) (hg : v.globals = u.globals) (hl : v.funcs.length = u.funcs.length) (hf : ∀ (i : Nat) X Y, u.funcs[i]? = some X → v.funcs[i]? = some Y → FnTo u.funcs X Y) : CheckOk v := by
  have hname : v.funcs.map (·.name) = u.funcs.map (·.name) := map_eq_of hl fun i X Y hX hY => (hf i X Y hX hY).name
  have hpar : ∀ i : Nat, (v.funcs[i]?).map LFunc.params = (u.funcs[i]?).map LFunc.params := fun i => by
    rw [← List.getElem?_map, ← List.getElem?_map, map_eq_of (g := LFunc.params) hl fun i X Y hX hY => (hf i X Y hX hY).params]
  have hmain : mainAt v.funcs = mainAt u.funcs := by rw [mainAt_map, mainAt_map, hname]
  refine ⟨by rw [hg]; exact h.globs, by rw [hl]; exact h.funcs, by rw [hg]; exact h.glob, fun i hi => ?_, fun Z hZ => ?_, by rw [hmain]; exact h.main, ?_⟩
  · have hi' : i < u.funcs.length := by omega
    have h0 := h.head i hi'
    unfold headAt at h0 ⊢
    rw [List.map_take, hname, ← List.map_take, hg]
    unfold at0 at h0 ⊢
    rw [List.getElem?_eq_getElem hi'] at h0
    rw [List.getElem?_eq_getElem hi]
    have hto := hf i _ _ (List.getElem?_eq_getElem hi') (List.getElem?_eq_getElem hi)
    obtain ⟨h1, h2, h3, h4, h5, h6⟩ := head_zero.1 h0
    refine head_zero.2 ⟨by rw [hto.name]; exact h1, by rw [hto.name]; exact h2, by rw [hto.params]; exact h3, hto.regs, ?_, hto.size⟩
    have := hto.many
    omega
  · obtain ⟨j, hj⟩ := List.getElem?_of_mem hZ
    have hjl := (List.getElem?_eq_some_iff.1 hj).1
    have hb := (hf j _ _ (List.getElem?_eq_getElem (show j < u.funcs.length by omega)) hj).body
    exact ⟨hb.ends, hb.phis, fun b C hC x hx => by rw [insErr_same hl hpar]; exact hb.list b C hC x hx⟩
  · rw [hmain]
    have := h.none
    have hp := hpar (mainAt u.funcs).toNat
    unfold at0 at this ⊢
    cases h1 : u.funcs[(mainAt u.funcs).toNat]? <;> cases h2 : v.funcs[(mainAt u.funcs).toNat]? <;> simp [h1, h2] at hp this ⊢
    omega
theorem check_light {u : LUnit} (h : CheckOk u) : light u := by
  refine ⟨h.funcs, fun X hX => ?_⟩
  obtain ⟨j, hj⟩ := List.getElem?_of_mem hX
  have h0 := h.head j (List.getElem?_eq_some_iff.1 hj).1
  unfold headAt at0 at h0
  rw [hj] at h0
  obtain ⟨_, _, _, _, h5, h6⟩ := head_zero.1 h0
  exact ⟨by omega, h6⟩
/-- a function that is as it was goes over by itself -/
theorem FnTo.same {u : LUnit} (h : CheckOk u) {i : Nat} {X : LFunc} (hX : u.funcs[i]? = some X) : FnTo u.funcs X X := by
  have h0 := h.head i (List.getElem?_eq_some_iff.1 hX).1
  unfold headAt at0 at h0
  rw [hX] at h0
  obtain ⟨_, _, _, h4, h5, h6⟩ := head_zero.1 h0
  exact ⟨rfl, rfl, h4, by omega, h6, h.body X (List.mem_of_getElem? hX)⟩
end Go.Proofs.YtbmnkjaelfjlhaaDoor


/- Two runs of one function that agree on what is live. No program in sight. -/
namespace Go.Proofs.YtbmnkjaelfjlhaaDoor
open Go Go.RowKit

/-- they agree on what is live there -/
structure AgreeL (bl : List LBlock) (b : Nat) (j : Int) (l m : List Int) : Prop where
  len : m.length = l.length
  live : ∀ r, LiveS bl r b j → m[r]? = l[r]?
/-- but for one that is about to be written -/
structure AgreeX (bl : List LBlock) (b : Nat) (j : Int) (d : Int) (l m : List Int) : Prop where
  len : m.length = l.length
  live : ∀ r : Nat, (r : Int) ≠ d → LiveS bl r b j → m[r]? = l[r]?
theorem AgreeL.refl (bl : List LBlock) (b : Nat) (j : Int) (l : List Int) : AgreeL bl b j l l := ⟨rfl, fun _ _ => rfl⟩
theorem valM_agree {f g : Frm} {R : Nat} {v : LVal} (hv : ValOk R v) (h : ∀ r : Nat, v.reg = true → v.n = r → g.regs[r]? = f.regs[r]?) : valM g v = valM f v := by
  unfold valM
  by_cases e : v.reg = true
  · obtain ⟨h0, _⟩ := hv e
    simp only [e, if_true]
    rw [List.getD_eq_getElem?_getD, List.getD_eq_getElem?_getD, h v.n.toNat e (by omega)]
  · simp only [e]
    rfl
theorem names_mem {l : List LVal} {v : LVal} {r : Nat} (hv : v ∈ l) (h1 : v.reg = true) (h2 : v.n = r) : namesR l r = true := by
  unfold namesR
  exact List.any_eq_true.2 ⟨v, hv, by simp [h1, h2]⟩
section
variable {bl : List LBlock} {b i : Nat} {B : LBlock} {x : LIns}
/-- what an instruction takes -/
theorem AgreeL.use {f g : Frm} {R : Nat} (h : AgreeL bl b i f.regs g.regs) (hB : bl[b]? = some B) (hx : B.list[i]? = some x) (hok : InsOk R x) {v : LVal} (hv : v ∈ usesOf x) : valM g v = valM f v :=
  valM_agree (hok.vals v (by rw [← uses_vals hok]; exact hv)) fun r h1 h2 => h.live r (.use hB hx (names_mem hv h1 h2))
theorem AgreeL.on {f g : Frm} {R : Nat} (h : AgreeL bl b B.list.length f.regs g.regs) (hB : bl[b]? = some B) (hok : ValOk R B.on) : valM g B.on = valM f B.on :=
  valM_agree hok fun r h1 h2 => h.live r (.on hB (names_mem (by simp) h1 h2))
/-- behind an instruction -/
theorem AgreeL.hold {l m : List Int} (h : AgreeL bl b i l m) (hB : bl[b]? = some B) (hx : B.list[i]? = some x) : AgreeX bl b (i + 1 : Nat) x.dst l m :=
  ⟨h.len, fun r hr hl => h.live r (.go hB hx (fun e => hr e.symm) hl)⟩
theorem AgreeX.set {j d : Int} {l m : List Int} (h : AgreeX bl b j d l m) (n : Int) : AgreeL bl b j (setR l d n) (setR m d n) := by
  unfold setR
  split
  · rename_i h0
    refine ⟨by simp [h.len], fun r hl => ?_⟩
    rw [List.getElem?_set, List.getElem?_set, h.len]
    split
    · rfl
    · exact h.live r (by omega) hl
  · exact ⟨h.len, fun r hl => h.live r (by omega) hl⟩
theorem takes_one {t k : Nat} {p : LPhi} {r : Nat} (hp : p ∈ phisOf bl t) (hk : k = (preds bl t).idxOf b) (h1 : (p.src.getD k noV).reg = true) (h2 : (p.src.getD k noV).n = r) : takesR bl t b r = true := by
  unfold takesR
  refine List.any_eq_true.2 ⟨p, hp, ?_⟩
  subst hk
  rw [← List.getD_eq_getElem?_getD]
  exact names_mem (by simp) h1 h2
/-- what a phi takes from where one comes -/
theorem AgreeL.phi {f g : Frm} {R np t : Nat} (h : AgreeL bl b B.list.length f.regs g.regs) (hB : bl[b]? = some B) (ht : (t : Int) ∈ B.to) {p : LPhi} (hp : p ∈ phisOf bl t) (hok : PhiOk R np p) (hk : (preds bl t).idxOf b < np) : valM g (p.src.getD ((preds bl t).idxOf b) noV) = valM f (p.src.getD ((preds bl t).idxOf b) noV) := by
  obtain ⟨v, hv, e⟩ := src_getD hok hk
  refine valM_agree (R := R) (by rw [e]; exact hok.vals v hv) fun r h1 h2 => h.live r (.take hB (.inl rfl) ht (takes_one hp rfl h1 h2))
/-- behind the phis of the block that one goes to -/
theorem AgreeL.jump {f g : Frm} {R np t : Nat} {T : LBlock} (h : AgreeL bl b B.list.length f.regs g.regs) (hB : bl[b]? = some B) (ht : (t : Int) ∈ B.to) (hT : bl[t]? = some T) (hok : ∀ p ∈ T.phis, PhiOk R np p ∧ 0 ≤ p.dst) (hk : (preds bl t).idxOf b < np) :
    AgreeL bl t (0 : Nat) (phisM f ((preds bl t).idxOf b) T.phis) (phisM g ((preds bl t).idxOf b) T.phis) := by
  have hph : phisOf bl t = T.phis := by unfold phisOf; rw [hT]
  rw [phisM_all, phisM_all]
  have e : (T.phis.map fun p => (p.dst.toNat, valM g (p.src.getD ((preds bl t).idxOf b) noV))) = T.phis.map fun p => (p.dst.toNat, valM f (p.src.getD ((preds bl t).idxOf b) noV)) :=
    List.map_congr_left fun p hp => by rw [h.phi hB ht (by rw [hph]; exact hp) (hok p hp).1 hk]
  rw [e]
  refine ⟨by rw [setAll_len, setAll_len]; exact h.len, fun r hl => ?_⟩
  rw [setAll_get, setAll_get]
  cases hv : lastV (T.phis.map fun p => (p.dst.toNat, valM f (p.src.getD ((preds bl t).idxOf b) noV))) r with
  | some y =>
    simp only [Option.getD_some]
    by_cases hr : r < f.regs.length
    · rw [List.getElem?_eq_getElem hr, List.getElem?_eq_getElem (show r < g.regs.length by rw [h.len]; exact hr)]; rfl
    · rw [List.getElem?_eq_none (show f.regs.length ≤ r by omega), List.getElem?_eq_none (show g.regs.length ≤ r by rw [h.len]; omega)]
  | none =>
    have hn := lastV_none.1 hv
    have h1 : LiveS bl r t (-1) := .phi hT (fun p hp e => hn _ (List.mem_map.2 ⟨p, hp, rfl⟩) (by simp only; rw [e]; rfl)) hl
    rw [h.live r (.jump hB (.inl rfl) ht h1)]
end
/-- what an instruction does not take is the number 0 -/
theorem vals_used {fs : List LFunc} {R : Int} {x : LIns} (h : insErr fs R x = 0) : (x.a ∈ usesOf x ∨ x.a = noV) ∧ (x.b ∈ usesOf x ∨ x.b = noV) ∧ (x.op = 20 → x.args = usesOf x) ∧ (x.op = 19 ∨ x.op = 22 → x.dst < 0) := by
  unfold insErr at h
  split at h
  · cases h
  rename_i hop
  split at h
  · cases h
  rename_i hs
  simp only [Bool.not_eq_true] at hs
  clear h
  have hop : 1 ≤ x.op ∧ x.op ≤ 22 := by simp [within] at hop; omega
  have hno : ∀ v : LVal, noVal v = true → v = noV := fun v hv => by
    obtain ⟨vr, vn⟩ := v
    simp only [noVal, Bool.and_eq_true, beq_iff_eq, decide_eq_true_eq] at hv
    obtain ⟨rfl, rfl⟩ := hv
    rfl
  unfold strayB at hs
  simp only [Bool.or_eq_false_iff, Bool.and_eq_false_iff, Bool.not_eq_false', decide_eq_false_iff_not] at hs
  obtain ⟨⟨⟨h1, h2⟩, h3⟩, h4⟩ := hs
  unfold shape at h1 h2 h3
  unfold usesOf
  by_cases e20 : x.op = 20
  · simp [e20] at h2 h3 ⊢
    exact ⟨.inr (hno _ h2), .inr (hno _ h3)⟩
  by_cases e21 : x.op = 21
  · simp [e21] at h2 h3 ⊢
    exact ⟨hno _ h2, hno _ h3⟩
  rw [if_neg e21, if_neg e20]
  by_cases e1 : ((x.op = 1 ∨ x.op = 16) ∨ x.op = 17) ∨ x.op = 18
  · rw [if_pos e1] at h1 h2 h3
    rw [if_neg (by omega), if_pos (by omega)]
    simp at h3
    exact ⟨.inl (by simp), .inr (hno _ h3), fun e => absurd e e20, fun e => by omega⟩
  rw [if_neg e1] at h1 h2 h3
  by_cases e2 : 2 ≤ x.op ∧ x.op ≤ 15
  · rw [if_pos (.inl e2)]
    exact ⟨.inl (by simp), .inl (by simp), fun e => absurd e e20, fun e => by omega⟩
  rw [if_neg e2] at h1 h2 h3
  by_cases e3 : x.op = 19
  · simp [e3] at h1 ⊢
    omega
  have e4 : x.op = 22 := by omega
  simp [e4] at h1 h3 ⊢
  exact ⟨.inr (hno _ h3), by omega⟩
end Go.Proofs.YtbmnkjaelfjlhaaDoor


/- A number written into a register that nobody needs, at the end of blocks that lead to one block alone: the run comes to the same. No program in sight. -/
namespace Go.Proofs.YtbmnkjaelfjlhaaDoor
open Go Go.RowKit

/-! ### Frames that agree on what is live -/
structure FTa (u : LUnit) (f g : Frm) : Prop where
  fn : g.fn = f.fn
  block : g.block = f.block
  at' : g.at' = f.at'
  regs : AgreeL (blsOf u f.fn) f.block f.at' f.regs g.regs
structure FRa (u : LUnit) (d e : Int) (f g : Frm) : Prop where
  dst : e = d
  fn : g.fn = f.fn
  block : g.block = f.block
  at' : g.at' = f.at'
  regs : AgreeX (blsOf u f.fn) f.block f.at' d f.regs g.regs
theorem FRa.back {u : LUnit} {d e : Int} {f g : Frm} (h : FRa u d e f g) (n : Int) : FTa u (f.set d n) (g.set e n) := by
  obtain ⟨h1, h2, h3, h4, h5⟩ := h
  subst h1
  exact ⟨h2, h3, h4, h5.set n⟩
theorem preds_same {bl bl' : List LBlock} (hl : bl'.length = bl.length) (ht : ∀ i, toOf bl' i = toOf bl i) (t : Nat) : preds bl' t = preds bl t := by
  unfold preds
  simp only [hl, ht]

/-! ### The unit that writes them -/
def swIns (r : Nat) (n : Int) : LIns := ⟨1, r, ⟨false, n⟩, noV, 0, []⟩
def leadsTo (b : Nat) (B : LBlock) : Bool := decide (B.kind = 2) && decide (B.to.getD 0 0 = (b : Int))
def swB (b : Nat) (x : LIns) (B : LBlock) : LBlock := if leadsTo b B then { B with list := B.list ++ [x] } else B
def swF (b : Nat) (x : LIns) (X : LFunc) : LFunc := { X with blocks := X.blocks.map (swB b x) }
def swU (u : LUnit) (k b : Nat) (x : LIns) : LUnit := { u with funcs := u.funcs.modify k (swF b x) }
theorem swU_get (u : LUnit) (k b : Nat) (x : LIns) (j : Nat) : (swU u k b x).funcs[j]? = if k = j then (u.funcs[j]?).map (swF b x) else u.funcs[j]? := by
  unfold swU
  simp only
  rw [List.getElem?_modify]
  by_cases e : k = j
  · simp only [e, if_true]; rfl
  · simp only [e, if_false, id_map']
theorem swB_kind (b : Nat) (x : LIns) (B : LBlock) : (swB b x B).kind = B.kind := by unfold swB; split <;> rfl
theorem swB_on (b : Nat) (x : LIns) (B : LBlock) : (swB b x B).on = B.on := by unfold swB; split <;> rfl
theorem swB_to (b : Nat) (x : LIns) (B : LBlock) : (swB b x B).to = B.to := by unfold swB; split <;> rfl
theorem swB_phis (b : Nat) (x : LIns) (B : LBlock) : (swB b x B).phis = B.phis := by unfold swB; split <;> rfl
theorem swB_list {b : Nat} {x y : LIns} {B : LBlock} (h : y ∈ (swB b x B).list) : y ∈ B.list ∨ y = x := by
  unfold swB at h
  split at h
  · rcases List.mem_append.1 h with h | h
    · exact .inl h
    · exact .inr (by simpa using h)
  · exact .inl h
theorem swL_to (b : Nat) (x : LIns) (bl : List LBlock) (i : Nat) : toOf (bl.map (swB b x)) i = toOf bl i := by
  unfold toOf
  rw [List.getElem?_map]
  cases bl[i]? with
  | none => rfl
  | some B => exact swB_to b x B
theorem swL_phis (b : Nat) (x : LIns) (bl : List LBlock) (i : Nat) : phisOf (bl.map (swB b x)) i = phisOf bl i := by
  unfold phisOf
  rw [List.getElem?_map]
  cases bl[i]? with
  | none => rfl
  | some B => exact swB_phis b x B
theorem blsOf_sw (u : LUnit) (k b : Nat) (x : LIns) (j : Nat) : blsOf (swU u k b x) j = if k = j then (blsOf u j).map (swB b x) else blsOf u j := by
  unfold blsOf
  rw [swU_get]
  by_cases e : k = j
  · simp only [e, if_true]
    cases h : u.funcs[j]? <;> simp only [Option.map_none, Option.map_some] <;> rfl
  · simp only [e, if_false]
theorem regsOf_sw (u : LUnit) (k b : Nat) (x : LIns) (j : Nat) : regsOf (swU u k b x) j = regsOf u j := by
  unfold regsOf
  rw [swU_get]
  by_cases e : k = j
  · simp only [e, if_true]
    cases h : u.funcs[j]? <;> simp only [Option.map_none, Option.map_some] <;> rfl
  · simp only [e, if_false]
theorem preds_sw (u : LUnit) (k b : Nat) (x : LIns) (j t : Nat) : preds (blsOf (swU u k b x) j) t = preds (blsOf u j) t := by
  rw [blsOf_sw]
  split
  · exact preds_same (List.length_map _) (swL_to b x _) t
  · rfl
theorem phisOf_sw (u : LUnit) (k b : Nat) (x : LIns) (j t : Nat) : phisOf (blsOf (swU u k b x) j) t = phisOf (blsOf u j) t := by
  rw [blsOf_sw]
  split
  · exact swL_phis b x _ t
  · rfl
theorem size_sw (b : Nat) (x : LIns) (bl : List LBlock) : sizeOfBs (bl.map (swB b x)) ≤ sizeOfBs bl + bl.length := by
  unfold sizeOfBs
  induction bl with
  | nil => simp
  | cons B bl ih =>
    simp only [List.map_cons, List.sum_cons, List.length_cons]
    have : ((swB b x B).phis.length + (swB b x B).list.length : Nat) ≤ B.phis.length + B.list.length + 1 := by
      unfold swB
      split <;> simp <;> omega
    omega
theorem swIns_ok (fs : List LFunc) {R : Int} {r : Nat} (n : Int) (h : (r : Int) < R) : insErr fs R (swIns r n) = 0 := by
  have hd : dstErr R (r : Int) = 0 := by unfold dstErr; rw [if_neg (by simp [within]; omega)]
  have hv : valErr R noV = 0 := rfl
  have hw : valErr R ⟨false, n⟩ = 0 := rfl
  have hs : strayB (swIns r n) = false := rfl
  have hc : callErr fs R (swIns r n) = 0 := rfl
  unfold insErr
  rw [hs, hc]
  unfold swIns
  simp only [hd, hv, hw]
  simp [within]
theorem swap_check {u : LUnit} {k b r : Nat} {n : Int} {X : LFunc} (h : CheckOk u) (hX : u.funcs[k]? = some X) (hr : (r : Int) < X.regs) (hsz : sizeOfBs X.blocks + X.blocks.length ≤ 300) : CheckOk (swU u k b (swIns r n)) := by
  refine check_map h rfl (List.length_modify _ _ _) fun i Z Y hZ hY => ?_
  have hs := FnTo.same h hZ
  rw [swU_get] at hY
  by_cases e : k = i
  · subst e
    rw [if_pos rfl, hZ] at hY
    simp only [Option.map_some, Option.some.injEq] at hY
    rw [hX] at hZ
    obtain rfl := Option.some.inj hZ
    subst hY
    have hb := hs.body
    refine ⟨rfl, rfl, hs.regs, by unfold swF; simp only [List.length_map]; exact hs.many, ?_, ?_⟩
    · have := size_sw b (swIns r n) X.blocks
      unfold swF
      simp only
      omega
    · refine ⟨fun C hC => ?_, fun c C hC p hp => ?_, fun c C hC x hx => ?_⟩
      · unfold swF at hC ⊢
        simp only [List.length_map] at hC ⊢
        obtain ⟨B, hB, rfl⟩ := List.mem_map.1 hC
        have := hb.ends B hB
        unfold endErr at this ⊢
        rw [swB_kind, swB_on, swB_to]
        exact this
      · unfold swF at hC ⊢
        simp only [List.getElem?_map] at hC ⊢
        obtain ⟨B, hB, rfl⟩ := Option.map_eq_some_iff.1 hC
        have := hb.phis c B hB p (by rw [swB_phis] at hp; exact hp)
        unfold phiErr at this ⊢
        rw [aheadL_same (List.length_map _) (swL_to _ _ _)]
        exact this
      · unfold swF at hC ⊢
        simp only [List.getElem?_map] at hC ⊢
        obtain ⟨B, hB, rfl⟩ := Option.map_eq_some_iff.1 hC
        rcases swB_list hx with hx | rfl
        · exact hb.list c B hB x hx
        · exact swIns_ok _ _ hr
  · rw [if_neg e, hZ] at hY
    obtain rfl := Option.some.inj hY
    exact hs

/-! ### Its run -/
section
variable {u : LUnit} {k b r : Nat} {n : Int} {X : LFunc}
theorem sw_block {f g : Frm} {Y : LFunc} {B : LBlock} (x : LIns) (hY : u.funcs[f.fn]? = some Y) (hB : Y.blocks[f.block]? = some B) (h1 : g.fn = f.fn) (h2 : g.block = f.block) : blockM (swU u k b x) g = if k = f.fn then swB b x B else B := by
  unfold blockM
  rw [h1, h2, swU_get]
  by_cases e : k = f.fn
  · rw [if_pos e, if_pos e, hY]
    simp only [Option.map_some, swF]
    rw [List.getD_eq_getElem?_getD, List.getElem?_map, hB]
    rfl
  · rw [if_neg e, if_neg e, hY]
    simp only
    rw [List.getD_eq_getElem?_getD, hB]
    rfl
/-- what is dead there is dead at the end of a block that leads there alone -/
theorem dead_end {bl : List LBlock} {a : Nat} {B : LBlock} (hB : bl[a]? = some B) (hd : ¬ LiveS bl r b (-1)) (ht : takesR bl b a r = false) (hto : ∀ t ∈ B.to, t = (b : Int)) (hon : B.on.reg = false) : ¬ LiveS bl r a B.list.length := by
  intro h
  generalize hj : (B.list.length : Int) = j at h
  cases h with
  | phi => omega
  | use h1 h2 _ =>
    rw [hB] at h1
    obtain rfl := Option.some.inj h1
    have := (List.getElem?_eq_some_iff.1 h2).1
    omega
  | go h1 h2 _ _ =>
    rw [hB] at h1
    obtain rfl := Option.some.inj h1
    have := (List.getElem?_eq_some_iff.1 h2).1
    omega
  | on h1 h2 =>
    rw [hB] at h1
    obtain rfl := Option.some.inj h1
    simp [namesR, hon] at h2
  | take h1 _ h3 h4 =>
    rw [hB] at h1
    obtain rfl := Option.some.inj h1
    have := hto _ h3
    rw [show _ = b from Int.ofNat.inj this, ht] at h4
    cases h4
  | jump h1 _ h3 h4 =>
    rw [hB] at h1
    obtain rfl := Option.some.inj h1
    have := hto _ h3
    rw [show _ = b from Int.ofNat.inj this] at h4
    exact hd h4
/-- a jump names nothing -/
theorem jump_on {m : Nat} {R : Int} {B : LBlock} (h : endErr m R B = 0) (h2 : B.kind = 2) : B.on = noV ∧ ∃ t, B.to = [t] := by
  unfold endErr endE at h
  split at h
  · cases h
  split at h
  · cases h
  rename_i _ hl
  split at h
  · cases h
  split at h
  · cases h
  rename_i hn
  have hl : B.to.length = 1 := by simp at hl; omega
  simp only [h2, Bool.or_eq_true, Bool.and_eq_true, not_or, not_and, decide_eq_true_eq, Bool.not_eq_true', Bool.not_eq_false] at hn
  refine ⟨?_, List.length_eq_one_iff.1 hl⟩
  have hno : ∀ v : LVal, noVal v = true → v = noV := fun v hv => by
    obtain ⟨vr, vn⟩ := v
    simp only [noVal, Bool.and_eq_true, beq_iff_eq, decide_eq_true_eq] at hv
    obtain ⟨rfl, rfl⟩ := hv
    rfl
  exact hno _ (hn.2 trivial)
def RelA (u : LUnit) (s t : Mac) : Prop := MacOk u (s.steps + 1) s ∧ RelM (FRa u) (FTa u) s t
theorem swap_sim (hu : UnitFit u) (hc : CheckOk u) (hX : u.funcs[k]? = some X) (hd : ¬ LiveS X.blocks r b (-1)) (ht : ∀ a, takesR X.blocks b a r = false) : Sim u (swU u k b (swIns r n)) 1 2 (RelA u) := by
  intro s t ⟨hok, hrel⟩
  obtain ⟨Y, R, hf⟩ := hok.top
  obtain ⟨B, hB⟩ : ∃ B, Y.blocks[s.top.block]? = some B := ⟨_, List.getElem?_eq_getElem hf.block⟩
  have hBm := List.mem_of_getElem? hB
  have hfit := hf.fit.blk B hBm
  have hbl : blsOf u s.top.fn = Y.blocks := by unfold blsOf; rw [hf.get]
  have hbok := hf.fit.ok.block _ B hB
  have hbody := hc.body Y (List.mem_of_getElem? hf.get)
  obtain ⟨hm, hi, ho, hst, hfn, hbk, hat, hag⟩ := hrel
  rw [hbl] at hag
  have hbu := blockM_eq hf hB
  have hbv := sw_block (k := k) (b := b) (swIns r n) hf.get hB hfn hbk
  have hll := hst.len
  cases hx : B.list[s.top.at']? with
  | some x =>
    have hlt := (List.getElem?_eq_some_iff.1 hx).1
    have hCx : (blockM (swU u k b (swIns r n)) t.top).list[t.top.at']? = some x := by
      rw [hbv, hat]
      split
      · unfold swB
        split
        · rw [List.getElem?_append_left hlt]; exact hx
        · exact hx
      · exact hx
    have hsu : stepM u s = insM u (goOn (tick s)) x := by rw [stepM_eq, hbu]; simp only [hx]
    have hsv : stepM (swU u k b (swIns r n)) t = insM (swU u k b (swIns r n)) (goOn (tick t)) x := by rw [stepM_eq]; simp only [hCx]
    have hxm := List.mem_of_getElem? hx
    obtain ⟨ua, ub, uargs, ud⟩ := vals_used (hbody.list _ B hB x hxm)
    have hxok := hbok.list x hxm
    have key : ∀ w : LVal, w ∈ usesOf x ∨ w = noV → valM t.top w = valM s.top w := fun w hw => by
      rcases hw with hw | rfl
      · exact hag.use hB hx hxok hw
      · rfl
    have hold := hag.hold hB hx
    rcases ins_sim (u := u) (v := swU u k b (swIns r n)) (s := goOn (tick s)) (t := goOn (tick t)) (x := x) (y := x) rfl rfl (key _ ua) (key _ ub) (fun h20 => List.map_congr_left fun w hw => key w (.inl (by rw [← uargs h20]; exact hw))) hm hi ho hll ud ud with ⟨f, g, e1, e2, ha⟩ | ⟨h20, e1, e2⟩ | ⟨h20, mem, inp, out, z, e1, e2⟩
    · refine ⟨fun s' hs' => ?_, fun f' hf' => ?_⟩
      · rw [hsu, e1] at hs'; cases hs'
      · rw [hsu, e1] at hf'
        rw [← Sum.inr.inj hf']
        exact ⟨0, t, g, by omega, by omega, rfl, by rw [hsv, e2], ha⟩
    · refine ⟨fun s' hs' => ?_, fun f' hf' => ?_⟩
      · have h9 := (step_ok hu hok hs').1
        rw [hsu, e1] at hs'
        have hs' := Sum.inl.inj hs'
        refine ⟨1, _, by omega, by omega, .one (by rw [hsv, e2]), h9, ?_⟩
        rw [← hs', enterM_def, enterM_def, regsOf_sw]
        exact ⟨hm, hi, ho, .add hst ⟨rfl, hfn, hbk, by show t.top.at' + 1 = s.top.at' + 1; rw [hat], by show AgreeX (blsOf u s.top.fn) _ _ _ _ _; rw [hbl]; exact hold⟩, ⟨rfl, rfl, rfl, AgreeL.refl _ _ _ _⟩⟩
      · rw [hsu, e1] at hf'; cases hf'
    · refine ⟨fun s' hs' => ?_, fun f' hf' => ?_⟩
      · have h9 := (step_ok hu hok hs').1
        rw [hsu, e1] at hs'
        have hs' := Sum.inl.inj hs'
        refine ⟨1, _, by omega, by omega, .one (by rw [hsv, e2]), h9, ?_⟩
        rw [← hs']
        exact ⟨rfl, rfl, rfl, hst, ⟨hfn, hbk, by show t.top.at' + 1 = s.top.at' + 1; rw [hat], by show AgreeL (blsOf u s.top.fn) _ _ _ _; rw [hbl]; exact hold.set z⟩⟩
      · rw [hsu, e1] at hf'; cases hf'
  | none =>
    have hae : s.top.at' = B.list.length := by
      have h1 := hf.at' B hB
      have h2 := List.getElem?_eq_none_iff.1 hx
      omega
    rw [hae] at hag
    have hsu : stepM u s = endM u (tick s) B := by rw [stepM_eq, hbu]; simp only [hx]
    obtain ⟨k1, t1, hk1, hgo, C, hC, hCl, hCk, hCo, hCt, gm, gi, go, gr, gf, gb, gd, gag⟩ : ∃ k1 t1, k1 ≤ 1 ∧ Goes (swU u k b (swIns r n)) k1 t t1 ∧ ∃ C, blockM (swU u k b (swIns r n)) t1.top = C ∧ C.list[t1.top.at']? = none ∧ C.kind = B.kind ∧ C.on = B.on ∧ C.to = B.to ∧
        t1.mem = s.mem ∧ t1.inp = s.inp ∧ t1.out = s.out ∧ t1.rest = t.rest ∧ t1.top.fn = s.top.fn ∧ t1.top.block = s.top.block ∧ t1.top.dst = t.top.dst ∧ AgreeL Y.blocks s.top.block B.list.length s.top.regs t1.top.regs := by
      by_cases hl : k = s.top.fn ∧ leadsTo b B = true
      · obtain ⟨hk, hl⟩ := hl
        have hYX : Y = X := by
          have := hf.get
          rw [← hk, hX] at this
          exact (Option.some.inj this).symm
        subst hYX
        have hbv' : blockM (swU u k b (swIns r n)) t.top = { B with list := B.list ++ [swIns r n] } := by
          rw [hbv, if_pos hk]
          unfold swB
          rw [if_pos hl]
        simp only [leadsTo, Bool.and_eq_true, decide_eq_true_eq] at hl
        obtain ⟨hon, to, hto⟩ := jump_on (hbody.ends B hBm) hl.1
        have hdead : ¬ LiveS Y.blocks r s.top.block B.list.length := dead_end hB hd (ht _) (fun z hz => by
          have h2 := hl.2
          rw [hto] at hz h2
          simp at hz h2
          omega) (by rw [hon]; rfl)
        have hst1 : stepM (swU u k b (swIns r n)) t = .inl ((goOn (tick t)).set r n) := by
          rw [stepM_eq, hbv']
          simp only
          rw [hat, hae, List.getElem?_append_right (Nat.le_refl _), Nat.sub_self]
          rfl
        refine ⟨1, _, Nat.le_refl _, .one hst1, { B with list := B.list ++ [swIns r n] }, ?_, ?_, rfl, rfl, rfl, hm, hi, ho, rfl, hfn, hbk, rfl, ?_⟩
        · exact hbv'
        · show (B.list ++ [swIns r n])[t.top.at' + 1]? = none
          rw [hat, hae, List.getElem?_eq_none (by simp)]
        · refine ⟨?_, fun q hq => ?_⟩
          · show (setR t.top.regs r n).length = _
            unfold setR
            split
            · rw [List.length_set]; exact hag.len
            · exact hag.len
          · show (setR t.top.regs r n)[q]? = _
            unfold setR
            rw [if_pos (by omega), Int.toNat_natCast, List.getElem?_set]
            rw [if_neg (by intro e; subst e; exact hdead hq)]
            exact hag.live q hq
      · have hbv' : blockM (swU u k b (swIns r n)) t.top = B := by
          rw [hbv]
          split
          · rename_i hk
            unfold swB
            rw [if_neg fun h => hl ⟨hk, h⟩]
          · rfl
        exact ⟨0, t, by omega, rfl, B, hbv', by rw [hat]; exact hx, rfl, rfl, rfl, hm, hi, ho, rfl, hfn, hbk, rfl, hag⟩
    have hsv : stepM (swU u k b (swIns r n)) t1 = endM (swU u k b (swIns r n)) (tick t1) C := by rw [stepM_eq, hC]; simp only [hCl]
    have hval : valM t1.top C.on = valM s.top B.on := by rw [hCo]; exact gag.on hB hbok.on
    have hst1 : Stk (FRa u) s.rest t1.rest s.top.dst t1.top.dst := by rw [gr, gd]; exact hst
    by_cases hkj : B.kind = 2 ∨ B.kind = 3
    · obtain ⟨i, hil, e1, e2⟩ := jump_sim (u := u) (v := swU u k b (swIns r n)) (s := tick s) (t := tick t1) hkj hCk hfit.kind.2 hval
      rw [hCt] at e2
      have htm := to_get (B := B) hil
      obtain ⟨to, T, e, hg⟩ := goTo hf hB htm
      rw [e] at e1 e2 htm
      refine ⟨fun s' hs' => ?_, fun f' hf' => ?_⟩
      · have h9 := (step_ok hu hok hs').1
        rw [hsu, e1] at hs'
        have hs' := Sum.inl.inj hs'
        refine ⟨k1 + 1, _, by omega, by omega, hgo.trans (.one (by rw [hsv, e2])), h9, ?_⟩
        rw [← hs', jumpM_def, jumpM_def]
        have hphi : phisOf (blsOf u s.top.fn) to = T.phis := by rw [hbl]; unfold phisOf; rw [hg.get]
        have hTok := hf.fit.ok.block to T hg.get
        refine ⟨gm, gi, go, hst1, ⟨gf, rfl, rfl, ?_⟩⟩
        show AgreeL (blsOf u s.top.fn) to (0 : Nat) (phisM s.top ((preds (blsOf u s.top.fn) to).idxOf s.top.block) (phisOf (blsOf u s.top.fn) to)) (phisM t1.top ((preds (blsOf (swU u k b (swIns r n)) t1.top.fn) to).idxOf t1.top.block) (phisOf (blsOf (swU u k b (swIns r n)) t1.top.fn) to))
        rw [gf, gb, preds_sw, phisOf_sw, hphi, hbl]
        exact gag.jump hB htm hg.get (fun p hp => ⟨hTok.phis p hp, (hTok.phis p hp).dst.1⟩) (List.idxOf_lt_length_of_mem hg.mem)
      · rw [hsu, e1] at hf'; cases hf'
    · rcases ret_sim (u := u) (v := swU u k b (swIns r n)) (FR := FRa u) (s := tick s) (t := tick t1) (fun h => hkj (.inl h)) (fun h => hkj (.inr h)) hCk hval go hst1 with ⟨f, g, e1, e2, ha⟩ | ⟨l, f, m, g, d1, d2, e1, e2, d3, d4⟩
      · refine ⟨fun s' hs' => ?_, fun f' hf' => ?_⟩
        · rw [hsu, e1] at hs'; cases hs'
        · rw [hsu, e1] at hf'
          rw [← Sum.inr.inj hf']
          exact ⟨k1, t1, g, by omega, by omega, hgo, by rw [hsv, e2], ha⟩
      · refine ⟨fun s' hs' => ?_, fun f' hf' => ?_⟩
        · have h9 := (step_ok hu hok hs').1
          rw [hsu, e1] at hs'
          have hs' := Sum.inl.inj hs'
          refine ⟨k1 + 1, _, by omega, by omega, hgo.trans (.one (by rw [hsv, e2])), h9, ?_⟩
          rw [← hs']
          exact ⟨gm, gi, go, d3, d4.back _⟩
        · rw [hsu, e1] at hf'; cases hf'
theorem swap_result (hu : UnitFit u) (hs : StartOk u) (hc : CheckOk u) (hX : u.funcs[k]? = some X) (hd : ¬ LiveS X.blocks r b (-1)) (ht : ∀ a, takesR X.blocks b a r = false) (hmain : mainAt (swU u k b (swIns r n)).funcs = mainAt u.funcs) {inp : List Int} (hin : ∀ x ∈ inp, inI x) (f m : Nat) (h1 : (resultM u inp f).state ≠ 1) (hm : 2 * f ≤ m) : Alike (resultM u inp f) (resultM (swU u k b (swIns r n)) inp m) := by
  refine (sim_run (swap_sim hu hc hX hd ht) f _ _ m ⟨start_ok hu hs hin, ?_⟩ h1 hm).1
  have e1 : ∀ v : LUnit, startM v inp = ⟨memL v.globals, inp, [], 0, [], ⟨(mainAt v.funcs).toNat, 0, 0, List.replicate (regsOf v (mainAt v.funcs).toNat) 0, -1⟩, bump (v.funcs.map fun X => List.replicate X.blocks.length 0) (mainAt v.funcs).toNat 0⟩ := fun _ => rfl
  rw [e1, e1, hmain, regsOf_sw]
  exact ⟨rfl, rfl, rfl, .nil _ _, ⟨rfl, rfl, rfl, AgreeL.refl _ _ _ _⟩⟩
end
end Go.Proofs.YtbmnkjaelfjlhaaDoor


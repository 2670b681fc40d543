/- Texts joined: RunsL SureP SureL. -/
import Derived.Test.YtbmnkjaelfjlhaaDoorGD
import Derived.Test.YtbmnkjaelfjlhaaDoorGE
import Derived.Test.YtbmnkjaelfjlhaaDoorGN
import Derived.Test.YtbmnkjaelfjlhaaDoorHF
/- The law DomRuns, walked: what is over a block that a run came to, it came to. -/
namespace Go.Proofs.YtbmnkjaelfjlhaaDoor
open Go Go.RowKit
attribute [local irreducible] wpListIn Code.wpIn Exit.then Exit.inBlock bodyPost wpQuiet wpAnyIn wpAnyH bodyPostM oneH
set_option maxHeartbeats 8000000

theorem tabK {w : World} {S : Nat → Prop} {a : Option Addr} {n c : Nat} {T : List (List Int)} (h : SlAt w (.slice a n c) 1 T RowV) (hold : ∀ {b o : Nat} {v : Value} {l : List Value}, CellsAt w b o (v :: l) → OldIs S b) (h0 : T ≠ []) :
    ∃ b o : Nat, AddrIs a b o ∧ OldIs S b ∧ ∀ i l, T[i]? = some l → ∃ (ra : Option Addr) (rc : Nat), CellsIs w b (o + i * 1) [.slice ra l.length rc] ∧ SlAt w (.slice ra l.length rc) 1 l IntV := by
  obtain ⟨_, _, _, b, o, ha, hel⟩ := h.at
  refine ⟨b, o, ⟨ha h0⟩, ?_, fun i l hi => ?_⟩
  · obtain ⟨l, hl⟩ : ∃ l, T[0]? = some l := ⟨_, List.getElem?_eq_getElem (List.length_pos_iff.2 h0)⟩
    obtain ⟨_, hc, v, rfl, _⟩ := hel 0 l hl
    exact hold hc
  · obtain ⟨_, hc, v, rfl, hv⟩ := hel i l hi
    have hv0 := hv
    obtain ⟨ra, rn, rc, _, _, rfl, hrn, _⟩ := hv0
    subst hrn
    exact ⟨ra, rc, ⟨hc⟩, hv⟩
end Go.Proofs.YtbmnkjaelfjlhaaDoor


/- A run that ends comes, in main, to every block that each way to an end meets. No program in sight. -/
namespace Go.Proofs.YtbmnkjaelfjlhaaDoor
open Go Go.RowKit

/-- a way to an end over blocks that were come to -/
inductive WayTo (bl : List LBlock) (l : List Nat) : Nat → Prop
  | here {x : Nat} : 0 < l.getD x 0 → kindOf bl x = 1 → WayTo bl l x
  | step {x y : Nat} : 0 < l.getD x 0 → Edge bl x y → WayTo bl l y → WayTo bl l x
theorem WayTo.pos {bl : List LBlock} {l : List Nat} {b : Nat} (h : WayTo bl l b) : 0 < l.getD b 0 := by cases h <;> assumption
theorem WayTo.can {bl : List LBlock} {l : List Nat} {b : Nat} (h : WayTo bl l b) : CanEnd bl (-1) b := by
  induction h with
  | here _ hk => exact canEnd_kind (by omega) hk
  | step _ he _ ih => exact canEnd_step (by omega) he ih
theorem VP.pos {bl : List LBlock} {l : List Nat} {b : Nat} (h : VP bl l b) : 0 < l.getD b 0 := by cases h <;> assumption
theorem VP.way {bl : List LBlock} {l : List Nat} {b : Nat} (hp : VP bl l b) (hb : WayTo bl l b) : WayTo bl l 0 := by
  induction hp with
  | zero _ => exact hb
  | step hx he _ ih => exact ih (.step hx.pos he hb)
theorem WayTo.sure {bl : List LBlock} {l : List Nat} {b : Nat} (h : WayTo bl l b) {c : Nat} (hc : ¬ CanEnd bl c b) : WayTo bl l c := by
  induction h with
  | @here x hx hk =>
    by_cases e : x = c
    · subst e; exact .here hx hk
    · exact absurd (canEnd_kind (by omega) hk) hc
  | @step x y hx he hy ih =>
    by_cases e : x = c
    · subst e; exact .step hx he hy
    · exact ih fun hy => hc (canEnd_step (by omega) he hy)
theorem WayTo.stuck {bl : List LBlock} {l : List Nat} {b : Nat} (hk : kindOf bl b = 2) (ht : ∀ y, Edge bl b y → y = b) {x : Nat} (h : WayTo bl l x) : x ≠ b := by
  induction h with
  | here _ h1 => intro e; subst e; omega
  | step _ he _ ih => intro e; subst e; exact ih (ht _ he)
/-- behind a jump there is a block that is surely met -/
theorem WayTo.jump {bl : List LBlock} {l : List Nat} {b : Nat} (h : WayTo bl l b) (hk : kindOf bl b = 2) (ht : (toOf bl b).length = 1) : ∃ c, c ≠ b ∧ Edge bl b c ∧ Sure bl b c := by
  have hone : ∀ y z, Edge bl b y → Edge bl b z → z = y := fun y z hy hz => by
    obtain ⟨t, e⟩ := List.length_eq_one_iff.1 ht
    unfold Edge at hy hz
    rw [e, List.mem_singleton] at hy hz
    omega
  have hcan := h.can
  have h0 := h
  cases h with
  | here _ h1 => omega
  | @step _ y _ he hy =>
    by_cases e : y = b
    · subst e
      exact absurd rfl (h0.stuck hk fun z hz => hone _ _ he hz)
    · refine ⟨y, e, he, hcan, fun ⟨_, x, hr, hx⟩ => ?_⟩
      have : x = b := by
        refine rch_closed (p := fun x => x = b) rfl (fun x z e1 e2 e3 => ?_) hr
        rw [e1] at e2
        exact absurd (congrArg (fun n : Nat => (n : Int)) (hone _ _ he e2)) e3
      rw [this] at hx
      omega
/-- the next block on the chain -/
theorem post_way {bl : List LBlock} {l : List Nat} {b : Nat} (hok : GoodB bl) (h : WayTo bl l b) {z : Int} (hz : Best bl b bl.length z) : (∃ p : Nat, z = p ∧ p < bl.length ∧ WayTo bl l p) ∨ z = -1 ∧ (kindOf bl b = 2 → (toOf bl b).length = 1 → False) := by
  rcases hz with ⟨h1, h2⟩ | ⟨p, hp, h1, _, hs, _⟩
  · refine .inr ⟨h1, fun h3 h4 => ?_⟩
    obtain ⟨c, hc, he, hs⟩ := h.jump h3 h4
    exact h2 c (hok.edge he) hc hs
  · exact .inl ⟨p, h1, hp, h.sure hs.2⟩

/-! ### The frame of main -/
def Mac.bot (s : Mac) : Nat := match s.rest with | [] => s.top.fn | f :: _ => f.fn
theorem enter_bot (u : LUnit) (s : Mac) (fn : Nat) (dst : Int) (args : List Int) : (enterM u s fn dst args).bot = s.bot := by
  obtain ⟨_, _, _, _, rest, _, _⟩ := s
  cases rest <;> rfl
theorem end_bot {u : LUnit} {s s' : Mac} {B : LBlock} (he : endM u s B = .inl s') : s'.bot = s.bot := by
  unfold endM at he
  split at he
  · rw [← Sum.inl.inj he]; rfl
  split at he
  · rw [← Sum.inl.inj he]; rfl
  obtain ⟨a, b, c, d, rest, top, f⟩ := s
  cases hl : rest.getLast? with
  | none => simp only [hl] at he; cases he
  | some t =>
    simp only [hl] at he
    rw [← Sum.inl.inj he]
    have hsp := last_split hl
    unfold Mac.bot
    simp only
    cases hd : rest.dropLast with
    | nil => rw [hd] at hsp; simp only [hsp, List.nil_append]; rfl
    | cons g r => rw [hd] at hsp; rw [hsp]; rfl
theorem ins_bot {u : LUnit} {s s' : Mac} {x : LIns} (he : insM u s x = .inl s') : s'.bot = s.bot := by
  unfold insM at he
  simp only at he
  repeat' (split at he)
  all_goals first
    | (cases he; done)
    | (rw [← Sum.inl.inj he]; first | rfl | exact enter_bot _ _ _ _ _)
theorem step_bot {u : LUnit} {s s' : Mac} (he : stepM u s = .inl s') : s'.bot = s.bot := by
  rw [stepM_eq] at he
  split at he
  · exact (end_bot he).trans rfl
  · exact (ins_bot he).trans rfl
theorem step_end {u : LUnit} {s : Mac} {f : Fin} (h : MacOk u (s.steps + 1) s) (he : stepM u s = .inr f) (h0 : f.state = 0) : ∃ X, u.funcs[s.top.fn]? = some X ∧ kindOf X.blocks s.top.block = 1 ∧ s.bot = s.top.fn := by
  obtain ⟨X, R, hf⟩ := h.top
  obtain ⟨B, hB⟩ : ∃ B, X.blocks[s.top.block]? = some B := ⟨_, List.getElem?_eq_getElem hf.block⟩
  rw [stepM_eq, blockM_eq hf hB] at he
  cases hx : B.list[s.top.at']? with
  | some x =>
    rw [hx] at he
    simp only at he
    unfold insM at he
    simp only at he
    repeat' (split at he)
    all_goals first
      | (cases he; done)
      | (rw [← Sum.inr.inj he] at h0; simp [Mac.stop] at h0)
  | none =>
    rw [hx] at he
    simp only at he
    unfold endM at he
    split at he
    · cases he
    rename_i h2
    split at he
    · cases he
    rename_i h3
    have hr : s.rest = [] := by
      cases hl : (tick s).rest.getLast? with
      | none => exact List.getLast?_eq_none_iff.1 hl
      | some t => rw [hl] at he; cases he
    have hk := (hf.fit.blk B (List.mem_of_getElem? hB)).kind.1
    exact ⟨X, hf.get, by unfold kindOf; rw [hB]; simp only; omega, by unfold Mac.bot; rw [hr]⟩
theorem run_end {u : LUnit} (hu : UnitFit u) : ∀ (n : Nat) (s : Mac), MacOk u (s.steps + 1) s → VisMac u s → (runM u n s).state = 0 → ∃ X l b, u.funcs[s.bot]? = some X ∧ (runM u n s).counts[s.bot]? = some l ∧ VP X.blocks l b ∧ kindOf X.blocks b = 1
  | 0, s, _, _, h0 => by simp [runM, Mac.stop] at h0
  | n + 1, s, h, hv, h0 => by
    rw [runM] at h0 ⊢
    cases he : stepM u s with
    | inl s' =>
      obtain ⟨h1, _⟩ := step_ok hu h he
      rw [he] at h0
      have := run_end hu n s' h1 (step_vis hu h hv he) h0
      rw [step_bot he] at this
      exact this
    | inr f =>
      rw [he] at h0
      obtain ⟨X, h1, h2, h3⟩ := step_end h he h0
      obtain ⟨l, h4, h5⟩ := hv.top
      simp only
      rw [step_fin he, h3]
      exact ⟨X, l, _, h1, h4, hv.vis _ X l h1 h4 _ h5, h2⟩
/-- a run that ends has gone a way to an end in main -/
theorem result_way {u : LUnit} (hu : UnitFit u) (hs : StartOk u) {inp : List Int} (hin : ∀ x ∈ inp, inI x) (fuel : Nat) (h0 : (resultM u inp fuel).state = 0) : ∃ X l, u.funcs[(mainAt u.funcs).toNat]? = some X ∧ (resultM u inp fuel).counts[(mainAt u.funcs).toNat]? = some l ∧ WayTo X.blocks l 0 := by
  obtain ⟨X, l, b, h1, h2, h3, h4⟩ := run_end hu fuel (startM u inp) (start_ok hu hs hin) (start_vis hu hs inp) h0
  exact ⟨X, l, h1, h2, h3.way (.here h3.pos h4)⟩
/-- one function alone is named main -/
theorem main_one {u : LUnit} (h : (checkL u).1 = 0) {k : Nat} {X : LFunc} (hX : u.funcs[k]? = some X) (hm : isMain X = true) : (mainAt u.funcs).toNat = k := by
  have hk := (List.getElem?_eq_some_iff.1 hX).1
  have hXk : u.funcs[k] = X := (List.getElem?_eq_some_iff.1 hX).2
  have hhead : ∀ j, j < u.funcs.length → headAt u j = 0 := by
    unfold checkL at h
    split at h
    · cases h
    split at h
    · rename_i h2; exact absurd h h2
    split at h
    · rename_i h3; exact absurd h h3
    rename_i h3
    exact firstI_zero (by simpa using h3)
  unfold mainAt
  cases hf : u.funcs.findIdx? isMain with
  | none =>
    rw [List.findIdx?_eq_none_iff] at hf
    have := hf X (List.mem_of_getElem? hX)
    rw [hm] at this; cases this
  | some i =>
    obtain ⟨hi, h1, h2⟩ := List.findIdx?_eq_some_iff_getElem.1 hf
    simp only [Int.toNat_natCast]
    rcases Nat.lt_trichotomy i k with hlt | rfl | hgt
    · have h3 := hhead k hk
      simp only [headAt, at0, hX, headErr] at h3
      split at h3
      · cases h3
      split at h3
      · cases h3
      rename_i h4
      refine absurd ?_ h4
      unfold hasName
      rw [List.any_eq_true]
      refine ⟨u.funcs[i].name, List.mem_append_right _ (List.mem_map.2 ⟨u.funcs[i], ?_, rfl⟩), ?_⟩
      · rw [List.mem_take_iff_getElem]
        exact ⟨i, by omega, rfl⟩
      · unfold isMain at h1 hm
        rw [beq_iff_eq] at h1 hm ⊢
        rw [h1, hm]
    · rfl
    · have := h2 k hgt
      rw [hXk, hm] at this
      simp at this
end Go.Proofs.YtbmnkjaelfjlhaaDoor


/- The law DomSure, walked: what is surely met on the way to an end, a run that ends comes to. -/
namespace Go.Proofs.YtbmnkjaelfjlhaaDoor
open Go Go.RowKit
attribute [local irreducible] wpListIn Code.wpIn Exit.then Exit.inBlock bodyPost wpQuiet wpAnyIn wpAnyH bodyPostM oneH
set_option maxHeartbeats 8000000

theorem sureLaw_c (u : LUnit) (inp : List Int) (fuel : Int) (g fs iv : Value) (w0 : World) (hg : SlAt w0 g 3 u.globals GlobalV) (hf : SlAt w0 fs 4 u.funcs FuncV) (hin : SlAt w0 iv 1 inp IntV) (hways : CellsAt w0 0 0 waysC) :
    RetV Tryd.prog 6 [.agg #[g, fs], iv, .int .i64 fuel] w0 (.bool true) := by
  classical
  have hg0 := hg
  have hf0 := hf
  have hin0 := hin
  obtain ⟨ga, gn, gc, gb, go, rfl, _⟩ := hg
  obtain ⟨fa, fn, fc, fb, fo, rfl, hfn, hfnc, hfnb, hfc, hfa, hfel⟩ := hf
  obtain ⟨ia, il, ic, _, _, rfl, _⟩ := hin
  refine ret_enter Tryd.func6 rfl Tryd.ntmps6 rfl (Wd.nil NoS w0) ?_
  repeat (first | refine g_op rfl ?_ | refine g_then ?_ | refine g_nil ?_ | refine g_region ?_ | refine g_seq ?_ | refine g_opS rfl ?_ | refine g_open ?_ | refine g_pass rfl ?_ | refine g_store ?_ | refine g_box rfl fun _ _ => ?_ | refine g_alloc rfl fun _ _ => ?_ | refine g_allocS rfl fun _ _ => ?_ | refine g_storeAgg ?_ | refine g_inBlock ?_ | refine g_block ?_ | refine g_skip ?_ | refine g_condT ?_ | refine g_condF ?_ | refine g_add rfl (by omega) (by omega) ?_ | refine g_sub rfl (by omega) (by omega) ?_ | refine g_exit ?_ | refine g_thenExit ?_ | refine g_exitHere ?_ | refine g_exitOn rfl ?_ | refine g_ret ?_ | refine g_thenRet ?_ | refine g_blockRet ?_ | refine g_passS rfl ?_ | refine g_pass0 ?_ | refine g_passU rfl ?_ | refine g_passUS rfl ?_ | refine g_storeV ?_ | refine g_build1 rfl rfl fun _ _ => ?_ | refine g_buildN rfl rfl fun _ _ => ?_ | refine g_make rfl (by omega) (by omega) fun _ _ => ?_)
  rename_i p3 _
  refine g_callE (val := fun b : Bool => .bool b) (E := fun _ => []) (φ := fun b => b = false → light u) rfl (fun w hw => heavy_c u _ _ w (hf0.keep keeps_func hw.chg) ⟨_, _, _, rfl⟩) fun b hb => ?_
  simp only [List.nil_append]
  cases b
  case true =>
    repeat (first | refine g_op rfl ?_ | refine g_then ?_ | refine g_nil ?_ | refine g_region ?_ | refine g_seq ?_ | refine g_opS rfl ?_ | refine g_open ?_ | refine g_pass rfl ?_ | refine g_store ?_ | refine g_box rfl fun _ _ => ?_ | refine g_alloc rfl fun _ _ => ?_ | refine g_allocS rfl fun _ _ => ?_ | refine g_storeAgg ?_ | refine g_inBlock ?_ | refine g_block ?_ | refine g_skip ?_ | refine g_condT ?_ | refine g_condF ?_ | refine g_add rfl (by omega) (by omega) ?_ | refine g_sub rfl (by omega) (by omega) ?_ | refine g_exit ?_ | refine g_thenExit ?_ | refine g_exitHere ?_ | refine g_exitOn rfl ?_ | refine g_ret ?_ | refine g_thenRet ?_ | refine g_blockRet ?_ | refine g_passS rfl ?_ | refine g_pass0 ?_ | refine g_passU rfl ?_ | refine g_passUS rfl ?_ | refine g_storeV ?_ | refine g_build1 rfl rfl fun _ _ => ?_ | refine g_buildN rfl rfl fun _ _ => ?_ | refine g_make rfl (by omega) (by omega) fun _ _ => ?_)
    exact g_retV rfl rfl
  have hl := hb rfl
  repeat (first | refine g_op rfl ?_ | refine g_then ?_ | refine g_nil ?_ | refine g_region ?_ | refine g_seq ?_ | refine g_opS rfl ?_ | refine g_open ?_ | refine g_pass rfl ?_ | refine g_store ?_ | refine g_box rfl fun _ _ => ?_ | refine g_alloc rfl fun _ _ => ?_ | refine g_allocS rfl fun _ _ => ?_ | refine g_storeAgg ?_ | refine g_inBlock ?_ | refine g_block ?_ | refine g_skip ?_ | refine g_condT ?_ | refine g_condF ?_ | refine g_add rfl (by omega) (by omega) ?_ | refine g_sub rfl (by omega) (by omega) ?_ | refine g_exit ?_ | refine g_thenExit ?_ | refine g_exitHere ?_ | refine g_exitOn rfl ?_ | refine g_ret ?_ | refine g_thenRet ?_ | refine g_blockRet ?_ | refine g_passS rfl ?_ | refine g_pass0 ?_ | refine g_passU rfl ?_ | refine g_passUS rfl ?_ | refine g_storeV ?_ | refine g_build1 rfl rfl fun _ _ => ?_ | refine g_buildN rfl rfl fun _ _ => ?_ | refine g_make rfl (by omega) (by omega) fun _ _ => ?_)
  refine g_cond (fun h1 => ?_) (fun h1 => ?_)
  · repeat (first | refine g_op rfl ?_ | refine g_then ?_ | refine g_nil ?_ | refine g_region ?_ | refine g_seq ?_ | refine g_opS rfl ?_ | refine g_open ?_ | refine g_pass rfl ?_ | refine g_store ?_ | refine g_box rfl fun _ _ => ?_ | refine g_alloc rfl fun _ _ => ?_ | refine g_allocS rfl fun _ _ => ?_ | refine g_storeAgg ?_ | refine g_inBlock ?_ | refine g_block ?_ | refine g_skip ?_ | refine g_condT ?_ | refine g_condF ?_ | refine g_add rfl (by omega) (by omega) ?_ | refine g_sub rfl (by omega) (by omega) ?_ | refine g_exit ?_ | refine g_thenExit ?_ | refine g_exitHere ?_ | refine g_exitOn rfl ?_ | refine g_ret ?_ | refine g_thenRet ?_ | refine g_blockRet ?_ | refine g_passS rfl ?_ | refine g_pass0 ?_ | refine g_passU rfl ?_ | refine g_passUS rfl ?_ | refine g_storeV ?_ | refine g_build1 rfl rfl fun _ _ => ?_ | refine g_buildN rfl rfl fun _ _ => ?_ | refine g_make rfl (by omega) (by omega) fun _ _ => ?_)
    exact g_retV rfl rfl
  repeat (first | refine g_op rfl ?_ | refine g_then ?_ | refine g_nil ?_ | refine g_region ?_ | refine g_seq ?_ | refine g_opS rfl ?_ | refine g_open ?_ | refine g_pass rfl ?_ | refine g_store ?_ | refine g_box rfl fun _ _ => ?_ | refine g_alloc rfl fun _ _ => ?_ | refine g_allocS rfl fun _ _ => ?_ | refine g_storeAgg ?_ | refine g_inBlock ?_ | refine g_block ?_ | refine g_skip ?_ | refine g_condT ?_ | refine g_condF ?_ | refine g_add rfl (by omega) (by omega) ?_ | refine g_sub rfl (by omega) (by omega) ?_ | refine g_exit ?_ | refine g_thenExit ?_ | refine g_exitHere ?_ | refine g_exitOn rfl ?_ | refine g_ret ?_ | refine g_thenRet ?_ | refine g_blockRet ?_ | refine g_passS rfl ?_ | refine g_pass0 ?_ | refine g_passU rfl ?_ | refine g_passUS rfl ?_ | refine g_storeV ?_ | refine g_build1 rfl rfl fun _ _ => ?_ | refine g_buildN rfl rfl fun _ _ => ?_ | refine g_make rfl (by omega) (by omega) fun _ _ => ?_)
  by_cases hbad : (countsE u inp.length fuel).1 ≠ 0
  · refine g_callV rfl (fun w hw => counts_bad u hl _ _ _ inp fuel hbad w (hg0.keep keeps_global hw.chg) (hf0.keep keeps_func hw.chg) (hin0.keep keeps_int hw.chg) (hways.keep hw.chg)) ?_
    repeat (first | refine g_op rfl ?_ | refine g_then ?_ | refine g_nil ?_ | refine g_region ?_ | refine g_seq ?_ | refine g_opS rfl ?_ | refine g_open ?_ | refine g_pass rfl ?_ | refine g_store ?_ | refine g_box rfl fun _ _ => ?_ | refine g_alloc rfl fun _ _ => ?_ | refine g_allocS rfl fun _ _ => ?_ | refine g_storeAgg ?_ | refine g_inBlock ?_ | refine g_block ?_ | refine g_skip ?_ | refine g_condT ?_ | refine g_condF ?_ | refine g_add rfl (by omega) (by omega) ?_ | refine g_sub rfl (by omega) (by omega) ?_ | refine g_exit ?_ | refine g_thenExit ?_ | refine g_exitHere ?_ | refine g_exitOn rfl ?_ | refine g_ret ?_ | refine g_thenRet ?_ | refine g_blockRet ?_ | refine g_passS rfl ?_ | refine g_pass0 ?_ | refine g_passU rfl ?_ | refine g_passUS rfl ?_ | refine g_storeV ?_ | refine g_build1 rfl rfl fun _ _ => ?_ | refine g_buildN rfl rfl fun _ _ => ?_ | refine g_make rfl (by omega) (by omega) fun _ _ => ?_)
    refine g_cond (fun h2 => ?_) (fun h2 => ?_)
    · repeat (first | refine g_op rfl ?_ | refine g_then ?_ | refine g_nil ?_ | refine g_region ?_ | refine g_seq ?_ | refine g_opS rfl ?_ | refine g_open ?_ | refine g_pass rfl ?_ | refine g_store ?_ | refine g_box rfl fun _ _ => ?_ | refine g_alloc rfl fun _ _ => ?_ | refine g_allocS rfl fun _ _ => ?_ | refine g_storeAgg ?_ | refine g_inBlock ?_ | refine g_block ?_ | refine g_skip ?_ | refine g_condT ?_ | refine g_condF ?_ | refine g_add rfl (by omega) (by omega) ?_ | refine g_sub rfl (by omega) (by omega) ?_ | refine g_exit ?_ | refine g_thenExit ?_ | refine g_exitHere ?_ | refine g_exitOn rfl ?_ | refine g_ret ?_ | refine g_thenRet ?_ | refine g_blockRet ?_ | refine g_passS rfl ?_ | refine g_pass0 ?_ | refine g_passU rfl ?_ | refine g_passUS rfl ?_ | refine g_storeV ?_ | refine g_build1 rfl rfl fun _ _ => ?_ | refine g_buildN rfl rfl fun _ _ => ?_ | refine g_make rfl (by omega) (by omega) fun _ _ => ?_)
      exact g_retV rfl rfl
    · exact absurd h2 (by simp [hbad])
  have hgood : (countsE u inp.length fuel).1 = 0 := by simpa using hbad
  obtain ⟨hch, _, fu, rfl, hfu⟩ := countsE_zero hgood
  have hco := (countsK u hl _ _ _ inp fu hgood w0 hg0 hf0 hin0 hways).1
  have hsf := (check_start hch (gnums_of hg0)).funcs
  have hpf : 0 < u.funcs.length := by
    obtain ⟨fm, M, _, hM⟩ := (check_start hch (gnums_of hg0)).main
    have := (List.getElem?_eq_some_iff.1 hM).1
    omega
  refine g_callE (val := fun x : (Option Addr × Nat × (Nat → Prop)) × (Option Addr × Nat × Nat) => .tuple #[.slice x.1.1 (resultM u inp fu).counts.length x.1.2.1, .agg #[.int .i64 (resultM u inp fu).state, .int .i64 (resultM u inp fu).value, .slice x.2.1 x.2.2.1 x.2.2.2, .int .i64 (resultM u inp fu).steps], .agg #[.int .i64 0, .int .i64 0]]) (E := fun x => [⟨x.1.2.2, fun w => SlAt w (.slice x.1.1 (resultM u inp fu).counts.length x.1.2.1) 1 (countsI (resultM u inp fu).counts) RowV⟩]) (φ := fun _ => True) rfl (fun w hw => (countsK u hl _ _ _ inp fu hgood w (hg0.keep keeps_global hw.chg) (hf0.keep keeps_func hw.chg) (hin0.keep keeps_int hw.chg) (hways.keep hw.chg)).2) fun x _ => ?_
  obtain ⟨⟨ca, cc, cp⟩, oa, on, oc⟩ := x
  obtain ⟨cs, hcs⟩ : ∃ cs, cs = (resultM u inp fu).counts := ⟨_, rfl⟩
  simp only [List.cons_append, List.nil_append]
  rw [← hcs] at hco ⊢
  rw [hco.cnt.1, ← hfn]
  repeat (first | refine g_op rfl ?_ | refine g_then ?_ | refine g_nil ?_ | refine g_region ?_ | refine g_seq ?_ | refine g_opS rfl ?_ | refine g_open ?_ | refine g_pass rfl ?_ | refine g_store ?_ | refine g_box rfl fun _ _ => ?_ | refine g_alloc rfl fun _ _ => ?_ | refine g_allocS rfl fun _ _ => ?_ | refine g_storeAgg ?_ | refine g_inBlock ?_ | refine g_block ?_ | refine g_skip ?_ | refine g_condT ?_ | refine g_condF ?_ | refine g_add rfl (by omega) (by omega) ?_ | refine g_sub rfl (by omega) (by omega) ?_ | refine g_exit ?_ | refine g_thenExit ?_ | refine g_exitHere ?_ | refine g_exitOn rfl ?_ | refine g_ret ?_ | refine g_thenRet ?_ | refine g_blockRet ?_ | refine g_passS rfl ?_ | refine g_pass0 ?_ | refine g_passU rfl ?_ | refine g_passUS rfl ?_ | refine g_storeV ?_ | refine g_build1 rfl rfl fun _ _ => ?_ | refine g_buildN rfl rfl fun _ _ => ?_ | refine g_make rfl (by omega) (by omega) fun _ _ => ?_)
  rename_i p8 _ p9 _
  rw [show (!decide ((0 : Int) = 0)) = false by simp]
  repeat (first | refine g_op rfl ?_ | refine g_then ?_ | refine g_nil ?_ | refine g_region ?_ | refine g_seq ?_ | refine g_opS rfl ?_ | refine g_open ?_ | refine g_pass rfl ?_ | refine g_store ?_ | refine g_box rfl fun _ _ => ?_ | refine g_alloc rfl fun _ _ => ?_ | refine g_allocS rfl fun _ _ => ?_ | refine g_storeAgg ?_ | refine g_inBlock ?_ | refine g_block ?_ | refine g_skip ?_ | refine g_condT ?_ | refine g_condF ?_ | refine g_add rfl (by omega) (by omega) ?_ | refine g_sub rfl (by omega) (by omega) ?_ | refine g_exit ?_ | refine g_thenExit ?_ | refine g_exitHere ?_ | refine g_exitOn rfl ?_ | refine g_ret ?_ | refine g_thenRet ?_ | refine g_blockRet ?_ | refine g_passS rfl ?_ | refine g_pass0 ?_ | refine g_passU rfl ?_ | refine g_passUS rfl ?_ | refine g_storeV ?_ | refine g_build1 rfl rfl fun _ _ => ?_ | refine g_buildN rfl rfl fun _ _ => ?_ | refine g_make rfl (by omega) (by omega) fun _ _ => ?_)
  rw [show (!decide ((fn : Int) = (fn : Int))) = false by simp]
  repeat (first | refine g_op rfl ?_ | refine g_then ?_ | refine g_nil ?_ | refine g_region ?_ | refine g_seq ?_ | refine g_opS rfl ?_ | refine g_open ?_ | refine g_pass rfl ?_ | refine g_store ?_ | refine g_box rfl fun _ _ => ?_ | refine g_alloc rfl fun _ _ => ?_ | refine g_allocS rfl fun _ _ => ?_ | refine g_storeAgg ?_ | refine g_inBlock ?_ | refine g_block ?_ | refine g_skip ?_ | refine g_condT ?_ | refine g_condF ?_ | refine g_add rfl (by omega) (by omega) ?_ | refine g_sub rfl (by omega) (by omega) ?_ | refine g_exit ?_ | refine g_thenExit ?_ | refine g_exitHere ?_ | refine g_exitOn rfl ?_ | refine g_ret ?_ | refine g_thenRet ?_ | refine g_blockRet ?_ | refine g_passS rfl ?_ | refine g_pass0 ?_ | refine g_passU rfl ?_ | refine g_passUS rfl ?_ | refine g_storeV ?_ | refine g_build1 rfl rfl fun _ _ => ?_ | refine g_buildN rfl rfl fun _ _ => ?_ | refine g_make rfl (by omega) (by omega) fun _ _ => ?_)
  rw [show decide ((fn : Int) = 0) = false by simp; omega]
  repeat (first | refine g_op rfl ?_ | refine g_then ?_ | refine g_nil ?_ | refine g_region ?_ | refine g_seq ?_ | refine g_opS rfl ?_ | refine g_open ?_ | refine g_pass rfl ?_ | refine g_store ?_ | refine g_box rfl fun _ _ => ?_ | refine g_alloc rfl fun _ _ => ?_ | refine g_allocS rfl fun _ _ => ?_ | refine g_storeAgg ?_ | refine g_inBlock ?_ | refine g_block ?_ | refine g_skip ?_ | refine g_condT ?_ | refine g_condF ?_ | refine g_add rfl (by omega) (by omega) ?_ | refine g_sub rfl (by omega) (by omega) ?_ | refine g_exit ?_ | refine g_thenExit ?_ | refine g_exitHere ?_ | refine g_exitOn rfl ?_ | refine g_ret ?_ | refine g_thenRet ?_ | refine g_blockRet ?_ | refine g_passS rfl ?_ | refine g_pass0 ?_ | refine g_passU rfl ?_ | refine g_passUS rfl ?_ | refine g_storeV ?_ | refine g_build1 rfl rfl fun _ _ => ?_ | refine g_buildN rfl rfl fun _ _ => ?_ | refine g_make rfl (by omega) (by omega) fun _ _ => ?_)
  obtain ⟨stt, hstt⟩ : ∃ z : Int, z = (resultM u inp fu).state := ⟨_, rfl⟩
  have hini : ∀ x ∈ inp, inI x := fun x hx => by obtain ⟨_, _, h9⟩ := hin0.el hx; exact h9
  have hway := result_way (unit_fit hl hch (nums_of hf0)) (check_start hch (gnums_of hg0)) hini fu
  rw [← hstt, ← hcs] at hway
  rw [← hstt]
  refine g_sel [3, 1, 2] (by decide) ?_
  refine g_loop (fun i : Nat => i ≤ fn) (fun i => [(10, .int .i64 i), (7, .slice ca fn cc), (3, .pointer (some ⟨p3, 0, none⟩)), (8, .pointer (some ⟨p8, 0, none⟩))]) (fun _ => [Ent.box p3 [.slice ga gn gc, .slice fa fn fc] 25, Ent.box p8 [.int .i64 stt, .int .i64 (resultM u inp fu).value, .slice oa on oc, .int .i64 (resultM u inp fu).steps] 52, (⟨cp, fun w => SlAt w (.slice ca fn cc) 1 (countsI cs) RowV⟩ : Ent)]) (fun i => fn - i) 0 (Nat.zero_le _) (g_done (by repeat (first | exact trivial | refine ⟨rfl, ?_⟩)) (List.Sublist.refl _)) fun i hi => ?_
  repeat (first | refine g_op rfl ?_ | refine g_then ?_ | refine g_nil ?_ | refine g_region ?_ | refine g_seq ?_ | refine g_opS rfl ?_ | refine g_open ?_ | refine g_pass rfl ?_ | refine g_store ?_ | refine g_box rfl fun _ _ => ?_ | refine g_alloc rfl fun _ _ => ?_ | refine g_allocS rfl fun _ _ => ?_ | refine g_storeAgg ?_ | refine g_inBlock ?_ | refine g_block ?_ | refine g_skip ?_ | refine g_condT ?_ | refine g_condF ?_ | refine g_add rfl (by omega) (by omega) ?_ | refine g_sub rfl (by omega) (by omega) ?_ | refine g_exit ?_ | refine g_thenExit ?_ | refine g_exitHere ?_ | refine g_exitOn rfl ?_ | refine g_ret ?_ | refine g_thenRet ?_ | refine g_blockRet ?_ | refine g_passS rfl ?_ | refine g_pass0 ?_ | refine g_passU rfl ?_ | refine g_passUS rfl ?_ | refine g_storeV ?_ | refine g_build1 rfl rfl fun _ _ => ?_ | refine g_buildN rfl rfl fun _ _ => ?_ | refine g_make rfl (by omega) (by omega) fun _ _ => ?_)
  refine g_cond (fun h3 => ?_) (fun h3 => ?_)
  case _ =>
    have hlt : i < fn := by simpa using h3
    obtain ⟨X, hX⟩ := get_lt hfn hlt
    have hask : (askedL u i).1 = 0 := by unfold askedL; rw [if_neg (by simp [hch]), if_neg (by omega)]
    obtain ⟨_, _, i', X', hi', hX', hok⟩ := asked_ok hask
    have hii : i = i' := by omega
    subst hii
    have hXX : X' = X := by rw [hX] at hX'; exact (Option.some.inj hX').symm
    subst hXX
    have hpos := check_pos hch hX
    obtain ⟨fcs, hfcs, bv, rfl, _, _, hbv⟩ := hfel i _ hX
    have hbv0 := hbv
    obtain ⟨ba, bn, bc, _, _, rfl, hbn, _⟩ := hbv
    have h24 := (hl.2 _ (List.mem_of_getElem? hX)).1
    have hadf0 : AddrIs fa fb fo := ⟨hfa (ne_of_get hX)⟩
    have hli0 : LtIs i fn := ⟨hlt⟩
    have hci0 : CellsIs w0 fb (fo + i * 4) _ := ⟨hfcs⟩
    repeat (first | refine g_op rfl ?_ | refine g_then ?_ | refine g_nil ?_ | refine g_region ?_ | refine g_seq ?_ | refine g_opS rfl ?_ | refine g_open ?_ | refine g_pass rfl ?_ | refine g_store ?_ | refine g_box rfl fun _ _ => ?_ | refine g_alloc rfl fun _ _ => ?_ | refine g_allocS rfl fun _ _ => ?_ | refine g_storeAgg ?_ | refine g_inBlock ?_ | refine g_block ?_ | refine g_skip ?_ | refine g_condT ?_ | refine g_condF ?_ | refine g_add rfl (by omega) (by omega) ?_ | refine g_sub rfl (by omega) (by omega) ?_ | refine g_exit ?_ | refine g_thenExit ?_ | refine g_exitHere ?_ | refine g_exitOn rfl ?_ | refine g_ret ?_ | refine g_thenRet ?_ | refine g_blockRet ?_ | refine g_passS rfl ?_ | refine g_pass0 ?_ | refine g_passU rfl ?_ | refine g_passUS rfl ?_ | refine g_storeV ?_ | refine g_build1 rfl rfl fun _ _ => ?_ | refine g_buildN rfl rfl fun _ _ => ?_ | refine g_make rfl (by omega) (by omega) fun _ _ => ?_)
    refine g_cond (fun h4 => ?_) (fun h4 => ?_)
    · repeat (first | refine g_op rfl ?_ | refine g_then ?_ | refine g_nil ?_ | refine g_region ?_ | refine g_seq ?_ | refine g_opS rfl ?_ | refine g_open ?_ | refine g_pass rfl ?_ | refine g_store ?_ | refine g_box rfl fun _ _ => ?_ | refine g_alloc rfl fun _ _ => ?_ | refine g_allocS rfl fun _ _ => ?_ | refine g_storeAgg ?_ | refine g_inBlock ?_ | refine g_block ?_ | refine g_skip ?_ | refine g_condT ?_ | refine g_condF ?_ | refine g_add rfl (by omega) (by omega) ?_ | refine g_sub rfl (by omega) (by omega) ?_ | refine g_exit ?_ | refine g_thenExit ?_ | refine g_exitHere ?_ | refine g_exitOn rfl ?_ | refine g_ret ?_ | refine g_thenRet ?_ | refine g_blockRet ?_ | refine g_passS rfl ?_ | refine g_pass0 ?_ | refine g_passU rfl ?_ | refine g_passUS rfl ?_ | refine g_storeV ?_ | refine g_build1 rfl rfl fun _ _ => ?_ | refine g_buildN rfl rfl fun _ _ => ?_ | refine g_make rfl (by omega) (by omega) fun _ _ => ?_)
      rw [show (i : Int) + 1 = ((i + 1 : Nat) : Int) by omega]
      refine g_next (i + 1) hlt (by omega) (by repeat (first | exact trivial | refine ⟨rfl, ?_⟩)) (List.Sublist.refl _)
    have hmain : isMain X' = true := by unfold isMain; simpa using h4
    have hmi := main_one hch hX hmain
    repeat (first | refine g_op rfl ?_ | refine g_then ?_ | refine g_nil ?_ | refine g_region ?_ | refine g_seq ?_ | refine g_opS rfl ?_ | refine g_open ?_ | refine g_pass rfl ?_ | refine g_store ?_ | refine g_box rfl fun _ _ => ?_ | refine g_alloc rfl fun _ _ => ?_ | refine g_allocS rfl fun _ _ => ?_ | refine g_storeAgg ?_ | refine g_inBlock ?_ | refine g_block ?_ | refine g_skip ?_ | refine g_condT ?_ | refine g_condF ?_ | refine g_add rfl (by omega) (by omega) ?_ | refine g_sub rfl (by omega) (by omega) ?_ | refine g_exit ?_ | refine g_thenExit ?_ | refine g_exitHere ?_ | refine g_exitOn rfl ?_ | refine g_ret ?_ | refine g_thenRet ?_ | refine g_blockRet ?_ | refine g_passS rfl ?_ | refine g_pass0 ?_ | refine g_passU rfl ?_ | refine g_passUS rfl ?_ | refine g_storeV ?_ | refine g_build1 rfl rfl fun _ _ => ?_ | refine g_buildN rfl rfl fun _ _ => ?_ | refine g_make rfl (by omega) (by omega) fun _ _ => ?_)
    refine g_callE (val := fun x : Option Addr × Nat × List Int × (Nat → Prop) => .tuple #[.slice x.1 X'.blocks.length x.2.1, .agg #[.int .i64 0, .int .i64 0]]) (E := fun x => [⟨x.2.2.2, fun w => SlAt w (.slice x.1 X'.blocks.length x.2.1) 1 x.2.2.1 IntV⟩]) (φ := fun x => BestL X'.blocks X'.blocks.length x.2.2.1) rfl (fun w hw =>
      (post_ok u hl i hask X' hX hok _ _ w (hg0.keep keeps_global hw.chg) (hf0.keep keeps_func hw.chg) (hways.keep hw.chg)).mono fun v w' ⟨x, h1, h2, h3⟩ => ⟨(x.1, x.2.1, x.2.2, _), h1, h2.ints h3.1.symm (by omega) (bestL_in h3 (by omega)), h3⟩) fun x hbest => ?_
    obtain ⟨ta, tc, tl, tp⟩ := x
    simp only at hbest
    rw [← hbn]
    simp only [List.cons_append, List.nil_append]
    repeat (first | refine g_op rfl ?_ | refine g_then ?_ | refine g_nil ?_ | refine g_region ?_ | refine g_seq ?_ | refine g_opS rfl ?_ | refine g_open ?_ | refine g_pass rfl ?_ | refine g_store ?_ | refine g_box rfl fun _ _ => ?_ | refine g_alloc rfl fun _ _ => ?_ | refine g_allocS rfl fun _ _ => ?_ | refine g_storeAgg ?_ | refine g_inBlock ?_ | refine g_block ?_ | refine g_skip ?_ | refine g_condT ?_ | refine g_condF ?_ | refine g_add rfl (by omega) (by omega) ?_ | refine g_sub rfl (by omega) (by omega) ?_ | refine g_exit ?_ | refine g_thenExit ?_ | refine g_exitHere ?_ | refine g_exitOn rfl ?_ | refine g_ret ?_ | refine g_thenRet ?_ | refine g_blockRet ?_ | refine g_passS rfl ?_ | refine g_pass0 ?_ | refine g_passU rfl ?_ | refine g_passUS rfl ?_ | refine g_storeV ?_ | refine g_build1 rfl rfl fun _ _ => ?_ | refine g_buildN rfl rfl fun _ _ => ?_ | refine g_make rfl (by omega) (by omega) fun _ _ => ?_)
    rename_i p12 _
    refine g_sel [0, 2, 3, 1, 4] (by decide) ?_
    refine g_eqH (H1 := [Ent.box p12 [.int .i64 0, .int .i64 0] 28, Ent.box p3 [.slice ga gn gc, .slice fa fn fc] 25, Ent.box p8 [.int .i64 stt, .int .i64 (resultM u inp fu).value, .slice oa on oc, .int .i64 (resultM u inp fu).steps] 52] ++ [(⟨tp, fun w => SlAt w (.slice ta bn tc) 1 tl IntV⟩ : Ent), (⟨cp, fun w => SlAt w (.slice ca fn cc) 1 (countsI cs) RowV⟩ : Ent)]) rfl ?_
    refine g_holdK fun w1 hw1 => ?_
    have hdt : SlAt (killW (fps [Ent.box p12 [.int .i64 0, .int .i64 0] 28, Ent.box p3 [.slice ga gn gc, .slice fa fn fc] 25, Ent.box p8 [.int .i64 stt, .int .i64 (resultM u inp fu).value, .slice oa on oc, .int .i64 (resultM u inp fu).steps] 52]) w1) (.slice ta bn tc) 1 tl IntV := hw1.beside (e := (⟨tp, fun w => SlAt w (.slice ta bn tc) 1 tl IntV⟩ : Ent)) (by simp)
    have hct : SlAt (killW (fps [Ent.box p12 [.int .i64 0, .int .i64 0] 28, Ent.box p3 [.slice ga gn gc, .slice fa fn fc] 25, Ent.box p8 [.int .i64 stt, .int .i64 (resultM u inp fu).value, .slice oa on oc, .int .i64 (resultM u inp fu).steps] 52]) w1) (.slice ca fn cc) 1 (countsI cs) RowV := hw1.beside (e := (⟨cp, fun w => SlAt w (.slice ca fn cc) 1 (countsI cs) RowV⟩ : Ent)) (by simp)
    have back : ∀ {E : List Ent} {w : World}, Wd (fps [Ent.box p12 [.int .i64 0, .int .i64 0] 28, Ent.box p3 [.slice ga gn gc, .slice fa fn fc] 25, Ent.box p8 [.int .i64 stt, .int .i64 (resultM u inp fu).value, .slice oa on oc, .int .i64 (resultM u inp fu).steps] 52]) (killW (fps [Ent.box p12 [.int .i64 0, .int .i64 0] 28, Ent.box p3 [.slice ga gn gc, .slice fa fn fc] 25, Ent.box p8 [.int .i64 stt, .int .i64 (resultM u inp fu).value, .slice oa on oc, .int .i64 (resultM u inp fu).steps] 52]) w1) E w → Wd NoS w0 (E ++ [(⟨tp, fun w => SlAt w (.slice ta bn tc) 1 tl IntV⟩ : Ent), (⟨cp, fun w => SlAt w (.slice ca fn cc) 1 (countsI cs) RowV⟩ : Ent)]) w := fun hw => hw1.comp hw.unkill
    have hkp : ∀ {E : List Ent} {w : World}, Wd (fps [Ent.box p12 [.int .i64 0, .int .i64 0] 28, Ent.box p3 [.slice ga gn gc, .slice fa fn fc] 25, Ent.box p8 [.int .i64 stt, .int .i64 (resultM u inp fu).value, .slice oa on oc, .int .i64 (resultM u inp fu).steps] 52]) (killW (fps [Ent.box p12 [.int .i64 0, .int .i64 0] 28, Ent.box p3 [.slice ga gn gc, .slice fa fn fc] 25, Ent.box p8 [.int .i64 stt, .int .i64 (resultM u inp fu).value, .slice oa on oc, .int .i64 (resultM u inp fu).steps] 52]) w1) E w → ∀ p v, (killW (fps [Ent.box p12 [.int .i64 0, .int .i64 0] 28, Ent.box p3 [.slice ga gn gc, .slice fa fn fc] 25, Ent.box p8 [.int .i64 stt, .int .i64 (resultM u inp fu).value, .slice oa on oc, .int .i64 (resultM u inp fu).steps] 52]) w1).cell? p = some v → w.cell? p = some v := fun hw => hw.killKeep
    have hold : ∀ {b o : Nat} {v : Value} {l : List Value}, CellsAt (killW (fps [Ent.box p12 [.int .i64 0, .int .i64 0] 28, Ent.box p3 [.slice ga gn gc, .slice fa fn fc] 25, Ent.box p8 [.int .i64 stt, .int .i64 (resultM u inp fu).value, .slice oa on oc, .int .i64 (resultM u inp fu).steps] 52]) w1) b o (v :: l) → OldIs (fps [Ent.box p12 [.int .i64 0, .int .i64 0] 28, Ent.box p3 [.slice ga gn gc, .slice fa fn fc] 25, Ent.box p8 [.int .i64 stt, .int .i64 (resultM u inp fu).value, .slice oa on oc, .int .i64 (resultM u inp fu).steps] 52]) b := fun hc => killOldIs hc (by simp)
    have hcw := hfcs.keep hw1.killOld
    have hbvk : SlAt (killW (fps [Ent.box p12 [.int .i64 0, .int .i64 0] 28, Ent.box p3 [.slice ga gn gc, .slice fa fn fc] 25, Ent.box p8 [.int .i64 stt, .int .i64 (resultM u inp fu).value, .slice oa on oc, .int .i64 (resultM u inp fu).steps] 52]) w1) (.slice ba bn bc) 6 X'.blocks BlockV := hbv0.keep keeps_block hw1.killOld
    generalize killW (fps [Ent.box p12 [.int .i64 0, .int .i64 0] 28, Ent.box p3 [.slice ga gn gc, .slice fa fn fc] 25, Ent.box p8 [.int .i64 stt, .int .i64 (resultM u inp fu).value, .slice oa on oc, .int .i64 (resultM u inp fu).steps] 52]) w1 = wk at *
    generalize fps [Ent.box p12 [.int .i64 0, .int .i64 0] 28, Ent.box p3 [.slice ga gn gc, .slice fa fn fc] 25, Ent.box p8 [.int .i64 stt, .int .i64 (resultM u inp fu).value, .slice oa on oc, .int .i64 (resultM u inp fu).steps] 52] = SS at *
    have hciw : CellsIs wk fb (fo + i * 4) _ := ⟨hcw⟩
    have holf : OldIs SS fb := hold hcw
    obtain ⟨l, hl1, hl2, hl3⟩ := hco.cnt.2 i X' hX
    have hwy : stt = 0 → WayTo X'.blocks l 0 := fun h0 => by
      obtain ⟨Y, m, e1, e2, e3⟩ := hway h0
      rw [hmi] at e1 e2
      rw [hX] at e1
      rw [hl1] at e2
      rw [← Option.some.inj e1, ← Option.some.inj e2] at e3
      exact e3
    have hcr : (countsI cs)[i]? = some (natsI l) := by unfold countsI; rw [List.getElem?_map, hl1]; rfl
    have hnl : (natsI l).length = bn := by simp [natsI, hl2, hbn]
    obtain ⟨cb, co, hadc, holc, hcel⟩ := tabK hct hold (List.ne_nil_of_mem (List.mem_of_getElem? hcr))
    obtain ⟨ra, rc, hcic, hrow⟩ := hcel i _ hcr
    rw [hnl] at hcic hrow
    have hbpos : 0 < bn := by rw [hbn]; exact hpos
    have htl : tl.length = bn := by rw [hbn]; exact hbest.1
    obtain ⟨_, _, _, db, dO, hda, hdel⟩ := hdt.at
    have hadd : AddrIs ta db dO := ⟨hda (by intro e; rw [e] at htl; simp at htl; omega)⟩
    obtain ⟨_, _, _, rb, ro, hra, hrel⟩ := hrow.at
    have hadr : AddrIs ra rb ro := ⟨hra (by intro e; rw [e] at hnl; simp at hnl; omega)⟩
    rw [show (!decide ((0 : Int) = 0)) = false by simp]
    repeat (first | refine g_op rfl ?_ | refine g_then ?_ | refine g_nil ?_ | refine g_region ?_ | refine g_seq ?_ | refine g_opS rfl ?_ | refine g_open ?_ | refine g_pass rfl ?_ | refine g_store ?_ | refine g_box rfl fun _ _ => ?_ | refine g_alloc rfl fun _ _ => ?_ | refine g_allocS rfl fun _ _ => ?_ | refine g_storeAgg ?_ | refine g_inBlock ?_ | refine g_block ?_ | refine g_skip ?_ | refine g_condT ?_ | refine g_condF ?_ | refine g_add rfl (by omega) (by omega) ?_ | refine g_sub rfl (by omega) (by omega) ?_ | refine g_exit ?_ | refine g_thenExit ?_ | refine g_exitHere ?_ | refine g_exitOn rfl ?_ | refine g_ret ?_ | refine g_thenRet ?_ | refine g_blockRet ?_ | refine g_passS rfl ?_ | refine g_pass0 ?_ | refine g_passU rfl ?_ | refine g_passUS rfl ?_ | refine g_storeV ?_ | refine g_build1 rfl rfl fun _ _ => ?_ | refine g_buildN rfl rfl fun _ _ => ?_ | refine g_make rfl (by omega) (by omega) fun _ _ => ?_)
    rw [show (!decide ((bn : Int) = (bn : Int))) = false by simp]
    repeat (first | refine g_op rfl ?_ | refine g_then ?_ | refine g_nil ?_ | refine g_region ?_ | refine g_seq ?_ | refine g_opS rfl ?_ | refine g_open ?_ | refine g_pass rfl ?_ | refine g_store ?_ | refine g_box rfl fun _ _ => ?_ | refine g_alloc rfl fun _ _ => ?_ | refine g_allocS rfl fun _ _ => ?_ | refine g_storeAgg ?_ | refine g_inBlock ?_ | refine g_block ?_ | refine g_skip ?_ | refine g_condT ?_ | refine g_condF ?_ | refine g_add rfl (by omega) (by omega) ?_ | refine g_sub rfl (by omega) (by omega) ?_ | refine g_exit ?_ | refine g_thenExit ?_ | refine g_exitHere ?_ | refine g_exitOn rfl ?_ | refine g_ret ?_ | refine g_thenRet ?_ | refine g_blockRet ?_ | refine g_passS rfl ?_ | refine g_pass0 ?_ | refine g_passU rfl ?_ | refine g_passUS rfl ?_ | refine g_storeV ?_ | refine g_build1 rfl rfl fun _ _ => ?_ | refine g_buildN rfl rfl fun _ _ => ?_ | refine g_make rfl (by omega) (by omega) fun _ _ => ?_)
    refine g_loop (fun x : Nat × Int => x.1 ≤ bn + 1 ∧ -1 ≤ x.2 ∧ x.2 < bn ∧ (stt = 0 → 0 ≤ x.2 → WayTo X'.blocks l x.2.toNat)) (fun x => [(14, .int .i64 x.1), (13, .int .i64 x.2), (10, .int .i64 i), (11, .slice ta bn tc), (7, .slice ca fn cc), (3, .pointer (some ⟨p3, 0, none⟩)), (8, .pointer (some ⟨p8, 0, none⟩))]) (fun _ => [Ent.box p12 [.int .i64 0, .int .i64 0] 28, Ent.box p3 [.slice ga gn gc, .slice fa fn fc] 25, Ent.box p8 [.int .i64 stt, .int .i64 (resultM u inp fu).value, .slice oa on oc, .int .i64 (resultM u inp fu).steps] 52]) (fun x => bn + 1 - x.1) (0, 0) ⟨Nat.zero_le _, by simp only; omega, by simp only; omega, fun h0 _ => hwy h0⟩ (g_done (by repeat (first | exact trivial | refine ⟨rfl, ?_⟩)) (List.Sublist.refl _)) fun x ⟨hn, hb1, hb2, hwb⟩ => ?_
    obtain ⟨n, b⟩ := x
    simp only at hn hb1 hb2 hwb ⊢
    repeat (first | refine g_op rfl ?_ | refine g_then ?_ | refine g_nil ?_ | refine g_region ?_ | refine g_seq ?_ | refine g_opS rfl ?_ | refine g_open ?_ | refine g_pass rfl ?_ | refine g_store ?_ | refine g_box rfl fun _ _ => ?_ | refine g_alloc rfl fun _ _ => ?_ | refine g_allocS rfl fun _ _ => ?_ | refine g_storeAgg ?_ | refine g_inBlock ?_ | refine g_block ?_ | refine g_skip ?_ | refine g_condT ?_ | refine g_condF ?_ | refine g_add rfl (by omega) (by omega) ?_ | refine g_sub rfl (by omega) (by omega) ?_ | refine g_exit ?_ | refine g_thenExit ?_ | refine g_exitHere ?_ | refine g_exitOn rfl ?_ | refine g_ret ?_ | refine g_thenRet ?_ | refine g_blockRet ?_ | refine g_passS rfl ?_ | refine g_pass0 ?_ | refine g_passU rfl ?_ | refine g_passUS rfl ?_ | refine g_storeV ?_ | refine g_build1 rfl rfl fun _ _ => ?_ | refine g_buildN rfl rfl fun _ _ => ?_ | refine g_make rfl (by omega) (by omega) fun _ _ => ?_)
    by_cases hn1 : n ≤ bn
    case neg =>
      rw [show decide ((n : Int) ≤ (bn : Int)) = false by simp; omega]
      repeat (first | refine g_op rfl ?_ | refine g_then ?_ | refine g_nil ?_ | refine g_region ?_ | refine g_seq ?_ | refine g_opS rfl ?_ | refine g_open ?_ | refine g_pass rfl ?_ | refine g_store ?_ | refine g_box rfl fun _ _ => ?_ | refine g_alloc rfl fun _ _ => ?_ | refine g_allocS rfl fun _ _ => ?_ | refine g_storeAgg ?_ | refine g_inBlock ?_ | refine g_block ?_ | refine g_skip ?_ | refine g_condT ?_ | refine g_condF ?_ | refine g_add rfl (by omega) (by omega) ?_ | refine g_sub rfl (by omega) (by omega) ?_ | refine g_exit ?_ | refine g_thenExit ?_ | refine g_exitHere ?_ | refine g_exitOn rfl ?_ | refine g_ret ?_ | refine g_thenRet ?_ | refine g_blockRet ?_ | refine g_passS rfl ?_ | refine g_pass0 ?_ | refine g_passU rfl ?_ | refine g_passUS rfl ?_ | refine g_storeV ?_ | refine g_build1 rfl rfl fun _ _ => ?_ | refine g_buildN rfl rfl fun _ _ => ?_ | refine g_make rfl (by omega) (by omega) fun _ _ => ?_)
      rw [show (i : Int) + 1 = ((i + 1 : Nat) : Int) by omega]
      exact fun a w hS => g_next (L := [(10, .int .i64 (i + 1 : Nat)), (7, .slice ca fn cc), (3, .pointer (some ⟨p3, 0, none⟩)), (8, .pointer (some ⟨p8, 0, none⟩))]) (H := [Ent.box p12 [.int .i64 0, .int .i64 0] 28, Ent.box p3 [.slice ga gn gc, .slice fa fn fc] 25, Ent.box p8 [.int .i64 stt, .int .i64 (resultM u inp fu).value, .slice oa on oc, .int .i64 (resultM u inp fu).steps] 52] ++ [(⟨tp, fun w => SlAt w (.slice ta bn tc) 1 tl IntV⟩ : Ent), (⟨cp, fun w => SlAt w (.slice ca fn cc) 1 (countsI cs) RowV⟩ : Ent)]) (i + 1) hlt (by omega) (by repeat (first | exact trivial | refine ⟨rfl, ?_⟩)) (List.Sublist.cons _ (List.Sublist.cons_cons _ (List.Sublist.cons_cons _ (List.Sublist.cons _ (List.Sublist.refl _))))) a w ⟨(hS.fix (L' := [(10, .int .i64 (i + 1 : Nat)), (7, .slice ca fn cc), (3, .pointer (some ⟨p3, 0, none⟩)), (8, .pointer (some ⟨p8, 0, none⟩))]) (by repeat (first | exact trivial | refine ⟨rfl, ?_⟩)) (List.Sublist.refl _)).fr, back hS.wd⟩
    rw [show decide ((n : Int) ≤ (bn : Int)) = true by simp; omega]
    repeat (first | refine g_op rfl ?_ | refine g_then ?_ | refine g_nil ?_ | refine g_region ?_ | refine g_seq ?_ | refine g_opS rfl ?_ | refine g_open ?_ | refine g_pass rfl ?_ | refine g_store ?_ | refine g_box rfl fun _ _ => ?_ | refine g_alloc rfl fun _ _ => ?_ | refine g_allocS rfl fun _ _ => ?_ | refine g_storeAgg ?_ | refine g_inBlock ?_ | refine g_block ?_ | refine g_skip ?_ | refine g_condT ?_ | refine g_condF ?_ | refine g_add rfl (by omega) (by omega) ?_ | refine g_sub rfl (by omega) (by omega) ?_ | refine g_exit ?_ | refine g_thenExit ?_ | refine g_exitHere ?_ | refine g_exitOn rfl ?_ | refine g_ret ?_ | refine g_thenRet ?_ | refine g_blockRet ?_ | refine g_passS rfl ?_ | refine g_pass0 ?_ | refine g_passU rfl ?_ | refine g_passUS rfl ?_ | refine g_storeV ?_ | refine g_build1 rfl rfl fun _ _ => ?_ | refine g_buildN rfl rfl fun _ _ => ?_ | refine g_make rfl (by omega) (by omega) fun _ _ => ?_)
    by_cases hb0 : 0 ≤ b
    case neg =>
      rw [show decide ((0 : Int) ≤ b) = false by simp; omega]
      repeat (first | refine g_op rfl ?_ | refine g_then ?_ | refine g_nil ?_ | refine g_region ?_ | refine g_seq ?_ | refine g_opS rfl ?_ | refine g_open ?_ | refine g_pass rfl ?_ | refine g_store ?_ | refine g_box rfl fun _ _ => ?_ | refine g_alloc rfl fun _ _ => ?_ | refine g_allocS rfl fun _ _ => ?_ | refine g_storeAgg ?_ | refine g_inBlock ?_ | refine g_block ?_ | refine g_skip ?_ | refine g_condT ?_ | refine g_condF ?_ | refine g_add rfl (by omega) (by omega) ?_ | refine g_sub rfl (by omega) (by omega) ?_ | refine g_exit ?_ | refine g_thenExit ?_ | refine g_exitHere ?_ | refine g_exitOn rfl ?_ | refine g_ret ?_ | refine g_thenRet ?_ | refine g_blockRet ?_ | refine g_passS rfl ?_ | refine g_pass0 ?_ | refine g_passU rfl ?_ | refine g_passUS rfl ?_ | refine g_storeV ?_ | refine g_build1 rfl rfl fun _ _ => ?_ | refine g_buildN rfl rfl fun _ _ => ?_ | refine g_make rfl (by omega) (by omega) fun _ _ => ?_)
      rw [show (i : Int) + 1 = ((i + 1 : Nat) : Int) by omega]
      exact fun a w hS => g_next (L := [(10, .int .i64 (i + 1 : Nat)), (7, .slice ca fn cc), (3, .pointer (some ⟨p3, 0, none⟩)), (8, .pointer (some ⟨p8, 0, none⟩))]) (H := [Ent.box p12 [.int .i64 0, .int .i64 0] 28, Ent.box p3 [.slice ga gn gc, .slice fa fn fc] 25, Ent.box p8 [.int .i64 stt, .int .i64 (resultM u inp fu).value, .slice oa on oc, .int .i64 (resultM u inp fu).steps] 52] ++ [(⟨tp, fun w => SlAt w (.slice ta bn tc) 1 tl IntV⟩ : Ent), (⟨cp, fun w => SlAt w (.slice ca fn cc) 1 (countsI cs) RowV⟩ : Ent)]) (i + 1) hlt (by omega) (by repeat (first | exact trivial | refine ⟨rfl, ?_⟩)) (List.Sublist.cons _ (List.Sublist.cons_cons _ (List.Sublist.cons_cons _ (List.Sublist.cons _ (List.Sublist.refl _))))) a w ⟨(hS.fix (L' := [(10, .int .i64 (i + 1 : Nat)), (7, .slice ca fn cc), (3, .pointer (some ⟨p3, 0, none⟩)), (8, .pointer (some ⟨p8, 0, none⟩))]) (by repeat (first | exact trivial | refine ⟨rfl, ?_⟩)) (List.Sublist.refl _)).fr, back hS.wd⟩
    rw [show decide ((0 : Int) ≤ b) = true by simp; omega]
    repeat (first | refine g_op rfl ?_ | refine g_then ?_ | refine g_nil ?_ | refine g_region ?_ | refine g_seq ?_ | refine g_opS rfl ?_ | refine g_open ?_ | refine g_pass rfl ?_ | refine g_store ?_ | refine g_box rfl fun _ _ => ?_ | refine g_alloc rfl fun _ _ => ?_ | refine g_allocS rfl fun _ _ => ?_ | refine g_storeAgg ?_ | refine g_inBlock ?_ | refine g_block ?_ | refine g_skip ?_ | refine g_condT ?_ | refine g_condF ?_ | refine g_add rfl (by omega) (by omega) ?_ | refine g_sub rfl (by omega) (by omega) ?_ | refine g_exit ?_ | refine g_thenExit ?_ | refine g_exitHere ?_ | refine g_exitOn rfl ?_ | refine g_ret ?_ | refine g_thenRet ?_ | refine g_blockRet ?_ | refine g_passS rfl ?_ | refine g_pass0 ?_ | refine g_passU rfl ?_ | refine g_passUS rfl ?_ | refine g_storeV ?_ | refine g_build1 rfl rfl fun _ _ => ?_ | refine g_buildN rfl rfl fun _ _ => ?_ | refine g_make rfl (by omega) (by omega) fun _ _ => ?_)
    rw [show decide (b < (bn : Int)) = true by simp; omega]
    repeat (first | refine g_op rfl ?_ | refine g_then ?_ | refine g_nil ?_ | refine g_region ?_ | refine g_seq ?_ | refine g_opS rfl ?_ | refine g_open ?_ | refine g_pass rfl ?_ | refine g_store ?_ | refine g_box rfl fun _ _ => ?_ | refine g_alloc rfl fun _ _ => ?_ | refine g_allocS rfl fun _ _ => ?_ | refine g_storeAgg ?_ | refine g_inBlock ?_ | refine g_block ?_ | refine g_skip ?_ | refine g_condT ?_ | refine g_condF ?_ | refine g_add rfl (by omega) (by omega) ?_ | refine g_sub rfl (by omega) (by omega) ?_ | refine g_exit ?_ | refine g_thenExit ?_ | refine g_exitHere ?_ | refine g_exitOn rfl ?_ | refine g_ret ?_ | refine g_thenRet ?_ | refine g_blockRet ?_ | refine g_passS rfl ?_ | refine g_pass0 ?_ | refine g_passU rfl ?_ | refine g_passUS rfl ?_ | refine g_storeV ?_ | refine g_build1 rfl rfl fun _ _ => ?_ | refine g_buildN rfl rfl fun _ _ => ?_ | refine g_make rfl (by omega) (by omega) fun _ _ => ?_)
    obtain ⟨c, rfl⟩ : ∃ c : Nat, b = c := ⟨b.toNat, by omega⟩
    rw [Int.toNat_natCast] at hwb
    have hlc : LtIs c bn := ⟨by omega⟩
    obtain ⟨z, hz⟩ : ∃ z, tl[c]? = some z := ⟨_, List.getElem?_eq_getElem (by omega)⟩
    have hbz := hbest.2 c z hz
    obtain ⟨hzin, hzr⟩ := best_in hbz (by omega)
    obtain ⟨_, hcz, rfl, _⟩ := hdel c z hz
    have hciz : CellsIs wk db (dO + c * 1) [.int .i64 z] := ⟨hcz⟩
    have hold' : OldIs SS db := hold hcz
    obtain ⟨y, hy⟩ : ∃ y, l[c]? = some y := ⟨_, List.getElem?_eq_getElem (by omega)⟩
    have hyn : (natsI l)[c]? = some (y : Int) := by unfold natsI; rw [List.getElem?_map, hy]; rfl
    obtain ⟨_, hcy, rfl, _⟩ := hrel c _ hyn
    have hciy : CellsIs wk rb (ro + c * 1) [.int .i64 (y : Int)] := ⟨hcy⟩
    have holr : OldIs SS rb := hold hcy
    have hnext : ((n + 1, z) : Nat × Int).1 ≤ bn + 1 ∧ -1 ≤ ((n + 1, z) : Nat × Int).2 ∧ ((n + 1, z) : Nat × Int).2 < bn ∧ (stt = 0 → 0 ≤ ((n + 1, z) : Nat × Int).2 → WayTo X'.blocks l ((n + 1, z) : Nat × Int).2.toNat) := by
      refine ⟨by simp only; omega, by simp only; omega, by simp only; omega, fun h0 hp => ?_⟩
      rcases post_way hok (hwb h0 (by omega)) hbz with ⟨p, h1, _, h2⟩ | ⟨h1, _⟩
      · simp only [h1, Int.toNat_natCast]; exact h2
      · simp only at hp; omega
    by_cases h0 : stt = 0
    · have hyp := (hwb h0 (by omega)).pos
      rw [List.getD_eq_getElem?_getD, hy] at hyp
      rw [show decide (stt = 0) = true by simp [h0]]
      repeat (first | refine g_op rfl ?_ | refine g_then ?_ | refine g_nil ?_ | refine g_region ?_ | refine g_seq ?_ | refine g_opS rfl ?_ | refine g_open ?_ | refine g_pass rfl ?_ | refine g_store ?_ | refine g_box rfl fun _ _ => ?_ | refine g_alloc rfl fun _ _ => ?_ | refine g_allocS rfl fun _ _ => ?_ | refine g_storeAgg ?_ | refine g_inBlock ?_ | refine g_block ?_ | refine g_skip ?_ | refine g_condT ?_ | refine g_condF ?_ | refine g_add rfl (by omega) (by omega) ?_ | refine g_sub rfl (by omega) (by omega) ?_ | refine g_exit ?_ | refine g_thenExit ?_ | refine g_exitHere ?_ | refine g_exitOn rfl ?_ | refine g_ret ?_ | refine g_thenRet ?_ | refine g_blockRet ?_ | refine g_passS rfl ?_ | refine g_pass0 ?_ | refine g_passU rfl ?_ | refine g_passUS rfl ?_ | refine g_storeV ?_ | refine g_build1 rfl rfl fun _ _ => ?_ | refine g_buildN rfl rfl fun _ _ => ?_ | refine g_make rfl (by omega) (by omega) fun _ _ => ?_)
      rw [show decide ((y : Int) = 0) = false by simp at hyp ⊢; omega]
      repeat (first | refine g_op rfl ?_ | refine g_then ?_ | refine g_nil ?_ | refine g_region ?_ | refine g_seq ?_ | refine g_opS rfl ?_ | refine g_open ?_ | refine g_pass rfl ?_ | refine g_store ?_ | refine g_box rfl fun _ _ => ?_ | refine g_alloc rfl fun _ _ => ?_ | refine g_allocS rfl fun _ _ => ?_ | refine g_storeAgg ?_ | refine g_inBlock ?_ | refine g_block ?_ | refine g_skip ?_ | refine g_condT ?_ | refine g_condF ?_ | refine g_add rfl (by omega) (by omega) ?_ | refine g_sub rfl (by omega) (by omega) ?_ | refine g_exit ?_ | refine g_thenExit ?_ | refine g_exitHere ?_ | refine g_exitOn rfl ?_ | refine g_ret ?_ | refine g_thenRet ?_ | refine g_blockRet ?_ | refine g_passS rfl ?_ | refine g_pass0 ?_ | refine g_passU rfl ?_ | refine g_passUS rfl ?_ | refine g_storeV ?_ | refine g_build1 rfl rfl fun _ _ => ?_ | refine g_buildN rfl rfl fun _ _ => ?_ | refine g_make rfl (by omega) (by omega) fun _ _ => ?_)
      by_cases hz0 : z < 0
      · rw [show decide (z < 0) = true by simp; omega]
        repeat (first | refine g_op rfl ?_ | refine g_then ?_ | refine g_nil ?_ | refine g_region ?_ | refine g_seq ?_ | refine g_opS rfl ?_ | refine g_open ?_ | refine g_pass rfl ?_ | refine g_store ?_ | refine g_box rfl fun _ _ => ?_ | refine g_alloc rfl fun _ _ => ?_ | refine g_allocS rfl fun _ _ => ?_ | refine g_storeAgg ?_ | refine g_inBlock ?_ | refine g_block ?_ | refine g_skip ?_ | refine g_condT ?_ | refine g_condF ?_ | refine g_add rfl (by omega) (by omega) ?_ | refine g_sub rfl (by omega) (by omega) ?_ | refine g_exit ?_ | refine g_thenExit ?_ | refine g_exitHere ?_ | refine g_exitOn rfl ?_ | refine g_ret ?_ | refine g_thenRet ?_ | refine g_blockRet ?_ | refine g_passS rfl ?_ | refine g_pass0 ?_ | refine g_passU rfl ?_ | refine g_passUS rfl ?_ | refine g_storeV ?_ | refine g_build1 rfl rfl fun _ _ => ?_ | refine g_buildN rfl rfl fun _ _ => ?_ | refine g_make rfl (by omega) (by omega) fun _ _ => ?_)
        rw [show decide (stt = 0) = true by simp [h0]]
        repeat (first | refine g_op rfl ?_ | refine g_then ?_ | refine g_nil ?_ | refine g_region ?_ | refine g_seq ?_ | refine g_opS rfl ?_ | refine g_open ?_ | refine g_pass rfl ?_ | refine g_store ?_ | refine g_box rfl fun _ _ => ?_ | refine g_alloc rfl fun _ _ => ?_ | refine g_allocS rfl fun _ _ => ?_ | refine g_storeAgg ?_ | refine g_inBlock ?_ | refine g_block ?_ | refine g_skip ?_ | refine g_condT ?_ | refine g_condF ?_ | refine g_add rfl (by omega) (by omega) ?_ | refine g_sub rfl (by omega) (by omega) ?_ | refine g_exit ?_ | refine g_thenExit ?_ | refine g_exitHere ?_ | refine g_exitOn rfl ?_ | refine g_ret ?_ | refine g_thenRet ?_ | refine g_blockRet ?_ | refine g_passS rfl ?_ | refine g_pass0 ?_ | refine g_passU rfl ?_ | refine g_passUS rfl ?_ | refine g_storeV ?_ | refine g_build1 rfl rfl fun _ _ => ?_ | refine g_buildN rfl rfl fun _ _ => ?_ | refine g_make rfl (by omega) (by omega) fun _ _ => ?_)
        obtain ⟨_, _, _, bb, bo, hba, hbel⟩ := hbvk.at
        have hadb : AddrIs ba bb bo := ⟨hba (by intro e; rw [e] at hbn; simp at hbn; omega)⟩
        obtain ⟨B, hB⟩ : ∃ B, X'.blocks[c]? = some B := ⟨_, List.getElem?_eq_getElem (by omega)⟩
        obtain ⟨_, hcB, pv, lv, tv, rfl, _, _, _, _, _⟩ := hbel c B hB
        have hciB : CellsIs wk bb (bo + c * 6) _ := ⟨hcB⟩
        have holB : OldIs SS bb := hold hcB
        repeat (first | refine g_op rfl ?_ | refine g_then ?_ | refine g_nil ?_ | refine g_region ?_ | refine g_seq ?_ | refine g_opS rfl ?_ | refine g_open ?_ | refine g_pass rfl ?_ | refine g_store ?_ | refine g_box rfl fun _ _ => ?_ | refine g_alloc rfl fun _ _ => ?_ | refine g_allocS rfl fun _ _ => ?_ | refine g_storeAgg ?_ | refine g_inBlock ?_ | refine g_block ?_ | refine g_skip ?_ | refine g_condT ?_ | refine g_condF ?_ | refine g_add rfl (by omega) (by omega) ?_ | refine g_sub rfl (by omega) (by omega) ?_ | refine g_exit ?_ | refine g_thenExit ?_ | refine g_exitHere ?_ | refine g_exitOn rfl ?_ | refine g_ret ?_ | refine g_thenRet ?_ | refine g_blockRet ?_ | refine g_passS rfl ?_ | refine g_pass0 ?_ | refine g_passU rfl ?_ | refine g_passUS rfl ?_ | refine g_storeV ?_ | refine g_build1 rfl rfl fun _ _ => ?_ | refine g_buildN rfl rfl fun _ _ => ?_ | refine g_make rfl (by omega) (by omega) fun _ _ => ?_)
        have hk2 : ¬ B.kind = 2 := fun hk => by
          obtain ⟨R, hfit⟩ := (unit_fit hl hch (nums_of hf0)).2 i X' hX
          have hto := (hfit.blk B (List.mem_of_getElem? hB)).kind.2
          rcases post_way hok (hwb h0 (by omega)) hbz with ⟨p, h1, _, _⟩ | ⟨_, h1⟩
          · omega
          · refine h1 (by unfold kindOf; rw [hB]; exact hk) ?_
            unfold toOf
            rw [hB]
            simp only
            omega
        rw [show decide (B.kind = 2) = false by simp [hk2]]
        repeat (first | refine g_op rfl ?_ | refine g_then ?_ | refine g_nil ?_ | refine g_region ?_ | refine g_seq ?_ | refine g_opS rfl ?_ | refine g_open ?_ | refine g_pass rfl ?_ | refine g_store ?_ | refine g_box rfl fun _ _ => ?_ | refine g_alloc rfl fun _ _ => ?_ | refine g_allocS rfl fun _ _ => ?_ | refine g_storeAgg ?_ | refine g_inBlock ?_ | refine g_block ?_ | refine g_skip ?_ | refine g_condT ?_ | refine g_condF ?_ | refine g_add rfl (by omega) (by omega) ?_ | refine g_sub rfl (by omega) (by omega) ?_ | refine g_exit ?_ | refine g_thenExit ?_ | refine g_exitHere ?_ | refine g_exitOn rfl ?_ | refine g_ret ?_ | refine g_thenRet ?_ | refine g_blockRet ?_ | refine g_passS rfl ?_ | refine g_pass0 ?_ | refine g_passU rfl ?_ | refine g_passUS rfl ?_ | refine g_storeV ?_ | refine g_build1 rfl rfl fun _ _ => ?_ | refine g_buildN rfl rfl fun _ _ => ?_ | refine g_make rfl (by omega) (by omega) fun _ _ => ?_)
        rw [show (n : Int) + 1 = ((n + 1 : Nat) : Int) by omega]
        refine g_next (n + 1, z) hnext (by simp only; omega) (by repeat (first | exact trivial | refine ⟨rfl, ?_⟩)) (List.Sublist.refl _)
      · rw [show decide (z < 0) = false by simp; omega]
        repeat (first | refine g_op rfl ?_ | refine g_then ?_ | refine g_nil ?_ | refine g_region ?_ | refine g_seq ?_ | refine g_opS rfl ?_ | refine g_open ?_ | refine g_pass rfl ?_ | refine g_store ?_ | refine g_box rfl fun _ _ => ?_ | refine g_alloc rfl fun _ _ => ?_ | refine g_allocS rfl fun _ _ => ?_ | refine g_storeAgg ?_ | refine g_inBlock ?_ | refine g_block ?_ | refine g_skip ?_ | refine g_condT ?_ | refine g_condF ?_ | refine g_add rfl (by omega) (by omega) ?_ | refine g_sub rfl (by omega) (by omega) ?_ | refine g_exit ?_ | refine g_thenExit ?_ | refine g_exitHere ?_ | refine g_exitOn rfl ?_ | refine g_ret ?_ | refine g_thenRet ?_ | refine g_blockRet ?_ | refine g_passS rfl ?_ | refine g_pass0 ?_ | refine g_passU rfl ?_ | refine g_passUS rfl ?_ | refine g_storeV ?_ | refine g_build1 rfl rfl fun _ _ => ?_ | refine g_buildN rfl rfl fun _ _ => ?_ | refine g_make rfl (by omega) (by omega) fun _ _ => ?_)
        rw [show (n : Int) + 1 = ((n + 1 : Nat) : Int) by omega]
        refine g_next (n + 1, z) hnext (by simp only; omega) (by repeat (first | exact trivial | refine ⟨rfl, ?_⟩)) (List.Sublist.refl _)
    · rw [show decide (stt = 0) = false by simp [h0]]
      repeat (first | refine g_op rfl ?_ | refine g_then ?_ | refine g_nil ?_ | refine g_region ?_ | refine g_seq ?_ | refine g_opS rfl ?_ | refine g_open ?_ | refine g_pass rfl ?_ | refine g_store ?_ | refine g_box rfl fun _ _ => ?_ | refine g_alloc rfl fun _ _ => ?_ | refine g_allocS rfl fun _ _ => ?_ | refine g_storeAgg ?_ | refine g_inBlock ?_ | refine g_block ?_ | refine g_skip ?_ | refine g_condT ?_ | refine g_condF ?_ | refine g_add rfl (by omega) (by omega) ?_ | refine g_sub rfl (by omega) (by omega) ?_ | refine g_exit ?_ | refine g_thenExit ?_ | refine g_exitHere ?_ | refine g_exitOn rfl ?_ | refine g_ret ?_ | refine g_thenRet ?_ | refine g_blockRet ?_ | refine g_passS rfl ?_ | refine g_pass0 ?_ | refine g_passU rfl ?_ | refine g_passUS rfl ?_ | refine g_storeV ?_ | refine g_build1 rfl rfl fun _ _ => ?_ | refine g_buildN rfl rfl fun _ _ => ?_ | refine g_make rfl (by omega) (by omega) fun _ _ => ?_)
      by_cases hz0 : z < 0
      · rw [show decide (z < 0) = true by simp; omega]
        repeat (first | refine g_op rfl ?_ | refine g_then ?_ | refine g_nil ?_ | refine g_region ?_ | refine g_seq ?_ | refine g_opS rfl ?_ | refine g_open ?_ | refine g_pass rfl ?_ | refine g_store ?_ | refine g_box rfl fun _ _ => ?_ | refine g_alloc rfl fun _ _ => ?_ | refine g_allocS rfl fun _ _ => ?_ | refine g_storeAgg ?_ | refine g_inBlock ?_ | refine g_block ?_ | refine g_skip ?_ | refine g_condT ?_ | refine g_condF ?_ | refine g_add rfl (by omega) (by omega) ?_ | refine g_sub rfl (by omega) (by omega) ?_ | refine g_exit ?_ | refine g_thenExit ?_ | refine g_exitHere ?_ | refine g_exitOn rfl ?_ | refine g_ret ?_ | refine g_thenRet ?_ | refine g_blockRet ?_ | refine g_passS rfl ?_ | refine g_pass0 ?_ | refine g_passU rfl ?_ | refine g_passUS rfl ?_ | refine g_storeV ?_ | refine g_build1 rfl rfl fun _ _ => ?_ | refine g_buildN rfl rfl fun _ _ => ?_ | refine g_make rfl (by omega) (by omega) fun _ _ => ?_)
        rw [show decide (stt = 0) = false by simp [h0]]
        repeat (first | refine g_op rfl ?_ | refine g_then ?_ | refine g_nil ?_ | refine g_region ?_ | refine g_seq ?_ | refine g_opS rfl ?_ | refine g_open ?_ | refine g_pass rfl ?_ | refine g_store ?_ | refine g_box rfl fun _ _ => ?_ | refine g_alloc rfl fun _ _ => ?_ | refine g_allocS rfl fun _ _ => ?_ | refine g_storeAgg ?_ | refine g_inBlock ?_ | refine g_block ?_ | refine g_skip ?_ | refine g_condT ?_ | refine g_condF ?_ | refine g_add rfl (by omega) (by omega) ?_ | refine g_sub rfl (by omega) (by omega) ?_ | refine g_exit ?_ | refine g_thenExit ?_ | refine g_exitHere ?_ | refine g_exitOn rfl ?_ | refine g_ret ?_ | refine g_thenRet ?_ | refine g_blockRet ?_ | refine g_passS rfl ?_ | refine g_pass0 ?_ | refine g_passU rfl ?_ | refine g_passUS rfl ?_ | refine g_storeV ?_ | refine g_build1 rfl rfl fun _ _ => ?_ | refine g_buildN rfl rfl fun _ _ => ?_ | refine g_make rfl (by omega) (by omega) fun _ _ => ?_)
        rw [show (n : Int) + 1 = ((n + 1 : Nat) : Int) by omega]
        refine g_next (n + 1, z) hnext (by simp only; omega) (by repeat (first | exact trivial | refine ⟨rfl, ?_⟩)) (List.Sublist.refl _)
      · rw [show decide (z < 0) = false by simp; omega]
        repeat (first | refine g_op rfl ?_ | refine g_then ?_ | refine g_nil ?_ | refine g_region ?_ | refine g_seq ?_ | refine g_opS rfl ?_ | refine g_open ?_ | refine g_pass rfl ?_ | refine g_store ?_ | refine g_box rfl fun _ _ => ?_ | refine g_alloc rfl fun _ _ => ?_ | refine g_allocS rfl fun _ _ => ?_ | refine g_storeAgg ?_ | refine g_inBlock ?_ | refine g_block ?_ | refine g_skip ?_ | refine g_condT ?_ | refine g_condF ?_ | refine g_add rfl (by omega) (by omega) ?_ | refine g_sub rfl (by omega) (by omega) ?_ | refine g_exit ?_ | refine g_thenExit ?_ | refine g_exitHere ?_ | refine g_exitOn rfl ?_ | refine g_ret ?_ | refine g_thenRet ?_ | refine g_blockRet ?_ | refine g_passS rfl ?_ | refine g_pass0 ?_ | refine g_passU rfl ?_ | refine g_passUS rfl ?_ | refine g_storeV ?_ | refine g_build1 rfl rfl fun _ _ => ?_ | refine g_buildN rfl rfl fun _ _ => ?_ | refine g_make rfl (by omega) (by omega) fun _ _ => ?_)
        rw [show (n : Int) + 1 = ((n + 1 : Nat) : Int) by omega]
        refine g_next (n + 1, z) hnext (by simp only; omega) (by repeat (first | exact trivial | refine ⟨rfl, ?_⟩)) (List.Sublist.refl _)
  repeat (first | refine g_op rfl ?_ | refine g_then ?_ | refine g_nil ?_ | refine g_region ?_ | refine g_seq ?_ | refine g_opS rfl ?_ | refine g_open ?_ | refine g_pass rfl ?_ | refine g_store ?_ | refine g_box rfl fun _ _ => ?_ | refine g_alloc rfl fun _ _ => ?_ | refine g_allocS rfl fun _ _ => ?_ | refine g_storeAgg ?_ | refine g_inBlock ?_ | refine g_block ?_ | refine g_skip ?_ | refine g_condT ?_ | refine g_condF ?_ | refine g_add rfl (by omega) (by omega) ?_ | refine g_sub rfl (by omega) (by omega) ?_ | refine g_exit ?_ | refine g_thenExit ?_ | refine g_exitHere ?_ | refine g_exitOn rfl ?_ | refine g_ret ?_ | refine g_thenRet ?_ | refine g_blockRet ?_ | refine g_passS rfl ?_ | refine g_pass0 ?_ | refine g_passU rfl ?_ | refine g_passUS rfl ?_ | refine g_storeV ?_ | refine g_build1 rfl rfl fun _ _ => ?_ | refine g_buildN rfl rfl fun _ _ => ?_ | refine g_make rfl (by omega) (by omega) fun _ _ => ?_)
  exact g_retV rfl rfl
end Go.Proofs.YtbmnkjaelfjlhaaDoor


/- Texts joined: LiveL OnceP QuietB Given DoA DoB. -/
import Derived.Test.YtpadjpplidlfeaaGreatDoorGB
import Derived.Test.YtpadjpplidlfeaaGreatDoorGF
import Derived.Test.YtpadjpplidlfeaaGreatDoorGG
import Derived.Test.YtpadjpplidlfeaaGreatDoorGI
import Derived.Test.YtpadjpplidlfeaaGreatDoorHA
import Derived.Test.YtpadjpplidlfeaaGreatDoorHI
import Derived.Test.YtpadjpplidlfeaaGreatDoorHJ
import Derived.Test.YtpadjpplidlfeaaGreatDoorHN
import Derived.Test.YtpadjpplidlfeaaGreatDoorHP
/- What is live within a block, told from its end on; slices.Reverse of rows. -/
namespace Go.Proofs.YtpadjpplidlfeaaGreatDoor
open Go Go.RowKit
attribute [local irreducible] wpListIn Code.wpIn Exit.then Exit.inBlock bodyPost wpQuiet wpAnyIn wpAnyH
set_option maxHeartbeats 4000000

instance (r : Row) : OneV (valR r) := ⟨rfl⟩
end Go.Proofs.YtpadjpplidlfeaaGreatDoor


/- One going-through of live.Do, as a plain function: what it takes away nobody needs, and when it takes nothing away nothing more can go. No program in sight. -/
namespace Go.Proofs.YtpadjpplidlfeaaGreatDoor
open Go Go.RowKit

/-! ### All blocks -/
/-- what is as it was while some go -/
structure SubB (bl bl' : List LBlock) : Prop where
  len : bl'.length = bl.length
  blk : ∀ (c : Nat) (C : LBlock), bl[c]? = some C → ∃ D, bl'[c]? = some D ∧ D.kind = C.kind ∧ D.on = C.on ∧ D.to = C.to ∧ D.list.Sublist C.list ∧ D.phis.Sublist C.phis
theorem SubB.refl (bl : List LBlock) : SubB bl bl := ⟨rfl, fun _ C hC => ⟨C, hC, rfl, rfl, rfl, .refl _, .refl _⟩⟩
theorem SubB.trans {a b c : List LBlock} (h : SubB a b) (k : SubB b c) : SubB a c := ⟨k.len.trans h.len, fun i C hC => by
  obtain ⟨D, hD, h1, h2, h3, h4, h5⟩ := h.blk i C hC
  obtain ⟨E, hE, k1, k2, k3, k4, k5⟩ := k.blk i D hD
  exact ⟨E, hE, k1.trans h1, k2.trans h2, k3.trans h3, k4.trans h4, k5.trans h5⟩⟩
theorem Cut.sub {W : Int} {a b : List LBlock} (h : Cut W a b) : SubB a b := by
  obtain ⟨pos, hp⟩ := h.thin
  refine ⟨hp.len, fun c C hC => ?_⟩
  obtain ⟨D, hD, h1, h2, h3, h4, h5, _⟩ := hp.blk c C hC
  exact ⟨D, hD, h1, h2, h3, h4, h5⟩
theorem Cuts.sub {W : Int} {a b : List LBlock} (h : Cuts W a b) : SubB a b := by
  induction h with
  | refl _ => exact .refl _
  | head h1 _ ih => exact h1.sub.trans ih
theorem SubB.mem {a b : List LBlock} (h : SubB a b) {D : LBlock} (hD : D ∈ b) : ∃ (c : Nat) (C : LBlock), a[c]? = some C ∧ b[c]? = some D ∧ D.kind = C.kind ∧ D.on = C.on ∧ D.to = C.to ∧ D.list.Sublist C.list ∧ D.phis.Sublist C.phis := by
  obtain ⟨c, hc⟩ := List.getElem?_of_mem hD
  have hcl : c < a.length := by rw [← h.len]; exact (List.getElem?_eq_some_iff.1 hc).1
  obtain ⟨D', hD', h1⟩ := h.blk c _ (List.getElem?_eq_getElem hcl)
  rw [hc] at hD'
  obtain rfl := Option.some.inj hD'
  exact ⟨c, _, List.getElem?_eq_getElem hcl, hc, h1⟩
theorem SubB.to {a b : List LBlock} (h : SubB a b) (i : Nat) : toOf b i = toOf a i := by
  unfold toOf
  cases hC : a[i]? with
  | none => rw [List.getElem?_eq_none (by rw [h.len]; exact List.getElem?_eq_none_iff.1 hC)]
  | some C =>
    obtain ⟨D, hD, _, _, hto, _⟩ := h.blk i C hC
    rw [hD]
    exact hto
theorem Cut.behind {W : Int} {a b : List LBlock} (h : Cut W a b) {c r : Nat} {C D : LBlock} (hC : a[c]? = some C) (hD : b[c]? = some D) (hl : LiveS b r c (D.list.length + 1)) : LiveS a r c (C.list.length + 1) := by
  cases h with
  | @ins b' i B x hB hx hq hd =>
    have hlt := (List.getElem?_eq_some_iff.1 hx).1
    rw [delI_get] at hD
    by_cases e : b' = c
    · subst e
      rw [if_pos rfl, hC, Option.map_some] at hD
      rw [hB] at hC
      obtain rfl := Option.some.inj hC
      obtain rfl := Option.some.inj hD
      have hlen : ((eI i B).list.length : Int) + 1 = B.list.length := by unfold eI; simp only; rw [List.length_eraseIdx, if_pos hlt]; omega
      have := ((delI_live hB hx hd hl).2 rfl).2 (by omega)
      rw [hlen] at this
      exact this
    · rw [if_neg e, hC] at hD
      obtain rfl := Option.some.inj hD
      exact (delI_live hB hx hd hl).1 (Ne.symm e)
  | @phi b' i B p hB hp hd =>
    rw [delP_get] at hD
    have hlen : D.list.length = C.list.length := by
      by_cases e : b' = c
      · rw [if_pos e, hC, Option.map_some] at hD
        obtain rfl := Option.some.inj hD
        rfl
      · rw [if_neg e, hC] at hD
        obtain rfl := Option.some.inj hD
        rfl
    rw [hlen] at hl
    exact delP_live hB hp hd hl
theorem Cuts.behind {W : Int} {a b : List LBlock} (h : Cuts W a b) {c r : Nat} : ∀ {C D : LBlock}, a[c]? = some C → b[c]? = some D → LiveS b r c (D.list.length + 1) → LiveS a r c (C.list.length + 1) := by
  induction h with
  | refl _ =>
    intro C D hC hD hl
    rw [hC] at hD
    obtain rfl := Option.some.inj hD
    exact hl
  | @head a e b h1 _ ih =>
    intro C D hC hD hl
    obtain ⟨E, hE, _⟩ := h1.sub.blk c C hC
    exact h1.behind hC hE (ih hE hD hl)
/-- what is known of the sets behind the blocks -/
structure OutOk (R : Nat) (bl : List LBlock) (outs : List (List Bool)) : Prop where
  len : outs.length = bl.length
  row : ∀ s ∈ outs, s.length = R
  at' : ∀ (b : Nat) s B, outs[b]? = some s → bl[b]? = some B → ∀ r, has s r ↔ LiveS bl r b (B.list.length + 1)
theorem OutOk.get {R : Nat} {bl : List LBlock} {outs : List (List Bool)} (h : OutOk R bl outs) {b : Nat} {B : LBlock} (hB : bl[b]? = some B) : (outs.getD b []).length = R ∧ ∀ r, has (outs.getD b []) r ↔ LiveS bl r b (B.list.length + 1) := by
  have hbl := (List.getElem?_eq_some_iff.1 hB).1
  have hg : outs[b]? = some (outs[b]'(by rw [h.len]; exact hbl)) := List.getElem?_eq_getElem _
  rw [List.getD_eq_getElem?_getD, hg, Option.getD_some]
  exact ⟨h.row _ (List.getElem_mem _), h.at' b _ B hg hB⟩
theorem Cuts.less {W : Int} {a b : List LBlock} (h : Cuts W a b) : a = b ∨ sizeN b < sizeN a := by
  induction h with
  | refl _ => exact .inl rfl
  | head h1 _ ih =>
    have := h1.less
    rcases ih with rfl | ih
    · exact .inr this
    · exact .inr (by omega)
/-! ### The end of it -/
end Go.Proofs.YtpadjpplidlfeaaGreatDoor


/- live.QuietIn, live.Words, turneryref3.Quiet, Words: what each returns. -/
namespace Go.Proofs.YtpadjpplidlfeaaGreatDoor
open Go Go.RowKit
attribute [local irreducible] wpListIn Code.wpIn Exit.then Exit.inBlock bodyPost wpQuiet
set_option maxHeartbeats 1000000

end Go.Proofs.YtpadjpplidlfeaaGreatDoor


/- turnerylaw3.given: a pass tells what it must. -/
namespace Go.Proofs.YtpadjpplidlfeaaGreatDoor
open Go Go.RowKit
attribute [local irreducible] wpListIn Code.wpIn Exit.then Exit.inBlock bodyPost wpQuiet wpAnyIn wpAnyH bodyPostM
set_option maxHeartbeats 4000000

/-- what a pass tells of a unit whose functions are to become those of another one -/
def Told (want : LUnit) (w : World) (g f : Value) (c k : Int) : Prop :=
  (∃ (i : Nat) (X : LFunc), want.funcs[i]? = some X ∧ largeF X = true ∧ (∀ (j : Nat) (Y : LFunc), j < i → want.funcs[j]? = some Y → largeF Y = false) ∧ g = .slice none 0 0 ∧ f = .slice none 0 0 ∧ c = 10 ∧ k = i) ∨
  ((∀ X ∈ want.funcs, largeF X = false) ∧ c = 0 ∧ k = 0 ∧ SlAt w g 3 want.globals GlobalV ∧ SlAt w f 4 want.funcs FuncV)
theorem Told.keep {want : LUnit} {w w' : World} {g f : Value} {c k : Int} (h : Told want w g f c k) (hc : Chg NoS w w') : Told want w' g f c k := by
  rcases h with h | ⟨h1, h2, h3, h4, h5⟩
  · exact .inl h
  · exact .inr ⟨h1, h2, h3, h4.keep keeps_global hc, h5.keep keeps_func hc⟩
structure FnSmall (X : LFunc) : Prop where
  n : X.blocks.length ≤ 1000
  each : ∀ b ∈ X.blocks, b.phis.length ≤ 1000 ∧ b.list.length ≤ 1000
theorem given_c (ug uf g f : Value) (c k : Int) (wg wf : Value) (want : LUnit) (w0 : World) (hwg : SlAt w0 wg 3 want.globals GlobalV) (hwf : SlAt w0 wf 4 want.funcs FuncV) (hlim : ∀ X ∈ want.funcs, FnSmall X) (hkb : inI k) (hT : Told want w0 g f c k) :
    RetV Tryz.prog 13 [.agg #[ug, uf], .agg #[g, f], .agg #[.int .i64 c, .int .i64 k], .agg #[wg, wf]] w0 (.bool true) := by
  have hwg0 := hwg
  have hwf0 := hwf
  obtain ⟨ga, gn, gc, _, _, rfl, _⟩ := hwg
  obtain ⟨fa, fn, fc, fb, fo, rfl, rfl, _, _, _, hfa, hfel⟩ := hwf
  refine ret_enter Tryz.func13 rfl Tryz.ntmps13 rfl (Wd.nil NoS w0) ?_
  repeat (first | refine g_op rfl ?_ | refine g_then ?_ | refine g_nil ?_ | refine g_region ?_ | refine g_seq ?_ | refine g_box rfl fun _ _ => ?_ | refine g_block ?_)
  rename_i p4 _ p5 _ p6 _ p7 _
  refine g_loop (fun (i : Nat) => i ≤ want.funcs.length ∧ ∀ (j : Nat) (Y : LFunc), j < i → want.funcs[j]? = some Y → largeF Y = false) (fun i => [(9, .int .i64 i), (5, .pointer (some ⟨p5, 0, none⟩)), (6, .pointer (some ⟨p6, 0, none⟩)), (7, .pointer (some ⟨p7, 0, none⟩))]) (fun _ => [Ent.box p7 [.slice ga gn gc, .slice fa want.funcs.length fc] 25, Ent.box p6 [.int .i64 c, .int .i64 k] 28, Ent.box p5 [g, f] 25, Ent.box p4 [ug, uf] 25]) (fun i => want.funcs.length - i) 0 ⟨Nat.zero_le _, fun j Y hj => by omega⟩ (g_done (by repeat (first | exact trivial | refine ⟨rfl, ?_⟩)) (by simp)) fun i ⟨hi, hall⟩ => ?_
  repeat (first | refine g_op rfl ?_ | refine g_then ?_ | refine g_nil ?_ | refine g_region ?_ | refine g_seq ?_)
  refine g_cond (fun h2 => ?_) (fun h2 => ?_)
  · have hlt : i < want.funcs.length := by simpa using h2
    obtain ⟨X, hX⟩ : ∃ X, want.funcs[i]? = some X := ⟨_, List.getElem?_eq_getElem hlt⟩
    have had : AddrIs fa fb fo := ⟨hfa (ne_of_get hX)⟩
    have hli : LtIs i want.funcs.length := ⟨hlt⟩
    obtain ⟨_, hcs, bv, rfl, hpi, hri, hbv⟩ := hfel i X hX
    have hci : CellsIs w0 fb (fo + i * 4) _ := ⟨hcs⟩
    have hXl := hlim X (List.mem_of_getElem? hX)
    repeat (first | refine g_op rfl ?_ | refine g_then ?_ | refine g_region ?_ | refine g_seq ?_ | refine g_block ?_ | refine g_skip ?_)
    refine g_callV rfl (fun w hw => refLarge_c _ _ X.regs X.blocks _ w (hbv.keep keeps_block hw.chg) hXl.n hXl.each) ?_
    repeat (first | refine g_then ?_ | refine g_nil ?_)
    refine g_cond (fun h3 => ?_) (fun h3 => ?_)
    · have hlg : largeF X = true := h3
      rcases hT with ⟨i0, X0, h4, h5, h6, rfl, rfl, rfl, rfl⟩ | ⟨h4, _⟩
      · have hii : i0 = i := by
          rcases Nat.lt_trichotomy i0 i with h7 | h7 | h7
          · rw [hall i0 X0 h7 h4] at h5; cases h5
          · exact h7
          · rw [h6 i X h7 hX] at hlg; cases hlg
        subst hii
        repeat (refine g_seq ?_)
        refine g_draw mixed (by kernel_rfl) ?_
        repeat (refine q_op rfl ?_)
        refine q_call rfl (fun w _ => sameFault_c _ _ w) ?_
        repeat (refine q_op rfl ?_)
        rw [dec_self, dec_self, Bool.and_self]
        repeat (first | refine q_op rfl ?_ | refine q_open ?_)
        refine q_call rfl (fun w _ => noneE_c w) ?_
        repeat (first | refine q_op rfl ?_ | refine q_nil ?_)
        repeat (first | refine g_then ?_ | refine g_ret ?_ | refine g_thenRet ?_ | refine g_blockRet ?_)
        exact g_retV rfl rfl
      · rw [h4 X (List.mem_of_getElem? hX)] at hlg; cases hlg
    · have hlg : largeF X = false := by unfold largeF; simpa using h3
      repeat (first | refine g_op rfl ?_ | refine g_then ?_ | refine g_nil ?_ | refine g_region ?_ | refine g_opS rfl ?_ | refine g_inBlock ?_ | refine g_skip ?_ | refine g_add rfl (by omega) (by omega) ?_)
      rw [show (i : Int) + 1 = ((i + 1 : Nat) : Int) by omega]
      refine g_next (i + 1) ⟨hlt, fun j Y hj hY => ?_⟩ (by omega) (by repeat (first | exact trivial | refine ⟨rfl, ?_⟩)) (List.Sublist.refl _)
      by_cases e : j = i
      · subst e
        rw [hX] at hY
        rw [← Option.some.inj hY]; exact hlg
      · exact hall j Y (by omega) hY
  have hge : i = want.funcs.length := by have := h2; simp at this; omega
  rcases hT with ⟨i0, X0, h4, h5, _⟩ | ⟨_, rfl, rfl, h8, h9⟩
  · rw [hall i0 X0 (by have := (List.getElem?_eq_some_iff.1 h4).1; omega) h4] at h5; cases h5
  have h80 := h8
  have h90 := h9
  obtain ⟨_, _, _, _, _, rfl, _⟩ := h8
  obtain ⟨_, _, _, _, _, rfl, _⟩ := h9
  repeat (first | refine g_op rfl ?_ | refine g_then ?_ | refine g_region ?_ | refine g_seq ?_ | refine g_open ?_ | refine g_exit ?_ | refine g_thenExit ?_ | refine g_exitHere ?_)
  rw [dec_self, Bool.and_self]
  skip
  refine g_callV rfl (fun w hw => unitsSame_c _ _ _ _ want w (h80.keep keeps_global hw.chg) (h90.keep keeps_func hw.chg) (hwg0.keep keeps_global hw.chg) (hwf0.keep keeps_func hw.chg)) ?_
  repeat (first | refine g_op rfl ?_ | refine g_then ?_ | refine g_nil ?_ | refine g_ret ?_)
  exact g_retV rfl rfl
end Go.Proofs.YtpadjpplidlfeaaGreatDoor


/- slices.Reverse of instructions. -/
namespace Go.Proofs.YtpadjpplidlfeaaGreatDoor
open Go Go.RowKit
attribute [local irreducible] wpListIn Code.wpIn Exit.then Exit.inBlock bodyPost wpQuiet wpAnyIn wpAnyH oneH
set_option maxHeartbeats 4000000

section
variable {P : Program} {N : Nat} {ds : List Deferred} {S : Nat → Prop} {w0 : World} {L L' : List (Nat × Value)} {H H' Hr : List Ent} {x y : Operand} {M : Act → World → Prop} {l : List Oper} {fuel : Nat} {listed : Array Bool}
/-- a whole struct into a row of the call's own -/
theorem o_storeVA {ty T b o off j n c e s m : Nat} (i k : Nat) {xs vs : List Value} {pos : String} {aft : Array Go.Edge} [ho : ListAt l i ⟨none, .store T x y, ty, pos, aft, none⟩] [h : AggSize P T m] [hx : Ev L x (.pointer (some ⟨b, off, none⟩))] [hy : Ev L y (.agg vs.toArray)] [hn : LenIs vs m] [h1 : OneVs vs]
    (hk : H[k]? = some (Ent.vec (some ⟨b, o, none⟩) n c e s xs)) (hoff : off = o + j) (hfit : j + m ≤ xs.length) (hHr : Hr.Sublist (H.set k (Ent.vec (some ⟨b, o, none⟩) n c e s (xs.take j ++ vs ++ xs.drop (j + m)))))
    (kk : G N ds S w0 L (H.set k (Ent.vec (some ⟨b, o, none⟩) n c e s (xs.take j ++ vs ++ xs.drop (j + m)))) (wpAnyH P .any l.toArray (OnlyN M) (Wd S w0 Hr) fuel (listed.setIfInBounds i true))) : G N ds S w0 L H (oneH P l M (Wd S w0 Hr) fuel listed i) := by
  refine o_skip i rfl fun a w hS => ?_
  subst hoff
  have hvm := hn.eq
  obtain ⟨w', hs, hW'⟩ := hS.wd.writeAt (P := P) hk j (vs := vs) h1.all (by omega)
  rw [hvm] at hW'
  refine ⟨w', ?_, hW'.sub hHr, kk _ _ ⟨hS.fr, hW'⟩⟩
  simp [execOp, hx.eq _ _ _ hS.fr, hy.eq _ _ _ hS.fr, Instr.storeAt, Instr.sureAddr, storeVar, h.sz, Value.cells, hvm, hs]
end
end Go.Proofs.YtpadjpplidlfeaaGreatDoor


/- slices.DeleteFunc of phis whose registers nobody needs. -/
namespace Go.Proofs.YtpadjpplidlfeaaGreatDoor
open Go Go.RowKit
attribute [local irreducible] wpListIn Code.wpIn Exit.then Exit.inBlock bodyPost wpQuiet wpAnyIn wpAnyH oneH
set_option maxHeartbeats 4000000

section
variable {P : Program} {ro : Option Nat} {N : Nat} {ds : List Deferred} {S : Nat → Prop} {w0 : World} {L : List (Nat × Value)} {H : List Ent} {ops : Array Oper} {rest : List Oper} {Q : Exit → Act → World → Prop} {x : Operand}
end
end Go.Proofs.YtpadjpplidlfeaaGreatDoor


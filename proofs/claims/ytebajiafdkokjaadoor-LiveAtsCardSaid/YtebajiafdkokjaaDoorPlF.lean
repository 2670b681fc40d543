/- Texts joined: LiveH HeldB Post PostB OrderB LiveI LiveJ RangeG LiveL LiveM. -/
import Derived.Test.YtebajiafdkokjaaDoorPlE
/- turneryref3.Live: what it returns. -/
namespace Go.Proofs.YtebajiafdkokjaaDoor
open Go Go.RowKit
attribute [local irreducible] wpListIn Code.wpIn Exit.then Exit.inBlock bodyPost wpQuiet wpAnyIn
set_option maxHeartbeats 4000000

/-- a place that there is -/
def SpotOk (bl : List LBlock) (s : Sp) : Prop := -1 ≤ s.2 ∧ ∃ B, bl[s.1]? = some B ∧ s.2 ≤ B.list.length + 1
/-- it was gone through: nobody takes r there, and where one goes on from it is in the row -/
def Gone (bl : List LBlock) (r : Nat) (row : List Sp) (s : Sp) : Prop := ∀ B, bl[s.1]? = some B →
  (s.2 = -1 → (∀ p ∈ B.phis, p.dst ≠ r) → ((s.1, 0) : Sp) ∈ row) ∧ (∀ (i : Nat) x, s.2 = i → B.list[i]? = some x → namesR (usesOf x) r = false ∧ (x.dst ≠ r → ((s.1, (i : Int) + 1) : Sp) ∈ row)) ∧
  (s.2 = B.list.length → namesR [B.on] r = false) ∧ ((s.2 = B.list.length ∨ s.2 = B.list.length + 1) → ∀ t : Nat, (t : Int) ∈ B.to → takesR bl t s.1 r = false ∧ ((t, -1) : Sp) ∈ row)
theorem Gone.mono {bl : List LBlock} {r : Nat} {row row' : List Sp} (h : ∀ s ∈ row, s ∈ row') {s : Sp} (k : Gone bl r row s) : Gone bl r row' s := fun B hB => by
  obtain ⟨h1, h2, h3, h4⟩ := k B hB
  exact ⟨fun a b => h _ (h1 a b), fun i x a b => ⟨(h2 i x a b).1, fun c => h _ ((h2 i x a b).2 c)⟩, h3, fun a t ht => ⟨(h4 a t ht).1, h _ (h4 a t ht).2⟩⟩
theorem gone_dead {bl : List LBlock} {r : Nat} {row : List Sp} (h : ∀ s ∈ row, Gone bl r row s) {b : Nat} {j : Int} (k : LiveS bl r b j) : ((b, j) : Sp) ∈ row → False := by
  induction k with
  | phi hB hp _ ih => exact fun hm => ih ((h _ hm _ hB).1 rfl hp)
  | use hB hx hn => exact fun hm => by have := ((h _ hm _ hB).2.1 _ _ rfl hx).1; rw [hn] at this; cases this
  | @go b i B x hB hx hd _ ih => exact fun hm => ih (by have := ((h _ hm _ hB).2.1 _ _ rfl hx).2 hd; simpa using this)
  | on hB hn => exact fun hm => by have := (h _ hm _ hB).2.2.1 rfl; rw [hn] at this; cases this
  | take hB hj ht hk => exact fun hm => by have := ((h _ hm _ hB).2.2.2 hj _ ht).1; rw [hk] at this; cases this
  | jump hB hj ht _ ih => exact fun hm => ih ((h _ hm _ hB).2.2.2 hj _ ht).2
theorem spots_len {bl : List LBlock} {row : List Sp} (hn : row.Nodup) (hs : ∀ s ∈ row, SpotOk bl s) (hl : ∀ B ∈ bl, B.list.length ≤ 1000) : row.length ≤ bl.length * 1003 := by
  have hc : ∀ s ∈ row, s.1 < bl.length ∧ -1 ≤ s.2 ∧ s.2 ≤ 1001 := fun s hs' => by
    obtain ⟨h1, B, hB, h2⟩ := hs s hs'
    have := hl B (List.mem_of_getElem? hB)
    exact ⟨(List.getElem?_eq_some_iff.1 hB).1, h1, by omega⟩
  have h1 : (row.map fun s => s.1 * 1003 + (s.2 + 1).toNat).Nodup := by
    rw [List.Nodup, List.pairwise_map]
    refine List.Pairwise.imp_of_mem (fun {a b} ha hb hne e => hne ?_) hn
    have h2 := hc a ha
    have h3 := hc b hb
    exact Prod.ext (by omega) (by omega)
  have h2 := nodup_len (bl.length * 1003) _ h1 fun x hx => by
    obtain ⟨s, hs', rfl⟩ := List.mem_map.1 hx
    have := hc s hs'
    have h4 : (s.1 + 1) * 1003 ≤ bl.length * 1003 := Nat.mul_le_mul_right _ (by omega)
    omega
  rwa [List.length_map] at h2
structure LInv (bl : List LBlock) (r : Nat) (s0 : Sp) (i : Nat) (row : List Sp) : Prop where
  nd : row.Nodup
  ok : ∀ s ∈ row, SpotOk bl s
  start : s0 ∈ row
  sound : ∀ s ∈ row, LiveS bl r s.1 s.2 → LiveS bl r s0.1 s0.2
  gone : ∀ k s, k < i → row[k]? = some s → Gone bl r row s
theorem comeL_mem {l : List Sp} {s x : Sp} : x ∈ comeL l s ↔ (x ∈ l ∨ x = s) := by
  unfold comeL
  split
  · rename_i h
    exact ⟨.inl, fun h' => h'.elim id fun e => e ▸ h⟩
  · simp
theorem comeL_ext (l : List Sp) (s : Sp) : ∃ e, comeL l s = l ++ e := by
  unfold comeL
  split
  · exact ⟨[], by simp⟩
  · exact ⟨_, rfl⟩
theorem comeL_nodup {l : List Sp} (h : l.Nodup) (s : Sp) : (comeL l s).Nodup := by
  unfold comeL
  split
  · exact h
  · rename_i hm
    rw [List.nodup_append]
    exact ⟨h, by simp, fun a ha b hb e => by simp only [List.mem_singleton] at hb; subst hb; exact hm (e ▸ ha)⟩
/-- a place more -/
theorem LInv.come {bl : List LBlock} {r : Nat} {s0 s : Sp} {i : Nat} {row : List Sp} (h : LInv bl r s0 i row) (hi : i ≤ row.length) (hs : SpotOk bl s) (hl : LiveS bl r s.1 s.2 → LiveS bl r s0.1 s0.2) : LInv bl r s0 i (comeL row s) := by
  obtain ⟨e, he⟩ := comeL_ext row s
  refine ⟨comeL_nodup h.nd s, fun x hx => ?_, comeL_mem.2 (.inl h.start), fun x hx => ?_, fun k x hk hx => ?_⟩
  · rcases comeL_mem.1 hx with hx | rfl
    · exact h.ok x hx
    · exact hs
  · rcases comeL_mem.1 hx with hx | rfl
    · exact h.sound x hx
    · exact hl
  · rw [he, List.getElem?_append_left (by omega)] at hx
    exact (h.gone k x hk hx).mono fun y hy => comeL_mem.2 (.inl hy)
theorem LInv.next {bl : List LBlock} {r : Nat} {s0 s : Sp} {i : Nat} {row : List Sp} (h : LInv bl r s0 i row) (hs : row[i]? = some s) (hg : Gone bl r row s) : LInv bl r s0 (i + 1) row :=
  ⟨h.nd, h.ok, h.start, h.sound, fun k x hk hx => by
    by_cases e : k = i
    · subst e
      rw [hs] at hx
      simp only [Option.some.injEq] at hx
      subst hx
      exact hg
    · exact h.gone k x (by omega) hx⟩
theorem comeL_get {row : List Sp} {s : Sp} {i : Nat} {x : Sp} (h : row[i]? = some x) : (comeL row s)[i]? = some x := by
  obtain ⟨e, he⟩ := comeL_ext row s
  rw [he, List.getElem?_append_left (List.getElem?_eq_some_iff.1 h).1]
  exact h
theorem live_c (nm pa re : Value) (bl : List LBlock) (bs : Value) (hbsl : ∃ a n c, bs = .slice a n c) (r : Nat) (s0 : Sp) (w0 : World) (hbs : SlAt w0 bs 6 bl BlockV) (hlen : bl.length ≤ 100) (R : Nat) (hf : FuncOk R bl) (hlist : ∀ B ∈ bl, B.list.length ≤ 1000) (hargs : ∀ B ∈ bl, ∀ x ∈ B.list, x.args.length ≤ 1000) (hs0 : SpotOk bl s0) [Decidable (LiveS bl r s0.1 s0.2)] :
    RetV Tryd.prog 72 [.agg #[nm, pa, re, bs], .int .i64 r, .agg #[.int .i64 (s0.1 : Int), .int .i64 s0.2]] w0 (.bool (decide (LiveS bl r s0.1 s0.2))) := by
  have hbs0 := hbs
  have hok := hf.good
  obtain ⟨ba, n, bc, bb, bo', rfl, hn, hnc, hnb, hbc, hba, hel⟩ := hbs
  refine ret_enter Tryd.func72 rfl Tryd.ntmps72 rfl (Wd.nil NoS w0) ?_
  repeat (first | refine g_op rfl ?_ | refine g_then ?_ | refine g_nil ?_ | refine g_region ?_ | refine g_seq ?_ | refine g_box rfl fun _ _ => ?_ | refine g_block ?_ | refine g_build1 rfl rfl fun _ _ => ?_)
  rename_i p3 _ p5 _ eb _
  refine g_loop (fun (x : Nat × Option Addr × Nat × List Sp) => x.1 ≤ x.2.2.2.length ∧ LInv bl r s0 x.1 x.2.2.2) (fun x => [(8, .int .i64 x.1), (7, .slice x.2.1 x.2.2.2.length x.2.2.1), (3, .pointer (some ⟨p3, 0, none⟩)), (1, .int .i64 (r : Nat)), (6, .bool false)])
    (fun x => [vecS x.2.1 x.2.2.1 x.2.2.2, Ent.box p3 [nm, pa, re, .slice ba n bc] 35]) (fun x => bl.length * 1003 - x.1) (0, some ⟨eb, 0, none⟩, 1, [s0]) ⟨Nat.zero_le _, ⟨by simp, by simpa using hs0, by simp, fun s hs h => by simp only [List.mem_singleton] at hs; subst hs; exact h, fun k s hk => by omega⟩⟩ ?_ fun x ⟨hi, hI⟩ => ?_
  · exact g_done (by repeat (first | exact trivial | refine ⟨rfl, ?_⟩)) (List.Sublist.cons_cons _ (List.Sublist.cons _ (List.Sublist.refl _)))
  obtain ⟨i, a, c, row⟩ := x
  simp only at hi hI ⊢
  have hrl := spots_len hI.nd hI.ok hlist
  have hrl2 : row.length ≤ 100300 := by omega
  unfold vecS
  repeat (first | refine g_op rfl ?_ | refine g_then ?_ | refine g_nil ?_ | refine g_region ?_ | refine g_seq ?_)
  refine g_cond (fun h1 => ?_) (fun h1 => ?_)
  case refine_2 =>
    have hge : i = row.length := by have := h1; simp at this; omega
    repeat (first | refine g_then ?_ | refine g_nil ?_ | refine g_region ?_ | refine g_seq ?_ | refine g_opS rfl ?_ | refine g_exit ?_ | refine g_thenExit ?_ | refine g_exitHere ?_ | refine g_ret ?_)
    refine g_retV rfl ?_
    rw [decide_eq_false]
    intro hlv
    exact gone_dead (row := row) (fun s hs => by
      obtain ⟨k, hk⟩ := List.getElem?_of_mem hs
      exact hI.gone k s (by have := (List.getElem?_eq_some_iff.1 hk).1; omega) hk) hlv hI.start
  have hlt : i < row.length := by simpa using h1
  obtain ⟨s, hs⟩ : ∃ q, row[i]? = some q := ⟨_, List.getElem?_eq_getElem hlt⟩
  refine g_vec 0 rfl (by omega) fun vb vo hva => ?_
  subst hva
  have hli : LtIs i row.length := ⟨hlt⟩
  have hsp := spots_at hs
  obtain ⟨hz1, B, hB, hz2⟩ := hI.ok s (List.mem_of_getElem? hs)
  have hsound := hI.sound s (List.mem_of_getElem? hs)
  obtain ⟨b, z⟩ := s
  simp only at hz1 hB hz2 hsp hsound
  have hbn : b < n := by rw [hn]; exact (List.getElem?_eq_some_iff.1 hB).1
  have had : AddrIs ba bb bo' := ⟨hba (ne_of_get hB)⟩
  have hlb : LtIs b n := ⟨hbn⟩
  obtain ⟨cs, hcs, pv, lv, tv, rfl, _, hion, hphis, hins, hto⟩ := hel b B hB
  have hphis0 := hphis
  have hins0 := hins
  have hto0 := hto
  obtain ⟨pa2, pn, pc, _, _, rfl, _⟩ := hphis
  obtain ⟨la, ln, lc, lb, lo, rfl, hln, hlnc, _, _, hla, hlel⟩ := hins
  obtain ⟨ta, tn, tc, tb, to', rfl, htn, htnc, _, _, hta, htel⟩ := hto
  have hci : CellsIs w0 bb (bo' + b * 6) _ := ⟨hcs⟩
  have hBo := hf.block b B hB
  have hll := hlist B (List.mem_of_getElem? hB)
  repeat (first | refine g_op rfl ?_ | refine g_then ?_ | refine g_nil ?_ | refine g_region ?_ | refine g_seq ?_ | refine g_alloc rfl fun _ _ => ?_ | refine g_storeAgg ?_ | refine g_block ?_ | refine g_skip ?_)
  rename_i p9 _ p10 _
  refine g_cond (fun h2 => ?_) (fun h2 => ?_)
  · have hz : z = -1 := by have := h2; simp at this; omega
    subst hz
    repeat (first | refine g_op rfl ?_ | refine g_region ?_ | refine g_seq ?_)
    refine g_callV rfl (fun w hw => writesPhi_c _ _ _ B ⟨_, _, _, rfl⟩ ⟨_, _, _, rfl⟩ ⟨_, _, _, rfl⟩ r w (hphis0.keep keeps_phi hw.chg)) ?_
    have hphi : (B.phis.any fun p => decide (p.dst = r)) = false ↔ ∀ p ∈ B.phis, p.dst ≠ r := by simp
    generalize (B.phis.any fun p => decide (p.dst = r)) = q at hphi
    have hgone : ∀ row' : List Sp, (q = false → ((b, 0) : Sp) ∈ row') → Gone bl r row' (b, -1) := fun row' h B' hB' => by
      rw [hB] at hB'; cases hB'
      exact ⟨fun _ hp => h (hphi.2 hp), fun i x e => absurd e (by simp only; omega), fun e => absurd e (by simp only; omega), fun e => absurd e (by simp only; omega)⟩
    cases q
    · have hp := hphi.1 rfl
      have hI' := hI.come (s := (b, 0)) (by omega) ⟨by simp, B, hB, by simp only; omega⟩ fun h => hsound (.phi hB hp h)
      repeat (first | refine g_op rfl ?_ | refine g_then ?_ | refine g_nil ?_ | refine g_region ?_ | refine g_condT ?_)
      refine g_sel [2, 0, 1, 3] (by decide) ?_
      refine g_callS (H1 := [vecS (some ⟨vb, vo, none⟩) c row]) (val := fun x : Option Addr × Nat => .slice x.1 (comeL row (b, 0)).length x.2) (E := fun x => [vecS x.1 x.2 (comeL row (b, 0))]) (φ := fun _ => True) rfl (fun w hw => come_c _ c row (by omega) (b, 0) w hw.pre) fun x _ => ?_
      obtain ⟨a', c'⟩ := x
      simp only [List.cons_append, List.nil_append]
      have hg := comeL_get (s := (b, 0)) hs
      repeat (first | refine g_op rfl ?_ | refine g_then ?_ | refine g_nil ?_ | refine g_region ?_ | refine g_opS rfl ?_ | refine g_add rfl (by omega) (by omega) ?_ | refine g_exit ?_ | refine g_thenExit ?_ | refine g_exitHere ?_)
      exact g_next (i + 1, a', c', comeL row (b, 0)) ⟨(List.getElem?_eq_some_iff.1 hg).1, hI'.next hg (hgone _ fun _ => comeL_mem.2 (.inr rfl))⟩ (by simp only; omega) (by repeat (first | exact trivial | refine ⟨rfl, ?_⟩)) (List.Sublist.cons_cons _ (List.Sublist.cons _ (List.Sublist.cons _ (List.Sublist.refl _))))
    · repeat (first | refine g_op rfl ?_ | refine g_then ?_ | refine g_nil ?_ | refine g_region ?_ | refine g_opS rfl ?_ | refine g_skip ?_ | refine g_condF ?_ | refine g_add rfl (by omega) (by omega) ?_ | refine g_exit ?_ | refine g_thenExit ?_ | refine g_exitHere ?_)
      exact g_next (i + 1, some ⟨vb, vo, none⟩, c, row) ⟨hlt, hI.next hs (hgone row (by simp))⟩ (by simp only; omega) (by repeat (first | exact trivial | refine ⟨rfl, ?_⟩)) (List.Sublist.cons _ (List.Sublist.cons _ (List.Sublist.refl _)))
  obtain ⟨j, rfl⟩ : ∃ j : Nat, z = j := ⟨z.toNat, by have := h2; simp at this; omega⟩
  have hjn : j ≤ B.list.length + 1 := by omega
  clear hz1 hz2
  repeat (first | refine g_op rfl ?_ | refine g_then ?_ | refine g_nil ?_ | refine g_region ?_ | refine g_seq ?_ | refine g_skip ?_)
  refine g_cond (fun h3 => ?_) (fun h3 => ?_)
  · have hjl : j < ln := by simpa using h3
    obtain ⟨x, hx⟩ := get_lt hln hjl
    have hadl : AddrIs la lb lo := ⟨hla (ne_of_get hx)⟩
    have hlj : LtIs j ln := ⟨hjl⟩
    obtain ⟨csx, hcsx, xv, rfl, _, _, hia, hib, _, hxs⟩ := hlel j x hx
    have hxm := List.mem_of_getElem? hx
    have hal := hargs B (List.mem_of_getElem? hB) x hxm
    have hxs0 := hxs
    obtain ⟨va, vn, vc, _, _, rfl, _, _, _, _, _, hvel⟩ := hxs
    have hciX : CellsIs w0 lb (lo + j * 8) _ := ⟨hcsx⟩
    have hul : (usesOf x).length ≤ 1000 := by unfold usesOf; repeat (first | split | skip) <;> (try simp) <;> (try omega)
    have hui : ∀ v ∈ usesOf x, inI v.n := fun v hv => by
      have hargI : ∀ v ∈ x.args, inI v.n := fun v hv => by
        obtain ⟨k, hk⟩ := List.getElem?_of_mem hv
        obtain ⟨_, _, _, h⟩ := hvel k v hk
        exact h
      unfold usesOf at hv
      split at hv
      · cases hv
      · split at hv
        · exact hargI v hv
        · split at hv
          · simp only [List.mem_cons, List.not_mem_nil, or_false] at hv
            rcases hv with rfl | rfl
            · exact hia
            · exact hib
          · split at hv
            · simp only [List.mem_cons, List.not_mem_nil, or_false] at hv
              subst hv
              exact hia
            · cases hv
    repeat (first | refine g_op rfl ?_ | refine g_region ?_ | refine g_seq ?_)
    refine g_callE (val := fun y : Option Addr × Nat × Nat => .slice y.1 (usesOf x).length y.2.1) (E := fun y => [Ent.vec y.1 (usesOf x).length y.2.1 y.2.2 2 ((usesOf x).flatMap valC)]) (φ := fun _ => True) rfl (fun w hw => uses_c x va vn vc w (hxs0.keep keeps_val hw.chg) hal) fun y _ => ?_
    obtain ⟨ya, yc, ye⟩ := y
    simp only [List.cons_append, List.nil_append]
    repeat (refine g_op rfl ?_)
    refine g_callV rfl (fun w hw => names_c _ (usesOf x) r w (vals_sl hw (k := 0) rfl rfl (by omega) hui)) ?_
    by_cases hnm : namesR (usesOf x) r = true
    · rw [hnm]
      repeat (first | refine g_then ?_ | refine g_nil ?_ | refine g_region ?_ | refine g_seq ?_ | refine g_opS rfl ?_ | refine g_condT ?_ | refine g_ret ?_ | refine g_thenRet ?_ | refine g_blockRet ?_)
      exact g_retV rfl (by rw [decide_eq_true (hsound (.use hB hx hnm))])
    have hnm := Bool.eq_false_iff.2 hnm
    rw [hnm]
    repeat (first | refine g_op rfl ?_ | refine g_then ?_ | refine g_nil ?_ | refine g_region ?_ | refine g_seq ?_ | refine g_skip ?_ | refine g_condF ?_)
    have hgone : ∀ row' : List Sp, (x.dst ≠ r → ((b, (j : Int) + 1) : Sp) ∈ row') → Gone bl r row' (b, j) := fun row' h B' hB' => by
      rw [hB] at hB'; cases hB'
      refine ⟨fun e => absurd e (by simp only; omega), fun i' x' e hx' => ?_, fun e => absurd e (by simp only; omega), fun e => absurd e (by simp only; omega)⟩
      have : i' = j := by simp only at e; omega
      subst this
      rw [hx] at hx'; cases hx'
      exact ⟨hnm, h⟩
    refine g_cond (fun h4 => ?_) (fun h4 => ?_)
    · have hd : x.dst ≠ r := by simpa using h4
      have hI' := hI.come (s := (b, (j : Int) + 1)) (by omega) ⟨by simp only; omega, B, hB, by simp only; omega⟩ fun h => hsound (.go hB hx hd (by simpa using h))
      repeat (first | refine g_op rfl ?_ | refine g_region ?_ | refine g_add rfl (by omega) (by omega) ?_)
      refine g_sel [3, 1, 2, 4] (by decide) ?_
      refine g_callS (H1 := [vecS (some ⟨vb, vo, none⟩) c row]) (val := fun x : Option Addr × Nat => .slice x.1 (comeL row (b, (j : Int) + 1)).length x.2) (E := fun x => [vecS x.1 x.2 (comeL row (b, (j : Int) + 1))]) (φ := fun _ => True) rfl (fun w hw => come_c _ c row (by omega) (b, (j : Int) + 1) w hw.pre) fun x _ => ?_
      obtain ⟨a', c'⟩ := x
      simp only [List.cons_append, List.nil_append]
      have hg := comeL_get (s := (b, (j : Int) + 1)) hs
      repeat (first | refine g_op rfl ?_ | refine g_then ?_ | refine g_nil ?_ | refine g_region ?_ | refine g_opS rfl ?_ | refine g_add rfl (by omega) (by omega) ?_ | refine g_exit ?_ | refine g_thenExit ?_ | refine g_exitHere ?_)
      exact g_next (i + 1, a', c', comeL row (b, (j : Int) + 1)) ⟨(List.getElem?_eq_some_iff.1 hg).1, hI'.next hg (hgone _ fun _ => comeL_mem.2 (.inr rfl))⟩ (by simp only; omega) (by repeat (first | exact trivial | refine ⟨rfl, ?_⟩)) (List.Sublist.cons_cons _ (List.Sublist.cons _ (List.Sublist.cons _ (List.Sublist.refl _))))
    · repeat (first | refine g_op rfl ?_ | refine g_then ?_ | refine g_nil ?_ | refine g_region ?_ | refine g_opS rfl ?_ | refine g_skip ?_ | refine g_add rfl (by omega) (by omega) ?_ | refine g_exit ?_ | refine g_thenExit ?_ | refine g_exitHere ?_)
      refine g_sel [1, 2, 3, 4] (by decide) ?_
      exact g_next (i + 1, some ⟨vb, vo, none⟩, c, row) ⟨hlt, hI.next hs (hgone row fun h => by simp at h4; exact absurd h4 h)⟩ (by simp only; omega) (by repeat (first | exact trivial | refine ⟨rfl, ?_⟩)) (List.Sublist.cons _ (List.Sublist.cons _ (List.Sublist.refl _)))
  have hjg : j = B.list.length ∨ j = B.list.length + 1 := by simp at h3; omega
  clear h3 h2
  refine g_fix (L' := [(10, .pointer (some ⟨p10, 0, none⟩)), (9, .pointer (some ⟨p9, 0, none⟩)), (8, .int .i64 i), (7, .slice (some ⟨vb, vo, none⟩) row.length c), (3, .pointer (some ⟨p3, 0, none⟩)), (1, .int .i64 (r : Nat)), (6, .bool false)]) (by repeat (first | exact trivial | refine ⟨rfl, ?_⟩)) (List.Sublist.refl _) ?_
  repeat (first | refine g_op rfl ?_ | refine g_then ?_ | refine g_region ?_ | refine g_seq ?_ | refine g_skip ?_)
  refine g_joinTo 88 (.bool (decide (j = B.list.length) && namesR [B.on] r)) ?_ ?_
  · rw [show decide ((j : Int) = (ln : Int)) = decide (j = B.list.length) by rw [hln]; exact decide_eq_decide.2 (by omega)]
    by_cases e : j = B.list.length
    · rw [decide_eq_true e]
      repeat (first | refine g_op rfl ?_ | refine g_open ?_ | refine g_build1 rfl rfl fun _ _ => ?_)
      refine g_callV rfl (fun w hw => names_c _ [B.on] r w (vals_sl hw (k := 0) (l := [B.on]) rfl rfl (by omega) (fun y hy => by simp only [List.mem_singleton] at hy; subst hy; exact hion))) ?_
      repeat (first | refine g_op rfl ?_ | refine g_then ?_ | refine g_nil ?_)
      exact g_done (by repeat (first | exact trivial | refine ⟨rfl, ?_⟩)) (List.Sublist.cons _ (List.Sublist.refl _))
    · rw [decide_eq_false e]
      repeat (first | refine g_op rfl ?_ | refine g_then ?_ | refine g_nil ?_ | refine g_pass rfl ?_)
      exact g_done (by repeat (first | exact trivial | refine ⟨rfl, ?_⟩)) (List.Sublist.refl _)
  repeat (first | refine g_then ?_ | refine g_nil ?_)
  refine g_cond (fun h4 => ?_) (fun h4 => ?_)
  · repeat (first | refine g_then ?_ | refine g_nil ?_ | refine g_region ?_ | refine g_seq ?_ | refine g_opS rfl ?_ | refine g_ret ?_ | refine g_thenRet ?_ | refine g_blockRet ?_)
    rw [Bool.and_eq_true] at h4
    have e : j = B.list.length := by simpa using h4.1
    exact g_retV rfl (by rw [decide_eq_true (hsound (by rw [e]; exact .on hB h4.2))])
  have hon : j = B.list.length → namesR [B.on] r = false := fun e => by rw [decide_eq_true e, Bool.true_and] at h4; exact h4
  repeat (first | refine g_op rfl ?_ | refine g_then ?_ | refine g_nil ?_ | refine g_region ?_ | refine g_seq ?_ | refine g_block ?_ | refine g_skip ?_)
  refine g_loop (fun (x : Nat × Option Addr × Nat × List Sp) => x.1 ≤ tn ∧ i < x.2.2.2.length ∧ LInv bl r s0 i x.2.2.2 ∧ x.2.2.2[i]? = some (b, (j : Int)) ∧ ∀ t : Nat, (t : Int) ∈ B.to.take x.1 → takesR bl t b r = false ∧ ((t, -1) : Sp) ∈ x.2.2.2)
    (fun x => [(11, .int .i64 x.1), (7, .slice x.2.1 x.2.2.2.length x.2.2.1), (10, .pointer (some ⟨p10, 0, none⟩)), (9, .pointer (some ⟨p9, 0, none⟩)), (8, .int .i64 i), (3, .pointer (some ⟨p3, 0, none⟩)), (1, .int .i64 (r : Nat)), (6, .bool false)])
    (fun x => [vecS x.2.1 x.2.2.1 x.2.2.2, Ent.box p10 [.slice pa2 pn pc, .slice la ln lc, .int .i64 B.kind, .bool B.on.reg, .int .i64 B.on.n, .slice ta tn tc] 65, Ent.box p9 [.int .i64 (b : Int), .int .i64 (j : Int)] 57, Ent.box p3 [nm, pa, re, .slice ba n bc] 35]) (fun x => tn - x.1) (0, some ⟨vb, vo, none⟩, c, row) ⟨Nat.zero_le _, hlt, hI, hs, by simp⟩ ?_ fun x ⟨hq, hi', hI', hs', hall⟩ => ?_
  · refine g_sel [2, 0, 1, 3] (by decide) ?_
    exact g_done (by repeat (first | exact trivial | refine ⟨rfl, ?_⟩)) (List.Sublist.refl _)
  clear hI hs hrl hrl2 hi hlt hsp h1
  obtain ⟨q, a, c, row⟩ := x
  simp only at hq hi' hI' hs' hall ⊢
  have hrl := spots_len hI'.nd hI'.ok hlist
  have hrl2 : row.length ≤ 100300 := by omega
  repeat (first | refine g_op rfl ?_ | refine g_then ?_ | refine g_nil ?_ | refine g_region ?_ | refine g_seq ?_)
  refine g_cond (fun h5 => ?_) (fun h5 => ?_)
  · have hqt : q < tn := by simpa using h5
    obtain ⟨z, hz⟩ := get_lt htn hqt
    have hzm : z ∈ toOf bl b := by rw [toOf_get hB]; exact List.mem_of_getElem? hz
    obtain ⟨t, rfl⟩ : ∃ t : Nat, z = t := ⟨z.toNat, (hok.nat hzm).symm⟩
    have htl : t < bl.length := by have := hok.edge (x := b) (y := t) hzm; omega
    have hadt : AddrIs ta tb to' := ⟨hta (ne_of_get hz)⟩
    have hlq : LtIs q tn := ⟨hqt⟩
    obtain ⟨csz, hcsz, rfl, _⟩ := htel q _ hz
    have hciZ : CellsIs w0 tb (to' + q * 1) _ := ⟨hcsz⟩
    have hI2 := hI'.come (s := (t, -1)) (by omega) ⟨by simp, bl[t], List.getElem?_eq_getElem htl, by simp only; omega⟩ fun h => hsound (.jump hB (by omega) (by rw [← toOf_get hB]; exact hzm) h)
    unfold vecS
    repeat (first | refine g_op rfl ?_ | refine g_then ?_ | refine g_nil ?_ | refine g_region ?_ | refine g_seq ?_ | refine g_block ?_ | refine g_skip ?_)
    refine g_callV rfl (fun w hw => takes_c nm pa re R bl _ ⟨_, _, _, rfl⟩ t b r w (hbs0.keep keeps_block hw.chg) hlen hf htl (by omega) hzm) ?_
    by_cases htk : takesR bl t b r = true
    · rw [htk]
      repeat (first | refine g_then ?_ | refine g_nil ?_ | refine g_region ?_ | refine g_seq ?_ | refine g_opS rfl ?_ | refine g_condT ?_ | refine g_ret ?_ | refine g_thenRet ?_ | refine g_blockRet ?_)
      exact g_retV rfl (by rw [decide_eq_true (hsound (.take hB (by omega) (by rw [← toOf_get hB]; exact hzm) htk))])
    have htk := Bool.eq_false_iff.2 htk
    rw [htk]
    repeat (first | refine g_op rfl ?_ | refine g_then ?_ | refine g_nil ?_ | refine g_region ?_ | refine g_skip ?_ | refine g_condF ?_)
    refine g_callS (H1 := [vecS a c row]) (val := fun x : Option Addr × Nat => .slice x.1 (comeL row (t, -1)).length x.2) (E := fun x => [vecS x.1 x.2 (comeL row (t, -1))]) (φ := fun _ => True) rfl (fun w hw => come_c _ c row (by omega) (t, -1) w hw.pre) fun x _ => ?_
    obtain ⟨a', c'⟩ := x
    simp only [List.cons_append, List.nil_append]
    have hg := comeL_get (s := (t, -1)) hs'
    repeat (first | refine g_op rfl ?_ | refine g_then ?_ | refine g_nil ?_ | refine g_region ?_ | refine g_opS rfl ?_ | refine g_inBlock ?_ | refine g_add rfl (by omega) (by omega) ?_)
    refine g_next (q + 1, a', c', comeL row (t, -1)) ⟨hqt, (List.getElem?_eq_some_iff.1 hg).1, hI2, hg, fun t' ht' => ?_⟩ (by simp only; omega) (by repeat (first | exact trivial | refine ⟨rfl, ?_⟩)) (List.Sublist.refl _)
    simp only at ht'
    rw [List.take_add_one, hz, List.mem_append] at ht'
    rcases ht' with ht' | ht'
    · exact ⟨(hall t' ht').1, comeL_mem.2 (.inl (hall t' ht').2)⟩
    · simp only [Option.toList_some, List.mem_singleton] at ht'
      have : t' = t := by omega
      subst this
      exact ⟨htk, comeL_mem.2 (.inr rfl)⟩
  · have hge : q = tn := by have := h5; simp at this; omega
    rw [hge, htn, List.take_length] at hall
    repeat (first | refine g_op rfl ?_ | refine g_then ?_ | refine g_nil ?_ | refine g_region ?_ | refine g_opS rfl ?_ | refine g_inBlock ?_ | refine g_add rfl (by omega) (by omega) ?_ | refine g_exit ?_ | refine g_thenExit ?_ | refine g_exitHere ?_)
    refine g_next (i + 1, a, c, row) ⟨hi', hI'.next hs' fun B' hB' => ?_⟩ (by simp only; omega) (by repeat (first | exact trivial | refine ⟨rfl, ?_⟩)) (List.Sublist.cons_cons _ (List.Sublist.cons _ (List.Sublist.cons _ (List.Sublist.refl _))))
    rw [hB] at hB'; cases hB'
    refine ⟨fun e => absurd e (by simp only; omega), fun i' x e hx => absurd e ?_, fun e => hon (by simp only at e; omega), fun _ t ht => hall t ht⟩
    have := (List.getElem?_eq_some_iff.1 hx).1
    simp only
    omega
end Go.Proofs.YtebajiafdkokjaaDoor

/- A region that draws its order, reads and calls: what is read is taken in one order, the calls stand alone when they come. One walk serves every order. -/
namespace Go.Proofs.YtebajiafdkokjaaDoor
open Go Go.RowKit

section
variable {P : Program} {N : Nat} {ds : List Deferred} {S : Nat → Prop} {w0 : World} {L L' : List (Nat × Value)} {H H' Hr : List Ent} {Q : Exit → Act → World → Prop} {x y : Operand} {M : Act → World → Prop} {l : List Oper} {fuel : Nat} {listed : Array Bool}

theorem h_call {d ty f : Nat} (i : Nat) {args : List Operand} {vs : List Value} {tys : Array Nat} {pos : String} {aft : Array Go.Edge} (R : World → Value → World → Prop) [ho : ListAt l i ⟨some d, .call { callee := .value (.func f), args := args.toArray, argTypes := tys }, ty, pos, aft, none⟩] [h : EnterOk P f] [hx : Evs L args vs] (hd : okPut d N L = true)
    (hr : decide (Region.ready .any l.toArray listed = [i]) = true)
    (hc : ∀ w, Wd S w0 H w → Ret P f vs w (R w))
    (k : ∀ v w w', Wd S w0 H w → R w v w' → Wd S w0 Hr w' ∧ ∀ a, Fr N ds ((d, v) :: L) a → wpAnyH P .any l.toArray (OnlyN M) (Wd S w0 Hr) fuel (listed.setIfInBounds i true) a w') : G N ds S w0 L H (wpAnyH P .any l.toArray (OnlyN M) (Wd S w0 Hr) (fuel + 1) listed) := by
  intro a w hS
  refine wpAnyH_all (of_decide_eq_true hr) (by simp) fun i' hi' => ?_
  simp only [List.mem_singleton] at hi'
  subst hi'
  unfold wpOp
  rw [show l.toArray[i']? = some ⟨some d, .call { callee := .value (.func f), args := args.toArray, argTypes := tys }, ty, pos, aft, none⟩ by simpa using ho.at']
  simp only
  rw [if_pos (show Region.wanted (⟨some d, .call { callee := .value (.func f), args := args.toArray, argTypes := tys }, ty, pos, aft, none⟩ : Oper) (yielded l.toArray a.tmps) = true from rfl)]
  left
  unfold Oper.wp
  have hrun : (execOp a.eval ⟨some d, .call { callee := .value (.func f), args := args.toArray, argTypes := tys }, ty, pos, aft, none⟩).run P w = .ok (.enter f vs.toArray) w := by
    simp [execOp, resolve, Act.eval, Deferred.ofValue, invoke, hx.eq _ _ _ hS.fr, h.run]
  rw [hrun]
  refine Calls.mono (callsIn_wide.1 (hc w hS.wd)) fun e w' ⟨v, he, hR⟩ => ?_
  subst he
  obtain ⟨h1, h2⟩ := k v w w' hS.wd hR
  exact ⟨h1, h2 _ (hS.fr.putOk hd v)⟩
/-- a call that hands back a value and turns nothing old -/
theorem h_callV {d ty f : Nat} (i : Nat) {args : List Operand} {vs : List Value} {tys : Array Nat} {pos : String} {aft : Array Go.Edge} {u : Value} [ho : ListAt l i ⟨some d, .call { callee := .value (.func f), args := args.toArray, argTypes := tys }, ty, pos, aft, none⟩] [h : EnterOk P f] [hx : Evs L args vs] (hd : okPut d N L = true)
    (hr : decide (Region.ready .any l.toArray listed = [i]) = true) (hH : Hr.Sublist H)
    (hc : ∀ w, Wd S w0 H w → RetV P f vs w u)
    (k : G N ds S w0 ((d, u) :: L) H (wpAnyH P .any l.toArray (OnlyN M) (Wd S w0 Hr) fuel (listed.setIfInBounds i true))) : G N ds S w0 L H (wpAnyH P .any l.toArray (OnlyN M) (Wd S w0 Hr) (fuel + 1) listed) :=
  h_call i (fun w v w' => v = u ∧ Chg NoS w w') hd hr hc fun v _ w' hw hR => ⟨(hw.call hR.2).sub hH, fun a hF => k a w' ⟨by rw [← hR.1]; exact hF, hw.call hR.2⟩⟩
/-- a call that hands back something that is told by x, with memory of its own -/
theorem h_callE {α : Type} {val : α → Value} {E : α → List Ent} {φ : α → Prop} {d ty f : Nat} (i : Nat) {args : List Operand} {vs : List Value} {tys : Array Nat} {pos : String} {aft : Array Go.Edge} [ho : ListAt l i ⟨some d, .call { callee := .value (.func f), args := args.toArray, argTypes := tys }, ty, pos, aft, none⟩] [h : EnterOk P f] [hx : Evs L args vs] (hd : okPut d N L = true)
    (hr : decide (Region.ready .any l.toArray listed = [i]) = true) (hH : Hr.Sublist H)
    (hc : ∀ w, Wd S w0 H w → Ret P f vs w fun u w' => ∃ x, u = val x ∧ Wd NoS w (E x) w' ∧ φ x)
    (k : ∀ x, φ x → G N ds S w0 ((d, val x) :: L) (E x ++ H) (wpAnyH P .any l.toArray (OnlyN M) (Wd S w0 Hr) fuel (listed.setIfInBounds i true))) : G N ds S w0 L H (wpAnyH P .any l.toArray (OnlyN M) (Wd S w0 Hr) (fuel + 1) listed) :=
  h_call i (fun _ u w' => ∃ x, u = val x ∧ Wd S w0 (E x ++ H) w' ∧ φ x) hd hr (fun w hw => (hc w hw).mono fun v w' ⟨x, h1, h2, h3⟩ => ⟨x, h1, hw.more h2, h3⟩) fun v w w' hw hR => by
    obtain ⟨x, rfl, h2, h3⟩ := hR
    exact ⟨h2.sub (hH.trans (List.sublist_append_right _ _)), fun a hF => k x h3 a w' ⟨hF, h2⟩⟩
/-- a call that is handed the first pieces -/
theorem h_callS {α : Type} {val : α → Value} {E : α → List Ent} {φ : α → Prop} {H1 H2 : List Ent} {d ty f : Nat} (i : Nat) {args : List Operand} {vs : List Value} {tys : Array Nat} {pos : String} {aft : Array Go.Edge} [ho : ListAt l i ⟨some d, .call { callee := .value (.func f), args := args.toArray, argTypes := tys }, ty, pos, aft, none⟩] [h : EnterOk P f] [hx : Evs L args vs] (hd : okPut d N L = true)
    (hr : decide (Region.ready .any l.toArray listed = [i]) = true) (hH : Hr.Sublist H2)
    (hc : ∀ w, Wd S w0 (H1 ++ H2) w → Ret P f vs w fun u w' => ∃ x, u = val x ∧ Wd (fps H1) w (E x) w' ∧ φ x)
    (k : ∀ x, φ x → G N ds S w0 ((d, val x) :: L) (E x ++ H2) (wpAnyH P .any l.toArray (OnlyN M) (Wd S w0 Hr) fuel (listed.setIfInBounds i true))) : G N ds S w0 L (H1 ++ H2) (wpAnyH P .any l.toArray (OnlyN M) (Wd S w0 Hr) (fuel + 1) listed) :=
  h_call i (fun _ u w' => ∃ x, u = val x ∧ Wd S w0 (E x ++ H2) w' ∧ φ x) hd hr (fun w hw => (hc w hw).mono fun v w' ⟨x, h1, h2, h3⟩ => ⟨x, h1, hw.comp h2, h3⟩) fun v w w' hw hR => by
    obtain ⟨x, rfl, h2, h3⟩ := hR
    exact ⟨h2.sub (hH.trans (List.sublist_append_right _ _)), fun a hF => k x h3 a w' ⟨hF, h2⟩⟩
/-- the one operation that is left: a store into a box of the call's own -/
theorem h_skip {o : Oper} (i : Nat) [ho : ListAt l i o] (hg : o.guard = none) (hr : decide (Region.ready .any l.toArray listed = [i]) = true)
    (k : ∀ a w, St N ds S w0 L H a w → ∃ w', (execOp a.eval o).run P w = .ok .skip w' ∧ Wd S w0 Hr w' ∧ wpAnyH P .any l.toArray (OnlyN M) (Wd S w0 Hr) fuel (listed.setIfInBounds i true) (a.put o.dst undef) w') : G N ds S w0 L H (wpAnyH P .any l.toArray (OnlyN M) (Wd S w0 Hr) (fuel + 1) listed) := by
  intro a w hS
  obtain ⟨w', h1, h2, h3⟩ := k a w hS
  refine wpAnyH_all (of_decide_eq_true hr) (by simp) fun i' hi' => ?_
  simp only [List.mem_singleton] at hi'
  subst hi'
  unfold wpOp
  rw [show l.toArray[i']? = some o by simpa using ho.at']
  simp only
  rw [if_pos (show Region.wanted o (yielded l.toArray a.tmps) = true by simp [Region.wanted, hg])]
  left
  unfold Oper.wp
  rw [h1]
  exact ⟨h2, h3⟩
theorem h_val {o : Oper} (i : Nat) [ho : ListAt l i o] (hg : o.guard = none) (hr : decide (Region.ready .any l.toArray listed = [i]) = true)
    (k : ∀ a w, St N ds S w0 L H a w → ∃ v w', (execOp a.eval o).run P w = .ok (.value v) w' ∧ Wd S w0 Hr w' ∧ wpAnyH P .any l.toArray (OnlyN M) (Wd S w0 Hr) fuel (listed.setIfInBounds i true) (a.put o.dst v) w') : G N ds S w0 L H (wpAnyH P .any l.toArray (OnlyN M) (Wd S w0 Hr) (fuel + 1) listed) := by
  intro a w hS
  obtain ⟨v, w', h1, h2, h3⟩ := k a w hS
  refine wpAnyH_all (of_decide_eq_true hr) (by simp) fun i' hi' => ?_
  simp only [List.mem_singleton] at hi'
  subst hi'
  unfold wpOp
  rw [show l.toArray[i']? = some o by simpa using ho.at']
  simp only
  rw [if_pos (show Region.wanted o (yielded l.toArray a.tmps) = true by simp [Region.wanted, hg])]
  left
  unfold Oper.wp
  rw [h1]
  exact ⟨h2, h3⟩
theorem h_store {ty T b o j t : Nat} (i : Nat) [h : OneCell P T] {cs cs' : List Value} {v : Value} {pos : String} {aft : Array Go.Edge} [ho : ListAt l i ⟨none, .store T x y, ty, pos, aft, none⟩]
    [hx : Ev L x (.pointer (some ⟨b, o, none⟩))] [hy : Ev L y v] [h1 : OneV v] [hb : BoxIn H b j cs t] {u : Value} [hu : ListAt cs o u] [hs : SetAt cs o v cs'] [hH : SetAt H j (Ent.box b cs' t) H']
    (hr : decide (Region.ready .any l.toArray listed = [i]) = true) (hHr : Hr.Sublist H')
    (kk : G N ds S w0 L H' (wpAnyH P .any l.toArray (OnlyN M) (Wd S w0 Hr) fuel (listed.setIfInBounds i true))) : G N ds S w0 L H (wpAnyH P .any l.toArray (OnlyN M) (Wd S w0 Hr) (fuel + 1) listed) := by
  refine h_skip i rfl hr fun a w hS => ?_
  have hbx := hS.wd.boxAt j hb.at'
  have := run_storeOne (P := P) (T := T) h1.one (hS.wd.cellBox j hb.at' hu.at') (by simp [World.frozen?, hbx])
  have hw' := hS.wd.setBox j (o := o) v hb.at'
  rw [hs.set', hH.set'] at hw'
  exact ⟨w.setCell ⟨b, o, none⟩ v, by simp [execOp, hx.eq _ _ _ hS.fr, hy.eq _ _ _ hS.fr, this], hw'.sub hHr, kk _ _ ⟨hS.fr, hw'⟩⟩
theorem h_storeAgg {ty T b o j t n : Nat} (i : Nat) [h : AggSize P T n] {cs vs cs' : List Value} {pos : String} {aft : Array Go.Edge} [ho : ListAt l i ⟨none, .store T x y, ty, pos, aft, none⟩]
    [hx : Ev L x (.pointer (some ⟨b, o, none⟩))] [hy : Ev L y (.agg vs.toArray)] [hb : BoxIn H b j cs t] [hn : LenIs vs n] [hp : PutAt cs o vs cs'] [h1 : OneVs vs] [hH : SetAt H j (Ent.box b cs' t) H']
    (hr : decide (Region.ready .any l.toArray listed = [i]) = true) (hHr : Hr.Sublist H')
    (kk : G N ds S w0 L H' (wpAnyH P .any l.toArray (OnlyN M) (Wd S w0 Hr) fuel (listed.setIfInBounds i true))) : G N ds S w0 L H (wpAnyH P .any l.toArray (OnlyN M) (Wd S w0 Hr) (fuel + 1) listed) := by
  refine h_skip i rfl hr fun a w hS => ?_
  have hbx := hS.wd.boxAt j hb.at'
  have hs := run_storeCells_at P b o t vs 0 cs.toArray w hbx (by simpa using hp.le) h1.all
  have e : (cs.toArray.toList.take (o + 0) ++ vs ++ cs.toArray.toList.drop (o + 0 + vs.length)).toArray = cs'.toArray := by
    rw [← hp.eq, ← putL_eq cs o vs hp.le]
    simp
  rw [e] at hs
  have hw' := hS.wd.rowBox j cs' hb.at'
  rw [hH.set'] at hw'
  exact ⟨w.setRow b cs'.toArray, by simp [execOp, hx.eq _ _ _ hS.fr, hy.eq _ _ _ hS.fr, Instr.storeAt, Instr.sureAddr, storeVar, h.sz, Value.cells, hn.eq, hs], hw'.sub hHr, kk _ _ ⟨hS.fr, hw'⟩⟩
/-- all is done -/
theorem h_end (hr : (Region.ready .any l.toArray listed).isEmpty = true) (k : G N ds S w0 L H M) : G N ds S w0 L H (wpAnyH P .any l.toArray (OnlyN M) (Wd S w0 Hr) fuel listed) := fun a w hS => wpAnyH_done (List.isEmpty_iff.1 hr) (k a w hS) _
end
end Go.Proofs.YtebajiafdkokjaaDoor

/- The nearest block on each way to an end, as plain facts. No program in sight. -/
namespace Go.Proofs.YtebajiafdkokjaaDoor
open Go Go.RowKit

/-- an end in n steps, never through 'wo' -/
inductive EndIn (bl : List LBlock) (wo : Int) : Nat → Nat → Prop
  | here {x : Nat} : (x : Int) ≠ wo → kindOf bl x = 1 → EndIn bl wo 0 x
  | step {n x y : Nat} : (x : Int) ≠ wo → Edge bl x y → EndIn bl wo n y → EndIn bl wo (n + 1) x
theorem EndIn.can {bl : List LBlock} {wo : Int} {n x : Nat} (h : EndIn bl wo n x) : CanEnd bl wo x := by
  induction h with
  | here hx hk => exact canEnd_kind hx hk
  | step hx he _ ih => exact canEnd_step hx he ih
theorem CanEnd.within {bl : List LBlock} {wo : Int} {x : Nat} (h : CanEnd bl wo x) : ∃ n, EndIn bl wo n x := by
  obtain ⟨hx, y, hr, hk⟩ := h
  have key : ∀ y, Rch bl wo x y → (∃ n, EndIn bl wo n y) → ∃ n, EndIn bl wo n x := by
    intro y hr
    induction hr with
    | refl => exact id
    | step hr' he _ ih => exact fun ⟨n, hn⟩ => ih ⟨n + 1, .step (rch_ne hx hr') he hn⟩
  exact key y hr ⟨0, .here (rch_ne hx hr) hk⟩
/-- a way to an end that cannot avoid c comes to c -/
theorem EndIn.split {bl : List LBlock} {wo : Int} {n x c : Nat} (h : EndIn bl wo n x) (hc : ¬ CanEnd bl c x) : ∃ m, m ≤ n ∧ EndIn bl wo m c ∧ (x ≠ c → m < n) := by
  induction h with
  | @here x hx hk =>
    by_cases e : x = c
    · subst e; exact ⟨0, Nat.le_refl _, .here hx hk, fun h => absurd rfl h⟩
    · exact absurd (canEnd_kind (by omega) hk) hc
  | @step n x y hx he hy ih =>
    by_cases e : x = c
    · subst e; exact ⟨n + 1, Nat.le_refl _, .step hx he hy, fun h => absurd rfl h⟩
    · obtain ⟨m, h1, h2, _⟩ := ih fun hy => hc (canEnd_step (by omega) he hy)
      exact ⟨m, by omega, h2, fun _ => by omega⟩
theorem Sure.rfl' {bl : List LBlock} {b : Nat} (h : CanEnd bl (-1) b) : Sure bl b b := ⟨h, fun h => h.1 rfl⟩
theorem Sure.to_end {bl : List LBlock} {b c : Nat} (h : Sure bl b c) : CanEnd bl (-1) c := by
  obtain ⟨n, hn⟩ := h.1.within
  obtain ⟨m, _, hm, _⟩ := hn.split h.2
  exact hm.can
theorem Sure.trans {bl : List LBlock} {b c d : Nat} (h : Sure bl b c) (k : Sure bl c d) : Sure bl b d := by
  refine ⟨h.1, fun hd => ?_⟩
  obtain ⟨n, hn⟩ := hd.within
  obtain ⟨m, _, hm, _⟩ := hn.split h.2
  exact k.2 hm.can
theorem Sure.antisymm {bl : List LBlock} {b c : Nat} (h : Sure bl b c) (k : Sure bl c b) : b = c := by
  refine Classical.byContradiction fun hne => ?_
  have key : ∀ n, ∀ m, m ≤ n → ¬ EndIn bl (-1) m b ∧ ¬ EndIn bl (-1) m c := by
    intro n
    induction n with
    | zero =>
      intro m hm
      constructor
      · intro hb
        obtain ⟨m', _, _, h3⟩ := hb.split h.2
        have := h3 hne; omega
      · intro hc
        obtain ⟨m', _, _, h3⟩ := hc.split k.2
        have := h3 (Ne.symm hne); omega
    | succ n ih =>
      intro m hm
      constructor
      · intro hb
        obtain ⟨m', _, h2, h3⟩ := hb.split h.2
        have := h3 hne
        exact (ih m' (by omega)).2 h2
      · intro hc
        obtain ⟨m', _, h2, h3⟩ := hc.split k.2
        have := h3 (Ne.symm hne)
        exact (ih m' (by omega)).1 h2
  obtain ⟨n, hn⟩ := h.1.within
  exact (key n n (Nat.le_refl _)).1 hn
theorem Sure.chain {bl : List LBlock} {b c d : Nat} (h : Sure bl b c) (k : Sure bl b d) : Sure bl c d ∨ Sure bl d c := by
  refine Classical.byContradiction fun hno => ?_
  have h1 : CanEnd bl d c := Classical.byContradiction fun x => hno (.inl ⟨h.to_end, x⟩)
  have h2 : CanEnd bl c d := Classical.byContradiction fun x => hno (.inr ⟨k.to_end, x⟩)
  have key : ∀ n x, EndIn bl (-1) n x → CanEnd bl d x ∨ CanEnd bl c x := by
    intro n x hx
    induction hx with
    | @here x _ hk =>
      by_cases e : x = d
      · subst e; exact .inr h2
      · exact .inl (canEnd_kind (by omega) hk)
    | @step n x y _ he _ ih =>
      by_cases e : x = c
      · subst e; exact .inl h1
      · by_cases e2 : x = d
        · subst e2; exact .inr h2
        · rcases ih with ih | ih
          · exact .inl (canEnd_step (by omega) he ih)
          · exact .inr (canEnd_step (by omega) he ih)
  obtain ⟨n, hn⟩ := h.1.within
  exact (key n b hn).elim k.2 h.2

/-- among the blocks below m: the one that is met first, or none -/
def Best (bl : List LBlock) (b m : Nat) (z : Int) : Prop := (z = -1 ∧ ∀ c, c < m → c ≠ b → ¬ Sure bl b c) ∨ ∃ p : Nat, p < m ∧ z = p ∧ p ≠ b ∧ Sure bl b p ∧ ∀ c, c < m → c ≠ b → Sure bl b c → Sure bl p c
theorem best_zero (bl : List LBlock) (b : Nat) : Best bl b 0 (-1) := .inl ⟨rfl, fun c hc => by omega⟩
theorem best_take {bl : List LBlock} {b m : Nat} {z : Int} (h : Best bl b m z) (hm : m ≠ b) (hs : Sure bl b m) (hz : z < 0 ∨ ∃ p : Nat, z = p ∧ Sure bl m p) : Best bl b (m + 1) m := by
  refine .inr ⟨m, by omega, rfl, hm, hs, fun c hc hcb hsc => ?_⟩
  by_cases e : c = m
  · subst e; exact Sure.rfl' hs.to_end
  · rcases h with ⟨_, h⟩ | ⟨p, hp, rfl, hpb, hsp, hall⟩
    · exact absurd hsc (h c (by omega) hcb)
    · rcases hz with hz | ⟨q, hq, hmq⟩
      · omega
      · have : p = q := by omega
        subst this
        exact hmq.trans (hall c (by omega) hcb hsc)
theorem best_stay {bl : List LBlock} {b m : Nat} {z : Int} (h : Best bl b m z) (hn : m = b ∨ ¬ Sure bl b m ∨ ∃ p : Nat, z = p ∧ ¬ Sure bl m p) : Best bl b (m + 1) z := by
  rcases h with ⟨rfl, h⟩ | ⟨p, hp, rfl, hpb, hsp, hall⟩
  · refine .inl ⟨rfl, fun c hc hcb hsc => ?_⟩
    by_cases e : c = m
    · subst e
      rcases hn with hn | hn | ⟨p, hp, _⟩
      · exact hcb hn
      · exact hn hsc
      · omega
    · exact h c (by omega) hcb hsc
  · refine .inr ⟨p, by omega, rfl, hpb, hsp, fun c hc hcb hsc => ?_⟩
    by_cases e : c = m
    · subst e
      rcases hn with hn | hn | ⟨q, hq, hn⟩
      · exact absurd hn hcb
      · exact absurd hsc hn
      · have : p = q := by omega
        subst this
        exact (hsp.chain hsc).elim id fun h => absurd h hn
    · exact hall c (by omega) hcb hsc
theorem best_ex (bl : List LBlock) (b : Nat) : ∀ m, ∃ z, Best bl b m z
  | 0 => ⟨-1, best_zero bl b⟩
  | m + 1 => by
    obtain ⟨z, hz⟩ := best_ex bl b m
    by_cases h1 : m = b
    · exact ⟨z, best_stay hz (.inl h1)⟩
    by_cases h2 : Sure bl b m
    · by_cases h3 : ∃ p : Nat, z = p ∧ ¬ Sure bl m p
      · exact ⟨z, best_stay hz (.inr (.inr h3))⟩
      · refine ⟨m, best_take hz h1 h2 ?_⟩
        rcases hz with ⟨rfl, _⟩ | ⟨p, _, rfl, _⟩
        · exact .inl (by omega)
        · exact .inr ⟨p, rfl, Classical.byContradiction fun h => h3 ⟨p, rfl, h⟩⟩
    · exact ⟨z, best_stay hz (.inr (.inl h2))⟩
theorem best_unique {bl : List LBlock} {b m : Nat} {z y : Int} (h : Best bl b m z) (k : Best bl b m y) : z = y := by
  rcases h with ⟨rfl, h⟩ | ⟨p, hp, rfl, hpb, hsp, hall⟩
  · rcases k with ⟨rfl, _⟩ | ⟨q, hq, rfl, hqb, hsq, _⟩
    · rfl
    · exact absurd hsq (h q hq hqb)
  · rcases k with ⟨rfl, k⟩ | ⟨q, hq, rfl, hqb, hsq, hallq⟩
    · exact absurd hsp (k p hp hpb)
    · rw [(hall q hq hqb hsq).antisymm (hallq p hp hpb hsp)]

/-! ### Told by the numbers -/
def cnt (p : Nat → Prop) [DecidablePred p] (n : Nat) : Nat := ((List.range n).filter fun c => decide (p c)).length
theorem cnt_succ (p : Nat → Prop) [DecidablePred p] (n : Nat) : cnt p (n + 1) = cnt p n + if p n then 1 else 0 := by
  unfold cnt
  rw [List.range_succ, List.filter_append, List.length_append]
  by_cases h : p n <;> simp [h]
theorem cnt_le {p q : Nat → Prop} [DecidablePred p] [DecidablePred q] : ∀ {n : Nat}, (∀ c, c < n → p c → q c) → cnt p n ≤ cnt q n
  | 0, _ => by simp [cnt]
  | n + 1, h => by
    have := cnt_le (n := n) fun c hc => h c (by omega)
    rw [cnt_succ, cnt_succ]
    have hn := h n (by omega)
    by_cases hp : p n
    · rw [if_pos hp, if_pos (hn hp)]; omega
    · rw [if_neg hp]; omega
theorem cnt_eq {p q : Nat → Prop} [DecidablePred p] [DecidablePred q] : ∀ {n : Nat}, (∀ c, c < n → p c → q c) → cnt p n = cnt q n → ∀ c, c < n → q c → p c
  | 0, _, _ => fun c hc => by omega
  | n + 1, h, he => by
    have hle := cnt_le (n := n) fun c hc => h c (by omega)
    rw [cnt_succ, cnt_succ] at he
    have hn := h n (by omega)
    intro c hc hq
    by_cases hp : p n
    · rw [if_pos hp, if_pos (hn hp)] at he
      by_cases e : c = n
      · exact e ▸ hp
      · exact cnt_eq (n := n) (fun c hc => h c (by omega)) (by omega) c (by omega) hq
    · rw [if_neg hp] at he
      by_cases hqn : q n
      · rw [if_pos hqn] at he; omega
      · rw [if_neg hqn] at he
        by_cases e : c = n
        · exact absurd (e ▸ hq) hqn
        · exact cnt_eq (n := n) (fun c hc => h c (by omega)) (by omega) c (by omega) hq
theorem cnt_one {p q : Nat → Prop} [DecidablePred p] [DecidablePred q] {b : Nat} (hb : ¬ p b) : ∀ {n : Nat}, b < n → (∀ c, c < n → (q c ↔ (p c ∨ c = b))) → cnt q n = cnt p n + 1
  | 0, h, _ => by omega
  | n + 1, hbn, h => by
    rw [cnt_succ, cnt_succ]
    by_cases e : b = n
    · subst e
      have h1 : cnt p b = cnt q b := Nat.le_antisymm (cnt_le fun c hc hp => (h c (by omega)).2 (.inl hp)) (cnt_le fun c hc hq => ((h c (by omega)).1 hq).elim id fun e => by omega)
      rw [if_pos ((h b (by omega)).2 (.inr rfl)), if_neg hb, h1]
    · rw [cnt_one hb (by omega) fun c hc => h c (by omega)]
      have hn := h n (by omega)
      by_cases hp : p n
      · rw [if_pos hp, if_pos (hn.2 (.inl hp))]
      · rw [if_neg hp, if_neg fun hq => (hn.1 hq).elim hp fun e' => e e'.symm]
open Classical in
theorem sureTo_cnt (bl : List LBlock) (b n : Nat) : (sureTo bl b n).length = cnt (Sure bl b) n := rfl
/-- by the number of those that are met: one less -/
theorem best_less {bl : List LBlock} {b x : Nat} (hb : b < bl.length) (hs : Sure bl b x) (hl : (sureTo bl x bl.length).length + 1 = (sureTo bl b bl.length).length) (hx : x < bl.length) : Best bl b bl.length x := by
  classical
  rw [sureTo_cnt, sureTo_cnt] at hl
  have hne : x ≠ b := fun e => by subst e; omega
  have h1 : cnt (Sure bl b) bl.length = cnt (fun c => Sure bl b c ∧ c ≠ b) bl.length + 1 := cnt_one (b := b) (fun h => h.2 rfl) hb fun c _ => by
    constructor
    · intro h
      by_cases e : c = b
      · exact .inr e
      · exact .inl ⟨h, e⟩
    · rintro (h | rfl)
      · exact h.1
      · exact Sure.rfl' hs.1
  have hsub : ∀ c, c < bl.length → Sure bl x c → (Sure bl b c ∧ c ≠ b) := fun c _ hc => ⟨hs.trans hc, fun e => hne (by subst e; exact hc.antisymm hs)⟩
  have hall := cnt_eq (n := bl.length) hsub (by omega)
  exact .inr ⟨x, hx, rfl, hne, hs, fun c hc hcb hsc => hall c hc ⟨hsc, hcb⟩⟩
theorem best_has {bl : List LBlock} {b p : Nat} (hb : b < bl.length) (h : Best bl b bl.length p) : p < bl.length ∧ Sure bl b p ∧ (sureTo bl p bl.length).length + 1 = (sureTo bl b bl.length).length := by
  classical
  rcases h with ⟨h, _⟩ | ⟨q, hq, hpq, hqb, hs, hall⟩
  · omega
  · have : p = q := by omega
    subst this
    refine ⟨hq, hs, ?_⟩
    rw [sureTo_cnt, sureTo_cnt]
    symm
    refine cnt_one (b := b) (fun h => hqb (h.antisymm hs)) hb fun c hc => ?_
    constructor
    · intro h
      by_cases e : c = b
      · exact .inr e
      · exact .inl (hall c hc e h)
    · rintro (h | rfl)
      · exact hs.trans h
      · exact Sure.rfl' hs.1
end Go.Proofs.YtebajiafdkokjaaDoor

/- dom.Post: what it returns. -/
namespace Go.Proofs.YtebajiafdkokjaaDoor
open Go Go.RowKit
attribute [local irreducible] wpListIn Code.wpIn Exit.then Exit.inBlock bodyPost wpQuiet wpAnyIn
set_option maxHeartbeats 4000000

theorem post_bad (u : LUnit) (hl : light u) (k : Int) (hk : inI k) (hbad : (askedL u k).1 ≠ 0) (g fs : Value) (w0 : World) (hg : SlAt w0 g 3 u.globals GlobalV) (hf : SlAt w0 fs 4 u.funcs FuncV) (hways : CellsAt w0 0 0 waysC) :
    RetV Tryd.prog 27 [.agg #[g, fs], .int .i64 k] w0 (.tuple #[.slice none 0 0, .agg #[.int .i64 (askedL u k).1, .int .i64 (askedL u k).2]]) := by
  have hg0 := hg
  have hf0 := hf
  obtain ⟨ga, gn, gc, gb, go, rfl, _⟩ := hg
  obtain ⟨fa, fn, fc, fb, fo, rfl, _⟩ := hf
  refine ret_enter Tryd.func27 rfl Tryd.ntmps27 rfl (Wd.nil NoS w0) ?_
  repeat (first | refine g_op rfl ?_ | refine g_then ?_ | refine g_nil ?_ | refine g_region ?_ | refine g_seq ?_ | refine g_box rfl fun _ _ => ?_ | refine g_alloc rfl fun _ _ => ?_)
  rename_i p2 _ p5 _
  refine g_callV rfl (fun w hw => func_bad u hl k hk hbad _ _ w (hg0.keep keeps_global hw.chg) (hf0.keep keeps_func hw.chg) (hways.keep hw.chg)) ?_
  unfold zeroFn
  repeat (first | refine g_op rfl ?_ | refine g_then ?_ | refine g_nil ?_ | refine g_region ?_ | refine g_seq ?_ | refine g_alloc rfl fun _ _ => ?_ | refine g_storeAgg ?_)
  rename_i p6 _ p7 _
  refine g_cond (fun h1 => ?_) (fun h1 => ?_)
  · repeat (refine g_seq ?_)
    refine g_drawW [(4, .slice none 0 0), (5, .pointer (some ⟨p5, 0, none⟩))] [Ent.box p5 [.int .i64 (askedL u k).1, .int .i64 (askedL u k).2] 29] mixed ?_ ?_
    · repeat' (first | refine g_any0 (by decide +kernel) ?_ | refine g_any (by decide +kernel) ?_ | refine any_nil | refine any_skip (by decide +kernel) ?_ | refine any_cons ?_ ?_ | refine g_op rfl ?_ | refine g_then ?_ | refine g_nil ?_ | refine g_opS rfl ?_ | refine g_storeAgg ?_)
      all_goals exact g_done (by repeat (first | exact trivial | refine ⟨rfl, ?_⟩)) (by simp)
    · repeat (first | refine g_then ?_ | refine g_ret ?_ | refine g_thenRet ?_)
      exact g_retTC rfl fun _ hw => ⟨rfl, hw.chg⟩
  · exact absurd h1 (by simp [hbad])
/-- a row of numbers, packed -/
theorem Wd.ints {S : Nat → Prop} {w0 w : World} {a : Option Addr} {n c e : Nat} {l : List Int} (h : Wd S w0 [Ent.vec a n c e 1 (l.map (.int .i64))] w) (hn : n = l.length) (hb : n ≤ 100000) (hi : ∀ x ∈ l, inI x) :
    Wd S w0 [⟨fps [Ent.vec a n c e 1 (l.map (.int .i64))], fun w => SlAt w (.slice a n c) 1 l IntV⟩] w := by
  have h1 : Wd S w0 ([Ent.vec a n c e 1 (l.map (.int .i64))] ++ []) w := by rw [List.append_nil]; exact h
  refine h1.pack _ fun w2 hw2 => ?_
  refine hw2.slAt (k := 0) rfl hn (by omega) fun j y hy => ⟨[.int .i64 y], fun k v hk => ?_, rfl, hi y (List.mem_of_getElem? hy)⟩
  match k, hk with
  | 0, hk => simpa [hy] using hk
def BestL (bl : List LBlock) (n : Nat) (l : List Int) : Prop := l.length = n ∧ ∀ i z, l[i]? = some z → Best bl i bl.length z
theorem best_in {bl : List LBlock} {b m : Nat} {z : Int} (h : Best bl b m z) (hm : m ≤ 100) : inI z ∧ (z = -1 ∨ ∃ p : Nat, z = p ∧ p < m) := by
  rcases h with ⟨rfl, _⟩ | ⟨p, hp, rfl, _⟩
  · exact ⟨by simp [inI], .inl rfl⟩
  · exact ⟨by simp only [inI]; omega, .inr ⟨p, rfl, hp⟩⟩
theorem bestL_in {bl : List LBlock} {n : Nat} {l : List Int} (h : BestL bl n l) (hm : bl.length ≤ 100) : ∀ z ∈ l, inI z := fun z hz => by
  obtain ⟨i, hi⟩ := List.getElem?_of_mem hz
  exact (best_in (h.2 i z hi) hm).1
theorem bestL_unique {bl : List LBlock} {n : Nat} {l m : List Int} (h : BestL bl n l) (k : BestL bl n m) : l = m := by
  apply List.ext_getElem?
  intro i
  by_cases hi : i < n
  · have h1 : l[i]? = some (l[i]'(by have := h.1; omega)) := List.getElem?_eq_getElem _
    have h2 : m[i]? = some (m[i]'(by have := k.1; omega)) := List.getElem?_eq_getElem _
    rw [h1, h2, best_unique (h.2 i _ h1) (k.2 i _ h2)]
  · rw [List.getElem?_eq_none (by have := h.1; omega), List.getElem?_eq_none (by have := k.1; omega)]
theorem bestL_add {bl : List LBlock} {l : List Int} {z : Int} (h : BestL bl l.length l) (hz : Best bl l.length bl.length z) : BestL bl (l ++ [z]).length (l ++ [z]) := by
  refine ⟨rfl, fun i y hy => ?_⟩
  by_cases hi : i < l.length
  · rw [List.getElem?_append_left hi] at hy
    exact h.2 i y hy
  · have hlt := (List.getElem?_eq_some_iff.1 hy).1
    simp only [List.length_append, List.length_singleton] at hlt
    have : i = l.length := by omega
    subst this
    simp only [List.getElem?_append_right (Nat.le_refl _), Nat.sub_self, List.getElem?_cons_zero, Option.some.injEq] at hy
    exact hy ▸ hz
def TakeP (bl : List LBlock) (b c : Nat) (z : Int) : Prop := c ≠ b ∧ Sure bl b c ∧ (z < 0 ∨ ∃ p : Nat, z = p ∧ Sure bl c p)
theorem post_ok (u : LUnit) (hl : light u) (k : Nat) (hgood : (askedL u k).1 = 0) (X : LFunc) (hX : u.funcs[k]? = some X) (hok : GoodB X.blocks) (g fs : Value) (w0 : World) (hg : SlAt w0 g 3 u.globals GlobalV) (hf : SlAt w0 fs 4 u.funcs FuncV) (hways : CellsAt w0 0 0 waysC) :
    Ret Tryd.prog 27 [.agg #[g, fs], .int .i64 k] w0 fun v w' => ∃ x : Option Addr × Nat × List Int, v = .tuple #[.slice x.1 X.blocks.length x.2.1, .agg #[.int .i64 0, .int .i64 0]] ∧ Wd NoS w0 [Ent.vec x.1 X.blocks.length x.2.1 3 1 (x.2.2.map (.int .i64))] w' ∧ BestL X.blocks X.blocks.length x.2.2 := by
  classical
  have hg0 := hg
  have hf0 := hf
  obtain ⟨ga, gn, gc, gb, go, rfl, _⟩ := hg
  obtain ⟨fa, fn, fc, fb, fo, rfl, _⟩ := hf
  have hlx := hl.2 X (List.mem_of_getElem? hX)
  have h24 := hlx.1
  obtain ⟨bv, hbv, hfc⟩ := func_ok u hl k hgood _ _ X hX w0 hg0 hf0 hways
  have hbv0 := hbv
  obtain ⟨ba, n, bc, bb, bo', rfl, hn, hnc, hnb, hbc, hba, hel⟩ := hbv
  refine ret_enter Tryd.func27 rfl Tryd.ntmps27 rfl (Wd.nil NoS w0) ?_
  repeat (first | refine g_op rfl ?_ | refine g_then ?_ | refine g_nil ?_ | refine g_region ?_ | refine g_seq ?_ | refine g_box rfl fun _ _ => ?_ | refine g_alloc rfl fun _ _ => ?_)
  rename_i p2 _ p5 _
  refine g_callV rfl (fun w hw => hfc w hw.chg) ?_
  repeat (first | refine g_op rfl ?_ | refine g_then ?_ | refine g_nil ?_ | refine g_region ?_ | refine g_seq ?_ | refine g_alloc rfl fun _ _ => ?_ | refine g_storeAgg ?_ | refine g_skip ?_ | refine g_condF ?_)
  rename_i p6 _ p7 _
  refine g_callE (val := fun x : Nat × (Nat → Prop) × List Nat => .slice (some ⟨x.1, 0, none⟩) X.blocks.length X.blocks.length) (E := fun x => [⟨x.2.1, tabB x.1 X.blocks.length x.2.2 (sureRow X.blocks)⟩]) (φ := fun x => x.2.2.length = X.blocks.length) rfl (fun w hw => sure_c _ _ _ X.blocks _ w (hbv0.keep keeps_block hw.chg) (by omega) hok) fun x hps => ?_
  obtain ⟨po, fp, ps⟩ := x
  simp only at hps
  rw [← hn] at hps ⊢
  simp only [List.cons_append, List.nil_append]
  repeat (first | refine g_op rfl ?_ | refine g_then ?_ | refine g_nil ?_ | refine g_region ?_ | refine g_seq ?_ | refine g_block ?_)
  refine g_nilVec 3 1 ?_
  refine g_loop (fun (x : Option Addr × Nat × List Int) => x.2.2.length ≤ n ∧ BestL X.blocks x.2.2.length x.2.2) (fun x => [(28, .int .i64 x.2.2.length), (27, .int .i64 n), (9, .slice x.1 x.2.2.length x.2.1), (8, .slice (some ⟨po, 0, none⟩) n n), (6, .pointer (some ⟨p6, 0, none⟩)), (7, .pointer (some ⟨p7, 0, none⟩)), (5, .pointer (some ⟨p5, 0, none⟩))])
    (fun x => Ent.vec x.1 x.2.2.length x.2.1 3 1 (x.2.2.map (.int .i64)) :: [⟨fp, tabB po n ps (sureRow X.blocks)⟩, Ent.box p7 [.int .i64 0, .int .i64 0] 29, Ent.box p6 [.string X.name, .int .i64 X.params, .int .i64 X.regs, .slice ba n bc] 35, Ent.box p5 [.int .i64 0, .int .i64 0] 29]) (fun x => n - x.2.2.length) (none, 0, []) ⟨Nat.zero_le _, rfl, by simp⟩ (g_done (by repeat (first | exact trivial | refine ⟨rfl, ?_⟩)) (by simp)) fun x ⟨hi, hbest⟩ => ?_
  obtain ⟨oa, oc, l⟩ := x
  simp only at hi hbest ⊢
  repeat (first | refine g_op rfl ?_ | refine g_then ?_ | refine g_nil ?_ | refine g_region ?_ | refine g_seq ?_)
  refine g_cond (fun h1 => ?_) (fun h1 => ?_)
  · have hlt : l.length < n := by simpa using h1
    repeat (first | refine g_op rfl ?_ | refine g_then ?_ | refine g_nil ?_ | refine g_region ?_ | refine g_seq ?_ | refine g_block ?_ | refine g_skip ?_)
    refine g_loop (fun (x : Nat × Int) => x.1 ≤ n ∧ Best X.blocks l.length x.1 x.2) (fun x => [(34, .int .i64 x.1), (11, .int .i64 x.2), (33, .int .i64 n), (10, .int .i64 l.length), (28, .int .i64 l.length), (27, .int .i64 n), (9, .slice oa l.length oc), (8, .slice (some ⟨po, 0, none⟩) n n), (6, .pointer (some ⟨p6, 0, none⟩)), (7, .pointer (some ⟨p7, 0, none⟩)), (5, .pointer (some ⟨p5, 0, none⟩))]) (fun x => Ent.vec oa l.length oc 3 1 (l.map (.int .i64)) :: [⟨fp, tabB po n ps (sureRow X.blocks)⟩, Ent.box p7 [.int .i64 0, .int .i64 0] 29, Ent.box p6 [.string X.name, .int .i64 X.params, .int .i64 X.regs, .slice ba n bc] 35, Ent.box p5 [.int .i64 0, .int .i64 0] 29]) (fun x => n - x.1) (0, -1) ⟨Nat.zero_le _, best_zero _ _⟩ (g_done (by repeat (first | exact trivial | refine ⟨rfl, ?_⟩)) (List.Sublist.refl _)) fun x ⟨hj, hz⟩ => ?_
    obtain ⟨c, z⟩ := x
    simp only at hj hz ⊢
    have hzi := best_in hz (by omega)
    repeat (first | refine g_op rfl ?_ | refine g_then ?_ | refine g_nil ?_ | refine g_region ?_ | refine g_seq ?_)
    refine g_cond (fun h2 => ?_) (fun h2 => ?_)
    · have hclt : c < n := by simpa using h2
      have rowP : ∀ d e, d < n → e < n → ∃ pd, ps[d]? = some pd ∧ PackCell (tabB po n ps (sureRow X.blocks)) po (0 + d * 1) (.slice (some ⟨pd, 0, none⟩) n n) ∧ PackCell (tabB po n ps (sureRow X.blocks)) pd (0 + e * 1) (.bool (decide (Sure X.blocks d e))) := by
        intro d e hd he
        obtain ⟨pd, hpd⟩ : ∃ pd, ps[d]? = some pd := ⟨_, List.getElem?_eq_getElem (by omega)⟩
        exact ⟨pd, hpd, ⟨fun w hF => by have := (hF d pd hpd).1; simpa [valP] using this⟩, ⟨fun w hF => by have := (hF d pd hpd).2 e _ (sureRow_get (by omega)); simpa using this⟩⟩
      have hll : LtIs l.length n := ⟨hlt⟩
      have hlc : LtIs c n := ⟨hclt⟩
      repeat (first | refine g_op rfl ?_ | refine g_then ?_ | refine g_nil ?_ | refine g_region ?_ | refine g_seq ?_ | refine g_block ?_ | refine g_skip ?_)
      refine g_joinTo 61 (.bool (decide (TakeP X.blocks l.length c z))) ?_ ?_
      · by_cases e1 : c = l.length
        · rw [decide_eq_false (p := TakeP X.blocks l.length c z) (fun h => h.1 e1)]
          skip
          rw [show (!decide ((c : Int) = (l.length : Int))) = false by simp [e1]]
          repeat (first | refine g_op rfl ?_ | refine g_then ?_ | refine g_nil ?_ | refine g_pass rfl ?_ | refine g_passU rfl ?_)
          exact g_done (by repeat (first | exact trivial | refine ⟨rfl, ?_⟩)) (List.Sublist.refl _)
        · obtain ⟨pb, _, hk1, hk2⟩ := rowP l.length c hlt hclt
          by_cases e2 : Sure X.blocks l.length c
          · rw [decide_eq_true e2] at hk2
            by_cases e3 : z < 0
            · rw [decide_eq_true (p := TakeP X.blocks l.length c z) ⟨e1, e2, .inl e3⟩]
              skip
              rw [show (!decide ((c : Int) = (l.length : Int))) = true by simp; omega]
              repeat (first | refine g_op rfl ?_ | refine g_open ?_)
              rw [decide_eq_true e3]
              repeat (first | refine g_op rfl ?_ | refine g_then ?_ | refine g_nil ?_ | refine g_open ?_ | refine g_pass rfl ?_)
              exact g_done (by repeat (first | exact trivial | refine ⟨rfl, ?_⟩)) (List.Sublist.refl _)
            · obtain ⟨p, rfl, hp⟩ : ∃ p : Nat, z = p ∧ p < c := hzi.2.resolve_left (by omega)
              obtain ⟨pc, _, hk3, hk4⟩ := rowP c p hclt (by omega)
              have hlp : LtIs p n := ⟨by omega⟩
              rw [show decide (TakeP X.blocks l.length c (p : Int)) = decide (Sure X.blocks c p) by
                rw [decide_eq_decide]
                constructor
                · rintro ⟨_, _, h | ⟨q, hq, h⟩⟩
                  · omega
                  · have : p = q := by omega
                    exact this ▸ h
                · exact fun h => ⟨e1, e2, .inr ⟨p, rfl, h⟩⟩]
              skip
              rw [show (!decide ((c : Int) = (l.length : Int))) = true by simp; omega]
              repeat (first | refine g_op rfl ?_ | refine g_open ?_)
              rw [decide_eq_false e3]
              repeat (first | refine g_op rfl ?_ | refine g_then ?_ | refine g_nil ?_)
              exact g_done (by repeat (first | exact trivial | refine ⟨rfl, ?_⟩)) (List.Sublist.refl _)
          · rw [decide_eq_false e2] at hk2
            rw [decide_eq_false (p := TakeP X.blocks l.length c z) (fun h => e2 h.2.1)]
            skip
            rw [show (!decide ((c : Int) = (l.length : Int))) = true by simp; omega]
            repeat (first | refine g_op rfl ?_ | refine g_then ?_ | refine g_nil ?_ | refine g_open ?_ | refine g_pass rfl ?_ | refine g_passU rfl ?_)
            exact g_done (by repeat (first | exact trivial | refine ⟨rfl, ?_⟩)) (List.Sublist.refl _)
      generalize ho : decide (TakeP X.blocks l.length c z) = o
      cases o
      · rw [decide_eq_false_iff_not] at ho
        repeat (first | refine g_then ?_ | refine g_nil ?_ | refine g_region ?_ | refine g_opS rfl ?_ | refine g_inBlock ?_ | refine g_skip ?_ | refine g_condF ?_ | refine g_add rfl (by omega) (by omega) ?_)
        refine g_next (c + 1, z) ⟨hclt, best_stay hz ?_⟩ (by simp only; omega) (by repeat (first | exact trivial | refine ⟨rfl, ?_⟩)) (List.Sublist.refl _)
        by_cases e1 : c = l.length
        · exact .inl e1
        · by_cases e2 : Sure X.blocks l.length c
          · refine .inr (.inr ?_)
            rcases hzi.2 with e3 | ⟨p, rfl, _⟩
            · exact absurd ⟨e1, e2, .inl (by omega)⟩ ho
            · exact ⟨p, rfl, fun h => ho ⟨e1, e2, .inr ⟨p, rfl, h⟩⟩⟩
          · exact .inr (.inl e2)
      · rw [decide_eq_true_eq] at ho
        repeat (first | refine g_op rfl ?_ | refine g_then ?_ | refine g_nil ?_ | refine g_region ?_ | refine g_opS rfl ?_ | refine g_inBlock ?_ | refine g_condT ?_ | refine g_add rfl (by omega) (by omega) ?_)
        exact g_next (c + 1, (c : Int)) ⟨hclt, best_take hz ho.1 ho.2.1 ho.2.2⟩ (by simp only; omega) (by repeat (first | exact trivial | refine ⟨rfl, ?_⟩)) (List.Sublist.refl _)
    · have hge : c = n := by have := h2; simp at this; omega
      repeat (first | refine g_op rfl ?_ | refine g_then ?_ | refine g_region ?_ | refine g_exit ?_ | refine g_thenExit ?_ | refine g_exitHere ?_ | refine g_build1 rfl rfl fun _ _ => ?_)
      refine g_append rfl rfl (by omega) (by omega) fun a' c' => ?_
      rw [show l.map (Value.int .i64) ++ [.int .i64 z] = (l ++ [z]).map (.int .i64) by simp, show l.length + 1 = (l ++ [z]).length by simp]
      repeat (first | refine g_then ?_ | refine g_nil ?_ | refine g_region ?_ | refine g_opS rfl ?_ | refine g_inBlock ?_ | refine g_add rfl (by omega) (by omega) ?_)
      refine g_next (a', c', l ++ [z]) ⟨by simp; omega, bestL_add hbest (by rw [← hn, ← hge]; exact hz)⟩ (by simp; omega) ?_ (List.Sublist.cons _ (List.Sublist.refl _))
      simp only [List.length_append, List.length_singleton, Int.natCast_add]
      exact (by repeat (first | exact trivial | refine ⟨rfl, ?_⟩))
  · have hge : l.length = n := by have := h1; simp at this; omega
    repeat (first | refine g_then ?_ | refine g_seq ?_ | refine g_exit ?_ | refine g_thenExit ?_ | refine g_exitHere ?_)
    refine g_drawW [(4, .slice oa l.length oc), (5, .pointer (some ⟨p5, 0, none⟩))] [Ent.vec oa l.length oc 3 1 (l.map (.int .i64)), Ent.box p5 [.int .i64 0, .int .i64 0] 29] mixed ?_ ?_
    · repeat' (first | refine g_any0 (by decide +kernel) ?_ | refine g_any (by decide +kernel) ?_ | refine any_nil | refine any_skip (by decide +kernel) ?_ | refine any_cons ?_ ?_ | refine g_op rfl ?_ | refine g_then ?_ | refine g_nil ?_ | refine g_storeAgg ?_)
      all_goals exact g_done (by repeat (first | exact trivial | refine ⟨rfl, ?_⟩)) (List.Sublist.cons_cons _ (List.Sublist.cons _ (List.Sublist.cons _ (List.Sublist.cons _ (List.Sublist.refl _)))))
    · repeat (first | refine g_then ?_ | refine g_ret ?_)
      refine g_retTC rfl fun w hw => ⟨(oa, oc, l), ?_, ?_, ?_⟩
      · rw [hge]
      · rw [← hge]
        exact hw.sub (List.Sublist.cons_cons _ (List.nil_sublist _))
      · rw [← hge]; exact hbest
end Go.Proofs.YtebajiafdkokjaaDoor

/- graph.OrderOf, graph.Order, turneryref3.Walk and Order; the law GraphOrders, walked. -/
namespace Go.Proofs.YtebajiafdkokjaaDoor
open Go Go.RowKit
attribute [local irreducible] wpListIn Code.wpIn Exit.then Exit.inBlock bodyPost wpQuiet wpAnyIn
set_option maxHeartbeats 4000000

theorem orderOf_c (nm pa re : Value) (bl : List LBlock) (bs : Value) (hbsl : ∃ a n c, bs = .slice a n c) (w0 : World) (hbs : SlAt w0 bs 6 bl BlockV) (hlen : bl.length ≤ 100) (hok : GoodB bl) (hpos : 0 < bl.length) :
    Ret Tryd.prog 48 [.agg #[nm, pa, re, bs]] w0 fun u w' => ∃ x : Option Addr × Nat, u = .slice x.1 (postL bl).length x.2 ∧ Wd NoS w0 [Ent.vec x.1 (postL bl).length x.2 3 1 ((postL bl).reverse.map intN)] w' ∧ True := by
  obtain ⟨ba, n, bc, rfl⟩ := hbsl
  have hl := postL_len hpos
  refine ret_enter Tryd.func48 rfl Tryd.ntmps48 rfl (Wd.nil NoS w0) ?_
  repeat (first | refine g_op rfl ?_ | refine g_then ?_ | refine g_nil ?_ | refine g_region ?_ | refine g_seq ?_ | refine g_box rfl fun _ _ => ?_)
  refine g_callE (val := fun x : Option Addr × Nat => .slice x.1 (postL bl).length x.2) (E := fun x => [Ent.vec x.1 (postL bl).length x.2 3 1 ((postL bl).map intN)]) (φ := fun _ => True) rfl (fun w hw => graphPost_c _ _ _ bl _ w (hbs.keep keeps_block hw.chg) hlen hok hpos) fun x _ => ?_
  obtain ⟨xa, xc⟩ := x
  simp only
  repeat (first | refine g_op rfl ?_ | refine g_then ?_ | refine g_nil ?_ | refine g_region ?_ | refine g_seq ?_)
  refine g_callS (val := fun _ : Unit => .tuple #[]) (E := fun _ => [Ent.vec xa (postL bl).length xc 3 1 ((postL bl).reverse.map intN)]) (φ := fun _ => True) rfl (fun w hw => reverse_c xa xc (postL bl) (by omega) w hw.pre) fun _ _ => ?_
  simp only [List.cons_append, List.nil_append]
  repeat (first | refine g_op rfl ?_ | refine g_then ?_ | refine g_nil ?_ | refine g_region ?_ | refine g_seq ?_ | refine g_opS rfl ?_ | refine g_ret ?_)
  exact g_ret1 rfl fun w hw => ⟨(xa, xc), rfl, hw.sel [0] (by decide), trivial⟩
theorem order_bad (u : LUnit) (hl : light u) (k : Int) (hk : inI k) (hbad : (askedL u k).1 ≠ 0) (g fs : Value) (w0 : World) (hg : SlAt w0 g 3 u.globals GlobalV) (hf : SlAt w0 fs 4 u.funcs FuncV) (hways : CellsAt w0 0 0 waysC) :
    RetV Tryd.prog 21 [.agg #[g, fs], .int .i64 k] w0 (.tuple #[.slice none 0 0, .agg #[.int .i64 (askedL u k).1, .int .i64 (askedL u k).2]]) := by
  have hg0 := hg
  have hf0 := hf
  obtain ⟨ga, gn, gc, gb, go, rfl, _⟩ := hg
  obtain ⟨fa, fn, fc, fb, fo, rfl, _⟩ := hf
  refine ret_enter Tryd.func21 rfl Tryd.ntmps21 rfl (Wd.nil NoS w0) ?_
  repeat (first | refine g_op rfl ?_ | refine g_then ?_ | refine g_nil ?_ | refine g_region ?_ | refine g_seq ?_ | refine g_box rfl fun _ _ => ?_ | refine g_alloc rfl fun _ _ => ?_)
  rename_i p2 _ p5 _
  refine g_callV rfl (fun w hw => func_bad u hl k hk hbad _ _ w (hg0.keep keeps_global hw.chg) (hf0.keep keeps_func hw.chg) (hways.keep hw.chg)) ?_
  unfold zeroFn
  repeat (first | refine g_op rfl ?_ | refine g_then ?_ | refine g_nil ?_ | refine g_region ?_ | refine g_seq ?_ | refine g_alloc rfl fun _ _ => ?_ | refine g_storeAgg ?_)
  rename_i p6 _ p7 _
  refine g_cond (fun h1 => ?_) (fun h1 => ?_)
  · repeat (refine g_seq ?_)
    refine g_drawW [(4, .slice none 0 0), (5, .pointer (some ⟨p5, 0, none⟩))] [Ent.box p5 [.int .i64 (askedL u k).1, .int .i64 (askedL u k).2] 29] mixed ?_ ?_
    · repeat' (first | refine g_any0 (by decide +kernel) ?_ | refine g_any (by decide +kernel) ?_ | refine any_nil | refine any_skip (by decide +kernel) ?_ | refine any_cons ?_ ?_ | refine g_op rfl ?_ | refine g_then ?_ | refine g_nil ?_ | refine g_opS rfl ?_ | refine g_storeAgg ?_)
      all_goals exact g_done (by repeat (first | exact trivial | refine ⟨rfl, ?_⟩)) (by simp)
    · repeat (first | refine g_then ?_ | refine g_ret ?_ | refine g_thenRet ?_)
      exact g_retTC rfl fun _ hw => ⟨rfl, hw.chg⟩
  · exact absurd h1 (by simp [hbad])
theorem order_ok (u : LUnit) (hl : light u) (k : Nat) (hgood : (askedL u k).1 = 0) (X : LFunc) (hX : u.funcs[k]? = some X) (hok : GoodB X.blocks) (hpos : 0 < X.blocks.length) (g fs : Value) (w0 : World) (hg : SlAt w0 g 3 u.globals GlobalV) (hf : SlAt w0 fs 4 u.funcs FuncV) (hways : CellsAt w0 0 0 waysC) :
    Ret Tryd.prog 21 [.agg #[g, fs], .int .i64 k] w0 fun v w' => ∃ x : Option Addr × Nat, v = .tuple #[.slice x.1 (postL X.blocks).length x.2, .agg #[.int .i64 0, .int .i64 0]] ∧ Wd NoS w0 [Ent.vec x.1 (postL X.blocks).length x.2 3 1 ((postL X.blocks).reverse.map intN)] w' ∧ True := by
  classical
  have hg0 := hg
  have hf0 := hf
  obtain ⟨ga, gn, gc, gb, go, rfl, _⟩ := hg
  obtain ⟨fa, fn, fc, fb, fo, rfl, _⟩ := hf
  have hlx := hl.2 X (List.mem_of_getElem? hX)
  have h24 := hlx.1
  obtain ⟨bv, hbv, hfc⟩ := func_ok u hl k hgood _ _ X hX w0 hg0 hf0 hways
  have hbv0 := hbv
  obtain ⟨ba, n, bc, bb, bo', rfl, hn, hnc, hnb, hbc, hba, hel⟩ := hbv
  refine ret_enter Tryd.func21 rfl Tryd.ntmps21 rfl (Wd.nil NoS w0) ?_
  repeat (first | refine g_op rfl ?_ | refine g_then ?_ | refine g_nil ?_ | refine g_region ?_ | refine g_seq ?_ | refine g_box rfl fun _ _ => ?_ | refine g_alloc rfl fun _ _ => ?_)
  rename_i p2 _ p5 _
  refine g_callV rfl (fun w hw => hfc w hw.chg) ?_
  repeat (first | refine g_op rfl ?_ | refine g_then ?_ | refine g_nil ?_ | refine g_region ?_ | refine g_seq ?_ | refine g_alloc rfl fun _ _ => ?_ | refine g_storeAgg ?_ | refine g_skip ?_ | refine g_condF ?_)
  rename_i p6 _ p7 _
  refine g_drawE (fun z : Option Addr × Nat => [(4, .slice z.1 (postL X.blocks).length z.2), (5, .pointer (some ⟨p5, 0, none⟩))]) (fun z => [Ent.vec z.1 (postL X.blocks).length z.2 3 1 ((postL X.blocks).reverse.map intN), Ent.box p5 [.int .i64 0, .int .i64 0] 29]) mixed ?_ fun z => ?_
  · repeat' (first | refine g_any (by decide +kernel) ?_ | refine any_nil | refine any_skip (by decide +kernel) ?_ | refine any_cons ?_ ?_ | refine g_op rfl ?_ | refine g_then ?_ | refine g_nil ?_)
    all_goals
      refine g_callE (val := fun x : Option Addr × Nat => .slice x.1 (postL X.blocks).length x.2) (E := fun x => [Ent.vec x.1 (postL X.blocks).length x.2 3 1 ((postL X.blocks).reverse.map intN)]) (φ := fun _ => True) rfl (fun w hw => orderOf_c _ _ _ X.blocks _ ⟨_, _, _, rfl⟩ w (hbv0.keep keeps_block hw.chg) (by omega) hok hpos) fun x _ => ?_
      obtain ⟨xa, xc⟩ := x
      simp only [List.cons_append, List.nil_append]
      repeat' (first | refine g_any0 (by decide +kernel) ?_ | refine g_any (by decide +kernel) ?_ | refine any_nil | refine any_skip (by decide +kernel) ?_ | refine any_cons ?_ ?_ | refine g_op rfl ?_ | refine g_then ?_ | refine g_nil ?_ | refine g_opS rfl ?_ | refine g_storeAgg ?_)
      all_goals exact g_doneE (xa, xc) (by repeat (first | exact trivial | refine ⟨rfl, ?_⟩)) (by simp)
  · repeat (first | refine g_then ?_ | refine g_ret ?_)
    exact g_retTC rfl fun w hw => ⟨z, rfl, hw.sel [0] (by decide), trivial⟩

/-- the list holds what is marked -/
def Rel (n : Nat) (sn : List Bool) (s : List Nat) : Prop := (∀ x ∈ s, x < n) ∧ ∀ x : Nat, x < n → (sn[x]? = some true ↔ x ∈ s)
theorem Rel.add {n b : Nat} {sn : List Bool} {s : List Nat} (h : Rel n sn s) (hl : sn.length = n) (hb : b < n) : Rel n (sn.set b true) (s ++ [b]) := by
  refine ⟨fun x hx => ?_, fun x hx => ?_⟩
  · rcases List.mem_append.1 hx with hx | hx
    · exact h.1 x hx
    · simp only [List.mem_singleton] at hx; omega
  · rw [List.getElem?_set, List.mem_append, List.mem_singleton]
    by_cases e : b = x
    · subst e
      rw [if_pos rfl, if_pos (by omega)]; simp
    · rw [if_neg e, h.2 x hx]
      exact ⟨.inl, fun h => h.resolve_right fun h => e h.symm⟩
theorem inIs {l : List Nat} (h : ∀ x ∈ l, x ≤ 100000) : ∀ x ∈ l.map (fun x : Nat => (x : Int)), inI x := fun x hx => by
  obtain ⟨y, hy, rfl⟩ := List.mem_map.1 hx
  have := h y hy
  simp only [inI]; omega
theorem map_intN (l : List Nat) : (l.map (fun x : Nat => (x : Int))).map (Value.int .i64) = l.map intN := by rw [List.map_map]; rfl
theorem nilInts (w : World) : SlAt w (.slice none 0 0) 1 (([] : List Nat).map (fun x : Nat => (x : Int))) IntV := ⟨none, 0, 0, 0, 0, rfl, rfl, Nat.le_refl _, by omega, by omega, by simp, by simp⟩
/-- the list of those that were left: as it was handed in, or one of the call's own -/
def leftE (own : Bool) (a : Option Addr) (c : Nat) (l : List Nat) : List Ent := if own then [Ent.vec a l.length c 3 1 (l.map intN)] else []
theorem walk_c (nm pa re : Value) (bl : List LBlock) (ba : Option Addr) (n bc : Nat) (hlen : bl.length ≤ 100) (hok : GoodB bl) :
    ∀ (f b : Nat) (st : List Bool × List Nat) (s : List Nat), st.1.length = n → st.1[b]? = some false → unseen st.1 ≤ f → st.2.length + unseen st.1 ≤ n → s.length + unseen st.1 ≤ n → Rel n st.1 s → (∀ x ∈ st.2, x < n) → ∀ (sa la : Option Addr) (sc lc : Nat) (w : World), SlAt w (.slice ba n bc) 6 bl BlockV →
    SlAt w (.slice sa s.length sc) 1 (s.map fun x : Nat => (x : Int)) IntV → SlAt w (.slice la st.2.length lc) 1 (st.2.map fun x : Nat => (x : Int)) IntV →
    Ret Tryd.prog 49 [.agg #[nm, pa, re, .slice ba n bc], .int .i64 b, .slice sa s.length sc, .slice la st.2.length lc] w fun u w' => ∃ x : List Nat × (Option Addr × Nat) × (Option Addr × Nat), u = .tuple #[.slice x.2.1.1 x.1.length x.2.1.2, .slice x.2.2.1 (dfs bl f b st).2.length x.2.2.2] ∧
      Wd NoS w [Ent.vec x.2.1.1 x.1.length x.2.1.2 3 1 (x.1.map intN), Ent.vec x.2.2.1 (dfs bl f b st).2.length x.2.2.2 3 1 ((dfs bl f b st).2.map intN)] w' ∧ (Rel n (dfs bl f b st).1 x.1 ∧ x.1.length + unseen (dfs bl f b st).1 ≤ n ∧ ∀ y ∈ (dfs bl f b st).2, y < n) := by
  intro f
  induction f with
  | zero => intro b st s _ hb hu; have := unseen_pos hb; omega
  | succ f ih =>
    rintro b ⟨sn0, lf0⟩ s0 hl hb hu hle hles hrel hlf sa la sc lc w hbs hss hls
    simp only at hl hb hu hle hles hrel hlf hls
    have hbs0 := hbs
    obtain ⟨ba, n, bc, bb, bo', hv, hn, hnc, hnb, hbc, hba, hel⟩ := hbs
    simp only [Value.slice.injEq] at hv
    obtain ⟨rfl, rfl, rfl⟩ := hv
    have hus := unseen_set hb
    have hbn : b < n := by have := (List.getElem?_eq_some_iff.1 hb).1; omega
    obtain ⟨B, hB⟩ := get_lt hn hbn
    have had : AddrIs ba bb bo' := ⟨hba (ne_of_get hB)⟩
    have hli : LtIs b n := ⟨hbn⟩
    obtain ⟨cs, hcs, pv', lv, tv, rfl, _, _, hphis, hlist, ht⟩ := hel b B hB
    have ht0 := ht
    obtain ⟨ta, tn, tc, tb, to', rfl, htn, htnc, htnb, htc, hta, htel⟩ := ht
    have hci : CellsIs w bb (bo' + b * 6) _ := ⟨hcs⟩
    have hBok := hok B (List.mem_of_getElem? hB)
    have htn2 : tn ≤ 2 := by rw [htn]; exact hBok.1
    refine ret_enter Tryd.func49 rfl Tryd.ntmps49 rfl (Wd.nil NoS w) ?_
    repeat (first | refine g_op rfl ?_ | refine g_then ?_ | refine g_nil ?_ | refine g_region ?_ | refine g_seq ?_ | refine g_box rfl fun _ _ => ?_)
    rename_i p4 _
    refine g_build0 rfl fun eb _ => ?_
    repeat (refine g_op rfl ?_)
    refine g_appendI rfl (s0.map fun x : Nat => (x : Int)) (fun w hw => hss.keep keeps_int hw.chg) (by omega) (by omega) fun a1 c1 => ?_
    rw [List.nil_append, map_intN, Nat.zero_add]
    repeat (first | refine g_op rfl ?_ | refine g_build1 rfl rfl fun _ _ => ?_)
    refine g_append rfl rfl (by omega) (by omega) fun a2 c2 => ?_
    rw [show s0.map intN ++ [.int .i64 (b : Int)] = (s0 ++ [b]).map intN by simp [intN], show s0.length + 1 = (s0 ++ [b]).length by simp]
    repeat (first | refine g_op rfl ?_ | refine g_then ?_ | refine g_nil ?_ | refine g_region ?_ | refine g_seq ?_ | refine g_opS rfl ?_ | refine g_block ?_ | refine g_sub rfl (by omega) (by omega) ?_)
    refine g_loop (fun (x : Nat × ((List Bool × List Nat) × List Nat) × Bool × (Option Addr × Nat) × (Option Addr × Nat)) => x.1 ≤ tn ∧ x.2.1.1 = (((toOf bl b).reverse.map Int.toNat).take (tn - x.1)).foldl (vstep bl f) (sn0.set b true, lf0) ∧ Rel n x.2.1.1.1 x.2.1.2 ∧ x.2.1.2.length + unseen x.2.1.1.1 ≤ n ∧ (∀ y ∈ x.2.1.1.2, y < n) ∧ (x.2.2.1 = false → x.2.1.1.2 = lf0 ∧ x.2.2.2.2 = (la, lc)))
      (fun x => [(11, .int .i64 ((x.1 : Int) - 1)), (2, .slice x.2.2.2.1.1 x.2.1.2.length x.2.2.2.1.2), (3, .slice x.2.2.2.2.1 x.2.1.1.2.length x.2.2.2.2.2), (10, .slice ta tn tc), (4, .pointer (some ⟨p4, 0, none⟩)), (1, .int .i64 b)])
      (fun x => Ent.vec x.2.2.2.1.1 x.2.1.2.length x.2.2.2.1.2 3 1 (x.2.1.2.map intN) :: Ent.box p4 [nm, pa, re, .slice ba n bc] 35 :: leftE x.2.2.1 x.2.2.2.2.1 x.2.2.2.2.2 x.2.1.1.2) (fun x => x.1) (tn, ((sn0.set b true, lf0), s0 ++ [b]), false, (a2, c2), (la, lc))
      ⟨Nat.le_refl _, by simp, hrel.add hl hbn, by simp only [List.length_append, List.length_singleton]; omega, hlf, fun _ => ⟨rfl, rfl⟩⟩ (g_done (by repeat (first | exact trivial | refine ⟨rfl, ?_⟩)) (List.Sublist.cons _ (List.Sublist.refl _))) fun x ⟨hm, hst, hrel', hsl, hlfn, hown⟩ => ?_
    obtain ⟨m, ⟨⟨sn, lf⟩, s'⟩, own, ⟨sa', sc'⟩, ⟨la', lc'⟩⟩ := x
    simp only at hm hst hrel' hsl hlfn hown ⊢
    have hg := vsteps_grows bl f (sn0.set b true, lf0) (((toOf bl b).reverse.map Int.toNat).take (tn - m))
    rw [← hst] at hg
    have hg1 := hg.1
    have hg3 := hg.2.2.1
    have hg4 := hg.2.2.2
    simp only [List.length_set] at hg1 hg3 hg4
    have hleft : ∀ w', Wd NoS w (Ent.vec sa' s'.length sc' 3 1 (s'.map intN) :: Ent.box p4 [nm, pa, re, .slice ba n bc] 35 :: leftE own la' lc' lf) w' → SlAt w' (.slice la' lf.length lc') 1 (lf.map fun x : Nat => (x : Int)) IntV := by
      intro w' hw'
      cases own
      · obtain ⟨rfl, h2⟩ := hown rfl
        simp only [Prod.mk.injEq] at h2
        obtain ⟨rfl, rfl⟩ := h2
        exact hls.keep keeps_int hw'.chg
      · exact ints_sl hw' (k := 2) rfl rfl (by omega) fun y hy => by have := hlfn y hy; omega
    repeat (first | refine g_op rfl ?_ | refine g_then ?_ | refine g_nil ?_ | refine g_region ?_ | refine g_seq ?_)
    refine g_cond (fun h1 => ?_) (fun h1 => ?_)
    · obtain ⟨m, rfl⟩ : ∃ m', m = m' + 1 := ⟨m - 1, by simp at h1; omega⟩
      rw [show (((m + 1 : Nat) : Int) - 1) = (m : Int) by omega]
      obtain ⟨t, htj⟩ := get_lt htn (show m < tn by omega)
      have htt := hBok.2 t (List.mem_of_getElem? htj)
      obtain ⟨k, hk⟩ : ∃ k : Nat, t = k := ⟨t.toNat, by omega⟩
      have hkn : k < n := by omega
      have had2 : AddrIs ta tb to' := ⟨hta (ne_of_get htj)⟩
      have hli2 : LtIs m tn := ⟨by omega⟩
      obtain ⟨cs2, hcs2, rfl, _⟩ := htel m t htj
      have hci2 : CellsIs w tb (to' + m * 1) _ := ⟨hcs2⟩
      have hstep : (((toOf bl b).reverse.map Int.toNat).take (tn - m)).foldl (vstep bl f) (sn0.set b true, lf0) = vstep bl f (sn, lf) k := by
        rw [show tn - m = (tn - (m + 1)) + 1 by omega, List.take_add_one, List.foldl_append, ← hst]
        have : ((toOf bl b).reverse.map Int.toNat)[tn - (m + 1)]? = some k := by
          rw [List.getElem?_map, toOf_get hB, List.getElem?_reverse (by omega), ← htn, show tn - 1 - (tn - (m + 1)) = m by omega, htj, hk]; rfl
        rw [this]; rfl
      repeat (first | refine g_op rfl ?_ | refine g_then ?_ | refine g_region ?_ | refine g_seq ?_ | refine g_block ?_ | refine g_skip ?_)
      refine g_callV rfl (fun w hw => has_c _ (s'.map (fun x : Nat => (x : Int))) t w (ints_sl hw (k := 0) rfl rfl (by omega) fun y hy => by have := hrel'.1 y hy; omega)) ?_
      rw [show decide (t ∈ s'.map (fun x : Nat => (x : Int))) = decide (k ∈ s') by rw [decide_eq_decide, hk]; exact mem_ints]
      by_cases hks : k ∈ s'
      · rw [decide_eq_true hks]
        have hv : vstep bl f (sn, lf) k = (sn, lf) := by unfold vstep; rw [if_pos (by rw [(hrel'.2 k hkn).2 hks]; rfl)]
        rw [hv] at hstep
        repeat (first | refine g_op rfl ?_ | refine g_then ?_ | refine g_nil ?_ | refine g_region ?_ | refine g_opS rfl ?_ | refine g_inBlock ?_ | refine g_skip ?_ | refine g_condF ?_ | refine g_sub rfl (by omega) (by omega) ?_)
        exact g_next (m, ((sn, lf), s'), own, (sa', sc'), (la', lc')) ⟨by simp only; omega, hstep.symm, hrel', hsl, hlfn, hown⟩ (by simp only; omega) (by repeat (first | exact trivial | refine ⟨rfl, ?_⟩)) (List.Sublist.refl _)
      · rw [decide_eq_false hks]
        have hkf : sn[k]? = some false := by
          obtain ⟨v, hv⟩ : ∃ v, sn[k]? = some v := ⟨_, List.getElem?_eq_getElem (by omega)⟩
          cases v
          · exact hv
          · exact absurd ((hrel'.2 k hkn).1 hv) hks
        have hv : vstep bl f (sn, lf) k = dfs bl f k (sn, lf) := by unfold vstep; rw [if_neg (by rw [hkf]; simp)]
        rw [hv] at hstep
        repeat (first | refine g_op rfl ?_ | refine g_then ?_ | refine g_nil ?_ | refine g_condT ?_)
        refine g_drawE (fun z : { z : List Nat × (Option Addr × Nat) × (Option Addr × Nat) // Rel n (dfs bl f k (sn, lf)).1 z.1 ∧ z.1.length + unseen (dfs bl f k (sn, lf)).1 ≤ n ∧ ∀ y ∈ (dfs bl f k (sn, lf)).2, y < n } => [(11, .int .i64 (m : Int)), (2, .slice z.1.2.1.1 z.1.1.length z.1.2.1.2), (3, .slice z.1.2.2.1 (dfs bl f k (sn, lf)).2.length z.1.2.2.2), (10, .slice ta tn tc), (4, .pointer (some ⟨p4, 0, none⟩)), (1, .int .i64 b)])
          (fun z => [Ent.vec z.1.2.1.1 z.1.1.length z.1.2.1.2 3 1 (z.1.1.map intN), Ent.vec z.1.2.2.1 (dfs bl f k (sn, lf)).2.length z.1.2.2.2 3 1 ((dfs bl f k (sn, lf)).2.map intN), Ent.box p4 [nm, pa, re, .slice ba n bc] 35]) mixed ?_ fun z => ?_
        · repeat' (first | refine g_take 1 rfl (by decide +kernel) ?_ | refine g_take 2 rfl (by decide +kernel) ?_ | refine g_take 3 rfl (by decide +kernel) ?_ | refine g_take 5 rfl (by decide +kernel) ?_ | refine g_take 6 rfl (by decide +kernel) ?_ | refine g_any (by decide +kernel) ?_ | refine any_nil | refine any_skip (by decide +kernel) ?_ | refine any_cons ?_ ?_ | refine g_op rfl ?_ | refine g_then ?_ | refine g_nil ?_)
          all_goals
            rw [hk]
            refine g_callE (val := fun x : List Nat × (Option Addr × Nat) × (Option Addr × Nat) => .tuple #[.slice x.2.1.1 x.1.length x.2.1.2, .slice x.2.2.1 (dfs bl f k (sn, lf)).2.length x.2.2.2]) (E := fun x => [Ent.vec x.2.1.1 x.1.length x.2.1.2 3 1 (x.1.map intN), Ent.vec x.2.2.1 (dfs bl f k (sn, lf)).2.length x.2.2.2 3 1 ((dfs bl f k (sn, lf)).2.map intN)])
              (φ := fun x => Rel n (dfs bl f k (sn, lf)).1 x.1 ∧ x.1.length + unseen (dfs bl f k (sn, lf)).1 ≤ n ∧ ∀ y ∈ (dfs bl f k (sn, lf)).2, y < n) rfl
              (fun w1 hw => ih k (sn, lf) s' (by simp only; omega) hkf (by simp only; omega) (by simp only; omega) hsl hrel' hlfn sa' la' sc' lc' w1 (hbs0.keep keeps_block hw.chg) (ints_sl hw (k := 0) rfl rfl (by omega) fun y hy => by have := hrel'.1 y hy; omega) (hleft w1 hw)) fun x hx => ?_
            obtain ⟨s2, ⟨x1, x2⟩, ⟨y1, y2⟩⟩ := x
            simp only [List.cons_append, List.nil_append] at hx ⊢
            repeat' (first | refine g_take 8 rfl (by decide +kernel) ?_ | refine g_take 9 rfl (by decide +kernel) ?_ | refine g_take 10 rfl (by decide +kernel) ?_ | refine g_any0 (by decide +kernel) ?_ | refine g_any (by decide +kernel) ?_ | refine any_nil | refine any_skip (by decide +kernel) ?_ | refine any_cons ?_ ?_ | refine g_then ?_ | refine g_nil ?_ | refine g_opS rfl ?_)
            all_goals exact g_doneE ⟨(s2, (x1, x2), (y1, y2)), hx⟩ (by repeat (first | exact trivial | refine ⟨rfl, ?_⟩)) (List.Sublist.cons_cons _ (List.Sublist.cons_cons _ (List.Sublist.cons _ (List.Sublist.cons_cons _ (List.nil_sublist _)))))
        · obtain ⟨⟨s2, ⟨x1, x2⟩, ⟨y1, y2⟩⟩, hz1, hz2, hz3⟩ := z
          simp only at hz1 hz2 hz3 ⊢
          repeat (first | refine g_op rfl ?_ | refine g_then ?_ | refine g_nil ?_ | refine g_region ?_ | refine g_opS rfl ?_ | refine g_inBlock ?_ | refine g_sub rfl (by omega) (by omega) ?_)
          refine g_sel [0, 2, 1] (by decide) ?_
          exact g_next (m, (dfs bl f k (sn, lf), s2), true, (x1, x2), (y1, y2)) ⟨by simp only; omega, hstep.symm, hz1, hz2, hz3, by simp⟩ (by simp only; omega) (by repeat (first | exact trivial | refine ⟨rfl, ?_⟩)) (List.Sublist.refl _)
    · have hm0 : m = 0 := by simp at h1; omega
      subst hm0
      rw [Nat.sub_zero, List.take_of_length_le (by rw [List.length_map, List.length_reverse, toOf_get hB]; omega)] at hst
      have hd : dfs bl (f + 1) b (sn0, lf0) = (sn, lf ++ [b]) := by rw [dfs_succ]; simp only; rw [← hst]
      repeat (first | refine g_op rfl ?_ | refine g_then ?_ | refine g_region ?_ | refine g_seq ?_ | refine g_exit ?_ | refine g_thenExit ?_ | refine g_exitHere ?_)
      refine g_build0 rfl fun eb2 _ => ?_
      repeat (refine g_op rfl ?_)
      refine g_appendI rfl (lf.map fun x : Nat => (x : Int)) (fun w' hw' => hleft w' (hw'.sub (List.sublist_cons_self _ _))) (by omega) (by omega) fun a3 c3 => ?_
      rw [List.nil_append, map_intN, Nat.zero_add]
      repeat (first | refine g_op rfl ?_ | refine g_build1 rfl rfl fun _ _ => ?_)
      refine g_append rfl rfl (by omega) (by omega) fun a4 c4 => ?_
      rw [show lf.map intN ++ [.int .i64 (b : Int)] = (lf ++ [b]).map intN by simp [intN], show lf.length + 1 = (lf ++ [b]).length by simp]
      repeat (first | refine g_op rfl ?_ | refine g_then ?_ | refine g_nil ?_ | refine g_ret ?_)
      rw [hd]
      refine g_ret2 rfl fun w' hw' => ⟨(s', (sa', sc'), (a4, c4)), rfl, hw'.sel [2, 1] (by decide), hrel', hsl, fun y hy => ?_⟩
      rcases List.mem_append.1 hy with hy | hy
      · exact hlfn y hy
      · simp only [List.mem_singleton] at hy; omega
theorem refOrder_c (nm pa re : Value) (bl : List LBlock) (bs : Value) (hbsl : ∃ a n c, bs = .slice a n c) (w0 : World) (hbs : SlAt w0 bs 6 bl BlockV) (hlen : bl.length ≤ 100) (hok : GoodB bl) (hpos : 0 < bl.length) :
    Ret Tryd.prog 23 [.agg #[nm, pa, re, bs]] w0 fun u w' => ∃ x : Option Addr × Nat, u = .slice x.1 (postL bl).length x.2 ∧ Wd NoS w0 [Ent.vec x.1 (postL bl).length x.2 3 1 ((postL bl).reverse.map intN)] w' ∧ True := by
  obtain ⟨ba, n, bc, rfl⟩ := hbsl
  have hn : n = bl.length := by
    obtain ⟨_, _, _, _, _, e, h, _⟩ := hbs
    simp only [Value.slice.injEq] at e
    rw [e.2.1]; exact h
  have hl := postL_len hpos
  have hb0 : (List.replicate bl.length false)[0]? = some false := by rw [List.getElem?_replicate, if_pos hpos]
  refine ret_enter Tryd.func23 rfl Tryd.ntmps23 rfl (Wd.nil NoS w0) ?_
  repeat (first | refine g_op rfl ?_ | refine g_then ?_ | refine g_nil ?_ | refine g_region ?_ | refine g_seq ?_ | refine g_box rfl fun _ _ => ?_)
  rename_i p1 _
  refine g_callE (val := fun x : List Nat × (Option Addr × Nat) × (Option Addr × Nat) => .tuple #[.slice x.2.1.1 x.1.length x.2.1.2, .slice x.2.2.1 (postL bl).length x.2.2.2]) (E := fun x => [Ent.vec x.2.1.1 x.1.length x.2.1.2 3 1 (x.1.map intN), Ent.vec x.2.2.1 (postL bl).length x.2.2.2 3 1 ((postL bl).map intN)]) (φ := fun _ => True) rfl
    (fun w hw => (walk_c nm pa re bl ba n bc hlen hok bl.length 0 (List.replicate bl.length false, []) [] (by simp [hn]) hb0 (by rw [unseen_all]; exact Nat.le_refl _) (by rw [unseen_all]; simp [hn]) (by rw [unseen_all]; simp [hn]) ⟨by simp, fun x hx => by rw [List.getElem?_replicate]; simp⟩ (by simp) none none 0 0 w (hbs.keep keeps_block hw.chg) (nilInts w) (nilInts w)).mono fun v w' ⟨x, h1, h2, _⟩ => ⟨x, h1, h2, trivial⟩) fun x _ => ?_
  obtain ⟨s2, ⟨x1, x2⟩, ⟨y1, y2⟩⟩ := x
  simp only [List.cons_append, List.nil_append]
  repeat (first | refine g_op rfl ?_ | refine g_then ?_ | refine g_nil ?_ | refine g_region ?_ | refine g_seq ?_ | refine g_block ?_ | refine g_sub rfl (by omega) (by omega) ?_)
  refine g_nilVec 3 1 ?_
  refine g_sel [0, 2] (by decide) ?_
  refine g_loop (fun (x : Nat × Option Addr × (Option Addr × Nat)) => x.1 ≤ (postL bl).length) (fun x => [(6, .int .i64 ((x.1 : Int) - 1)), (5, .slice x.2.2.1 ((postL bl).reverse.take ((postL bl).length - x.1)).length x.2.2.2), (4, .slice x.2.1 (postL bl).length y2)])
    (fun x => [Ent.vec x.2.2.1 ((postL bl).reverse.take ((postL bl).length - x.1)).length x.2.2.2 3 1 (((postL bl).reverse.take ((postL bl).length - x.1)).map intN), Ent.vec x.2.1 (postL bl).length y2 3 1 ((postL bl).map intN)]) (fun x => x.1) ((postL bl).length, y1, (none, 0)) (Nat.le_refl _) ?_ fun x hm => ?_
  · simp only [Nat.sub_self, List.take_zero, List.length_nil, List.map_nil]
    exact g_done (by repeat (first | exact trivial | refine ⟨rfl, ?_⟩)) (List.Sublist.refl _)
  obtain ⟨m, ya, ⟨oa, oc⟩⟩ := x
  simp only at hm ⊢
  have htl : ((postL bl).reverse.take ((postL bl).length - m)).length = (postL bl).length - m := by rw [List.length_take, List.length_reverse]; omega
  repeat (first | refine g_op rfl ?_ | refine g_then ?_ | refine g_nil ?_ | refine g_region ?_ | refine g_seq ?_)
  refine g_cond (fun h1 => ?_) (fun h1 => ?_)
  · obtain ⟨m, rfl⟩ : ∃ m', m = m' + 1 := ⟨m - 1, by simp at h1; omega⟩
    rw [show (((m + 1 : Nat) : Int) - 1) = (m : Int) by omega]
    refine g_vec 1 rfl (by omega) fun rb ro hra => ?_
    subst hra
    obtain ⟨y, hy⟩ : ∃ y, (postL bl)[m]? = some y := ⟨_, List.getElem?_eq_getElem (by omega)⟩
    have hli : LtIs m (postL bl).length := ⟨by omega⟩
    have hxat : XAt ((postL bl).map intN) (m * 1) (.int .i64 (y : Int)) := ⟨by simp [hy, intN]⟩
    have hst : (postL bl).reverse.take ((postL bl).length - m) = (postL bl).reverse.take ((postL bl).length - (m + 1)) ++ [y] := by
      rw [show (postL bl).length - m = ((postL bl).length - (m + 1)) + 1 by omega, List.take_add_one]
      rw [List.getElem?_reverse (by omega), show (postL bl).length - 1 - ((postL bl).length - (m + 1)) = m by omega, hy]; rfl
    repeat (first | refine g_op rfl ?_ | refine g_then ?_ | refine g_region ?_ | refine g_seq ?_ | refine g_block ?_ | refine g_skip ?_ | refine g_build1 rfl rfl fun _ _ => ?_)
    refine g_append rfl rfl (by omega) (by omega) fun a' c' => ?_
    rw [show ((postL bl).reverse.take ((postL bl).length - (m + 1))).map intN ++ [.int .i64 (y : Int)] = ((postL bl).reverse.take ((postL bl).length - m)).map intN by rw [hst]; simp [intN], show ((postL bl).reverse.take ((postL bl).length - (m + 1))).length + 1 = ((postL bl).reverse.take ((postL bl).length - m)).length by rw [hst]; simp]
    repeat (first | refine g_op rfl ?_ | refine g_then ?_ | refine g_nil ?_ | refine g_region ?_ | refine g_opS rfl ?_ | refine g_inBlock ?_ | refine g_sub rfl (by omega) (by omega) ?_)
    exact g_next (m, some ⟨rb, ro, none⟩, (a', c')) (by simp only; omega) (by simp only; omega) (by repeat (first | exact trivial | refine ⟨rfl, ?_⟩)) (List.Sublist.cons _ (List.Sublist.refl _))
  · have hm0 : m = 0 := by simp at h1; omega
    subst hm0
    rw [Nat.sub_zero, List.take_of_length_le (by rw [List.length_reverse]; omega), List.length_reverse]
    repeat (first | refine g_op rfl ?_ | refine g_then ?_ | refine g_nil ?_ | refine g_region ?_ | refine g_seq ?_ | refine g_exit ?_ | refine g_thenExit ?_ | refine g_exitHere ?_ | refine g_ret ?_)
    exact g_ret1 rfl fun w hw => ⟨(oa, oc), rfl, hw.sel [0] (by decide), trivial⟩
theorem orderLaw_c (u : LUnit) (k : Int) (hk : inI k) (g fs : Value) (w0 : World) (hg : SlAt w0 g 3 u.globals GlobalV) (hf : SlAt w0 fs 4 u.funcs FuncV) (hways : CellsAt w0 0 0 waysC) :
    RetV Tryd.prog 5 [.agg #[g, fs], .int .i64 k] w0 (.bool true) := by
  classical
  have hg0 := hg
  have hf0 := hf
  obtain ⟨ga, gn, gc, gb, go, rfl, _⟩ := hg
  obtain ⟨fa, fn, fc, fb, fo, rfl, hfn, hfnc, hfnb, hfc, hfa, hfel⟩ := hf
  refine ret_enter Tryd.func5 rfl Tryd.ntmps5 rfl (Wd.nil NoS w0) ?_
  repeat (first | refine g_op rfl ?_ | refine g_then ?_ | refine g_nil ?_ | refine g_region ?_ | refine g_seq ?_ | refine g_box rfl fun _ _ => ?_)
  rename_i p2 _
  refine g_callE (val := fun b : Bool => .bool b) (E := fun _ => []) (φ := fun b => b = false → light u) rfl (fun w hw => heavy_c u _ _ w (hf0.keep keeps_func hw.chg) ⟨_, _, _, rfl⟩) fun b hb => ?_
  simp only [List.nil_append]
  cases b
  case true =>
    repeat (first | refine g_then ?_ | refine g_nil ?_ | refine g_region ?_ | refine g_seq ?_ | refine g_opS rfl ?_ | refine g_condT ?_ | refine g_ret ?_ | refine g_thenRet ?_)
    exact g_retV rfl rfl
  have hl := hb rfl
  repeat (first | refine g_op rfl ?_ | refine g_then ?_ | refine g_nil ?_ | refine g_region ?_ | refine g_seq ?_ | refine g_skip ?_ | refine g_condF ?_)
  by_cases hbad : (askedL u k).1 ≠ 0
  · refine g_callV rfl (fun w hw => order_bad u hl k hk hbad _ _ w (hg0.keep keeps_global hw.chg) (hf0.keep keeps_func hw.chg) (hways.keep hw.chg)) ?_
    repeat (first | refine g_op rfl ?_ | refine g_then ?_ | refine g_nil ?_ | refine g_region ?_ | refine g_seq ?_ | refine g_alloc rfl fun _ _ => ?_ | refine g_storeAgg ?_)
    refine g_callV rfl (fun w hw => asked_c u hl k _ _ w (hg0.keep keeps_global hw.chg) (hf0.keep keeps_func hw.chg) (hways.keep hw.chg)) ?_
    repeat (first | refine g_op rfl ?_ | refine g_then ?_ | refine g_nil ?_ | refine g_region ?_ | refine g_seq ?_ | refine g_alloc rfl fun _ _ => ?_ | refine g_storeAgg ?_)
    refine g_cond (fun h1 => ?_) (fun h1 => ?_)
    · repeat (first | refine g_op rfl ?_ | refine g_region ?_ | refine g_seq ?_)
      rw [show (decide ((askedL u k).1 = (askedL u k).1) && decide ((askedL u k).2 = (askedL u k).2)) = true by simp]
      repeat (first | refine g_op rfl ?_ | refine g_then ?_ | refine g_nil ?_ | refine g_opS rfl ?_ | refine g_open ?_ | refine g_ret ?_ | refine g_thenRet ?_)
      exact g_retV rfl rfl
    · exact absurd h1 (by simp [hbad])
  have hgood : (askedL u k).1 = 0 := by simpa using hbad
  obtain ⟨hch, has, i, X, rfl, hX, hok⟩ := asked_ok hgood
  have hpos := check_pos hch hX
  have hil : i < fn := by rw [hfn]; exact (List.getElem?_eq_some_iff.1 hX).1
  have had : AddrIs fa fb fo := ⟨hfa (ne_of_get hX)⟩
  have hli : LtIs i fn := ⟨hil⟩
  obtain ⟨cs, hcs, bv, rfl, hpi, hri, hbv⟩ := hfel i X hX
  have hci : CellsIs w0 fb (fo + i * 4) _ := ⟨hcs⟩
  have hbv0 := hbv
  obtain ⟨ba, bn, bc, _, _, rfl, hbn, _⟩ := hbv
  have h24 := (hl.2 X (List.mem_of_getElem? hX)).1
  have hpl := postL_len hpos
  have hin := inIs (l := (postL X.blocks).reverse) fun y hy => by have := postL_lt hok hpos (List.mem_reverse.1 hy); omega
  refine g_callE (val := fun x : Option Addr × Nat × (Nat → Prop) => .tuple #[.slice x.1 (postL X.blocks).length x.2.1, .agg #[.int .i64 0, .int .i64 0]]) (E := fun x => [⟨x.2.2, fun w => SlAt w (.slice x.1 (postL X.blocks).length x.2.1) 1 ((postL X.blocks).reverse.map fun x : Nat => (x : Int)) IntV⟩]) (φ := fun _ => True) rfl (fun w hw =>
    (order_ok u hl i hgood X hX hok hpos _ _ w (hg0.keep keeps_global hw.chg) (hf0.keep keeps_func hw.chg) (hways.keep hw.chg)).mono fun v w' ⟨x, h1, h2, _⟩ => ⟨(x.1, x.2, _), h1, Wd.ints (by rw [map_intN]; exact h2) (by simp) (by omega) hin, trivial⟩) fun x _ => ?_
  obtain ⟨ra, rc, rp⟩ := x
  simp only [List.cons_append, List.nil_append]
  repeat (first | refine g_op rfl ?_ | refine g_then ?_ | refine g_nil ?_ | refine g_region ?_ | refine g_seq ?_ | refine g_alloc rfl fun _ _ => ?_ | refine g_storeAgg ?_)
  rename_i p6 _
  refine g_callV rfl (fun w hw => asked_c u hl i _ _ w (hg0.keep keeps_global hw.chg) (hf0.keep keeps_func hw.chg) (hways.keep hw.chg)) ?_
  rw [has]
  repeat (first | refine g_op rfl ?_ | refine g_then ?_ | refine g_nil ?_ | refine g_region ?_ | refine g_seq ?_ | refine g_open ?_ | refine g_alloc rfl fun _ _ => ?_ | refine g_storeAgg ?_ | refine g_skip ?_ | refine g_condF ?_)
  rename_i p7 _
  refine g_callE (val := fun x : Option Addr × Nat × (Nat → Prop) => .slice x.1 (postL X.blocks).length x.2.1) (E := fun x => [⟨x.2.2, fun w => SlAt w (.slice x.1 (postL X.blocks).length x.2.1) 1 ((postL X.blocks).reverse.map fun x : Nat => (x : Int)) IntV⟩]) (φ := fun _ => True) rfl (fun w hw =>
    (refOrder_c _ _ _ X.blocks _ ⟨_, _, _, rfl⟩ w (hbv0.keep keeps_block hw.chg) (by omega) hok hpos).mono fun v w' ⟨x, h1, h2, _⟩ => ⟨(x.1, x.2, _), h1, Wd.ints (by rw [map_intN]; exact h2) (by simp) (by omega) hin, trivial⟩) fun y _ => ?_
  obtain ⟨sa, sc, sp⟩ := y
  simp only [List.cons_append, List.nil_append]
  refine g_open ?_
  refine g_callV rfl (fun w hw => ints_c _ _ ((postL X.blocks).reverse.map fun x : Nat => (x : Int)) ((postL X.blocks).reverse.map fun x : Nat => (x : Int)) w ?_ ?_) ?_
  · exact hw.get (k := 3) rfl
  · exact hw.get (k := 0) rfl
  rw [show decide ((postL X.blocks).reverse.map (fun x : Nat => (x : Int)) = (postL X.blocks).reverse.map (fun x : Nat => (x : Int))) = true by simp]
  try simp only [decide_true, Bool.and_self]
  repeat (first | refine g_op rfl ?_ | refine g_then ?_ | refine g_nil ?_ | refine g_opS rfl ?_ | refine g_ret ?_)
  exact g_retV rfl rfl
end Go.Proofs.YtebajiafdkokjaaDoor

/- turneryref3.LiveAt, live.lists, live.In, live.Out: what they return. -/
namespace Go.Proofs.YtebajiafdkokjaaDoor
open Go Go.RowKit
attribute [local irreducible] wpListIn Code.wpIn Exit.then Exit.inBlock bodyPost wpQuiet wpAnyIn wpAnyH
set_option maxHeartbeats 4000000

open Classical in
/-- the registers that are live at a place -/
noncomputable def liveN (bl : List LBlock) (R : Nat) (s : Sp) : List Nat := (List.range R).filter fun r => decide (LiveS bl r s.1 s.2)
theorem liveN_len {bl : List LBlock} {R : Nat} {s : Sp} : (liveN bl R s).length ≤ R := by
  classical
  have := List.length_filter_le (fun r => decide (LiveS bl r s.1 s.2)) (List.range R)
  rwa [List.length_range] at this
theorem liveN_lt {bl : List LBlock} {R : Nat} {s : Sp} {r : Nat} (h : r ∈ liveN bl R s) : r < R := by
  classical
  have := (List.mem_filter.1 h).1
  simpa using this
theorem liveAt_c (nm pa : Value) (bl : List LBlock) (bs : Value) (hbsl : ∃ a n c, bs = .slice a n c) (s0 : Sp) (w0 : World) (hbs : SlAt w0 bs 6 bl BlockV) (hlen : bl.length ≤ 100) (R : Nat) (hR : R ≤ 100) (hf : FuncOk R bl) (hlist : ∀ B ∈ bl, B.list.length ≤ 1000) (hargs : ∀ B ∈ bl, ∀ x ∈ B.list, x.args.length ≤ 1000) (hs0 : SpotOk bl s0) :
    Ret Tryd.prog 36 [.agg #[nm, pa, .int .i64 R, bs], .agg #[.int .i64 (s0.1 : Int), .int .i64 s0.2]] w0 fun u w' => ∃ x : Option Addr × Nat, u = .slice x.1 (liveN bl R s0).length x.2 ∧ Wd NoS w0 [Ent.vec x.1 (liveN bl R s0).length x.2 3 1 ((liveN bl R s0).map intN)] w' ∧ True := by
  classical
  obtain ⟨ba, n, bc, rfl⟩ := hbsl
  refine ret_enter Tryd.func36 rfl Tryd.ntmps36 rfl (Wd.nil NoS w0) ?_
  repeat (first | refine g_op rfl ?_ | refine g_then ?_ | refine g_nil ?_ | refine g_region ?_ | refine g_seq ?_ | refine g_box rfl fun _ _ => ?_ | refine g_block ?_)
  rename_i p2 _ p3 _
  refine g_nilVec 3 1 ?_
  refine g_loop (fun (x : Nat × Option Addr × Nat) => x.1 ≤ R) (fun x => [(6, .int .i64 x.1), (5, .slice x.2.1 (liveN bl x.1 s0).length x.2.2), (2, .pointer (some ⟨p2, 0, none⟩)), (3, .pointer (some ⟨p3, 0, none⟩))])
    (fun x => [Ent.vec x.2.1 (liveN bl x.1 s0).length x.2.2 3 1 ((liveN bl x.1 s0).map intN), Ent.box p3 [.int .i64 (s0.1 : Int), .int .i64 s0.2] 57, Ent.box p2 [nm, pa, .int .i64 R, .slice ba n bc] 35]) (fun x => R - x.1) (0, none, 0) (Nat.zero_le _) (g_done (by repeat (first | exact trivial | refine ⟨rfl, ?_⟩)) (List.Sublist.refl _)) fun x hi => ?_
  obtain ⟨i, la, lc⟩ := x
  simp only at hi ⊢
  repeat (first | refine g_op rfl ?_ | refine g_then ?_ | refine g_nil ?_ | refine g_region ?_ | refine g_seq ?_)
  refine g_cond (fun h1 => ?_) (fun h1 => ?_)
  · have hlt : i < R := by have := h1; simp at this; omega
    have hll := liveN_len (bl := bl) (R := i) (s := s0)
    have hnew : liveN bl (i + 1) s0 = liveN bl i s0 ++ if LiveS bl i s0.1 s0.2 then [i] else [] := by
      unfold liveN
      rw [List.range_succ, List.filter_append]
      congr 1
      by_cases h : LiveS bl i s0.1 s0.2 <;> simp [h]
    repeat (first | refine g_op rfl ?_ | refine g_then ?_ | refine g_region ?_ | refine g_seq ?_ | refine g_block ?_ | refine g_skip ?_)
    refine g_callV rfl (fun w hw => live_c _ _ _ bl _ ⟨_, _, _, rfl⟩ i s0 w (hbs.keep keeps_block hw.chg) hlen R hf hlist hargs hs0) ?_
    by_cases h : LiveS bl i s0.1 s0.2
    · rw [decide_eq_true h]
      rw [if_pos h] at hnew
      repeat (first | refine g_op rfl ?_ | refine g_then ?_ | refine g_nil ?_ | refine g_region ?_ | refine g_condT ?_ | refine g_build1 rfl rfl fun _ _ => ?_)
      refine g_append rfl rfl (by omega) (by omega) fun a' c' => ?_
      rw [show (liveN bl i s0).map intN ++ [.int .i64 (i : Int)] = (liveN bl (i + 1) s0).map intN by rw [hnew]; simp [intN], show (liveN bl i s0).length + 1 = (liveN bl (i + 1) s0).length by rw [hnew]; simp]
      repeat (first | refine g_op rfl ?_ | refine g_then ?_ | refine g_nil ?_ | refine g_region ?_ | refine g_opS rfl ?_ | refine g_inBlock ?_ | refine g_add rfl (by omega) (by omega) ?_)
      exact g_next (i + 1, a', c') hlt (by simp only; omega) (by repeat (first | exact trivial | refine ⟨rfl, ?_⟩)) (List.Sublist.cons _ (List.Sublist.refl _))
    · rw [decide_eq_false h]
      rw [if_neg h, List.append_nil] at hnew
      repeat (first | refine g_op rfl ?_ | refine g_then ?_ | refine g_nil ?_ | refine g_region ?_ | refine g_opS rfl ?_ | refine g_inBlock ?_ | refine g_skip ?_ | refine g_condF ?_ | refine g_add rfl (by omega) (by omega) ?_)
      refine g_next (i + 1, la, lc) hlt (by simp only; omega) ?_ ?_
      · simp only [hnew]
        exact (by repeat (first | exact trivial | refine ⟨rfl, ?_⟩))
      · simp only [hnew]
        exact List.Sublist.refl _
  · have hge : i = R := by have := h1; simp at this; omega
    subst hge
    repeat (first | refine g_op rfl ?_ | refine g_then ?_ | refine g_nil ?_ | refine g_region ?_ | refine g_seq ?_ | refine g_exit ?_ | refine g_thenExit ?_ | refine g_exitHere ?_ | refine g_ret ?_)
    exact g_ret1 rfl fun w hw => ⟨(la, lc), rfl, hw.sel [0] (by decide), trivial⟩
/-- the registers of a set -/
def trueN (s : List Bool) : List Nat := (List.range s.length).filter fun r => decide (s[r]? = some true)
theorem trueN_len {s : List Bool} : (trueN s).length ≤ s.length := by
  have := List.length_filter_le (fun r => decide (s[r]? = some true)) (List.range s.length)
  rwa [List.length_range] at this
def intsL (l : List Nat) : List Int := l.map fun x : Nat => (x : Int)
theorem lists_c (a : Option Addr) (n c : Nat) (rows : List (List Bool)) (w0 : World) (hs : SlAt w0 (.slice a n c) 1 rows SetV) (hn : n ≤ 1000) (hR : ∀ s ∈ rows, s.length ≤ 1000) :
    Ret Tryd.prog 71 [.slice a n c] w0 fun u w' => ∃ x : Option Addr × Nat × List Row, u = .slice x.1 rows.length x.2.1 ∧ Wd NoS w0 (Ent.vec x.1 rows.length x.2.1 27 1 (x.2.2.map valR) :: x.2.2.map entR) w' ∧ x.2.2.map (·.l) = rows.map fun s => intsL (trueN s) := by
  obtain ⟨a, n, c, b, o, hv, hrn, hnc, hnb, hc, ha, hel⟩ := hs
  simp only [Value.slice.injEq] at hv
  obtain ⟨rfl, rfl, rfl⟩ := hv
  refine ret_enter Tryd.func71 rfl Tryd.ntmps71 rfl (Wd.nil NoS w0) ?_
  repeat (first | refine g_op rfl ?_ | refine g_then ?_ | refine g_nil ?_ | refine g_region ?_ | refine g_seq ?_ | refine g_block ?_)
  refine g_nilVec 27 1 ?_
  refine g_loop (fun (x : Option Addr × Nat × List Row) => x.2.2.length ≤ n ∧ x.2.2.map (·.l) = (rows.take x.2.2.length).map fun s => intsL (trueN s)) (fun x => [(8, .int .i64 x.2.2.length), (7, .int .i64 n), (6, .slice a n c), (3, .slice x.1 x.2.2.length x.2.1)])
    (fun x => Ent.vec x.1 x.2.2.length x.2.1 27 1 (x.2.2.map valR) :: x.2.2.map entR) (fun x => n - x.2.2.length) (none, 0, []) ⟨Nat.zero_le _, by simp⟩ (g_done (by repeat (first | exact trivial | refine ⟨rfl, ?_⟩)) (List.Sublist.refl _)) fun x ⟨hi, hall⟩ => ?_
  obtain ⟨oa, oc, rs⟩ := x
  simp only at hi hall ⊢
  repeat (first | refine g_op rfl ?_ | refine g_then ?_ | refine g_nil ?_ | refine g_region ?_ | refine g_seq ?_)
  refine g_cond (fun h1 => ?_) (fun h1 => ?_)
  · have hlt : rs.length < n := by simpa using h1
    obtain ⟨s, hs⟩ := get_lt hrn hlt
    have had : AddrIs a b o := ⟨ha (ne_of_get hs)⟩
    have hli : LtIs rs.length n := ⟨hlt⟩
    obtain ⟨cs, hcs, sv, rfl, hsv⟩ := hel _ s hs
    have hci : CellsIs w0 b (o + rs.length * 1) _ := ⟨hcs⟩
    have hsv0 := hsv
    obtain ⟨sa, sn, sc, _, _, rfl, hsn, _⟩ := hsv
    subst hsn
    have hsR := hR s (List.mem_of_getElem? hs)
    repeat (first | refine g_op rfl ?_ | refine g_then ?_ | refine g_nil ?_ | refine g_region ?_ | refine g_seq ?_ | refine g_block ?_ | refine g_skip ?_)
    refine g_callE (val := fun x : Option Addr × Nat × List Nat => .slice x.1 x.2.2.length x.2.1) (E := fun x => [Ent.vec x.1 x.2.2.length x.2.1 3 1 (x.2.2.map intN)]) (φ := fun x => x.2.2 = trueN s) rfl (fun w hw => list_c sa s.length sc s hsR w (hsv0.keep keeps_bool hw.chg)) fun x hx => ?_
    obtain ⟨xa, xc, l⟩ := x
    simp only at hx
    subst hx
    have htl := trueN_len (s := s)
    simp only [List.cons_append, List.nil_append]
    repeat (refine g_build1 rfl rfl fun _ _ => ?_)
    refine g_append rfl rfl (by omega) (by omega) fun a' c' => ?_
    refine g_fix (L' := [(16, .slice a' (rs.length + 1) c'), (8, .int .i64 rs.length), (7, .int .i64 n), (6, .slice a n c)]) (by repeat (first | exact trivial | refine ⟨rfl, ?_⟩)) (List.Sublist.cons _ (List.Sublist.refl _)) ?_
    refine g_permH (H1 := Ent.vec a' (rs.length + 1) c' 27 1 (rs.map valR ++ [.slice xa (trueN s).length xc]) :: (rs.map entR ++ [Ent.vec xa (trueN s).length xc 3 1 ((trueN s).map intN)])) ?_ ?_
    · exact (List.Perm.swap _ _ _).trans (List.Perm.cons _ (List.perm_append_singleton _ _).symm)
    refine g_eqH (H1 := Ent.vec a' (rs ++ [(⟨xa, xc, intsL (trueN s)⟩ : Row)]).length c' 27 1 ((rs ++ [(⟨xa, xc, intsL (trueN s)⟩ : Row)]).map valR) :: (rs ++ [(⟨xa, xc, intsL (trueN s)⟩ : Row)]).map entR) (by simp only [intsL, List.length_append, List.length_singleton, List.map_append, List.map_cons, List.map_nil, valR, entR, List.length_map, map_intN]) ?_
    repeat (first | refine g_op rfl ?_ | refine g_then ?_ | refine g_nil ?_ | refine g_region ?_ | refine g_opS rfl ?_ | refine g_inBlock ?_ | refine g_add rfl (by omega) (by omega) ?_)
    refine g_next (a', c', rs ++ [(⟨xa, xc, intsL (trueN s)⟩ : Row)]) ⟨by simp; omega, ?_⟩ (by simp; omega) ?_ (List.Sublist.refl _)
    · simp only [List.length_append, List.length_singleton, List.map_append, List.map_cons, List.map_nil]
      rw [List.take_add_one, hs, List.map_append, hall]
      rfl
    · simp only [List.length_append, List.length_singleton, Int.natCast_add]
      exact (by repeat (first | exact trivial | refine ⟨rfl, ?_⟩))
  · have hge : rs.length = n := by have := h1; simp at this; omega
    rw [hge, hrn, List.take_length] at hall
    repeat (first | refine g_op rfl ?_ | refine g_then ?_ | refine g_nil ?_ | refine g_region ?_ | refine g_seq ?_ | refine g_exit ?_ | refine g_thenExit ?_ | refine g_exitHere ?_ | refine g_ret ?_)
    refine g_ret1 rfl fun w hw => ⟨(oa, oc, rs), ?_, ?_, hall⟩
    · simp only [hge, hrn]
    · simp only [← hrn, ← hge]
      exact hw
end Go.Proofs.YtebajiafdkokjaaDoor

/- live.In and live.Out: what they return. -/
namespace Go.Proofs.YtebajiafdkokjaaDoor
open Go Go.RowKit
attribute [local irreducible] wpListIn Code.wpIn Exit.then Exit.inBlock bodyPost wpQuiet wpAnyIn wpAnyH
set_option maxHeartbeats 4000000

theorem check_args {u : LUnit} (h : (checkL u).1 = 0) {k : Nat} {X : LFunc} (hX : u.funcs[k]? = some X) : ∀ B ∈ X.blocks, ∀ x ∈ B.list, x.args.length ≤ 1000 := fun B hB x hx => by
  have hb := check_bodies h X (List.mem_of_getElem? hX)
  obtain ⟨b, hbB⟩ := List.getElem?_of_mem hB
  unfold bodyErr at hb
  split at hb
  · rename_i h1; exact absurd hb h1
  have hb := firstI_zero hb b (List.getElem?_eq_some_iff.1 hbB).1
  simp only [blockErr, hbB] at hb
  split at hb
  · rename_i h2; exact absurd hb h2
  have hi := at0_all hb x hx
  by_cases e : x.op = 20
  · unfold insErr at hi
    split at hi
    · cases hi
    split at hi
    · cases hi
    split at hi
    · rename_i h3
      simp only [Bool.and_eq_true, Bool.not_eq_true', decide_eq_false_iff_not] at h3
      exact absurd hi h3.2
    split at hi
    · rename_i h4; exact absurd hi h4
    split at hi
    · rename_i h5; exact absurd hi h5
    unfold callErr at hi
    rw [if_neg (by simpa using e)] at hi
    split at hi
    · cases hi
    rename_i h6
    split at hi
    · cases hi
    rename_i h7
    simp only [within, Bool.not_eq_true', Bool.and_eq_false_iff, decide_eq_false_iff_not, not_or, Decidable.not_not] at h6
    simp only [ne_eq, Decidable.not_not, at0] at h7
    split at h7
    · rename_i Y hY
      have := check_head h hY
      omega
    · omega
  · rw [(insErr_ok (R := X.regs.toNat) (fs := u.funcs) (by rw [Int.toNat_of_nonneg (by have := check_head h hX; omega)]; exact hi)).args e]
    simp
theorem light_lens {X : LFunc} (h : lightF X) : ∀ B ∈ X.blocks, B.list.length ≤ 1000 ∧ B.phis.length ≤ 1000 := fun B hB => by
  have h1 : ((B.phis.length + B.list.length : Nat) : Int) ≤ sizeOfBs X.blocks := by
    unfold sizeOfBs
    generalize X.blocks = l at hB
    induction l with
    | nil => cases hB
    | cons C l ih =>
      have hnn : ∀ m : List LBlock, 0 ≤ (m.map fun b => ((b.phis.length + b.list.length : Nat) : Int)).sum := fun m => by
        induction m with
        | nil => simp
        | cons D m ih => simp only [List.map_cons, List.sum_cons]; omega
      simp only [List.map_cons, List.sum_cons]
      rcases List.mem_cons.1 hB with rfl | hB
      · have := hnn l; omega
      · have := ih hB; omega
  have := h.2
  omega
/-- what is live ahead of each block; behind each -/
noncomputable def inG (bl : List LBlock) (R : Nat) : List (List Int) := (List.range bl.length).map fun b => intsL (liveN bl R (b, -1))
noncomputable def outG (bl : List LBlock) (R : Nat) : List (List Int) := (List.range bl.length).map fun b => intsL (liveN bl R (b, (((bl[b]?.map fun B => B.list.length).getD 0 : Nat) : Int) + 1))
theorem true_live {R : Nat} {bl : List LBlock} {s : Sp} {l : List Bool} (hl : l.length = R) (h : ∀ r, has l r ↔ LiveS bl r s.1 s.2) : trueN l = liveN bl R s := by
  classical
  unfold trueN liveN
  rw [hl]
  exact List.filter_congr fun r _ => decide_eq_decide.2 (h r)
theorem in_grid {R : Nat} {bl : List LBlock} {ins outs : List RowB} (h : AllR R bl ins outs) : (ins.map (·.l)).map (fun s => intsL (trueN s)) = inG bl R := by
  apply List.ext_getElem?
  intro i
  unfold inG
  rw [List.getElem?_map, List.getElem?_map, List.getElem?_map]
  by_cases hi : i < bl.length
  · obtain ⟨q, hq⟩ : ∃ q, ins[i]? = some q := ⟨_, List.getElem?_eq_getElem (by rw [h.inLen]; exact hi)⟩
    rw [hq, List.getElem?_range hi]
    simp only [Option.map_some]
    rw [true_live (s := (i, -1)) (h.inRow q (List.mem_of_getElem? hq)) fun r => h.inAt i q r hq]
  · rw [List.getElem?_eq_none (by rw [h.inLen]; omega), List.getElem?_eq_none (by simp; omega)]; rfl
theorem out_grid {R : Nat} {bl : List LBlock} {ins outs : List RowB} (h : AllR R bl ins outs) : (outs.map (·.l)).map (fun s => intsL (trueN s)) = outG bl R := by
  apply List.ext_getElem?
  intro i
  unfold outG
  rw [List.getElem?_map, List.getElem?_map, List.getElem?_map]
  by_cases hi : i < bl.length
  · obtain ⟨q, hq⟩ : ∃ q, outs[i]? = some q := ⟨_, List.getElem?_eq_getElem (by rw [h.outLen]; exact hi)⟩
    have hB : bl[i]? = some bl[i] := List.getElem?_eq_getElem hi
    rw [hq, List.getElem?_range hi]
    simp only [Option.map_some, hB, Option.getD_some]
    rw [true_live (s := (i, ((bl[i].list.length : Nat) : Int) + 1)) (h.outRow q (List.mem_of_getElem? hq)) fun r => h.outAt i q r _ hq hB]
  · rw [List.getElem?_eq_none (by rw [h.outLen]; omega), List.getElem?_eq_none (by simp; omega)]; rfl
theorem in_bad (u : LUnit) (hl : light u) (k : Int) (hk : inI k) (hbad : (askedL u k).1 ≠ 0) (g fs : Value) (w0 : World) (hg : SlAt w0 g 3 u.globals GlobalV) (hf : SlAt w0 fs 4 u.funcs FuncV) (hways : CellsAt w0 0 0 waysC) :
    RetV Tryd.prog 35 [.agg #[g, fs], .int .i64 k] w0 (.tuple #[.slice none 0 0, .agg #[.int .i64 (askedL u k).1, .int .i64 (askedL u k).2]]) := by
  have hg0 := hg
  have hf0 := hf
  obtain ⟨ga, gn, gc, gb, go, rfl, _⟩ := hg
  obtain ⟨fa, fn, fc, fb, fo, rfl, _⟩ := hf
  refine ret_enter Tryd.func35 rfl Tryd.ntmps35 rfl (Wd.nil NoS w0) ?_
  repeat (first | refine g_op rfl ?_ | refine g_then ?_ | refine g_nil ?_ | refine g_region ?_ | refine g_seq ?_ | refine g_box rfl fun _ _ => ?_ | refine g_alloc rfl fun _ _ => ?_)
  rename_i p2 _ p5 _
  refine g_callV rfl (fun w hw => func_bad u hl k hk hbad _ _ w (hg0.keep keeps_global hw.chg) (hf0.keep keeps_func hw.chg) (hways.keep hw.chg)) ?_
  unfold zeroFn
  repeat (first | refine g_op rfl ?_ | refine g_then ?_ | refine g_nil ?_ | refine g_region ?_ | refine g_seq ?_ | refine g_alloc rfl fun _ _ => ?_ | refine g_storeAgg ?_)
  rename_i p6 _ p7 _
  refine g_cond (fun h1 => ?_) (fun h1 => ?_)
  · repeat (refine g_seq ?_)
    refine g_drawW [(4, .slice none 0 0), (5, .pointer (some ⟨p5, 0, none⟩))] [Ent.box p5 [.int .i64 (askedL u k).1, .int .i64 (askedL u k).2] 29] mixed ?_ ?_
    · repeat' (first | refine g_any0 (by decide +kernel) ?_ | refine g_any (by decide +kernel) ?_ | refine any_nil | refine any_skip (by decide +kernel) ?_ | refine any_cons ?_ ?_ | refine g_op rfl ?_ | refine g_then ?_ | refine g_nil ?_ | refine g_opS rfl ?_ | refine g_storeAgg ?_)
      all_goals exact g_done (by repeat (first | exact trivial | refine ⟨rfl, ?_⟩)) (by simp)
    · repeat (first | refine g_then ?_ | refine g_ret ?_ | refine g_thenRet ?_)
      exact g_retTC rfl fun _ hw => ⟨rfl, hw.chg⟩
  · exact absurd h1 (by simp [hbad])
theorem in_ok (u : LUnit) (hl : light u) (k : Nat) (hgood : (askedL u k).1 = 0) (X : LFunc) (hX : u.funcs[k]? = some X) (hch : (checkL u).1 = 0) (g fs : Value) (w0 : World) (hg : SlAt w0 g 3 u.globals GlobalV) (hf : SlAt w0 fs 4 u.funcs FuncV) (hways : CellsAt w0 0 0 waysC) :
    Ret Tryd.prog 35 [.agg #[g, fs], .int .i64 k] w0 fun v w' => ∃ x : Option Addr × Nat × List Row, v = .tuple #[.slice x.1 X.blocks.length x.2.1, .agg #[.int .i64 0, .int .i64 0]] ∧ Wd NoS w0 (Ent.vec x.1 X.blocks.length x.2.1 27 1 (x.2.2.map valR) :: x.2.2.map entR) w' ∧ x.2.2.map (·.l) = inG X.blocks X.regs.toNat := by
  classical
  have hg0 := hg
  have hf0 := hf
  obtain ⟨ga, gn, gc, gb, go, rfl, _⟩ := hg
  obtain ⟨fa, fn, fc, fb, fo, rfl, _⟩ := hf
  have hlx := hl.2 X (List.mem_of_getElem? hX)
  have h24 := hlx.1
  obtain ⟨bv, hbv, hfc⟩ := func_ok u hl k hgood _ _ X hX w0 hg0 hf0 hways
  have hbv0 := hbv
  obtain ⟨ba, n, bc, bb, bo', rfl, hn, hnc, hnb, hbc, hba, hel⟩ := hbv
  refine ret_enter Tryd.func35 rfl Tryd.ntmps35 rfl (Wd.nil NoS w0) ?_
  repeat (first | refine g_op rfl ?_ | refine g_then ?_ | refine g_nil ?_ | refine g_region ?_ | refine g_seq ?_ | refine g_box rfl fun _ _ => ?_ | refine g_alloc rfl fun _ _ => ?_)
  rename_i p2 _ p5 _
  refine g_callV rfl (fun w hw => hfc w hw.chg) ?_
  repeat (first | refine g_op rfl ?_ | refine g_then ?_ | refine g_nil ?_ | refine g_region ?_ | refine g_seq ?_ | refine g_alloc rfl fun _ _ => ?_ | refine g_storeAgg ?_ | refine g_skip ?_ | refine g_condF ?_)
  rename_i p6 _ p7 _
  obtain ⟨R, hXR, hR, hFO⟩ := check_func hch hX
  have hlens := light_lens hlx
  have hfa := check_args hch hX
  have hfb := hbv0
  rw [show X.regs.toNat = R by omega, hXR]
  skip
  refine g_callE (val := fun x : (Option Addr × Nat × List RowB) × (Option Addr × Nat × List RowB) => .tuple #[.slice x.1.1 X.blocks.length x.1.2.1, .slice x.2.1 X.blocks.length x.2.2.1]) (E := fun x => Ent.vec x.1.1 X.blocks.length x.1.2.1 107 1 (x.1.2.2.map (valS R)) :: Ent.vec x.2.1 X.blocks.length x.2.2.1 107 1 (x.2.2.2.map (valS R)) :: (x.1.2.2.map (entS R) ++ x.2.2.2.map (entS R))) (φ := fun x => AllR R X.blocks x.1.2.2 x.2.2.2) rfl
    (fun w hw => allOf_c _ _ R hR X.blocks _ w (hbv0.keep keeps_block hw.chg) (by omega) hFO hfa hlens) fun x hA => ?_
  obtain ⟨⟨ia, ic, ins⟩, ⟨oa, oc, outs⟩⟩ := x
  simp only at hA ⊢
  refine g_permH (H1 := Ent.box p7 [.int .i64 0, .int .i64 0] 29 :: Ent.box p6 [.string X.name, .int .i64 X.params, .int .i64 R, .slice ba n bc] 35 :: Ent.box p5 [.int .i64 0, .int .i64 0] 29 :: Ent.box p2 [.slice ga gn gc, .slice fa fn fc] 25 :: Ent.vec ia X.blocks.length ic 107 1 (ins.map (valS R)) :: Ent.vec oa X.blocks.length oc 107 1 (outs.map (valS R)) :: (ins.map (entS R) ++ outs.map (entS R))) List.perm_append_comm ?_
  repeat (first | refine g_op rfl ?_ | refine g_then ?_ | refine g_nil ?_ | refine g_seq ?_)
  refine g_drawH [Ent.box p7 [.int .i64 0, .int .i64 0] 29] mixed (List.Sublist.cons_cons _ (List.nil_sublist _)) ?_
  refine h_take 0 rfl (by decide +kernel) (List.Sublist.cons_cons _ (List.nil_sublist _)) ?_
  refine h_take 2 rfl (by decide +kernel) (List.Sublist.cons_cons _ (List.nil_sublist _)) ?_
  refine h_callE 1 (val := fun x : Option Addr × Nat × List Row => .slice x.1 X.blocks.length x.2.1) (E := fun x => Ent.vec x.1 X.blocks.length x.2.1 27 1 (x.2.2.map valR) :: x.2.2.map entR) (φ := fun x => x.2.2.map (·.l) = inG X.blocks R) rfl (by decide +kernel) (List.Sublist.cons_cons _ (List.nil_sublist _)) (fun w hw => ?_) fun x hx => ?_
  · have hsl := (sets_sl (rs := ins) (H := outs.map (entS R)) (hw.sub (List.Sublist.cons _ (List.Sublist.cons _ (List.Sublist.cons _ (List.Sublist.cons _ (List.Sublist.cons_cons _ (List.Sublist.cons _ (List.Sublist.refl _)))))))) hA.inLen.symm (by omega) (by omega) hA.inRow)
    have h1 := lists_c ia X.blocks.length ic _ w hsl (by omega) (fun s hs => by
      obtain ⟨q, hq, rfl⟩ := List.mem_map.1 hs
      have := hA.inRow q hq
      omega)
    rw [in_grid hA, List.length_map, hA.inLen] at h1
    exact h1
  obtain ⟨xa, xc, rs⟩ := x
  simp only at hx ⊢
  refine g_permH (H1 := Ent.box p7 [.int .i64 0, .int .i64 0] 29 :: Ent.box p6 [.string X.name, .int .i64 X.params, .int .i64 R, .slice ba n bc] 35 :: Ent.box p5 [.int .i64 0, .int .i64 0] 29 :: Ent.box p2 [.slice ga gn gc, .slice fa fn fc] 25 :: Ent.vec ia X.blocks.length ic 107 1 (ins.map (valS R)) :: Ent.vec oa X.blocks.length oc 107 1 (outs.map (valS R)) :: ((ins.map (entS R) ++ outs.map (entS R)) ++ (Ent.vec xa X.blocks.length xc 27 1 (rs.map valR) :: rs.map entR))) List.perm_append_comm ?_
  refine g_forget 4 ?_
  refine h_take 3 rfl (by decide +kernel) (List.Sublist.cons_cons _ (List.nil_sublist _)) ?_
  refine h_storeAgg 4 (by decide +kernel) (List.Sublist.cons_cons _ (List.nil_sublist _)) ?_
  refine h_end (by decide +kernel) ?_
  repeat (first | refine g_then ?_ | refine g_ret ?_)
  refine g_retTC rfl fun w hw => ⟨(xa, xc, rs), rfl, ?_, hx⟩
  exact hw.sub (List.Sublist.cons _ (List.Sublist.cons _ (List.Sublist.cons _ (List.Sublist.cons _ (List.Sublist.cons _ (List.Sublist.cons _ (List.sublist_append_right _ _)))))))
theorem out_bad (u : LUnit) (hl : light u) (k : Int) (hk : inI k) (hbad : (askedL u k).1 ≠ 0) (g fs : Value) (w0 : World) (hg : SlAt w0 g 3 u.globals GlobalV) (hf : SlAt w0 fs 4 u.funcs FuncV) (hways : CellsAt w0 0 0 waysC) :
    RetV Tryd.prog 37 [.agg #[g, fs], .int .i64 k] w0 (.tuple #[.slice none 0 0, .agg #[.int .i64 (askedL u k).1, .int .i64 (askedL u k).2]]) := by
  have hg0 := hg
  have hf0 := hf
  obtain ⟨ga, gn, gc, gb, go, rfl, _⟩ := hg
  obtain ⟨fa, fn, fc, fb, fo, rfl, _⟩ := hf
  refine ret_enter Tryd.func37 rfl Tryd.ntmps37 rfl (Wd.nil NoS w0) ?_
  repeat (first | refine g_op rfl ?_ | refine g_then ?_ | refine g_nil ?_ | refine g_region ?_ | refine g_seq ?_ | refine g_box rfl fun _ _ => ?_ | refine g_alloc rfl fun _ _ => ?_)
  rename_i p2 _ p5 _
  refine g_callV rfl (fun w hw => func_bad u hl k hk hbad _ _ w (hg0.keep keeps_global hw.chg) (hf0.keep keeps_func hw.chg) (hways.keep hw.chg)) ?_
  unfold zeroFn
  repeat (first | refine g_op rfl ?_ | refine g_then ?_ | refine g_nil ?_ | refine g_region ?_ | refine g_seq ?_ | refine g_alloc rfl fun _ _ => ?_ | refine g_storeAgg ?_)
  rename_i p6 _ p7 _
  refine g_cond (fun h1 => ?_) (fun h1 => ?_)
  · repeat (refine g_seq ?_)
    refine g_drawW [(4, .slice none 0 0), (5, .pointer (some ⟨p5, 0, none⟩))] [Ent.box p5 [.int .i64 (askedL u k).1, .int .i64 (askedL u k).2] 29] mixed ?_ ?_
    · repeat' (first | refine g_any0 (by decide +kernel) ?_ | refine g_any (by decide +kernel) ?_ | refine any_nil | refine any_skip (by decide +kernel) ?_ | refine any_cons ?_ ?_ | refine g_op rfl ?_ | refine g_then ?_ | refine g_nil ?_ | refine g_opS rfl ?_ | refine g_storeAgg ?_)
      all_goals exact g_done (by repeat (first | exact trivial | refine ⟨rfl, ?_⟩)) (by simp)
    · repeat (first | refine g_then ?_ | refine g_ret ?_ | refine g_thenRet ?_)
      exact g_retTC rfl fun _ hw => ⟨rfl, hw.chg⟩
  · exact absurd h1 (by simp [hbad])
theorem out_ok (u : LUnit) (hl : light u) (k : Nat) (hgood : (askedL u k).1 = 0) (X : LFunc) (hX : u.funcs[k]? = some X) (hch : (checkL u).1 = 0) (g fs : Value) (w0 : World) (hg : SlAt w0 g 3 u.globals GlobalV) (hf : SlAt w0 fs 4 u.funcs FuncV) (hways : CellsAt w0 0 0 waysC) :
    Ret Tryd.prog 37 [.agg #[g, fs], .int .i64 k] w0 fun v w' => ∃ x : Option Addr × Nat × List Row, v = .tuple #[.slice x.1 X.blocks.length x.2.1, .agg #[.int .i64 0, .int .i64 0]] ∧ Wd NoS w0 (Ent.vec x.1 X.blocks.length x.2.1 27 1 (x.2.2.map valR) :: x.2.2.map entR) w' ∧ x.2.2.map (·.l) = outG X.blocks X.regs.toNat := by
  classical
  have hg0 := hg
  have hf0 := hf
  obtain ⟨ga, gn, gc, gb, go, rfl, _⟩ := hg
  obtain ⟨fa, fn, fc, fb, fo, rfl, _⟩ := hf
  have hlx := hl.2 X (List.mem_of_getElem? hX)
  have h24 := hlx.1
  obtain ⟨bv, hbv, hfc⟩ := func_ok u hl k hgood _ _ X hX w0 hg0 hf0 hways
  have hbv0 := hbv
  obtain ⟨ba, n, bc, bb, bo', rfl, hn, hnc, hnb, hbc, hba, hel⟩ := hbv
  refine ret_enter Tryd.func37 rfl Tryd.ntmps37 rfl (Wd.nil NoS w0) ?_
  repeat (first | refine g_op rfl ?_ | refine g_then ?_ | refine g_nil ?_ | refine g_region ?_ | refine g_seq ?_ | refine g_box rfl fun _ _ => ?_ | refine g_alloc rfl fun _ _ => ?_)
  rename_i p2 _ p5 _
  refine g_callV rfl (fun w hw => hfc w hw.chg) ?_
  repeat (first | refine g_op rfl ?_ | refine g_then ?_ | refine g_nil ?_ | refine g_region ?_ | refine g_seq ?_ | refine g_alloc rfl fun _ _ => ?_ | refine g_storeAgg ?_ | refine g_skip ?_ | refine g_condF ?_)
  rename_i p6 _ p7 _
  obtain ⟨R, hXR, hR, hFO⟩ := check_func hch hX
  have hlens := light_lens hlx
  have hfa := check_args hch hX
  have hfb := hbv0
  rw [show X.regs.toNat = R by omega, hXR]
  skip
  refine g_callE (val := fun x : (Option Addr × Nat × List RowB) × (Option Addr × Nat × List RowB) => .tuple #[.slice x.1.1 X.blocks.length x.1.2.1, .slice x.2.1 X.blocks.length x.2.2.1]) (E := fun x => Ent.vec x.1.1 X.blocks.length x.1.2.1 107 1 (x.1.2.2.map (valS R)) :: Ent.vec x.2.1 X.blocks.length x.2.2.1 107 1 (x.2.2.2.map (valS R)) :: (x.1.2.2.map (entS R) ++ x.2.2.2.map (entS R))) (φ := fun x => AllR R X.blocks x.1.2.2 x.2.2.2) rfl
    (fun w hw => allOf_c _ _ R hR X.blocks _ w (hbv0.keep keeps_block hw.chg) (by omega) hFO hfa hlens) fun x hA => ?_
  obtain ⟨⟨ia, ic, ins⟩, ⟨oa, oc, outs⟩⟩ := x
  simp only at hA ⊢
  refine g_permH (H1 := Ent.box p7 [.int .i64 0, .int .i64 0] 29 :: Ent.box p6 [.string X.name, .int .i64 X.params, .int .i64 R, .slice ba n bc] 35 :: Ent.box p5 [.int .i64 0, .int .i64 0] 29 :: Ent.box p2 [.slice ga gn gc, .slice fa fn fc] 25 :: Ent.vec ia X.blocks.length ic 107 1 (ins.map (valS R)) :: Ent.vec oa X.blocks.length oc 107 1 (outs.map (valS R)) :: (ins.map (entS R) ++ outs.map (entS R))) List.perm_append_comm ?_
  repeat (first | refine g_op rfl ?_ | refine g_then ?_ | refine g_nil ?_ | refine g_seq ?_)
  refine g_drawH [Ent.box p7 [.int .i64 0, .int .i64 0] 29] mixed (List.Sublist.cons_cons _ (List.nil_sublist _)) ?_
  refine h_take 0 rfl (by decide +kernel) (List.Sublist.cons_cons _ (List.nil_sublist _)) ?_
  refine h_take 2 rfl (by decide +kernel) (List.Sublist.cons_cons _ (List.nil_sublist _)) ?_
  refine h_callE 1 (val := fun x : Option Addr × Nat × List Row => .slice x.1 X.blocks.length x.2.1) (E := fun x => Ent.vec x.1 X.blocks.length x.2.1 27 1 (x.2.2.map valR) :: x.2.2.map entR) (φ := fun x => x.2.2.map (·.l) = outG X.blocks R) rfl (by decide +kernel) (List.Sublist.cons_cons _ (List.nil_sublist _)) (fun w hw => ?_) fun x hx => ?_
  · have hsl := (sets_sl (rs := outs) (H := []) (hw.sub (List.Sublist.cons _ (List.Sublist.cons _ (List.Sublist.cons _ (List.Sublist.cons _ (List.Sublist.cons _ (List.Sublist.cons_cons _ (by rw [List.append_nil]; exact List.sublist_append_right _ _)))))))) hA.outLen.symm (by omega) (by omega) hA.outRow)
    have h1 := lists_c oa X.blocks.length oc _ w hsl (by omega) (fun s hs => by
      obtain ⟨q, hq, rfl⟩ := List.mem_map.1 hs
      have := hA.outRow q hq
      omega)
    rw [out_grid hA, List.length_map, hA.outLen] at h1
    exact h1
  obtain ⟨xa, xc, rs⟩ := x
  simp only at hx ⊢
  refine g_permH (H1 := Ent.box p7 [.int .i64 0, .int .i64 0] 29 :: Ent.box p6 [.string X.name, .int .i64 X.params, .int .i64 R, .slice ba n bc] 35 :: Ent.box p5 [.int .i64 0, .int .i64 0] 29 :: Ent.box p2 [.slice ga gn gc, .slice fa fn fc] 25 :: Ent.vec ia X.blocks.length ic 107 1 (ins.map (valS R)) :: Ent.vec oa X.blocks.length oc 107 1 (outs.map (valS R)) :: ((ins.map (entS R) ++ outs.map (entS R)) ++ (Ent.vec xa X.blocks.length xc 27 1 (rs.map valR) :: rs.map entR))) List.perm_append_comm ?_
  refine g_forget 4 ?_
  refine h_take 3 rfl (by decide +kernel) (List.Sublist.cons_cons _ (List.nil_sublist _)) ?_
  refine h_storeAgg 4 (by decide +kernel) (List.Sublist.cons_cons _ (List.nil_sublist _)) ?_
  refine h_end (by decide +kernel) ?_
  repeat (first | refine g_then ?_ | refine g_ret ?_)
  refine g_retTC rfl fun w hw => ⟨(xa, xc, rs), rfl, ?_, hx⟩
  exact hw.sub (List.Sublist.cons _ (List.Sublist.cons _ (List.Sublist.cons _ (List.Sublist.cons _ (List.Sublist.cons _ (List.Sublist.cons _ (List.sublist_append_right _ _)))))))
end Go.Proofs.YtebajiafdkokjaaDoor

/- A range over a function whose rounds make memory that lasts: the pieces that the rounds hold may grow. -/
namespace Go.Proofs.YtebajiafdkokjaaDoor
open Go Go.RowKit

/-- plain cells of another type than T -/
class TyN (T : Nat) (e : Ent) : Prop where
  ty : ∀ w, e.ok w → ∀ b, e.fp b → ∃ cs t z, w.heap[b]? = some (.cells cs t z) ∧ t ≠ T
theorem TyN.cells {T : Nat} {e : Ent} (h : TyN T e) (w : World) (hw : e.ok w) (b : Nat) (hb : e.fp b) : ∃ cs t z, w.heap[b]? = some (.cells cs t z) := by
  obtain ⟨cs, t, z, h1, _⟩ := h.ty w hw b hb
  exact ⟨cs, t, z, h1⟩
theorem tyN_box {T b : Nat} {cs : List Value} {t : TypeId} (hne : t ≠ T) : TyN T (Ent.box b cs t) := ⟨fun w h k hk => by subst hk; exact ⟨_, _, _, h, hne⟩⟩
theorem tyN_vec {T : Nat} {a : Option Addr} {n c e s : Nat} {xs : List Value} (hne : e ≠ T) : TyN T (Ent.vec a n c e s xs) := ⟨fun w h k hk => by
  rcases h.2 with ⟨rfl, _⟩ | ⟨g, pre, sp, rfl, _, _, _, hb⟩
  · cases hk
  · simp only [Ent.vec, Option.map_some, Option.some.injEq] at hk
    subst hk
    exact ⟨_, _, _, hb, hne⟩⟩
section
variable {P : Program} {ro : Option Nat} {N : Nat} {ds : List Deferred} {S : Nat → Prop} {w0 : World} {L L' : List (Nat × Value)} {H H' : List Ent} {a : Act} {w : World}
  {ops : Array Oper} {rest : List Oper} {Q : Exit → Act → World → Prop} {p : Act → World → Prop} {x y : Operand}
theorem g_rangeG {α σ : Type} {g : Operand} {ps : Array Tmp} {assign body : Code} {gf : Nat} {lb : List Value} [hg : Ev L g (.func (.func gf) #[] lb.toArray)] [eg : EnterOk P gf] (F : List Ent) (Hc : σ → List Ent) (s0 : σ) (T : Nat) (hcl : ∀ s, ∀ e ∈ Hc s, TyN T e) (xs : List α) {encs : α → Array Value}
    {Bs : Nat} {bcs : List Value} {bt : TypeId} (hBs : Ent.box Bs bcs bt ∈ F)
    (hseq : ∀ w, Wd NoS w0 H w → SeqStopsK (FW none) 4 P gf lb.toArray encs (KeepX fun b => (fps (Hc s0 ++ F) b ∨ w.heap.size ≤ b) ∧ b ≠ Bs) (fun ys => ys = xs) (fun pre => pre <+: xs) xs.length w)
    (I : List α → σ → Prop) (h0 : I [] s0) (hH : (Hc s0 ++ F).Sublist H) (hps : ∀ x, (encs x).size = ps.size) (bx : α → List Value)
    (L0 : α → List (Nat × Value)) (La : α → Nat → List (Nat × Value)) (hput : ∀ x a, Fr N ds L a → Fr N [] (L0 x) { tmps := (ps.zip (encs x)).foldl (fun t (p, v) => t.setIfInBounds p v) a.tmps, defers := [] })
    (hassign : ∀ (l : Nat) (x : α) (s : σ) (R : Ent), G N [] NoS w0 (L0 x) (R :: (Hc s ++ F)) (assign.wpIn (FW (some l)) 0 P (Exit.then (fun a w => ∃ q, St N [] NoS w0 (La x q) (Ent.box q (bx x) T :: R :: (Hc s ++ F)) a w) (fun _ _ _ => False))))
    (hbody : ∀ (l : Nat) (pre : List α) (x : α) (s : σ) (q : Nat) (R : Ent), I pre s → pre.length < xs.length → G N [] NoS w0 (La x q) (R :: Ent.box q (bx x) T :: (Hc s ++ F)) (body.wpIn (FW (some l)) 0 P (Exit.then (Rnd NoS w0 (I (pre ++ [x])) R Hc (Ent.box q (bx x) T :: F)) (fun _ _ _ => False))))
    (k : ∀ D s, w0.heap.size ≤ D → I xs s → G N (⟨.collected D, #[]⟩ :: ds) NoS w0 L (Ent.mark D :: (Hc s ++ F)) (Q .normal)) : G N ds NoS w0 L H (Code.wpIn (FW none) 0 P (Code.rangeFunc g ps assign body) Q) := fun a w hS => by
  have hsz := hS.wd.size
  have hF : ∀ e ∈ F, ∀ b, e.fp b → b < w.heap.size := fun e he b hb => (hS.wd.own e (hH.subset (List.mem_append_right _ he)) b hb).2
  have hcell : ∀ s W, Wd NoS w0 (Hc s ++ F) W → ∀ r o, W.heap[r]? = some o → o.isCells = false → w.heap.size ≤ r → ¬ fps (Hc s ++ F) r := by
    rintro s W hW r o ho hn hle ⟨e, he, hb⟩
    rcases List.mem_append.1 he with he | he
    · obtain ⟨j, hj⟩ := List.getElem?_of_mem (List.mem_append_left F he)
      obtain ⟨cs, t, z, hc⟩ := (hcl s e he).cells W (hW.get hj) r hb
      rw [hc] at ho
      cases ho
      cases hn
    · have := hF e he r hb; omega
  have hbox : ∀ s W, Wd NoS w0 (Hc s ++ F) W → W.heap[Bs]? = some (.cells bcs.toArray bt (0, 0)) := fun s W hW => by
    obtain ⟨j, hj⟩ := List.getElem?_of_mem (List.mem_append_right (Hc s) hBs)
    exact hW.get hj
  have htyp : ∀ s W, Wd NoS w0 (Hc s ++ F) W → ∀ q cs z, W.heap[q]? = some (.cells cs T z) → ¬ fps (Hc s) q := by
    rintro s W hW q cs z hq ⟨e, he, hb⟩
    obtain ⟨j, hj⟩ := List.getElem?_of_mem (List.mem_append_left F he)
    obtain ⟨cs', t, z', hc, hne⟩ := (hcl s e he).ty W (hW.get hj) q hb
    rw [hc] at hq
    simp only [Option.some.injEq, Obj.cells.injEq] at hq
    exact hne hq.2.1
  have hold : ∀ s, (∀ b, fps (Hc s) b → fps (Hc s0 ++ F) b ∨ w.heap.size ≤ b) → ∀ b, fps (Hc s ++ F) b → fps (Hc s0 ++ F) b ∨ w.heap.size ≤ b := by
    rintro s h b ⟨e, he, hb⟩
    rcases List.mem_append.1 he with he | he
    · exact h b ⟨e, he, hb⟩
    · exact .inl ⟨e, List.mem_append_right _ he, hb⟩
  have hout : ∀ s s' (H0 : List Ent) W W', Wd NoS w0 (Hc s ++ F) W → (∀ r o, W.heap[r]? = some o → o.isCells = false → w.heap.size ≤ r → ¬ fps H0 r) → Wd NoS w0 (Ent.rest (restOf w0.heap.size W H0) W :: (Hc s' ++ F)) W' → (∀ b, fps H0 b → fps (Hc s0 ++ F) b ∨ w.heap.size ≤ b) → KeepsFrom w.heap.size W W' ∧ KeepX (fun b => (fps (Hc s0 ++ F) b ∨ w.heap.size ≤ b) ∧ b ≠ Bs) W W' := by
    intro s s' H0 W W' hW hc0 hW' hx
    obtain ⟨hs, hr⟩ := hW'.get (k := 0) rfl
    refine ⟨⟨hs, fun j o hj ho hn => ?_⟩, fun b cs t z hb hc => ?_⟩
    · exact (hr j ⟨by omega, (Array.getElem?_eq_some_iff.1 ho).1, hc0 j o ho hn hj⟩).trans ho
    · by_cases e : b = Bs
      · subst e
        exact (hbox s' W' (hW'.sub (List.sublist_cons_self _ _))).trans ((hbox s W hW).symm.trans hc)
      · have hnf : ¬ (fps (Hc s0 ++ F) b ∨ w.heap.size ≤ b) := fun h => hb ⟨h, e⟩
        by_cases hlt : b < w0.heap.size
        · exact ((hW'.chg.block b hlt fun h => h).trans (hW.chg.block b hlt fun h => h).symm).trans hc
        · exact (hr b ⟨by omega, (Array.getElem?_eq_some_iff.1 hc).1, fun h0 => hnf (hx b h0)⟩).trans hc
  refine wpIn_deep (m := 5) ?_
  refine wpIn_rangeFunc_ownH (F := FW none) (n := 5) (w0 := w) rfl (by omega) (hg.eq _ _ _ hS.fr) trivial (fun args w => eg.run args w) (hseq w hS.wd) (fun h1 h2 => h1.trans h2) (fun W l o o' hl ho hn _ b cs t z _ hc => ?_) (Below.refl _ _) hps
    (fun pre W => ∃ s, I pre s ∧ Wd NoS w0 (Hc s ++ F) W ∧ w.heap.size ≤ W.heap.size ∧ ∀ b, fps (Hc s) b → fps (Hc s0 ++ F) b ∨ w.heap.size ≤ b) (fun _ _ _ => False) (fun pre W W' row ⟨s, hI, hW, hsW, hgr⟩ hg hr => ⟨s, hI, hW.grown hg fun r e => ?_, Nat.le_trans hsW hg.size, hgr⟩) (fun _ _ _ _ _ h => h.elim) ⟨s0, h0, hS.wd.sub hH, Nat.le_refl _, fun b ⟨e, he, hb⟩ => .inl ⟨e, List.mem_append_left _ he, hb⟩⟩
    (fun x a' W => ∃ q, Fr N [] (La x q) a' ∧ W.heap[q]? = some (.cells (bx x).toArray T (0, 0)) ∧ w.heap.size ≤ q ∧ ¬ fps F q) (fun x a' _ W W' row ⟨q, h1, h2, h3, h4⟩ hg hr => ⟨q, h1, ?_, h3, h4⟩) ?_ ?_ ?_ ?_
  · refine (World.putObj_heap_other fun e => ?_).trans hc
    subst e
    rw [hc] at ho
    cases ho
    cases hn
  · obtain ⟨h1, o, ho, hn⟩ := hr r e
    exact ⟨by omega, hcell s W hW r o ho hn h1⟩
  · refine (hg.block q (Array.getElem?_eq_some_iff.1 h2).1 fun e => ?_).trans h2
    obtain ⟨_, o, ho, hn⟩ := hr q e.symm
    rw [h2] at ho
    cases ho
    cases hn
  · rintro l pre x W K ⟨s, hI, hW, hsW, hgr⟩ hK
    refine wpIn_deep (m := 0) ?_
    refine Code.wpIn_mono (fun e a' W' q => ?_) (hassign l x s _ _ W ⟨hput x a hS.fr, hW.withRest⟩)
    cases e with
    | normal =>
      obtain ⟨q, hq⟩ := q
      have ho := hout s s _ W W' hW (hcell s W hW) (hq.wd.sub (List.sublist_cons_self _ _)) (hold s hgr)
      have hap := List.pairwise_cons.1 hq.wd.apart
      have hqf : ¬ fps (Hc s ++ F) q := fun ⟨e, he, hb⟩ => hap.1 e (List.mem_cons_of_mem _ he) q rfl hb
      have hqo := hq.wd.own (Ent.box q (bx x) T) (by simp) q rfl
      refine hK a' W' ho.1 ho.2 ⟨s, hI, hq.wd.sub (List.Sublist.cons _ (List.Sublist.cons _ (List.Sublist.refl _))), Nat.le_trans hsW ho.1.size, hgr⟩ ⟨q, hq.fr, hq.wd.get (k := 0) rfl, ?_, fun ⟨e, he, hb⟩ => hqf ⟨e, List.mem_append_right _ he, hb⟩⟩
      refine Classical.byContradiction fun hlt => ?_
      have h1 : w0.heap.size ≤ q := hqo.1.elim (fun h => h.elim) id
      exact hap.1 (Ent.rest (restOf w0.heap.size W (Hc s ++ F)) W) (by simp) q rfl ⟨h1, by omega, hqf⟩
    | _ => exact q.elim
  · rintro l pre x a' W _ _ ⟨s, hI, hW, hsW, hgr⟩ ⟨q', h1, h2, h3, h5⟩ hlt
    have h4 : ¬ fps (Hc s ++ F) q' := by
      rintro ⟨e, he, hb⟩
      rcases List.mem_append.1 he with he | he
      · exact htyp s W hW q' _ _ h2 ⟨e, he, hb⟩
      · exact h5 ⟨e, he, hb⟩
    have hWb : Wd NoS w0 (Ent.box q' (bx x) T :: (Hc s ++ F)) W := ⟨hW.chg, fun e he b hb => by
      rcases List.mem_cons.1 he with rfl | he
      · cases hb
        exact ⟨.inr (by omega), (Array.getElem?_eq_some_iff.1 h2).1⟩
      · exact hW.own e he b hb, fun e he w2 hs hw2 => by
      rcases List.mem_cons.1 he with rfl | he
      · exact (hw2 q' rfl).trans h2
      · exact hW.ok e he w2 hs hw2, List.pairwise_cons.2 ⟨fun f hf b hb hfb => by cases hb; exact h4 ⟨f, hf, hfb⟩, hW.apart⟩⟩
    refine wpIn_deep (m := 0) ?_
    refine Code.wpIn_mono (fun e a' W' q => ?_) (hbody l pre x s q' _ hI hlt a' W ⟨h1, hWb.withRest⟩)
    cases e with
    | normal =>
      obtain ⟨s', hI', hW'⟩ := q
      have hW2 : Wd NoS w0 (Ent.rest (restOf w0.heap.size W (Ent.box q' (bx x) T :: (Hc s ++ F))) W :: (Hc s' ++ F)) W' := hW'.sub (List.Sublist.cons_cons _ (List.Sublist.append_left (List.sublist_cons_self _ _) _))
      have hq2 : W'.heap[q']? = some (.cells (bx x).toArray T (0, 0)) := by
        obtain ⟨j, hj⟩ := List.getElem?_of_mem (show Ent.box q' (bx x) T ∈ Ent.rest (restOf w0.heap.size W (Ent.box q' (bx x) T :: (Hc s ++ F))) W :: (Hc s' ++ (Ent.box q' (bx x) T :: F)) by simp)
        exact hW'.get hj
      have ho := hout s s' _ W W' hW (fun r o ho hn hle => by
        rintro ⟨e, he, hb⟩
        rcases List.mem_cons.1 he with rfl | he
        · cases hb
          rw [h2] at ho
          cases ho
          cases hn
        · exact hcell s W hW r o ho hn hle ⟨e, he, hb⟩) hW2 (fun b hb => by
        obtain ⟨e, he, hb⟩ := hb
        rcases List.mem_cons.1 he with rfl | he
        · cases hb
          exact .inr h3
        · exact hold s hgr b ⟨e, he, hb⟩)
      refine ⟨ho.1, ho.2, s', hI', hW2.sub (List.sublist_cons_self _ _), Nat.le_trans hsW ho.1.size, fun b ⟨e, he, hb⟩ => ?_⟩
      refine Classical.byContradiction fun hn => ?_
      have hap := List.pairwise_cons.1 hW2.apart
      have hlo := (hW2.own e (List.mem_cons_of_mem _ (List.mem_append_left _ he)) b hb).1.elim (fun h => h.elim) id
      refine hap.1 e (List.mem_append_left _ he) b ⟨hlo, ?_, fun ⟨e2, he2, hb2⟩ => hn ?_⟩ hb
      · refine Classical.byContradiction fun h => hn (.inr (by omega))
      · rcases List.mem_cons.1 he2 with rfl | he2
        · cases hb2
          exact .inr h3
        · exact hold s hgr b ⟨e2, he2, hb2⟩
    | _ => exact q.elim
  · rintro D ys W hD rfl ⟨s, hI, hW, _, _⟩ hd
    refine k D s (by omega) hI _ W ⟨⟨hS.fr.size, by rw [hS.fr.defers], hS.fr.slot⟩, ?_⟩
    have hn : ¬ fps (Hc s ++ F) D := hcell s W hW D _ hd rfl hD
    exact ⟨hW.chg, fun e he b hb => by
      rcases List.mem_cons.1 he with rfl | he
      · cases hb
        exact ⟨.inr (by omega), (Array.getElem?_eq_some_iff.1 hd).1⟩
      · exact hW.own e he b hb, fun e he w2 hs hw2 => by
      rcases List.mem_cons.1 he with rfl | he
      · exact (hw2 D rfl).trans hd
      · exact hW.ok e he w2 hs hw2, List.pairwise_cons.2 ⟨fun f hf b hb hfb => by cases hb; exact hn ⟨f, hf, hfb⟩, hW.apart⟩⟩
  · intro D c pre W _ _ h
    exact h.elim
theorem leaves_marksW {fn : Func} {tmps : Array Value} {R : Value → World → Prop} {v : Value} (hr : ∀ w, Wd NoS w0 H w → (results fn tmps).run P w = .ok v w) (hR : ∀ w, Wd NoS w0 H w → R v w) : ∀ (Ds : List Nat) (w : World), Wd NoS w0 (marks Ds ++ H) w →
    LeavesInM (FW none) 0 P fn tmps (fun e w' => ∃ v, e = .returned v ∧ R v w') (dsOf Ds) .returning w
  | [], w, hW => ⟨v, hr w hW, v, rfl, hR w hW⟩
  | D :: Ds, w, hW => by
    have h1 : Wd NoS w0 (Ent.mark D :: (marks Ds ++ H)) w := hW
    have hD : w0.heap.size ≤ D := (h1.own (Ent.mark D) (by simp) D rfl).1.elim (fun h => h.elim) id
    exact ⟨by simp, .inl ⟨D, _, rfl, run_takeDeferred (h1.get (k := 0) rfl), leaves_marksW hr hR Ds _ (h1.shut hD _)⟩⟩
theorem g_retMsTC {fn : Func} {R : Value → World → Prop} (Ds : List Nat) {s t T n b j bt : Nat} {u : Value} {cs : List Value} (hr : fn.results = #[.tmp s, .cell t T]) [hu : SlotIs L s u] [hv : SlotIs L t (.pointer (some ⟨b, 0, none⟩))] [h : AggSize P T n] [hb : BoxIn H b j cs bt] [hl : LenIs cs n] (hR : ∀ w, Wd NoS w0 H w → R (.tuple #[u, .agg cs.toArray]) w) : G N (dsOf Ds) NoS w0 L (marks Ds ++ H) (bodyPostM (FW none) 0 P fn (fun e w' => ∃ v, e = .returned v ∧ R v w') .ret) := fun a w hS => by
  show LeavesInM _ _ _ _ _ _ _ _ _
  rw [hS.fr.defers]
  refine leaves_marksW (fun w hw => ?_) hR Ds w hS.wd
  have := run_loadBox (P := P) (T := T) (b := b) (cs := cs) hw
  simp [results, hr, Array.getD_eq_getD_getElem?, hS.fr.slot _ hv.mem, hS.fr.slot _ hu.mem, asAddr, this]
end
end Go.Proofs.YtebajiafdkokjaaDoor

/- What is live within a block, told from its end on; slices.Reverse of rows. -/
namespace Go.Proofs.YtebajiafdkokjaaDoor
open Go Go.RowKit
attribute [local irreducible] wpListIn Code.wpIn Exit.then Exit.inBlock bodyPost wpQuiet wpAnyIn wpAnyH
set_option maxHeartbeats 4000000

theorem live_len {bl : List LBlock} {b r : Nat} {B : LBlock} (hB : bl[b]? = some B) : LiveS bl r b B.list.length ↔ (namesR [B.on] r = true ∨ LiveS bl r b (B.list.length + 1)) := by
  constructor
  · intro h
    generalize hj : (B.list.length : Int) = j at h
    cases h with
    | phi => omega
    | use hB' hx => rw [hB] at hB'; cases hB'; have := (List.getElem?_eq_some_iff.1 hx).1; omega
    | go hB' hx => rw [hB] at hB'; cases hB'; have := (List.getElem?_eq_some_iff.1 hx).1; omega
    | on hB' hn => rw [hB] at hB'; cases hB'; exact .inl hn
    | take hB' _ ht hk => rw [hB] at hB'; cases hB'; exact .inr (.take hB (.inr (by omega)) ht hk)
    | jump hB' _ ht hk => rw [hB] at hB'; cases hB'; exact .inr (.jump hB (.inr (by omega)) ht hk)
  · rintro (h | h)
    · exact .on hB h
    · generalize hj : (B.list.length : Int) + 1 = j at h
      cases h with
      | phi => omega
      | use hB' hx => rw [hB] at hB'; cases hB'; have := (List.getElem?_eq_some_iff.1 hx).1; omega
      | go hB' hx => rw [hB] at hB'; cases hB'; have := (List.getElem?_eq_some_iff.1 hx).1; omega
      | on hB' => rw [hB] at hB'; cases hB'; omega
      | take hB' _ ht hk => rw [hB] at hB'; cases hB'; exact .take hB (.inl rfl) ht hk
      | jump hB' _ ht hk => rw [hB] at hB'; cases hB'; exact .jump hB (.inl rfl) ht hk
theorem live_ins {bl : List LBlock} {b r i : Nat} {B : LBlock} {x : LIns} (hB : bl[b]? = some B) (hx : B.list[i]? = some x) : LiveS bl r b i ↔ (namesR (usesOf x) r = true ∨ (x.dst ≠ r ∧ LiveS bl r b (i + 1 : Nat))) := by
  have hlt := (List.getElem?_eq_some_iff.1 hx).1
  constructor
  · intro h
    generalize hj : (i : Int) = j at h
    cases h with
    | phi => omega
    | @use _ i' _ _ hB' hx' hn =>
      rw [hB] at hB'; cases hB'
      have : i' = i := by omega
      subst this
      rw [hx] at hx'; cases hx'
      exact .inl hn
    | @go _ i' _ _ hB' hx' hd hl =>
      rw [hB] at hB'; cases hB'
      have : i' = i := by omega
      subst this
      rw [hx] at hx'; cases hx'
      exact .inr ⟨hd, hl⟩
    | on hB' => rw [hB] at hB'; cases hB'; omega
    | take hB' hj' => rw [hB] at hB'; cases hB'; omega
    | jump hB' hj' => rw [hB] at hB'; cases hB'; omega
  · rintro (h | ⟨h1, h2⟩)
    · exact .use hB hx h
    · exact .go hB hx h1 h2
/-- the sets from the end on -/
def setsL (s : List Bool) : List LIns → List (List Bool)
  | [] => [s]
  | x :: l => s :: setsL (insV s x) l
theorem setsL_add (x : LIns) : ∀ (l : List LIns) (s : List Bool), setsL s (l ++ [x]) = setsL s l ++ [insV (l.foldl insV s) x]
  | [], s => rfl
  | y :: l, s => by simp only [List.cons_append, setsL, setsL_add x l, List.foldl_cons]
theorem setsL_len : ∀ (l : List LIns) (s : List Bool), (setsL s l).length = l.length + 1
  | [], s => rfl
  | y :: l, s => by simp only [setsL, List.length_cons, setsL_len l]
theorem setsL_get : ∀ (l : List LIns) (s : List Bool) (k : Nat), k ≤ l.length → (setsL s l)[k]? = some ((l.take k).foldl insV s)
  | [], s, k, h => by
    have : k = 0 := by simpa using h
    subst this; rfl
  | y :: l, s, 0, _ => rfl
  | y :: l, s, k + 1, h => by
    simp only [setsL, List.getElem?_cons_succ, List.take_succ_cons, List.foldl_cons]
    exact setsL_get l (insV s y) k (by simpa using h)
theorem foldV_len : ∀ (l : List LIns) (s : List Bool), (l.foldl insV s).length = s.length
  | [], _ => rfl
  | y :: l, s => by rw [List.foldl_cons, foldV_len l, insV_length]
/-- the lists of a block -/
noncomputable def atG (bl : List LBlock) (R b n : Nat) : List (List Int) := (List.range (n + 1)).map fun j => intsL (liveN bl R (b, (j : Nat)))
theorem at_sets {R : Nat} {bl : List LBlock} {b : Nat} {B : LBlock} (hf : FuncOk R bl) (hB : bl[b]? = some B) {s : List Bool} (hs : s.length = R) (h : ∀ r, has s r ↔ LiveS bl r b B.list.length) :
    ((setsL s B.list.reverse).map fun s => intsL (trueN s)).reverse = atG bl R b B.list.length := by
  have hst : ∀ k, k ≤ B.list.length → ∀ r, has ((B.list.reverse.take k).foldl insV s) r ↔ LiveS bl r b ((B.list.length - k : Nat) : Int) := by
    intro k
    induction k with
    | zero => exact fun _ r => h r
    | succ k ih =>
      intro hk r
      obtain ⟨x, hx⟩ : ∃ x, B.list[B.list.length - 1 - k]? = some x := ⟨_, List.getElem?_eq_getElem (by omega)⟩
      have hxo := (hf.block b B hB).list x (List.mem_of_getElem? hx)
      rw [List.take_add_one, List.getElem?_reverse (by omega), hx, List.foldl_append]
      simp only [Option.toList_some, List.foldl_cons, List.foldl_nil]
      have hl : ((B.list.reverse.take k).foldl insV s).length = R := by rw [foldV_len, hs]
      rw [has_insV (by rw [hl]; exact hxo), ih (by omega) r, ← uses_vals hxo, show B.list.length - (k + 1) = B.list.length - 1 - k by omega, live_ins hB hx, show B.list.length - 1 - k + 1 = B.list.length - k by omega]
  apply List.ext_getElem?
  intro i
  unfold atG
  by_cases hi : i ≤ B.list.length
  · rw [List.getElem?_reverse (by rw [List.length_map, setsL_len, List.length_reverse]; omega), List.length_map, setsL_len, List.length_reverse, List.getElem?_map, setsL_get _ _ _ (by rw [List.length_reverse]; omega), List.getElem?_map, List.getElem?_range (by omega)]
    simp only [Option.map_some, Option.some.injEq]
    have := hst (B.list.length + 1 - 1 - i) (by omega)
    rw [show B.list.length - (B.list.length + 1 - 1 - i) = i by omega] at this
    rw [true_live (R := R) (bl := bl) (s := (b, (i : Int))) (by rw [foldV_len, hs]) this]
  · rw [List.getElem?_eq_none (by rw [List.length_reverse, List.length_map, setsL_len, List.length_reverse]; omega), List.getElem?_eq_none (by simp; omega)]

instance (r : Row) : OneV (valR r) := ⟨rfl⟩
theorem rev_swapA {α : Type} {l l' : List α} {i j : Nat} {x y : α} (hl : l'.length = l.length) (hij : i < j) (hj : i + j + 1 = l.length) (h : ∀ k, k < l.length → l'[k]? = if k < i ∨ j < k then l[l.length - 1 - k]? else l[k]?) (hx : l'[i]? = some x) (hy : l'[j]? = some y) :
    ∀ k, k < l.length → ((l'.set i y).set j x)[k]? = if k < i + 1 ∨ j - 1 < k then l[l.length - 1 - k]? else l[k]? := by
  intro k hk
  have hi := h i (by omega)
  have hjj := h j (by omega)
  rw [if_neg (by omega), hx] at hi
  rw [if_neg (by omega), hy] at hjj
  rw [List.getElem?_set, List.getElem?_set]
  by_cases e1 : j = k
  · subst e1
    rw [if_pos rfl, if_pos (by simp; omega), if_pos (by omega), show l.length - 1 - j = i by omega, hi]
  · rw [if_neg e1]
    by_cases e2 : i = k
    · subst e2
      rw [if_pos rfl, if_pos (by omega), if_pos (by omega), show l.length - 1 - i = j by omega, hjj]
    · rw [if_neg e2, h k hk]
      by_cases e3 : k < i ∨ j < k
      · rw [if_pos e3, if_pos (by omega)]
      · rw [if_neg e3, if_neg (by omega)]
theorem rev_doneA {α : Type} {l l' : List α} {i : Nat} (hl : l'.length = l.length) (hi : l.length ≤ 2 * i + 1) (h : ∀ k, k < l.length → l'[k]? = if k < i ∨ (l.length : Int) - 1 - i < k then l[l.length - 1 - k]? else l[k]?) : l' = l.reverse := by
  apply List.ext_getElem?
  intro k
  by_cases hk : k < l.length
  · rw [h k hk, List.getElem?_reverse hk]
    by_cases e : k < i ∨ (l.length : Int) - 1 - i < k
    · rw [if_pos e]
    · rw [if_neg e, show l.length - 1 - k = k by omega]
  · rw [List.getElem?_eq_none (by omega), List.getElem?_eq_none (by rw [List.length_reverse]; omega)]
theorem reverseR_c (a : Option Addr) (c : Nat) (l : List Row) (hlen : l.length ≤ 100000) (w : World) (hw : Wd (fps [Ent.vec a l.length c 27 1 (l.map valR)]) w [Ent.vec a l.length c 27 1 (l.map valR)] w) :
    Ret Tryd.prog 79 [.slice a l.length c] w fun u w' => ∃ _ : Unit, u = .tuple #[] ∧ Wd (fps [Ent.vec a l.length c 27 1 (l.map valR)]) w [Ent.vec a l.length c 27 1 (l.reverse.map valR)] w' ∧ True := by
  refine ret_enter Tryd.func79 rfl Tryd.ntmps79 rfl hw ?_
  generalize fps [Ent.vec a l.length c 27 1 (l.map valR)] = SS
  repeat (first | refine g_op rfl ?_ | refine g_then ?_ | refine g_nil ?_ | refine g_region ?_ | refine g_seq ?_ | refine g_block ?_ | refine g_sub rfl (by omega) (by omega) ?_)
  refine g_loop (fun (x : Nat × Int × Option Addr × List Row) => x.2.1 = (l.length : Int) - 1 - x.1 ∧ x.1 ≤ l.length ∧ x.2.2.2.length = l.length ∧ x.2.2.1 = a ∧ ∀ k, k < l.length → x.2.2.2[k]? = if k < x.1 ∨ (l.length : Int) - 1 - x.1 < k then l[l.length - 1 - k]? else l[k]?) (fun x => [(2, .int .i64 x.1), (3, .int .i64 x.2.1), (0, .slice x.2.2.1 l.length c)])
    (fun x => [Ent.vec x.2.2.1 l.length c 27 1 (x.2.2.2.map valR)]) (fun x => l.length - x.1) (0, (l.length : Int) - 1, a, l) ⟨by simp, Nat.zero_le _, rfl, rfl, fun k hk => by rw [if_neg (by simp only; omega)]⟩ (g_done (by repeat (first | exact trivial | refine ⟨rfl, ?_⟩)) (List.Sublist.refl _)) fun x ⟨hj, hi, hl, ha, hall⟩ => ?_
  obtain ⟨i, j, a', l'⟩ := x
  simp only at hj hi hl ha hall ⊢
  repeat (first | refine g_op rfl ?_ | refine g_then ?_ | refine g_nil ?_ | refine g_region ?_ | refine g_seq ?_)
  refine g_cond (fun h1 => ?_) (fun h1 => ?_)
  · have hlt : (i : Int) < j := by simpa using h1
    obtain ⟨jn, rfl⟩ : ∃ jn : Nat, j = jn := ⟨j.toNat, by omega⟩
    refine g_vec 0 rfl (by omega) fun rb ro hra => ?_
    obtain ⟨x, hx⟩ : ∃ x, l'[i]? = some x := ⟨_, List.getElem?_eq_getElem (by omega)⟩
    obtain ⟨y, hy⟩ : ∃ y, l'[jn]? = some y := ⟨_, List.getElem?_eq_getElem (by omega)⟩
    rw [hra]
    have hli : LtIs i l.length := ⟨by omega⟩
    have hlj : LtIs jn l.length := ⟨by omega⟩
    have he1 : ElAt l' i x := ⟨hx⟩
    have he2 : ElAt l' jn y := ⟨hy⟩
    have he3 : ElAt (l'.set i y) jn y := ⟨by rw [List.getElem?_set, if_neg (by omega), hy]⟩
    have he4 : ElAt (l'.set jn x) i x := ⟨by rw [List.getElem?_set, if_neg (by omega), hx]⟩
    repeat (first | refine g_then ?_ | refine g_seq ?_ | refine g_block ?_ | refine g_skip ?_)
    refine g_drawW [(2, .int .i64 i), (3, .int .i64 jn), (0, .slice (some ⟨rb, ro, none⟩) l.length c)] [Ent.vec (some ⟨rb, ro, none⟩) l.length c 27 1 (((l'.set i y).set jn x).map valR)] mixed ?_ ?_
    · repeat' (first | refine g_take 0 rfl (by decide +kernel) ?_ | refine g_take 1 rfl (by decide +kernel) ?_ | refine g_take 2 rfl (by decide +kernel) ?_ | refine g_take 3 rfl (by decide +kernel) ?_ | refine g_take 4 rfl (by decide +kernel) ?_ | refine g_take 5 rfl (by decide +kernel) ?_ | refine g_take 6 rfl (by decide +kernel) ?_ | refine g_take 8 rfl (by decide +kernel) ?_ | refine g_take 9 rfl (by decide +kernel) ?_ | refine g_take 10 rfl (by decide +kernel) ?_ | refine g_take 12 rfl (by decide +kernel) ?_ | refine g_take 14 rfl (by decide +kernel) ?_ | refine g_any0 (by decide +kernel) ?_ | refine g_any (by decide +kernel) ?_ | refine any_nil | refine any_skip (by decide +kernel) ?_ | refine any_cons ?_ ?_ | refine g_op rfl ?_ | refine g_then ?_ | refine g_nil ?_ | refine g_storeV ?_)
      all_goals exact g_done (by repeat (first | exact trivial | refine ⟨rfl, ?_⟩)) (List.Sublist.refl _)
    · repeat (first | refine g_op rfl ?_ | refine g_then ?_ | refine g_nil ?_ | refine g_region ?_ | refine g_opS rfl ?_ | refine g_inBlock ?_ | refine g_add rfl (by omega) (by omega) ?_ | refine g_sub rfl (by omega) (by omega) ?_)
      refine g_next (i + 1, (jn : Int) - 1, some ⟨rb, ro, none⟩, (l'.set i y).set jn x) ⟨by simp only; omega, by simp only; omega, by simpa using hl, by rw [← hra]; exact ha, fun k hk => ?_⟩ (by simp only; omega) (by repeat (first | exact trivial | refine ⟨rfl, ?_⟩)) (List.Sublist.refl _)
      have := rev_swapA hl (by omega) (by omega) (fun k hk => by
        rw [hall k hk]
        by_cases e : k < i ∨ jn < k
        · rw [if_pos e, if_pos (by omega)]
        · rw [if_neg e, if_neg (by omega)]) hx hy k hk
      rw [this]
      by_cases e : k < i + 1 ∨ jn - 1 < k
      · rw [if_pos e, if_pos (by simp only; omega)]
      · rw [if_neg e, if_neg (by simp only; omega)]
  · have hge : l' = l.reverse := rev_doneA hl (by simp at h1; omega) hall
    repeat (first | refine g_exit ?_ | refine g_thenExit ?_ | refine g_exitHere ?_)
    refine g_end0 rfl fun w' hw' => ⟨(), rfl, ?_, trivial⟩
    rw [← hge, ← ha]
    exact hw'
end Go.Proofs.YtebajiafdkokjaaDoor

/- live.At: what it returns. -/
namespace Go.Proofs.YtebajiafdkokjaaDoor
open Go Go.RowKit
attribute [local irreducible] wpListIn Code.wpIn Exit.then Exit.inBlock bodyPost wpQuiet wpAnyIn wpAnyH bodyPostM
set_option maxHeartbeats 8000000

theorem permLive {α : Type} (a r q p v : α) (F R : List α) : (a :: r :: q :: p :: v :: (F ++ R)).Perm (r :: ((a :: p :: v :: R) ++ (q :: F))) := by
  have h1 : (R ++ q :: F).Perm (q :: (F ++ R)) := List.perm_middle.trans (List.Perm.cons q List.perm_append_comm)
  have h2 : (p :: v :: (R ++ q :: F)).Perm (p :: v :: q :: (F ++ R)) := (h1.cons v).cons p
  have h3 : (p :: v :: q :: (F ++ R)).Perm (q :: p :: v :: (F ++ R)) := ((List.Perm.swap q v _).cons p).trans (List.Perm.swap q p _)
  exact (List.Perm.swap r a _).trans ((((h2.trans h3).symm).cons a).cons r)
theorem permEnd {α : Type} (m a p v : α) (R F : List α) : (m :: ((a :: p :: v :: R) ++ F)).Perm (v :: m :: a :: p :: (R ++ F)) := List.perm_middle (l₁ := [m, a, p]) (a := v)
theorem permAt {α : Type} (v m a p : α) (R F : List α) : ([v] ++ (m :: a :: p :: (R ++ F))).Perm (m :: (F ++ (p :: v :: a :: R))) := by
  have h1 : (F ++ (p :: v :: a :: R)).Perm (p :: v :: a :: (R ++ F)) := List.perm_append_comm
  have h2 : (v :: a :: p :: (R ++ F)).Perm (p :: v :: a :: (R ++ F)) := List.perm_middle (l₁ := [v, a]) (a := p)
  exact (List.Perm.swap m v _).trans ((h2.trans h1.symm).cons m)
theorem vecB_sl {S : Nat → Prop} {w0 w : World} {H : List Ent} {k : Nat} {a : Option Addr} {R c : Nat} {s : List Bool} (h : Wd S w0 H w) (hk : H[k]? = some (vecB a R c s)) (hl : s.length = R) (hR : R ≤ 1000) : SlAt w (.slice a R c) 1 s BoolV := by
  refine h.slAt (k := k) (a := a) (n := R) (c := c) (e := 4) (s := 1) (xs := s.map .bool) hk hl.symm (by omega) fun j y hy => ⟨[.bool y], fun q v hq => ?_, rfl⟩
  match q, hq with
  | 0, hq => simpa [hy] using hq
theorem trueN_eq {s : List Bool} {R : Nat} (h : s.length = R) : trueN s = (List.range R).filter fun r => decide (s[r]? = some true) := by unfold trueN; rw [h]
theorem at_bad (u : LUnit) (hl : light u) (k : Int) (hk : inI k) (b : Int) (hbad : (askedL u k).1 ≠ 0) (g fs : Value) (w0 : World) (hg : SlAt w0 g 3 u.globals GlobalV) (hf : SlAt w0 fs 4 u.funcs FuncV) (hways : CellsAt w0 0 0 waysC) :
    RetV Tryd.prog 40 [.agg #[g, fs], .int .i64 k, .int .i64 b] w0 (.tuple #[.slice none 0 0, .agg #[.int .i64 (askedL u k).1, .int .i64 (askedL u k).2]]) := by
  have hg0 := hg
  have hf0 := hf
  obtain ⟨ga, gn, gc, gb, go, rfl, _⟩ := hg
  obtain ⟨fa, fn, fc, fb, fo, rfl, _⟩ := hf
  refine ret_enterM Tryd.func40 rfl Tryd.ntmps40 rfl (Wd.nil NoS w0) ?_
  repeat (first | refine g_op rfl ?_ | refine g_then ?_ | refine g_nil ?_ | refine g_region ?_ | refine g_seq ?_ | refine g_box rfl fun _ _ => ?_ | refine g_alloc rfl fun _ _ => ?_)
  rename_i p3 _ p7 _
  refine g_callV rfl (fun w hw => func_bad u hl k hk hbad _ _ w (hg0.keep keeps_global hw.chg) (hf0.keep keeps_func hw.chg) (hways.keep hw.chg)) ?_
  unfold zeroFn
  repeat (first | refine g_op rfl ?_ | refine g_then ?_ | refine g_nil ?_ | refine g_region ?_ | refine g_seq ?_ | refine g_alloc rfl fun _ _ => ?_ | refine g_storeAgg ?_)
  rename_i p8 _ p9 _
  refine g_cond (fun h1 => ?_) (fun h1 => ?_)
  · repeat (refine g_seq ?_)
    refine g_drawW [(6, .slice none 0 0), (7, .pointer (some ⟨p7, 0, none⟩))] [Ent.box p7 [.int .i64 (askedL u k).1, .int .i64 (askedL u k).2] 29] mixed ?_ ?_
    · repeat' (first | refine g_any0 (by decide +kernel) ?_ | refine g_any (by decide +kernel) ?_ | refine any_nil | refine any_skip (by decide +kernel) ?_ | refine any_cons ?_ ?_ | refine g_op rfl ?_ | refine g_then ?_ | refine g_nil ?_ | refine g_opS rfl ?_ | refine g_storeAgg ?_)
      all_goals exact g_done (by repeat (first | exact trivial | refine ⟨rfl, ?_⟩)) (by simp)
    · repeat (first | refine g_then ?_ | refine g_ret ?_ | refine g_thenRet ?_)
      exact g_retMsTC [] rfl fun _ hw => ⟨rfl, hw.chg⟩
  · exact absurd h1 (by simp [hbad])
theorem at_ok (u : LUnit) (hl : light u) (k : Nat) (hgood : (askedL u k).1 = 0) (X : LFunc) (hX : u.funcs[k]? = some X) (hch : (checkL u).1 = 0) (b : Nat) (B : LBlock) (hB : X.blocks[b]? = some B) (g fs : Value) (w0 : World) (hg : SlAt w0 g 3 u.globals GlobalV) (hf : SlAt w0 fs 4 u.funcs FuncV) (hways : CellsAt w0 0 0 waysC) :
    Ret Tryd.prog 40 [.agg #[g, fs], .int .i64 k, .int .i64 b] w0 fun v w' => ∃ x : Option Addr × Nat × List Row, v = .tuple #[.slice x.1 (B.list.length + 1) x.2.1, .agg #[.int .i64 0, .int .i64 0]] ∧ Wd NoS w0 (Ent.vec x.1 (B.list.length + 1) x.2.1 27 1 (x.2.2.map valR) :: x.2.2.map entR) w' ∧ x.2.2.map (·.l) = atG X.blocks X.regs.toNat b B.list.length := by
  classical
  have hg0 := hg
  have hf0 := hf
  obtain ⟨ga, gn, gc, gb, go, rfl, _⟩ := hg
  obtain ⟨fa, fn, fc, fb, fo, rfl, _⟩ := hf
  have hlx := hl.2 X (List.mem_of_getElem? hX)
  have h24 := hlx.1
  obtain ⟨bv, hbv, hfc⟩ := func_ok u hl k hgood _ _ X hX w0 hg0 hf0 hways
  have hbv0 := hbv
  obtain ⟨ba, n, bc, bb, bo', rfl, hn, hnc, hnb, hbc, hba, hel⟩ := hbv
  refine ret_enterM Tryd.func40 rfl Tryd.ntmps40 rfl (Wd.nil NoS w0) ?_
  repeat (first | refine g_op rfl ?_ | refine g_then ?_ | refine g_nil ?_ | refine g_region ?_ | refine g_seq ?_ | refine g_box rfl fun _ _ => ?_ | refine g_alloc rfl fun _ _ => ?_)
  rename_i p3 _ p7 _
  refine g_callV rfl (fun w hw => hfc w hw.chg) ?_
  repeat (first | refine g_op rfl ?_ | refine g_then ?_ | refine g_nil ?_ | refine g_region ?_ | refine g_seq ?_ | refine g_alloc rfl fun _ _ => ?_ | refine g_storeAgg ?_ | refine g_skip ?_ | refine g_condF ?_ | refine g_sub rfl (by omega) (by omega) ?_)
  rename_i p8 _ p9 _
  obtain ⟨R, hXR, hR, hFO⟩ := check_func hch hX
  have hlens := light_lens hlx
  have hargs := check_args hch hX
  rw [show X.regs.toNat = R by omega, hXR]
  have hbn : b < n := by rw [hn]; exact (List.getElem?_eq_some_iff.1 hB).1
  refine g_callV rfl (fun w hw => within_c _ _ _ w) ?_
  rw [show within (b : Int) 0 ((n : Int) - 1) = true by simp [within]; omega]
  repeat (first | refine g_op rfl ?_ | refine g_then ?_ | refine g_nil ?_ | refine g_region ?_ | refine g_seq ?_ | refine g_skip ?_ | refine g_condF ?_)
  refine g_callE (val := fun x : (Option Addr × Nat × List RowB) × (Option Addr × Nat × List RowB) => .tuple #[.slice x.1.1 X.blocks.length x.1.2.1, .slice x.2.1 X.blocks.length x.2.2.1]) (E := fun x => Ent.vec x.1.1 X.blocks.length x.1.2.1 107 1 (x.1.2.2.map (valS R)) :: Ent.vec x.2.1 X.blocks.length x.2.2.1 107 1 (x.2.2.2.map (valS R)) :: (x.1.2.2.map (entS R) ++ x.2.2.2.map (entS R))) (φ := fun x => AllR R X.blocks x.1.2.2 x.2.2.2) rfl
    (fun w hw => allOf_c _ _ R hR X.blocks _ w (hbv0.keep keeps_block hw.chg) (by omega) hFO hargs hlens) fun x hA => ?_
  obtain ⟨⟨ia, ic, ins⟩, ⟨oa, oc, outs⟩⟩ := x
  simp only at hA ⊢
  obtain ⟨q, hq⟩ : ∃ q, outs[b]? = some q := ⟨_, List.getElem?_eq_getElem (by rw [hA.outLen, ← hn]; exact hbn)⟩
  obtain ⟨sa, sc, s0⟩ := q
  have hs0 : s0.length = R := hA.outRow _ (List.mem_of_getElem? hq)
  have hs0L := fun r => hA.outAt b _ r B hq hB
  simp only at hs0L
  refine g_wd (H' := [Ent.box p9 [.int .i64 0, .int .i64 0] 29, Ent.box p8 [.string X.name, .int .i64 X.params, .int .i64 R, .slice ba n bc] 35, Ent.box p7 [.int .i64 0, .int .i64 0] 29, Ent.vec oa X.blocks.length oc 107 1 (outs.map (valS R)), vecB sa R sc s0]) (fun w hw => ?_) ?_
  · refine (hw.perm List.perm_append_comm).sub ?_
    exact List.Sublist.cons_cons _ (List.Sublist.cons_cons _ (List.Sublist.cons_cons _ (List.Sublist.cons _ (List.Sublist.cons _ (List.Sublist.cons_cons _ (List.singleton_sublist.2 (List.mem_append_right _ (List.mem_map.2 ⟨_, List.mem_of_getElem? hq, rfl⟩))))))))
  refine g_vec 3 rfl (by omega) fun vb vo hva => ?_
  subst hva
  have hlb : LtIs b X.blocks.length := ⟨by omega⟩
  have hxa : XAt (outs.map (valS R)) (b * 1) (.slice sa R sc) := ⟨by simp [hq, valS]⟩
  repeat (first | refine g_op rfl ?_ | refine g_then ?_ | refine g_nil ?_ | refine g_region ?_ | refine g_seq ?_ | refine g_store ?_ | refine g_alloc rfl fun _ _ => ?_)
  rename_i p12 _
  obtain ⟨csB, hcsB, pv, lv, tv, rfl, _, _, hpv, hlv, htv⟩ := hel b B hB
  obtain ⟨pa, pn, pc, _, _, rfl, _⟩ := hpv
  obtain ⟨ta, tn, tc, _, _, rfl, _⟩ := htv
  obtain ⟨la, ln, lc, lb, lo, rfl, hln, hlnc, _, _, hla, hlel⟩ := hlv
  have hadB : AddrIs ba bb bo' := ⟨hba (ne_of_get hB)⟩
  have hlbn : LtIs b n := ⟨hbn⟩
  have hciB : CellsIs w0 bb (bo' + b * 6) _ := ⟨hcsB⟩
  have hBo := hFO.block b B hB
  refine g_permH (H1 := [vecB sa R sc s0] ++ [Ent.box p12 [.slice sa R sc] 107, Ent.box p9 [.int .i64 0, .int .i64 0] 29, Ent.box p8 [.string X.name, .int .i64 X.params, .int .i64 R, .slice ba n bc] 35, Ent.box p7 [.int .i64 0, .int .i64 0] 29, Ent.vec (some ⟨vb, vo, none⟩) X.blocks.length oc 107 1 (outs.map (valS R))]) (by simpa using (List.perm_append_comm (l₁ := [Ent.box p12 [.slice sa R sc] 107, Ent.box p9 [.int .i64 0, .int .i64 0] 29, Ent.box p8 [.string X.name, .int .i64 X.params, .int .i64 R, .slice ba n bc] 35, Ent.box p7 [.int .i64 0, .int .i64 0] 29, Ent.vec (some ⟨vb, vo, none⟩) X.blocks.length oc 107 1 (outs.map (valS R))]) (l₂ := [vecB sa R sc s0]))) ?_
  refine g_fix (L' := [(12, .pointer (some ⟨p12, 0, none⟩)), (8, .pointer (some ⟨p8, 0, none⟩)), (9, .pointer (some ⟨p9, 0, none⟩)), (7, .pointer (some ⟨p7, 0, none⟩)), (2, .int .i64 b)]) (by repeat (first | exact trivial | refine ⟨rfl, ?_⟩)) (List.Sublist.refl _) ?_
  refine g_mid [(12, .pointer (some ⟨p12, 0, none⟩)), (8, .pointer (some ⟨p8, 0, none⟩)), (9, .pointer (some ⟨p9, 0, none⟩)), (7, .pointer (some ⟨p7, 0, none⟩)), (2, .int .i64 b)] [vecB sa R sc (takeV s0 B.on), Ent.box p12 [.slice sa R sc] 107, Ent.box p9 [.int .i64 0, .int .i64 0] 29, Ent.box p8 [.string X.name, .int .i64 X.params, .int .i64 R, .slice ba n bc] 35, Ent.box p7 [.int .i64 0, .int .i64 0] 29] ?_ ?_
  · refine g_drawH [Ent.box p12 [.slice sa R sc] 107, Ent.box p9 [.int .i64 0, .int .i64 0] 29, Ent.box p8 [.string X.name, .int .i64 X.params, .int .i64 R, .slice ba n bc] 35, Ent.box p7 [.int .i64 0, .int .i64 0] 29] mixed (by simp) ?_
    refine h_take 0 rfl (by decide +kernel) (by simp) ?_
    refine h_take 1 rfl (by decide +kernel) (by simp) ?_
    refine h_take 2 rfl (by decide +kernel) (by simp) ?_
    refine h_take 3 rfl (by decide +kernel) (by simp) ?_
    refine h_take 4 rfl (by decide +kernel) (by simp) ?_
    refine h_take 5 rfl (by decide +kernel) (by simp) ?_
    refine h_take 6 rfl (by decide +kernel) (by simp) ?_
    refine h_take 7 rfl (by decide +kernel) (by simp) ?_
    refine h_callS 8 (H1 := [vecB sa R sc s0]) (H2 := [Ent.box p12 [.slice sa R sc] 107, Ent.box p9 [.int .i64 0, .int .i64 0] 29, Ent.box p8 [.string X.name, .int .i64 X.params, .int .i64 R, .slice ba n bc] 35, Ent.box p7 [.int .i64 0, .int .i64 0] 29, Ent.vec (some ⟨vb, vo, none⟩) X.blocks.length oc 107 1 (outs.map (valS R))]) (val := fun _ : Unit => .tuple #[]) (E := fun _ => [vecB sa R sc (takeV s0 B.on)]) (φ := fun _ => True) rfl (by decide +kernel) (by simp) (fun w hw => take_c sa R sc s0 hs0 B.on hBo.on w hw.pre) fun _ _ => ?_
    refine h_end (by decide +kernel) ?_
    repeat (refine g_then ?_)
    exact g_done (by repeat (first | exact trivial | refine ⟨rfl, ?_⟩)) (List.Sublist.cons_cons _ (List.Sublist.cons_cons _ (List.Sublist.cons_cons _ (List.Sublist.cons_cons _ (List.Sublist.cons_cons _ (List.nil_sublist _))))))
  have hs1 : (takeV s0 B.on).length = R := by rw [takeV_length, hs0]
  have hs1L : ∀ r, has (takeV s0 B.on) r ↔ LiveS X.blocks r b B.list.length := fun r => by
    rw [has_takeV (by rw [hs0]; exact hBo.on), hs0L, live_len hB]
    simp only [namesR, List.any_cons, List.any_nil, Bool.or_false, Bool.and_eq_true, decide_eq_true_eq]
    exact Or.comm
  generalize takeV s0 B.on = s1 at hs1 hs1L
  repeat (first | refine g_op rfl ?_ | refine g_region ?_ | refine g_seq ?_)
  refine g_callE (val := fun x : Option Addr × Nat × List Nat => .slice x.1 x.2.2.length x.2.1) (E := fun x => [Ent.vec x.1 x.2.2.length x.2.1 3 1 (x.2.2.map intN)]) (φ := fun x => x.2.2 = trueN s1) rfl (fun w hw => by
    have := list_c sa R sc s1 (by omega) w (vecB_sl hw (k := 0) rfl hs1 (by omega))
    rw [← trueN_eq hs1] at this
    exact this) fun x hx => ?_
  obtain ⟨xa, xc, l1⟩ := x
  simp only at hx
  subst hx
  have htl := trueN_len (s := s1)
  simp only [List.cons_append, List.nil_append]
  repeat (first | refine g_op rfl ?_ | refine g_then ?_ | refine g_nil ?_ | refine g_region ?_ | refine g_seq ?_ | refine g_store ?_ | refine g_alloc rfl fun _ _ => ?_ | refine g_build1 rfl rfl fun _ _ => ?_)
  rename_i e1 _ p13 _
  refine g_callE (val := fun p : Nat × Nat => .func (.func 114) #[] #[.pointer (some ⟨p.1, 0, none⟩)]) (E := fun p => [Ent.box p.1 [.slice la ln lc] p.2]) (φ := fun _ => True) rfl (fun w hw => backwardI_c _ ⟨_, _, _, rfl⟩ w) fun Bp _ => ?_
  obtain ⟨Bs, Bt⟩ := Bp
  simp only [List.cons_append, List.nil_append]
  repeat (first | refine g_then ?_ | refine g_nil ?_ | refine g_block ?_)
  obtain ⟨zs, xs, hzl, h8, hxs, hxm, hzc⟩ := insA_ex (R := R) (wz := w0) (a := la) (n := ln) (c := lc) hBo.list (hargs B (List.mem_of_getElem? hB)) hlel
  have hfold : ∀ (l : List (InsA R w0)) (s : List Bool), l.foldl (fun s y => insV s y.1.2.1) s = (l.map (·.1.2.1)).foldl insV s := fun l s => by rw [List.foldl_map]
  refine g_fix (L' := [(61, .func (.func 114) #[] #[.pointer (some ⟨Bs, 0, none⟩)]), (13, .pointer (some ⟨p13, 0, none⟩)), (12, .pointer (some ⟨p12, 0, none⟩)), (8, .pointer (some ⟨p8, 0, none⟩)), (9, .pointer (some ⟨p9, 0, none⟩)), (7, .pointer (some ⟨p7, 0, none⟩)), (2, .int .i64 b)]) (by repeat (first | exact trivial | refine ⟨rfl, ?_⟩)) (List.Sublist.refl _) ?_
  refine g_sel [4, 1, 2, 3, 0, 5, 6, 7, 8] (by decide) ?_
  refine g_eqH (H1 := ([vecB sa R sc s1, Ent.box p13 [.slice (some ⟨e1, 0, none⟩) 1 1] 44, Ent.vec (some ⟨e1, 0, none⟩) 1 1 27 1 ([(⟨xa, xc, intsL (trueN s1)⟩ : Row)].map valR)] ++ [(⟨xa, xc, intsL (trueN s1)⟩ : Row)].map entR) ++ [Ent.box Bs [.slice la ln lc] Bt, Ent.box p12 [.slice sa R sc] 107, Ent.box p9 [.int .i64 0, .int .i64 0] 29, Ent.box p8 [.string X.name, .int .i64 X.params, .int .i64 R, .slice ba n bc] 35, Ent.box p7 [.int .i64 0, .int .i64 0] 29]) ?_ ?_
  · simp only [valR, entR, intsL, map_intN, List.map_cons, List.map_nil, List.length_map, List.cons_append, List.nil_append]
  refine g_rangeG (α := InsA R w0) (σ := List Bool × Option Addr × Nat × List Row) (gf := 114) (lb := [.pointer (some ⟨Bs, 0, none⟩)]) [Ent.box Bs [.slice la ln lc] Bt, Ent.box p12 [.slice sa R sc] 107, Ent.box p9 [.int .i64 0, .int .i64 0] 29, Ent.box p8 [.string X.name, .int .i64 X.params, .int .i64 R, .slice ba n bc] 35, Ent.box p7 [.int .i64 0, .int .i64 0] 29] (fun s => [vecB sa R sc s.1, Ent.box p13 [.slice s.2.1 s.2.2.2.length s.2.2.1] 44, Ent.vec s.2.1 s.2.2.2.length s.2.2.1 27 1 (s.2.2.2.map valR)] ++ s.2.2.2.map entR) (s1, some ⟨e1, 0, none⟩, 1, [(⟨xa, xc, intsL (trueN s1)⟩ : Row)]) 114 (fun s e he => ?_) xs
    (encs := fun y => #[.int .i64 (InsA.enc y).1, .agg (InsA.enc y).2.toArray]) (Bs := Bs) (bcs := [.slice la ln lc]) (bt := Bt) (List.mem_cons_self ..)
    (fun w1 hw1 => ?_) (fun pre s => s.1 = (pre.map (·.1.2.1)).foldl insV s1 ∧ s.2.2.2.map (·.l) = (setsL s1 (pre.map (·.1.2.1))).map fun s => intsL (trueN s)) ⟨rfl, rfl⟩ (List.Sublist.refl _) (fun _ => rfl) (fun y => insC y.1.2.1 y.1.2.2)
    (fun y => [(63, .agg (insC y.1.2.1 y.1.2.2).toArray), (62, .int .i64 y.1.1), (13, .pointer (some ⟨p13, 0, none⟩)), (12, .pointer (some ⟨p12, 0, none⟩)), (8, .pointer (some ⟨p8, 0, none⟩)), (9, .pointer (some ⟨p9, 0, none⟩)), (7, .pointer (some ⟨p7, 0, none⟩)), (2, .int .i64 b)]) (fun y q => [(15, .pointer (some ⟨q, 0, none⟩)), (13, .pointer (some ⟨p13, 0, none⟩)), (12, .pointer (some ⟨p12, 0, none⟩)), (8, .pointer (some ⟨p8, 0, none⟩)), (9, .pointer (some ⟨p9, 0, none⟩)), (7, .pointer (some ⟨p7, 0, none⟩)), (2, .int .i64 b)]) (fun y a h => ?_) (fun l y s R' => ?_) (fun l pre y s q RR hI hlt => ?_) fun D s2 hD hI => ?_
  · rcases List.mem_append.1 he with he | he
    · simp only [List.mem_cons, List.not_mem_nil, or_false] at he
      rcases he with rfl | rfl | rfl
      · exact tyN_vec (by decide)
      · exact tyN_box (by decide)
      · exact tyN_vec (by decide)
    · obtain ⟨r, _, rfl⟩ := List.mem_map.1 he
      exact tyN_vec (by decide)
  · have hownz : ∀ b', fps _ b' → w0.heap.size ≤ b' := fun b' ⟨e, he, hb'⟩ => (hw1.own e he b' hb').1.elim (fun h => h.elim) id
    refine backInsStops (R := R) (wz := w0) (b := lb) (o := lo) (by omega) (fun hne => hla (fun e => hne (by rw [e] at hzl; exact List.eq_nil_of_length_eq_zero hzl))) (by have := (hlens B (List.mem_of_getElem? hB)).1; omega) h8 hzc (fun b' hb' h => ?_) (fun h => h.2 rfl) hw1.chg (hw1.cellBox 4 (b := Bs) (cs := [.slice la ln lc]) (t := Bt) (o := 0) rfl rfl) hxs
    rcases h.1 with h | h
    · have := hownz b' h; omega
    · have := hw1.size; omega
  · have h2 := ((h.to (L' := [(13, .pointer (some ⟨p13, 0, none⟩)), (12, .pointer (some ⟨p12, 0, none⟩)), (8, .pointer (some ⟨p8, 0, none⟩)), (9, .pointer (some ⟨p9, 0, none⟩)), (7, .pointer (some ⟨p7, 0, none⟩)), (2, .int .i64 b)]) (by repeat (first | exact trivial | refine ⟨rfl, ?_⟩))).putOk (d := 62) rfl (.int .i64 y.1.1)).putOk (d := 63) rfl (.agg (insC y.1.2.1 y.1.2.2).toArray)
    have e : (#[62, 63].zip #[Value.int .i64 (InsA.enc y).1, .agg (InsA.enc y).2.toArray]).foldl (fun (t : Array Value) (q : Tmp × Value) => t.setIfInBounds q.1 q.2) a.tmps = (a.tmps.setIfInBounds 62 (.int .i64 y.1.1)).setIfInBounds 63 (.agg (insC y.1.2.1 y.1.2.2).toArray) := by simp [InsA.enc]
    refine ⟨Eq.trans (congrArg Array.size e) h2.size, rfl, fun p hp => ?_⟩
    exact Eq.trans (congrArg (fun t : Array Value => t[p.1]?) e) (h2.slot p hp)
  · simp only [insC]
    repeat (first | refine g_then ?_ | refine g_nil ?_ | refine g_region ?_ | refine g_alloc rfl fun _ _ => ?_ | refine g_storeAgg ?_)
    exact g_doneP _ (by repeat (first | exact trivial | refine ⟨rfl, ?_⟩)) (List.Sublist.refl _)
  · obtain ⟨⟨i0, x, ⟨va, vn, vc⟩⟩, hxo, hxal, hxs2⟩ := y
    obtain ⟨s, ra, rc, rs⟩ := s
    obtain ⟨hI1, hI2⟩ := hI
    simp only at hxo hxal hxs2 hI1 hI2
    have hsl2 : s.length = R := by rw [hI1, foldV_len, hs1]
    have hrl : rs.length = pre.length + 1 := by have := congrArg List.length hI2; simpa [setsL_len] using this
    have hxl : xs.length = B.list.length := by have := congrArg List.length hxm; simpa using this
    have hBl := (hlens B (List.mem_of_getElem? hB)).1
    simp only
    refine g_permH (H1 := RR :: Ent.box q (insC x (va, vn, vc)) 114 :: vecB sa R sc s :: Ent.box p13 [.slice ra rs.length rc] 44 :: Ent.vec ra rs.length rc 27 1 (rs.map valR) :: Ent.box Bs [.slice la ln lc] Bt :: Ent.box p12 [.slice sa R sc] 107 :: Ent.box p9 [.int .i64 0, .int .i64 0] 29 :: Ent.box p8 [.string X.name, .int .i64 X.params, .int .i64 R, .slice ba n bc] 35 :: Ent.box p7 [.int .i64 0, .int .i64 0] 29 :: rs.map entR) (List.Perm.cons _ (List.Perm.cons _ (List.Perm.cons _ (List.Perm.cons _ (List.Perm.cons _ (List.perm_append_comm (l₁ := rs.map entR) (l₂ := [Ent.box Bs [.slice la ln lc] Bt, Ent.box p12 [.slice sa R sc] 107, Ent.box p9 [.int .i64 0, .int .i64 0] 29, Ent.box p8 [.string X.name, .int .i64 X.params, .int .i64 R, .slice ba n bc] 35, Ent.box p7 [.int .i64 0, .int .i64 0] 29]))))))) ?_
    simp only [insC]
    repeat (first | refine g_op rfl ?_ | refine g_region ?_ | refine g_seq ?_ | refine g_block ?_)
    refine g_permH (List.perm_middle (l₁ := [RR, Ent.box q (insC x (va, vn, vc)) 114]) (a := vecB sa R sc s)) ?_
    refine g_eqH (H1 := [vecB sa R sc s] ++ (RR :: Ent.box q (insC x (va, vn, vc)) 114 :: Ent.box p13 [.slice ra rs.length rc] 44 :: Ent.vec ra rs.length rc 27 1 (rs.map valR) :: Ent.box Bs [.slice la ln lc] Bt :: Ent.box p12 [.slice sa R sc] 107 :: Ent.box p9 [.int .i64 0, .int .i64 0] 29 :: Ent.box p8 [.string X.name, .int .i64 X.params, .int .i64 R, .slice ba n bc] 35 :: Ent.box p7 [.int .i64 0, .int .i64 0] 29 :: rs.map entR)) rfl ?_
    refine g_callS (val := fun _ : Unit => .tuple #[]) (E := fun _ => [vecB sa R sc (insV s x)]) (φ := fun _ => True) rfl (fun w hw => setAhead_c sa R sc s hsl2 x hxo (by omega) va vn vc w0 hxs2 w (hw.sub (List.sublist_append_left _ _))) fun _ _ => ?_
    simp only [List.cons_append, List.nil_append]
    have hsv : (insV s x).length = R := by rw [insV_length, hsl2]
    have hsn : setsL s1 ((pre ++ [(⟨(i0, x, (va, vn, vc)), hxo, hxal, hxs2⟩ : InsA R w0)]).map (·.1.2.1)) = setsL s1 (pre.map (·.1.2.1)) ++ [insV s x] := by
      rw [List.map_append, List.map_cons, List.map_nil, setsL_add, ← hI1]
    have hfn : ((pre ++ [(⟨(i0, x, (va, vn, vc)), hxo, hxal, hxs2⟩ : InsA R w0)]).map (·.1.2.1)).foldl insV s1 = insV s x := by
      rw [List.map_append, List.foldl_append, ← hI1]; rfl
    generalize insV s x = s' at hsv hsn hfn
    have htl' := trueN_len (s := s')
    repeat (first | refine g_then ?_ | refine g_nil ?_)
    refine g_fix (L' := [(15, .pointer (some ⟨q, 0, none⟩)), (13, .pointer (some ⟨p13, 0, none⟩)), (12, .pointer (some ⟨p12, 0, none⟩)), (8, .pointer (some ⟨p8, 0, none⟩)), (9, .pointer (some ⟨p9, 0, none⟩)), (7, .pointer (some ⟨p7, 0, none⟩)), (2, .int .i64 b)]) (by repeat (first | exact trivial | refine ⟨rfl, ?_⟩)) (List.Sublist.refl _) ?_
    refine g_drawE (fun z : (Option Addr × Nat) × (Option Addr × Nat) => [(15, .pointer (some ⟨q, 0, none⟩)), (13, .pointer (some ⟨p13, 0, none⟩)), (12, .pointer (some ⟨p12, 0, none⟩)), (8, .pointer (some ⟨p8, 0, none⟩)), (9, .pointer (some ⟨p9, 0, none⟩)), (7, .pointer (some ⟨p7, 0, none⟩)), (2, .int .i64 b)]) (fun z => vecB sa R sc s' :: RR :: Ent.box q (insC x (va, vn, vc)) 114 :: Ent.box p13 [.slice z.1.1 (rs.length + 1) z.1.2] 44 :: Ent.vec z.1.1 (rs.length + 1) z.1.2 27 1 ((rs ++ [(⟨z.2.1, z.2.2, intsL (trueN s')⟩ : Row)]).map valR) :: Ent.box Bs [.slice la ln lc] Bt :: Ent.box p12 [.slice sa R sc] 107 :: Ent.box p9 [.int .i64 0, .int .i64 0] 29 :: Ent.box p8 [.string X.name, .int .i64 X.params, .int .i64 R, .slice ba n bc] 35 :: Ent.box p7 [.int .i64 0, .int .i64 0] 29 :: (rs ++ [(⟨z.2.1, z.2.2, intsL (trueN s')⟩ : Row)]).map entR) mixed ?_ fun z => ?_
    · repeat' (first | refine g_any (by decide +kernel) ?_ | refine any_nil | refine any_skip (by decide +kernel) ?_ | refine any_cons ?_ ?_ | refine g_op rfl ?_ | refine g_then ?_ | refine g_nil ?_)
      all_goals
        refine g_callE (val := fun x : Option Addr × Nat × List Nat => .slice x.1 x.2.2.length x.2.1) (E := fun x => [Ent.vec x.1 x.2.2.length x.2.1 3 1 (x.2.2.map intN)]) (φ := fun x => x.2.2 = trueN s') rfl (fun w hw => by
          have := list_c sa R sc s' (by omega) w (vecB_sl hw (k := 0) rfl hsv (by omega))
          rw [← trueN_eq hsv] at this
          exact this) fun x hx => ?_
        obtain ⟨ya, yc, l1⟩ := x
        simp only at hx
        subst hx
        simp only [List.cons_append, List.nil_append]
      repeat' (first | refine g_any (by decide +kernel) ?_ | refine any_nil | refine any_skip (by decide +kernel) ?_ | refine any_cons ?_ ?_ | refine g_op rfl ?_ | refine g_then ?_ | refine g_nil ?_ | refine g_build1 rfl rfl fun _ _ => ?_)
      all_goals
        refine g_append rfl rfl (by omega) (by omega) fun a' c' => ?_
      repeat' (first | refine g_any0 (by decide +kernel) ?_ | refine g_any (by decide +kernel) ?_ | refine any_nil | refine any_skip (by decide +kernel) ?_ | refine any_cons ?_ ?_ | refine g_then ?_ | refine g_nil ?_ | refine g_store ?_)
      all_goals
        refine g_fix (L' := [(15, .pointer (some ⟨q, 0, none⟩)), (13, .pointer (some ⟨p13, 0, none⟩)), (12, .pointer (some ⟨p12, 0, none⟩)), (8, .pointer (some ⟨p8, 0, none⟩)), (9, .pointer (some ⟨p9, 0, none⟩)), (7, .pointer (some ⟨p7, 0, none⟩)), (2, .int .i64 b)]) (by repeat (first | exact trivial | refine ⟨rfl, ?_⟩)) (List.Sublist.cons _ (List.Sublist.refl _)) ?_
        refine g_permH (List.perm_append_comm (l₁ := [Ent.vec ya (trueN s').length yc 3 1 ((trueN s').map intN)])) ?_
        refine g_eqH (H1 := vecB sa R sc s' :: RR :: Ent.box q (insC x (va, vn, vc)) 114 :: Ent.box p13 [.slice a' (rs.length + 1) c'] 44 :: Ent.vec a' (rs.length + 1) c' 27 1 ((rs ++ [(⟨ya, yc, intsL (trueN s')⟩ : Row)]).map valR) :: Ent.box Bs [.slice la ln lc] Bt :: Ent.box p12 [.slice sa R sc] 107 :: Ent.box p9 [.int .i64 0, .int .i64 0] 29 :: Ent.box p8 [.string X.name, .int .i64 X.params, .int .i64 R, .slice ba n bc] 35 :: Ent.box p7 [.int .i64 0, .int .i64 0] 29 :: (rs ++ [(⟨ya, yc, intsL (trueN s')⟩ : Row)]).map entR) (by simp only [valR, entR, intsL, map_intN, List.map_append, List.map_cons, List.map_nil, List.length_map, List.cons_append, List.nil_append]) ?_
        exact g_doneE ((a', c'), (ya, yc)) (by repeat (first | exact trivial | refine ⟨rfl, ?_⟩)) (List.Sublist.refl _)
    · repeat (first | refine g_then ?_ | refine g_inBlock ?_)
      obtain ⟨⟨za, zc⟩, ⟨ya, yc⟩⟩ := z
      simp only
      refine g_permH (permLive _ _ _ _ _ [Ent.box Bs [.slice la ln lc] Bt, Ent.box p12 [.slice sa R sc] 107, Ent.box p9 [.int .i64 0, .int .i64 0] 29, Ent.box p8 [.string X.name, .int .i64 X.params, .int .i64 R, .slice ba n bc] 35, Ent.box p7 [.int .i64 0, .int .i64 0] 29] _) ?_
      refine g_eqH (H1 := RR :: ((vecB sa R sc s' :: Ent.box p13 [.slice za (rs ++ [(⟨ya, yc, intsL (trueN s')⟩ : Row)]).length zc] 44 :: Ent.vec za (rs ++ [(⟨ya, yc, intsL (trueN s')⟩ : Row)]).length zc 27 1 ((rs ++ [(⟨ya, yc, intsL (trueN s')⟩ : Row)]).map valR) :: (rs ++ [(⟨ya, yc, intsL (trueN s')⟩ : Row)]).map entR) ++ (Ent.box q (insC x (va, vn, vc)) 114 :: [Ent.box Bs [.slice la ln lc] Bt, Ent.box p12 [.slice sa R sc] 107, Ent.box p9 [.int .i64 0, .int .i64 0] 29, Ent.box p8 [.string X.name, .int .i64 X.params, .int .i64 R, .slice ba n bc] 35, Ent.box p7 [.int .i64 0, .int .i64 0] 29]))) ?_ ?_
      · rw [List.length_append, List.length_singleton]
      refine g_rnd (s', za, zc, rs ++ [(⟨ya, yc, intsL (trueN s')⟩ : Row)]) ⟨hfn.symm, ?_⟩ (List.Sublist.refl _)
      simp only
      rw [hsn, List.map_append, List.map_append, hI2]; rfl
  · obtain ⟨s, ra, rc, rs⟩ := s2
    obtain ⟨hI1, hI2⟩ := hI
    simp only at hI1 hI2 ⊢
    rw [hxm] at hI2
    have hrl : rs.length = B.list.length + 1 := by have := congrArg List.length hI2; simpa [setsL_len] using this
    have hBl := (hlens B (List.mem_of_getElem? hB)).1
    repeat (first | refine g_then ?_ | refine g_region ?_ | refine g_seq ?_ | refine g_inBlock ?_)
    refine g_permH (permEnd _ _ _ _ _ _) ?_
    repeat (refine g_op rfl ?_)
    refine g_eqH (H1 := [Ent.vec ra rs.length rc 27 1 (rs.map valR)] ++ (Ent.mark D :: vecB sa R sc s :: Ent.box p13 [.slice ra rs.length rc] 44 :: (rs.map entR ++ [Ent.box Bs [.slice la ln lc] Bt, Ent.box p12 [.slice sa R sc] 107, Ent.box p9 [.int .i64 0, .int .i64 0] 29, Ent.box p8 [.string X.name, .int .i64 X.params, .int .i64 R, .slice ba n bc] 35, Ent.box p7 [.int .i64 0, .int .i64 0] 29]))) rfl ?_
    refine g_callS (val := fun _ : Unit => .tuple #[]) (E := fun _ => [Ent.vec ra rs.length rc 27 1 (rs.reverse.map valR)]) (φ := fun _ => True) rfl (fun w hw => reverseR_c ra rc rs (by omega) w hw.pre) fun _ _ => ?_
    refine g_permH (permAt _ _ _ _ _ _) ?_
    simp only [List.cons_append, List.nil_append]
    refine g_fix (L' := [(13, .pointer (some ⟨p13, 0, none⟩)), (9, .pointer (some ⟨p9, 0, none⟩)), (7, .pointer (some ⟨p7, 0, none⟩))]) (by repeat (first | exact trivial | refine ⟨rfl, ?_⟩)) (List.Sublist.refl _) ?_
    repeat (first | refine g_then ?_ | refine g_nil ?_ | refine g_seq ?_)
    refine g_drawW [(6, .slice ra rs.length rc), (7, .pointer (some ⟨p7, 0, none⟩))] (Ent.mark D :: Ent.box p7 [.int .i64 0, .int .i64 0] 29 :: Ent.vec ra rs.length rc 27 1 (rs.reverse.map valR) :: rs.map entR) mixed ?_ ?_
    · repeat' (first | refine g_any0 (by decide +kernel) ?_ | refine g_any (by decide +kernel) ?_ | refine any_nil | refine any_skip (by decide +kernel) ?_ | refine any_cons ?_ ?_ | refine g_op rfl ?_ | refine g_then ?_ | refine g_nil ?_ | refine g_storeAgg ?_)
      all_goals exact g_done (by repeat (first | exact trivial | refine ⟨rfl, ?_⟩)) (List.Sublist.cons_cons _ (List.Sublist.cons _ (List.Sublist.cons _ (List.Sublist.cons _ (List.Sublist.cons _ (List.Sublist.cons_cons _ (List.Sublist.cons _ (List.Sublist.cons_cons _ (List.Sublist.cons _ (List.Sublist.refl _))))))))))
    · repeat (first | refine g_then ?_ | refine g_ret ?_)
      refine g_eqH (H1 := marks [D] ++ (Ent.box p7 [.int .i64 0, .int .i64 0] 29 :: Ent.vec ra rs.length rc 27 1 (rs.reverse.map valR) :: rs.map entR)) rfl ?_
      refine g_retMsTC [D] rfl fun w hw => ⟨(ra, rc, rs.reverse), by rw [hrl], ?_, ?_⟩
      · simp only
        rw [← hrl]
        exact (hw.sub (List.Sublist.cons _ (List.Sublist.refl _))).perm (List.Perm.cons _ ((List.reverse_perm rs).symm.map entR))
      · simp only
        rw [List.map_reverse, hI2]
        exact at_sets hFO hB hs1 hs1L
end Go.Proofs.YtebajiafdkokjaaDoor

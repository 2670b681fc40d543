/- Texts joined: DoH DoI DoJ. -/
import Derived.Test.YtbmnkjaelfjlhaaDoorGI
import Derived.Test.YtbmnkjaelfjlhaaDoorGX
import Derived.Test.YtbmnkjaelfjlhaaDoorHJ
import Derived.Test.YtbmnkjaelfjlhaaDoorHR
import Derived.Test.YtbmnkjaelfjlhaaDoorHS
/- turneryref3.spare: the first that nobody needs, or none. -/
namespace Go.Proofs.YtbmnkjaelfjlhaaDoor
open Go Go.RowKit
attribute [local irreducible] wpListIn Code.wpIn Exit.then Exit.inBlock bodyPost wpQuiet wpAnyIn wpAnyH bodyPostM oneH
set_option maxHeartbeats 4000000

structure NoCut (W : Int) (bl : List LBlock) (b : Nat) (B : LBlock) : Prop where
  ins : ∀ (i : Nat) x, B.list[i]? = some x → quietI W x = true → ∃ r : Nat, x.dst = r ∧ LiveS bl r b (i + 1 : Nat)
  phi : ∀ (i : Nat) p, B.phis[i]? = some p → ∃ r : Nat, p.dst = r ∧ LiveS bl r b 0
theorem noCut_end {W : Int} {bl : List LBlock} (h : ∀ (b : Nat) B, bl[b]? = some B → NoCut W bl b B) : Trim0 W bl := fun bl' hc => by
  cases hc with
  | @ins b i B x hB hx hq hd =>
    obtain ⟨r, h1, h2⟩ := (h b B hB).ins i x hx hq
    exact hd r h1 h2
  | @phi b i B p hB hp hd =>
    obtain ⟨r, h1, h2⟩ := (h b B hB).phi i p hp
    exact hd r h1 h2
/-- what spare tells -/
def SpareR (W : Int) (bl : List LBlock) (x : Int × Int × Bool) : Prop :=
  (x = (-1, 0, false) ∧ Trim0 W bl) ∨
  (∃ (b i : Nat) (B : LBlock) (y : LIns), x = ((b : Int), (i : Int), false) ∧ bl[b]? = some B ∧ B.list[i]? = some y ∧ Cut W bl (delI bl b i)) ∨
  (∃ (b i : Nat) (B : LBlock) (p : LPhi), x = ((b : Int), (i : Int), true) ∧ bl[b]? = some B ∧ B.phis[i]? = some p ∧ Cut W bl (delP bl b i))
section
variable {P : Program} {N : Nat} {ds : List Deferred} {S : Nat → Prop} {w0 : World} {L : List (Nat × Value)} {H : List Ent}
theorem g_ret3 {fn : Func} {R : Value → World → Prop} {t s q : Nat} {v u z : Value} (hr : fn.results = #[.tmp t, .tmp s, .tmp q]) [hv : SlotIs L t v] [hu : SlotIs L s u] [hz : SlotIs L q z] (hR : ∀ w, Wd S w0 H w → R (.tuple #[v, u, z]) w) : G N [] S w0 L H (bodyPost P fn (fun e w' => ∃ v, e = .returned v ∧ R v w') .ret) := fun a w hS => by
  unfold bodyPost
  exact ⟨hS.fr.defers, .tuple #[v, u, z], by simp [results, hr, Array.getD_eq_getD_getElem?, hS.fr.slot _ hv.mem, hS.fr.slot _ hu.mem, hS.fr.slot _ hz.mem], _, rfl, hR w hS.wd⟩
end
theorem spare_c (W : Int) (nm pa re : Value) (bl : List LBlock) (bs : Value) (hbsl : ∃ a n c, bs = .slice a n c) (w0 : World) (hbs : SlAt w0 bs 6 bl BlockV) (hlen : bl.length ≤ 100) (R : Nat) (hf : FuncOk R bl) (hqd : QDst bl) (hlist : ∀ B ∈ bl, B.list.length ≤ 1000) (hphis : ∀ B ∈ bl, B.phis.length ≤ 1000) (hargs : ∀ B ∈ bl, ∀ x ∈ B.list, x.args.length ≤ 1000) :
    Ret Tryd.prog 66 [.int .i64 W, .agg #[nm, pa, re, bs]] w0 fun u w' => ∃ x : Int × Int × Bool, u = .tuple #[.int .i64 x.1, .int .i64 x.2.1, .bool x.2.2] ∧ Wd NoS w0 [] w' ∧ SpareR W bl x := by
  classical
  have hbs0 := hbs
  obtain ⟨ba, n, bc, bb, bo, rfl, hn, hnc, hnb, hbc, hba, hel⟩ := hbs
  refine ret_enter Tryd.func66 rfl Tryd.ntmps66 rfl (Wd.nil NoS w0) ?_
  repeat (first | refine g_op rfl ?_ | refine g_then ?_ | refine g_nil ?_ | refine g_region ?_ | refine g_seq ?_ | refine g_box rfl fun _ _ => ?_ | refine g_block ?_)
  rename_i p3 _
  refine g_loop (fun (b : Nat) => b ≤ n ∧ ∀ (j : Nat) B, j < b → bl[j]? = some B → NoCut W bl j B) (fun b => [(7, .int .i64 b), (3, .pointer (some ⟨p3, 0, none⟩)), (0, .int .i64 W)]) (fun _ => [Ent.box p3 [nm, pa, re, .slice ba n bc] 35]) (fun b => n - b) 0 ⟨Nat.zero_le _, fun j B hj => by omega⟩ (g_done (by repeat (first | exact trivial | refine ⟨rfl, ?_⟩)) (List.Sublist.refl _)) fun b ⟨hb, hall⟩ => ?_
  repeat (first | refine g_op rfl ?_ | refine g_then ?_ | refine g_nil ?_ | refine g_region ?_ | refine g_seq ?_)
  refine g_cond (fun h1 => ?_) (fun h1 => ?_)
  · have hlt : b < n := by simpa using h1
    obtain ⟨B, hB⟩ : ∃ B, bl[b]? = some B := ⟨_, List.getElem?_eq_getElem (by omega)⟩
    have had : AddrIs ba bb bo := ⟨hba (ne_of_get hB)⟩
    have hli : LtIs b n := ⟨hlt⟩
    obtain ⟨_, hcs, pv, lv, tv, rfl, _, _, hpv, hlv, htv⟩ := hel b B hB
    have hci : CellsIs w0 bb (bo + b * 6) _ := ⟨hcs⟩
    obtain ⟨pa', pn, pc, pb, po, rfl, hpn, _, _, _, hpa, hpel⟩ := hpv
    obtain ⟨la, ln, lc, lb, lo, rfl, hln, _, _, _, hla, hlel⟩ := hlv
    obtain ⟨ta, tn, tc, _, _, rfl, _⟩ := htv
    have hBm := List.mem_of_getElem? hB
    have hl1 := hlist B hBm
    have hl2 := hphis B hBm
    have hBok := hf.block b B hB
    repeat (first | refine g_op rfl ?_ | refine g_then ?_ | refine g_nil ?_ | refine g_region ?_ | refine g_seq ?_ | refine g_alloc rfl fun _ _ => ?_ | refine g_storeAgg ?_ | refine g_block ?_ | refine g_skip ?_ | refine g_sub rfl (by omega) (by omega) ?_)
    rename_i p8 _
    refine g_loop (fun (j : Nat) => j ≤ ln ∧ ∀ (i : Nat) x, j ≤ i → B.list[i]? = some x → quietI W x = true → ∃ r : Nat, x.dst = r ∧ LiveS bl r b (i + 1 : Nat)) (fun j => [(9, .int .i64 ((j : Int) - 1)), (8, .pointer (some ⟨p8, 0, none⟩)), (7, .int .i64 b), (3, .pointer (some ⟨p3, 0, none⟩)), (0, .int .i64 W)]) (fun _ => [Ent.box p8 [.slice pa' pn pc, .slice la ln lc, .int .i64 B.kind, .bool B.on.reg, .int .i64 B.on.n, .slice ta tn tc] 47, Ent.box p3 [nm, pa, re, .slice ba n bc] 35]) (fun j => j) ln ⟨Nat.le_refl _, fun i x hi hx => by have := (List.getElem?_eq_some_iff.1 hx).1; omega⟩ (g_done (by repeat (first | exact trivial | refine ⟨rfl, ?_⟩)) (List.Sublist.refl _)) fun j ⟨hj, hins⟩ => ?_
    repeat (first | refine g_op rfl ?_ | refine g_then ?_ | refine g_nil ?_ | refine g_region ?_ | refine g_seq ?_)
    refine g_cond (fun h2 => ?_) (fun h2 => ?_)
    · obtain ⟨i, rfl⟩ : ∃ i, j = i + 1 := ⟨j - 1, by simp at h2; omega⟩
      rw [show ((i + 1 : Nat) : Int) - 1 = (i : Int) by omega]
      obtain ⟨x, hx⟩ : ∃ x, B.list[i]? = some x := ⟨_, List.getElem?_eq_getElem (by omega)⟩
      have hxm := List.mem_of_getElem? hx
      have hadl : AddrIs la lb lo := ⟨hla (ne_of_get hx)⟩
      have hli2 : LtIs i ln := ⟨by omega⟩
      obtain ⟨_, hcx, av, rfl, _, _, _, _, _, hav⟩ := hlel i x hx
      obtain ⟨aa, an, ac, _, _, rfl, _⟩ := hav
      have hcix : CellsIs w0 lb (lo + i * 8) _ := ⟨hcx⟩
      repeat (first | refine g_then ?_ | refine g_seq ?_ | refine g_block ?_ | refine g_skip ?_)
      refine g_draw mixed (by kernel_rfl) ?_
      repeat (refine q_op rfl ?_)
      refine q_call rfl (fun w _ => refQuiet_c W _ _ _ _ _ _ _ _ w) ?_
      generalize hqt : quietL W x.op x.a.reg x.a.n x.b.reg x.b.n = qt
      have hqt' : quietI W x = qt := hqt
      cases qt
      case false =>
        repeat (first | refine q_op rfl ?_ | refine q_pass rfl ?_ | refine q_nil ?_)
        repeat (first | refine g_op rfl ?_ | refine g_then ?_ | refine g_nil ?_ | refine g_region ?_ | refine g_opS rfl ?_ | refine g_inBlock ?_ | refine g_skip ?_ | refine g_condF ?_ | refine g_sub rfl (by omega) (by omega) ?_)
        refine g_next i ⟨by omega, fun i' x' hi' hx' hq => ?_⟩ (by omega) (by repeat (first | exact trivial | refine ⟨rfl, ?_⟩)) (List.Sublist.refl _)
        by_cases e : i' = i
        · subst e
          rw [hx] at hx'
          obtain rfl := Option.some.inj hx'
          rw [hqt'] at hq; cases hq
        · exact hins i' x' (by omega) hx' hq
      obtain ⟨h3, h4⟩ := quiet_op hqt'
      have hd0 := hqd B hBm x hxm h3 h4
      obtain ⟨r, hr⟩ : ∃ r : Nat, x.dst = r := ⟨x.dst.toNat, by omega⟩
      repeat (first | refine q_op rfl ?_ | refine q_open ?_ | refine q_add rfl (by omega) (by omega) ?_)
      rw [hr, show (i : Int) + 1 = ((i + 1 : Nat) : Int) by omega]
      refine q_call rfl (fun w hw => live_c _ _ _ bl _ ⟨_, _, _, rfl⟩ r (b, ((i + 1 : Nat) : Int)) w (hbs0.keep keeps_block hw.chg) hlen R hf hlist hargs ⟨by omega, B, hB, by omega⟩) ?_
      by_cases hlv : LiveS bl r b (i + 1 : Nat)
      · rw [decide_eq_true hlv]
        repeat (first | refine q_op rfl ?_ | refine q_open ?_ | refine q_nil ?_)
        repeat (first | refine g_op rfl ?_ | refine g_then ?_ | refine g_nil ?_ | refine g_region ?_ | refine g_opS rfl ?_ | refine g_inBlock ?_ | refine g_skip ?_ | refine g_condF ?_ | refine g_sub rfl (by omega) (by omega) ?_)
        refine g_next i ⟨by omega, fun i' x' hi' hx' hq => ?_⟩ (by omega) (by repeat (first | exact trivial | refine ⟨rfl, ?_⟩)) (List.Sublist.refl _)
        by_cases e : i' = i
        · subst e
          rw [hx] at hx'
          obtain rfl := Option.some.inj hx'
          exact ⟨r, hr, hlv⟩
        · exact hins i' x' (by omega) hx' hq
      · rw [decide_eq_false hlv]
        repeat (first | refine q_op rfl ?_ | refine q_open ?_ | refine q_nil ?_)
        repeat (first | refine g_op rfl ?_ | refine g_then ?_ | refine g_nil ?_ | refine g_region ?_ | refine g_seq ?_ | refine g_condT ?_ | refine g_ret ?_ | refine g_thenRet ?_ | refine g_blockRet ?_)
        refine g_ret3 rfl fun w hw => ⟨((b : Int), (i : Int), false), rfl, hw.pick inferInstance, .inr (.inl ⟨b, i, B, x, rfl, hB, hx, .ins hB hx hqt' fun r' hr' => ?_⟩)⟩
        obtain rfl : r' = r := by omega
        exact hlv
    have hins0 : ∀ (i : Nat) x, B.list[i]? = some x → quietI W x = true → ∃ r : Nat, x.dst = r ∧ LiveS bl r b (i + 1 : Nat) := fun i x => hins i x (by have := h2; simp at this; omega)
    repeat (first | refine g_op rfl ?_ | refine g_then ?_ | refine g_nil ?_ | refine g_region ?_ | refine g_seq ?_ | refine g_block ?_ | refine g_exit ?_ | refine g_thenExit ?_ | refine g_exitHere ?_)
    refine g_loop (fun (j : Nat) => j ≤ pn ∧ ∀ (i : Nat) p, i < j → B.phis[i]? = some p → ∃ r : Nat, p.dst = r ∧ LiveS bl r b 0) (fun j => [(10, .int .i64 j), (8, .pointer (some ⟨p8, 0, none⟩)), (7, .int .i64 b), (3, .pointer (some ⟨p3, 0, none⟩)), (0, .int .i64 W)]) (fun _ => [Ent.box p8 [.slice pa' pn pc, .slice la ln lc, .int .i64 B.kind, .bool B.on.reg, .int .i64 B.on.n, .slice ta tn tc] 47, Ent.box p3 [nm, pa, re, .slice ba n bc] 35]) (fun j => pn - j) 0 ⟨Nat.zero_le _, fun i p hi => by omega⟩ (g_done (by repeat (first | exact trivial | refine ⟨rfl, ?_⟩)) (List.Sublist.refl _)) fun i ⟨hi, hph⟩ => ?_
    repeat (first | refine g_op rfl ?_ | refine g_then ?_ | refine g_nil ?_ | refine g_region ?_ | refine g_seq ?_)
    refine g_cond (fun h3 => ?_) (fun h3 => ?_)
    · have hlt2 : i < pn := by simpa using h3
      obtain ⟨p, hp⟩ : ∃ p, B.phis[i]? = some p := ⟨_, List.getElem?_eq_getElem (by omega)⟩
      have hpm := List.mem_of_getElem? hp
      have hadp : AddrIs pa' pb po := ⟨hpa (ne_of_get hp)⟩
      have hli2 : LtIs i pn := ⟨hlt2⟩
      obtain ⟨_, hcx, av, rfl, _, hav⟩ := hpel i p hp
      have hcix : CellsIs w0 pb (po + i * 2) _ := ⟨hcx⟩
      have hpd := (hBok.phis p hpm).dst
      obtain ⟨r, hr⟩ : ∃ r : Nat, p.dst = r := ⟨p.dst.toNat, by omega⟩
      repeat (first | refine g_then ?_ | refine g_seq ?_ | refine g_block ?_ | refine g_skip ?_)
      refine g_draw mixed (by kernel_rfl) ?_
      repeat (refine q_op rfl ?_)
      rw [hr]
      refine q_call rfl (fun w hw => live_c _ _ _ bl _ ⟨_, _, _, rfl⟩ r (b, (0 : Int)) w (hbs0.keep keeps_block hw.chg) hlen R hf hlist hargs ⟨by omega, B, hB, by omega⟩) ?_
      by_cases hlv : LiveS bl r b 0
      · rw [decide_eq_true hlv]
        repeat (first | refine q_op rfl ?_ | refine q_nil ?_)
        repeat (first | refine g_op rfl ?_ | refine g_then ?_ | refine g_nil ?_ | refine g_region ?_ | refine g_opS rfl ?_ | refine g_inBlock ?_ | refine g_skip ?_ | refine g_condF ?_ | refine g_add rfl (by omega) (by omega) ?_)
        refine g_next (i + 1) ⟨by omega, fun i' p' hi' hp' => ?_⟩ (by omega) (by repeat (first | exact trivial | refine ⟨rfl, ?_⟩)) (List.Sublist.refl _)
        by_cases e : i' = i
        · subst e
          rw [hp] at hp'
          obtain rfl := Option.some.inj hp'
          exact ⟨r, hr, hlv⟩
        · exact hph i' p' (by omega) hp'
      · rw [decide_eq_false hlv]
        repeat (first | refine q_op rfl ?_ | refine q_nil ?_)
        repeat (first | refine g_op rfl ?_ | refine g_then ?_ | refine g_nil ?_ | refine g_region ?_ | refine g_seq ?_ | refine g_condT ?_ | refine g_ret ?_ | refine g_thenRet ?_ | refine g_blockRet ?_)
        refine g_ret3 rfl fun w hw => ⟨((b : Int), (i : Int), true), rfl, hw.pick inferInstance, .inr (.inr ⟨b, i, B, p, rfl, hB, hp, .phi hB hp fun r' hr' => ?_⟩)⟩
        obtain rfl : r' = r := by omega
        exact hlv
    · repeat (first | refine g_op rfl ?_ | refine g_then ?_ | refine g_nil ?_ | refine g_region ?_ | refine g_opS rfl ?_ | refine g_inBlock ?_ | refine g_add rfl (by omega) (by omega) ?_ | refine g_exit ?_ | refine g_thenExit ?_ | refine g_exitHere ?_)
      refine g_next (b + 1) ⟨by omega, fun j C hj hC => ?_⟩ (by omega) (by repeat (first | exact trivial | refine ⟨rfl, ?_⟩)) (List.Sublist.cons _ (List.Sublist.refl _))
      by_cases e : j = b
      · subst e
        rw [hB] at hC
        obtain rfl := Option.some.inj hC
        exact ⟨hins0, fun i p hp => hph i p (by have := (List.getElem?_eq_some_iff.1 hp).1; have := h3; simp at this; omega) hp⟩
      · exact hall j C (by omega) hC
  · repeat (first | refine g_op rfl ?_ | refine g_then ?_ | refine g_nil ?_ | refine g_region ?_ | refine g_seq ?_ | refine g_exit ?_ | refine g_thenExit ?_ | refine g_exitHere ?_ | refine g_ret ?_)
    refine g_ret3 rfl fun w hw => ⟨(-1, 0, false), rfl, hw.pick inferInstance, .inl ⟨rfl, noCut_end fun j C hC => hall j C (by have := (List.getElem?_eq_some_iff.1 hC).1; have := h1; simp at this; omega) hC⟩⟩
end Go.Proofs.YtbmnkjaelfjlhaaDoor


/- turneryref3.Trim: what it makes of a function. -/
namespace Go.Proofs.YtbmnkjaelfjlhaaDoor
open Go Go.RowKit
attribute [local irreducible] wpListIn Code.wpIn Exit.then Exit.inBlock bodyPost wpQuiet wpAnyIn wpAnyH bodyPostM oneH
set_option maxHeartbeats 8000000

theorem sl_take {α : Type} {w : World} {a : Option Addr} {n c s i : Nat} {l : List α} {V : World → α → List Value → Prop} (h : SlAt w (.slice a n c) s l V) (hi : i ≤ n) : SlAt w (.slice a i c) s (l.take i) V := by
  obtain ⟨_, _, _, b, o, e, hn, hnc, hb, hc, ha, hel⟩ := h
  simp only [Value.slice.injEq] at e
  obtain ⟨rfl, rfl, rfl⟩ := e
  refine ⟨_, _, _, b, o, rfl, by rw [List.length_take]; omega, by omega, by omega, hc, fun h0 => ha fun e => h0 (by rw [e]; simp), fun j x hx => ?_⟩
  rw [List.getElem?_take] at hx
  split at hx
  · exact hel j x hx
  · cases hx
theorem sl_drop {α : Type} {w : World} {b o n c s i : Nat} {l : List α} {V : World → α → List Value → Prop} (h : SlAt w (.slice (some ⟨b, o, none⟩) n c) s l V) (hi : i ≤ n) : SlAt w (.slice (cutA b o i s c) (n - i) (c - i)) s (l.drop i) V := by
  obtain ⟨_, _, _, b', o', e, hn, hnc, hb, hc, ha, hel⟩ := h
  simp only [Value.slice.injEq] at e
  obtain ⟨rfl, rfl, rfl⟩ := e
  refine ⟨_, _, _, b, o + i * s, rfl, by rw [List.length_drop]; omega, by omega, by omega, by omega, fun h0 => ?_, fun j x hx => ?_⟩
  · have hlt : i < l.length := by
      have := List.length_pos_iff.2 h0
      rw [List.length_drop] at this
      omega
    unfold cutA
    rw [if_neg (by omega)]
  · rw [List.getElem?_drop] at hx
    have hne : l ≠ [] := fun e => by rw [e] at hx; simp at hx
    have e := ha hne
    simp only [Option.some.injEq, Addr.mk.injEq, and_true] at e
    obtain ⟨rfl, rfl⟩ := e
    obtain ⟨cs, h1, h2⟩ := hel (i + j) x hx
    exact ⟨cs, by rw [Nat.add_assoc, ← Nat.add_mul]; exact h1, h2⟩
section
variable {N : Nat} {ds : List Deferred} {S : Nat → Prop} {w0 : World} {L : List (Nat × Value)} {H : List Ent} {p : Act → World → Prop}
theorem g_cap (k : Nat) {ad : Option Addr} {n c e s : Nat} {xs : List Value} (hk : H[k]? = some (Ent.vec ad n c e s xs)) (h : n ≤ c → G N ds S w0 L H p) : G N ds S w0 L H p := fun a w hS => by
  obtain ⟨_, h2⟩ := hS.wd.get hk
  refine h ?_ a w hS
  rcases h2 with ⟨_, h2, h3⟩ | ⟨_, _, _, _, h3, _⟩ <;> omega
end
theorem erase_td {α : Type} (l : List α) (i : Nat) : l.eraseIdx i = l.take i ++ l.drop (i + 1) := by rw [List.eraseIdx_eq_take_drop_succ]
theorem map_erase {α β : Type} (f : α → β) (l : List α) (i : Nat) : (l.eraseIdx i).map f = (l.map f).eraseIdx i := by rw [erase_td, erase_td, List.map_append, List.map_take, List.map_drop]
theorem phiC_one (x : PRow) : ∀ u ∈ phiC x, u.oneCell' = true := fun u hu => by simp only [phiC, List.mem_cons, List.not_mem_nil, or_false] at hu; rcases hu with rfl | rfl <;> rfl
theorem trim_c (W : Int) (nm : ByteArray) (pa re : Int) (bl : List LBlock) (bs0 : Value) (w0 : World) (hbs : SlAt w0 bs0 6 bl BlockV) (hlen : bl.length ≤ 100) (hlim : FnLim ⟨nm, pa, re, bl⟩) (R : Nat) (hf : FuncOk R bl) (hqd : QDst bl) :
    Ret Tryd.prog 31 [.int .i64 W, .agg #[.string nm, .int .i64 pa, .int .i64 re, bs0]] w0 fun u w' => ∃ x : Option Addr × Nat × List BRow, u = .agg #[.string nm, .int .i64 pa, .int .i64 re, .slice x.1 x.2.2.length x.2.1] ∧ Wd NoS w0 (fnE x.1 x.2.1 x.2.2) w' ∧ (x.2.2.map BRow.blk = trimB W bl ∧ x.2.2.length = bl.length ∧ ∀ b ∈ x.2.2, b.Bd) := by
  have hbs0 := hbs
  obtain ⟨ba, n0, bc, _, _, rfl, _⟩ := hbs
  refine ret_enter Tryd.func31 rfl Tryd.ntmps31 rfl (Wd.nil NoS w0) ?_
  repeat (first | refine g_op rfl ?_ | refine g_then ?_ | refine g_nil ?_ | refine g_region ?_ | refine g_seq ?_ | refine g_box rfl fun _ _ => ?_ | refine g_alloc rfl fun _ _ => ?_)
  rename_i p3 _ p4 _
  refine g_callE (val := fun x : Option Addr × Nat × List BRow => .agg #[.string nm, .int .i64 pa, .int .i64 re, .slice x.1 x.2.2.length x.2.1]) (E := fun x => fnE x.1 x.2.1 x.2.2) (φ := fun x => x.2.2.map BRow.blk = bl ∧ ∀ b ∈ x.2.2, b.Bd) rfl (fun w hw => funcR_c nm pa re bl _ w (hbs0.keep keeps_block hw.chg) (by omega) fun b hb hA => hlim.bd hb hA) fun x hx => ?_
  obtain ⟨a, c, bs⟩ := x
  obtain ⟨hbm, hbd0⟩ := hx
  simp only at hbm hbd0
  have hbl : bs.length = bl.length := by rw [← hbm, List.length_map]
  refine g_permH (List.perm_append_comm (l₂ := [Ent.box p4 [.string ByteArray.empty, .int .i64 0, .int .i64 0, .slice none 0 0] 35, Ent.box p3 [.string nm, .int .i64 pa, .int .i64 re, .slice ba n0 bc] 35])) ?_
  simp only [List.cons_append, List.nil_append]
  repeat (first | refine g_then ?_ | refine g_nil ?_ | refine g_alloc rfl fun _ _ => ?_ | refine g_storeAgg ?_ | refine g_block ?_)
  rename_i p5 _
  refine g_loop (fun x : List BRow => Cuts W bl (x.map BRow.blk) ∧ x.length = bs.length ∧ ∀ b ∈ x, b.Bd) (fun _ => [(5, .pointer (some ⟨p5, 0, none⟩)), (4, .pointer (some ⟨p4, 0, none⟩)), (0, .int .i64 W)]) (fun x => Ent.box p5 [.string nm, .int .i64 pa, .int .i64 re, .slice a bs.length c] 35 :: Ent.box p4 [.string ByteArray.empty, .int .i64 0, .int .i64 0, .slice none 0 0] 35 :: Ent.box p3 [.string nm, .int .i64 pa, .int .i64 re, .slice ba n0 bc] 35 :: fnE a c x) (fun x => sizeN (x.map BRow.blk)) bs ⟨by rw [hbm]; exact .refl _, rfl, hbd0⟩ (g_done (by repeat (first | exact trivial | refine ⟨rfl, ?_⟩)) (List.Sublist.refl _)) fun x ⟨hc1, hc2, hc3⟩ => ?_
  have hf2 := hc1.sub.funcOk hf
  have hq2 := hc1.sub.qdst hqd
  repeat (first | refine g_op rfl ?_ | refine g_region ?_ | refine g_seq ?_ | refine g_block ?_)
  refine g_callE (val := fun y : Int × Int × Bool => .tuple #[.int .i64 y.1, .int .i64 y.2.1, .bool y.2.2]) (E := fun _ => []) (φ := SpareR W (x.map BRow.blk)) rfl (fun w hw => spare_c W _ _ _ (x.map BRow.blk) _ ⟨_, _, _, rfl⟩ w ?_ (by rw [List.length_map]; omega) R hf2 hq2 (fun B hB => ?_) (fun B hB => ?_) fun B hB y hy => ?_) fun y hy => ?_
  · rw [← hc2]
    exact Wd.blocks (H := []) (hw.sub (.cons _ (.cons _ (.cons _ (by unfold fnE; rw [List.append_nil]; exact List.Sublist.refl _))))) (by omega) hc3
  · obtain ⟨b, hb, rfl⟩ := List.mem_map.1 hB
    simp only [BRow.blk, List.length_map]; exact (hc3 b hb).list
  · obtain ⟨b, hb, rfl⟩ := List.mem_map.1 hB
    simp only [BRow.blk, List.length_map]; exact (hc3 b hb).phis
  · obtain ⟨b, hb, rfl⟩ := List.mem_map.1 hB
    simp only [BRow.blk] at hy
    obtain ⟨z, hz, rfl⟩ := List.mem_map.1 hy
    exact ((hc3 b hb).ins z hz).2.1
  simp only [List.nil_append]
  rcases hy with ⟨rfl, hy⟩ | ⟨b, i, B, z, rfl, hB, hz, hcut⟩ | ⟨b, i, B, z, rfl, hB, hz, hcut⟩
  · repeat (first | refine g_op rfl ?_ | refine g_then ?_ | refine g_nil ?_ | refine g_region ?_ | refine g_seq ?_ | refine g_storeAgg ?_ | refine g_condT ?_ | refine g_ret ?_ | refine g_thenRet ?_ | refine g_blockRet ?_)
    rw [show decide ((-1 : Int) < 0) = true by decide]
    skip
    refine g_retC rfl fun w hw => ⟨(a, c, x), by rw [hc2], hw.sub (.cons _ (.cons _ (.cons _ (List.Sublist.refl _)))), trimB_eq hc1 hy, by simp only; omega, hc3⟩
  · obtain ⟨B0, hB0, hB0B⟩ : ∃ B0, x[b]? = some B0 ∧ B0.blk = B := by rw [List.getElem?_map] at hB; exact Option.map_eq_some_iff.1 hB
    have hbx := (List.getElem?_eq_some_iff.1 hB0).1
    have hBd := hc3 B0 (List.mem_of_getElem? hB0)
    have hil : i < B0.xs.length := by
      have := (List.getElem?_eq_some_iff.1 hz).1
      rw [← hB0B] at this
      simpa [BRow.blk] using this
    have hpl := hBd.list
    repeat (first | refine g_op rfl ?_ | refine g_then ?_ | refine g_nil ?_ | refine g_region ?_ | refine g_seq ?_ | refine g_skip ?_ | refine g_condF ?_)
    rw [show decide ((b : Int) < 0) = false by simp]
    skip
    refine g_wd (H' := Ent.box p5 [.string nm, .int .i64 pa, .int .i64 re, .slice a bs.length c] 35 :: Ent.box p4 [.string ByteArray.empty, .int .i64 0, .int .i64 0, .slice none 0 0] 35 :: Ent.box p3 [.string nm, .int .i64 pa, .int .i64 re, .slice ba n0 bc] 35 :: lvE B0 :: Ent.vec a bs.length c 47 6 (x.flatMap blkC) :: (pvE B0 :: tvE B0 :: (B0.ps.map phE ++ (B0.xs.map roE ++ (x.eraseIdx b).map blkE)))) (fun w hw => ?_) ?_
    · have h2 : Wd NoS w0 (blkE B0 :: (Ent.box p5 [.string nm, .int .i64 pa, .int .i64 re, .slice a bs.length c] 35 :: Ent.box p4 [.string ByteArray.empty, .int .i64 0, .int .i64 0, .slice none 0 0] 35 :: Ent.box p3 [.string nm, .int .i64 pa, .int .i64 re, .slice ba n0 bc] 35 :: Ent.vec a bs.length c 47 6 (x.flatMap blkC) :: (x.eraseIdx b).map blkE)) w := by
        refine hw.perm ?_
        unfold fnE
        rw [hc2]
        have h3 := map_pull blkE hB0
        classical
        refine List.perm_iff_count.2 fun e => ?_
        have h4 := List.perm_iff_count.1 h3 e
        simp only [List.count_cons] at h4 ⊢
        omega
      refine h2.unjoin.perm ?_
      unfold blkPs pvE lvE tvE
      classical
      refine List.perm_iff_count.2 fun e => ?_
      simp only [List.count_append, List.count_cons]
      omega
    refine g_vec 4 rfl (by omega) fun vb vo hva => ?_
    unfold lvE
    refine g_vec 3 rfl (by omega) fun pb po hpa => ?_
    refine g_cap 3 rfl fun hcap => ?_
    subst hva
    rw [hpa]
    have hli : LtIs b bs.length := ⟨by omega⟩
    have hch : CutHi i B0.lc := ⟨by omega⟩
    have hcf : CutFr (i + 1) B0.xs.length := ⟨by omega⟩
    have hcell : ∀ (q : Nat) v, (blkC B0)[q]? = some v → (x.flatMap blkC)[b * 6 + q]? = some v := fun q v hv => flat_at blkC_len x b B0 q v hB0 hv
    have hocA : ∀ (X1 X2 X3 X4 : Ent) (Y : List Ent), OwnCell (X1 :: X2 :: X3 :: X4 :: Ent.vec (some ⟨vb, vo, none⟩) bs.length c 47 6 (x.flatMap blkC) :: Y) vb (vo + b * 6 + 1) (.slice (some ⟨pb, po, none⟩) B0.xs.length B0.lc) := fun _ _ _ _ _ => ⟨fun _ _ _ hw => by have := hw.vecCell (k := 4) rfl (hcell 1 _ rfl); rw [hpa] at this; rwa [← Nat.add_assoc] at this⟩
    have hocB : ∀ (X0 X1 X2 X3 X4 : Ent) (Y : List Ent), OwnCell (X0 :: X1 :: X2 :: X3 :: X4 :: Ent.vec (some ⟨vb, vo, none⟩) bs.length c 47 6 (x.flatMap blkC) :: Y) vb (vo + b * 6 + 1) (.slice (some ⟨pb, po, none⟩) B0.xs.length B0.lc) := fun _ _ _ _ _ _ => ⟨fun _ _ _ hw => by have := hw.vecCell (k := 5) rfl (hcell 1 _ rfl); rw [hpa] at this; rwa [← Nat.add_assoc] at this⟩
    have hot : ∀ (X0 X1 X2 X3 X4 : Ent) (Y : List Ent), OwnAt (X0 :: X1 :: X2 :: X3 :: X4 :: Ent.vec (some ⟨vb, vo, none⟩) bs.length c 47 6 (x.flatMap blkC) :: Y) vb (vo + b * 6 + 1) 5 vo (b * 6 + 1) bs.length c 47 6 (x.flatMap blkC) := fun _ _ _ _ _ _ => ⟨rfl, by omega⟩
    obtain ⟨nb, hnb⟩ : ∃ nb : Option Addr × Nat → BRow, nb = fun y => { B0 with la := y.1, lc := y.2, xs := B0.xs.eraseIdx i } := ⟨_, rfl⟩
    have hxs : ∀ a' c', XSet (x.flatMap blkC) (b * 6 + 1) (.slice a' (0 + i + (B0.xs.length - (i + 1))) c') ((x.set b (nb (a', c'))).flatMap blkC) := fun a' c' => ⟨flat_set blkC_len hB0 (by decide) (by rw [hnb]; simp only [blkC, List.length_eraseIdx, if_pos hil, List.set_cons_zero, List.set_cons_succ]; rw [show 0 + i + (B0.xs.length - (i + 1)) = B0.xs.length - 1 by omega]), by rw [flat_len blkC_len]; omega⟩
    have hadd : ∀ (L : List (Nat × Value)) (H : List Ent) (T T2 : Nat) (x y : Operand) [Ev L x (.int .i64 (i : Int))] [Ev L y (.int .i64 1)], RunsC Tryd.prog 72 [] NoS w0 L H (.binOp .add T x y T2) (.int .i64 ((i + 1 : Nat) : Int)) := fun L H T T2 x y _ _ => by
      have := runs_add (P := Tryd.prog) (N := 72) (ds := []) (S := NoS) (w0 := w0) (L := L) (H := H) (T := T) (T2 := T2) (x := x) (y := y) (m := (i : Int)) (n := 1) (by omega) (by omega)
      rwa [show (i : Int) + 1 = ((i + 1 : Nat) : Int) by omega] at this
    refine g_drawX [Ent.box p5 [.string nm, .int .i64 pa, .int .i64 re, .slice (some ⟨vb, vo, none⟩) bs.length c] 35] (fun _ : Option Addr × Nat => True) (fun _ => [(5, .pointer (some ⟨p5, 0, none⟩)), (4, .pointer (some ⟨p4, 0, none⟩)), (0, .int .i64 W)]) (fun y => Ent.vec y.1 (B0.xs.eraseIdx i).length y.2 71 8 ((B0.xs.eraseIdx i).flatMap rowC) :: Ent.box p5 [.string nm, .int .i64 pa, .int .i64 re, .slice (some ⟨vb, vo, none⟩) bs.length c] 35 :: Ent.box p4 [.string ByteArray.empty, .int .i64 0, .int .i64 0, .slice none 0 0] 35 :: Ent.box p3 [.string nm, .int .i64 pa, .int .i64 re, .slice ba n0 bc] 35 :: Ent.vec (some ⟨pb, po, none⟩) B0.xs.length B0.lc 71 8 (B0.xs.flatMap rowC) :: Ent.vec (some ⟨vb, vo, none⟩) bs.length c 47 6 ((x.set b (nb y)).flatMap blkC) :: (pvE B0 :: tvE B0 :: (B0.ps.map phE ++ (B0.xs.map roE ++ (x.eraseIdx b).map blkE)))) mixed (.cons_cons _ (List.nil_sublist _)) ?_ fun y _ => ?_
    · skip
      refine h_take 0 rfl (by decide +kernel) (by first | exact .cons_cons _ (List.nil_sublist _) | exact .cons _ (.cons_cons _ (List.nil_sublist _))) ?_
      refine h_take 1 rfl (by decide +kernel) (by first | exact .cons_cons _ (List.nil_sublist _) | exact .cons _ (.cons_cons _ (List.nil_sublist _))) ?_
      refine h_take 2 rfl (by decide +kernel) (by first | exact .cons_cons _ (List.nil_sublist _) | exact .cons _ (.cons_cons _ (List.nil_sublist _))) ?_
      refine h_take 4 rfl (by decide +kernel) (by first | exact .cons_cons _ (List.nil_sublist _) | exact .cons _ (.cons_cons _ (List.nil_sublist _))) ?_
      refine h_take 5 rfl (by decide +kernel) (by first | exact .cons_cons _ (List.nil_sublist _) | exact .cons _ (.cons_cons _ (List.nil_sublist _))) ?_
      refine h_take 6 rfl (by decide +kernel) (by first | exact .cons_cons _ (List.nil_sublist _) | exact .cons _ (.cons_cons _ (List.nil_sublist _))) ?_
      refine h_take 7 rfl (by decide +kernel) (by first | exact .cons_cons _ (List.nil_sublist _) | exact .cons _ (.cons_cons _ (List.nil_sublist _))) ?_
      refine h_take 8 rfl (by decide +kernel) (by first | exact .cons_cons _ (List.nil_sublist _) | exact .cons _ (.cons_cons _ (List.nil_sublist _))) ?_
      refine h_take 10 rfl (by decide +kernel) (by first | exact .cons_cons _ (List.nil_sublist _) | exact .cons _ (.cons_cons _ (List.nil_sublist _))) ?_
      refine h_take 13 rfl (by decide +kernel) (by first | exact .cons_cons _ (List.nil_sublist _) | exact .cons _ (.cons_cons _ (List.nil_sublist _))) ?_
      refine h_take 14 rfl (by decide +kernel) (by first | exact .cons_cons _ (List.nil_sublist _) | exact .cons _ (.cons_cons _ (List.nil_sublist _))) ?_
      refine h_take 15 rfl (by decide +kernel) (by first | exact .cons_cons _ (List.nil_sublist _) | exact .cons _ (.cons_cons _ (List.nil_sublist _))) ?_
      refine h_take 16 rfl (by decide +kernel) (by first | exact .cons_cons _ (List.nil_sublist _) | exact .cons _ (.cons_cons _ (List.nil_sublist _))) ?_
      refine h_take 17 rfl (by decide +kernel) (by first | exact .cons_cons _ (List.nil_sublist _) | exact .cons _ (.cons_cons _ (List.nil_sublist _))) ?_
      refine h_take 19 rfl (by decide +kernel) (by first | exact .cons_cons _ (List.nil_sublist _) | exact .cons _ (.cons_cons _ (List.nil_sublist _))) ?_
      refine h_take 20 rfl (by decide +kernel) (by first | exact .cons_cons _ (List.nil_sublist _) | exact .cons _ (.cons_cons _ (List.nil_sublist _))) ?_
      refine h_three 3 9 18 (by decide +kernel) ?_ ?_ ?_
      · skip
        refine o_build0 3 rfl (by first | exact .cons_cons _ (List.nil_sublist _) | exact .cons _ (.cons_cons _ (List.nil_sublist _))) fun eb _ => ?_
        refine h_two 9 18 (by decide +kernel) ?_ ?_
        · skip
          (refine o_op 9 rfl (by first | exact .cons_cons _ (List.nil_sublist _) | exact .cons _ (.cons_cons _ (List.nil_sublist _))) ?_; refine h_take 11 rfl (by decide +kernel) (by first | exact .cons_cons _ (List.nil_sublist _) | exact .cons _ (.cons_cons _ (List.nil_sublist _))) ?_)
          refine h_two 12 18 (by decide +kernel) ?_ ?_
          · skip
            (refine o_appendF 12 rfl rfl (B0.xs.take i) (V := fun _ x cs => cs = rowC x) rowC (fun _ _ _ h => h) rowC_len rowC_one (fun w hw => sl_take (flat_sl hw (k := 4) rfl rowC_len (by omega)) (by omega)) (by omega) (by omega) (fun _ => .cons _ (.cons_cons _ (List.nil_sublist _))) fun a1 c1 => ?_; simp only [List.set_cons_zero, List.nil_append])
            refine h_one 18 (by decide +kernel) ?_
            (refine o_op 18 rfl (by first | exact .cons_cons _ (List.nil_sublist _) | exact .cons _ (.cons_cons _ (List.nil_sublist _))) ?_; refine h_take 21 rfl (by decide +kernel) (by first | exact .cons_cons _ (List.nil_sublist _) | exact .cons _ (.cons_cons _ (List.nil_sublist _))) ?_)
            refine h_one 22 (by decide +kernel) ?_
            (refine o_appendF 22 rfl rfl (B0.xs.drop (i + 1)) (V := fun _ x cs => cs = rowC x) rowC (fun _ _ _ h => h) rowC_len rowC_one (fun w hw => sl_drop (flat_sl hw (k := 4) rfl rowC_len (by omega)) (by omega)) (by omega) (by omega) (fun _ => .cons _ (.cons_cons _ (List.nil_sublist _))) fun a2 c2 => ?_; simp only [List.set_cons_zero])
            refine h_take 23 rfl (by decide +kernel) (by first | exact .cons_cons _ (List.nil_sublist _) | exact .cons _ (.cons_cons _ (List.nil_sublist _))) ?_
            refine h_take 24 rfl (by decide +kernel) (by first | exact .cons_cons _ (List.nil_sublist _) | exact .cons _ (.cons_cons _ (List.nil_sublist _))) ?_
            refine h_one 25 (by decide +kernel) ?_
            refine o_storeV 25 (by first | exact .cons_cons _ (List.nil_sublist _) | exact .cons _ (.cons_cons _ (List.nil_sublist _))) ?_
            refine h_end (by decide +kernel) ?_
            refine g_mem (a2, c2) trivial (by repeat (first | exact trivial | refine ⟨rfl, ?_⟩)) ?_
            rw [← List.flatMap_append, ← erase_td, show 0 + i + (B0.xs.length - (i + 1)) = (B0.xs.eraseIdx i).length by rw [List.length_eraseIdx, if_pos hil]; omega]
            exact List.Sublist.refl _
          · skip
            (refine o_op 18 rfl (by first | exact .cons_cons _ (List.nil_sublist _) | exact .cons _ (.cons_cons _ (List.nil_sublist _))) ?_; refine h_take 21 rfl (by decide +kernel) (by first | exact .cons_cons _ (List.nil_sublist _) | exact .cons _ (.cons_cons _ (List.nil_sublist _))) ?_)
            refine h_one 12 (by decide +kernel) ?_
            (refine o_appendF 12 rfl rfl (B0.xs.take i) (V := fun _ x cs => cs = rowC x) rowC (fun _ _ _ h => h) rowC_len rowC_one (fun w hw => sl_take (flat_sl hw (k := 4) rfl rowC_len (by omega)) (by omega)) (by omega) (by omega) (fun _ => .cons _ (.cons_cons _ (List.nil_sublist _))) fun a1 c1 => ?_; simp only [List.set_cons_zero, List.nil_append])
            refine h_one 22 (by decide +kernel) ?_
            (refine o_appendF 22 rfl rfl (B0.xs.drop (i + 1)) (V := fun _ x cs => cs = rowC x) rowC (fun _ _ _ h => h) rowC_len rowC_one (fun w hw => sl_drop (flat_sl hw (k := 4) rfl rowC_len (by omega)) (by omega)) (by omega) (by omega) (fun _ => .cons _ (.cons_cons _ (List.nil_sublist _))) fun a2 c2 => ?_; simp only [List.set_cons_zero])
            refine h_take 23 rfl (by decide +kernel) (by first | exact .cons_cons _ (List.nil_sublist _) | exact .cons _ (.cons_cons _ (List.nil_sublist _))) ?_
            refine h_take 24 rfl (by decide +kernel) (by first | exact .cons_cons _ (List.nil_sublist _) | exact .cons _ (.cons_cons _ (List.nil_sublist _))) ?_
            refine h_one 25 (by decide +kernel) ?_
            refine o_storeV 25 (by first | exact .cons_cons _ (List.nil_sublist _) | exact .cons _ (.cons_cons _ (List.nil_sublist _))) ?_
            refine h_end (by decide +kernel) ?_
            refine g_mem (a2, c2) trivial (by repeat (first | exact trivial | refine ⟨rfl, ?_⟩)) ?_
            rw [← List.flatMap_append, ← erase_td, show 0 + i + (B0.xs.length - (i + 1)) = (B0.xs.eraseIdx i).length by rw [List.length_eraseIdx, if_pos hil]; omega]
            exact List.Sublist.refl _
        · skip
          (refine o_op 18 rfl (by first | exact .cons_cons _ (List.nil_sublist _) | exact .cons _ (.cons_cons _ (List.nil_sublist _))) ?_; refine h_take 21 rfl (by decide +kernel) (by first | exact .cons_cons _ (List.nil_sublist _) | exact .cons _ (.cons_cons _ (List.nil_sublist _))) ?_)
          refine h_one 9 (by decide +kernel) ?_
          (refine o_op 9 rfl (by first | exact .cons_cons _ (List.nil_sublist _) | exact .cons _ (.cons_cons _ (List.nil_sublist _))) ?_; refine h_take 11 rfl (by decide +kernel) (by first | exact .cons_cons _ (List.nil_sublist _) | exact .cons _ (.cons_cons _ (List.nil_sublist _))) ?_)
          refine h_one 12 (by decide +kernel) ?_
          (refine o_appendF 12 rfl rfl (B0.xs.take i) (V := fun _ x cs => cs = rowC x) rowC (fun _ _ _ h => h) rowC_len rowC_one (fun w hw => sl_take (flat_sl hw (k := 4) rfl rowC_len (by omega)) (by omega)) (by omega) (by omega) (fun _ => .cons _ (.cons_cons _ (List.nil_sublist _))) fun a1 c1 => ?_; simp only [List.set_cons_zero, List.nil_append])
          refine h_one 22 (by decide +kernel) ?_
          (refine o_appendF 22 rfl rfl (B0.xs.drop (i + 1)) (V := fun _ x cs => cs = rowC x) rowC (fun _ _ _ h => h) rowC_len rowC_one (fun w hw => sl_drop (flat_sl hw (k := 4) rfl rowC_len (by omega)) (by omega)) (by omega) (by omega) (fun _ => .cons _ (.cons_cons _ (List.nil_sublist _))) fun a2 c2 => ?_; simp only [List.set_cons_zero])
          refine h_take 23 rfl (by decide +kernel) (by first | exact .cons_cons _ (List.nil_sublist _) | exact .cons _ (.cons_cons _ (List.nil_sublist _))) ?_
          refine h_take 24 rfl (by decide +kernel) (by first | exact .cons_cons _ (List.nil_sublist _) | exact .cons _ (.cons_cons _ (List.nil_sublist _))) ?_
          refine h_one 25 (by decide +kernel) ?_
          refine o_storeV 25 (by first | exact .cons_cons _ (List.nil_sublist _) | exact .cons _ (.cons_cons _ (List.nil_sublist _))) ?_
          refine h_end (by decide +kernel) ?_
          refine g_mem (a2, c2) trivial (by repeat (first | exact trivial | refine ⟨rfl, ?_⟩)) ?_
          rw [← List.flatMap_append, ← erase_td, show 0 + i + (B0.xs.length - (i + 1)) = (B0.xs.eraseIdx i).length by rw [List.length_eraseIdx, if_pos hil]; omega]
          exact List.Sublist.refl _
      · skip
        (refine o_op 9 rfl (by first | exact .cons_cons _ (List.nil_sublist _) | exact .cons _ (.cons_cons _ (List.nil_sublist _))) ?_; refine h_take 11 rfl (by decide +kernel) (by first | exact .cons_cons _ (List.nil_sublist _) | exact .cons _ (.cons_cons _ (List.nil_sublist _))) ?_)
        refine h_two 3 18 (by decide +kernel) ?_ ?_
        · skip
          refine o_build0 3 rfl (by first | exact .cons_cons _ (List.nil_sublist _) | exact .cons _ (.cons_cons _ (List.nil_sublist _))) fun eb _ => ?_
          refine h_two 12 18 (by decide +kernel) ?_ ?_
          · skip
            (refine o_appendF 12 rfl rfl (B0.xs.take i) (V := fun _ x cs => cs = rowC x) rowC (fun _ _ _ h => h) rowC_len rowC_one (fun w hw => sl_take (flat_sl hw (k := 4) rfl rowC_len (by omega)) (by omega)) (by omega) (by omega) (fun _ => .cons _ (.cons_cons _ (List.nil_sublist _))) fun a1 c1 => ?_; simp only [List.set_cons_zero, List.nil_append])
            refine h_one 18 (by decide +kernel) ?_
            (refine o_op 18 rfl (by first | exact .cons_cons _ (List.nil_sublist _) | exact .cons _ (.cons_cons _ (List.nil_sublist _))) ?_; refine h_take 21 rfl (by decide +kernel) (by first | exact .cons_cons _ (List.nil_sublist _) | exact .cons _ (.cons_cons _ (List.nil_sublist _))) ?_)
            refine h_one 22 (by decide +kernel) ?_
            (refine o_appendF 22 rfl rfl (B0.xs.drop (i + 1)) (V := fun _ x cs => cs = rowC x) rowC (fun _ _ _ h => h) rowC_len rowC_one (fun w hw => sl_drop (flat_sl hw (k := 4) rfl rowC_len (by omega)) (by omega)) (by omega) (by omega) (fun _ => .cons _ (.cons_cons _ (List.nil_sublist _))) fun a2 c2 => ?_; simp only [List.set_cons_zero])
            refine h_take 23 rfl (by decide +kernel) (by first | exact .cons_cons _ (List.nil_sublist _) | exact .cons _ (.cons_cons _ (List.nil_sublist _))) ?_
            refine h_take 24 rfl (by decide +kernel) (by first | exact .cons_cons _ (List.nil_sublist _) | exact .cons _ (.cons_cons _ (List.nil_sublist _))) ?_
            refine h_one 25 (by decide +kernel) ?_
            refine o_storeV 25 (by first | exact .cons_cons _ (List.nil_sublist _) | exact .cons _ (.cons_cons _ (List.nil_sublist _))) ?_
            refine h_end (by decide +kernel) ?_
            refine g_mem (a2, c2) trivial (by repeat (first | exact trivial | refine ⟨rfl, ?_⟩)) ?_
            rw [← List.flatMap_append, ← erase_td, show 0 + i + (B0.xs.length - (i + 1)) = (B0.xs.eraseIdx i).length by rw [List.length_eraseIdx, if_pos hil]; omega]
            exact List.Sublist.refl _
          · skip
            (refine o_op 18 rfl (by first | exact .cons_cons _ (List.nil_sublist _) | exact .cons _ (.cons_cons _ (List.nil_sublist _))) ?_; refine h_take 21 rfl (by decide +kernel) (by first | exact .cons_cons _ (List.nil_sublist _) | exact .cons _ (.cons_cons _ (List.nil_sublist _))) ?_)
            refine h_one 12 (by decide +kernel) ?_
            (refine o_appendF 12 rfl rfl (B0.xs.take i) (V := fun _ x cs => cs = rowC x) rowC (fun _ _ _ h => h) rowC_len rowC_one (fun w hw => sl_take (flat_sl hw (k := 4) rfl rowC_len (by omega)) (by omega)) (by omega) (by omega) (fun _ => .cons _ (.cons_cons _ (List.nil_sublist _))) fun a1 c1 => ?_; simp only [List.set_cons_zero, List.nil_append])
            refine h_one 22 (by decide +kernel) ?_
            (refine o_appendF 22 rfl rfl (B0.xs.drop (i + 1)) (V := fun _ x cs => cs = rowC x) rowC (fun _ _ _ h => h) rowC_len rowC_one (fun w hw => sl_drop (flat_sl hw (k := 4) rfl rowC_len (by omega)) (by omega)) (by omega) (by omega) (fun _ => .cons _ (.cons_cons _ (List.nil_sublist _))) fun a2 c2 => ?_; simp only [List.set_cons_zero])
            refine h_take 23 rfl (by decide +kernel) (by first | exact .cons_cons _ (List.nil_sublist _) | exact .cons _ (.cons_cons _ (List.nil_sublist _))) ?_
            refine h_take 24 rfl (by decide +kernel) (by first | exact .cons_cons _ (List.nil_sublist _) | exact .cons _ (.cons_cons _ (List.nil_sublist _))) ?_
            refine h_one 25 (by decide +kernel) ?_
            refine o_storeV 25 (by first | exact .cons_cons _ (List.nil_sublist _) | exact .cons _ (.cons_cons _ (List.nil_sublist _))) ?_
            refine h_end (by decide +kernel) ?_
            refine g_mem (a2, c2) trivial (by repeat (first | exact trivial | refine ⟨rfl, ?_⟩)) ?_
            rw [← List.flatMap_append, ← erase_td, show 0 + i + (B0.xs.length - (i + 1)) = (B0.xs.eraseIdx i).length by rw [List.length_eraseIdx, if_pos hil]; omega]
            exact List.Sublist.refl _
        · skip
          (refine o_op 18 rfl (by first | exact .cons_cons _ (List.nil_sublist _) | exact .cons _ (.cons_cons _ (List.nil_sublist _))) ?_; refine h_take 21 rfl (by decide +kernel) (by first | exact .cons_cons _ (List.nil_sublist _) | exact .cons _ (.cons_cons _ (List.nil_sublist _))) ?_)
          refine h_one 3 (by decide +kernel) ?_
          refine o_build0 3 rfl (by first | exact .cons_cons _ (List.nil_sublist _) | exact .cons _ (.cons_cons _ (List.nil_sublist _))) fun eb _ => ?_
          refine h_one 12 (by decide +kernel) ?_
          (refine o_appendF 12 rfl rfl (B0.xs.take i) (V := fun _ x cs => cs = rowC x) rowC (fun _ _ _ h => h) rowC_len rowC_one (fun w hw => sl_take (flat_sl hw (k := 4) rfl rowC_len (by omega)) (by omega)) (by omega) (by omega) (fun _ => .cons _ (.cons_cons _ (List.nil_sublist _))) fun a1 c1 => ?_; simp only [List.set_cons_zero, List.nil_append])
          refine h_one 22 (by decide +kernel) ?_
          (refine o_appendF 22 rfl rfl (B0.xs.drop (i + 1)) (V := fun _ x cs => cs = rowC x) rowC (fun _ _ _ h => h) rowC_len rowC_one (fun w hw => sl_drop (flat_sl hw (k := 4) rfl rowC_len (by omega)) (by omega)) (by omega) (by omega) (fun _ => .cons _ (.cons_cons _ (List.nil_sublist _))) fun a2 c2 => ?_; simp only [List.set_cons_zero])
          refine h_take 23 rfl (by decide +kernel) (by first | exact .cons_cons _ (List.nil_sublist _) | exact .cons _ (.cons_cons _ (List.nil_sublist _))) ?_
          refine h_take 24 rfl (by decide +kernel) (by first | exact .cons_cons _ (List.nil_sublist _) | exact .cons _ (.cons_cons _ (List.nil_sublist _))) ?_
          refine h_one 25 (by decide +kernel) ?_
          refine o_storeV 25 (by first | exact .cons_cons _ (List.nil_sublist _) | exact .cons _ (.cons_cons _ (List.nil_sublist _))) ?_
          refine h_end (by decide +kernel) ?_
          refine g_mem (a2, c2) trivial (by repeat (first | exact trivial | refine ⟨rfl, ?_⟩)) ?_
          rw [← List.flatMap_append, ← erase_td, show 0 + i + (B0.xs.length - (i + 1)) = (B0.xs.eraseIdx i).length by rw [List.length_eraseIdx, if_pos hil]; omega]
          exact List.Sublist.refl _
      · skip
        (refine o_op 18 rfl (by first | exact .cons_cons _ (List.nil_sublist _) | exact .cons _ (.cons_cons _ (List.nil_sublist _))) ?_; refine h_take 21 rfl (by decide +kernel) (by first | exact .cons_cons _ (List.nil_sublist _) | exact .cons _ (.cons_cons _ (List.nil_sublist _))) ?_)
        refine h_two 3 9 (by decide +kernel) ?_ ?_
        · skip
          refine o_build0 3 rfl (by first | exact .cons_cons _ (List.nil_sublist _) | exact .cons _ (.cons_cons _ (List.nil_sublist _))) fun eb _ => ?_
          refine h_one 9 (by decide +kernel) ?_
          (refine o_op 9 rfl (by first | exact .cons_cons _ (List.nil_sublist _) | exact .cons _ (.cons_cons _ (List.nil_sublist _))) ?_; refine h_take 11 rfl (by decide +kernel) (by first | exact .cons_cons _ (List.nil_sublist _) | exact .cons _ (.cons_cons _ (List.nil_sublist _))) ?_)
          refine h_one 12 (by decide +kernel) ?_
          (refine o_appendF 12 rfl rfl (B0.xs.take i) (V := fun _ x cs => cs = rowC x) rowC (fun _ _ _ h => h) rowC_len rowC_one (fun w hw => sl_take (flat_sl hw (k := 4) rfl rowC_len (by omega)) (by omega)) (by omega) (by omega) (fun _ => .cons _ (.cons_cons _ (List.nil_sublist _))) fun a1 c1 => ?_; simp only [List.set_cons_zero, List.nil_append])
          refine h_one 22 (by decide +kernel) ?_
          (refine o_appendF 22 rfl rfl (B0.xs.drop (i + 1)) (V := fun _ x cs => cs = rowC x) rowC (fun _ _ _ h => h) rowC_len rowC_one (fun w hw => sl_drop (flat_sl hw (k := 4) rfl rowC_len (by omega)) (by omega)) (by omega) (by omega) (fun _ => .cons _ (.cons_cons _ (List.nil_sublist _))) fun a2 c2 => ?_; simp only [List.set_cons_zero])
          refine h_take 23 rfl (by decide +kernel) (by first | exact .cons_cons _ (List.nil_sublist _) | exact .cons _ (.cons_cons _ (List.nil_sublist _))) ?_
          refine h_take 24 rfl (by decide +kernel) (by first | exact .cons_cons _ (List.nil_sublist _) | exact .cons _ (.cons_cons _ (List.nil_sublist _))) ?_
          refine h_one 25 (by decide +kernel) ?_
          refine o_storeV 25 (by first | exact .cons_cons _ (List.nil_sublist _) | exact .cons _ (.cons_cons _ (List.nil_sublist _))) ?_
          refine h_end (by decide +kernel) ?_
          refine g_mem (a2, c2) trivial (by repeat (first | exact trivial | refine ⟨rfl, ?_⟩)) ?_
          rw [← List.flatMap_append, ← erase_td, show 0 + i + (B0.xs.length - (i + 1)) = (B0.xs.eraseIdx i).length by rw [List.length_eraseIdx, if_pos hil]; omega]
          exact List.Sublist.refl _
        · skip
          (refine o_op 9 rfl (by first | exact .cons_cons _ (List.nil_sublist _) | exact .cons _ (.cons_cons _ (List.nil_sublist _))) ?_; refine h_take 11 rfl (by decide +kernel) (by first | exact .cons_cons _ (List.nil_sublist _) | exact .cons _ (.cons_cons _ (List.nil_sublist _))) ?_)
          refine h_one 3 (by decide +kernel) ?_
          refine o_build0 3 rfl (by first | exact .cons_cons _ (List.nil_sublist _) | exact .cons _ (.cons_cons _ (List.nil_sublist _))) fun eb _ => ?_
          refine h_one 12 (by decide +kernel) ?_
          (refine o_appendF 12 rfl rfl (B0.xs.take i) (V := fun _ x cs => cs = rowC x) rowC (fun _ _ _ h => h) rowC_len rowC_one (fun w hw => sl_take (flat_sl hw (k := 4) rfl rowC_len (by omega)) (by omega)) (by omega) (by omega) (fun _ => .cons _ (.cons_cons _ (List.nil_sublist _))) fun a1 c1 => ?_; simp only [List.set_cons_zero, List.nil_append])
          refine h_one 22 (by decide +kernel) ?_
          (refine o_appendF 22 rfl rfl (B0.xs.drop (i + 1)) (V := fun _ x cs => cs = rowC x) rowC (fun _ _ _ h => h) rowC_len rowC_one (fun w hw => sl_drop (flat_sl hw (k := 4) rfl rowC_len (by omega)) (by omega)) (by omega) (by omega) (fun _ => .cons _ (.cons_cons _ (List.nil_sublist _))) fun a2 c2 => ?_; simp only [List.set_cons_zero])
          refine h_take 23 rfl (by decide +kernel) (by first | exact .cons_cons _ (List.nil_sublist _) | exact .cons _ (.cons_cons _ (List.nil_sublist _))) ?_
          refine h_take 24 rfl (by decide +kernel) (by first | exact .cons_cons _ (List.nil_sublist _) | exact .cons _ (.cons_cons _ (List.nil_sublist _))) ?_
          refine h_one 25 (by decide +kernel) ?_
          refine o_storeV 25 (by first | exact .cons_cons _ (List.nil_sublist _) | exact .cons _ (.cons_cons _ (List.nil_sublist _))) ?_
          refine h_end (by decide +kernel) ?_
          refine g_mem (a2, c2) trivial (by repeat (first | exact trivial | refine ⟨rfl, ?_⟩)) ?_
          rw [← List.flatMap_append, ← erase_td, show 0 + i + (B0.xs.length - (i + 1)) = (B0.xs.eraseIdx i).length by rw [List.length_eraseIdx, if_pos hil]; omega]
          exact List.Sublist.refl _
    · have hset : (x.set b (nb y)).map BRow.blk = delI (x.map BRow.blk) b i := by
        rw [delI_set hB, List.map_set, ← hB0B, hnb]
        simp only [BRow.blk, eI, map_erase]
      have hnbB : (nb y).Bd := by
        rw [hnb]
        have hsub : (B0.xs.eraseIdx i).Sublist B0.xs := List.eraseIdx_sublist ..
        exact ⟨hBd.kind, hBd.on, hBd.phis, hBd.phi, Nat.le_trans hsub.length_le hBd.list, fun z hz => hBd.ins z (hsub.subset hz), hBd.to⟩
      refine g_wd (H' := Ent.box p5 [.string nm, .int .i64 pa, .int .i64 re, .slice (some ⟨vb, vo, none⟩) bs.length c] 35 :: Ent.box p4 [.string ByteArray.empty, .int .i64 0, .int .i64 0, .slice none 0 0] 35 :: Ent.box p3 [.string nm, .int .i64 pa, .int .i64 re, .slice ba n0 bc] 35 :: fnE (some ⟨vb, vo, none⟩) c (x.set b (nb y))) (fun w hw => ?_) ?_
      · have h2 : Wd NoS w0 (blkPs (nb y) ++ (Ent.box p5 [.string nm, .int .i64 pa, .int .i64 re, .slice (some ⟨vb, vo, none⟩) bs.length c] 35 :: Ent.box p4 [.string ByteArray.empty, .int .i64 0, .int .i64 0, .slice none 0 0] 35 :: Ent.box p3 [.string nm, .int .i64 pa, .int .i64 re, .slice ba n0 bc] 35 :: Ent.vec (some ⟨vb, vo, none⟩) bs.length c 47 6 ((x.set b (nb y)).flatMap blkC) :: (x.eraseIdx b).map blkE)) w := by
          refine hw.pick ⟨?_⟩
          obtain ⟨rx, hrx⟩ := List.Sublist.exists_perm_append ((List.eraseIdx_sublist B0.xs i).map roE)
          refine ⟨rx ++ [Ent.vec (some ⟨pb, po, none⟩) B0.xs.length B0.lc 71 8 (B0.xs.flatMap rowC)], ?_⟩
          rw [hnb]
          unfold blkPs pvE tvE
          classical
          refine List.perm_iff_count.2 fun e => ?_
          have h3 := List.perm_iff_count.1 hrx e
          simp only [List.count_append, List.count_cons, List.count_nil] at h3 ⊢
          omega
        refine (Wd.join h2).perm ?_
        have h5 := map_pull blkE (l := x.set b (nb y)) (k := b) (x := nb y) (List.getElem?_set_self (by omega))
        rw [List.eraseIdx_set_eq] at h5
        unfold fnE
        rw [List.length_set, hc2]
        classical
        refine List.perm_iff_count.2 fun e => ?_
        have h7 := List.perm_iff_count.1 h5 e
        simp only [List.count_cons, blkE] at h7 ⊢
        omega
      · repeat (first | refine g_then ?_ | refine g_inBlock ?_)
        refine g_next (x.set b (nb y)) ⟨by rw [hset]; exact hc1.trans (.one hcut), by rw [List.length_set]; exact hc2, fun d hd => ?_⟩ (by simp only [hset]; exact hcut.less) (by repeat (first | exact trivial | refine ⟨rfl, ?_⟩)) (List.Sublist.refl _)
        rcases List.mem_or_eq_of_mem_set hd with hd | rfl
        · exact hc3 d hd
        · exact hnbB
  · obtain ⟨B0, hB0, hB0B⟩ : ∃ B0, x[b]? = some B0 ∧ B0.blk = B := by rw [List.getElem?_map] at hB; exact Option.map_eq_some_iff.1 hB
    have hbx := (List.getElem?_eq_some_iff.1 hB0).1
    have hBd := hc3 B0 (List.mem_of_getElem? hB0)
    have hil : i < B0.ps.length := by
      have := (List.getElem?_eq_some_iff.1 hz).1
      rw [← hB0B] at this
      simpa [BRow.blk] using this
    have hpl := hBd.phis
    repeat (first | refine g_op rfl ?_ | refine g_then ?_ | refine g_nil ?_ | refine g_region ?_ | refine g_seq ?_ | refine g_skip ?_ | refine g_condT ?_ | refine g_condF ?_)
    rw [show decide ((b : Int) < 0) = false by simp]
    skip
    refine g_wd (H' := Ent.box p5 [.string nm, .int .i64 pa, .int .i64 re, .slice a bs.length c] 35 :: Ent.box p4 [.string ByteArray.empty, .int .i64 0, .int .i64 0, .slice none 0 0] 35 :: Ent.box p3 [.string nm, .int .i64 pa, .int .i64 re, .slice ba n0 bc] 35 :: pvE B0 :: Ent.vec a bs.length c 47 6 (x.flatMap blkC) :: (lvE B0 :: tvE B0 :: (B0.ps.map phE ++ (B0.xs.map roE ++ (x.eraseIdx b).map blkE)))) (fun w hw => ?_) ?_
    · have h2 : Wd NoS w0 (blkE B0 :: (Ent.box p5 [.string nm, .int .i64 pa, .int .i64 re, .slice a bs.length c] 35 :: Ent.box p4 [.string ByteArray.empty, .int .i64 0, .int .i64 0, .slice none 0 0] 35 :: Ent.box p3 [.string nm, .int .i64 pa, .int .i64 re, .slice ba n0 bc] 35 :: Ent.vec a bs.length c 47 6 (x.flatMap blkC) :: (x.eraseIdx b).map blkE)) w := by
        refine hw.perm ?_
        unfold fnE
        rw [hc2]
        have h3 := map_pull blkE hB0
        classical
        refine List.perm_iff_count.2 fun e => ?_
        have h4 := List.perm_iff_count.1 h3 e
        simp only [List.count_cons] at h4 ⊢
        omega
      refine h2.unjoin.perm ?_
      unfold blkPs pvE lvE tvE
      classical
      refine List.perm_iff_count.2 fun e => ?_
      simp only [List.count_append, List.count_cons]
      omega
    refine g_vec 4 rfl (by omega) fun vb vo hva => ?_
    unfold pvE
    refine g_vec 3 rfl (by omega) fun pb po hpa => ?_
    refine g_cap 3 rfl fun hcap => ?_
    subst hva
    rw [hpa]
    have hli : LtIs b bs.length := ⟨by omega⟩
    have hch : CutHi i B0.pc := ⟨by omega⟩
    have hcf : CutFr (i + 1) B0.ps.length := ⟨by omega⟩
    have hcell : ∀ (q : Nat) v, (blkC B0)[q]? = some v → (x.flatMap blkC)[b * 6 + q]? = some v := fun q v hv => flat_at blkC_len x b B0 q v hB0 hv
    have hocA : ∀ (X1 X2 X3 X4 : Ent) (Y : List Ent), OwnCell (X1 :: X2 :: X3 :: X4 :: Ent.vec (some ⟨vb, vo, none⟩) bs.length c 47 6 (x.flatMap blkC) :: Y) vb (vo + b * 6) (.slice (some ⟨pb, po, none⟩) B0.ps.length B0.pc) := fun _ _ _ _ _ => ⟨fun _ _ _ hw => by have := hw.vecCell (k := 4) rfl (hcell 0 _ rfl); rw [hpa] at this; exact this⟩
    have hocB : ∀ (X0 X1 X2 X3 X4 : Ent) (Y : List Ent), OwnCell (X0 :: X1 :: X2 :: X3 :: X4 :: Ent.vec (some ⟨vb, vo, none⟩) bs.length c 47 6 (x.flatMap blkC) :: Y) vb (vo + b * 6) (.slice (some ⟨pb, po, none⟩) B0.ps.length B0.pc) := fun _ _ _ _ _ _ => ⟨fun _ _ _ hw => by have := hw.vecCell (k := 5) rfl (hcell 0 _ rfl); rw [hpa] at this; exact this⟩
    have hot : ∀ (X0 X1 X2 X3 X4 : Ent) (Y : List Ent), OwnAt (X0 :: X1 :: X2 :: X3 :: X4 :: Ent.vec (some ⟨vb, vo, none⟩) bs.length c 47 6 (x.flatMap blkC) :: Y) vb (vo + b * 6) 5 vo (b * 6 + 0) bs.length c 47 6 (x.flatMap blkC) := fun _ _ _ _ _ _ => ⟨rfl, by omega⟩
    obtain ⟨nb, hnb⟩ : ∃ nb : Option Addr × Nat → BRow, nb = fun y => { B0 with pa := y.1, pc := y.2, ps := B0.ps.eraseIdx i } := ⟨_, rfl⟩
    have hxs : ∀ a' c', XSet (x.flatMap blkC) (b * 6 + 0) (.slice a' (0 + i + (B0.ps.length - (i + 1))) c') ((x.set b (nb (a', c'))).flatMap blkC) := fun a' c' => ⟨flat_set blkC_len hB0 (by decide) (by rw [hnb]; simp only [blkC, List.length_eraseIdx, if_pos hil, List.set_cons_zero, List.set_cons_succ]; rw [show 0 + i + (B0.ps.length - (i + 1)) = B0.ps.length - 1 by omega]), by rw [flat_len blkC_len]; omega⟩
    have hadd : ∀ (L : List (Nat × Value)) (H : List Ent) (T T2 : Nat) (x y : Operand) [Ev L x (.int .i64 (i : Int))] [Ev L y (.int .i64 1)], RunsC Tryd.prog 72 [] NoS w0 L H (.binOp .add T x y T2) (.int .i64 ((i + 1 : Nat) : Int)) := fun L H T T2 x y _ _ => by
      have := runs_add (P := Tryd.prog) (N := 72) (ds := []) (S := NoS) (w0 := w0) (L := L) (H := H) (T := T) (T2 := T2) (x := x) (y := y) (m := (i : Int)) (n := 1) (by omega) (by omega)
      rwa [show (i : Int) + 1 = ((i + 1 : Nat) : Int) by omega] at this
    refine g_drawX [Ent.box p5 [.string nm, .int .i64 pa, .int .i64 re, .slice (some ⟨vb, vo, none⟩) bs.length c] 35] (fun _ : Option Addr × Nat => True) (fun _ => [(5, .pointer (some ⟨p5, 0, none⟩)), (4, .pointer (some ⟨p4, 0, none⟩)), (0, .int .i64 W)]) (fun y => Ent.vec y.1 (B0.ps.eraseIdx i).length y.2 69 2 ((B0.ps.eraseIdx i).flatMap phiC) :: Ent.box p5 [.string nm, .int .i64 pa, .int .i64 re, .slice (some ⟨vb, vo, none⟩) bs.length c] 35 :: Ent.box p4 [.string ByteArray.empty, .int .i64 0, .int .i64 0, .slice none 0 0] 35 :: Ent.box p3 [.string nm, .int .i64 pa, .int .i64 re, .slice ba n0 bc] 35 :: Ent.vec (some ⟨pb, po, none⟩) B0.ps.length B0.pc 69 2 (B0.ps.flatMap phiC) :: Ent.vec (some ⟨vb, vo, none⟩) bs.length c 47 6 ((x.set b (nb y)).flatMap blkC) :: (lvE B0 :: tvE B0 :: (B0.ps.map phE ++ (B0.xs.map roE ++ (x.eraseIdx b).map blkE)))) mixed (.cons_cons _ (List.nil_sublist _)) ?_ fun y _ => ?_
    · skip
      refine h_take 0 rfl (by decide +kernel) (by first | exact .cons_cons _ (List.nil_sublist _) | exact .cons _ (.cons_cons _ (List.nil_sublist _))) ?_
      refine h_take 1 rfl (by decide +kernel) (by first | exact .cons_cons _ (List.nil_sublist _) | exact .cons _ (.cons_cons _ (List.nil_sublist _))) ?_
      refine h_take 2 rfl (by decide +kernel) (by first | exact .cons_cons _ (List.nil_sublist _) | exact .cons _ (.cons_cons _ (List.nil_sublist _))) ?_
      refine h_take 4 rfl (by decide +kernel) (by first | exact .cons_cons _ (List.nil_sublist _) | exact .cons _ (.cons_cons _ (List.nil_sublist _))) ?_
      refine h_take 5 rfl (by decide +kernel) (by first | exact .cons_cons _ (List.nil_sublist _) | exact .cons _ (.cons_cons _ (List.nil_sublist _))) ?_
      refine h_take 6 rfl (by decide +kernel) (by first | exact .cons_cons _ (List.nil_sublist _) | exact .cons _ (.cons_cons _ (List.nil_sublist _))) ?_
      refine h_take 7 rfl (by decide +kernel) (by first | exact .cons_cons _ (List.nil_sublist _) | exact .cons _ (.cons_cons _ (List.nil_sublist _))) ?_
      refine h_take 8 rfl (by decide +kernel) (by first | exact .cons_cons _ (List.nil_sublist _) | exact .cons _ (.cons_cons _ (List.nil_sublist _))) ?_
      refine h_take 10 rfl (by decide +kernel) (by first | exact .cons_cons _ (List.nil_sublist _) | exact .cons _ (.cons_cons _ (List.nil_sublist _))) ?_
      refine h_take 13 rfl (by decide +kernel) (by first | exact .cons_cons _ (List.nil_sublist _) | exact .cons _ (.cons_cons _ (List.nil_sublist _))) ?_
      refine h_take 14 rfl (by decide +kernel) (by first | exact .cons_cons _ (List.nil_sublist _) | exact .cons _ (.cons_cons _ (List.nil_sublist _))) ?_
      refine h_take 15 rfl (by decide +kernel) (by first | exact .cons_cons _ (List.nil_sublist _) | exact .cons _ (.cons_cons _ (List.nil_sublist _))) ?_
      refine h_take 16 rfl (by decide +kernel) (by first | exact .cons_cons _ (List.nil_sublist _) | exact .cons _ (.cons_cons _ (List.nil_sublist _))) ?_
      refine h_take 17 rfl (by decide +kernel) (by first | exact .cons_cons _ (List.nil_sublist _) | exact .cons _ (.cons_cons _ (List.nil_sublist _))) ?_
      refine h_take 19 rfl (by decide +kernel) (by first | exact .cons_cons _ (List.nil_sublist _) | exact .cons _ (.cons_cons _ (List.nil_sublist _))) ?_
      refine h_take 20 rfl (by decide +kernel) (by first | exact .cons_cons _ (List.nil_sublist _) | exact .cons _ (.cons_cons _ (List.nil_sublist _))) ?_
      refine h_three 3 9 18 (by decide +kernel) ?_ ?_ ?_
      · skip
        refine o_build0 3 rfl (by first | exact .cons_cons _ (List.nil_sublist _) | exact .cons _ (.cons_cons _ (List.nil_sublist _))) fun eb _ => ?_
        refine h_two 9 18 (by decide +kernel) ?_ ?_
        · skip
          (refine o_op 9 rfl (by first | exact .cons_cons _ (List.nil_sublist _) | exact .cons _ (.cons_cons _ (List.nil_sublist _))) ?_; refine h_take 11 rfl (by decide +kernel) (by first | exact .cons_cons _ (List.nil_sublist _) | exact .cons _ (.cons_cons _ (List.nil_sublist _))) ?_)
          refine h_two 12 18 (by decide +kernel) ?_ ?_
          · skip
            (refine o_appendF 12 rfl rfl (B0.ps.take i) (V := fun _ x cs => cs = phiC x) phiC (fun _ _ _ h => h) phiC_len phiC_one (fun w hw => sl_take (flat_sl hw (k := 4) rfl phiC_len (by omega)) (by omega)) (by omega) (by omega) (fun _ => .cons _ (.cons_cons _ (List.nil_sublist _))) fun a1 c1 => ?_; simp only [List.set_cons_zero, List.nil_append])
            refine h_one 18 (by decide +kernel) ?_
            (refine o_op 18 rfl (by first | exact .cons_cons _ (List.nil_sublist _) | exact .cons _ (.cons_cons _ (List.nil_sublist _))) ?_; refine h_take 21 rfl (by decide +kernel) (by first | exact .cons_cons _ (List.nil_sublist _) | exact .cons _ (.cons_cons _ (List.nil_sublist _))) ?_)
            refine h_one 22 (by decide +kernel) ?_
            (refine o_appendF 22 rfl rfl (B0.ps.drop (i + 1)) (V := fun _ x cs => cs = phiC x) phiC (fun _ _ _ h => h) phiC_len phiC_one (fun w hw => sl_drop (flat_sl hw (k := 4) rfl phiC_len (by omega)) (by omega)) (by omega) (by omega) (fun _ => .cons _ (.cons_cons _ (List.nil_sublist _))) fun a2 c2 => ?_; simp only [List.set_cons_zero])
            refine h_take 23 rfl (by decide +kernel) (by first | exact .cons_cons _ (List.nil_sublist _) | exact .cons _ (.cons_cons _ (List.nil_sublist _))) ?_
            refine h_take 24 rfl (by decide +kernel) (by first | exact .cons_cons _ (List.nil_sublist _) | exact .cons _ (.cons_cons _ (List.nil_sublist _))) ?_
            refine h_one 25 (by decide +kernel) ?_
            refine o_storeV 25 (by first | exact .cons_cons _ (List.nil_sublist _) | exact .cons _ (.cons_cons _ (List.nil_sublist _))) ?_
            refine h_end (by decide +kernel) ?_
            refine g_mem (a2, c2) trivial (by repeat (first | exact trivial | refine ⟨rfl, ?_⟩)) ?_
            rw [← List.flatMap_append, ← erase_td, show 0 + i + (B0.ps.length - (i + 1)) = (B0.ps.eraseIdx i).length by rw [List.length_eraseIdx, if_pos hil]; omega]
            exact List.Sublist.refl _
          · skip
            (refine o_op 18 rfl (by first | exact .cons_cons _ (List.nil_sublist _) | exact .cons _ (.cons_cons _ (List.nil_sublist _))) ?_; refine h_take 21 rfl (by decide +kernel) (by first | exact .cons_cons _ (List.nil_sublist _) | exact .cons _ (.cons_cons _ (List.nil_sublist _))) ?_)
            refine h_one 12 (by decide +kernel) ?_
            (refine o_appendF 12 rfl rfl (B0.ps.take i) (V := fun _ x cs => cs = phiC x) phiC (fun _ _ _ h => h) phiC_len phiC_one (fun w hw => sl_take (flat_sl hw (k := 4) rfl phiC_len (by omega)) (by omega)) (by omega) (by omega) (fun _ => .cons _ (.cons_cons _ (List.nil_sublist _))) fun a1 c1 => ?_; simp only [List.set_cons_zero, List.nil_append])
            refine h_one 22 (by decide +kernel) ?_
            (refine o_appendF 22 rfl rfl (B0.ps.drop (i + 1)) (V := fun _ x cs => cs = phiC x) phiC (fun _ _ _ h => h) phiC_len phiC_one (fun w hw => sl_drop (flat_sl hw (k := 4) rfl phiC_len (by omega)) (by omega)) (by omega) (by omega) (fun _ => .cons _ (.cons_cons _ (List.nil_sublist _))) fun a2 c2 => ?_; simp only [List.set_cons_zero])
            refine h_take 23 rfl (by decide +kernel) (by first | exact .cons_cons _ (List.nil_sublist _) | exact .cons _ (.cons_cons _ (List.nil_sublist _))) ?_
            refine h_take 24 rfl (by decide +kernel) (by first | exact .cons_cons _ (List.nil_sublist _) | exact .cons _ (.cons_cons _ (List.nil_sublist _))) ?_
            refine h_one 25 (by decide +kernel) ?_
            refine o_storeV 25 (by first | exact .cons_cons _ (List.nil_sublist _) | exact .cons _ (.cons_cons _ (List.nil_sublist _))) ?_
            refine h_end (by decide +kernel) ?_
            refine g_mem (a2, c2) trivial (by repeat (first | exact trivial | refine ⟨rfl, ?_⟩)) ?_
            rw [← List.flatMap_append, ← erase_td, show 0 + i + (B0.ps.length - (i + 1)) = (B0.ps.eraseIdx i).length by rw [List.length_eraseIdx, if_pos hil]; omega]
            exact List.Sublist.refl _
        · skip
          (refine o_op 18 rfl (by first | exact .cons_cons _ (List.nil_sublist _) | exact .cons _ (.cons_cons _ (List.nil_sublist _))) ?_; refine h_take 21 rfl (by decide +kernel) (by first | exact .cons_cons _ (List.nil_sublist _) | exact .cons _ (.cons_cons _ (List.nil_sublist _))) ?_)
          refine h_one 9 (by decide +kernel) ?_
          (refine o_op 9 rfl (by first | exact .cons_cons _ (List.nil_sublist _) | exact .cons _ (.cons_cons _ (List.nil_sublist _))) ?_; refine h_take 11 rfl (by decide +kernel) (by first | exact .cons_cons _ (List.nil_sublist _) | exact .cons _ (.cons_cons _ (List.nil_sublist _))) ?_)
          refine h_one 12 (by decide +kernel) ?_
          (refine o_appendF 12 rfl rfl (B0.ps.take i) (V := fun _ x cs => cs = phiC x) phiC (fun _ _ _ h => h) phiC_len phiC_one (fun w hw => sl_take (flat_sl hw (k := 4) rfl phiC_len (by omega)) (by omega)) (by omega) (by omega) (fun _ => .cons _ (.cons_cons _ (List.nil_sublist _))) fun a1 c1 => ?_; simp only [List.set_cons_zero, List.nil_append])
          refine h_one 22 (by decide +kernel) ?_
          (refine o_appendF 22 rfl rfl (B0.ps.drop (i + 1)) (V := fun _ x cs => cs = phiC x) phiC (fun _ _ _ h => h) phiC_len phiC_one (fun w hw => sl_drop (flat_sl hw (k := 4) rfl phiC_len (by omega)) (by omega)) (by omega) (by omega) (fun _ => .cons _ (.cons_cons _ (List.nil_sublist _))) fun a2 c2 => ?_; simp only [List.set_cons_zero])
          refine h_take 23 rfl (by decide +kernel) (by first | exact .cons_cons _ (List.nil_sublist _) | exact .cons _ (.cons_cons _ (List.nil_sublist _))) ?_
          refine h_take 24 rfl (by decide +kernel) (by first | exact .cons_cons _ (List.nil_sublist _) | exact .cons _ (.cons_cons _ (List.nil_sublist _))) ?_
          refine h_one 25 (by decide +kernel) ?_
          refine o_storeV 25 (by first | exact .cons_cons _ (List.nil_sublist _) | exact .cons _ (.cons_cons _ (List.nil_sublist _))) ?_
          refine h_end (by decide +kernel) ?_
          refine g_mem (a2, c2) trivial (by repeat (first | exact trivial | refine ⟨rfl, ?_⟩)) ?_
          rw [← List.flatMap_append, ← erase_td, show 0 + i + (B0.ps.length - (i + 1)) = (B0.ps.eraseIdx i).length by rw [List.length_eraseIdx, if_pos hil]; omega]
          exact List.Sublist.refl _
      · skip
        (refine o_op 9 rfl (by first | exact .cons_cons _ (List.nil_sublist _) | exact .cons _ (.cons_cons _ (List.nil_sublist _))) ?_; refine h_take 11 rfl (by decide +kernel) (by first | exact .cons_cons _ (List.nil_sublist _) | exact .cons _ (.cons_cons _ (List.nil_sublist _))) ?_)
        refine h_two 3 18 (by decide +kernel) ?_ ?_
        · skip
          refine o_build0 3 rfl (by first | exact .cons_cons _ (List.nil_sublist _) | exact .cons _ (.cons_cons _ (List.nil_sublist _))) fun eb _ => ?_
          refine h_two 12 18 (by decide +kernel) ?_ ?_
          · skip
            (refine o_appendF 12 rfl rfl (B0.ps.take i) (V := fun _ x cs => cs = phiC x) phiC (fun _ _ _ h => h) phiC_len phiC_one (fun w hw => sl_take (flat_sl hw (k := 4) rfl phiC_len (by omega)) (by omega)) (by omega) (by omega) (fun _ => .cons _ (.cons_cons _ (List.nil_sublist _))) fun a1 c1 => ?_; simp only [List.set_cons_zero, List.nil_append])
            refine h_one 18 (by decide +kernel) ?_
            (refine o_op 18 rfl (by first | exact .cons_cons _ (List.nil_sublist _) | exact .cons _ (.cons_cons _ (List.nil_sublist _))) ?_; refine h_take 21 rfl (by decide +kernel) (by first | exact .cons_cons _ (List.nil_sublist _) | exact .cons _ (.cons_cons _ (List.nil_sublist _))) ?_)
            refine h_one 22 (by decide +kernel) ?_
            (refine o_appendF 22 rfl rfl (B0.ps.drop (i + 1)) (V := fun _ x cs => cs = phiC x) phiC (fun _ _ _ h => h) phiC_len phiC_one (fun w hw => sl_drop (flat_sl hw (k := 4) rfl phiC_len (by omega)) (by omega)) (by omega) (by omega) (fun _ => .cons _ (.cons_cons _ (List.nil_sublist _))) fun a2 c2 => ?_; simp only [List.set_cons_zero])
            refine h_take 23 rfl (by decide +kernel) (by first | exact .cons_cons _ (List.nil_sublist _) | exact .cons _ (.cons_cons _ (List.nil_sublist _))) ?_
            refine h_take 24 rfl (by decide +kernel) (by first | exact .cons_cons _ (List.nil_sublist _) | exact .cons _ (.cons_cons _ (List.nil_sublist _))) ?_
            refine h_one 25 (by decide +kernel) ?_
            refine o_storeV 25 (by first | exact .cons_cons _ (List.nil_sublist _) | exact .cons _ (.cons_cons _ (List.nil_sublist _))) ?_
            refine h_end (by decide +kernel) ?_
            refine g_mem (a2, c2) trivial (by repeat (first | exact trivial | refine ⟨rfl, ?_⟩)) ?_
            rw [← List.flatMap_append, ← erase_td, show 0 + i + (B0.ps.length - (i + 1)) = (B0.ps.eraseIdx i).length by rw [List.length_eraseIdx, if_pos hil]; omega]
            exact List.Sublist.refl _
          · skip
            (refine o_op 18 rfl (by first | exact .cons_cons _ (List.nil_sublist _) | exact .cons _ (.cons_cons _ (List.nil_sublist _))) ?_; refine h_take 21 rfl (by decide +kernel) (by first | exact .cons_cons _ (List.nil_sublist _) | exact .cons _ (.cons_cons _ (List.nil_sublist _))) ?_)
            refine h_one 12 (by decide +kernel) ?_
            (refine o_appendF 12 rfl rfl (B0.ps.take i) (V := fun _ x cs => cs = phiC x) phiC (fun _ _ _ h => h) phiC_len phiC_one (fun w hw => sl_take (flat_sl hw (k := 4) rfl phiC_len (by omega)) (by omega)) (by omega) (by omega) (fun _ => .cons _ (.cons_cons _ (List.nil_sublist _))) fun a1 c1 => ?_; simp only [List.set_cons_zero, List.nil_append])
            refine h_one 22 (by decide +kernel) ?_
            (refine o_appendF 22 rfl rfl (B0.ps.drop (i + 1)) (V := fun _ x cs => cs = phiC x) phiC (fun _ _ _ h => h) phiC_len phiC_one (fun w hw => sl_drop (flat_sl hw (k := 4) rfl phiC_len (by omega)) (by omega)) (by omega) (by omega) (fun _ => .cons _ (.cons_cons _ (List.nil_sublist _))) fun a2 c2 => ?_; simp only [List.set_cons_zero])
            refine h_take 23 rfl (by decide +kernel) (by first | exact .cons_cons _ (List.nil_sublist _) | exact .cons _ (.cons_cons _ (List.nil_sublist _))) ?_
            refine h_take 24 rfl (by decide +kernel) (by first | exact .cons_cons _ (List.nil_sublist _) | exact .cons _ (.cons_cons _ (List.nil_sublist _))) ?_
            refine h_one 25 (by decide +kernel) ?_
            refine o_storeV 25 (by first | exact .cons_cons _ (List.nil_sublist _) | exact .cons _ (.cons_cons _ (List.nil_sublist _))) ?_
            refine h_end (by decide +kernel) ?_
            refine g_mem (a2, c2) trivial (by repeat (first | exact trivial | refine ⟨rfl, ?_⟩)) ?_
            rw [← List.flatMap_append, ← erase_td, show 0 + i + (B0.ps.length - (i + 1)) = (B0.ps.eraseIdx i).length by rw [List.length_eraseIdx, if_pos hil]; omega]
            exact List.Sublist.refl _
        · skip
          (refine o_op 18 rfl (by first | exact .cons_cons _ (List.nil_sublist _) | exact .cons _ (.cons_cons _ (List.nil_sublist _))) ?_; refine h_take 21 rfl (by decide +kernel) (by first | exact .cons_cons _ (List.nil_sublist _) | exact .cons _ (.cons_cons _ (List.nil_sublist _))) ?_)
          refine h_one 3 (by decide +kernel) ?_
          refine o_build0 3 rfl (by first | exact .cons_cons _ (List.nil_sublist _) | exact .cons _ (.cons_cons _ (List.nil_sublist _))) fun eb _ => ?_
          refine h_one 12 (by decide +kernel) ?_
          (refine o_appendF 12 rfl rfl (B0.ps.take i) (V := fun _ x cs => cs = phiC x) phiC (fun _ _ _ h => h) phiC_len phiC_one (fun w hw => sl_take (flat_sl hw (k := 4) rfl phiC_len (by omega)) (by omega)) (by omega) (by omega) (fun _ => .cons _ (.cons_cons _ (List.nil_sublist _))) fun a1 c1 => ?_; simp only [List.set_cons_zero, List.nil_append])
          refine h_one 22 (by decide +kernel) ?_
          (refine o_appendF 22 rfl rfl (B0.ps.drop (i + 1)) (V := fun _ x cs => cs = phiC x) phiC (fun _ _ _ h => h) phiC_len phiC_one (fun w hw => sl_drop (flat_sl hw (k := 4) rfl phiC_len (by omega)) (by omega)) (by omega) (by omega) (fun _ => .cons _ (.cons_cons _ (List.nil_sublist _))) fun a2 c2 => ?_; simp only [List.set_cons_zero])
          refine h_take 23 rfl (by decide +kernel) (by first | exact .cons_cons _ (List.nil_sublist _) | exact .cons _ (.cons_cons _ (List.nil_sublist _))) ?_
          refine h_take 24 rfl (by decide +kernel) (by first | exact .cons_cons _ (List.nil_sublist _) | exact .cons _ (.cons_cons _ (List.nil_sublist _))) ?_
          refine h_one 25 (by decide +kernel) ?_
          refine o_storeV 25 (by first | exact .cons_cons _ (List.nil_sublist _) | exact .cons _ (.cons_cons _ (List.nil_sublist _))) ?_
          refine h_end (by decide +kernel) ?_
          refine g_mem (a2, c2) trivial (by repeat (first | exact trivial | refine ⟨rfl, ?_⟩)) ?_
          rw [← List.flatMap_append, ← erase_td, show 0 + i + (B0.ps.length - (i + 1)) = (B0.ps.eraseIdx i).length by rw [List.length_eraseIdx, if_pos hil]; omega]
          exact List.Sublist.refl _
      · skip
        (refine o_op 18 rfl (by first | exact .cons_cons _ (List.nil_sublist _) | exact .cons _ (.cons_cons _ (List.nil_sublist _))) ?_; refine h_take 21 rfl (by decide +kernel) (by first | exact .cons_cons _ (List.nil_sublist _) | exact .cons _ (.cons_cons _ (List.nil_sublist _))) ?_)
        refine h_two 3 9 (by decide +kernel) ?_ ?_
        · skip
          refine o_build0 3 rfl (by first | exact .cons_cons _ (List.nil_sublist _) | exact .cons _ (.cons_cons _ (List.nil_sublist _))) fun eb _ => ?_
          refine h_one 9 (by decide +kernel) ?_
          (refine o_op 9 rfl (by first | exact .cons_cons _ (List.nil_sublist _) | exact .cons _ (.cons_cons _ (List.nil_sublist _))) ?_; refine h_take 11 rfl (by decide +kernel) (by first | exact .cons_cons _ (List.nil_sublist _) | exact .cons _ (.cons_cons _ (List.nil_sublist _))) ?_)
          refine h_one 12 (by decide +kernel) ?_
          (refine o_appendF 12 rfl rfl (B0.ps.take i) (V := fun _ x cs => cs = phiC x) phiC (fun _ _ _ h => h) phiC_len phiC_one (fun w hw => sl_take (flat_sl hw (k := 4) rfl phiC_len (by omega)) (by omega)) (by omega) (by omega) (fun _ => .cons _ (.cons_cons _ (List.nil_sublist _))) fun a1 c1 => ?_; simp only [List.set_cons_zero, List.nil_append])
          refine h_one 22 (by decide +kernel) ?_
          (refine o_appendF 22 rfl rfl (B0.ps.drop (i + 1)) (V := fun _ x cs => cs = phiC x) phiC (fun _ _ _ h => h) phiC_len phiC_one (fun w hw => sl_drop (flat_sl hw (k := 4) rfl phiC_len (by omega)) (by omega)) (by omega) (by omega) (fun _ => .cons _ (.cons_cons _ (List.nil_sublist _))) fun a2 c2 => ?_; simp only [List.set_cons_zero])
          refine h_take 23 rfl (by decide +kernel) (by first | exact .cons_cons _ (List.nil_sublist _) | exact .cons _ (.cons_cons _ (List.nil_sublist _))) ?_
          refine h_take 24 rfl (by decide +kernel) (by first | exact .cons_cons _ (List.nil_sublist _) | exact .cons _ (.cons_cons _ (List.nil_sublist _))) ?_
          refine h_one 25 (by decide +kernel) ?_
          refine o_storeV 25 (by first | exact .cons_cons _ (List.nil_sublist _) | exact .cons _ (.cons_cons _ (List.nil_sublist _))) ?_
          refine h_end (by decide +kernel) ?_
          refine g_mem (a2, c2) trivial (by repeat (first | exact trivial | refine ⟨rfl, ?_⟩)) ?_
          rw [← List.flatMap_append, ← erase_td, show 0 + i + (B0.ps.length - (i + 1)) = (B0.ps.eraseIdx i).length by rw [List.length_eraseIdx, if_pos hil]; omega]
          exact List.Sublist.refl _
        · skip
          (refine o_op 9 rfl (by first | exact .cons_cons _ (List.nil_sublist _) | exact .cons _ (.cons_cons _ (List.nil_sublist _))) ?_; refine h_take 11 rfl (by decide +kernel) (by first | exact .cons_cons _ (List.nil_sublist _) | exact .cons _ (.cons_cons _ (List.nil_sublist _))) ?_)
          refine h_one 3 (by decide +kernel) ?_
          refine o_build0 3 rfl (by first | exact .cons_cons _ (List.nil_sublist _) | exact .cons _ (.cons_cons _ (List.nil_sublist _))) fun eb _ => ?_
          refine h_one 12 (by decide +kernel) ?_
          (refine o_appendF 12 rfl rfl (B0.ps.take i) (V := fun _ x cs => cs = phiC x) phiC (fun _ _ _ h => h) phiC_len phiC_one (fun w hw => sl_take (flat_sl hw (k := 4) rfl phiC_len (by omega)) (by omega)) (by omega) (by omega) (fun _ => .cons _ (.cons_cons _ (List.nil_sublist _))) fun a1 c1 => ?_; simp only [List.set_cons_zero, List.nil_append])
          refine h_one 22 (by decide +kernel) ?_
          (refine o_appendF 22 rfl rfl (B0.ps.drop (i + 1)) (V := fun _ x cs => cs = phiC x) phiC (fun _ _ _ h => h) phiC_len phiC_one (fun w hw => sl_drop (flat_sl hw (k := 4) rfl phiC_len (by omega)) (by omega)) (by omega) (by omega) (fun _ => .cons _ (.cons_cons _ (List.nil_sublist _))) fun a2 c2 => ?_; simp only [List.set_cons_zero])
          refine h_take 23 rfl (by decide +kernel) (by first | exact .cons_cons _ (List.nil_sublist _) | exact .cons _ (.cons_cons _ (List.nil_sublist _))) ?_
          refine h_take 24 rfl (by decide +kernel) (by first | exact .cons_cons _ (List.nil_sublist _) | exact .cons _ (.cons_cons _ (List.nil_sublist _))) ?_
          refine h_one 25 (by decide +kernel) ?_
          refine o_storeV 25 (by first | exact .cons_cons _ (List.nil_sublist _) | exact .cons _ (.cons_cons _ (List.nil_sublist _))) ?_
          refine h_end (by decide +kernel) ?_
          refine g_mem (a2, c2) trivial (by repeat (first | exact trivial | refine ⟨rfl, ?_⟩)) ?_
          rw [← List.flatMap_append, ← erase_td, show 0 + i + (B0.ps.length - (i + 1)) = (B0.ps.eraseIdx i).length by rw [List.length_eraseIdx, if_pos hil]; omega]
          exact List.Sublist.refl _
    · have hset : (x.set b (nb y)).map BRow.blk = delP (x.map BRow.blk) b i := by
        rw [delP_set hB, List.map_set, ← hB0B, hnb]
        simp only [BRow.blk, eP, map_erase]
      have hnbB : (nb y).Bd := by
        rw [hnb]
        have hsub : (B0.ps.eraseIdx i).Sublist B0.ps := List.eraseIdx_sublist ..
        exact ⟨hBd.kind, hBd.on, Nat.le_trans hsub.length_le hBd.phis, fun z hz => hBd.phi z (hsub.subset hz), hBd.list, hBd.ins, hBd.to⟩
      refine g_wd (H' := Ent.box p5 [.string nm, .int .i64 pa, .int .i64 re, .slice (some ⟨vb, vo, none⟩) bs.length c] 35 :: Ent.box p4 [.string ByteArray.empty, .int .i64 0, .int .i64 0, .slice none 0 0] 35 :: Ent.box p3 [.string nm, .int .i64 pa, .int .i64 re, .slice ba n0 bc] 35 :: fnE (some ⟨vb, vo, none⟩) c (x.set b (nb y))) (fun w hw => ?_) ?_
      · have h2 : Wd NoS w0 (blkPs (nb y) ++ (Ent.box p5 [.string nm, .int .i64 pa, .int .i64 re, .slice (some ⟨vb, vo, none⟩) bs.length c] 35 :: Ent.box p4 [.string ByteArray.empty, .int .i64 0, .int .i64 0, .slice none 0 0] 35 :: Ent.box p3 [.string nm, .int .i64 pa, .int .i64 re, .slice ba n0 bc] 35 :: Ent.vec (some ⟨vb, vo, none⟩) bs.length c 47 6 ((x.set b (nb y)).flatMap blkC) :: (x.eraseIdx b).map blkE)) w := by
          refine hw.pick ⟨?_⟩
          obtain ⟨rx, hrx⟩ := List.Sublist.exists_perm_append ((List.eraseIdx_sublist B0.ps i).map phE)
          refine ⟨rx ++ [Ent.vec (some ⟨pb, po, none⟩) B0.ps.length B0.pc 69 2 (B0.ps.flatMap phiC)], ?_⟩
          rw [hnb]
          unfold blkPs lvE tvE
          classical
          refine List.perm_iff_count.2 fun e => ?_
          have h3 := List.perm_iff_count.1 hrx e
          simp only [List.count_append, List.count_cons, List.count_nil] at h3 ⊢
          omega
        refine (Wd.join h2).perm ?_
        have h5 := map_pull blkE (l := x.set b (nb y)) (k := b) (x := nb y) (List.getElem?_set_self (by omega))
        rw [List.eraseIdx_set_eq] at h5
        unfold fnE
        rw [List.length_set, hc2]
        classical
        refine List.perm_iff_count.2 fun e => ?_
        have h7 := List.perm_iff_count.1 h5 e
        simp only [List.count_cons, blkE] at h7 ⊢
        omega
      · repeat (first | refine g_then ?_ | refine g_inBlock ?_)
        refine g_next (x.set b (nb y)) ⟨by rw [hset]; exact hc1.trans (.one hcut), by rw [List.length_set]; exact hc2, fun d hd => ?_⟩ (by simp only [hset]; exact hcut.less) (by repeat (first | exact trivial | refine ⟨rfl, ?_⟩)) (List.Sublist.refl _)
        rcases List.mem_or_eq_of_mem_set hd with hd | rfl
        · exact hc3 d hd
        · exact hnbB
end Go.Proofs.YtbmnkjaelfjlhaaDoor


/- The law LiveSays: live.Do returns the unit of which the reference has trimmed every function, or the fault. -/
namespace Go.Proofs.YtbmnkjaelfjlhaaDoor
open Go Go.RowKit
attribute [local irreducible] wpListIn Code.wpIn Exit.then Exit.inBlock bodyPost wpQuiet wpAnyIn wpAnyH bodyPostM oneH
set_option maxHeartbeats 4000000

theorem trimR_c (W : Int) (X : LFunc) (bs0 : Value) (w0 : World) (hbs : SlAt w0 bs0 6 X.blocks BlockV) (hlen : X.blocks.length ≤ 100) (hlim : FnLim X) (R : Nat) (hf : FuncOk R X.blocks) (hqd : QDst X.blocks) :
    Ret Tryd.prog 31 [.int .i64 W, .agg #[.string X.name, .int .i64 X.params, .int .i64 X.regs, bs0]] w0 fun u w' => ∃ y : URow, u = .agg #[.string y.name, .int .i64 y.params, .int .i64 y.regs, .slice y.a y.bs.length y.c] ∧ Wd NoS w0 [uE y] w' ∧ (y.fn = trimF W X ∧ y.bs.length = X.blocks.length ∧ ∀ b ∈ y.bs, b.Bd) :=
  (trim_c W X.name X.params X.regs X.blocks bs0 w0 hbs hlen hlim R hf hqd).mono fun u w' ⟨x, h1, h2, h3, h4, h5⟩ => ⟨⟨X.name, X.params, X.regs, x.1, x.2.1, x.2.2⟩, h1, by
    have h6 : Wd NoS w0 (fnE x.1 x.2.1 x.2.2 ++ []) w' := by rw [List.append_nil]; exact h2
    exact h6.join, by unfold URow.fn; simp only [h3]; rfl, h4, h5⟩
theorem liveSaysLaw_c (u : LUnit) (g fs : Value) (w0 : World) (hg : SlAt w0 g 3 u.globals GlobalV) (hf : SlAt w0 fs 4 u.funcs FuncV) (hways : CellsAt w0 0 0 waysC) :
    RetV Tryd.prog 8 [.agg #[g, fs]] w0 (.bool true) := by
  classical
  have hg0 := hg
  have hf0 := hf
  obtain ⟨ga, gn, gc, gb, go, rfl, hgn, _⟩ := hg
  obtain ⟨fa, fn, fc, fb, fo, rfl, hfn, hfnc, hfnb, hfc, hfa, hfel⟩ := hf
  refine ret_enter Tryd.func8 rfl Tryd.ntmps8 rfl (Wd.nil NoS w0) ?_
  repeat (first | refine g_op rfl ?_ | refine g_then ?_ | refine g_nil ?_ | refine g_region ?_ | refine g_seq ?_ | refine g_box rfl fun _ _ => ?_)
  rename_i p1 _
  refine g_callE (val := fun b : Bool => .bool b) (E := fun _ => []) (φ := fun b => b = false → slim u) rfl (fun w hw => heavyS_c u _ _ w (hf0.keep keeps_func hw.chg) ⟨_, _, _, rfl⟩) fun b hb => ?_
  simp only [List.nil_append]
  cases b
  case true =>
    repeat (first | refine g_then ?_ | refine g_nil ?_ | refine g_region ?_ | refine g_seq ?_ | refine g_opS rfl ?_ | refine g_condT ?_ | refine g_ret ?_ | refine g_thenRet ?_)
    exact g_retV rfl rfl
  have hsl := hb rfl
  have hl := hsl.light
  repeat (first | refine g_op rfl ?_ | refine g_then ?_ | refine g_nil ?_ | refine g_region ?_ | refine g_seq ?_ | refine g_skip ?_ | refine g_condF ?_)
  by_cases hbad : (checkL u).1 ≠ 0
  · refine g_callV rfl (fun w hw => liveDo_bad u hl hbad _ _ w (hg0.keep keeps_global hw.chg) (hf0.keep keeps_func hw.chg) (hways.keep hw.chg)) ?_
    repeat (first | refine g_op rfl ?_ | refine g_then ?_ | refine g_nil ?_ | refine g_region ?_ | refine g_seq ?_ | refine g_alloc rfl fun _ _ => ?_ | refine g_storeAgg ?_)
    refine g_callV rfl (fun w hw => check_c u hl _ _ w (hg0.keep keeps_global hw.chg) (hf0.keep keeps_func hw.chg) (hways.keep hw.chg)) ?_
    repeat (first | refine g_op rfl ?_ | refine g_then ?_ | refine g_nil ?_ | refine g_region ?_ | refine g_seq ?_ | refine g_alloc rfl fun _ _ => ?_ | refine g_storeAgg ?_)
    refine g_cond (fun h1 => ?_) (fun h1 => ?_)
    · repeat (first | refine g_op rfl ?_ | refine g_region ?_ | refine g_seq ?_)
      rw [show (decide ((checkL u).1 = (checkL u).1) && decide ((checkL u).2 = (checkL u).2)) = true by simp]
      repeat (first | refine g_op rfl ?_ | refine g_open ?_)
      refine g_callV rfl (fun w hw => noneE_c w) ?_
      repeat (first | refine g_op rfl ?_ | refine g_then ?_ | refine g_nil ?_ | refine g_opS rfl ?_ | refine g_ret ?_ | refine g_thenRet ?_)
      exact g_retV rfl rfl
    · exact absurd h1 (by simp [hbad])
  have hu : Whole u := ⟨check_zero.1 (by simpa using hbad), nums_of hf0, gnums_of hg0⟩
  have hch := check_zero.2 hu.ok
  have hu2 := (trimU_whole hu).1
  have hl2 := check_light hu2.ok
  have hfn2 : (trimU u).funcs.length = u.funcs.length := by unfold trimU; rw [List.length_map]
  refine g_callE (val := (fun x : (Option Addr × Nat) × (Option Addr × Nat) × (Nat → Prop) => Value.tuple #[.agg #[.slice x.1.1 gn x.1.2, .slice x.2.1.1 fn x.2.1.2], .agg #[.int .i64 0, .int .i64 0]])) (E := (fun x : (Option Addr × Nat) × (Option Addr × Nat) × (Nat → Prop) => [unitE (trimU u) (.slice x.1.1 gn x.1.2) (.slice x.2.1.1 fn x.2.1.2) x.2.2])) (φ := fun _ => True) rfl (fun w hw => by rw [hgn, hfn]; exact liveDo_ok u hl hu _ _ w (by rw [← hgn]; exact hg0.keep keeps_global hw.chg) (by rw [← hfn]; exact hf0.keep keeps_func hw.chg) (hways.keep hw.chg)) fun x _ => ?_
  obtain ⟨⟨ya, yc⟩, ⟨za, zc⟩, fp⟩ := x
  simp only [List.cons_append, List.nil_append]
  repeat (first | refine g_op rfl ?_ | refine g_then ?_ | refine g_nil ?_ | refine g_region ?_ | refine g_seq ?_ | refine g_alloc rfl fun _ _ => ?_ | refine g_storeAgg ?_)
  rename_i p3 _ p4 _
  refine g_callV rfl (fun w hw => check_c u hl _ _ w (hg0.keep keeps_global hw.chg) (hf0.keep keeps_func hw.chg) (hways.keep hw.chg)) ?_
  rw [checkL_zero hch]
  repeat (first | refine g_op rfl ?_ | refine g_then ?_ | refine g_nil ?_ | refine g_region ?_ | refine g_seq ?_ | refine g_alloc rfl fun _ _ => ?_ | refine g_storeAgg ?_ | refine g_skip ?_ | refine g_condF ?_)
  rename_i p5 _
  refine g_callE (val := UMem.val) (E := UMem.ents) (φ := fun m => m.unit = u ∧ m.Bd) rfl (fun w hw => unitR_c u (check_glim hch) (check_few hl) (check_lim hl hch) _ _ w (hg0.keep keeps_global hw.chg) (hf0.keep keeps_func hw.chg)) fun m ⟨hmu, hmb⟩ => ?_
  unfold UMem.val
  repeat (first | refine g_then ?_ | refine g_nil ?_ | refine g_region ?_ | refine g_seq ?_ | refine g_alloc rfl fun _ _ => ?_ | refine g_storeAgg ?_)
  rename_i p6 _
  refine g_fix (L' := [(6, .pointer (some ⟨p6, 0, none⟩)), (4, .pointer (some ⟨p4, 0, none⟩)), (3, .pointer (some ⟨p3, 0, none⟩)), (1, .pointer (some ⟨p1, 0, none⟩))]) (by repeat (first | exact trivial | refine ⟨rfl, ?_⟩)) (List.Sublist.refl _) ?_
  have hmf : m.fs.length = fn := by rw [hfn, ← hmu]; unfold UMem.unit; simp only [List.length_map]
  refine g_wd (H' := Ent.box p6 [.slice m.ga m.gs.length m.gc, .slice m.fa fn m.fc] 25 :: Ent.box p1 [.slice ga gn gc, .slice fa fn fc] 25 :: Ent.box p3 [.slice ya gn yc, .slice za fn zc] 25 :: Ent.box p4 [.int .i64 0, .int .i64 0] 28 :: unitE (trimU u) (.slice ya gn yc) (.slice za fn zc) fp :: (Ent.vec m.fa fn m.fc 35 4 (m.fs.flatMap uC) :: gvE m :: (m.gs.map gloE ++ m.fs.map uE))) (fun w hw => ?_) ?_
  · refine hw.pick ⟨[Ent.box p5 [.int .i64 (0, 0).1, .int .i64 (0, 0).2] 28], ?_⟩
    unfold UMem.ents gvE
    rw [hmf]
    classical
    refine List.perm_iff_count.2 fun e => ?_
    simp only [List.count_append, List.count_cons, List.count_nil]
    omega
  repeat (refine g_op rfl ?_)
  refine g_callV rfl (fun w hw => refWords_c _ _ u.globals (check_smallG hu.ok) w (hg0.keep keeps_global hw.chg) ⟨_, _, _, rfl⟩) ?_
  rw [show wordsL u.globals = wordsU u from rfl]
  repeat (first | refine g_op rfl ?_ | refine g_then ?_ | refine g_nil ?_ | refine g_region ?_ | refine g_seq ?_ | refine g_block ?_)
  refine g_loop (fun x : Nat × List URow => x.1 ≤ fn ∧ x.2.length = fn ∧ x.2.map URow.fn = (u.funcs.take x.1).map (trimF (wordsU u)) ++ u.funcs.drop x.1 ∧ ∀ y ∈ x.2, (inI y.params ∧ inI y.regs) ∧ (∀ b ∈ y.bs, b.Bd) ∧ y.bs.length ≤ 1000) (fun x => [(8, .int .i64 x.1), (7, .int .i64 (wordsU u)), (6, .pointer (some ⟨p6, 0, none⟩)), (4, .pointer (some ⟨p4, 0, none⟩)), (3, .pointer (some ⟨p3, 0, none⟩)), (1, .pointer (some ⟨p1, 0, none⟩))]) (fun x => Ent.box p6 [.slice m.ga m.gs.length m.gc, .slice m.fa fn m.fc] 25 :: Ent.box p1 [.slice ga gn gc, .slice fa fn fc] 25 :: Ent.box p3 [.slice ya gn yc, .slice za fn zc] 25 :: Ent.box p4 [.int .i64 0, .int .i64 0] 28 :: unitE (trimU u) (.slice ya gn yc) (.slice za fn zc) fp :: (Ent.vec m.fa fn m.fc 35 4 (x.2.flatMap uC) :: gvE m :: (m.gs.map gloE ++ x.2.map uE))) (fun x => fn - x.1) (0, m.fs) ⟨Nat.zero_le _, hmf, ?_, fun y hy => ?_⟩ (g_done (by repeat (first | exact trivial | refine ⟨rfl, ?_⟩)) (List.Sublist.refl _)) fun x ⟨hi, hxl, hxm, hxb⟩ => ?_
  · rw [List.take_zero, List.drop_zero, List.map_nil, List.nil_append, ← hmu]
    rfl
  · have h2 := hmb.func y hy
    refine ⟨h2.1, h2.2, ?_⟩
    have h3 : y.fn ∈ u.funcs := by rw [← hmu]; exact List.mem_map.2 ⟨y, hy, rfl⟩
    have := (check_lim hl hch _ h3).n
    simpa [URow.fn] using this
  obtain ⟨k, ys⟩ := x
  simp only at hi hxl hxm hxb ⊢
  repeat (first | refine g_op rfl ?_ | refine g_then ?_ | refine g_nil ?_ | refine g_region ?_ | refine g_seq ?_)
  refine g_cond (fun h1 => ?_) (fun h1 => ?_)
  · have hlt : k < fn := by simpa using h1
    obtain ⟨X, hX⟩ : ∃ X, u.funcs[k]? = some X := ⟨_, List.getElem?_eq_getElem (by omega)⟩
    have hXm := List.mem_of_getElem? hX
    obtain ⟨y0, hy0⟩ : ∃ y0, ys[k]? = some y0 := ⟨_, List.getElem?_eq_getElem (by omega)⟩
    have had : AddrIs fa fb fo := ⟨hfa (ne_of_get hX)⟩
    have hli : LtIs k fn := ⟨hlt⟩
    obtain ⟨_, hcs, bv, rfl, hpi, hri, hbv⟩ := hfel k X hX
    have hci : CellsIs w0 fb (fo + k * 4) _ := ⟨hcs⟩
    have hbv0 := hbv
    obtain ⟨ba, bn, bc, _, _, rfl, hbn, _⟩ := hbv
    obtain ⟨R, hXR, hR, hFO⟩ := check_func hch hX
    have hlim := check_lim hl hch X hXm
    have hsm := (check_small hu.ok hXm).2.2.1
    refine g_vec 5 rfl (by omega) fun vb vo hva => ?_
    rw [hva]
    repeat (first | refine g_then ?_ | refine g_seq ?_ | refine g_block ?_ | refine g_skip ?_)
    refine g_drawX [Ent.box p6 [.slice m.ga m.gs.length m.gc, .slice (some ⟨vb, vo, none⟩) fn m.fc] 25, Ent.box p1 [.slice ga gn gc, .slice fa fn fc] 25] (fun y : URow => y.fn = trimF (wordsU u) X ∧ y.bs.length = X.blocks.length ∧ ∀ b ∈ y.bs, b.Bd) (fun _ => [(8, .int .i64 k), (7, .int .i64 (wordsU u)), (6, .pointer (some ⟨p6, 0, none⟩)), (4, .pointer (some ⟨p4, 0, none⟩)), (3, .pointer (some ⟨p3, 0, none⟩)), (1, .pointer (some ⟨p1, 0, none⟩))]) (fun y => uE y :: Ent.box p6 [.slice m.ga m.gs.length m.gc, .slice (some ⟨vb, vo, none⟩) fn m.fc] 25 :: Ent.box p1 [.slice ga gn gc, .slice fa fn fc] 25 :: Ent.box p3 [.slice ya gn yc, .slice za fn zc] 25 :: Ent.box p4 [.int .i64 0, .int .i64 0] 28 :: unitE (trimU u) (.slice ya gn yc) (.slice za fn zc) fp :: (Ent.vec (some ⟨vb, vo, none⟩) fn m.fc 35 4 ((ys.set k y).flatMap uC) :: gvE m :: (m.gs.map gloE ++ ys.map uE))) mixed (by first | exact .cons_cons _ (.cons_cons _ (List.nil_sublist _)) | exact .cons _ (.cons_cons _ (.cons_cons _ (List.nil_sublist _)))) ?_ fun y hy => ?_
    · skip
      refine h_take 0 rfl (by decide +kernel) (by first | exact .cons_cons _ (.cons_cons _ (List.nil_sublist _)) | exact .cons _ (.cons_cons _ (.cons_cons _ (List.nil_sublist _)))) ?_
      refine h_take 1 rfl (by decide +kernel) (by first | exact .cons_cons _ (.cons_cons _ (List.nil_sublist _)) | exact .cons _ (.cons_cons _ (.cons_cons _ (List.nil_sublist _)))) ?_
      refine h_take 2 rfl (by decide +kernel) (by first | exact .cons_cons _ (.cons_cons _ (List.nil_sublist _)) | exact .cons _ (.cons_cons _ (.cons_cons _ (List.nil_sublist _)))) ?_
      refine h_take 3 rfl (by decide +kernel) (by first | exact .cons_cons _ (.cons_cons _ (List.nil_sublist _)) | exact .cons _ (.cons_cons _ (.cons_cons _ (List.nil_sublist _)))) ?_
      refine h_take 4 rfl (by decide +kernel) (by first | exact .cons_cons _ (.cons_cons _ (List.nil_sublist _)) | exact .cons _ (.cons_cons _ (.cons_cons _ (List.nil_sublist _)))) ?_
      refine h_take 5 rfl (by decide +kernel) (by first | exact .cons_cons _ (.cons_cons _ (List.nil_sublist _)) | exact .cons _ (.cons_cons _ (.cons_cons _ (List.nil_sublist _)))) ?_
      refine h_take 6 rfl (by decide +kernel) (by first | exact .cons_cons _ (.cons_cons _ (List.nil_sublist _)) | exact .cons _ (.cons_cons _ (.cons_cons _ (List.nil_sublist _)))) ?_
      refine h_take 7 rfl (by decide +kernel) (by first | exact .cons_cons _ (.cons_cons _ (List.nil_sublist _)) | exact .cons _ (.cons_cons _ (.cons_cons _ (List.nil_sublist _)))) ?_
      refine h_take 8 rfl (by decide +kernel) (by first | exact .cons_cons _ (.cons_cons _ (List.nil_sublist _)) | exact .cons _ (.cons_cons _ (.cons_cons _ (List.nil_sublist _)))) ?_
      refine h_callE 9 (val := fun y : URow => .agg #[.string y.name, .int .i64 y.params, .int .i64 y.regs, .slice y.a y.bs.length y.c]) (E := fun y => [uE y]) (φ := fun y => y.fn = trimF (wordsU u) X ∧ y.bs.length = X.blocks.length ∧ ∀ b ∈ y.bs, b.Bd) rfl (by decide +kernel) (by first | exact .cons_cons _ (.cons_cons _ (List.nil_sublist _)) | exact .cons _ (.cons_cons _ (.cons_cons _ (List.nil_sublist _)))) (fun w hw => trimR_c (wordsU u) X _ w (hbv0.keep keeps_block hw.chg) (by omega) hlim R hFO (check_qdst hu.ok hXm)) fun y hy => ?_
      simp only [List.cons_append, List.nil_append]
      refine h_take 10 rfl (by decide +kernel) (by first | exact .cons_cons _ (.cons_cons _ (List.nil_sublist _)) | exact .cons _ (.cons_cons _ (.cons_cons _ (List.nil_sublist _)))) ?_
      refine h_one 11 (by decide +kernel) ?_
      refine o_storeVA 11 6 (j := k * 4) rfl rfl (by rw [flat_len uC_len]; omega) (by first | exact .cons_cons _ (.cons_cons _ (List.nil_sublist _)) | exact .cons _ (.cons_cons _ (.cons_cons _ (List.nil_sublist _)))) ?_
      rw [show [Value.string y.name, .int .i64 y.params, .int .i64 y.regs, .slice y.a y.bs.length y.c] = uC y from rfl, flat_put uC_len (by omega)]
      simp only [List.set_cons_zero, List.set_cons_succ]
      refine h_end (by decide +kernel) ?_
      exact g_mem y hy (by repeat (first | exact trivial | refine ⟨rfl, ?_⟩)) (List.Sublist.refl _)
    · obtain ⟨hy1, hy2, hy3⟩ := hy
      refine g_wd (H' := Ent.box p6 [.slice m.ga m.gs.length m.gc, .slice (some ⟨vb, vo, none⟩) fn m.fc] 25 :: Ent.box p1 [.slice ga gn gc, .slice fa fn fc] 25 :: Ent.box p3 [.slice ya gn yc, .slice za fn zc] 25 :: Ent.box p4 [.int .i64 0, .int .i64 0] 28 :: unitE (trimU u) (.slice ya gn yc) (.slice za fn zc) fp :: (Ent.vec (some ⟨vb, vo, none⟩) fn m.fc 35 4 ((ys.set k y).flatMap uC) :: gvE m :: (m.gs.map gloE ++ (ys.set k y).map uE))) (fun w hw => ?_) ?_
      · refine hw.pick ⟨[uE y0], ?_⟩
        have h2 := map_pull uE hy0
        have h3 := map_pull uE (l := ys.set k y) (k := k) (x := y) (List.getElem?_set_self (by omega))
        rw [List.eraseIdx_set_eq] at h3
        classical
        refine List.perm_iff_count.2 fun e => ?_
        have h4 := List.perm_iff_count.1 h2 e
        have h5 := List.perm_iff_count.1 h3 e
        simp only [List.count_append, List.count_cons, List.count_nil] at h4 h5 ⊢
        omega
      repeat (first | refine g_op rfl ?_ | refine g_then ?_ | refine g_nil ?_ | refine g_region ?_ | refine g_opS rfl ?_ | refine g_inBlock ?_ | refine g_add rfl (by omega) (by omega) ?_)
      refine g_next (k + 1, ys.set k y) ⟨hlt, by simp only; rw [List.length_set]; exact hxl, ?_, fun z hz => ?_⟩ (by simp only; omega) ?_ ?_
      · simp only
        rw [List.map_set, hxm, hy1, set_mid (by rw [List.length_map, List.length_take]; omega) (by omega), List.take_add_one, hX, List.map_append]
        rfl
      · rcases List.mem_or_eq_of_mem_set hz with hz | rfl
        · exact hxb z hz
        · have h6 : z.params = X.params ∧ z.regs = X.regs := ⟨congrArg LFunc.params hy1, congrArg LFunc.regs hy1⟩
          rw [h6.1, h6.2]
          exact ⟨⟨hpi, hri⟩, hy3, by omega⟩
      · exact (by repeat (first | exact trivial | refine ⟨rfl, ?_⟩))
      · exact List.Sublist.refl _
  · obtain rfl : fn = k := by have := h1; simp at this; omega
    have hfin : (UMem.unit { m with fs := ys }).funcs = (trimU u).funcs := by
      unfold UMem.unit trimU
      simp only
      rw [hxm, hfn, List.take_length, List.drop_length, List.append_nil]
    have hfing : (UMem.unit { m with fs := ys }).globals = (trimU u).globals := by
      unfold trimU
      simp only
      rw [← hmu]
      rfl
    have hglen : m.gs.length = u.globals.length := by rw [← hmu]; unfold UMem.unit; simp only [List.length_map]
    have hms : ∀ w, Wd NoS w0 (Ent.box p6 [.slice m.ga m.gs.length m.gc, .slice m.fa fn m.fc] 25 :: Ent.box p1 [.slice ga gn gc, .slice fa fn fc] 25 :: Ent.box p3 [.slice ya gn yc, .slice za fn zc] 25 :: Ent.box p4 [.int .i64 0, .int .i64 0] 28 :: unitE (trimU u) (.slice ya gn yc) (.slice za fn zc) fp :: (Ent.vec m.fa fn m.fc 35 4 (ys.flatMap uC) :: gvE m :: (m.gs.map gloE ++ ys.map uE))) w → SlAt w (.slice m.ga m.gs.length m.gc) 3 (trimU u).globals GlobalV ∧ SlAt w (.slice m.fa fn m.fc) 4 (trimU u).funcs FuncV := fun w hw => by
      have h2 : Wd NoS w0 ((UMem.ents { m with fs := ys }) ++ []) w := by
        rw [List.append_nil]
        unfold UMem.ents
        simp only
        rw [hxl]
        exact hw.sub (.cons _ (.cons _ (.cons _ (.cons _ (.cons _ (List.Sublist.refl _))))))
      have h3 := UMem.sl (m := { m with fs := ys }) ⟨hmb.glob, fun y hy => ⟨(hxb y hy).1, (hxb y hy).2.1⟩⟩ ⟨by have := hu.ok.globs; simp only; omega, by have := hl.1; simp only; omega, fun y hy => (hxb y hy).2.2⟩ h2
      rw [hfin, hfing] at h3
      simp only [hxl] at h3
      exact h3
    repeat (first | refine g_op rfl ?_ | refine g_then ?_ | refine g_region ?_ | refine g_seq ?_ | refine g_exit ?_ | refine g_thenExit ?_ | refine g_exitHere ?_)
    refine g_callV rfl (fun w hw => given_c _ _ _ _ 0 0 _ _ (trimU u) w (hms w hw).1 (hms w hw).2 (fun X hX => ⟨(check_lim hl2 (check_zero.2 hu2.ok) X hX).n, fun b hb => ⟨((check_lim hl2 (check_zero.2 hu2.ok) X hX).each b hb).1, ((check_lim hl2 (check_zero.2 hu2.ok) X hX).each b hb).2.2.1⟩⟩) ⟨by omega, by omega⟩ (.inr ⟨check_notLarge hu2.ok, rfl, rfl, (hw.get (k := 4) rfl).1, (hw.get (k := 4) rfl).2⟩)) ?_
    repeat (first | refine g_op rfl ?_ | refine g_then ?_ | refine g_nil ?_ | refine g_ret ?_)
    exact g_retV rfl rfl
end Go.Proofs.YtbmnkjaelfjlhaaDoor


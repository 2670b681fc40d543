/- Texts joined: LiveD LiveE LiveF LiveG LiveH HeldB LiveI LiveJ. -/
import Derived.Test.YtbmnkjaelfjlhaaDoorGD
import Derived.Test.YtbmnkjaelfjlhaaDoorGE
import Derived.Test.YtbmnkjaelfjlhaaDoorGF
/- live.AllOf: what it returns. -/
namespace Go.Proofs.YtbmnkjaelfjlhaaDoor
open Go Go.RowKit
attribute [local irreducible] wpListIn Code.wpIn Exit.then Exit.inBlock bodyPost wpQuiet wpAnyIn bodyPostM
set_option maxHeartbeats 4000000

structure RowB where
  a : Option Addr
  c : Nat
  l : List Bool
def valS (R : Nat) (r : RowB) : Value := .slice r.a R r.c
def entS (R : Nat) (r : RowB) : Ent := vecB r.a R r.c r.l
theorem sets_sl {S : Nat → Prop} {w0 w : World} {R : Nat} {rs : List RowB} {a : Option Addr} {n c e : Nat} {H : List Ent} (h : Wd S w0 (Ent.vec a n c e 1 (rs.map (valS R)) :: (rs.map (entS R) ++ H)) w) (hn : n = rs.length) (hb : n ≤ 1000) (hR : R ≤ 1000) (hl : ∀ r ∈ rs, r.l.length = R) :
    SlAt w (.slice a n c) 1 (rs.map (·.l)) SetV := by
  refine h.slAt (k := 0) rfl (by simpa using hn) (by omega) fun i x hx => ?_
  rw [List.getElem?_map] at hx
  obtain ⟨r, hr, rfl⟩ := Option.map_eq_some_iff.1 hx
  have hlt : i < rs.length := (List.getElem?_eq_some_iff.1 hr).1
  have hb' := hl r (List.mem_of_getElem? hr)
  refine ⟨[valS R r], fun j v hj => ?_, valS R r, rfl, ?_⟩
  · match j, hj with
    | 0, hj => simpa [hr] using hj
  · refine h.slAt (k := i + 1) (a := r.a) (n := R) (c := r.c) (e := 4) (s := 1) (xs := r.l.map .bool) ?_ hb'.symm (by omega) fun j y hy => ⟨[.bool y], fun k v hk => ?_, rfl⟩
    · rw [List.getElem?_cons_succ, List.getElem?_append_left (by simpa using hlt), List.getElem?_map, hr]; rfl
    · match k, hk with
      | 0, hk => simpa [hy] using hk
theorem set_sl {S : Nat → Prop} {w0 w : World} {R : Nat} {rs : List RowB} {E H : List Ent} (h : Wd S w0 (E ++ (rs.map (entS R) ++ H)) w) {i : Nat} {r : RowB} (hr : rs[i]? = some r) (hR : R ≤ 1000) (hl : r.l.length = R) : SlAt w (valS R r) 1 r.l BoolV := by
  have hlt : i < rs.length := (List.getElem?_eq_some_iff.1 hr).1
  refine h.slAt (k := E.length + i) (a := r.a) (n := R) (c := r.c) (e := 4) (s := 1) (xs := r.l.map .bool) ?_ hl.symm (by omega) fun j y hy => ⟨[.bool y], fun k v hk => ?_, rfl⟩
  · rw [List.getElem?_append_right (by omega), show E.length + i - E.length = i by omega, List.getElem?_append_left (by simpa using hlt), List.getElem?_map, hr]; rfl
  · match k, hk with
    | 0, hk => simpa [hy] using hk
/-- rounds over instructions, from the last to the first -/
abbrev InsA (R : Nat) (wz : World) : Type := { y : Int × LIns × (Option Addr × Nat × Nat) // InsOk R y.2.1 ∧ y.2.1.args.length ≤ 1000 ∧ SlAt wz (.slice y.2.2.1 y.2.2.2.1 y.2.2.2.2) 2 y.2.1.args ValV }
def insC (x : LIns) (v : Option Addr × Nat × Nat) : List Value := [.int .i64 x.op, .int .i64 x.dst, .bool x.a.reg, .int .i64 x.a.n, .bool x.b.reg, .int .i64 x.b.n, .int .i64 x.fn, .slice v.1 v.2.1 v.2.2]
def InsA.enc {R : Nat} {wz : World} (y : InsA R wz) : Int × List Value := (y.1.1, insC y.1.2.1 y.1.2.2)
/-- a list, each element with what is told of it -/
theorem list_pick {α β : Type} {p : Nat → α → β → Prop} : ∀ (l : List α), (∀ i x, l[i]? = some x → ∃ y, p i x y) → ∃ ys : List β, ys.length = l.length ∧ ∀ i x, l[i]? = some x → ∃ y, ys[i]? = some y ∧ p i x y := by
  intro l h
  classical
  refine ⟨(List.range l.length).attach.map fun i => Classical.choose (h i.1 (l[i.1]'(by have := i.2; simpa using this)) (List.getElem?_eq_getElem _)), by simp, fun i x hx => ?_⟩
  have hlt := (List.getElem?_eq_some_iff.1 hx).1
  have hx2 := (List.getElem?_eq_some_iff.1 hx).2
  refine ⟨_, by rw [List.getElem?_eq_getElem (by simpa using hlt)], ?_⟩
  simp only [List.getElem_map, List.getElem_attach, List.getElem_range]
  have := Classical.choose_spec (h i (l[i]'hlt) (List.getElem?_eq_getElem _))
  simpa [hx2] using this
theorem insA_ex {R : Nat} {wz : World} {b o : Nat} {l : List LIns} (hok : ∀ x ∈ l, InsOk R x) (hargs : ∀ x ∈ l, x.args.length ≤ 1000) (hel : ∀ i x, l[i]? = some x → ∃ cs, CellsAt wz b (o + i * 8) cs ∧ InsV wz x cs) :
    ∃ (zs : List (List Value)) (xs : List (InsA R wz)), zs.length = l.length ∧ (∀ z ∈ zs, z.length = 8) ∧ xs.map InsA.enc = downL zs zs.length ∧ xs.map (·.1.2.1) = l.reverse ∧ ∀ m z, zs[m]? = some z → ∀ j v, z[j]? = some v → wz.cell? ⟨b, o + m * 8 + j, none⟩ = some v := by
  obtain ⟨ys, hyl, hys⟩ := list_pick (p := fun i x (v : Option Addr × Nat × Nat) => CellsAt wz b (o + i * 8) (insC x v) ∧ SlAt wz (.slice v.1 v.2.1 v.2.2) 2 x.args ValV) l fun i x hx => by
    obtain ⟨cs, hc, v, rfl, _, _, _, _, _, hs⟩ := hel i x hx
    have hs0 := hs
    obtain ⟨va, vn, vc, _, _, rfl, _⟩ := hs
    exact ⟨(va, vn, vc), hc, hs0⟩
  have hex : ∀ k, k ≤ l.length → ∃ xs : List (InsA R wz), xs.map InsA.enc = downL ((List.range l.length).map fun i => insC (l[i]?.getD ⟨0, 0, noV, noV, 0, []⟩) (ys[i]?.getD (none, 0, 0))) k ∧ xs.map (·.1.2.1) = l.reverse.take k := by
    intro k
    induction k with
    | zero => exact fun _ => ⟨[], by simp [downL], by simp⟩
    | succ k ih =>
      intro hk
      obtain ⟨xs, h1, h2⟩ := ih (by omega)
      obtain ⟨x, hx⟩ : ∃ x, l[l.length - 1 - k]? = some x := ⟨_, List.getElem?_eq_getElem (by omega)⟩
      obtain ⟨v, hv, hc, hs⟩ := hys _ x hx
      refine ⟨xs ++ [⟨(((l.length - 1 - k : Nat) : Int), x, v), hok x (List.mem_of_getElem? hx), hargs x (List.mem_of_getElem? hx), hs⟩], ?_, ?_⟩
      · rw [List.map_append, h1]
        simp only [downL, List.range_succ, List.map_append, List.map_cons, List.map_nil, List.length_map, List.length_range]
        congr 1
        have hlt : l.length - 1 - k < l.length := by omega
        simp only [InsA.enc, List.getElem?_map, List.getElem?_range hlt, Option.map_some, Option.getD_some, hx, hv]
      · rw [List.map_append, h2, List.take_add_one, List.getElem?_reverse (by omega), hx]; rfl
  obtain ⟨xs, h1, h2⟩ := hex l.length (Nat.le_refl _)
  refine ⟨(List.range l.length).map fun i => insC (l[i]?.getD ⟨0, 0, noV, noV, 0, []⟩) (ys[i]?.getD (none, 0, 0)), xs, by simp, fun z hz => ?_, by simpa using h1, by rw [h2, List.take_of_length_le (by simp)], fun m z hz j v hj => ?_⟩
  · obtain ⟨i, _, rfl⟩ := List.mem_map.1 hz
    rfl
  · rw [List.getElem?_map] at hz
    obtain ⟨i, hi, rfl⟩ := Option.map_eq_some_iff.1 hz
    have hlt : m < l.length := by have := (List.getElem?_eq_some_iff.1 hi).1; simpa using this
    rw [List.getElem?_range hlt] at hi
    simp only [Option.some.injEq] at hi
    subst hi
    obtain ⟨x, hx⟩ : ∃ x, l[m]? = some x := ⟨_, List.getElem?_eq_getElem hlt⟩
    obtain ⟨v', hv', hc, _⟩ := hys m x hx
    rw [hx, hv'] at hj
    exact hc j v hj
theorem backInsStops {R : Nat} {own : Nat → Prop} {wz w : World} {Bs n c b o : Nat} {a : Option Addr} {zs : List (List Value)} {xs : List (InsA R wz)} (hn : n = zs.length) (ha : zs ≠ [] → a = some ⟨b, o, none⟩) (hlen : zs.length ≤ 100000) (h8 : ∀ z ∈ zs, z.length = 8)
    (hcell : ∀ m z, zs[m]? = some z → ∀ j v, z[j]? = some v → wz.cell? ⟨b, o + m * 8 + j, none⟩ = some v) (hown : ∀ p v, wz.cell? p = some v → ¬ own p.block) (hBo : ¬ own Bs) (hz0 : ∀ p v, wz.cell? p = some v → w.cell? p = some v) (hB : w.cell? ⟨Bs, 0, none⟩ = some (.slice a n c)) (hxs : xs.map InsA.enc = downL zs zs.length) :
    SeqStopsK (FW none) 4 Tryd.prog 143 #[.pointer (some ⟨Bs, 0, none⟩)] (fun x : InsA R wz => #[.int .i64 (InsA.enc x).1, .agg (InsA.enc x).2.toArray]) (KeepX own) (fun ys => ys = xs) (fun pre => pre <+: xs) xs.length w := by
  intro l J Jx W hW _ _ hY h0
  have hxl : xs.length = zs.length := by have := congrArg List.length hxs; rwa [List.length_map, downL_length] at this
  subst hn
  have hcW : ∀ p v, w.cell? p = some v → W.cell? p = some v := fun p v hp => (hW.cell (World.block_lt_of_cell? w _ hp)).trans hp
  refine backIns1_in 4 (by omega) InsA.enc l Bs b o c (fun b => ¬ own b) (KeepX own) (KeepX.refl own) (fun _ _ _ h k => h.trans k) (fun A B h p v hp hc => h.cell hp hc) zs xs hxs hlen (fun hne => ?_) hBo J Jx a (fun hne => ha hne) (fun pre x W1 hJ hl => hY pre x W1 hJ (by omega)) W (hcW _ _ hB) h8 (fun m z hz j v hj => hcW _ _ (hz0 _ _ (hcell m z hz j v hj))) h0
  obtain ⟨z, hz⟩ : ∃ z, zs[0]? = some z := ⟨_, List.getElem?_eq_getElem (List.length_pos_iff.2 hne)⟩
  have hz8 := h8 z (List.mem_of_getElem? hz)
  obtain ⟨v, hv⟩ : ∃ v, z[0]? = some v := ⟨_, List.getElem?_eq_getElem (by omega)⟩
  exact hown _ v (hcell 0 z hz 0 v hv)
end Go.Proofs.YtbmnkjaelfjlhaaDoor


/- live.AllOf, walked. -/
namespace Go.Proofs.YtbmnkjaelfjlhaaDoor
open Go Go.RowKit
attribute [local irreducible] wpListIn Code.wpIn Exit.then Exit.inBlock bodyPost wpQuiet wpAnyIn bodyPostM
set_option maxHeartbeats 8000000

/-- how much is not yet in -/
def missing (rs : List RowB) : Nat := (rs.map fun r => unseen r.l).sum
theorem missing_set {rs : List RowB} {b : Nat} {r r' : RowB} (h : rs[b]? = some r) : missing (rs.set b r') + unseen r.l = missing rs + unseen r'.l := by
  unfold missing
  induction rs generalizing b with
  | nil => simp at h
  | cons x rs ih =>
    cases b with
    | zero =>
      simp only [List.getElem?_cons_zero, Option.some.injEq] at h
      subst h
      simp only [List.set_cons_zero, List.map_cons, List.sum_cons]
      omega
    | succ b =>
      have := ih (by simpa using h)
      simp only [List.set_cons_succ, List.map_cons, List.sum_cons] at this ⊢
      omega
theorem unseen_less : ∀ {l m : List Bool}, l.length = m.length → (∀ r, has l r → has m r) → l ≠ m → unseen m < unseen l
  | [], [], _, _, h => absurd rfl h
  | [], _ :: _, h, _, _ => by simp at h
  | _ :: _, [], h, _, _ => by simp at h
  | x :: l, y :: m, h, hs, hne => by
    have hl : l.length = m.length := by simpa using h
    have ht : ∀ r, has l r → has m r := fun r hr => by have := hs (r + 1); simpa [has] using this (by simpa [has] using hr)
    have h0 := hs 0
    simp only [has, List.getElem?_cons_zero, Option.some.injEq] at h0
    by_cases e : l = m
    · subst e
      cases x <;> cases y <;> simp_all [unseen]
    · have := unseen_less hl ht e
      cases x <;> cases y <;> simp_all [unseen] <;> omega
/-- what the sets of a function tell: no more than is live, and each told by the others -/
structure LiveI (R : Nat) (bl : List LBlock) (rs : List RowB) : Prop where
  len : rs.length = bl.length
  row : ∀ r ∈ rs, r.l.length = R
  pre : ∀ b r, inOf (rs.map (·.l)) b r → Head bl (inOf (rs.map (·.l))) b r
  sound : ∀ b r, inOf (rs.map (·.l)) b r → LiveS bl r b (-1)
theorem inOf_get {rs : List RowB} {b r : Nat} {q : RowB} (h : rs[b]? = some q) : inOf (rs.map (·.l)) b r ↔ has q.l r := by
  unfold inOf
  rw [List.getElem?_map, h]
  simp
theorem inOf_set {rs : List RowB} {b t r : Nat} {q : RowB} (hb : b < rs.length) : inOf ((rs.set b q).map (·.l)) t r ↔ (if t = b then has q.l r else inOf (rs.map (·.l)) t r) := by
  unfold inOf
  rw [List.getElem?_map, List.getElem?_set]
  by_cases e : b = t
  · subst e
    rw [if_pos rfl, if_pos hb, if_pos rfl]
    simp
  · rw [if_neg e, if_neg (Ne.symm e), List.getElem?_map]
theorem LiveI.upd {R : Nat} {bl : List LBlock} {rs : List RowB} {b : Nat} {q : RowB} (h : LiveI R bl rs) (hb : b < rs.length) (hq : q.l.length = R) (hh : ∀ r, has q.l r ↔ Head bl (inOf (rs.map (·.l))) b r) : LiveI R bl (rs.set b q) := by
  have up : ∀ t r, inOf (rs.map (·.l)) t r → inOf ((rs.set b q).map (·.l)) t r := fun t r hr => by
    rw [inOf_set hb]
    by_cases e : t = b
    · subst e
      rw [if_pos rfl, hh r]
      exact h.pre t r hr
    · rw [if_neg e]; exact hr
  refine ⟨by rw [List.length_set]; exact h.len, fun r hr => ?_, fun t r hr => ?_, fun t r hr => ?_⟩
  · rcases List.mem_or_eq_of_mem_set hr with hr | rfl
    · exact h.row r hr
    · exact hq
  · rw [inOf_set hb] at hr
    by_cases e : t = b
    · subst e
      rw [if_pos rfl, hh r] at hr
      exact hr.mono up
    · rw [if_neg e] at hr
      exact (h.pre t r hr).mono up
  · rw [inOf_set hb] at hr
    by_cases e : t = b
    · subst e
      rw [if_pos rfl, hh r] at hr
      exact head_live h.sound hr
    · rw [if_neg e] at hr
      exact h.sound t r hr
/-- what AllOf hands back -/
structure AllR (R : Nat) (bl : List LBlock) (ins outs : List RowB) : Prop where
  inLen : ins.length = bl.length
  outLen : outs.length = bl.length
  inRow : ∀ r ∈ ins, r.l.length = R
  outRow : ∀ r ∈ outs, r.l.length = R
  inAt : ∀ b q r, ins[b]? = some q → (has q.l r ↔ LiveS bl r b (-1))
  outAt : ∀ b q r B, outs[b]? = some q → bl[b]? = some B → (has q.l r ↔ LiveS bl r b (B.list.length + 1))
theorem allR_of {R : Nat} {bl : List LBlock} {ins outs : List RowB} (h : LiveI R bl ins) (ho : outs.length = bl.length) (hor : ∀ r ∈ outs, r.l.length = R) (hc : ∀ b, b < bl.length → ∀ r, Head bl (inOf (ins.map (·.l))) b r → inOf (ins.map (·.l)) b r) (hb : ∀ b q r, outs[b]? = some q → (has q.l r ↔ Beh bl (inOf (ins.map (·.l))) b r)) : AllR R bl ins outs := by
  have hcl : ∀ r b, Head bl (inOf (ins.map (·.l))) b r → inOf (ins.map (·.l)) b r := fun r b hh => by
    obtain ⟨B, hB, _⟩ := id hh
    exact hc b (List.getElem?_eq_some_iff.1 hB).1 r hh
  refine ⟨h.len, ho, h.row, hor, fun b q r hq => ?_, fun b q r B hq hB => ?_⟩
  · rw [← inOf_get hq]
    refine ⟨h.sound b r, fun hl => ?_⟩
    obtain ⟨B, hB⟩ : ∃ B, bl[b]? = some B := ⟨_, List.getElem?_eq_getElem (by have := (List.getElem?_eq_some_iff.1 hq).1; rw [← h.len]; exact this)⟩
    exact (live_closed (fun b => hcl r b) hl B hB).1 rfl
  · rw [hb b q r hq]
    refine ⟨fun hh => beh_live h.sound hB (.inr rfl) hh, fun hl => ?_⟩
    exact (live_closed (fun b => hcl r b) hl B hB).2.2 rfl
theorem g_wd {N : Nat} {ds : List Deferred} {S : Nat → Prop} {w0 : World} {L : List (Nat × Value)} {H H' : List Ent} {p : Act → World → Prop} (h : ∀ w, Wd S w0 H w → Wd S w0 H' w) (k : G N ds S w0 L H' p) : G N ds S w0 L H p := fun a w hS => k a w ⟨hS.fr, h w hS.wd⟩
theorem perm_two {α : Type} (m r : α) (X O M : List α) : (m :: r :: (X ++ (O ++ M))).Perm (X ++ ((O ++ [r]) ++ (m :: M))) := by
  have h1 : X ++ ((O ++ [r]) ++ (m :: M)) = (X ++ O) ++ r :: (m :: M) := by simp [List.append_assoc]
  rw [h1, ← List.append_assoc]
  exact (List.Perm.swap _ _ _).trans (((List.perm_middle (l₁ := X ++ O) (a := m) (l₂ := M)).symm.cons r).trans (List.perm_middle (l₁ := X ++ O) (a := r) (l₂ := m :: M)).symm)
theorem wd_put {S : Nat → Prop} {w0 w : World} {e old : Ent} {X I Y : List Ent} {b : Nat} (h : Wd S w0 (e :: (X ++ (I ++ Y))) w) (hb : I[b]? = some old) : Wd S w0 (X ++ (I.set b e ++ Y)) w := by
  have h1 : Wd S w0 (e :: (X ++ (I.eraseIdx b ++ Y))) w := h.sub (List.Sublist.cons_cons _ (List.Sublist.append_left (List.Sublist.append_right (List.eraseIdx_sublist I b) Y) X))
  refine h1.perm ((List.perm_middle (l₁ := X) (a := e) (l₂ := I.eraseIdx b ++ Y)).symm.trans ?_)
  exact List.Perm.append_left X (List.Perm.append_right Y (perm_set hb e))
theorem allOf_c (nm pa : Value) (R : Nat) (hR : R ≤ 100) (bl : List LBlock) (bs : Value) (w0 : World) (hbs : SlAt w0 bs 6 bl BlockV) (hlen : bl.length ≤ 100) (hf : FuncOk R bl) (hargs : ∀ B ∈ bl, ∀ x ∈ B.list, x.args.length ≤ 1000) (hlist : ∀ B ∈ bl, B.list.length ≤ 1000 ∧ B.phis.length ≤ 1000) :
    Ret Tryd.prog 67 [.agg #[nm, pa, .int .i64 R, bs]] w0 fun u w' => ∃ x : (Option Addr × Nat × List RowB) × (Option Addr × Nat × List RowB), u = .tuple #[.slice x.1.1 bl.length x.1.2.1, .slice x.2.1 bl.length x.2.2.1] ∧
      Wd NoS w0 (Ent.vec x.1.1 bl.length x.1.2.1 146 1 (x.1.2.2.map (valS R)) :: Ent.vec x.2.1 bl.length x.2.2.1 146 1 (x.2.2.2.map (valS R)) :: (x.1.2.2.map (entS R) ++ x.2.2.2.map (entS R))) w' ∧ AllR R bl x.1.2.2 x.2.2.2 := by
  have hbs0 := hbs
  have hok := hf.good
  obtain ⟨ba, n, bc, bb, bo', rfl, hn, hnc, hnb, hbc, hba, hel⟩ := hbs
  rw [← hn] at hlen ⊢
  refine ret_enterM Tryd.func67 rfl Tryd.ntmps67 rfl (Wd.nil NoS w0) ?_
  repeat (first | refine g_op rfl ?_ | refine g_then ?_ | refine g_nil ?_ | refine g_region ?_ | refine g_seq ?_ | refine g_box rfl fun _ _ => ?_)
  rename_i p1 _
  refine g_callE (val := fun x : (Option Addr × Nat × Nat) × (Nat → Prop) => .slice x.1.1 x.1.2.1 x.1.2.2) (E := fun x => [⟨x.2, fun w => SlAt w (.slice x.1.1 x.1.2.1 x.1.2.2) 1 (aheadL bl) RowV⟩]) (φ := fun _ => True) rfl (fun w hw => graphAhead_c _ _ _ bl _ w (hbs0.keep keeps_block hw.chg) (by omega) hok) fun x _ => ?_
  obtain ⟨⟨aa, an, ac⟩, fp⟩ := x
  simp only [List.cons_append, List.nil_append]
  repeat (first | refine g_op rfl ?_ | refine g_then ?_ | refine g_nil ?_ | refine g_region ?_ | refine g_seq ?_ | refine g_block ?_)
  refine g_nilVec 146 1 ?_
  refine g_loop (fun (x : Option Addr × Nat × List RowB) => x.2.2.length ≤ n ∧ ∀ r ∈ x.2.2, r.l = List.replicate R false) (fun x => [(17, .int .i64 x.2.2.length), (16, .int .i64 n), (2, .slice x.1 x.2.2.length x.2.1), (3, .slice none 0 0), (4, .slice aa an ac), (1, .pointer (some ⟨p1, 0, none⟩))])
    (fun x => ⟨fp, fun w => SlAt w (.slice aa an ac) 1 (aheadL bl) RowV⟩ :: Ent.box p1 [nm, pa, .int .i64 R, .slice ba n bc] 35 :: Ent.vec x.1 x.2.2.length x.2.1 146 1 (x.2.2.map (valS R)) :: x.2.2.map (entS R)) (fun x => n - x.2.2.length) (none, 0, []) ⟨Nat.zero_le _, by simp⟩ ?_ fun x ⟨hi, hall⟩ => ?_
  · refine g_sel [1, 2, 0] (by decide) ?_
    exact g_done (by repeat (first | exact trivial | refine ⟨rfl, ?_⟩)) (List.Sublist.refl _)
  obtain ⟨ia, ic, ins⟩ := x
  simp only at hi hall ⊢
  repeat (first | refine g_op rfl ?_ | refine g_then ?_ | refine g_nil ?_ | refine g_region ?_ | refine g_seq ?_)
  refine g_cond (fun h1 => ?_) (fun h1 => ?_)
  · have hlt : ins.length < n := by simpa using h1
    repeat (first | refine g_op rfl ?_ | refine g_then ?_ | refine g_region ?_ | refine g_seq ?_ | refine g_block ?_ | refine g_skip ?_ | refine g_build1 rfl rfl fun _ _ => ?_ | refine g_make rfl (by omega) (by omega) fun _ _ => ?_)
    rename_i pr _ bt _
    refine g_append rfl rfl (by omega) (by omega) fun a' c' => ?_
    rw [show List.replicate R (Value.bool false) = (List.replicate R false).map Value.bool by simp]
    refine g_fix (L' := [(24, .slice a' (ins.length + 1) c'), (17, .int .i64 ins.length), (16, .int .i64 n), (3, .slice none 0 0), (4, .slice aa an ac), (1, .pointer (some ⟨p1, 0, none⟩))]) (by repeat (first | exact trivial | refine ⟨rfl, ?_⟩)) (List.Sublist.cons _ (List.Sublist.refl _)) ?_
    refine g_permH (List.perm_append_singleton _ _).symm ?_
    refine g_eqH (H1 := ⟨fp, fun w => SlAt w (.slice aa an ac) 1 (aheadL bl) RowV⟩ :: Ent.box p1 [nm, pa, .int .i64 R, .slice ba n bc] 35 :: Ent.vec a' (ins ++ [(⟨some ⟨pr, 0, none⟩, R, List.replicate R false⟩ : RowB)]).length c' 146 1 ((ins ++ [(⟨some ⟨pr, 0, none⟩, R, List.replicate R false⟩ : RowB)]).map (valS R)) :: (ins ++ [(⟨some ⟨pr, 0, none⟩, R, List.replicate R false⟩ : RowB)]).map (entS R)) (by simp [valS, entS, vecB]) ?_
    repeat (first | refine g_op rfl ?_ | refine g_then ?_ | refine g_nil ?_ | refine g_region ?_ | refine g_opS rfl ?_ | refine g_inBlock ?_ | refine g_add rfl (by omega) (by omega) ?_)
    refine g_next (a', c', ins ++ [(⟨some ⟨pr, 0, none⟩, R, List.replicate R false⟩ : RowB)]) ⟨by simp; omega, fun r hr => ?_⟩ (by simp; omega) ?_ (List.Sublist.refl _)
    · rcases List.mem_append.1 hr with hr | hr
      · exact hall r hr
      · simp only [List.mem_singleton] at hr; subst hr; rfl
    · simp only [List.length_append, List.length_singleton, Int.natCast_add]
      exact (by repeat (first | exact trivial | refine ⟨rfl, ?_⟩))
  have hge : ins.length = n := by have := h1; simp at this; omega
  have hL0 : LiveI R bl ins := by
    have hno : ∀ b r, ¬ inOf (ins.map (·.l)) b r := fun b r ⟨s, hs, h⟩ => by
      rw [List.getElem?_map] at hs
      obtain ⟨q, hq, rfl⟩ := Option.map_eq_some_iff.1 hs
      rw [hall q (List.mem_of_getElem? hq)] at h
      unfold has at h
      rw [List.getElem?_replicate] at h
      split at h <;> simp at h
    exact ⟨by omega, fun r hr => by rw [hall r hr]; simp, fun b r h => absurd h (hno b r), fun b r h => absurd h (hno b r)⟩
  rw [hge]
  repeat (first | refine g_op rfl ?_ | refine g_then ?_ | refine g_nil ?_ | refine g_region ?_ | refine g_seq ?_ | refine g_block ?_ | refine g_exit ?_ | refine g_thenExit ?_ | refine g_exitHere ?_)
  refine g_nilVec 146 1 ?_
  clear hall
  refine g_loopD (fun x : Bool × List RowB × (Option Addr × Nat × List RowB) × List Nat => dsOf x.2.2.2) (fun x => LiveI R bl x.2.1 ∧ (x.1 = false → AllR R bl x.2.1 x.2.2.1.2.2)) (fun x => [(5, .bool x.1), (2, .slice ia n ic), (3, .slice x.2.2.1.1 x.2.2.1.2.2.length x.2.2.1.2.1), (4, .slice aa an ac), (1, .pointer (some ⟨p1, 0, none⟩))])
    (fun x => ⟨fp, fun w => SlAt w (.slice aa an ac) 1 (aheadL bl) RowV⟩ :: Ent.box p1 [nm, pa, .int .i64 R, .slice ba n bc] 35 :: Ent.vec ia n ic 146 1 (x.2.1.map (valS R)) :: Ent.vec x.2.2.1.1 x.2.2.1.2.2.length x.2.2.1.2.1 146 1 (x.2.2.1.2.2.map (valS R)) :: (x.2.1.map (entS R) ++ (x.2.2.1.2.2.map (entS R) ++ marks x.2.2.2))) (fun x => missing x.2.1 * 2 + (if x.1 then 1 else 0)) (true, ins, (none, 0, []), []) rfl ⟨hL0, by simp⟩ ?_ fun x ⟨hL, hA⟩ => ?_
  · refine g_permH (H1 := ⟨fp, fun w => SlAt w (.slice aa an ac) 1 (aheadL bl) RowV⟩ :: Ent.box p1 [nm, pa, .int .i64 R, .slice ba n bc] 35 :: Ent.vec ia n ic 146 1 (ins.map (valS R)) :: Ent.vec none 0 0 146 1 [] :: ins.map (entS R)) ?_ ?_
    · exact (List.perm_middle (l₁ := [⟨fp, fun w => SlAt w (.slice aa an ac) 1 (aheadL bl) RowV⟩, Ent.box p1 [nm, pa, .int .i64 R, .slice ba n bc] 35, Ent.vec ia n ic 146 1 (ins.map (valS R))]) (a := Ent.vec none 0 0 146 1 []) (l₂ := ins.map (entS R))).symm
    · exact g_done (by repeat (first | exact trivial | refine ⟨rfl, ?_⟩)) (by simp [marks])
  clear hL0 hge hi h1
  obtain ⟨more, ins, ⟨oa, oc, outs⟩, Ds⟩ := x
  simp only at hL hA ⊢
  cases more
  case false =>
    have hA := hA rfl
    have hon : outs.length = n := by rw [hA.outLen, hn]
    repeat (first | refine g_op rfl ?_ | refine g_then ?_ | refine g_nil ?_ | refine g_region ?_ | refine g_seq ?_ | refine g_opS rfl ?_ | refine g_condF ?_ | refine g_exit ?_ | refine g_thenExit ?_ | refine g_exitHere ?_ | refine g_ret ?_)
    refine g_eqH (H1 := (⟨fp, fun w => SlAt w (.slice aa an ac) 1 (aheadL bl) RowV⟩ :: Ent.box p1 [nm, pa, .int .i64 R, .slice ba n bc] 35 :: Ent.vec ia n ic 146 1 (ins.map (valS R)) :: Ent.vec oa outs.length oc 146 1 (outs.map (valS R)) :: (ins.map (entS R) ++ outs.map (entS R))) ++ marks Ds) (by simp [List.append_assoc]) ?_
    refine g_permH List.perm_append_comm ?_
    refine g_retMs2 rfl fun w hw => ⟨((ia, ic, ins), (oa, oc, outs)), ?_, ?_, hA⟩
    · rw [hon]
    · rw [hon] at hw
      exact hw.sub (List.Sublist.cons _ (List.Sublist.cons _ (List.Sublist.refl _)))
  clear hA
  repeat (first | refine g_op rfl ?_ | refine g_then ?_ | refine g_nil ?_ | refine g_region ?_ | refine g_seq ?_ | refine g_opS rfl ?_ | refine g_block ?_ | refine g_skip ?_ | refine g_condT ?_)
  refine g_nilVec 146 1 ?_
  refine g_loopD (fun x : Bool × List RowB × (Option Addr × Nat × List RowB) × List Nat => dsOf x.2.2.2) (fun x => x.2.2.1.2.2.length ≤ n ∧ LiveI R bl x.2.1 ∧ (∀ r ∈ x.2.2.1.2.2, r.l.length = R) ∧ (x.1 = false → x.2.1 = ins ∧ (∀ b, b < x.2.2.1.2.2.length → ∀ r, Head bl (inOf (ins.map (·.l))) b r → inOf (ins.map (·.l)) b r) ∧ ∀ b q r, x.2.2.1.2.2[b]? = some q → (has q.l r ↔ Beh bl (inOf (ins.map (·.l))) b r)) ∧ (x.1 = true → missing x.2.1 < missing ins))
    (fun x => [(30, .int .i64 x.2.2.1.2.2.length), (29, .int .i64 n), (5, .bool x.1), (2, .slice ia n ic), (3, .slice x.2.2.1.1 x.2.2.1.2.2.length x.2.2.1.2.1), (4, .slice aa an ac), (1, .pointer (some ⟨p1, 0, none⟩))])
    (fun x => ⟨fp, fun w => SlAt w (.slice aa an ac) 1 (aheadL bl) RowV⟩ :: Ent.box p1 [nm, pa, .int .i64 R, .slice ba n bc] 35 :: Ent.vec ia n ic 146 1 (x.2.1.map (valS R)) :: Ent.vec x.2.2.1.1 x.2.2.1.2.2.length x.2.2.1.2.1 146 1 (x.2.2.1.2.2.map (valS R)) :: (x.2.1.map (entS R) ++ (x.2.2.1.2.2.map (entS R) ++ marks x.2.2.2))) (fun x => n - x.2.2.1.2.2.length) (false, ins, (none, 0, []), Ds) rfl ⟨Nat.zero_le _, hL, by simp, fun _ => ⟨rfl, by simp, by simp⟩, by simp⟩ ?_ fun x ⟨hob, hL', hor, hno, hyes⟩ => ?_
  · refine g_permH (H1 := ⟨fp, fun w => SlAt w (.slice aa an ac) 1 (aheadL bl) RowV⟩ :: Ent.box p1 [nm, pa, .int .i64 R, .slice ba n bc] 35 :: Ent.vec ia n ic 146 1 (ins.map (valS R)) :: Ent.vec none 0 0 146 1 [] :: Ent.vec oa outs.length oc 146 1 (outs.map (valS R)) :: (ins.map (entS R) ++ (outs.map (entS R) ++ marks Ds))) ?_ ?_
    · exact (List.perm_middle (l₁ := [⟨fp, fun w => SlAt w (.slice aa an ac) 1 (aheadL bl) RowV⟩, Ent.box p1 [nm, pa, .int .i64 R, .slice ba n bc] 35, Ent.vec ia n ic 146 1 (ins.map (valS R))]) (a := Ent.vec none 0 0 146 1 [])).symm
    · refine g_done (by repeat (first | exact trivial | refine ⟨rfl, ?_⟩)) ?_
      exact List.Sublist.cons_cons _ (List.Sublist.cons_cons _ (List.Sublist.cons_cons _ (List.Sublist.cons_cons _ (List.Sublist.cons _ (List.Sublist.append_left (List.sublist_append_right _ _) _)))))
  obtain ⟨more', ins', ⟨oa, oc, outs'⟩, Ds⟩ := x
  simp only at hob hL' hor hno hyes ⊢
  repeat (first | refine g_op rfl ?_ | refine g_then ?_ | refine g_nil ?_ | refine g_region ?_ | refine g_seq ?_)
  refine g_cond (fun h2 => ?_) (fun h2 => ?_)
  case refine_2 =>
    have hge2 : outs'.length = n := by have := h2; simp at this; omega
    repeat (first | refine g_then ?_ | refine g_inBlock ?_ | refine g_exit ?_ | refine g_thenExit ?_ | refine g_exitHere ?_)
    refine g_nextD (more', ins', (oa, oc, outs'), Ds) rfl ⟨hL', fun e => ?_⟩ ?_ (by repeat (first | exact trivial | refine ⟨rfl, ?_⟩)) (List.Sublist.refl _)
    · obtain ⟨e1, e2, e3⟩ := hno e
      subst e1
      refine allR_of hL' ?_ hor (fun b hb r h => e2 b (by omega) r h) e3
      show outs'.length = bl.length
      omega
    · cases more'
      · obtain ⟨e1, _⟩ := hno rfl
        subst e1
        simp
      · have := hyes rfl
        simp; omega
  have hbn : outs'.length < n := by simpa using h2
  generalize hbb : outs'.length = b at hbn h2
  repeat (first | refine g_op rfl ?_ | refine g_then ?_ | refine g_nil ?_ | refine g_region ?_ | refine g_seq ?_ | refine g_block ?_ | refine g_skip ?_)
  obtain ⟨B, hB⟩ := get_lt hn hbn
  have hBL : b < bl.length := by omega
  have had : AddrIs ba bb bo' := ⟨hba (ne_of_get hB)⟩
  have hli : LtIs b n := ⟨hbn⟩
  obtain ⟨cs, hcs, pv', lv, tv, rfl, _, _, hphis, hlv, ht⟩ := hel b B hB
  obtain ⟨xa, xn, xc, xb, xo, rfl, hxn, hxnc, hxnb, hxc, hxa, hxel⟩ := hphis
  obtain ⟨la, ln, lc, lb, lo, rfl, hln, hlnc, hlnb, hlc, hla, hlel⟩ := hlv
  obtain ⟨ta, tn, tc, _, _, rfl, _⟩ := ht
  have hci : CellsIs w0 bb (bo' + b * 6) _ := ⟨hcs⟩
  have hBo := hf.block b B hB
  have hil : ins'.length = n := by rw [hL'.len, hn]
  obtain ⟨q0, hq0⟩ : ∃ q0, ins'[b]? = some q0 := ⟨_, List.getElem?_eq_getElem (by omega)⟩
  -- behind the block
  refine g_callE (val := fun x : Nat × List Bool => .slice (some ⟨x.1, 0, none⟩) R R) (E := fun x => [vecB (some ⟨x.1, 0, none⟩) R R x.2]) (φ := fun x => x.2.length = R ∧ ∀ r, has x.2 r ↔ Beh bl (inOf (ins'.map (·.l))) b r) rfl
    (fun w hw => behindOf_c nm pa R hR bl _ b (ins'.map (·.l)) aa ia an ac ic w (hbs0.keep keeps_block hw.chg) n hn hf hBL (by rw [List.length_map, hil, hn]) (fun s hs => by obtain ⟨q, hq, rfl⟩ := List.mem_map.1 hs; exact hL'.row q hq) (hw.get (k := 0) rfl) (sets_sl (e := 146) (H := outs'.map (entS R) ++ marks Ds) (hw.sub (List.Sublist.cons _ (List.Sublist.cons _ (List.Sublist.cons_cons _ (List.Sublist.cons _ (List.Sublist.refl _)))))) hil.symm (by omega) (by omega) hL'.row)) fun x hx => ?_
  obtain ⟨po, s0⟩ := x
  simp only [List.cons_append, List.nil_append] at hx ⊢
  unfold vecB
  repeat (refine g_build1 rfl rfl fun _ _ => ?_)
  rename_i bt _
  refine g_append rfl rfl (by omega) (by omega) fun oa' oc' => ?_
  repeat (first | refine g_op rfl ?_ | refine g_then ?_ | refine g_nil ?_ | refine g_region ?_ | refine g_seq ?_ | refine g_opS rfl ?_)
  refine g_vec 5 rfl (by omega) fun ob oo hoa => ?_
  subst hoa
  refine g_vec 4 rfl (by omega) fun ib io hia => ?_
  subst hia
  have hxo : XAt (outs'.map (valS R) ++ [.slice (some ⟨po, 0, none⟩) R R]) (b * 1) (.slice (some ⟨po, 0, none⟩) R R) := ⟨by rw [Nat.mul_one, List.getElem?_append_right (by simp; omega)]; simp [hbb]⟩
  have hlb1 : LtIs b (b + 1) := ⟨by omega⟩
  repeat (refine g_op rfl ?_)
  refine g_callE (val := fun x : Option Addr × Nat => .slice x.1 R x.2) (E := fun x => [vecB x.1 R x.2 s0]) (φ := fun _ => True) rfl (fun w hw => cloneB_c _ R R s0 (by omega) w (bools_sl hw (k := 1) rfl hx.1.symm (by omega))) fun x _ => ?_
  obtain ⟨ca, cc⟩ := x
  simp only [List.cons_append, List.nil_append]
  repeat (first | refine g_then ?_ | refine g_nil ?_ | refine g_seq ?_ | refine g_store ?_ | refine g_alloc rfl fun _ _ => ?_)
  rename_i p7 _
  refine g_drawW [(7, .pointer (some ⟨p7, 0, none⟩)), (6, .int .i64 b), (30, .int .i64 b), (29, .int .i64 n), (5, .bool more'), (2, .slice (some ⟨ib, io, none⟩) n ic), (3, .slice (some ⟨ob, oo, none⟩) (b + 1) oc'), (4, .slice aa an ac), (1, .pointer (some ⟨p1, 0, none⟩))] (vecB ca R cc (takeV s0 B.on) :: Ent.box p7 [.slice ca R cc] 146 :: Ent.vec (some ⟨bt, 0, none⟩) 1 1 146 1 [.slice (some ⟨po, 0, none⟩) R R] :: Ent.vec (some ⟨po, 0, none⟩) R R 4 1 (s0.map .bool) :: ⟨fp, fun w => SlAt w (.slice aa an ac) 1 (aheadL bl) RowV⟩ :: Ent.box p1 [nm, pa, .int .i64 R, .slice ba n bc] 35 :: (Ent.vec (some ⟨ib, io, none⟩) n ic 146 1 (ins'.map (valS R)) :: Ent.vec (some ⟨ob, oo, none⟩) (b + 1) oc' 146 1 (outs'.map (valS R) ++ [.slice (some ⟨po, 0, none⟩) R R]) :: (ins'.map (entS R) ++ (outs'.map (entS R) ++ marks Ds)))) mixed ?_ ?_
  · repeat' (first | refine g_take 1 rfl (by decide +kernel) ?_ | refine g_take 3 rfl (by decide +kernel) ?_ | refine g_take 4 rfl (by decide +kernel) ?_ | refine g_take 5 rfl (by decide +kernel) ?_ | refine g_take 6 rfl (by decide +kernel) ?_ | refine g_any (by decide +kernel) ?_ | refine any_nil | refine any_skip (by decide +kernel) ?_ | refine any_cons ?_ ?_ | refine g_op rfl ?_ | refine g_then ?_ | refine g_nil ?_)
    all_goals
      refine g_permH (List.Perm.swap _ _ _) ?_
      refine g_eqH (H1 := [vecB ca R cc s0] ++ (Ent.box p7 [.slice ca R cc] 146 :: Ent.vec (some ⟨bt, 0, none⟩) 1 1 146 1 [.slice (some ⟨po, 0, none⟩) R R] :: Ent.vec (some ⟨po, 0, none⟩) R R 4 1 (s0.map .bool) :: ⟨fp, fun w => SlAt w (.slice aa an ac) 1 (aheadL bl) RowV⟩ :: Ent.box p1 [nm, pa, .int .i64 R, .slice ba n bc] 35 :: (Ent.vec (some ⟨ib, io, none⟩) n ic 146 1 (ins'.map (valS R)) :: Ent.vec (some ⟨ob, oo, none⟩) (b + 1) oc' 146 1 (outs'.map (valS R) ++ [.slice (some ⟨po, 0, none⟩) R R]) :: (ins'.map (entS R) ++ (outs'.map (entS R) ++ marks Ds))))) rfl ?_
      refine g_callS (val := fun _ : Unit => .tuple #[]) (E := fun _ => [vecB ca R cc (takeV s0 B.on)]) (φ := fun _ => True) rfl (fun w hw => take_c ca R cc s0 hx.1 B.on hBo.on w hw.pre) fun _ _ => ?_
      simp only [List.cons_append, List.nil_append]
      repeat' (first | refine g_any0 (by decide +kernel) ?_ | refine g_then ?_ | refine g_nil ?_)
      exact g_done (by repeat (first | exact trivial | refine ⟨rfl, ?_⟩)) (List.Sublist.refl _)
  generalize hs1 : takeV s0 B.on = s1
  have hs1l : s1.length = R := by rw [← hs1, takeV_length]; exact hx.1
  repeat (first | refine g_op rfl ?_ | refine g_then ?_ | refine g_region ?_ | refine g_seq ?_)
  refine g_callE (val := fun p : Nat × Nat => .func (.func 143) #[] #[.pointer (some ⟨p.1, 0, none⟩)]) (E := fun p => [Ent.box p.1 [.slice la ln lc] p.2]) (φ := fun _ => True) rfl (fun w hw => backwardI_c _ ⟨_, _, _, rfl⟩ w) fun Bp _ => ?_
  obtain ⟨Bs, Bt⟩ := Bp
  simp only [List.cons_append, List.nil_append]
  repeat (first | refine g_then ?_ | refine g_nil ?_ | refine g_block ?_)
  obtain ⟨zs, xs, hzl, h8, hxs, hxm, hzc⟩ := insA_ex (R := R) (wz := w0) hBo.list (hargs B (List.mem_of_getElem? hB)) hlel
  have hfold : ∀ s, xs.foldl (fun s y => insV s y.1.2.1) s = B.list.reverse.foldl insV s := fun s => by rw [← hxm, List.foldl_map]
  refine g_fix (L' := [(61, .func (.func 143) #[] #[.pointer (some ⟨Bs, 0, none⟩)]), (7, .pointer (some ⟨p7, 0, none⟩)), (6, .int .i64 b), (30, .int .i64 b), (29, .int .i64 n), (5, .bool more'), (2, .slice (some ⟨ib, io, none⟩) n ic), (3, .slice (some ⟨ob, oo, none⟩) (b + 1) oc'), (4, .slice aa an ac), (1, .pointer (some ⟨p1, 0, none⟩))]) (by repeat (first | exact trivial | refine ⟨rfl, ?_⟩)) (List.Sublist.refl _) ?_
  refine g_permH (List.Perm.swap _ _ _) ?_
  refine g_rangeB (α := InsA R w0) (gf := 143) (lb := [.pointer (some ⟨Bs, 0, none⟩)]) (Ent.box Bs [.slice la ln lc] Bt :: Ent.box p7 [.slice ca R cc] 146 :: Ent.vec (some ⟨bt, 0, none⟩) 1 1 146 1 [.slice (some ⟨po, 0, none⟩) R R] :: Ent.vec (some ⟨po, 0, none⟩) R R 4 1 (s0.map .bool) :: ⟨fp, fun w => SlAt w (.slice aa an ac) 1 (aheadL bl) RowV⟩ :: Ent.box p1 [nm, pa, .int .i64 R, .slice ba n bc] 35 :: (Ent.vec (some ⟨ib, io, none⟩) n ic 146 1 (ins'.map (valS R)) :: Ent.vec (some ⟨ob, oo, none⟩) (b + 1) oc' 146 1 (outs'.map (valS R) ++ [.slice (some ⟨po, 0, none⟩) R R]) :: (ins'.map (entS R) ++ (outs'.map (entS R) ++ marks Ds)))) (fun s : List Bool => [vecB ca R cc s]) s1 (fun s => ⟨by intro e he; simp only [List.mem_singleton] at he; subst he; unfold vecB; infer_instance⟩) (fun s s' b ⟨e, he, hb⟩ => ⟨vecB ca R cc s', by simp, by simp only [List.mem_singleton] at he; subst he; exact hb⟩) xs
    (encs := fun y => #[.int .i64 (InsA.enc y).1, .agg (InsA.enc y).2.toArray]) (Bs := Bs) (bcs := [.slice la ln lc]) (bt := Bt) (List.mem_cons_self ..)
    (fun w1 hw1 => ?_) (fun pre s => s = pre.foldl (fun s y => insV s y.1.2.1) s1) rfl (List.Sublist.refl _) (fun _ => rfl) (fun y => insC y.1.2.1 y.1.2.2) 71
    (fun y => [(63, .agg (insC y.1.2.1 y.1.2.2).toArray), (62, .int .i64 y.1.1), (7, .pointer (some ⟨p7, 0, none⟩)), (6, .int .i64 b), (30, .int .i64 b), (29, .int .i64 n), (5, .bool more'), (2, .slice (some ⟨ib, io, none⟩) n ic), (3, .slice (some ⟨ob, oo, none⟩) (b + 1) oc'), (4, .slice aa an ac), (1, .pointer (some ⟨p1, 0, none⟩))]) (fun y q => [(9, .pointer (some ⟨q, 0, none⟩)), (7, .pointer (some ⟨p7, 0, none⟩)), (6, .int .i64 b), (30, .int .i64 b), (29, .int .i64 n), (5, .bool more'), (2, .slice (some ⟨ib, io, none⟩) n ic), (3, .slice (some ⟨ob, oo, none⟩) (b + 1) oc'), (4, .slice aa an ac), (1, .pointer (some ⟨p1, 0, none⟩))]) (fun y a h => ?_) (fun l y s R' => ?_) (fun l pre y s q RR hI hlt => ?_) fun D s2 hD hI => ?_
  · have hownz : ∀ b', fps ([vecB ca R cc s1] ++ (Ent.box Bs [.slice la ln lc] Bt :: Ent.box p7 [.slice ca R cc] 146 :: Ent.vec (some ⟨bt, 0, none⟩) 1 1 146 1 [.slice (some ⟨po, 0, none⟩) R R] :: Ent.vec (some ⟨po, 0, none⟩) R R 4 1 (s0.map .bool) :: ⟨fp, fun w => SlAt w (.slice aa an ac) 1 (aheadL bl) RowV⟩ :: Ent.box p1 [nm, pa, .int .i64 R, .slice ba n bc] 35 :: (Ent.vec (some ⟨ib, io, none⟩) n ic 146 1 (ins'.map (valS R)) :: Ent.vec (some ⟨ob, oo, none⟩) (b + 1) oc' 146 1 (outs'.map (valS R) ++ [.slice (some ⟨po, 0, none⟩) R R]) :: (ins'.map (entS R) ++ (outs'.map (entS R) ++ marks Ds))))) b' → w0.heap.size ≤ b' := fun b' ⟨e, he, hb'⟩ => (hw1.own e he b' hb').1.elim (fun h => h.elim) id
    exact backInsStops (R := R) (wz := w0) (b := lb) (o := lo) (by omega) (fun hne => hla (fun e => hne (by rw [e] at hzl; exact List.eq_nil_of_length_eq_zero hzl))) (by have := (hlist B (List.mem_of_getElem? hB)).1; omega) h8 hzc (fun p v hp h => by have := hownz _ h.1; have := World.block_lt_of_cell? w0 p hp; omega) (fun h => h.2 rfl) (fun p v hp => cell_keep hw1.chg hp) (hw1.boxCells Bs 0 _ rfl) hxs
  · have h2 := ((h.to (L' := [(7, .pointer (some ⟨p7, 0, none⟩)), (6, .int .i64 b), (30, .int .i64 b), (29, .int .i64 n), (5, .bool more'), (2, .slice (some ⟨ib, io, none⟩) n ic), (3, .slice (some ⟨ob, oo, none⟩) (b + 1) oc'), (4, .slice aa an ac), (1, .pointer (some ⟨p1, 0, none⟩))]) (by repeat (first | exact trivial | refine ⟨rfl, ?_⟩))).putOk (d := 62) rfl (.int .i64 y.1.1)).putOk (d := 63) rfl (.agg (insC y.1.2.1 y.1.2.2).toArray)
    have e : (#[62, 63].zip #[Value.int .i64 (InsA.enc y).1, .agg (InsA.enc y).2.toArray]).foldl (fun (t : Array Value) (q : Tmp × Value) => t.setIfInBounds q.1 q.2) a.tmps = (a.tmps.setIfInBounds 62 (.int .i64 y.1.1)).setIfInBounds 63 (.agg (insC y.1.2.1 y.1.2.2).toArray) := by simp [InsA.enc]
    refine ⟨Eq.trans (congrArg Array.size e) h2.size, rfl, fun p hp => ?_⟩
    exact Eq.trans (congrArg (fun t : Array Value => t[p.1]?) e) (h2.slot p hp)
  · simp only [insC]
    repeat (first | refine g_then ?_ | refine g_nil ?_ | refine g_region ?_ | refine g_alloc rfl fun _ _ => ?_ | refine g_storeAgg ?_)
    exact g_doneP _ (by repeat (first | exact trivial | refine ⟨rfl, ?_⟩)) (List.Sublist.refl _)
  · obtain ⟨⟨i0, x, ⟨va, vn, vc⟩⟩, hxo, hxa, hxs2⟩ := y
    simp only at hxo hxa hxs2
    have hsl2 : s.length = R := by
      rw [hI]
      have : ∀ (l : List (InsA R w0)) (s : List Bool), (l.foldl (fun s y => insV s y.1.2.1) s).length = s.length := by
        intro l
        induction l with
        | nil => exact fun _ => rfl
        | cons y l ih => exact fun s => by rw [List.foldl_cons, ih, insV_length]
      rw [this, hs1l]
    simp only [insC, List.cons_append, List.nil_append]
    repeat (first | refine g_op rfl ?_ | refine g_region ?_ | refine g_block ?_)
    refine g_permH (List.perm_middle (l₁ := [RR, Ent.box q (insC x (va, vn, vc)) 71]) (a := vecB ca R cc s)) ?_
    refine g_eqH (H1 := [vecB ca R cc s] ++ (RR :: Ent.box q (insC x (va, vn, vc)) 71 :: Ent.box Bs [.slice la ln lc] Bt :: Ent.box p7 [.slice ca R cc] 146 :: Ent.vec (some ⟨bt, 0, none⟩) 1 1 146 1 [.slice (some ⟨po, 0, none⟩) R R] :: Ent.vec (some ⟨po, 0, none⟩) R R 4 1 (s0.map .bool) :: ⟨fp, fun w => SlAt w (.slice aa an ac) 1 (aheadL bl) RowV⟩ :: Ent.box p1 [nm, pa, .int .i64 R, .slice ba n bc] 35 :: (Ent.vec (some ⟨ib, io, none⟩) n ic 146 1 (ins'.map (valS R)) :: Ent.vec (some ⟨ob, oo, none⟩) (b + 1) oc' 146 1 (outs'.map (valS R) ++ [.slice (some ⟨po, 0, none⟩) R R]) :: (ins'.map (entS R) ++ (outs'.map (entS R) ++ marks Ds))))) rfl ?_
    refine g_callS (val := fun _ : Unit => .tuple #[]) (E := fun _ => [vecB ca R cc (insV s x)]) (φ := fun _ => True) rfl (fun w hw => setAhead_c ca R cc s hsl2 x hxo (by omega) va vn vc NoS w0 (fun _ _ _ h => h) hxs2 w (hw.sub (List.sublist_append_left _ _))) fun _ _ => ?_
    simp only [List.cons_append, List.nil_append]
    repeat (first | refine g_then ?_ | refine g_nil ?_ | refine g_inBlock ?_)
    refine g_permH (List.Perm.swap _ _ _) ?_
    refine g_rnd (insV s x) ?_ (List.Sublist.refl _)
    rw [List.foldl_append, ← hI]; rfl
  rw [hfold] at hI
  have hs2l : s2.length = R := by
    rw [hI]
    have : ∀ (l : List LIns) (s : List Bool), (l.foldl insV s).length = s.length := by
      intro l
      induction l with
      | nil => exact fun _ => rfl
      | cons y l ih => exact fun s => by rw [List.foldl_cons, ih, insV_length]
    rw [this, hs1l]
  simp only [List.cons_append, List.nil_append]
  repeat (first | refine g_op rfl ?_ | refine g_then ?_ | refine g_nil ?_ | refine g_region ?_ | refine g_seq ?_ | refine g_inBlock ?_ | refine g_block ?_)
  refine g_wd (H' := vecB ca R cc s2 :: Ent.box p7 [.slice ca R cc] 146 :: Ent.mark D :: Ent.vec (some ⟨po, 0, none⟩) R R 4 1 (s0.map .bool) :: ⟨fp, fun w => SlAt w (.slice aa an ac) 1 (aheadL bl) RowV⟩ :: Ent.box p1 [nm, pa, .int .i64 R, .slice ba n bc] 35 :: (Ent.vec (some ⟨ib, io, none⟩) n ic 146 1 (ins'.map (valS R)) :: Ent.vec (some ⟨ob, oo, none⟩) (b + 1) oc' 146 1 (outs'.map (valS R) ++ [.slice (some ⟨po, 0, none⟩) R R]) :: (ins'.map (entS R) ++ (outs'.map (entS R) ++ marks Ds)))) (fun w hw => ?_) ?_
  · refine (hw.sub (List.Sublist.cons_cons _ (List.Sublist.cons_cons _ (List.Sublist.cons _ (List.Sublist.cons_cons _ (List.Sublist.cons _ (List.Sublist.refl _))))))).perm ?_
    exact (List.perm_middle (l₁ := [vecB ca R cc s2, Ent.box p7 [.slice ca R cc] 146]) (a := Ent.mark D)).symm
  refine g_loop (fun (x : Nat × List Bool) => x.1 ≤ xn ∧ x.2.length = R ∧ x.2 = (B.phis.take x.1).foldl (fun s p => s.set p.dst.toNat false) s2) (fun x => [(74, .int .i64 x.1), (72, .slice xa xn xc), (73, .int .i64 xn), (7, .pointer (some ⟨p7, 0, none⟩)), (6, .int .i64 b), (30, .int .i64 b), (29, .int .i64 n), (5, .bool more'), (2, .slice (some ⟨ib, io, none⟩) n ic), (3, .slice (some ⟨ob, oo, none⟩) (b + 1) oc'), (4, .slice aa an ac), (1, .pointer (some ⟨p1, 0, none⟩))]) (fun x => vecB ca R cc x.2 :: Ent.box p7 [.slice ca R cc] 146 :: Ent.mark D :: Ent.vec (some ⟨po, 0, none⟩) R R 4 1 (s0.map .bool) :: ⟨fp, fun w => SlAt w (.slice aa an ac) 1 (aheadL bl) RowV⟩ :: Ent.box p1 [nm, pa, .int .i64 R, .slice ba n bc] 35 :: (Ent.vec (some ⟨ib, io, none⟩) n ic 146 1 (ins'.map (valS R)) :: Ent.vec (some ⟨ob, oo, none⟩) (b + 1) oc' 146 1 (outs'.map (valS R) ++ [.slice (some ⟨po, 0, none⟩) R R]) :: (ins'.map (entS R) ++ (outs'.map (entS R) ++ marks Ds)))) (fun x => xn - x.1) (0, s2)
    ⟨Nat.zero_le _, hs2l, by simp⟩ (g_done (by repeat (first | exact trivial | refine ⟨rfl, ?_⟩)) (List.Sublist.refl _)) fun x ⟨hm, hsl, hs⟩ => ?_
  · obtain ⟨m, s⟩ := x
    simp only at hm hsl hs ⊢
    repeat (first | refine g_op rfl ?_ | refine g_then ?_ | refine g_nil ?_ | refine g_region ?_ | refine g_seq ?_)
    refine g_cond (fun h3 => ?_) (fun h3 => ?_)
    · have hmlt : m < xn := by simpa using h3
      obtain ⟨p, hp⟩ := get_lt hxn hmlt
      have hadx : AddrIs xa xb xo := ⟨hxa (ne_of_get hp)⟩
      have hlm : LtIs m xn := ⟨hmlt⟩
      obtain ⟨csp, hcsp, sv, rfl, _, hsv⟩ := hxel m p hp
      have hciP : CellsIs w0 xb (xo + m * 2) _ := ⟨hcsp⟩
      have hpo := hBo.phis p (List.mem_of_getElem? hp)
      obtain ⟨s2a, s2n, s2c, _, _, rfl, _⟩ := hsv
      obtain ⟨d, hd⟩ : ∃ d : Nat, p.dst = d := ⟨p.dst.toNat, by have := hpo.dst; omega⟩
      have hdR : d < R := by have := hpo.dst; omega
      obtain ⟨y, hy⟩ : ∃ y, s[d]? = some y := ⟨_, List.getElem?_eq_getElem (by omega)⟩
      have hnd : NatIs p.dst d := ⟨hd⟩
      have hld : LtIs d R := ⟨hdR⟩
      have hey : ElAt s d y := ⟨hy⟩
      have hst : (B.phis.take (m + 1)).foldl (fun s p => s.set p.dst.toNat false) s2 = s.set d false := by
        rw [List.take_add_one, hp, List.foldl_append, ← hs, show d = p.dst.toNat by omega]; rfl
      unfold vecB
      refine g_vec 0 rfl (by omega) fun cb co hca => ?_
      subst hca
      repeat (first | refine g_op rfl ?_ | refine g_then ?_ | refine g_nil ?_ | refine g_region ?_ | refine g_seq ?_ | refine g_opS rfl ?_ | refine g_alloc rfl fun _ _ => ?_ | refine g_storeAgg ?_ | refine g_inBlock ?_ | refine g_block ?_ | refine g_skip ?_ | refine g_add rfl (by omega) (by omega) ?_ | refine g_storeV ?_)
      refine g_next (m + 1, s.set d false) ⟨hmlt, by simpa using hsl, hst.symm⟩ (by simp only; omega) (by repeat (first | exact trivial | refine ⟨rfl, ?_⟩)) ?_
      exact List.Sublist.cons _ (List.Sublist.refl _)
    · have hge3 : m = xn := by have := h3; simp at this; omega
      rw [hge3, hxn, List.take_length, hI, ← hs1] at hs
      have hs4 : s = headV B s0 := hs
      have hhead : ∀ r, has s r ↔ Head bl (inOf (ins'.map (·.l))) b r := fun r => by rw [hs4]; exact has_headV hf hB hx.1 hx.2 r
      have hq0l := hL'.row q0 (List.mem_of_getElem? hq0)
      have heq0 : ElAt ins' b q0 := ⟨hq0⟩
      unfold vecB
      repeat (first | refine g_then ?_ | refine g_seq ?_ | refine g_exit ?_ | refine g_thenExit ?_ | refine g_exitHere ?_)
      refine g_draw mixed (by kernel_rfl) ?_
      repeat (refine q_op rfl ?_)
      refine q_call rfl (fun w hw => equalB_c _ _ s q0.l w (bools_sl hw (k := 0) rfl hsl.symm (by omega)) (set_sl (R := R) (rs := ins') (E := [Ent.vec ca R cc 4 1 (s.map .bool), Ent.box p7 [.slice ca R cc] 146, Ent.mark D, Ent.vec (some ⟨po, 0, none⟩) R R 4 1 (s0.map .bool), ⟨fp, fun w => SlAt w (.slice aa an ac) 1 (aheadL bl) RowV⟩, Ent.box p1 [nm, pa, .int .i64 R, .slice ba n bc] 35, Ent.vec (some ⟨ib, io, none⟩) n ic 146 1 (ins'.map (valS R)), Ent.vec (some ⟨ob, oo, none⟩) (b + 1) oc' 146 1 (outs'.map (valS R) ++ [.slice (some ⟨po, 0, none⟩) R R])]) (H := outs'.map (entS R) ++ marks Ds) hw hq0 (by omega) hq0l)) ?_
      repeat (first | refine q_op rfl ?_ | refine q_nil ?_)
      repeat (refine g_then ?_)
      have hob2 : outs'.length + 1 = b + 1 := by omega
      have fin : ∀ (I : List RowB) (w : World), Wd NoS w0 (Ent.mark D :: Ent.vec (some ⟨po, 0, none⟩) R R 4 1 (s0.map .bool) :: ⟨fp, fun w => SlAt w (.slice aa an ac) 1 (aheadL bl) RowV⟩ :: Ent.box p1 [nm, pa, .int .i64 R, .slice ba n bc] 35 :: Ent.vec (some ⟨ib, io, none⟩) n ic 146 1 (I.map (valS R)) :: Ent.vec (some ⟨ob, oo, none⟩) (b + 1) oc' 146 1 (outs'.map (valS R) ++ [.slice (some ⟨po, 0, none⟩) R R]) :: (I.map (entS R) ++ (outs'.map (entS R) ++ marks Ds))) w →
          Wd NoS w0 (⟨fp, fun w => SlAt w (.slice aa an ac) 1 (aheadL bl) RowV⟩ :: Ent.box p1 [nm, pa, .int .i64 R, .slice ba n bc] 35 :: Ent.vec (some ⟨ib, io, none⟩) n ic 146 1 (I.map (valS R)) :: Ent.vec (some ⟨ob, oo, none⟩) (outs' ++ [(⟨some ⟨po, 0, none⟩, R, s0⟩ : RowB)]).length oc' 146 1 ((outs' ++ [(⟨some ⟨po, 0, none⟩, R, s0⟩ : RowB)]).map (valS R)) :: (I.map (entS R) ++ ((outs' ++ [(⟨some ⟨po, 0, none⟩, R, s0⟩ : RowB)]).map (entS R) ++ marks (D :: Ds)))) w := fun I w hw => by
        have h1 := hw.perm (perm_two (α := Ent) (Ent.mark D) (Ent.vec (some ⟨po, 0, none⟩) R R 4 1 (s0.map .bool)) (⟨fp, fun w => SlAt w (.slice aa an ac) 1 (aheadL bl) RowV⟩ :: Ent.box p1 [nm, pa, .int .i64 R, .slice ba n bc] 35 :: Ent.vec (some ⟨ib, io, none⟩) n ic 146 1 (I.map (valS R)) :: Ent.vec (some ⟨ob, oo, none⟩) (b + 1) oc' 146 1 (outs'.map (valS R) ++ [Value.slice (some ⟨po, 0, none⟩) R R]) :: I.map (entS R)) (outs'.map (entS R)) (marks Ds))
        have e : (outs' ++ [(⟨some ⟨po, 0, none⟩, R, s0⟩ : RowB)]).length = b + 1 := by simp; omega
        rw [e]
        simpa [valS, entS, vecB, marks, List.append_assoc] using h1
      have outs_row : ∀ r ∈ outs' ++ [(⟨some ⟨po, 0, none⟩, R, s0⟩ : RowB)], r.l.length = R := fun r hr => by
        rcases List.mem_append.1 hr with hr | hr
        · exact hor r hr
        · simp only [List.mem_singleton] at hr; subst hr; exact hx.1
      have hol : (outs' ++ [(⟨some ⟨po, 0, none⟩, R, s0⟩ : RowB)]).length = b + 1 := by simp; omega
      refine g_cond (fun h4 => ?_) (fun h4 => ?_)
      · -- more is in
        have hne : s ≠ q0.l := by simpa using h4
        have hlive := hL'.upd (b := b) (q := ⟨ca, cc, s⟩) (by omega) hsl hhead
        have hmiss : missing (ins'.set b ⟨ca, cc, s⟩) < missing ins' := by
          have h5 := missing_set (r' := (⟨ca, cc, s⟩ : RowB)) hq0
          have h6 := unseen_less (l := q0.l) (m := s) (by omega) (fun r hr => (hhead r).2 (hL'.pre b r ((inOf_get hq0).2 hr))) (Ne.symm hne)
          simp only at h5
          omega
        have hxs2 : XSet (ins'.map (valS R)) (b * 1) (.slice ca R cc) ((ins'.set b ⟨ca, cc, s⟩).map (valS R)) := ⟨by rw [Nat.mul_one, List.map_set]; rfl, by simp; omega⟩
        repeat (first | refine g_op rfl ?_ | refine g_then ?_ | refine g_nil ?_ | refine g_region ?_ | refine g_opS rfl ?_ | refine g_inBlock ?_ | refine g_add rfl (by omega) (by omega) ?_ | refine g_storeV ?_)
        refine g_wd (fun w hw => fin (ins'.set b ⟨ca, cc, s⟩) w ?_) ?_
        · have h7 := wd_put (e := entS R ⟨ca, cc, s⟩) (X := [Ent.box p7 [.slice ca R cc] 146, Ent.mark D, Ent.vec (some ⟨po, 0, none⟩) R R 4 1 (s0.map .bool), ⟨fp, fun w => SlAt w (.slice aa an ac) 1 (aheadL bl) RowV⟩, Ent.box p1 [nm, pa, .int .i64 R, .slice ba n bc] 35, Ent.vec (some ⟨ib, io, none⟩) n ic 146 1 ((ins'.set b ⟨ca, cc, s⟩).map (valS R)), Ent.vec (some ⟨ob, oo, none⟩) (b + 1) oc' 146 1 (outs'.map (valS R) ++ [.slice (some ⟨po, 0, none⟩) R R])]) (I := ins'.map (entS R)) (Y := outs'.map (entS R) ++ marks Ds) (b := b) hw (by rw [List.getElem?_map, hq0]; rfl)
          rw [← List.map_set] at h7
          exact h7.sub (List.sublist_cons_self _ _)
        refine g_nextD (true, ins'.set b ⟨ca, cc, s⟩, (some ⟨ob, oo, none⟩, oc', outs' ++ [(⟨some ⟨po, 0, none⟩, R, s0⟩ : RowB)]), D :: Ds) rfl ⟨by simp only; omega, hlive, outs_row, by simp, fun _ => ?_⟩ (by simp only; omega) ?_ (List.Sublist.refl _)
        · simp only
          cases more'
          · obtain ⟨e1, _⟩ := hno rfl
            subst e1
            exact hmiss
          · have := hyes rfl
            omega
        · simp only [hol]
          exact (by repeat (first | exact trivial | refine ⟨rfl, ?_⟩))
      · have heq : s = q0.l := by simpa using h4
        repeat (first | refine g_then ?_ | refine g_nil ?_ | refine g_region ?_ | refine g_opS rfl ?_ | refine g_inBlock ?_ | refine g_skip ?_ | refine g_add rfl (by omega) (by omega) ?_)
        refine g_wd (fun w hw => fin ins' w (hw.sub (List.Sublist.cons _ (List.Sublist.cons _ (List.Sublist.refl _))))) ?_
        refine g_nextD (more', ins', (some ⟨ob, oo, none⟩, oc', outs' ++ [(⟨some ⟨po, 0, none⟩, R, s0⟩ : RowB)]), D :: Ds) rfl ⟨by simp only; omega, hL', outs_row, fun e => ?_, hyes⟩ (by simp only; omega) ?_ (List.Sublist.refl _)
        · obtain ⟨e1, e2, e3⟩ := hno e
          subst e1
          refine ⟨rfl, fun t ht r hr => ?_, fun t q r hq => ?_⟩
          · simp only [hol] at ht
            by_cases e : t = b
            · subst e
              rw [inOf_get hq0, ← heq]
              exact (hhead r).2 hr
            · exact e2 t (by omega) r hr
          · simp only at hq
            by_cases e : t < outs'.length
            · rw [List.getElem?_append_left e] at hq
              exact e3 t q r hq
            · have ht : t = b := by
                have := (List.getElem?_eq_some_iff.1 hq).1
                rw [hol] at this
                omega
              subst ht
              rw [List.getElem?_append_right (by omega), hbb, Nat.sub_self] at hq
              simp only [List.getElem?_cons_zero, Option.some.injEq] at hq
              subst hq
              exact hx.2 r
        · simp only [hol]
          exact (by repeat (first | exact trivial | refine ⟨rfl, ?_⟩))
end Go.Proofs.YtbmnkjaelfjlhaaDoor


/- The document's way to live registers: names, Uses, writesPhi, Ahead, takes, come. What each returns. -/
namespace Go.Proofs.YtbmnkjaelfjlhaaDoor
open Go Go.RowKit

/-- cells of the call's own, side by side -/
class XsAt (xs : List Value) (j : Nat) (cs : outParam (List Value)) : Prop where
  eq : ∀ i v, cs[i]? = some v → xs[j + i]? = some v
class OwnCells (H : List Ent) (b off : Nat) (cs : outParam (List Value)) : Prop where
  eq : ∀ S w0 w, Wd S w0 H w → CellsAt w b off cs
instance (b o j n c e s : Nat) (xs cs : List Value) (H : List Ent) [h : XsAt xs j cs] : OwnCells (Ent.vec (some ⟨b, o, none⟩) n c e s xs :: H) b (o + j) cs :=
  ⟨fun _ _ _ hw i v hi => by rw [Nat.add_assoc]; exact Wd.vecCell hw (k := 0) rfl (h.eq i v hi)⟩
instance (b off : Nat) (cs : List Value) (x : Ent) (H : List Ent) [h : OwnCells H b off cs] : OwnCells (x :: H) b off cs := ⟨fun S w0 w hw => h.eq S w0 w (hw.sub (List.sublist_cons_self _ _))⟩
section
variable {P : Program} {ro : Option Nat} {N : Nat} {ds : List Deferred} {S : Nat → Prop} {w0 : World} {L : List (Nat × Value)} {H : List Ent} {ops : Array Oper} {rest : List Oper} {Q : Exit → Act → World → Prop} {x y : Operand}
instance (priority := low) {T b off n : Nat} {cs : List Value} [h : AggSize P T n] [hx : Ev L x (.pointer (some ⟨b, off, none⟩))] [hc : OwnCells H b off cs] [hn : LenIs cs n] : RunsC P N ds S w0 L H (.load T x) (.agg cs.toArray) :=
  ⟨fun _ h => (by cases h), fun _ _ h => (by cases h), fun _ _ _ _ _ a w hF hW => by simp [execOp, hx.eq _ _ _ hF, run_loadAgg hn.eq (hc.eq _ _ _ hW)]⟩
theorem fill_two (v u : Value) (cs ds zs : List Value) (hv : v.cells.toList = cs) (hu : u.cells.toList = ds) (hl : cs.length = ds.length) (hz : zs.length = 2 * cs.length) : Instr.fill (fun i => some (i * cs.length, cs.length)) zs.toArray [(0, v), (1, u)] = some (cs ++ ds).toArray := by
  have hs : v.cells.size = cs.length := by rw [← hv]; simp
  have hs2 : u.cells.size = cs.length := by rw [← Array.length_toList, hu, hl]
  have e : v.cells = cs.toArray := by rw [← hv]
  have e2 : u.cells = ds.toArray := by rw [← hu]
  have hf := fold_putL cs zs 0 0 (by omega)
  have hp : putL zs 0 cs = cs ++ zs.drop cs.length := by
    rw [← putL_eq zs 0 cs (by omega)]
    simp
  simp only [Nat.add_zero] at hf
  rw [hp] at hf
  have hf2 := fold_putL ds (cs ++ zs.drop cs.length) cs.length 0 (by simp; omega)
  have hp2 : putL (cs ++ zs.drop cs.length) (cs.length + 0) ds = cs ++ ds := by
    rw [← putL_eq (cs ++ zs.drop cs.length) (cs.length + 0) ds (by simp; omega)]
    rw [Nat.add_zero, List.take_left, List.drop_append]
    simp
    omega
  rw [hp2] at hf2
  have hA : (v.cells.zipIdx).foldl (fun (c : Array Value) (x : Value × Nat) => c.setIfInBounds (0 * cs.length + x.2) x.1) zs.toArray = (cs ++ zs.drop cs.length).toArray := by rw [e]; simpa using hf
  have hB : (u.cells.zipIdx).foldl (fun (c : Array Value) (x : Value × Nat) => c.setIfInBounds (1 * cs.length + x.2) x.1) (cs ++ zs.drop cs.length).toArray = (cs ++ ds).toArray := by rw [e2]; simpa using hf2
  simp only [Instr.fill]
  rw [if_neg (by simp [hs, hz]; omega), hA, if_neg (by simp [hs2]; omega), hB]
/-- a slice of two elements -/
theorem g_build2 {d ty T e by' : Nat} {zs cs ds' : List Value} {s : Nat} {v u : Value} {pos : String} {aft : Array Go.Edge} [h : ElemInfo P T e s by' zs] [hx : Ev L x v] [hy : Ev L y u] [hv : CellsOf v cs] [hu : CellsOf u ds'] [hl : LenIs cs s] [hl2 : LenIs ds' s] (hd : okPut d N L = true) (hs : ((Nat.blt 0 s && Nat.ble s 1000) && Nat.beq zs.length s) = true)
    (k : ∀ b, w0.heap.size ≤ b → G N ds S w0 ((d, .slice (some ⟨b, 0, none⟩) 2 2) :: L) (Ent.vec (some ⟨b, 0, none⟩) 2 2 e s (cs ++ ds') :: H) (wpListIn (FW ro) 0 P ops Q rest)) : G N ds S w0 L H (wpListIn (FW ro) 0 P ops Q (⟨some d, .buildSlice T 2 #[(0, x), (1, y)], ty, pos, aft, none⟩ :: rest)) := by
  intro a w hS
  obtain ⟨i, zz, hi, hzz, hcs, h1, h2⟩ := h.get
  simp only [Bool.and_eq_true, Nat.blt_eq, Nat.ble_eq] at hs
  have hle := hl.eq
  have hle2 := hl2.eq
  refine step_val (v := .slice (some ⟨w.heap.size, 0, none⟩) 2 2) (w' := w.alloc (.cells (cs ++ ds').toArray e)) rfl (fun _ h => by cases h) ?_ ?_
  · have hr := run_buildSlice (P := P) w T e 2 #[(0, v), (1, u)] (cs ++ ds').toArray i zz h.und hi hzz (by rw [h1]; omega) (by rw [h1]; omega) (by
      rw [h1, ← hle]
      have := fill_two v u cs ds' ((Array.range (2 * cs.length)).map (zz.cells[· % zz.cells.size]!)).toList hv.eq hu.eq (by omega) (by simp)
      rw [Array.toArray_toList] at this
      exact this)
    simp [execOp, hx.eq _ _ _ hS.fr, hy.eq _ _ _ hS.fr, hr]
  · exact k _ hS.wd.size _ _ ⟨hS.fr.putOk hd _, hS.wd.vecNew e s 2 _ (by rw [List.length_append]; omega) (by simp [maxLen])⟩
end
attribute [local irreducible] wpListIn Code.wpIn Exit.then Exit.inBlock bodyPost wpQuiet wpAnyIn
set_option maxHeartbeats 4000000

def valC (v : LVal) : List Value := [.bool v.reg, .int .i64 v.n]
theorem vals_sl {S : Nat → Prop} {w0 w : World} {H : List Ent} {k c n e : Nat} {a : Option Addr} {l : List LVal} (h : Wd S w0 H w) (hk : H[k]? = some (Ent.vec a n c e 2 (l.flatMap valC))) (hn : n = l.length) (hb : n ≤ 100000) (hl : ∀ x ∈ l, inI x.n) : SlAt w (.slice a n c) 2 l ValV :=
  h.slAt hk hn (by omega) fun i x hx => ⟨valC x, fun j v hj => flat_at (g := valC) (s := 2) (fun _ => rfl) l i x j v hx hj, rfl, hl x (List.mem_of_getElem? hx)⟩
theorem names_c (v : Value) (l : List LVal) (r : Nat) (w0 : World) (hv : SlAt w0 v 2 l ValV) : RetV Tryd.prog 148 [v, .int .i64 r] w0 (.bool (namesR l r)) := by
  obtain ⟨a, n, c, b, o, rfl, hn, hnc, hnb, hc, ha, hel⟩ := hv
  refine ret_enter Tryd.func148 rfl Tryd.ntmps148 rfl (Wd.nil NoS w0) ?_
  repeat (first | refine g_op rfl ?_ | refine g_then ?_ | refine g_nil ?_ | refine g_region ?_ | refine g_seq ?_ | refine g_block ?_)
  refine g_loop (fun (i : Nat) => i ≤ n ∧ namesR (l.take i) r = false) (fun i => [(5, .int .i64 i), (0, .slice a n c), (1, .int .i64 r)]) (fun _ => []) (fun i => n - i) 0 ⟨Nat.zero_le _, by simp [namesR]⟩ (g_done (by repeat (first | exact trivial | refine ⟨rfl, ?_⟩)) (by simp)) fun i ⟨hi, hall⟩ => ?_
  repeat (first | refine g_op rfl ?_ | refine g_then ?_ | refine g_nil ?_ | refine g_region ?_ | refine g_seq ?_)
  refine g_cond (fun h1 => ?_) (fun h1 => ?_)
  · have hlt : i < n := by simpa using h1
    obtain ⟨x, hx⟩ := get_lt hn hlt
    have had : AddrIs a b o := ⟨ha (ne_of_get hx)⟩
    have hli : LtIs i n := ⟨hlt⟩
    obtain ⟨cs, hcs, rfl, _⟩ := hel i x hx
    have hci : CellsIs w0 b (o + i * 2) _ := ⟨hcs⟩
    have hnext : namesR (l.take (i + 1)) r = (x.reg && decide (x.n = r)) := by
      rw [List.take_add_one, hx]
      simp only [namesR, List.any_append, Option.toList_some, List.any_cons, List.any_nil, Bool.or_false] at hall ⊢
      rw [hall, Bool.false_or]
    have hall2 : (x.reg && decide (x.n = r)) = true → namesR l r = true := fun h => by
      simp only [namesR, List.any_eq_true]
      exact ⟨x, List.mem_of_getElem? hx, h⟩
    repeat (first | refine g_op rfl ?_ | refine g_then ?_ | refine g_region ?_ | refine g_seq ?_ | refine g_block ?_ | refine g_skip ?_)
    refine g_joinTo 25 (.bool (x.reg && decide (x.n = r))) ?_ ?_
    · generalize x.reg = g
      cases g
      · repeat (first | refine g_op rfl ?_ | refine g_then ?_ | refine g_nil ?_ | refine g_pass rfl ?_)
        exact g_done (by repeat (first | exact trivial | refine ⟨rfl, ?_⟩)) (by simp)
      · repeat (first | refine g_op rfl ?_ | refine g_then ?_ | refine g_nil ?_ | refine g_open ?_)
        exact g_done (by repeat (first | exact trivial | refine ⟨rfl, ?_⟩)) (by simp)
    generalize (x.reg && decide (x.n = r)) = g at hnext hall2
    cases g
    · repeat (first | refine g_op rfl ?_ | refine g_then ?_ | refine g_nil ?_ | refine g_region ?_ | refine g_opS rfl ?_ | refine g_inBlock ?_ | refine g_skip ?_ | refine g_condF ?_ | refine g_add rfl (by omega) (by omega) ?_)
      exact g_next (i + 1) ⟨hlt, hnext⟩ (by omega) (by repeat (first | exact trivial | refine ⟨rfl, ?_⟩)) (by simp)
    · repeat (first | refine g_op rfl ?_ | refine g_then ?_ | refine g_nil ?_ | refine g_region ?_ | refine g_seq ?_ | refine g_condT ?_ | refine g_ret ?_ | refine g_thenRet ?_ | refine g_blockRet ?_)
      exact g_retV rfl (by rw [hall2 rfl])
  · have hge : i = n := by have := h1; simp at this; omega
    repeat (first | refine g_op rfl ?_ | refine g_then ?_ | refine g_nil ?_ | refine g_region ?_ | refine g_seq ?_ | refine g_exit ?_ | refine g_thenExit ?_ | refine g_exitHere ?_ | refine g_ret ?_)
    refine g_retV rfl ?_
    rw [hge, hn, List.take_length] at hall
    rw [hall]
theorem writesPhi_c (pv lv tv : Value) (B : LBlock) (hpl : ∃ a n c, pv = .slice a n c) (hll : ∃ a n c, lv = .slice a n c) (htl : ∃ a n c, tv = .slice a n c) (r : Nat) (w0 : World) (hp : SlAt w0 pv 2 B.phis PhiV) :
    RetV Tryd.prog 146 [.agg #[pv, lv, .int .i64 B.kind, .bool B.on.reg, .int .i64 B.on.n, tv], .int .i64 r] w0 (.bool (B.phis.any fun p => decide (p.dst = r))) := by
  obtain ⟨_, _, _, rfl⟩ := hll
  obtain ⟨_, _, _, rfl⟩ := htl
  obtain ⟨a, n, c, b, o, rfl, hn, hnc, hnb, hc, ha, hel⟩ := hp
  refine ret_enter Tryd.func146 rfl Tryd.ntmps146 rfl (Wd.nil NoS w0) ?_
  repeat (first | refine g_op rfl ?_ | refine g_then ?_ | refine g_nil ?_ | refine g_region ?_ | refine g_seq ?_ | refine g_box rfl fun _ _ => ?_ | refine g_block ?_)
  rename_i p2 _
  refine g_loop (fun (i : Nat) => i ≤ n ∧ (B.phis.take i).any (fun p => decide (p.dst = r)) = false) (fun i => [(5, .int .i64 i), (2, .pointer (some ⟨p2, 0, none⟩)), (1, .int .i64 r)]) (fun _ => [Ent.box p2 [.slice a n c, .slice _ _ _, .int .i64 B.kind, .bool B.on.reg, .int .i64 B.on.n, .slice _ _ _] 47]) (fun i => n - i) 0 ⟨Nat.zero_le _, by simp⟩ (g_done (by repeat (first | exact trivial | refine ⟨rfl, ?_⟩)) (List.Sublist.refl _)) fun i ⟨hi, hall⟩ => ?_
  repeat (first | refine g_op rfl ?_ | refine g_then ?_ | refine g_nil ?_ | refine g_region ?_ | refine g_seq ?_)
  refine g_cond (fun h1 => ?_) (fun h1 => ?_)
  · have hlt : i < n := by simpa using h1
    obtain ⟨x, hx⟩ := get_lt hn hlt
    have had : AddrIs a b o := ⟨ha (ne_of_get hx)⟩
    have hli : LtIs i n := ⟨hlt⟩
    obtain ⟨cs, hcs, sv, rfl, _⟩ := hel i x hx
    have hci : CellsIs w0 b (o + i * 2) _ := ⟨hcs⟩
    repeat (first | refine g_op rfl ?_ | refine g_then ?_ | refine g_nil ?_ | refine g_region ?_ | refine g_seq ?_ | refine g_block ?_ | refine g_skip ?_)
    refine g_cond (fun h2 => ?_) (fun h2 => ?_)
    · repeat (first | refine g_op rfl ?_ | refine g_then ?_ | refine g_nil ?_ | refine g_region ?_ | refine g_seq ?_ | refine g_ret ?_ | refine g_thenRet ?_ | refine g_blockRet ?_)
      refine g_retV rfl ?_
      have : (B.phis.any fun p => decide (p.dst = r)) = true := by
        rw [List.any_eq_true]
        exact ⟨x, List.mem_of_getElem? hx, h2⟩
      rw [this]
    · repeat (first | refine g_op rfl ?_ | refine g_then ?_ | refine g_nil ?_ | refine g_region ?_ | refine g_opS rfl ?_ | refine g_inBlock ?_ | refine g_skip ?_ | refine g_add rfl (by omega) (by omega) ?_)
      refine g_next (i + 1) ⟨hlt, ?_⟩ (by omega) (by repeat (first | exact trivial | refine ⟨rfl, ?_⟩)) (List.Sublist.refl _)
      rw [List.take_add_one, hx, List.any_append, hall]
      simpa using h2
  · have hge : i = n := by have := h1; simp at this; omega
    repeat (first | refine g_op rfl ?_ | refine g_then ?_ | refine g_nil ?_ | refine g_region ?_ | refine g_seq ?_ | refine g_exit ?_ | refine g_thenExit ?_ | refine g_exitHere ?_ | refine g_ret ?_)
    refine g_retV rfl ?_
    rw [hge, hn, List.take_length] at hall
    rw [hall]
theorem refAhead_c (nm pa re : Value) (bl : List LBlock) (bs : Value) (t : Nat) (w0 : World) (hbs : SlAt w0 bs 6 bl BlockV) (hlen : bl.length ≤ 100) :
    Ret Tryd.prog 21 [.agg #[nm, pa, re, bs], .int .i64 t] w0 fun u w' => ∃ x : Option Addr × Nat, u = .slice x.1 (preds bl t).length x.2 ∧ Wd NoS w0 [Ent.vec x.1 (preds bl t).length x.2 3 1 ((preds bl t).map intN)] w' ∧ True := by
  obtain ⟨ba, n, bc, bb, bo', rfl, hn, hnc, hnb, hbc, hba, hel⟩ := hbs
  refine ret_enter Tryd.func21 rfl Tryd.ntmps21 rfl (Wd.nil NoS w0) ?_
  repeat (first | refine g_op rfl ?_ | refine g_then ?_ | refine g_nil ?_ | refine g_region ?_ | refine g_seq ?_ | refine g_box rfl fun _ _ => ?_ | refine g_block ?_)
  rename_i p2 _
  refine g_nilVec 3 1 ?_
  refine g_loop (fun (x : Nat × Option Addr × Nat × List Nat) => x.1 ≤ n ∧ x.2.2.2 = (List.range x.1).filter fun i => decide ((t : Int) ∈ toOf bl i)) (fun x => [(6, .int .i64 x.1), (5, .slice x.2.1 x.2.2.2.length x.2.2.1), (2, .pointer (some ⟨p2, 0, none⟩)), (1, .int .i64 t)])
    (fun x => [Ent.vec x.2.1 x.2.2.2.length x.2.2.1 3 1 (x.2.2.2.map intN), Ent.box p2 [nm, pa, re, .slice ba n bc] 35]) (fun x => n - x.1) (0, none, 0, []) ⟨Nat.zero_le _, rfl⟩ (g_done (by repeat (first | exact trivial | refine ⟨rfl, ?_⟩)) (List.Sublist.refl _)) fun x ⟨hi, hl⟩ => ?_
  obtain ⟨i, la, lc, l⟩ := x
  simp only at hi hl ⊢
  have hll : l.length ≤ i := by rw [hl]; have := List.length_filter_le (fun i => decide ((t : Int) ∈ toOf bl i)) (List.range i); rwa [List.length_range] at this
  repeat (first | refine g_op rfl ?_ | refine g_then ?_ | refine g_nil ?_ | refine g_region ?_ | refine g_seq ?_)
  refine g_cond (fun h1 => ?_) (fun h1 => ?_)
  · have hlt : i < n := by simpa using h1
    obtain ⟨B, hB⟩ := get_lt hn hlt
    have had : AddrIs ba bb bo' := ⟨hba (ne_of_get hB)⟩
    have hli : LtIs i n := ⟨hlt⟩
    obtain ⟨cs, hcs, pv, lv, tv, rfl, _, _, _, _, ht⟩ := hel i B hB
    have ht0 := ht
    obtain ⟨ta, tn, tc, _, _, rfl, _⟩ := ht
    have hci : CellsIs w0 bb (bo' + i * 6) _ := ⟨hcs⟩
    have hnew : (List.range (i + 1)).filter (fun i => decide ((t : Int) ∈ toOf bl i)) = l ++ if (t : Int) ∈ B.to then [i] else [] := by
      rw [List.range_succ, List.filter_append, ← hl]
      congr 1
      by_cases h : (t : Int) ∈ B.to <;> simp [toOf_get hB, h]
    repeat (first | refine g_op rfl ?_ | refine g_then ?_ | refine g_region ?_ | refine g_seq ?_ | refine g_block ?_ | refine g_skip ?_)
    refine g_callV rfl (fun w hw => has_c _ B.to t w (ht0.keep keeps_int hw.chg)) ?_
    by_cases h : (t : Int) ∈ B.to
    · rw [decide_eq_true h]
      rw [if_pos h] at hnew
      repeat (first | refine g_op rfl ?_ | refine g_then ?_ | refine g_nil ?_ | refine g_region ?_ | refine g_condT ?_ | refine g_build1 rfl rfl fun _ _ => ?_)
      refine g_append rfl rfl (by omega) (by omega) fun a' c' => ?_
      rw [show l.map intN ++ [.int .i64 (i : Int)] = (l ++ [i]).map intN by simp [intN], show l.length + 1 = (l ++ [i]).length by simp]
      repeat (first | refine g_op rfl ?_ | refine g_then ?_ | refine g_nil ?_ | refine g_region ?_ | refine g_opS rfl ?_ | refine g_inBlock ?_ | refine g_add rfl (by omega) (by omega) ?_)
      exact g_next (i + 1, a', c', l ++ [i]) ⟨hlt, hnew.symm⟩ (by simp only; omega) (by repeat (first | exact trivial | refine ⟨rfl, ?_⟩)) (List.Sublist.cons _ (List.Sublist.refl _))
    · rw [decide_eq_false h]
      rw [if_neg h, List.append_nil] at hnew
      repeat (first | refine g_op rfl ?_ | refine g_then ?_ | refine g_nil ?_ | refine g_region ?_ | refine g_opS rfl ?_ | refine g_inBlock ?_ | refine g_skip ?_ | refine g_condF ?_ | refine g_add rfl (by omega) (by omega) ?_)
      exact g_next (i + 1, la, lc, l) ⟨hlt, hnew.symm⟩ (by simp only; omega) (by repeat (first | exact trivial | refine ⟨rfl, ?_⟩)) (List.Sublist.refl _)
  · have hge : i = n := by have := h1; simp at this; omega
    repeat (first | refine g_op rfl ?_ | refine g_then ?_ | refine g_nil ?_ | refine g_region ?_ | refine g_seq ?_ | refine g_exit ?_ | refine g_thenExit ?_ | refine g_exitHere ?_ | refine g_ret ?_)
    have hp : l = preds bl t := by rw [hl, hge, hn]; rfl
    exact g_ret1 rfl fun w hw => ⟨(la, lc), by rw [hp], by rw [← hp]; exact hw.sel [0] (by decide), trivial⟩
theorem uses_c (x : LIns) (va : Option Addr) (vn vc : Nat) (w0 : World) (hv : SlAt w0 (.slice va vn vc) 2 x.args ValV) (hlen : x.args.length ≤ 1000) :
    Ret Tryd.prog 149 [.agg #[.int .i64 x.op, .int .i64 x.dst, .bool x.a.reg, .int .i64 x.a.n, .bool x.b.reg, .int .i64 x.b.n, .int .i64 x.fn, .slice va vn vc]] w0 fun u w' => ∃ y : Option Addr × Nat × Nat, u = .slice y.1 (usesOf x).length y.2.1 ∧ Wd NoS w0 [Ent.vec y.1 (usesOf x).length y.2.1 y.2.2 2 ((usesOf x).flatMap valC)] w' ∧ True := by
  have hvn : vn = x.args.length := by
    obtain ⟨_, _, _, _, _, e, h, _⟩ := hv
    simp only [Value.slice.injEq] at e
    rw [e.2.1]; exact h
  refine ret_enter Tryd.func149 rfl Tryd.ntmps149 rfl (Wd.nil NoS w0) ?_
  repeat (first | refine g_op rfl ?_ | refine g_then ?_ | refine g_nil ?_ | refine g_region ?_ | refine g_seq ?_ | refine g_box rfl fun _ _ => ?_ | refine g_block ?_)
  unfold usesOf
  refine g_cond (fun h1 => ?_) (fun h1 => ?_)
  · have e1 : x.op = 21 := by simpa using h1
    rw [if_pos e1]
    repeat (first | refine g_op rfl ?_ | refine g_then ?_ | refine g_nil ?_ | refine g_region ?_ | refine g_seq ?_ | refine g_opS rfl ?_ | refine g_inBlock ?_ | refine g_skip ?_ | refine g_ret ?_)
    refine g_nilVec 0 2 ?_
    exact g_ret1 rfl fun w hw => ⟨(none, 0, 0), rfl, hw.sel [0] (by decide), trivial⟩
  have e1 : ¬ x.op = 21 := by simpa using h1
  rw [if_neg e1]
  repeat (first | refine g_op rfl ?_ | refine g_then ?_ | refine g_nil ?_ | refine g_region ?_ | refine g_seq ?_)
  refine g_cond (fun h2 => ?_) (fun h2 => ?_)
  · have e2 : x.op = 20 := by simpa using h2
    rw [if_pos e2]
    repeat (first | refine g_op rfl ?_ | refine g_region ?_)
    refine g_nilVec 41 2 ?_
    refine g_appendF rfl rfl x.args valC (fun _ _ _ h => h.1) (fun _ => rfl) (fun _ u hu => by simp only [valC, List.mem_cons, List.not_mem_nil, or_false] at hu; rcases hu with rfl | rfl <;> rfl) (fun w hw => hv.keep keeps_val hw.chg) (by omega) (by omega) fun a' c' => ?_
    rw [List.nil_append, Nat.zero_add, hvn]
    repeat (first | refine g_op rfl ?_ | refine g_then ?_ | refine g_nil ?_ | refine g_region ?_ | refine g_seq ?_ | refine g_opS rfl ?_ | refine g_inBlock ?_ | refine g_ret ?_)
    exact g_ret1 rfl fun w hw => ⟨(a', c', _), rfl, hw.sel [0] (by decide), trivial⟩
  have e2 : ¬ x.op = 20 := by simpa using h2
  rw [if_neg e2]
  repeat (first | refine g_op rfl ?_ | refine g_region ?_ | refine g_seq ?_)
  refine g_joinTo 29 (.bool ((decide (2 ≤ x.op) && decide (x.op ≤ 15)) || decide (x.op = 19))) ?_ ?_
  · generalize decide (2 ≤ x.op) = q1
    cases q1
    · repeat (first | refine g_op rfl ?_ | refine g_then ?_ | refine g_nil ?_ | refine g_open ?_ | refine g_pass rfl ?_)
      exact g_done (by repeat (first | exact trivial | refine ⟨rfl, ?_⟩)) (List.Sublist.refl _)
    · repeat (first | refine g_op rfl ?_ | refine g_open ?_)
      generalize decide (x.op ≤ 15) = q2
      cases q2
      · repeat (first | refine g_op rfl ?_ | refine g_then ?_ | refine g_nil ?_ | refine g_open ?_)
        exact g_done (by repeat (first | exact trivial | refine ⟨rfl, ?_⟩)) (List.Sublist.refl _)
      · repeat (first | refine g_op rfl ?_ | refine g_then ?_ | refine g_nil ?_ | refine g_pass rfl ?_)
        exact g_done (by repeat (first | exact trivial | refine ⟨rfl, ?_⟩)) (List.Sublist.refl _)
  generalize hq : ((decide (2 ≤ x.op) && decide (x.op ≤ 15)) || decide (x.op = 19)) = q
  cases q
  · have e3 : ¬ ((2 ≤ x.op ∧ x.op ≤ 15) ∨ x.op = 19) := fun h => by
      have : ((decide (2 ≤ x.op) && decide (x.op ≤ 15)) || decide (x.op = 19)) = true := by simpa using h
      rw [hq] at this; cases this
    rw [if_neg e3]
    repeat (first | refine g_op rfl ?_ | refine g_then ?_ | refine g_nil ?_ | refine g_region ?_ | refine g_seq ?_ | refine g_condF ?_)
    refine g_joinTo 45 (.bool (decide (1 ≤ x.op) && decide (x.op ≤ 22))) ?_ ?_
    · generalize decide (1 ≤ x.op) = q1
      cases q1
      · repeat (first | refine g_op rfl ?_ | refine g_then ?_ | refine g_nil ?_ | refine g_pass rfl ?_)
        exact g_done (by repeat (first | exact trivial | refine ⟨rfl, ?_⟩)) (List.Sublist.refl _)
      · repeat (first | refine g_op rfl ?_ | refine g_then ?_ | refine g_nil ?_ | refine g_open ?_)
        exact g_done (by repeat (first | exact trivial | refine ⟨rfl, ?_⟩)) (List.Sublist.refl _)
    generalize hq2 : (decide (1 ≤ x.op) && decide (x.op ≤ 22)) = q
    cases q
    · rw [if_neg (fun h => by
        have : (decide (1 ≤ x.op) && decide (x.op ≤ 22)) = true := by simpa using h
        rw [hq2] at this; cases this)]
      repeat (first | refine g_op rfl ?_ | refine g_then ?_ | refine g_nil ?_ | refine g_region ?_ | refine g_seq ?_ | refine g_opS rfl ?_ | refine g_inBlock ?_ | refine g_skip ?_ | refine g_condF ?_ | refine g_ret ?_)
      refine g_nilVec 0 2 ?_
      exact g_ret1 rfl fun w hw => ⟨(none, 0, 0), rfl, hw.sel [0] (by decide), trivial⟩
    · rw [if_pos (by simpa using hq2)]
      repeat (first | refine g_op rfl ?_ | refine g_then ?_ | refine g_nil ?_ | refine g_region ?_ | refine g_condT ?_ | refine g_build1 rfl rfl fun _ _ => ?_)
      refine g_nilVec 41 2 ?_
      refine g_append rfl rfl (by omega) (by omega) fun a' c' => ?_
      repeat (first | refine g_op rfl ?_ | refine g_then ?_ | refine g_nil ?_ | refine g_region ?_ | refine g_seq ?_ | refine g_opS rfl ?_ | refine g_inBlock ?_ | refine g_ret ?_)
      exact g_ret1 rfl fun w hw => ⟨(a', c', _), rfl, hw.sel [0] (by decide), trivial⟩
  · rw [if_pos (by simpa using hq)]
    repeat (first | refine g_op rfl ?_ | refine g_then ?_ | refine g_nil ?_ | refine g_region ?_ | refine g_condT ?_)
    refine g_build2 rfl rfl fun bt _ => ?_
    simp only [List.cons_append, List.nil_append]
    refine g_nilVec 41 2 ?_
    refine g_append rfl rfl (by omega) (by omega) fun a' c' => ?_
    repeat (first | refine g_op rfl ?_ | refine g_then ?_ | refine g_nil ?_ | refine g_region ?_ | refine g_seq ?_ | refine g_opS rfl ?_ | refine g_inBlock ?_ | refine g_ret ?_)
    exact g_ret1 rfl fun w hw => ⟨(a', c', _), rfl, hw.sel [0] (by decide), trivial⟩
end Go.Proofs.YtbmnkjaelfjlhaaDoor


/- The document's way to live registers: takes, come, Live, LiveAt. What each returns. -/
namespace Go.Proofs.YtbmnkjaelfjlhaaDoor
open Go Go.RowKit
attribute [local irreducible] wpListIn Code.wpIn Exit.then Exit.inBlock bodyPost wpQuiet wpAnyIn
set_option maxHeartbeats 4000000

theorem takes_c (nm pa re : Value) (R : Nat) (bl : List LBlock) (bs : Value) (hbsl : ∃ a n c, bs = .slice a n c) (t b r : Nat) (w0 : World) (hbs : SlAt w0 bs 6 bl BlockV) (hlen : bl.length ≤ 100) (hf : FuncOk R bl) (ht : t < bl.length) (hb : b < bl.length) (hbt : (t : Int) ∈ toOf bl b) :
    RetV Tryd.prog 150 [.agg #[nm, pa, re, bs], .int .i64 t, .int .i64 b, .int .i64 r] w0 (.bool (takesR bl t b r)) := by
  have hbs0 := hbs
  have hpm := preds_mem hb hbt
  obtain ⟨ba, n, bc, bb, bo', rfl, hn, hnc, hnb, hbc, hba, hel⟩ := hbs
  have hpl : (preds bl t).length ≤ bl.length := by
    have := List.length_filter_le (fun i => decide ((t : Int) ∈ toOf bl i)) (List.range bl.length)
    rwa [List.length_range] at this
  refine ret_enter Tryd.func150 rfl Tryd.ntmps150 rfl (Wd.nil NoS w0) ?_
  repeat (first | refine g_op rfl ?_ | refine g_then ?_ | refine g_nil ?_ | refine g_region ?_ | refine g_seq ?_ | refine g_box rfl fun _ _ => ?_)
  rename_i p4 _
  refine g_callE (val := fun x : Option Addr × Nat => .slice x.1 (preds bl t).length x.2) (E := fun x => [Ent.vec x.1 (preds bl t).length x.2 3 1 ((preds bl t).map intN)]) (φ := fun _ => True) rfl (fun w hw => refAhead_c _ _ _ bl _ t w (hbs0.keep keeps_block hw.chg) hlen) fun x _ => ?_
  obtain ⟨xa, xc⟩ := x
  simp only [List.cons_append, List.nil_append]
  repeat (refine g_op rfl ?_)
  refine g_callV rfl (fun w hw => place_c _ (preds bl t) b w hpm (ints_sl hw (k := 0) rfl rfl (by omega) fun y hy => by have := (List.mem_filter.1 hy).1; have : y < _ := List.mem_range.1 this; omega)) ?_
  have hidx : (preds bl t).idxOf b < (preds bl t).length := List.idxOf_lt_length_of_mem hpm
  obtain ⟨T, hT⟩ := get_lt hn (show t < n by omega)
  have had : AddrIs ba bb bo' := ⟨hba (ne_of_get hT)⟩
  have hlt : LtIs t n := ⟨by omega⟩
  obtain ⟨cs, hcs, pv, lv, tv, rfl, _, _, hphis, _, _⟩ := hel t T hT
  obtain ⟨xa2, xn, xc2, xb, xo, rfl, hxn, hxnc, hxnb, hxc, hxa, hxel⟩ := hphis
  have hci : CellsIs w0 bb (bo' + t * 6) _ := ⟨hcs⟩
  have hTo := hf.block t T hT
  have htk : takesR bl t b r = T.phis.any fun p => namesR [p.src[(preds bl t).idxOf b]?.getD noV] r := by unfold takesR; rw [phisOf_get hT]
  rw [htk]
  generalize (preds bl t).idxOf b = ix at hidx
  repeat (first | refine g_op rfl ?_ | refine g_then ?_ | refine g_nil ?_ | refine g_region ?_ | refine g_seq ?_ | refine g_block ?_)
  refine g_loop (fun (i : Nat) => i ≤ xn ∧ (T.phis.take i).any (fun p => namesR [p.src[ix]?.getD noV] r) = false) (fun i => [(10, .int .i64 i), (9, .int .i64 (ix : Nat)), (4, .pointer (some ⟨p4, 0, none⟩)), (1, .int .i64 t), (3, .int .i64 r)]) (fun _ => [Ent.box p4 [nm, pa, re, .slice ba n bc] 35]) (fun i => xn - i) 0 ⟨Nat.zero_le _, by simp⟩ (g_done (by repeat (first | exact trivial | refine ⟨rfl, ?_⟩)) (by simp)) fun i ⟨hi, hall⟩ => ?_
  repeat (first | refine g_op rfl ?_ | refine g_then ?_ | refine g_nil ?_ | refine g_region ?_ | refine g_seq ?_)
  refine g_cond (fun h1 => ?_) (fun h1 => ?_)
  · have hilt : i < xn := by simpa using h1
    obtain ⟨p, hp⟩ := get_lt hxn hilt
    have hadx : AddrIs xa2 xb xo := ⟨hxa (ne_of_get hp)⟩
    have hli : LtIs i xn := ⟨hilt⟩
    obtain ⟨csp, hcsp, sv, rfl, _, hsv⟩ := hxel i p hp
    have hciP : CellsIs w0 xb (xo + i * 2) _ := ⟨hcsp⟩
    have hpo := hTo.phis p (List.mem_of_getElem? hp)
    obtain ⟨s2a, s2n, s2c, s2b, s2o, rfl, hs2n, _, _, _, hs2a, hs2el⟩ := hsv
    obtain ⟨v, hv⟩ : ∃ v, p.src[ix]? = some v := ⟨_, List.getElem?_eq_getElem (by rw [hpo.len]; exact hidx)⟩
    have hads : AddrIs s2a s2b s2o := ⟨hs2a (ne_of_get hv)⟩
    have hlix : LtIs ix s2n := ⟨by rw [hs2n, hpo.len]; exact hidx⟩
    obtain ⟨csv, hcsv, rfl, hvi⟩ := hs2el ix v hv
    have hciV : CellsIs w0 s2b (s2o + ix * 2) _ := ⟨hcsv⟩
    repeat (first | refine g_op rfl ?_ | refine g_then ?_ | refine g_region ?_ | refine g_seq ?_ | refine g_block ?_ | refine g_skip ?_ | refine g_build1 rfl rfl fun _ _ => ?_)
    refine g_callV rfl (fun w hw => names_c _ [v] r w (vals_sl hw (k := 0) (l := [v]) rfl rfl (by omega) (fun y hy => by simp only [List.mem_singleton] at hy; subst hy; exact hvi))) ?_
    have hnext : (T.phis.take (i + 1)).any (fun p => namesR [p.src[ix]?.getD noV] r) = namesR [v] r := by
      rw [List.take_add_one, hp, List.any_append, hall]
      simp [hv]
    have hall2 : namesR [v] r = true → (T.phis.any fun p => namesR [p.src[ix]?.getD noV] r) = true := fun h => by
      rw [List.any_eq_true]
      exact ⟨p, List.mem_of_getElem? hp, by rw [hv]; exact h⟩
    generalize namesR [v] r = q at hnext hall2
    cases q
    · repeat (first | refine g_op rfl ?_ | refine g_then ?_ | refine g_nil ?_ | refine g_region ?_ | refine g_opS rfl ?_ | refine g_inBlock ?_ | refine g_skip ?_ | refine g_condF ?_ | refine g_add rfl (by omega) (by omega) ?_)
      exact g_next (i + 1) ⟨hilt, hnext⟩ (by omega) (by repeat (first | exact trivial | refine ⟨rfl, ?_⟩)) (List.Sublist.cons _ (List.Sublist.refl _))
    · repeat (first | refine g_op rfl ?_ | refine g_then ?_ | refine g_nil ?_ | refine g_region ?_ | refine g_seq ?_ | refine g_condT ?_ | refine g_ret ?_ | refine g_thenRet ?_ | refine g_blockRet ?_)
      exact g_retV rfl (by rw [hall2 rfl])
  · have hge : i = xn := by have := h1; simp at this; omega
    repeat (first | refine g_op rfl ?_ | refine g_then ?_ | refine g_nil ?_ | refine g_region ?_ | refine g_seq ?_ | refine g_exit ?_ | refine g_thenExit ?_ | refine g_exitHere ?_ | refine g_ret ?_)
    refine g_retV rfl ?_
    rw [hge, hxn, List.take_length] at hall
    rw [hall]

abbrev Sp : Type := Nat × Int
def spotC (s : Sp) : List Value := [.int .i64 (s.1 : Int), .int .i64 s.2]
def vecS (a : Option Addr) (c : Nat) (l : List Sp) : Ent := Ent.vec a l.length c 158 2 (l.flatMap spotC)
theorem spots_at {l : List Sp} {i : Nat} {s : Sp} (h : l[i]? = some s) : XsAt (l.flatMap spotC) (i * 2) [.int .i64 (s.1 : Int), .int .i64 s.2] := ⟨fun j v hj => flat_at (g := spotC) (s := 2) (fun _ => rfl) l i s j v h hj⟩
def comeL (l : List Sp) (s : Sp) : List Sp := if s ∈ l then l else l ++ [s]
theorem come_c (a : Option Addr) (c : Nat) (l : List Sp) (hl : l.length ≤ 1000000) (s : Sp) (w : World) (hw : Wd (fps [vecS a c l]) w [vecS a c l] w) :
    Ret Tryd.prog 147 [.slice a l.length c, .agg #[.int .i64 (s.1 : Int), .int .i64 s.2]] w fun u w' => ∃ x : Option Addr × Nat, u = .slice x.1 (comeL l s).length x.2 ∧ Wd (fps [vecS a c l]) w [vecS x.1 x.2 (comeL l s)] w' ∧ True := by
  refine ret_enter Tryd.func147 rfl Tryd.ntmps147 rfl hw ?_
  generalize fps [vecS a c l] = SS
  unfold vecS
  repeat (first | refine g_op rfl ?_ | refine g_then ?_ | refine g_nil ?_ | refine g_region ?_ | refine g_seq ?_ | refine g_box rfl fun _ _ => ?_ | refine g_block ?_)
  rename_i p3 _
  refine g_loop (fun (x : Nat × Option Addr) => x.1 ≤ l.length ∧ s ∉ l.take x.1) (fun x => [(5, .int .i64 x.1), (0, .slice x.2 l.length c), (3, .pointer (some ⟨p3, 0, none⟩))]) (fun x => [Ent.box p3 [.int .i64 (s.1 : Int), .int .i64 s.2] 158, Ent.vec x.2 l.length c 158 2 (l.flatMap spotC)]) (fun x => l.length - x.1) (0, a) ⟨Nat.zero_le _, by simp⟩ (g_done (by repeat (first | exact trivial | refine ⟨rfl, ?_⟩)) (List.Sublist.refl _)) fun x ⟨hi, hall⟩ => ?_
  obtain ⟨i, a⟩ := x
  simp only at hi hall ⊢
  repeat (first | refine g_op rfl ?_ | refine g_then ?_ | refine g_nil ?_ | refine g_region ?_ | refine g_seq ?_)
  refine g_cond (fun h1 => ?_) (fun h1 => ?_)
  · have hlt : i < l.length := by simpa using h1
    obtain ⟨q, hq⟩ : ∃ q, l[i]? = some q := ⟨_, List.getElem?_eq_getElem hlt⟩
    refine g_vec 1 rfl (by omega) fun vb vo hva => ?_
    subst hva
    have hli : LtIs i l.length := ⟨hlt⟩
    have hsp := spots_at hq
    repeat (first | refine g_then ?_ | refine g_seq ?_ | refine g_block ?_ | refine g_skip ?_)
    refine g_draw mixed (by kernel_rfl) ?_
    repeat (first | refine q_op rfl ?_ | refine q_nil ?_)
    repeat (refine g_then ?_)
    refine g_cond (fun h2 => ?_) (fun h2 => ?_)
    · have hqs : q = s := by
        simp at h2
        exact Prod.ext (by have := h2.1; omega) h2.2
      have hc : comeL l s = l := if_pos (hqs ▸ List.mem_of_getElem? hq)
      rw [hc]
      repeat (first | refine g_op rfl ?_ | refine g_then ?_ | refine g_nil ?_ | refine g_region ?_ | refine g_seq ?_ | refine g_ret ?_ | refine g_thenRet ?_ | refine g_blockRet ?_)
      exact g_ret1 rfl fun w' hw' => ⟨(some ⟨vb, vo, none⟩, c), rfl, hw'.sel [1] (by decide), trivial⟩
    · repeat (first | refine g_op rfl ?_ | refine g_then ?_ | refine g_nil ?_ | refine g_region ?_ | refine g_opS rfl ?_ | refine g_inBlock ?_ | refine g_skip ?_ | refine g_add rfl (by omega) (by omega) ?_)
      refine g_next (i + 1, some ⟨vb, vo, none⟩) ⟨hlt, fun h => ?_⟩ (by simp only; omega) (by repeat (first | exact trivial | refine ⟨rfl, ?_⟩)) (List.Sublist.refl _)
      simp only at h
      rw [List.take_add_one, hq] at h
      rcases List.mem_append.1 h with h | h
      · exact hall h
      · simp only [Option.toList_some, List.mem_singleton] at h
        subst h
        simp at h2
  · have hge : i = l.length := by have := h1; simp at this; omega
    rw [hge, List.take_length] at hall
    have hc : comeL l s = l ++ [s] := if_neg hall
    rw [hc]
    repeat (first | refine g_op rfl ?_ | refine g_then ?_ | refine g_region ?_ | refine g_seq ?_ | refine g_exit ?_ | refine g_thenExit ?_ | refine g_exitHere ?_ | refine g_build1 rfl rfl fun _ _ => ?_)
    refine g_append rfl rfl (by omega) (by omega) fun a' c' => ?_
    rw [show l.flatMap spotC ++ [.int .i64 (s.1 : Int), .int .i64 s.2] = (l ++ [s]).flatMap spotC by simp [spotC], show l.length + 1 = (l ++ [s]).length by simp]
    repeat (first | refine g_op rfl ?_ | refine g_then ?_ | refine g_nil ?_ | refine g_ret ?_)
    exact g_ret1 rfl fun w' hw' => ⟨(a', c'), rfl, hw'.sel [2] (by decide), trivial⟩
end Go.Proofs.YtbmnkjaelfjlhaaDoor


/- turneryref3.Live: what it returns. -/
namespace Go.Proofs.YtbmnkjaelfjlhaaDoor
open Go Go.RowKit
attribute [local irreducible] wpListIn Code.wpIn Exit.then Exit.inBlock bodyPost wpQuiet wpAnyIn
set_option maxHeartbeats 4000000

/-- a place that there is -/
def SpotOk (bl : List LBlock) (s : Sp) : Prop := -1 ≤ s.2 ∧ ∃ B, bl[s.1]? = some B ∧ s.2 ≤ B.list.length + 1
/-- it was gone through: nobody takes r there, and where one goes on from it is in the row -/
def Gone (bl : List LBlock) (r : Nat) (row : List Sp) (s : Sp) : Prop := ∀ B, bl[s.1]? = some B →
  (s.2 = -1 → (∀ p ∈ B.phis, p.dst ≠ r) → ((s.1, 0) : Sp) ∈ row) ∧ (∀ (i : Nat) x, s.2 = i → B.list[i]? = some x → namesR (usesOf x) r = false ∧ (x.dst ≠ r → ((s.1, (i : Int) + 1) : Sp) ∈ row)) ∧
  (s.2 = B.list.length → namesR [B.on] r = false) ∧ ((s.2 = B.list.length ∨ s.2 = B.list.length + 1) → ∀ t : Nat, (t : Int) ∈ B.to → takesR bl t s.1 r = false ∧ ((t, -1) : Sp) ∈ row)
theorem Gone.mono {bl : List LBlock} {r : Nat} {row row' : List Sp} (h : ∀ s ∈ row, s ∈ row') {s : Sp} (k : Gone bl r row s) : Gone bl r row' s := fun B hB => by
  obtain ⟨h1, h2, h3, h4⟩ := k B hB
  exact ⟨fun a b => h _ (h1 a b), fun i x a b => ⟨(h2 i x a b).1, fun c => h _ ((h2 i x a b).2 c)⟩, h3, fun a t ht => ⟨(h4 a t ht).1, h _ (h4 a t ht).2⟩⟩
theorem gone_dead {bl : List LBlock} {r : Nat} {row : List Sp} (h : ∀ s ∈ row, Gone bl r row s) {b : Nat} {j : Int} (k : LiveS bl r b j) : ((b, j) : Sp) ∈ row → False := by
  induction k with
  | phi hB hp _ ih => exact fun hm => ih ((h _ hm _ hB).1 rfl hp)
  | use hB hx hn => exact fun hm => by have := ((h _ hm _ hB).2.1 _ _ rfl hx).1; rw [hn] at this; cases this
  | @go b i B x hB hx hd _ ih => exact fun hm => ih (by have := ((h _ hm _ hB).2.1 _ _ rfl hx).2 hd; simpa using this)
  | on hB hn => exact fun hm => by have := (h _ hm _ hB).2.2.1 rfl; rw [hn] at this; cases this
  | take hB hj ht hk => exact fun hm => by have := ((h _ hm _ hB).2.2.2 hj _ ht).1; rw [hk] at this; cases this
  | jump hB hj ht _ ih => exact fun hm => ih ((h _ hm _ hB).2.2.2 hj _ ht).2
theorem spots_len {bl : List LBlock} {row : List Sp} (hn : row.Nodup) (hs : ∀ s ∈ row, SpotOk bl s) (hl : ∀ B ∈ bl, B.list.length ≤ 1000) : row.length ≤ bl.length * 1003 := by
  have hc : ∀ s ∈ row, s.1 < bl.length ∧ -1 ≤ s.2 ∧ s.2 ≤ 1001 := fun s hs' => by
    obtain ⟨h1, B, hB, h2⟩ := hs s hs'
    have := hl B (List.mem_of_getElem? hB)
    exact ⟨(List.getElem?_eq_some_iff.1 hB).1, h1, by omega⟩
  have h1 : (row.map fun s => s.1 * 1003 + (s.2 + 1).toNat).Nodup := by
    rw [List.Nodup, List.pairwise_map]
    refine List.Pairwise.imp_of_mem (fun {a b} ha hb hne e => hne ?_) hn
    have h2 := hc a ha
    have h3 := hc b hb
    exact Prod.ext (by omega) (by omega)
  have h2 := nodup_len (bl.length * 1003) _ h1 fun x hx => by
    obtain ⟨s, hs', rfl⟩ := List.mem_map.1 hx
    have := hc s hs'
    have h4 : (s.1 + 1) * 1003 ≤ bl.length * 1003 := Nat.mul_le_mul_right _ (by omega)
    omega
  rwa [List.length_map] at h2
structure LInv (bl : List LBlock) (r : Nat) (s0 : Sp) (i : Nat) (row : List Sp) : Prop where
  nd : row.Nodup
  ok : ∀ s ∈ row, SpotOk bl s
  start : s0 ∈ row
  sound : ∀ s ∈ row, LiveS bl r s.1 s.2 → LiveS bl r s0.1 s0.2
  gone : ∀ k s, k < i → row[k]? = some s → Gone bl r row s
theorem comeL_mem {l : List Sp} {s x : Sp} : x ∈ comeL l s ↔ (x ∈ l ∨ x = s) := by
  unfold comeL
  split
  · rename_i h
    exact ⟨.inl, fun h' => h'.elim id fun e => e ▸ h⟩
  · simp
theorem comeL_ext (l : List Sp) (s : Sp) : ∃ e, comeL l s = l ++ e := by
  unfold comeL
  split
  · exact ⟨[], by simp⟩
  · exact ⟨_, rfl⟩
theorem comeL_nodup {l : List Sp} (h : l.Nodup) (s : Sp) : (comeL l s).Nodup := by
  unfold comeL
  split
  · exact h
  · rename_i hm
    rw [List.nodup_append]
    exact ⟨h, by simp, fun a ha b hb e => by simp only [List.mem_singleton] at hb; subst hb; exact hm (e ▸ ha)⟩
/-- a place more -/
theorem LInv.come {bl : List LBlock} {r : Nat} {s0 s : Sp} {i : Nat} {row : List Sp} (h : LInv bl r s0 i row) (hi : i ≤ row.length) (hs : SpotOk bl s) (hl : LiveS bl r s.1 s.2 → LiveS bl r s0.1 s0.2) : LInv bl r s0 i (comeL row s) := by
  obtain ⟨e, he⟩ := comeL_ext row s
  refine ⟨comeL_nodup h.nd s, fun x hx => ?_, comeL_mem.2 (.inl h.start), fun x hx => ?_, fun k x hk hx => ?_⟩
  · rcases comeL_mem.1 hx with hx | rfl
    · exact h.ok x hx
    · exact hs
  · rcases comeL_mem.1 hx with hx | rfl
    · exact h.sound x hx
    · exact hl
  · rw [he, List.getElem?_append_left (by omega)] at hx
    exact (h.gone k x hk hx).mono fun y hy => comeL_mem.2 (.inl hy)
theorem LInv.next {bl : List LBlock} {r : Nat} {s0 s : Sp} {i : Nat} {row : List Sp} (h : LInv bl r s0 i row) (hs : row[i]? = some s) (hg : Gone bl r row s) : LInv bl r s0 (i + 1) row :=
  ⟨h.nd, h.ok, h.start, h.sound, fun k x hk hx => by
    by_cases e : k = i
    · subst e
      rw [hs] at hx
      simp only [Option.some.injEq] at hx
      subst hx
      exact hg
    · exact h.gone k x (by omega) hx⟩
theorem comeL_get {row : List Sp} {s : Sp} {i : Nat} {x : Sp} (h : row[i]? = some x) : (comeL row s)[i]? = some x := by
  obtain ⟨e, he⟩ := comeL_ext row s
  rw [he, List.getElem?_append_left (List.getElem?_eq_some_iff.1 h).1]
  exact h
theorem live_c (nm pa re : Value) (bl : List LBlock) (bs : Value) (hbsl : ∃ a n c, bs = .slice a n c) (r : Nat) (s0 : Sp) (w0 : World) (hbs : SlAt w0 bs 6 bl BlockV) (hlen : bl.length ≤ 100) (R : Nat) (hf : FuncOk R bl) (hlist : ∀ B ∈ bl, B.list.length ≤ 1000) (hargs : ∀ B ∈ bl, ∀ x ∈ B.list, x.args.length ≤ 1000) (hs0 : SpotOk bl s0) [Decidable (LiveS bl r s0.1 s0.2)] :
    RetV Tryd.prog 102 [.agg #[nm, pa, re, bs], .int .i64 r, .agg #[.int .i64 (s0.1 : Int), .int .i64 s0.2]] w0 (.bool (decide (LiveS bl r s0.1 s0.2))) := by
  have hbs0 := hbs
  have hok := hf.good
  obtain ⟨ba, n, bc, bb, bo', rfl, hn, hnc, hnb, hbc, hba, hel⟩ := hbs
  refine ret_enter Tryd.func102 rfl Tryd.ntmps102 rfl (Wd.nil NoS w0) ?_
  repeat (first | refine g_op rfl ?_ | refine g_then ?_ | refine g_nil ?_ | refine g_region ?_ | refine g_seq ?_ | refine g_box rfl fun _ _ => ?_ | refine g_block ?_ | refine g_build1 rfl rfl fun _ _ => ?_)
  rename_i p3 _ p5 _ eb _
  refine g_loop (fun (x : Nat × Option Addr × Nat × List Sp) => x.1 ≤ x.2.2.2.length ∧ LInv bl r s0 x.1 x.2.2.2) (fun x => [(8, .int .i64 x.1), (7, .slice x.2.1 x.2.2.2.length x.2.2.1), (3, .pointer (some ⟨p3, 0, none⟩)), (1, .int .i64 (r : Nat)), (6, .bool false)])
    (fun x => [vecS x.2.1 x.2.2.1 x.2.2.2, Ent.box p3 [nm, pa, re, .slice ba n bc] 35]) (fun x => bl.length * 1003 - x.1) (0, some ⟨eb, 0, none⟩, 1, [s0]) ⟨Nat.zero_le _, ⟨by simp, by simpa using hs0, by simp, fun s hs h => by simp only [List.mem_singleton] at hs; subst hs; exact h, fun k s hk => by omega⟩⟩ ?_ fun x ⟨hi, hI⟩ => ?_
  · exact g_done (by repeat (first | exact trivial | refine ⟨rfl, ?_⟩)) (List.Sublist.cons_cons _ (List.Sublist.cons _ (List.Sublist.refl _)))
  obtain ⟨i, a, c, row⟩ := x
  simp only at hi hI ⊢
  have hrl := spots_len hI.nd hI.ok hlist
  have hrl2 : row.length ≤ 100300 := by omega
  unfold vecS
  repeat (first | refine g_op rfl ?_ | refine g_then ?_ | refine g_nil ?_ | refine g_region ?_ | refine g_seq ?_)
  refine g_cond (fun h1 => ?_) (fun h1 => ?_)
  case refine_2 =>
    have hge : i = row.length := by have := h1; simp at this; omega
    repeat (first | refine g_then ?_ | refine g_nil ?_ | refine g_region ?_ | refine g_seq ?_ | refine g_opS rfl ?_ | refine g_exit ?_ | refine g_thenExit ?_ | refine g_exitHere ?_ | refine g_ret ?_)
    refine g_retV rfl ?_
    rw [decide_eq_false]
    intro hlv
    exact gone_dead (row := row) (fun s hs => by
      obtain ⟨k, hk⟩ := List.getElem?_of_mem hs
      exact hI.gone k s (by have := (List.getElem?_eq_some_iff.1 hk).1; omega) hk) hlv hI.start
  have hlt : i < row.length := by simpa using h1
  obtain ⟨s, hs⟩ : ∃ q, row[i]? = some q := ⟨_, List.getElem?_eq_getElem hlt⟩
  refine g_vec 0 rfl (by omega) fun vb vo hva => ?_
  subst hva
  have hli : LtIs i row.length := ⟨hlt⟩
  have hsp := spots_at hs
  obtain ⟨hz1, B, hB, hz2⟩ := hI.ok s (List.mem_of_getElem? hs)
  have hsound := hI.sound s (List.mem_of_getElem? hs)
  obtain ⟨b, z⟩ := s
  simp only at hz1 hB hz2 hsp hsound
  have hbn : b < n := by rw [hn]; exact (List.getElem?_eq_some_iff.1 hB).1
  have had : AddrIs ba bb bo' := ⟨hba (ne_of_get hB)⟩
  have hlb : LtIs b n := ⟨hbn⟩
  obtain ⟨cs, hcs, pv, lv, tv, rfl, _, hion, hphis, hins, hto⟩ := hel b B hB
  have hphis0 := hphis
  have hins0 := hins
  have hto0 := hto
  obtain ⟨pa2, pn, pc, _, _, rfl, _⟩ := hphis
  obtain ⟨la, ln, lc, lb, lo, rfl, hln, hlnc, _, _, hla, hlel⟩ := hins
  obtain ⟨ta, tn, tc, tb, to', rfl, htn, htnc, _, _, hta, htel⟩ := hto
  have hci : CellsIs w0 bb (bo' + b * 6) _ := ⟨hcs⟩
  have hBo := hf.block b B hB
  have hll := hlist B (List.mem_of_getElem? hB)
  repeat (first | refine g_op rfl ?_ | refine g_then ?_ | refine g_nil ?_ | refine g_region ?_ | refine g_seq ?_ | refine g_alloc rfl fun _ _ => ?_ | refine g_storeAgg ?_ | refine g_block ?_ | refine g_skip ?_)
  rename_i p9 _ p10 _
  refine g_cond (fun h2 => ?_) (fun h2 => ?_)
  · have hz : z = -1 := by have := h2; simp at this; omega
    subst hz
    repeat (first | refine g_op rfl ?_ | refine g_region ?_ | refine g_seq ?_)
    refine g_callV rfl (fun w hw => writesPhi_c _ _ _ B ⟨_, _, _, rfl⟩ ⟨_, _, _, rfl⟩ ⟨_, _, _, rfl⟩ r w (hphis0.keep keeps_phi hw.chg)) ?_
    have hphi : (B.phis.any fun p => decide (p.dst = r)) = false ↔ ∀ p ∈ B.phis, p.dst ≠ r := by simp
    generalize (B.phis.any fun p => decide (p.dst = r)) = q at hphi
    have hgone : ∀ row' : List Sp, (q = false → ((b, 0) : Sp) ∈ row') → Gone bl r row' (b, -1) := fun row' h B' hB' => by
      rw [hB] at hB'; cases hB'
      exact ⟨fun _ hp => h (hphi.2 hp), fun i x e => absurd e (by simp only; omega), fun e => absurd e (by simp only; omega), fun e => absurd e (by simp only; omega)⟩
    cases q
    · have hp := hphi.1 rfl
      have hI' := hI.come (s := (b, 0)) (by omega) ⟨by simp, B, hB, by simp only; omega⟩ fun h => hsound (.phi hB hp h)
      repeat (first | refine g_op rfl ?_ | refine g_then ?_ | refine g_nil ?_ | refine g_region ?_ | refine g_condT ?_)
      refine g_sel [2, 0, 1, 3] (by decide) ?_
      refine g_callS (H1 := [vecS (some ⟨vb, vo, none⟩) c row]) (val := fun x : Option Addr × Nat => .slice x.1 (comeL row (b, 0)).length x.2) (E := fun x => [vecS x.1 x.2 (comeL row (b, 0))]) (φ := fun _ => True) rfl (fun w hw => come_c _ c row (by omega) (b, 0) w hw.pre) fun x _ => ?_
      obtain ⟨a', c'⟩ := x
      simp only [List.cons_append, List.nil_append]
      have hg := comeL_get (s := (b, 0)) hs
      repeat (first | refine g_op rfl ?_ | refine g_then ?_ | refine g_nil ?_ | refine g_region ?_ | refine g_opS rfl ?_ | refine g_add rfl (by omega) (by omega) ?_ | refine g_exit ?_ | refine g_thenExit ?_ | refine g_exitHere ?_)
      exact g_next (i + 1, a', c', comeL row (b, 0)) ⟨(List.getElem?_eq_some_iff.1 hg).1, hI'.next hg (hgone _ fun _ => comeL_mem.2 (.inr rfl))⟩ (by simp only; omega) (by repeat (first | exact trivial | refine ⟨rfl, ?_⟩)) (List.Sublist.cons_cons _ (List.Sublist.cons _ (List.Sublist.cons _ (List.Sublist.refl _))))
    · repeat (first | refine g_op rfl ?_ | refine g_then ?_ | refine g_nil ?_ | refine g_region ?_ | refine g_opS rfl ?_ | refine g_skip ?_ | refine g_condF ?_ | refine g_add rfl (by omega) (by omega) ?_ | refine g_exit ?_ | refine g_thenExit ?_ | refine g_exitHere ?_)
      exact g_next (i + 1, some ⟨vb, vo, none⟩, c, row) ⟨hlt, hI.next hs (hgone row (by simp))⟩ (by simp only; omega) (by repeat (first | exact trivial | refine ⟨rfl, ?_⟩)) (List.Sublist.cons _ (List.Sublist.cons _ (List.Sublist.refl _)))
  obtain ⟨j, rfl⟩ : ∃ j : Nat, z = j := ⟨z.toNat, by have := h2; simp at this; omega⟩
  have hjn : j ≤ B.list.length + 1 := by omega
  clear hz1 hz2
  repeat (first | refine g_op rfl ?_ | refine g_then ?_ | refine g_nil ?_ | refine g_region ?_ | refine g_seq ?_ | refine g_skip ?_)
  refine g_cond (fun h3 => ?_) (fun h3 => ?_)
  · have hjl : j < ln := by simpa using h3
    obtain ⟨x, hx⟩ := get_lt hln hjl
    have hadl : AddrIs la lb lo := ⟨hla (ne_of_get hx)⟩
    have hlj : LtIs j ln := ⟨hjl⟩
    obtain ⟨csx, hcsx, xv, rfl, _, _, hia, hib, _, hxs⟩ := hlel j x hx
    have hxm := List.mem_of_getElem? hx
    have hal := hargs B (List.mem_of_getElem? hB) x hxm
    have hxs0 := hxs
    obtain ⟨va, vn, vc, _, _, rfl, _, _, _, _, _, hvel⟩ := hxs
    have hciX : CellsIs w0 lb (lo + j * 8) _ := ⟨hcsx⟩
    have hul : (usesOf x).length ≤ 1000 := by unfold usesOf; repeat (first | split | skip) <;> (try simp) <;> (try omega)
    have hui : ∀ v ∈ usesOf x, inI v.n := fun v hv => by
      have hargI : ∀ v ∈ x.args, inI v.n := fun v hv => by
        obtain ⟨k, hk⟩ := List.getElem?_of_mem hv
        obtain ⟨_, _, _, h⟩ := hvel k v hk
        exact h
      unfold usesOf at hv
      split at hv
      · cases hv
      · split at hv
        · exact hargI v hv
        · split at hv
          · simp only [List.mem_cons, List.not_mem_nil, or_false] at hv
            rcases hv with rfl | rfl
            · exact hia
            · exact hib
          · split at hv
            · simp only [List.mem_cons, List.not_mem_nil, or_false] at hv
              subst hv
              exact hia
            · cases hv
    repeat (first | refine g_op rfl ?_ | refine g_region ?_ | refine g_seq ?_)
    refine g_callE (val := fun y : Option Addr × Nat × Nat => .slice y.1 (usesOf x).length y.2.1) (E := fun y => [Ent.vec y.1 (usesOf x).length y.2.1 y.2.2 2 ((usesOf x).flatMap valC)]) (φ := fun _ => True) rfl (fun w hw => uses_c x va vn vc w (hxs0.keep keeps_val hw.chg) hal) fun y _ => ?_
    obtain ⟨ya, yc, ye⟩ := y
    simp only [List.cons_append, List.nil_append]
    repeat (refine g_op rfl ?_)
    refine g_callV rfl (fun w hw => names_c _ (usesOf x) r w (vals_sl hw (k := 0) rfl rfl (by omega) hui)) ?_
    by_cases hnm : namesR (usesOf x) r = true
    · rw [hnm]
      repeat (first | refine g_then ?_ | refine g_nil ?_ | refine g_region ?_ | refine g_seq ?_ | refine g_opS rfl ?_ | refine g_condT ?_ | refine g_ret ?_ | refine g_thenRet ?_ | refine g_blockRet ?_)
      exact g_retV rfl (by rw [decide_eq_true (hsound (.use hB hx hnm))])
    have hnm := Bool.eq_false_iff.2 hnm
    rw [hnm]
    repeat (first | refine g_op rfl ?_ | refine g_then ?_ | refine g_nil ?_ | refine g_region ?_ | refine g_seq ?_ | refine g_skip ?_ | refine g_condF ?_)
    have hgone : ∀ row' : List Sp, (x.dst ≠ r → ((b, (j : Int) + 1) : Sp) ∈ row') → Gone bl r row' (b, j) := fun row' h B' hB' => by
      rw [hB] at hB'; cases hB'
      refine ⟨fun e => absurd e (by simp only; omega), fun i' x' e hx' => ?_, fun e => absurd e (by simp only; omega), fun e => absurd e (by simp only; omega)⟩
      have : i' = j := by simp only at e; omega
      subst this
      rw [hx] at hx'; cases hx'
      exact ⟨hnm, h⟩
    refine g_cond (fun h4 => ?_) (fun h4 => ?_)
    · have hd : x.dst ≠ r := by simpa using h4
      have hI' := hI.come (s := (b, (j : Int) + 1)) (by omega) ⟨by simp only; omega, B, hB, by simp only; omega⟩ fun h => hsound (.go hB hx hd (by simpa using h))
      repeat (first | refine g_op rfl ?_ | refine g_region ?_ | refine g_add rfl (by omega) (by omega) ?_)
      refine g_sel [3, 1, 2, 4] (by decide) ?_
      refine g_callS (H1 := [vecS (some ⟨vb, vo, none⟩) c row]) (val := fun x : Option Addr × Nat => .slice x.1 (comeL row (b, (j : Int) + 1)).length x.2) (E := fun x => [vecS x.1 x.2 (comeL row (b, (j : Int) + 1))]) (φ := fun _ => True) rfl (fun w hw => come_c _ c row (by omega) (b, (j : Int) + 1) w hw.pre) fun x _ => ?_
      obtain ⟨a', c'⟩ := x
      simp only [List.cons_append, List.nil_append]
      have hg := comeL_get (s := (b, (j : Int) + 1)) hs
      repeat (first | refine g_op rfl ?_ | refine g_then ?_ | refine g_nil ?_ | refine g_region ?_ | refine g_opS rfl ?_ | refine g_add rfl (by omega) (by omega) ?_ | refine g_exit ?_ | refine g_thenExit ?_ | refine g_exitHere ?_)
      exact g_next (i + 1, a', c', comeL row (b, (j : Int) + 1)) ⟨(List.getElem?_eq_some_iff.1 hg).1, hI'.next hg (hgone _ fun _ => comeL_mem.2 (.inr rfl))⟩ (by simp only; omega) (by repeat (first | exact trivial | refine ⟨rfl, ?_⟩)) (List.Sublist.cons_cons _ (List.Sublist.cons _ (List.Sublist.cons _ (List.Sublist.refl _))))
    · repeat (first | refine g_op rfl ?_ | refine g_then ?_ | refine g_nil ?_ | refine g_region ?_ | refine g_opS rfl ?_ | refine g_skip ?_ | refine g_add rfl (by omega) (by omega) ?_ | refine g_exit ?_ | refine g_thenExit ?_ | refine g_exitHere ?_)
      refine g_sel [1, 2, 3, 4] (by decide) ?_
      exact g_next (i + 1, some ⟨vb, vo, none⟩, c, row) ⟨hlt, hI.next hs (hgone row fun h => by simp at h4; exact absurd h4 h)⟩ (by simp only; omega) (by repeat (first | exact trivial | refine ⟨rfl, ?_⟩)) (List.Sublist.cons _ (List.Sublist.cons _ (List.Sublist.refl _)))
  have hjg : j = B.list.length ∨ j = B.list.length + 1 := by simp at h3; omega
  clear h3 h2
  refine g_fix (L' := [(10, .pointer (some ⟨p10, 0, none⟩)), (9, .pointer (some ⟨p9, 0, none⟩)), (8, .int .i64 i), (7, .slice (some ⟨vb, vo, none⟩) row.length c), (3, .pointer (some ⟨p3, 0, none⟩)), (1, .int .i64 (r : Nat)), (6, .bool false)]) (by repeat (first | exact trivial | refine ⟨rfl, ?_⟩)) (List.Sublist.refl _) ?_
  repeat (first | refine g_op rfl ?_ | refine g_then ?_ | refine g_region ?_ | refine g_seq ?_ | refine g_skip ?_)
  refine g_joinTo 88 (.bool (decide (j = B.list.length) && namesR [B.on] r)) ?_ ?_
  · rw [show decide ((j : Int) = (ln : Int)) = decide (j = B.list.length) by rw [hln]; exact decide_eq_decide.2 (by omega)]
    by_cases e : j = B.list.length
    · rw [decide_eq_true e]
      repeat (first | refine g_op rfl ?_ | refine g_open ?_ | refine g_build1 rfl rfl fun _ _ => ?_)
      refine g_callV rfl (fun w hw => names_c _ [B.on] r w (vals_sl hw (k := 0) (l := [B.on]) rfl rfl (by omega) (fun y hy => by simp only [List.mem_singleton] at hy; subst hy; exact hion))) ?_
      repeat (first | refine g_op rfl ?_ | refine g_then ?_ | refine g_nil ?_)
      exact g_done (by repeat (first | exact trivial | refine ⟨rfl, ?_⟩)) (List.Sublist.cons _ (List.Sublist.refl _))
    · rw [decide_eq_false e]
      repeat (first | refine g_op rfl ?_ | refine g_then ?_ | refine g_nil ?_ | refine g_pass rfl ?_)
      exact g_done (by repeat (first | exact trivial | refine ⟨rfl, ?_⟩)) (List.Sublist.refl _)
  repeat (first | refine g_then ?_ | refine g_nil ?_)
  refine g_cond (fun h4 => ?_) (fun h4 => ?_)
  · repeat (first | refine g_then ?_ | refine g_nil ?_ | refine g_region ?_ | refine g_seq ?_ | refine g_opS rfl ?_ | refine g_ret ?_ | refine g_thenRet ?_ | refine g_blockRet ?_)
    rw [Bool.and_eq_true] at h4
    have e : j = B.list.length := by simpa using h4.1
    exact g_retV rfl (by rw [decide_eq_true (hsound (by rw [e]; exact .on hB h4.2))])
  have hon : j = B.list.length → namesR [B.on] r = false := fun e => by rw [decide_eq_true e, Bool.true_and] at h4; exact h4
  repeat (first | refine g_op rfl ?_ | refine g_then ?_ | refine g_nil ?_ | refine g_region ?_ | refine g_seq ?_ | refine g_block ?_ | refine g_skip ?_)
  refine g_loop (fun (x : Nat × Option Addr × Nat × List Sp) => x.1 ≤ tn ∧ i < x.2.2.2.length ∧ LInv bl r s0 i x.2.2.2 ∧ x.2.2.2[i]? = some (b, (j : Int)) ∧ ∀ t : Nat, (t : Int) ∈ B.to.take x.1 → takesR bl t b r = false ∧ ((t, -1) : Sp) ∈ x.2.2.2)
    (fun x => [(11, .int .i64 x.1), (7, .slice x.2.1 x.2.2.2.length x.2.2.1), (10, .pointer (some ⟨p10, 0, none⟩)), (9, .pointer (some ⟨p9, 0, none⟩)), (8, .int .i64 i), (3, .pointer (some ⟨p3, 0, none⟩)), (1, .int .i64 (r : Nat)), (6, .bool false)])
    (fun x => [vecS x.2.1 x.2.2.1 x.2.2.2, Ent.box p10 [.slice pa2 pn pc, .slice la ln lc, .int .i64 B.kind, .bool B.on.reg, .int .i64 B.on.n, .slice ta tn tc] 47, Ent.box p9 [.int .i64 (b : Int), .int .i64 (j : Int)] 158, Ent.box p3 [nm, pa, re, .slice ba n bc] 35]) (fun x => tn - x.1) (0, some ⟨vb, vo, none⟩, c, row) ⟨Nat.zero_le _, hlt, hI, hs, by simp⟩ ?_ fun x ⟨hq, hi', hI', hs', hall⟩ => ?_
  · refine g_sel [2, 0, 1, 3] (by decide) ?_
    exact g_done (by repeat (first | exact trivial | refine ⟨rfl, ?_⟩)) (List.Sublist.refl _)
  clear hI hs hrl hrl2 hi hlt hsp h1
  obtain ⟨q, a, c, row⟩ := x
  simp only at hq hi' hI' hs' hall ⊢
  have hrl := spots_len hI'.nd hI'.ok hlist
  have hrl2 : row.length ≤ 100300 := by omega
  repeat (first | refine g_op rfl ?_ | refine g_then ?_ | refine g_nil ?_ | refine g_region ?_ | refine g_seq ?_)
  refine g_cond (fun h5 => ?_) (fun h5 => ?_)
  · have hqt : q < tn := by simpa using h5
    obtain ⟨z, hz⟩ := get_lt htn hqt
    have hzm : z ∈ toOf bl b := by rw [toOf_get hB]; exact List.mem_of_getElem? hz
    obtain ⟨t, rfl⟩ : ∃ t : Nat, z = t := ⟨z.toNat, (hok.nat hzm).symm⟩
    have htl : t < bl.length := by have := hok.edge (x := b) (y := t) hzm; omega
    have hadt : AddrIs ta tb to' := ⟨hta (ne_of_get hz)⟩
    have hlq : LtIs q tn := ⟨hqt⟩
    obtain ⟨csz, hcsz, rfl, _⟩ := htel q _ hz
    have hciZ : CellsIs w0 tb (to' + q * 1) _ := ⟨hcsz⟩
    have hI2 := hI'.come (s := (t, -1)) (by omega) ⟨by simp, bl[t], List.getElem?_eq_getElem htl, by simp only; omega⟩ fun h => hsound (.jump hB (by omega) (by rw [← toOf_get hB]; exact hzm) h)
    unfold vecS
    repeat (first | refine g_op rfl ?_ | refine g_then ?_ | refine g_nil ?_ | refine g_region ?_ | refine g_seq ?_ | refine g_block ?_ | refine g_skip ?_)
    refine g_callV rfl (fun w hw => takes_c nm pa re R bl _ ⟨_, _, _, rfl⟩ t b r w (hbs0.keep keeps_block hw.chg) hlen hf htl (by omega) hzm) ?_
    by_cases htk : takesR bl t b r = true
    · rw [htk]
      repeat (first | refine g_then ?_ | refine g_nil ?_ | refine g_region ?_ | refine g_seq ?_ | refine g_opS rfl ?_ | refine g_condT ?_ | refine g_ret ?_ | refine g_thenRet ?_ | refine g_blockRet ?_)
      exact g_retV rfl (by rw [decide_eq_true (hsound (.take hB (by omega) (by rw [← toOf_get hB]; exact hzm) htk))])
    have htk := Bool.eq_false_iff.2 htk
    rw [htk]
    repeat (first | refine g_op rfl ?_ | refine g_then ?_ | refine g_nil ?_ | refine g_region ?_ | refine g_skip ?_ | refine g_condF ?_)
    refine g_callS (H1 := [vecS a c row]) (val := fun x : Option Addr × Nat => .slice x.1 (comeL row (t, -1)).length x.2) (E := fun x => [vecS x.1 x.2 (comeL row (t, -1))]) (φ := fun _ => True) rfl (fun w hw => come_c _ c row (by omega) (t, -1) w hw.pre) fun x _ => ?_
    obtain ⟨a', c'⟩ := x
    simp only [List.cons_append, List.nil_append]
    have hg := comeL_get (s := (t, -1)) hs'
    repeat (first | refine g_op rfl ?_ | refine g_then ?_ | refine g_nil ?_ | refine g_region ?_ | refine g_opS rfl ?_ | refine g_inBlock ?_ | refine g_add rfl (by omega) (by omega) ?_)
    refine g_next (q + 1, a', c', comeL row (t, -1)) ⟨hqt, (List.getElem?_eq_some_iff.1 hg).1, hI2, hg, fun t' ht' => ?_⟩ (by simp only; omega) (by repeat (first | exact trivial | refine ⟨rfl, ?_⟩)) (List.Sublist.refl _)
    simp only at ht'
    rw [List.take_add_one, hz, List.mem_append] at ht'
    rcases ht' with ht' | ht'
    · exact ⟨(hall t' ht').1, comeL_mem.2 (.inl (hall t' ht').2)⟩
    · simp only [Option.toList_some, List.mem_singleton] at ht'
      have : t' = t := by omega
      subst this
      exact ⟨htk, comeL_mem.2 (.inr rfl)⟩
  · have hge : q = tn := by have := h5; simp at this; omega
    rw [hge, htn, List.take_length] at hall
    repeat (first | refine g_op rfl ?_ | refine g_then ?_ | refine g_nil ?_ | refine g_region ?_ | refine g_opS rfl ?_ | refine g_inBlock ?_ | refine g_add rfl (by omega) (by omega) ?_ | refine g_exit ?_ | refine g_thenExit ?_ | refine g_exitHere ?_)
    refine g_next (i + 1, a, c, row) ⟨hi', hI'.next hs' fun B' hB' => ?_⟩ (by simp only; omega) (by repeat (first | exact trivial | refine ⟨rfl, ?_⟩)) (List.Sublist.cons_cons _ (List.Sublist.cons _ (List.Sublist.cons _ (List.Sublist.refl _))))
    rw [hB] at hB'; cases hB'
    refine ⟨fun e => absurd e (by simp only; omega), fun i' x e hx => absurd e ?_, fun e => hon (by simp only at e; omega), fun _ t ht => hall t ht⟩
    have := (List.getElem?_eq_some_iff.1 hx).1
    simp only
    omega
end Go.Proofs.YtbmnkjaelfjlhaaDoor


/- A region that draws its order, reads and calls: what is read is taken in one order, the calls stand alone when they come. One walk serves every order. -/
namespace Go.Proofs.YtbmnkjaelfjlhaaDoor
open Go Go.RowKit

section
variable {P : Program} {N : Nat} {ds : List Deferred} {S : Nat → Prop} {w0 : World} {L L' : List (Nat × Value)} {H H' Hr : List Ent} {Q : Exit → Act → World → Prop} {x y : Operand} {M : Act → World → Prop} {l : List Oper} {fuel : Nat} {listed : Array Bool}

theorem h_call {d ty f : Nat} (i : Nat) {args : List Operand} {vs : List Value} {tys : Array Nat} {pos : String} {aft : Array Go.Edge} (R : World → Value → World → Prop) [ho : ListAt l i ⟨some d, .call { callee := .value (.func f), args := args.toArray, argTypes := tys }, ty, pos, aft, none⟩] [h : EnterOk P f] [hx : Evs L args vs] (hd : okPut d N L = true)
    (hr : decide (Region.ready .any l.toArray listed = [i]) = true)
    (hc : ∀ w, Wd S w0 H w → Ret P f vs w (R w))
    (k : ∀ v w w', Wd S w0 H w → R w v w' → Wd S w0 Hr w' ∧ ∀ a, Fr N ds ((d, v) :: L) a → wpAnyH P .any l.toArray (OnlyN M) (Wd S w0 Hr) fuel (listed.setIfInBounds i true) a w') : G N ds S w0 L H (wpAnyH P .any l.toArray (OnlyN M) (Wd S w0 Hr) (fuel + 1) listed) := by
  intro a w hS
  refine wpAnyH_all (of_decide_eq_true hr) (by simp) fun i' hi' => ?_
  simp only [List.mem_singleton] at hi'
  subst hi'
  unfold wpOp
  rw [show l.toArray[i']? = some ⟨some d, .call { callee := .value (.func f), args := args.toArray, argTypes := tys }, ty, pos, aft, none⟩ by simpa using ho.at']
  simp only
  rw [if_pos (show Region.wanted (⟨some d, .call { callee := .value (.func f), args := args.toArray, argTypes := tys }, ty, pos, aft, none⟩ : Oper) (yielded l.toArray a.tmps) = true from rfl)]
  left
  unfold Oper.wp
  have hrun : (execOp a.eval ⟨some d, .call { callee := .value (.func f), args := args.toArray, argTypes := tys }, ty, pos, aft, none⟩).run P w = .ok (.enter f vs.toArray) w := by
    simp [execOp, resolve, Act.eval, Deferred.ofValue, invoke, hx.eq _ _ _ hS.fr, h.run]
  rw [hrun]
  refine Calls.mono (callsIn_wide.1 (hc w hS.wd)) fun e w' ⟨v, he, hR⟩ => ?_
  subst he
  obtain ⟨h1, h2⟩ := k v w w' hS.wd hR
  exact ⟨h1, h2 _ (hS.fr.putOk hd v)⟩
/-- a call that hands back something that is told by x, with memory of its own -/
theorem h_callE {α : Type} {val : α → Value} {E : α → List Ent} {φ : α → Prop} {d ty f : Nat} (i : Nat) {args : List Operand} {vs : List Value} {tys : Array Nat} {pos : String} {aft : Array Go.Edge} [ho : ListAt l i ⟨some d, .call { callee := .value (.func f), args := args.toArray, argTypes := tys }, ty, pos, aft, none⟩] [h : EnterOk P f] [hx : Evs L args vs] (hd : okPut d N L = true)
    (hr : decide (Region.ready .any l.toArray listed = [i]) = true) (hH : Hr.Sublist H)
    (hc : ∀ w, Wd S w0 H w → Ret P f vs w fun u w' => ∃ x, u = val x ∧ Wd NoS w (E x) w' ∧ φ x)
    (k : ∀ x, φ x → G N ds S w0 ((d, val x) :: L) (E x ++ H) (wpAnyH P .any l.toArray (OnlyN M) (Wd S w0 Hr) fuel (listed.setIfInBounds i true))) : G N ds S w0 L H (wpAnyH P .any l.toArray (OnlyN M) (Wd S w0 Hr) (fuel + 1) listed) :=
  h_call i (fun _ u w' => ∃ x, u = val x ∧ Wd S w0 (E x ++ H) w' ∧ φ x) hd hr (fun w hw => (hc w hw).mono fun v w' ⟨x, h1, h2, h3⟩ => ⟨x, h1, hw.more h2, h3⟩) fun v w w' hw hR => by
    obtain ⟨x, rfl, h2, h3⟩ := hR
    exact ⟨h2.sub (hH.trans (List.sublist_append_right _ _)), fun a hF => k x h3 a w' ⟨hF, h2⟩⟩
/-- the one operation that is left: a store into a box of the call's own -/
theorem h_skip {o : Oper} (i : Nat) [ho : ListAt l i o] (hg : o.guard = none) (hr : decide (Region.ready .any l.toArray listed = [i]) = true)
    (k : ∀ a w, St N ds S w0 L H a w → ∃ w', (execOp a.eval o).run P w = .ok .skip w' ∧ Wd S w0 Hr w' ∧ wpAnyH P .any l.toArray (OnlyN M) (Wd S w0 Hr) fuel (listed.setIfInBounds i true) (a.put o.dst undef) w') : G N ds S w0 L H (wpAnyH P .any l.toArray (OnlyN M) (Wd S w0 Hr) (fuel + 1) listed) := by
  intro a w hS
  obtain ⟨w', h1, h2, h3⟩ := k a w hS
  refine wpAnyH_all (of_decide_eq_true hr) (by simp) fun i' hi' => ?_
  simp only [List.mem_singleton] at hi'
  subst hi'
  unfold wpOp
  rw [show l.toArray[i']? = some o by simpa using ho.at']
  simp only
  rw [if_pos (show Region.wanted o (yielded l.toArray a.tmps) = true by simp [Region.wanted, hg])]
  left
  unfold Oper.wp
  rw [h1]
  exact ⟨h2, h3⟩
theorem h_val {o : Oper} (i : Nat) [ho : ListAt l i o] (hg : o.guard = none) (hr : decide (Region.ready .any l.toArray listed = [i]) = true)
    (k : ∀ a w, St N ds S w0 L H a w → ∃ v w', (execOp a.eval o).run P w = .ok (.value v) w' ∧ Wd S w0 Hr w' ∧ wpAnyH P .any l.toArray (OnlyN M) (Wd S w0 Hr) fuel (listed.setIfInBounds i true) (a.put o.dst v) w') : G N ds S w0 L H (wpAnyH P .any l.toArray (OnlyN M) (Wd S w0 Hr) (fuel + 1) listed) := by
  intro a w hS
  obtain ⟨v, w', h1, h2, h3⟩ := k a w hS
  refine wpAnyH_all (of_decide_eq_true hr) (by simp) fun i' hi' => ?_
  simp only [List.mem_singleton] at hi'
  subst hi'
  unfold wpOp
  rw [show l.toArray[i']? = some o by simpa using ho.at']
  simp only
  rw [if_pos (show Region.wanted o (yielded l.toArray a.tmps) = true by simp [Region.wanted, hg])]
  left
  unfold Oper.wp
  rw [h1]
  exact ⟨h2, h3⟩
theorem h_store {ty T b o j t : Nat} (i : Nat) [h : OneCell P T] {cs cs' : List Value} {v : Value} {pos : String} {aft : Array Go.Edge} [ho : ListAt l i ⟨none, .store T x y, ty, pos, aft, none⟩]
    [hx : Ev L x (.pointer (some ⟨b, o, none⟩))] [hy : Ev L y v] [h1 : OneV v] [hb : BoxIn H b j cs t] {u : Value} [hu : ListAt cs o u] [hs : SetAt cs o v cs'] [hH : SetAt H j (Ent.box b cs' t) H']
    (hr : decide (Region.ready .any l.toArray listed = [i]) = true) (hHr : Hr.Sublist H')
    (kk : G N ds S w0 L H' (wpAnyH P .any l.toArray (OnlyN M) (Wd S w0 Hr) fuel (listed.setIfInBounds i true))) : G N ds S w0 L H (wpAnyH P .any l.toArray (OnlyN M) (Wd S w0 Hr) (fuel + 1) listed) := by
  refine h_skip i rfl hr fun a w hS => ?_
  have hbx := hS.wd.boxAt j hb.at'
  have := run_storeOne (P := P) (T := T) h1.one (hS.wd.cellBox j hb.at' hu.at') (by simp [World.frozen?, hbx])
  have hw' := hS.wd.setBox j (o := o) v hb.at'
  rw [hs.set', hH.set'] at hw'
  exact ⟨w.setCell ⟨b, o, none⟩ v, by simp [execOp, hx.eq _ _ _ hS.fr, hy.eq _ _ _ hS.fr, this], hw'.sub hHr, kk _ _ ⟨hS.fr, hw'⟩⟩
theorem h_storeAgg {ty T b o j t n : Nat} (i : Nat) [h : AggSize P T n] {cs vs cs' : List Value} {pos : String} {aft : Array Go.Edge} [ho : ListAt l i ⟨none, .store T x y, ty, pos, aft, none⟩]
    [hx : Ev L x (.pointer (some ⟨b, o, none⟩))] [hy : Ev L y (.agg vs.toArray)] [hb : BoxIn H b j cs t] [hn : LenIs vs n] [hp : PutAt cs o vs cs'] [h1 : OneVs vs] [hH : SetAt H j (Ent.box b cs' t) H']
    (hr : decide (Region.ready .any l.toArray listed = [i]) = true) (hHr : Hr.Sublist H')
    (kk : G N ds S w0 L H' (wpAnyH P .any l.toArray (OnlyN M) (Wd S w0 Hr) fuel (listed.setIfInBounds i true))) : G N ds S w0 L H (wpAnyH P .any l.toArray (OnlyN M) (Wd S w0 Hr) (fuel + 1) listed) := by
  refine h_skip i rfl hr fun a w hS => ?_
  have hbx := hS.wd.boxAt j hb.at'
  have hs := run_storeCells_at P b o t vs 0 cs.toArray w hbx (by simpa using hp.le) h1.all
  have e : (cs.toArray.toList.take (o + 0) ++ vs ++ cs.toArray.toList.drop (o + 0 + vs.length)).toArray = cs'.toArray := by
    rw [← hp.eq, ← putL_eq cs o vs hp.le]
    simp
  rw [e] at hs
  have hw' := hS.wd.rowBox j cs' hb.at'
  rw [hH.set'] at hw'
  exact ⟨w.setRow b cs'.toArray, by simp [execOp, hx.eq _ _ _ hS.fr, hy.eq _ _ _ hS.fr, Instr.storeAt, Instr.sureAddr, storeVar, h.sz, Value.cells, hn.eq, hs], hw'.sub hHr, kk _ _ ⟨hS.fr, hw'⟩⟩
/-- all is done -/
theorem h_end (hr : (Region.ready .any l.toArray listed).isEmpty = true) (k : G N ds S w0 L H M) : G N ds S w0 L H (wpAnyH P .any l.toArray (OnlyN M) (Wd S w0 Hr) fuel listed) := fun a w hS => wpAnyH_done (List.isEmpty_iff.1 hr) (k a w hS) _
end
end Go.Proofs.YtbmnkjaelfjlhaaDoor


/- turneryref3.LiveAt, live.lists, live.In, live.Out: what they return. -/
namespace Go.Proofs.YtbmnkjaelfjlhaaDoor
open Go Go.RowKit
attribute [local irreducible] wpListIn Code.wpIn Exit.then Exit.inBlock bodyPost wpQuiet wpAnyIn wpAnyH
set_option maxHeartbeats 4000000

end Go.Proofs.YtbmnkjaelfjlhaaDoor


/- live.In and live.Out: what they return. -/
namespace Go.Proofs.YtbmnkjaelfjlhaaDoor
open Go Go.RowKit
attribute [local irreducible] wpListIn Code.wpIn Exit.then Exit.inBlock bodyPost wpQuiet wpAnyIn wpAnyH
set_option maxHeartbeats 4000000

theorem check_args {u : LUnit} (h : (checkL u).1 = 0) {k : Nat} {X : LFunc} (hX : u.funcs[k]? = some X) : ∀ B ∈ X.blocks, ∀ x ∈ B.list, x.args.length ≤ 1000 := fun B hB x hx => by
  have hb := check_bodies h X (List.mem_of_getElem? hX)
  obtain ⟨b, hbB⟩ := List.getElem?_of_mem hB
  unfold bodyErr at hb
  split at hb
  · rename_i h1; exact absurd hb h1
  have hb := firstI_zero hb b (List.getElem?_eq_some_iff.1 hbB).1
  simp only [blockErr, hbB] at hb
  split at hb
  · rename_i h2; exact absurd hb h2
  have hi := at0_all hb x hx
  by_cases e : x.op = 20
  · unfold insErr at hi
    split at hi
    · cases hi
    split at hi
    · cases hi
    split at hi
    · rename_i h3
      simp only [Bool.and_eq_true, Bool.not_eq_true', decide_eq_false_iff_not] at h3
      exact absurd hi h3.2
    split at hi
    · rename_i h4; exact absurd hi h4
    split at hi
    · rename_i h5; exact absurd hi h5
    unfold callErr at hi
    rw [if_neg (by simpa using e)] at hi
    split at hi
    · cases hi
    rename_i h6
    split at hi
    · cases hi
    rename_i h7
    simp only [within, Bool.not_eq_true', Bool.and_eq_false_iff, decide_eq_false_iff_not, not_or, Decidable.not_not] at h6
    simp only [ne_eq, Decidable.not_not, at0] at h7
    split at h7
    · rename_i Y hY
      have := check_head h hY
      omega
    · omega
  · rw [(insErr_ok (R := X.regs.toNat) (fs := u.funcs) (by rw [Int.toNat_of_nonneg (by have := check_head h hX; omega)]; exact hi)).args e]
    simp
theorem light_lens {X : LFunc} (h : lightF X) : ∀ B ∈ X.blocks, B.list.length ≤ 1000 ∧ B.phis.length ≤ 1000 := fun B hB => by
  have h1 : ((B.phis.length + B.list.length : Nat) : Int) ≤ sizeOfBs X.blocks := by
    unfold sizeOfBs
    generalize X.blocks = l at hB
    induction l with
    | nil => cases hB
    | cons C l ih =>
      have hnn : ∀ m : List LBlock, 0 ≤ (m.map fun b => ((b.phis.length + b.list.length : Nat) : Int)).sum := fun m => by
        induction m with
        | nil => simp
        | cons D m ih => simp only [List.map_cons, List.sum_cons]; omega
      simp only [List.map_cons, List.sum_cons]
      rcases List.mem_cons.1 hB with rfl | hB
      · have := hnn l; omega
      · have := ih hB; omega
  have := h.2
  omega
end Go.Proofs.YtbmnkjaelfjlhaaDoor


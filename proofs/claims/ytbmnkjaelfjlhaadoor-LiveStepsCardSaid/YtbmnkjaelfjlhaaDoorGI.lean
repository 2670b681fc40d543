/- Texts joined: LiveD LiveE LiveF LiveG LiveH HeldB LiveI LiveJ. -/
import Derived.Test.YtbmnkjaelfjlhaaDoorGD
import Derived.Test.YtbmnkjaelfjlhaaDoorGE
import Derived.Test.YtbmnkjaelfjlhaaDoorGF
/- live.AllOf: what it returns. -/
namespace Go.Proofs.YtbmnkjaelfjlhaaDoor
open Go Go.RowKit
attribute [local irreducible] wpListIn Code.wpIn Exit.then Exit.inBlock bodyPost wpQuiet wpAnyIn bodyPostM
set_option maxHeartbeats 4000000

structure RowB where
  a : Option Addr
  c : Nat
  l : List Bool
def valS (R : Nat) (r : RowB) : Value := .slice r.a R r.c
def entS (R : Nat) (r : RowB) : Ent := vecB r.a R r.c r.l
theorem sets_sl {S : Nat → Prop} {w0 w : World} {R : Nat} {rs : List RowB} {a : Option Addr} {n c e : Nat} {H : List Ent} (h : Wd S w0 (Ent.vec a n c e 1 (rs.map (valS R)) :: (rs.map (entS R) ++ H)) w) (hn : n = rs.length) (hb : n ≤ 1000) (hR : R ≤ 1000) (hl : ∀ r ∈ rs, r.l.length = R) :
    SlAt w (.slice a n c) 1 (rs.map (·.l)) SetV := by
  refine h.slAt (k := 0) rfl (by simpa using hn) (by omega) fun i x hx => ?_
  rw [List.getElem?_map] at hx
  obtain ⟨r, hr, rfl⟩ := Option.map_eq_some_iff.1 hx
  have hlt : i < rs.length := (List.getElem?_eq_some_iff.1 hr).1
  have hb' := hl r (List.mem_of_getElem? hr)
  refine ⟨[valS R r], fun j v hj => ?_, valS R r, rfl, ?_⟩
  · match j, hj with
    | 0, hj => simpa [hr] using hj
  · refine h.slAt (k := i + 1) (a := r.a) (n := R) (c := r.c) (e := 4) (s := 1) (xs := r.l.map .bool) ?_ hb'.symm (by omega) fun j y hy => ⟨[.bool y], fun k v hk => ?_, rfl⟩
    · rw [List.getElem?_cons_succ, List.getElem?_append_left (by simpa using hlt), List.getElem?_map, hr]; rfl
    · match k, hk with
      | 0, hk => simpa [hy] using hk
theorem set_sl {S : Nat → Prop} {w0 w : World} {R : Nat} {rs : List RowB} {E H : List Ent} (h : Wd S w0 (E ++ (rs.map (entS R) ++ H)) w) {i : Nat} {r : RowB} (hr : rs[i]? = some r) (hR : R ≤ 1000) (hl : r.l.length = R) : SlAt w (valS R r) 1 r.l BoolV := by
  have hlt : i < rs.length := (List.getElem?_eq_some_iff.1 hr).1
  refine h.slAt (k := E.length + i) (a := r.a) (n := R) (c := r.c) (e := 4) (s := 1) (xs := r.l.map .bool) ?_ hl.symm (by omega) fun j y hy => ⟨[.bool y], fun k v hk => ?_, rfl⟩
  · rw [List.getElem?_append_right (by omega), show E.length + i - E.length = i by omega, List.getElem?_append_left (by simpa using hlt), List.getElem?_map, hr]; rfl
  · match k, hk with
    | 0, hk => simpa [hy] using hk
/-- rounds over instructions, from the last to the first -/
abbrev InsA (R : Nat) (wz : World) : Type := { y : Int × LIns × (Option Addr × Nat × Nat) // InsOk R y.2.1 ∧ y.2.1.args.length ≤ 1000 ∧ SlAt wz (.slice y.2.2.1 y.2.2.2.1 y.2.2.2.2) 2 y.2.1.args ValV }
def insC (x : LIns) (v : Option Addr × Nat × Nat) : List Value := [.int .i64 x.op, .int .i64 x.dst, .bool x.a.reg, .int .i64 x.a.n, .bool x.b.reg, .int .i64 x.b.n, .int .i64 x.fn, .slice v.1 v.2.1 v.2.2]
def InsA.enc {R : Nat} {wz : World} (y : InsA R wz) : Int × List Value := (y.1.1, insC y.1.2.1 y.1.2.2)
/-- a list, each element with what is told of it -/
theorem list_pick {α β : Type} {p : Nat → α → β → Prop} : ∀ (l : List α), (∀ i x, l[i]? = some x → ∃ y, p i x y) → ∃ ys : List β, ys.length = l.length ∧ ∀ i x, l[i]? = some x → ∃ y, ys[i]? = some y ∧ p i x y := by
  intro l h
  classical
  refine ⟨(List.range l.length).attach.map fun i => Classical.choose (h i.1 (l[i.1]'(by have := i.2; simpa using this)) (List.getElem?_eq_getElem _)), by simp, fun i x hx => ?_⟩
  have hlt := (List.getElem?_eq_some_iff.1 hx).1
  have hx2 := (List.getElem?_eq_some_iff.1 hx).2
  refine ⟨_, by rw [List.getElem?_eq_getElem (by simpa using hlt)], ?_⟩
  simp only [List.getElem_map, List.getElem_attach, List.getElem_range]
  have := Classical.choose_spec (h i (l[i]'hlt) (List.getElem?_eq_getElem _))
  simpa [hx2] using this
theorem insA_ex {R : Nat} {wz : World} {b o : Nat} {l : List LIns} (hok : ∀ x ∈ l, InsOk R x) (hargs : ∀ x ∈ l, x.args.length ≤ 1000) (hel : ∀ i x, l[i]? = some x → ∃ cs, CellsAt wz b (o + i * 8) cs ∧ InsV wz x cs) :
    ∃ (zs : List (List Value)) (xs : List (InsA R wz)), zs.length = l.length ∧ (∀ z ∈ zs, z.length = 8) ∧ xs.map InsA.enc = downL zs zs.length ∧ xs.map (·.1.2.1) = l.reverse ∧ ∀ m z, zs[m]? = some z → ∀ j v, z[j]? = some v → wz.cell? ⟨b, o + m * 8 + j, none⟩ = some v := by
  obtain ⟨ys, hyl, hys⟩ := list_pick (p := fun i x (v : Option Addr × Nat × Nat) => CellsAt wz b (o + i * 8) (insC x v) ∧ SlAt wz (.slice v.1 v.2.1 v.2.2) 2 x.args ValV) l fun i x hx => by
    obtain ⟨cs, hc, v, rfl, _, _, _, _, _, hs⟩ := hel i x hx
    have hs0 := hs
    obtain ⟨va, vn, vc, _, _, rfl, _⟩ := hs
    exact ⟨(va, vn, vc), hc, hs0⟩
  have hex : ∀ k, k ≤ l.length → ∃ xs : List (InsA R wz), xs.map InsA.enc = downL ((List.range l.length).map fun i => insC (l[i]?.getD ⟨0, 0, noV, noV, 0, []⟩) (ys[i]?.getD (none, 0, 0))) k ∧ xs.map (·.1.2.1) = l.reverse.take k := by
    intro k
    induction k with
    | zero => exact fun _ => ⟨[], by simp [downL], by simp⟩
    | succ k ih =>
      intro hk
      obtain ⟨xs, h1, h2⟩ := ih (by omega)
      obtain ⟨x, hx⟩ : ∃ x, l[l.length - 1 - k]? = some x := ⟨_, List.getElem?_eq_getElem (by omega)⟩
      obtain ⟨v, hv, hc, hs⟩ := hys _ x hx
      refine ⟨xs ++ [⟨(((l.length - 1 - k : Nat) : Int), x, v), hok x (List.mem_of_getElem? hx), hargs x (List.mem_of_getElem? hx), hs⟩], ?_, ?_⟩
      · rw [List.map_append, h1]
        simp only [downL, List.range_succ, List.map_append, List.map_cons, List.map_nil, List.length_map, List.length_range]
        congr 1
        have hlt : l.length - 1 - k < l.length := by omega
        simp only [InsA.enc, List.getElem?_map, List.getElem?_range hlt, Option.map_some, Option.getD_some, hx, hv]
      · rw [List.map_append, h2, List.take_add_one, List.getElem?_reverse (by omega), hx]; rfl
  obtain ⟨xs, h1, h2⟩ := hex l.length (Nat.le_refl _)
  refine ⟨(List.range l.length).map fun i => insC (l[i]?.getD ⟨0, 0, noV, noV, 0, []⟩) (ys[i]?.getD (none, 0, 0)), xs, by simp, fun z hz => ?_, by simpa using h1, by rw [h2, List.take_of_length_le (by simp)], fun m z hz j v hj => ?_⟩
  · obtain ⟨i, _, rfl⟩ := List.mem_map.1 hz
    rfl
  · rw [List.getElem?_map] at hz
    obtain ⟨i, hi, rfl⟩ := Option.map_eq_some_iff.1 hz
    have hlt : m < l.length := by have := (List.getElem?_eq_some_iff.1 hi).1; simpa using this
    rw [List.getElem?_range hlt] at hi
    simp only [Option.some.injEq] at hi
    subst hi
    obtain ⟨x, hx⟩ : ∃ x, l[m]? = some x := ⟨_, List.getElem?_eq_getElem hlt⟩
    obtain ⟨v', hv', hc, _⟩ := hys m x hx
    rw [hx, hv'] at hj
    exact hc j v hj
theorem backInsStops {R : Nat} {own : Nat → Prop} {wz w : World} {Bs n c b o : Nat} {a : Option Addr} {zs : List (List Value)} {xs : List (InsA R wz)} (hn : n = zs.length) (ha : zs ≠ [] → a = some ⟨b, o, none⟩) (hlen : zs.length ≤ 100000) (h8 : ∀ z ∈ zs, z.length = 8)
    (hcell : ∀ m z, zs[m]? = some z → ∀ j v, z[j]? = some v → wz.cell? ⟨b, o + m * 8 + j, none⟩ = some v) (hown : ∀ p v, wz.cell? p = some v → ¬ own p.block) (hBo : ¬ own Bs) (hz0 : ∀ p v, wz.cell? p = some v → w.cell? p = some v) (hB : w.cell? ⟨Bs, 0, none⟩ = some (.slice a n c)) (hxs : xs.map InsA.enc = downL zs zs.length) :
    SeqStopsK (FW none) 4 Tryd.prog 143 #[.pointer (some ⟨Bs, 0, none⟩)] (fun x : InsA R wz => #[.int .i64 (InsA.enc x).1, .agg (InsA.enc x).2.toArray]) (KeepX own) (fun ys => ys = xs) (fun pre => pre <+: xs) xs.length w := by
  intro l J Jx W hW _ _ hY h0
  have hxl : xs.length = zs.length := by have := congrArg List.length hxs; rwa [List.length_map, downL_length] at this
  subst hn
  have hcW : ∀ p v, w.cell? p = some v → W.cell? p = some v := fun p v hp => (hW.cell (World.block_lt_of_cell? w _ hp)).trans hp
  refine backIns1_in 4 (by omega) InsA.enc l Bs b o c (fun b => ¬ own b) (KeepX own) (KeepX.refl own) (fun _ _ _ h k => h.trans k) (fun A B h p v hp hc => h.cell hp hc) zs xs hxs hlen (fun hne => ?_) hBo J Jx a (fun hne => ha hne) (fun pre x W1 hJ hl => hY pre x W1 hJ (by omega)) W (hcW _ _ hB) h8 (fun m z hz j v hj => hcW _ _ (hz0 _ _ (hcell m z hz j v hj))) h0
  obtain ⟨z, hz⟩ : ∃ z, zs[0]? = some z := ⟨_, List.getElem?_eq_getElem (List.length_pos_iff.2 hne)⟩
  have hz8 := h8 z (List.mem_of_getElem? hz)
  obtain ⟨v, hv⟩ : ∃ v, z[0]? = some v := ⟨_, List.getElem?_eq_getElem (by omega)⟩
  exact hown _ v (hcell 0 z hz 0 v hv)
end Go.Proofs.YtbmnkjaelfjlhaaDoor


/- live.AllOf, walked. -/
namespace Go.Proofs.YtbmnkjaelfjlhaaDoor
open Go Go.RowKit
attribute [local irreducible] wpListIn Code.wpIn Exit.then Exit.inBlock bodyPost wpQuiet wpAnyIn bodyPostM
set_option maxHeartbeats 8000000

/-- how much is not yet in -/
def missing (rs : List RowB) : Nat := (rs.map fun r => unseen r.l).sum
theorem missing_set {rs : List RowB} {b : Nat} {r r' : RowB} (h : rs[b]? = some r) : missing (rs.set b r') + unseen r.l = missing rs + unseen r'.l := by
  unfold missing
  induction rs generalizing b with
  | nil => simp at h
  | cons x rs ih =>
    cases b with
    | zero =>
      simp only [List.getElem?_cons_zero, Option.some.injEq] at h
      subst h
      simp only [List.set_cons_zero, List.map_cons, List.sum_cons]
      omega
    | succ b =>
      have := ih (by simpa using h)
      simp only [List.set_cons_succ, List.map_cons, List.sum_cons] at this ⊢
      omega
theorem unseen_less : ∀ {l m : List Bool}, l.length = m.length → (∀ r, has l r → has m r) → l ≠ m → unseen m < unseen l
  | [], [], _, _, h => absurd rfl h
  | [], _ :: _, h, _, _ => by simp at h
  | _ :: _, [], h, _, _ => by simp at h
  | x :: l, y :: m, h, hs, hne => by
    have hl : l.length = m.length := by simpa using h
    have ht : ∀ r, has l r → has m r := fun r hr => by have := hs (r + 1); simpa [has] using this (by simpa [has] using hr)
    have h0 := hs 0
    simp only [has, List.getElem?_cons_zero, Option.some.injEq] at h0
    by_cases e : l = m
    · subst e
      cases x <;> cases y <;> simp_all [unseen]
    · have := unseen_less hl ht e
      cases x <;> cases y <;> simp_all [unseen] <;> omega
/-- what the sets of a function tell: no more than is live, and each told by the others -/
structure LiveI (R : Nat) (bl : List LBlock) (rs : List RowB) : Prop where
  len : rs.length = bl.length
  row : ∀ r ∈ rs, r.l.length = R
  pre : ∀ b r, inOf (rs.map (·.l)) b r → Head bl (inOf (rs.map (·.l))) b r
  sound : ∀ b r, inOf (rs.map (·.l)) b r → LiveS bl r b (-1)
theorem inOf_get {rs : List RowB} {b r : Nat} {q : RowB} (h : rs[b]? = some q) : inOf (rs.map (·.l)) b r ↔ has q.l r := by
  unfold inOf
  rw [List.getElem?_map, h]
  simp
theorem inOf_set {rs : List RowB} {b t r : Nat} {q : RowB} (hb : b < rs.length) : inOf ((rs.set b q).map (·.l)) t r ↔ (if t = b then has q.l r else inOf (rs.map (·.l)) t r) := by
  unfold inOf
  rw [List.getElem?_map, List.getElem?_set]
  by_cases e : b = t
  · subst e
    rw [if_pos rfl, if_pos hb, if_pos rfl]
    simp
  · rw [if_neg e, if_neg (Ne.symm e), List.getElem?_map]
theorem LiveI.upd {R : Nat} {bl : List LBlock} {rs : List RowB} {b : Nat} {q : RowB} (h : LiveI R bl rs) (hb : b < rs.length) (hq : q.l.length = R) (hh : ∀ r, has q.l r ↔ Head bl (inOf (rs.map (·.l))) b r) : LiveI R bl (rs.set b q) := by
  have up : ∀ t r, inOf (rs.map (·.l)) t r → inOf ((rs.set b q).map (·.l)) t r := fun t r hr => by
    rw [inOf_set hb]
    by_cases e : t = b
    · subst e
      rw [if_pos rfl, hh r]
      exact h.pre t r hr
    · rw [if_neg e]; exact hr
  refine ⟨by rw [List.length_set]; exact h.len, fun r hr => ?_, fun t r hr => ?_, fun t r hr => ?_⟩
  · rcases List.mem_or_eq_of_mem_set hr with hr | rfl
    · exact h.row r hr
    · exact hq
  · rw [inOf_set hb] at hr
    by_cases e : t = b
    · subst e
      rw [if_pos rfl, hh r] at hr
      exact hr.mono up
    · rw [if_neg e] at hr
      exact (h.pre t r hr).mono up
  · rw [inOf_set hb] at hr
    by_cases e : t = b
    · subst e
      rw [if_pos rfl, hh r] at hr
      exact head_live h.sound hr
    · rw [if_neg e] at hr
      exact h.sound t r hr
/-- what AllOf hands back -/
structure AllR (R : Nat) (bl : List LBlock) (ins outs : List RowB) : Prop where
  inLen : ins.length = bl.length
  outLen : outs.length = bl.length
  inRow : ∀ r ∈ ins, r.l.length = R
  outRow : ∀ r ∈ outs, r.l.length = R
  inAt : ∀ b q r, ins[b]? = some q → (has q.l r ↔ LiveS bl r b (-1))
  outAt : ∀ b q r B, outs[b]? = some q → bl[b]? = some B → (has q.l r ↔ LiveS bl r b (B.list.length + 1))
theorem allR_of {R : Nat} {bl : List LBlock} {ins outs : List RowB} (h : LiveI R bl ins) (ho : outs.length = bl.length) (hor : ∀ r ∈ outs, r.l.length = R) (hc : ∀ b, b < bl.length → ∀ r, Head bl (inOf (ins.map (·.l))) b r → inOf (ins.map (·.l)) b r) (hb : ∀ b q r, outs[b]? = some q → (has q.l r ↔ Beh bl (inOf (ins.map (·.l))) b r)) : AllR R bl ins outs := by
  have hcl : ∀ r b, Head bl (inOf (ins.map (·.l))) b r → inOf (ins.map (·.l)) b r := fun r b hh => by
    obtain ⟨B, hB, _⟩ := id hh
    exact hc b (List.getElem?_eq_some_iff.1 hB).1 r hh
  refine ⟨h.len, ho, h.row, hor, fun b q r hq => ?_, fun b q r B hq hB => ?_⟩
  · rw [← inOf_get hq]
    refine ⟨h.sound b r, fun hl => ?_⟩
    obtain ⟨B, hB⟩ : ∃ B, bl[b]? = some B := ⟨_, List.getElem?_eq_getElem (by have := (List.getElem?_eq_some_iff.1 hq).1; rw [← h.len]; exact this)⟩
    exact (live_closed (fun b => hcl r b) hl B hB).1 rfl
  · rw [hb b q r hq]
    refine ⟨fun hh => beh_live h.sound hB (.inr rfl) hh, fun hl => ?_⟩
    exact (live_closed (fun b => hcl r b) hl B hB).2.2 rfl
theorem g_wd {N : Nat} {ds : List Deferred} {S : Nat → Prop} {w0 : World} {L : List (Nat × Value)} {H H' : List Ent} {p : Act → World → Prop} (h : ∀ w, Wd S w0 H w → Wd S w0 H' w) (k : G N ds S w0 L H' p) : G N ds S w0 L H p := fun a w hS => k a w ⟨hS.fr, h w hS.wd⟩
theorem perm_two {α : Type} (m r : α) (X O M : List α) : (m :: r :: (X ++ (O ++ M))).Perm (X ++ ((O ++ [r]) ++ (m :: M))) := by
  have h1 : X ++ ((O ++ [r]) ++ (m :: M)) = (X ++ O) ++ r :: (m :: M) := by simp [List.append_assoc]
  rw [h1, ← List.append_assoc]
  exact (List.Perm.swap _ _ _).trans (((List.perm_middle (l₁ := X ++ O) (a := m) (l₂ := M)).symm.cons r).trans (List.perm_middle (l₁ := X ++ O) (a := r) (l₂ := m :: M)).symm)
theorem wd_put {S : Nat → Prop} {w0 w : World} {e old : Ent} {X I Y : List Ent} {b : Nat} (h : Wd S w0 (e :: (X ++ (I ++ Y))) w) (hb : I[b]? = some old) : Wd S w0 (X ++ (I.set b e ++ Y)) w := by
  have h1 : Wd S w0 (e :: (X ++ (I.eraseIdx b ++ Y))) w := h.sub (List.Sublist.cons_cons _ (List.Sublist.append_left (List.Sublist.append_right (List.eraseIdx_sublist I b) Y) X))
  refine h1.perm ((List.perm_middle (l₁ := X) (a := e) (l₂ := I.eraseIdx b ++ Y)).symm.trans ?_)
  exact List.Perm.append_left X (List.Perm.append_right Y (perm_set hb e))
theorem allOf_c (nm pa : Value) (R : Nat) (hR : R ≤ 100) (bl : List LBlock) (bs : Value) (w0 : World) (hbs : SlAt w0 bs 6 bl BlockV) (hlen : bl.length ≤ 100) (hf : FuncOk R bl) (hargs : ∀ B ∈ bl, ∀ x ∈ B.list, x.args.length ≤ 1000) (hlist : ∀ B ∈ bl, B.list.length ≤ 1000 ∧ B.phis.length ≤ 1000) :
    Ret Tryd.prog 67 [.agg #[nm, pa, .int .i64 R, bs]] w0 fun u w' => ∃ x : (Option Addr × Nat × List RowB) × (Option Addr × Nat × List RowB), u = .tuple #[.slice x.1.1 bl.length x.1.2.1, .slice x.2.1 bl.length x.2.2.1] ∧
      Wd NoS w0 (Ent.vec x.1.1 bl.length x.1.2.1 146 1 (x.1.2.2.map (valS R)) :: Ent.vec x.2.1 bl.length x.2.2.1 146 1 (x.2.2.2.map (valS R)) :: (x.1.2.2.map (entS R) ++ x.2.2.2.map (entS R))) w' ∧ AllR R bl x.1.2.2 x.2.2.2 := by
  have hbs0 := hbs
  have hok := hf.good
  obtain ⟨ba, n, bc, bb, bo', rfl, hn, hnc, hnb, hbc, hba, hel⟩ := hbs
  rw [← hn] at hlen ⊢
  refine ret_enterM Tryd.func67 rfl Tryd.ntmps67 rfl (Wd.nil NoS w0) ?_
  repeat (first | refine g_op rfl ?_ | refine g_then ?_ | refine g_nil ?_ | refine g_region ?_ | refine g_seq ?_ | refine g_box rfl fun _ _ => ?_)
  rename_i p1 _
  refine g_callE (val := fun x : (Option Addr × Nat × Nat) × (Nat → Prop) => .slice x.1.1 x.1.2.1 x.1.2.2) (E := fun x => [⟨x.2, fun w => SlAt w (.slice x.1.1 x.1.2.1 x.1.2.2) 1 (aheadL bl) RowV⟩]) (φ := fun _ => True) rfl (fun w hw => graphAhead_c _ _ _ bl _ w (hbs0.keep keeps_block hw.chg) (by omega) hok) fun x _ => ?_
  obtain ⟨⟨aa, an, ac⟩, fp⟩ := x
  simp only [List.cons_append, List.nil_append]
  repeat (first | refine g_op rfl ?_ | refine g_then ?_ | refine g_nil ?_ | refine g_region ?_ | refine g_seq ?_ | refine g_block ?_)
  refine g_nilVec 146 1 ?_
  refine g_loop (fun (x : Option Addr × Nat × List RowB) => x.2.2.length ≤ n ∧ ∀ r ∈ x.2.2, r.l = List.replicate R false) (fun x => [(17, .int .i64 x.2.2.length), (16, .int .i64 n), (2, .slice x.1 x.2.2.length x.2.1), (3, .slice none 0 0), (4, .slice aa an ac), (1, .pointer (some ⟨p1, 0, none⟩))])
    (fun x => ⟨fp, fun w => SlAt w (.slice aa an ac) 1 (aheadL bl) RowV⟩ :: Ent.box p1 [nm, pa, .int .i64 R, .slice ba n bc] 35 :: Ent.vec x.1 x.2.2.length x.2.1 146 1 (x.2.2.map (valS R)) :: x.2.2.map (entS R)) (fun x => n - x.2.2.length) (none, 0, []) ⟨Nat.zero_le _, by simp⟩ ?_ fun x ⟨hi, hall⟩ => ?_
  · refine g_sel [1, 2, 0] (by decide) ?_
    exact g_done (by repeat (first | exact trivial | refine ⟨rfl, ?_⟩)) (List.Sublist.refl _)
  obtain ⟨ia, ic, ins⟩ := x
  simp only at hi hall ⊢
  repeat (first | refine g_op rfl ?_ | refine g_then ?_ | refine g_nil ?_ | refine g_region ?_ | refine g_seq ?_)
  refine g_cond (fun h1 => ?_) (fun h1 => ?_)
  · have hlt : ins.length < n := by simpa using h1
    repeat (first | refine g_op rfl ?_ | refine g_then ?_ | refine g_region ?_ | refine g_seq ?_ | refine g_block ?_ | refine g_skip ?_ | refine g_build1 rfl rfl fun _ _ => ?_ | refine g_make rfl (by omega) (by omega) fun _ _ => ?_)
    rename_i pr _ bt _
    refine g_append rfl rfl (by omega) (by omega) fun a' c' => ?_
    rw [show List.replicate R (Value.bool false) = (List.replicate R false).map Value.bool by simp]
    refine g_fix (L' := [(24, .slice a' (ins.length + 1) c'), (17, .int .i64 ins.length), (16, .int .i64 n), (3, .slice none 0 0), (4, .slice aa an ac), (1, .pointer (some ⟨p1, 0, none⟩))]) (by repeat (first | exact trivial | refine ⟨rfl, ?_⟩)) (List.Sublist.cons _ (List.Sublist.refl _)) ?_
    refine g_permH (List.perm_append_singleton _ _).symm ?_
    refine g_eqH (H1 := ⟨fp, fun w => SlAt w (.slice aa an ac) 1 (aheadL bl) RowV⟩ :: Ent.box p1 [nm, pa, .int .i64 R, .slice ba n bc] 35 :: Ent.vec a' (ins ++ [(⟨some ⟨pr, 0, none⟩, R, List.replicate R false⟩ : RowB)]).length c' 146 1 ((ins ++ [(⟨some ⟨pr, 0, none⟩, R, List.replicate R false⟩ : RowB)]).map (valS R)) :: (ins ++ [(⟨some ⟨pr, 0, none⟩, R, List.replicate R false⟩ : RowB)]).map (entS R)) (by simp [valS, entS, vecB]) ?_
    repeat (first | refine g_op rfl ?_ | refine g_then ?_ | refine g_nil ?_ | refine g_region ?_ | refine g_opS rfl ?_ | refine g_inBlock ?_ | refine g_add rfl (by omega) (by omega) ?_)
    refine g_next (a', c', ins ++ [(⟨some ⟨pr, 0, none⟩, R, List.replicate R false⟩ : RowB)]) ⟨by simp; omega, fun r hr => ?_⟩ (by simp; omega) ?_ (List.Sublist.refl _)
    · rcases List.mem_append.1 hr with hr | hr
      · exact hall r hr
      · simp only [List.mem_singleton] at hr; subst hr; rfl
    · simp only [List.length_append, List.length_singleton, Int.natCast_add]
      exact (by repeat (first | exact trivial | refine ⟨rfl, ?_⟩))
  have hge : ins.length = n := by have := h1; simp at this; omega
  have hL0 : LiveI R bl ins := by
    have hno : ∀ b r, ¬ inOf (ins.map (·.l)) b r := fun b r ⟨s, hs, h⟩ => by
      rw [List.getElem?_map] at hs
      obtain ⟨q, hq, rfl⟩ := Option.map_eq_some_iff.1 hs
      rw [hall q (List.mem_of_getElem? hq)] at h
      unfold has at h
      rw [List.getElem?_replicate] at h
      split at h <;> simp at h
    exact ⟨by omega, fun r hr => by rw [hall r hr]; simp, fun b r h => absurd h (hno b r), fun b r h => absurd h (hno b r)⟩
  rw [hge]
  repeat (first | refine g_op rfl ?_ | refine g_then ?_ | refine g_nil ?_ | refine g_region ?_ | refine g_seq ?_ | refine g_block ?_ | refine g_exit ?_ | refine g_thenExit ?_ | refine g_exitHere ?_)
  refine g_nilVec 146 1 ?_
  clear hall
  refine g_loopD (fun x : Bool × List RowB × (Option Addr × Nat × List RowB) × List Nat => dsOf x.2.2.2) (fun x => LiveI R bl x.2.1 ∧ (x.1 = false → AllR R bl x.2.1 x.2.2.1.2.2)) (fun x => [(5, .bool x.1), (2, .slice ia n ic), (3, .slice x.2.2.1.1 x.2.2.1.2.2.length x.2.2.1.2.1), (4, .slice aa an ac), (1, .pointer (some ⟨p1, 0, none⟩))])
    (fun x => ⟨fp, fun w => SlAt w (.slice aa an ac) 1 (aheadL bl) RowV⟩ :: Ent.box p1 [nm, pa, .int .i64 R, .slice ba n bc] 35 :: Ent.vec ia n ic 146 1 (x.2.1.map (valS R)) :: Ent.vec x.2.2.1.1 x.2.2.1.2.2.length x.2.2.1.2.1 146 1 (x.2.2.1.2.2.map (valS R)) :: (x.2.1.map (entS R) ++ (x.2.2.1.2.2.map (entS R) ++ marks x.2.2.2))) (fun x => missing x.2.1 * 2 + (if x.1 then 1 else 0)) (true, ins, (none, 0, []), []) rfl ⟨hL0, by simp⟩ ?_ fun x ⟨hL, hA⟩ => ?_
  · refine g_permH (H1 := ⟨fp, fun w => SlAt w (.slice aa an ac) 1 (aheadL bl) RowV⟩ :: Ent.box p1 [nm, pa, .int .i64 R, .slice ba n bc] 35 :: Ent.vec ia n ic 146 1 (ins.map (valS R)) :: Ent.vec none 0 0 146 1 [] :: ins.map (entS R)) ?_ ?_
    · exact (List.perm_middle (l₁ := [⟨fp, fun w => SlAt w (.slice aa an ac) 1 (aheadL bl) RowV⟩, Ent.box p1 [nm, pa, .int .i64 R, .slice ba n bc] 35, Ent.vec ia n ic 146 1 (ins.map (valS R))]) (a := Ent.vec none 0 0 146 1 []) (l₂ := ins.map (entS R))).symm
    · exact g_done (by repeat (first | exact trivial | refine ⟨rfl, ?_⟩)) (by simp [marks])
  clear hL0 hge hi h1
  obtain ⟨more, ins, ⟨oa, oc, outs⟩, Ds⟩ := x
  simp only at hL hA ⊢
  cases more
  case false =>
    have hA := hA rfl
    have hon : outs.length = n := by rw [hA.outLen, hn]
    repeat (first | refine g_op rfl ?_ | refine g_then ?_ | refine g_nil ?_ | refine g_region ?_ | refine g_seq ?_ | refine g_opS rfl ?_ | refine g_condF ?_ | refine g_exit ?_ | refine g_thenExit ?_ | refine g_exitHere ?_ | refine g_ret ?_)
    refine g_eqH (H1 := (⟨fp, fun w => SlAt w (.slice aa an ac) 1 (aheadL bl) RowV⟩ :: Ent.box p1 [nm, pa, .int .i64 R, .slice ba n bc] 35 :: Ent.vec ia n ic 146 1 (ins.map (valS R)) :: Ent.vec oa outs.length oc 146 1 (outs.map (valS R)) :: (ins.map (entS R) ++ outs.map (entS R))) ++ marks Ds) (by simp [List.append_assoc]) ?_
    refine g_permH List.perm_append_comm ?_
    refine g_retMs2 rfl fun w hw => ⟨((ia, ic, ins), (oa, oc, outs)), ?_, ?_, hA⟩
    · rw [hon]
    · rw [hon] at hw
      exact hw.sub (List.Sublist.cons _ (List.Sublist.cons _ (List.Sublist.refl _)))
  clear hA
  repeat (first | refine g_op rfl ?_ | refine g_then ?_ | refine g_nil ?_ | refine g_region ?_ | refine g_seq ?_ | refine g_opS rfl ?_ | refine g_block ?_ | refine g_skip ?_ | refine g_condT ?_)
  refine g_nilVec 146 1 ?_
  refine g_loopD (fun x : Bool × List RowB × (Option Addr × Nat × List RowB) × List Nat => dsOf x.2.2.2) (fun x => x.2.2.1.2.2.length ≤ n ∧ LiveI R bl x.2.1 ∧ (∀ r ∈ x.2.2.1.2.2, r.l.length = R) ∧ (x.1 = false → x.2.1 = ins ∧ (∀ b, b < x.2.2.1.2.2.length → ∀ r, Head bl (inOf (ins.map (·.l))) b r → inOf (ins.map (·.l)) b r) ∧ ∀ b q r, x.2.2.1.2.2[b]? = some q → (has q.l r ↔ Beh bl (inOf (ins.map (·.l))) b r)) ∧ (x.1 = true → missing x.2.1 < missing ins))
    (fun x => [(30, .int .i64 x.2.2.1.2.2.length), (29, .int .i64 n), (5, .bool x.1), (2, .slice ia n ic), (3, .slice x.2.2.1.1 x.2.2.1.2.2.length x.2.2.1.2.1), (4, .slice aa an ac), (1, .pointer (some ⟨p1, 0, none⟩))])
    (fun x => ⟨fp, fun w => SlAt w (.slice aa an ac) 1 (aheadL bl) RowV⟩ :: Ent.box p1 [nm, pa, .int .i64 R, .slice ba n bc] 35 :: Ent.vec ia n ic 146 1 (x.2.1.map (valS R)) :: Ent.vec x.2.2.1.1 x.2.2.1.2.2.length x.2.2.1.2.1 146 1 (x.2.2.1.2.2.map (valS R)) :: (x.2.1.map (entS R) ++ (x.2.2.1.2.2.map (entS R) ++ marks x.2.2.2))) (fun x => n - x.2.2.1.2.2.length) (false, ins, (none, 0, []), Ds) rfl ⟨Nat.zero_le _, hL, by simp, fun _ => ⟨rfl, by simp, by simp⟩, by simp⟩ ?_ fun x ⟨hob, hL', hor, hno, hyes⟩ => ?_
  · refine g_permH (H1 := ⟨fp, fun w => SlAt w (.slice aa an ac) 1 (aheadL bl) RowV⟩ :: Ent.box p1 [nm, pa, .int .i64 R, .slice ba n bc] 35 :: Ent.vec ia n ic 146 1 (ins.map (valS R)) :: Ent.vec none 0 0 146 1 [] :: Ent.vec oa outs.length oc 146 1 (outs.map (valS R)) :: (ins.map (entS R) ++ (outs.map (entS R) ++ marks Ds))) ?_ ?_
    · exact (List.perm_middle (l₁ := [⟨fp, fun w => SlAt w (.slice aa an ac) 1 (aheadL bl) RowV⟩, Ent.box p1 [nm, pa, .int .i64 R, .slice ba n bc] 35, Ent.vec ia n ic 146 1 (ins.map (valS R))]) (a := Ent.vec none 0 0 146 1 [])).symm
    · refine g_done (by repeat (first | exact trivial | refine ⟨rfl, ?_⟩)) ?_
      exact List.Sublist.cons_cons _ (List.Sublist.cons_cons _ (List.Sublist.cons_cons _ (List.Sublist.cons_cons _ (List.Sublist.cons _ (List.Sublist.append_left (List.sublist_append_right _ _) _)))))
  obtain ⟨more', ins', ⟨oa, oc, outs'⟩, Ds⟩ := x
  simp only at hob hL' hor hno hyes ⊢
  repeat (first | refine g_op rfl ?_ | refine g_then ?_ | refine g_nil ?_ | refine g_region ?_ | refine g_seq ?_)
  refine g_cond (fun h2 => ?_) (fun h2 => ?_)
  case refine_2 =>
    have hge2 : outs'.length = n := by have := h2; simp at this; omega
    repeat (first | refine g_then ?_ | refine g_inBlock ?_ | refine g_exit ?_ | refine g_thenExit ?_ | refine g_exitHere ?_)
    refine g_nextD (more', ins', (oa, oc, outs'), Ds) rfl ⟨hL', fun e => ?_⟩ ?_ (by repeat (first | exact trivial | refine ⟨rfl, ?_⟩)) (List.Sublist.refl _)
    · obtain ⟨e1, e2, e3⟩ := hno e
      subst e1
      refine allR_of hL' ?_ hor (fun b hb r h => e2 b (by omega) r h) e3
      show outs'.length = bl.length
      omega
    · cases more'
      · obtain ⟨e1, _⟩ := hno rfl
        subst e1
        simp
      · have := hyes rfl
        simp; omega
  have hbn : outs'.length < n := by simpa using h2
  generalize hbb : outs'.length = b at hbn h2
  repeat (first | refine g_op rfl ?_ | refine g_then ?_ | refine g_nil ?_ | refine g_region ?_ | refine g_seq ?_ | refine g_block ?_ | refine g_skip ?_)
  obtain ⟨B, hB⟩ := get_lt hn hbn
  have hBL : b < bl.length := by omega
  have had : AddrIs ba bb bo' := ⟨hba (ne_of_get hB)⟩
  have hli : LtIs b n := ⟨hbn⟩
  obtain ⟨cs, hcs, pv', lv, tv, rfl, _, _, hphis, hlv, ht⟩ := hel b B hB
  obtain ⟨xa, xn, xc, xb, xo, rfl, hxn, hxnc, hxnb, hxc, hxa, hxel⟩ := hphis
  obtain ⟨la, ln, lc, lb, lo, rfl, hln, hlnc, hlnb, hlc, hla, hlel⟩ := hlv
  obtain ⟨ta, tn, tc, _, _, rfl, _⟩ := ht
  have hci : CellsIs w0 bb (bo' + b * 6) _ := ⟨hcs⟩
  have hBo := hf.block b B hB
  have hil : ins'.length = n := by rw [hL'.len, hn]
  obtain ⟨q0, hq0⟩ : ∃ q0, ins'[b]? = some q0 := ⟨_, List.getElem?_eq_getElem (by omega)⟩
  -- behind the block
  refine g_callE (val := fun x : Nat × List Bool => .slice (some ⟨x.1, 0, none⟩) R R) (E := fun x => [vecB (some ⟨x.1, 0, none⟩) R R x.2]) (φ := fun x => x.2.length = R ∧ ∀ r, has x.2 r ↔ Beh bl (inOf (ins'.map (·.l))) b r) rfl
    (fun w hw => behindOf_c nm pa R hR bl _ b (ins'.map (·.l)) aa ia an ac ic w (hbs0.keep keeps_block hw.chg) n hn hf hBL (by rw [List.length_map, hil, hn]) (fun s hs => by obtain ⟨q, hq, rfl⟩ := List.mem_map.1 hs; exact hL'.row q hq) (hw.get (k := 0) rfl) (sets_sl (e := 146) (H := outs'.map (entS R) ++ marks Ds) (hw.sub (List.Sublist.cons _ (List.Sublist.cons _ (List.Sublist.cons_cons _ (List.Sublist.cons _ (List.Sublist.refl _)))))) hil.symm (by omega) (by omega) hL'.row)) fun x hx => ?_
  obtain ⟨po, s0⟩ := x
  simp only [List.cons_append, List.nil_append] at hx ⊢
  unfold vecB
  repeat (refine g_build1 rfl rfl fun _ _ => ?_)
  rename_i bt _
  refine g_append rfl rfl (by omega) (by omega) fun oa' oc' => ?_
  repeat (first | refine g_op rfl ?_ | refine g_then ?_ | refine g_nil ?_ | refine g_region ?_ | refine g_seq ?_ | refine g_opS rfl ?_)
  refine g_vec 5 rfl (by omega) fun ob oo hoa => ?_
  subst hoa
  refine g_vec 4 rfl (by omega) fun ib io hia => ?_
  subst hia
  have hxo : XAt (outs'.map (valS R) ++ [.slice (some ⟨po, 0, none⟩) R R]) (b * 1) (.slice (some ⟨po, 0, none⟩) R R) := ⟨by rw [Nat.mul_one, List.getElem?_append_right (by simp; omega)]; simp [hbb]⟩
  have hlb1 : LtIs b (b + 1) := ⟨by omega⟩
  repeat (refine g_op rfl ?_)
  refine g_callE (val := fun x : Option Addr × Nat => .slice x.1 R x.2) (E := fun x => [vecB x.1 R x.2 s0]) (φ := fun _ => True) rfl (fun w hw => cloneB_c _ R R s0 (by omega) w (bools_sl hw (k := 1) rfl hx.1.symm (by omega))) fun x _ => ?_
  obtain ⟨ca, cc⟩ := x
  simp only [List.cons_append, List.nil_append]
  repeat (first | refine g_then ?_ | refine g_nil ?_ | refine g_seq ?_ | refine g_store ?_ | refine g_alloc rfl fun _ _ => ?_)
  rename_i p7 _
  refine g_drawW [(7, .pointer (some ⟨p7, 0, none⟩)), (6, .int .i64 b), (30, .int .i64 b), (29, .int .i64 n), (5, .bool more'), (2, .slice (some ⟨ib, io, none⟩) n ic), (3, .slice (some ⟨ob, oo, none⟩) (b + 1) oc'), (4, .slice aa an ac), (1, .pointer (some ⟨p1, 0, none⟩))] (vecB ca R cc (takeV s0 B.on) :: Ent.box p7 [.slice ca R cc] 146 :: Ent.vec (some ⟨bt, 0, none⟩) 1 1 146 1 [.slice (some ⟨po, 0, none⟩) R R] :: Ent.vec (some ⟨po, 0, none⟩) R R 4 1 (s0.map .bool) :: ⟨fp, fun w => SlAt w (.slice aa an ac) 1 (aheadL bl) RowV⟩ :: Ent.box p1 [nm, pa, .int .i64 R, .slice ba n bc] 35 :: (Ent.vec (some ⟨ib, io, none⟩) n ic 146 1 (ins'.map (valS R)) :: Ent.vec (some ⟨ob, oo, none⟩) (b + 1) oc' 146 1 (outs'.map (valS R) ++ [.slice (some ⟨po, 0, none⟩) R R]) :: (ins'.map (entS R) ++ (outs'.map (entS R) ++ marks Ds)))) mixed ?_ ?_
  · repeat' (first | refine g_take 1 rfl (by decide +kernel) ?_ | refine g_take 3 rfl (by decide +kernel) ?_ | refine g_take 4 rfl (by decide +kernel) ?_ | refine g_take 5 rfl (by decide +kernel) ?_ | refine g_take 6 rfl (by decide +kernel) ?_ | refine g_any (by decide +kernel) ?_ | refine any_nil | refine any_skip (by decide +kernel) ?_ | refine any_cons ?_ ?_ | refine g_op rfl ?_ | refine g_then ?_ | refine g_nil ?_)
    all_goals
      refine g_permH (List.Perm.swap _ _ _) ?_
      refine g_eqH (H1 := [vecB ca R cc s0] ++ (Ent.box p7 [.slice ca R cc] 146 :: Ent.vec (some ⟨bt, 0, none⟩) 1 1 146 1 [.slice (some ⟨po, 0, none⟩) R R] :: Ent.vec (some ⟨po, 0, none⟩) R R 4 1 (s0.map .bool) :: ⟨fp, fun w => SlAt w (.slice aa an ac) 1 (aheadL bl) RowV⟩ :: Ent.box p1 [nm, pa, .int .i64 R, .slice ba n bc] 35 :: (Ent.vec (some ⟨ib, io, none⟩) n ic 146 1 (ins'.map (valS R)) :: Ent.vec (some ⟨ob, oo, none⟩) (b + 1) oc' 146 1 (outs'.map (valS R) ++ [.slice (some ⟨po, 0, none⟩) R R]) :: (ins'.map (entS R) ++ (outs'.map (entS R) ++ marks Ds))))) rfl ?_
      refine g_callS (val := fun _ : Unit => .tuple #[]) (E := fun _ => [vecB ca R cc (takeV s0 B.on)]) (φ := fun _ => True) rfl (fun w hw => take_c ca R cc s0 hx.1 B.on hBo.on w hw.pre) fun _ _ => ?_
      simp only [List.cons_append, List.nil_append]
      repeat' (first | refine g_any0 (by decide +kernel) ?_ | refine g_then ?_ | refine g_nil ?_)
      exact g_done (by repeat (first | exact trivial | refine ⟨rfl, ?_⟩)) (List.Sublist.refl _)
  generalize hs1 : takeV s0 B.on = s1
  have hs1l : s1.length = R := by rw [← hs1, takeV_length]; exact hx.1
  repeat (first | refine g_op rfl ?_ | refine g_then ?_ | refine g_region ?_ | refine g_seq ?_)
  refine g_callE (val := fun p : Nat × Nat => .func (.func 143) #[] #[.pointer (some ⟨p.1, 0, none⟩)]) (E := fun p => [Ent.box p.1 [.slice la ln lc] p.2]) (φ := fun _ => True) rfl (fun w hw => backwardI_c _ ⟨_, _, _, rfl⟩ w) fun Bp _ => ?_
  obtain ⟨Bs, Bt⟩ := Bp
  simp only [List.cons_append, List.nil_append]
  repeat (first | refine g_then ?_ | refine g_nil ?_ | refine g_block ?_)
  obtain ⟨zs, xs, hzl, h8, hxs, hxm, hzc⟩ := insA_ex (R := R) (wz := w0) hBo.list (hargs B (List.mem_of_getElem? hB)) hlel
  have hfold : ∀ s, xs.foldl (fun s y => insV s y.1.2.1) s = B.list.reverse.foldl insV s := fun s => by rw [← hxm, List.foldl_map]
  refine g_fix (L' := [(61, .func (.func 143) #[] #[.pointer (some ⟨Bs, 0, none⟩)]), (7, .pointer (some ⟨p7, 0, none⟩)), (6, .int .i64 b), (30, .int .i64 b), (29, .int .i64 n), (5, .bool more'), (2, .slice (some ⟨ib, io, none⟩) n ic), (3, .slice (some ⟨ob, oo, none⟩) (b + 1) oc'), (4, .slice aa an ac), (1, .pointer (some ⟨p1, 0, none⟩))]) (by repeat (first | exact trivial | refine ⟨rfl, ?_⟩)) (List.Sublist.refl _) ?_
  refine g_permH (List.Perm.swap _ _ _) ?_
  refine g_rangeB (α := InsA R w0) (gf := 143) (lb := [.pointer (some ⟨Bs, 0, none⟩)]) (Ent.box Bs [.slice la ln lc] Bt :: Ent.box p7 [.slice ca R cc] 146 :: Ent.vec (some ⟨bt, 0, none⟩) 1 1 146 1 [.slice (some ⟨po, 0, none⟩) R R] :: Ent.vec (some ⟨po, 0, none⟩) R R 4 1 (s0.map .bool) :: ⟨fp, fun w => SlAt w (.slice aa an ac) 1 (aheadL bl) RowV⟩ :: Ent.box p1 [nm, pa, .int .i64 R, .slice ba n bc] 35 :: (Ent.vec (some ⟨ib, io, none⟩) n ic 146 1 (ins'.map (valS R)) :: Ent.vec (some ⟨ob, oo, none⟩) (b + 1) oc' 146 1 (outs'.map (valS R) ++ [.slice (some ⟨po, 0, none⟩) R R]) :: (ins'.map (entS R) ++ (outs'.map (entS R) ++ marks Ds)))) (fun s : List Bool => [vecB ca R cc s]) s1 (fun s => ⟨by intro e he; simp only [List.mem_singleton] at he; subst he; unfold vecB; infer_instance⟩) (fun s s' b ⟨e, he, hb⟩ => ⟨vecB ca R cc s', by simp, by simp only [List.mem_singleton] at he; subst he; exact hb⟩) xs
    (encs := fun y => #[.int .i64 (InsA.enc y).1, .agg (InsA.enc y).2.toArray]) (Bs := Bs) (bcs := [.slice la ln lc]) (bt := Bt) (List.mem_cons_self ..)
    (fun w1 hw1 => ?_) (fun pre s => s = pre.foldl (fun s y => insV s y.1.2.1) s1) rfl (List.Sublist.refl _) (fun _ => rfl) (fun y => insC y.1.2.1 y.1.2.2) 71
    (fun y => [(63, .agg (insC y.1.2.1 y.1.2.2).toArray), (62, .int .i64 y.1.1), (7, .pointer (some ⟨p7, 0, none⟩)), (6, .int .i64 b), (30, .int .i64 b), (29, .int .i64 n), (5, .bool more'), (2, .slice (some ⟨ib, io, none⟩) n ic), (3, .slice (some ⟨ob, oo, none⟩) (b + 1) oc'), (4, .slice aa an ac), (1, .pointer (some ⟨p1, 0, none⟩))]) (fun y q => [(9, .pointer (some ⟨q, 0, none⟩)), (7, .pointer (some ⟨p7, 0, none⟩)), (6, .int .i64 b), (30, .int .i64 b), (29, .int .i64 n), (5, .bool more'), (2, .slice (some ⟨ib, io, none⟩) n ic), (3, .slice (some ⟨ob, oo, none⟩) (b + 1) oc'), (4, .slice aa an ac), (1, .pointer (some ⟨p1, 0, none⟩))]) (fun y a h => ?_) (fun l y s R' => ?_) (fun l pre y s q RR hI hlt => ?_) fun D s2 hD hI => ?_
  · have hownz : ∀ b', fps ([vecB ca R cc s1] ++ (Ent.box Bs [.slice la ln lc] Bt :: Ent.box p7 [.slice ca R cc] 146 :: Ent.vec (some ⟨bt, 0, none⟩) 1 1 146 1 [.slice (some ⟨po, 0, none⟩) R R] :: Ent.vec (some ⟨po, 0, none⟩) R R 4 1 (s0.map .bool) :: ⟨fp, fun w => SlAt w (.slice aa an ac) 1 (aheadL bl) RowV⟩ :: Ent.box p1 [nm, pa, .int .i64 R, .slice ba n bc] 35 :: (Ent.vec (some ⟨ib, io, none⟩) n ic 146 1 (ins'.map (valS R)) :: Ent.vec (some ⟨ob, oo, none⟩) (b + 1) oc' 146 1 (outs'.map (valS R) ++ [.slice (some ⟨po, 0, none⟩) R R]) :: (ins'.map (entS R) ++ (outs'.map (entS R) ++ marks Ds))))) b' → w0.heap.size ≤ b' := fun b' ⟨e, he, hb'⟩ => (hw1.own e he b' hb').1.elim (fun h => h.elim) id
    exact backInsStops (R := R) (wz := w0) (b := lb) (o := lo) (by omega) (fun hne => hla (fun e => hne (by rw [e] at hzl; exact List.eq_nil_of_length_eq_zero hzl))) (by have := (hlist B (List.mem_of_getElem? hB)).1; omega) h8 hzc (fun p v hp h => by have := hownz _ h.1; have := World.block_lt_of_cell? w0 p hp; omega) (fun h => h.2 rfl) (fun p v hp => cell_keep hw1.chg hp) (hw1.boxCells Bs 0 _ rfl) hxs
  · have h2 := ((h.to (L' := [(7, .pointer (some ⟨p7, 0, none⟩)), (6, .int .i64 b), (30, .int .i64 b), (29, .int .i64 n), (5, .bool more'), (2, .slice (some ⟨ib, io, none⟩) n ic), (3, .slice (some ⟨ob, oo, none⟩) (b + 1) oc'), (4, .slice aa an ac), (1, .pointer (some ⟨p1, 0, none⟩))]) (by repeat (first | exact trivial | refine ⟨rfl, ?_⟩))).putOk (d := 62) rfl (.int .i64 y.1.1)).putOk (d := 63) rfl (.agg (insC y.1.2.1 y.1.2.2).toArray)
    have e : (#[62, 63].zip #[Value.int .i64 (InsA.enc y).1, .agg (InsA.enc y).2.toArray]).foldl (fun (t : Array Value) (q : Tmp × Value) => t.setIfInBounds q.1 q.2) a.tmps = (a.tmps.setIfInBounds 62 (.int .i64 y.1.1)).setIfInBounds 63 (.agg (insC y.1.2.1 y.1.2.2).toArray) := by simp [InsA.enc]
    refine ⟨Eq.trans (congrArg Array.size e) h2.size, rfl, fun p hp => ?_⟩
    exact Eq.trans (congrArg (fun t : Array Value => t[p.1]?) e) (h2.slot p hp)
  · simp only [insC]
    repeat (first | refine g_then ?_ | refine g_nil ?_ | refine g_region ?_ | refine g_alloc rfl fun _ _ => ?_ | refine g_storeAgg ?_)
    exact g_doneP _ (by repeat (first | exact trivial | refine ⟨rfl, ?_⟩)) (List.Sublist.refl _)
  · obtain ⟨⟨i0, x, ⟨va, vn, vc⟩⟩, hxo, hxa, hxs2⟩ := y
    simp only at hxo hxa hxs2
    have hsl2 : s.length = R := by
      rw [hI]
      have : ∀ (l : List (InsA R w0)) (s : List Bool), (l.foldl (fun s y => insV s y.1.2.1) s).length = s.length := by
        intro l
        induction l with
        | nil => exact fun _ => rfl
        | cons y l ih => exact fun s => by rw [List.foldl_cons, ih, insV_length]
      rw [this, hs1l]
    simp only [insC, List.cons_append, List.nil_append]
    repeat (first | refine g_op rfl ?_ | refine g_region ?_ | refine g_block ?_)
    refine g_permH (List.perm_middle (l₁ := [RR, Ent.box q (insC x (va, vn, vc)) 71]) (a := vecB ca R cc s)) ?_
    refine g_eqH (H1 := [vecB ca R cc s] ++ (RR :: Ent.box q (insC x (va, vn, vc)) 71 :: Ent.box Bs [.slice la ln lc] Bt :: Ent.box p7 [.slice ca R cc] 146 :: Ent.vec (some ⟨bt, 0, none⟩) 1 1 146 1 [.slice (some ⟨po, 0, none⟩) R R] :: Ent.vec (some ⟨po, 0, none⟩) R R 4 1 (s0.map .bool) :: ⟨fp, fun w => SlAt w (.slice aa an ac) 1 (aheadL bl) RowV⟩ :: Ent.box p1 [nm, pa, .int .i64 R, .slice ba n bc] 35 :: (Ent.vec (some ⟨ib, io, none⟩) n ic 146 1 (ins'.map (valS R)) :: Ent.vec (some ⟨ob, oo, none⟩) (b + 1) oc' 146 1 (outs'.map (valS R) ++ [.slice (some ⟨po, 0, none⟩) R R]) :: (ins'.map (entS R) ++ (outs'.map (entS R) ++ marks Ds))))) rfl ?_
    refine g_callS (val := fun _ : Unit => .tuple #[]) (E := fun _ => [vecB ca R cc (insV s x)]) (φ := fun _ => True) rfl (fun w hw => setAhead_c ca R cc s hsl2 x hxo (by omega) va vn vc NoS w0 (fun _ _ _ h => h) hxs2 w (hw.sub (List.sublist_append_left _ _))) fun _ _ => ?_
    simp only [List.cons_append, List.nil_append]
    repeat (first | refine g_then ?_ | refine g_nil ?_ | refine g_inBlock ?_)
    refine g_permH (List.Perm.swap _ _ _) ?_
    refine g_rnd (insV s x) ?_ (List.Sublist.refl _)
    rw [List.foldl_append, ← hI]; rfl
  rw [hfold] at hI
  have hs2l : s2.length = R := by
    rw [hI]
    have : ∀ (l : List LIns) (s : List Bool), (l.foldl insV s).length = s.length := by
      intro l
      induction l with
      | nil => exact fun _ => rfl
      | cons y l ih => exact fun s => by rw [List.foldl_cons, ih, insV_length]
    rw [this, hs1l]
  simp only [List.cons_append, List.nil_append]
  repeat (first | refine g_op rfl ?_ | refine g_then ?_ | refine g_nil ?_ | refine g_region ?_ | refine g_seq ?_ | refine g_inBlock ?_ | refine g_block ?_)
  refine g_wd (H' := vecB ca R cc s2 :: Ent.box p7 [.slice ca R cc] 146 :: Ent.mark D :: Ent.vec (some ⟨po, 0, none⟩) R R 4 1 (s0.map .bool) :: ⟨fp, fun w => SlAt w (.slice aa an ac) 1 (aheadL bl) RowV⟩ :: Ent.box p1 [nm, pa, .int .i64 R, .slice ba n bc] 35 :: (Ent.vec (some ⟨ib, io, none⟩) n ic 146 1 (ins'.map (valS R)) :: Ent.vec (some ⟨ob, oo, none⟩) (b + 1) oc' 146 1 (outs'.map (valS R) ++ [.slice (some ⟨po, 0, none⟩) R R]) :: (ins'.map (entS R) ++ (outs'.map (entS R) ++ marks Ds)))) (fun w hw => ?_) ?_
  · refine (hw.sub (List.Sublist.cons_cons _ (List.Sublist.cons_cons _ (List.Sublist.cons _ (List.Sublist.cons_cons _ (List.Sublist.cons _ (List.Sublist.refl _))))))).perm ?_
    exact (List.perm_middle (l₁ := [vecB ca R cc s2, Ent.box p7 [.slice ca R cc] 146]) (a := Ent.mark D)).symm
  refine g_loop (fun (x : Nat × List Bool) => x.1 ≤ xn ∧ x.2.length = R ∧ x.2 = (B.phis.take x.1).foldl (fun s p => s.set p.dst.toNat false) s2) (fun x => [(74, .int .i64 x.1), (72, .slice xa xn xc), (73, .int .i64 xn), (7, .pointer (some ⟨p7, 0, none⟩)), (6, .int .i64 b), (30, .int .i64 b), (29, .int .i64 n), (5, .bool more'), (2, .slice (some ⟨ib, io, none⟩) n ic), (3, .slice (some ⟨ob, oo, none⟩) (b + 1) oc'), (4, .slice aa an ac), (1, .pointer (some ⟨p1, 0, none⟩))]) (fun x => vecB ca R cc x.2 :: Ent.box p7 [.slice ca R cc] 146 :: Ent.mark D :: Ent.vec (some ⟨po, 0, none⟩) R R 4 1 (s0.map .bool) :: ⟨fp, fun w => SlAt w (.slice aa an ac) 1 (aheadL bl) RowV⟩ :: Ent.box p1 [nm, pa, .int .i64 R, .slice ba n bc] 35 :: (Ent.vec (some ⟨ib, io, none⟩) n ic 146 1 (ins'.map (valS R)) :: Ent.vec (some ⟨ob, oo, none⟩) (b + 1) oc' 146 1 (outs'.map (valS R) ++ [.slice (some ⟨po, 0, none⟩) R R]) :: (ins'.map (entS R) ++ (outs'.map (entS R) ++ marks Ds)))) (fun x => xn - x.1) (0, s2)
    ⟨Nat.zero_le _, hs2l, by simp⟩ (g_done (by repeat (first | exact trivial | refine ⟨rfl, ?_⟩)) (List.Sublist.refl _)) fun x ⟨hm, hsl, hs⟩ => ?_
  · obtain ⟨m, s⟩ := x
    simp only at hm hsl hs ⊢
    repeat (first | refine g_op rfl ?_ | refine g_then ?_ | refine g_nil ?_ | refine g_region ?_ | refine g_seq ?_)
    refine g_cond (fun h3 => ?_) (fun h3 => ?_)
    · have hmlt : m < xn := by simpa using h3
      obtain ⟨p, hp⟩ := get_lt hxn hmlt
      have hadx : AddrIs xa xb xo := ⟨hxa (ne_of_get hp)⟩
      have hlm : LtIs m xn := ⟨hmlt⟩
      obtain ⟨csp, hcsp, sv, rfl, _, hsv⟩ := hxel m p hp
      have hciP : CellsIs w0 xb (xo + m * 2) _ := ⟨hcsp⟩
      have hpo := hBo.phis p (List.mem_of_getElem? hp)
      obtain ⟨s2a, s2n, s2c, _, _, rfl, _⟩ := hsv
      obtain ⟨d, hd⟩ : ∃ d : Nat, p.dst = d := ⟨p.dst.toNat, by have := hpo.dst; omega⟩
      have hdR : d < R := by have := hpo.dst; omega
      obtain ⟨y, hy⟩ : ∃ y, s[d]? = some y := ⟨_, List.getElem?_eq_getElem (by omega)⟩
      have hnd : NatIs p.dst d := ⟨hd⟩
      have hld : LtIs d R := ⟨hdR⟩
      have hey : ElAt s d y := ⟨hy⟩
      have hst : (B.phis.take (m + 1)).foldl (fun s p => s.set p.dst.toNat false) s2 = s.set d false := by
        rw [List.take_add_one, hp, List.foldl_append, ← hs, show d = p.dst.toNat by omega]; rfl
      unfold vecB
      refine g_vec 0 rfl (by omega) fun cb co hca => ?_
      subst hca
      repeat (first | refine g_op rfl ?_ | refine g_then ?_ | refine g_nil ?_ | refine g_region ?_ | refine g_seq ?_ | refine g_opS rfl ?_ | refine g_alloc rfl fun _ _ => ?_ | refine g_storeAgg ?_ | refine g_inBlock ?_ | refine g_block ?_ | refine g_skip ?_ | refine g_add rfl (by omega) (by omega) ?_ | refine g_storeV ?_)
      refine g_next (m + 1, s.set d false) ⟨hmlt, by simpa using hsl, hst.symm⟩ (by simp only; omega) (by repeat (first | exact trivial | refine ⟨rfl, ?_⟩)) ?_
      exact List.Sublist.cons _ (List.Sublist.refl _)
    · have hge3 : m = xn := by have := h3; simp at this; omega
      rw [hge3, hxn, List.take_length, hI, ← hs1] at hs
      have hs4 : s = headV B s0 := hs
      have hhead : ∀ r, has s r ↔ Head bl (inOf (ins'.map (·.l))) b r := fun r => by rw [hs4]; exact has_headV hf hB hx.1 hx.2 r
      have hq0l := hL'.row q0 (List.mem_of_getElem? hq0)
      have heq0 : ElAt ins' b q0 := ⟨hq0⟩
      unfold vecB
      repeat (first | refine g_then ?_ | refine g_seq ?_ | refine g_exit ?_ | refine g_thenExit ?_ | refine g_exitHere ?_)
      refine g_draw mixed (by kernel_rfl) ?_
      repeat (refine q_op rfl ?_)
      refine q_call rfl (fun w hw => equalB_c _ _ s q0.l w (bools_sl hw (k := 0) rfl hsl.symm (by omega)) (set_sl (R := R) (rs := ins') (E := [Ent.vec ca R cc 4 1 (s.map .bool), Ent.box p7 [.slice ca R cc] 146, Ent.mark D, Ent.vec (some ⟨po, 0, none⟩) R R 4 1 (s0.map .bool), ⟨fp, fun w => SlAt w (.slice aa an ac) 1 (aheadL bl) RowV⟩, Ent.box p1 [nm, pa, .int .i64 R, .slice ba n bc] 35, Ent.vec (some ⟨ib, io, none⟩) n ic 146 1 (ins'.map (valS R)), Ent.vec (some ⟨ob, oo, none⟩) (b + 1) oc' 146 1 (outs'.map (valS R) ++ [.slice (some ⟨po, 0, none⟩) R R])]) (H := outs'.map (entS R) ++ marks Ds) hw hq0 (by omega) hq0l)) ?_
      repeat (first | refine q_op rfl ?_ | refine q_nil ?_)
      repeat (refine g_then ?_)
      have hob2 : outs'.length + 1 = b + 1 := by omega
      have fin : ∀ (I : List RowB) (w : World), Wd NoS w0 (Ent.mark D :: Ent.vec (some ⟨po, 0, none⟩) R R 4 1 (s0.map .bool) :: ⟨fp, fun w => SlAt w (.slice aa an ac) 1 (aheadL bl) RowV⟩ :: Ent.box p1 [nm, pa, .int .i64 R, .slice ba n bc] 35 :: Ent.vec (some ⟨ib, io, none⟩) n ic 146 1 (I.map (valS R)) :: Ent.vec (some ⟨ob, oo, none⟩) (b + 1) oc' 146 1 (outs'.map (valS R) ++ [.slice (some ⟨po, 0, none⟩) R R]) :: (I.map (entS R) ++ (outs'.map (entS R) ++ marks Ds))) w →
          Wd NoS w0 (⟨fp, fun w => SlAt w (.slice aa an ac) 1 (aheadL bl) RowV⟩ :: Ent.box p1 [nm, pa, .int .i64 R, .slice ba n bc] 35 :: Ent.vec (some ⟨ib, io, none⟩) n ic 146 1 (I.map (valS R)) :: Ent.vec (some ⟨ob, oo, none⟩) (outs' ++ [(⟨some ⟨po, 0, none⟩, R, s0⟩ : RowB)]).length oc' 146 1 ((outs' ++ [(⟨some ⟨po, 0, none⟩, R, s0⟩ : RowB)]).map (valS R)) :: (I.map (entS R) ++ ((outs' ++ [(⟨some ⟨po, 0, none⟩, R, s0⟩ : RowB)]).map (entS R) ++ marks (D :: Ds)))) w := fun I w hw => by
        have h1 := hw.perm (perm_two (α := Ent) (Ent.mark D) (Ent.vec (some ⟨po, 0, none⟩) R R 4 1 (s0.map .bool)) (⟨fp, fun w => SlAt w (.slice aa an ac) 1 (aheadL bl) RowV⟩ :: Ent.box p1 [nm, pa, .int .i64 R, .slice ba n bc] 35 :: Ent.vec (some ⟨ib, io, none⟩) n ic 146 1 (I.map (valS R)) :: Ent.vec (some ⟨ob, oo, none⟩) (b + 1) oc' 146 1 (outs'.map (valS R) ++ [Value.slice (some ⟨po, 0, none⟩) R R]) :: I.map (entS R)) (outs'.map (entS R)) (marks Ds))
        have e : (outs' ++ [(⟨some ⟨po, 0, none⟩, R, s0⟩ : RowB)]).length = b + 1 := by simp; omega
        rw [e]
        simpa [valS, entS, vecB, marks, List.append_assoc] using h1
      have outs_row : ∀ r ∈ outs' ++ [(⟨some ⟨po, 0, none⟩, R, s0⟩ : RowB)], r.l.length = R := fun r hr => by
        rcases List.mem_append.1 hr with hr | hr
        · exact hor r hr
        · simp only [List.mem_singleton] at hr; subst hr; exact hx.1
      have hol : (outs' ++ [(⟨some ⟨po, 0, none⟩, R, s0⟩ : RowB)]).length = b + 1 := by simp; omega
      refine g_cond (fun h4 => ?_) (fun h4 => ?_)
      · -- more is in
        have hne : s ≠ q0.l := by simpa using h4
        have hlive := hL'.upd (b := b) (q := ⟨ca, cc, s⟩) (by omega) hsl hhead
        have hmiss : missing (ins'.set b ⟨ca, cc, s⟩) < missing ins' := by
          have h5 := missing_set (r' := (⟨ca, cc, s⟩ : RowB)) hq0
          have h6 := unseen_less (l := q0.l) (m := s) (by omega) (fun r hr => (hhead r).2 (hL'.pre b r ((inOf_get hq0).2 hr))) (Ne.symm hne)
          simp only at h5
          omega
        have hxs2 : XSet (ins'.map (valS R)) (b * 1) (.slice ca R cc) ((ins'.set b ⟨ca, cc, s⟩).map (valS R)) := ⟨by rw [Nat.mul_one, List.map_set]; rfl, by simp; omega⟩
        repeat (first | refine g_op rfl ?_ | refine g_then ?_ | refine g_nil ?_ | refine g_region ?_ | refine g_opS rfl ?_ | refine g_inBlock ?_ | refine g_add rfl (by omega) (by omega) ?_ | refine g_storeV ?_)
        refine g_wd (fun w hw => fin (ins'.set b ⟨ca, cc, s⟩) w ?_) ?_
        · have h7 := wd_put (e := entS R ⟨ca, cc, s⟩) (X := [Ent.box p7 [.slice ca R cc] 146, Ent.mark D, Ent.vec (some ⟨po, 0, none⟩) R R 4 1 (s0.map .bool), ⟨fp, fun w => SlAt w (.slice aa an ac) 1 (aheadL bl) RowV⟩, Ent.box p1 [nm, pa, .int .i64 R, .slice ba n bc] 35, Ent.vec (some ⟨ib, io, none⟩) n ic 146 1 ((ins'.set b ⟨ca, cc, s⟩).map (valS R)), Ent.vec (some ⟨ob, oo, none⟩) (b + 1) oc' 146 1 (outs'.map (valS R) ++ [.slice (some ⟨po, 0, none⟩) R R])]) (I := ins'.map (entS R)) (Y := outs'.map (entS R) ++ marks Ds) (b := b) hw (by rw [List.getElem?_map, hq0]; rfl)
          rw [← List.map_set] at h7
          exact h7.sub (List.sublist_cons_self _ _)
        refine g_nextD (true, ins'.set b ⟨ca, cc, s⟩, (some ⟨ob, oo, none⟩, oc', outs' ++ [(⟨some ⟨po, 0, none⟩, R, s0⟩ : RowB)]), D :: Ds) rfl ⟨by simp only; omega, hlive, outs_row, by simp, fun _ => ?_⟩ (by simp only; omega) ?_ (List.Sublist.refl _)
        · simp only
          cases more'
          · obtain ⟨e1, _⟩ := hno rfl
            subst e1
            exact hmiss
          · have := hyes rfl
            omega
        · simp only [hol]
          exact (by repeat (first | exact trivial | refine ⟨rfl, ?_⟩))
      · have heq : s = q0.l := by simpa using h4
        repeat (first | refine g_then ?_ | refine g_nil ?_ | refine g_region ?_ | refine g_opS rfl ?_ | refine g_inBlock ?_ | refine g_skip ?_ | refine g_add rfl (by omega) (by omega) ?_)
        refine g_wd (fun w hw => fin ins' w (hw.sub (List.Sublist.cons _ (List.Sublist.cons _ (List.Sublist.refl _))))) ?_
        refine g_nextD (more', ins', (some ⟨ob, oo, none⟩, oc', outs' ++ [(⟨some ⟨po, 0, none⟩, R, s0⟩ : RowB)]), D :: Ds) rfl ⟨by simp only; omega, hL', outs_row, fun e => ?_, hyes⟩ (by simp only; omega) ?_ (List.Sublist.refl _)
        · obtain ⟨e1, e2, e3⟩ := hno e
          subst e1
          refine ⟨rfl, fun t ht r hr => ?_, fun t q r hq => ?_⟩
          · simp only [hol] at ht
            by_cases e : t = b
            · subst e
              rw [inOf_get hq0, ← heq]
              exact (hhead r).2 hr
            · exact e2 t (by omega) r hr
          · simp only at hq
            by_cases e : t < outs'.length
            · rw [List.getElem?_append_left e] at hq
              exact e3 t q r hq
            · have ht : t = b := by
                have := (List.getElem?_eq_some_iff.1 hq).1
                rw [hol] at this
                omega
              subst ht
              rw [List.getElem?_append_right (by omega), hbb, Nat.sub_self] at hq
              simp only [List.getElem?_cons_zero, Option.some.injEq] at hq
              subst hq
              exact hx.2 r
        · simp only [hol]
          exact (by repeat (first | exact trivial | refine ⟨rfl, ?_⟩))
end Go.Proofs.YtbmnkjaelfjlhaaDoor


/- The document's way to live registers: names, Uses, writesPhi, Ahead, takes, come. What each returns. -/
namespace Go.Proofs.YtbmnkjaelfjlhaaDoor
open Go Go.RowKit

/-- cells of the call's own, side by side -/
class XsAt (xs : List Value) (j : Nat) (cs : outParam (List Value)) : Prop where
  eq : ∀ i v, cs[i]? = some v → xs[j + i]? = some v
class OwnCells (H : List Ent) (b off : Nat) (cs : outParam (List Value)) : Prop where
  eq : ∀ S w0 w, Wd S w0 H w → CellsAt w b off cs
instance (b o j n c e s : Nat) (xs cs : List Value) (H : List Ent) [h : XsAt xs j cs] : OwnCells (Ent.vec (some ⟨b, o, none⟩) n c e s xs :: H) b (o + j) cs :=
  ⟨fun _ _ _ hw i v hi => by rw [Nat.add_assoc]; exact Wd.vecCell hw (k := 0) rfl (h.eq i v hi)⟩
instance (b off : Nat) (cs : List Value) (x : Ent) (H : List Ent) [h : OwnCells H b off cs] : OwnCells (x :: H) b off cs := ⟨fun S w0 w hw => h.eq S w0 w (hw.sub (List.sublist_cons_self _ _))⟩
section
variable {P : Program} {ro : Option Nat} {N : Nat} {ds : List Deferred} {S : Nat → Prop} {w0 : World} {L : List (Nat × Value)} {H : List Ent} {ops : Array Oper} {rest : List Oper} {Q : Exit → Act → World → Prop} {x y : Operand}
instance (priority := low) {T b off n : Nat} {cs : List Value} [h : AggSize P T n] [hx : Ev L x (.pointer (some ⟨b, off, none⟩))] [hc : OwnCells H b off cs] [hn : LenIs cs n] : RunsC P N ds S w0 L H (.load T x) (.agg cs.toArray) :=
  ⟨fun _ h => (by cases h), fun _ _ h => (by cases h), fun _ _ _ _ _ a w hF hW => by simp [execOp, hx.eq _ _ _ hF, run_loadAgg hn.eq (hc.eq _ _ _ hW)]⟩
end
attribute [local irreducible] wpListIn Code.wpIn Exit.then Exit.inBlock bodyPost wpQuiet wpAnyIn
set_option maxHeartbeats 4000000

end Go.Proofs.YtbmnkjaelfjlhaaDoor


/- The document's way to live registers: takes, come, Live, LiveAt. What each returns. -/
namespace Go.Proofs.YtbmnkjaelfjlhaaDoor
open Go Go.RowKit
attribute [local irreducible] wpListIn Code.wpIn Exit.then Exit.inBlock bodyPost wpQuiet wpAnyIn
set_option maxHeartbeats 4000000

abbrev Sp : Type := Nat × Int
def comeL (l : List Sp) (s : Sp) : List Sp := if s ∈ l then l else l ++ [s]
end Go.Proofs.YtbmnkjaelfjlhaaDoor


/- turneryref3.Live: what it returns. -/
namespace Go.Proofs.YtbmnkjaelfjlhaaDoor
open Go Go.RowKit
attribute [local irreducible] wpListIn Code.wpIn Exit.then Exit.inBlock bodyPost wpQuiet wpAnyIn
set_option maxHeartbeats 4000000

/-- a place that there is -/
def SpotOk (bl : List LBlock) (s : Sp) : Prop := -1 ≤ s.2 ∧ ∃ B, bl[s.1]? = some B ∧ s.2 ≤ B.list.length + 1
/-- it was gone through: nobody takes r there, and where one goes on from it is in the row -/
def Gone (bl : List LBlock) (r : Nat) (row : List Sp) (s : Sp) : Prop := ∀ B, bl[s.1]? = some B →
  (s.2 = -1 → (∀ p ∈ B.phis, p.dst ≠ r) → ((s.1, 0) : Sp) ∈ row) ∧ (∀ (i : Nat) x, s.2 = i → B.list[i]? = some x → namesR (usesOf x) r = false ∧ (x.dst ≠ r → ((s.1, (i : Int) + 1) : Sp) ∈ row)) ∧
  (s.2 = B.list.length → namesR [B.on] r = false) ∧ ((s.2 = B.list.length ∨ s.2 = B.list.length + 1) → ∀ t : Nat, (t : Int) ∈ B.to → takesR bl t s.1 r = false ∧ ((t, -1) : Sp) ∈ row)
theorem Gone.mono {bl : List LBlock} {r : Nat} {row row' : List Sp} (h : ∀ s ∈ row, s ∈ row') {s : Sp} (k : Gone bl r row s) : Gone bl r row' s := fun B hB => by
  obtain ⟨h1, h2, h3, h4⟩ := k B hB
  exact ⟨fun a b => h _ (h1 a b), fun i x a b => ⟨(h2 i x a b).1, fun c => h _ ((h2 i x a b).2 c)⟩, h3, fun a t ht => ⟨(h4 a t ht).1, h _ (h4 a t ht).2⟩⟩
structure LInv (bl : List LBlock) (r : Nat) (s0 : Sp) (i : Nat) (row : List Sp) : Prop where
  nd : row.Nodup
  ok : ∀ s ∈ row, SpotOk bl s
  start : s0 ∈ row
  sound : ∀ s ∈ row, LiveS bl r s.1 s.2 → LiveS bl r s0.1 s0.2
  gone : ∀ k s, k < i → row[k]? = some s → Gone bl r row s
theorem comeL_mem {l : List Sp} {s x : Sp} : x ∈ comeL l s ↔ (x ∈ l ∨ x = s) := by
  unfold comeL
  split
  · rename_i h
    exact ⟨.inl, fun h' => h'.elim id fun e => e ▸ h⟩
  · simp
theorem comeL_ext (l : List Sp) (s : Sp) : ∃ e, comeL l s = l ++ e := by
  unfold comeL
  split
  · exact ⟨[], by simp⟩
  · exact ⟨_, rfl⟩
theorem comeL_nodup {l : List Sp} (h : l.Nodup) (s : Sp) : (comeL l s).Nodup := by
  unfold comeL
  split
  · exact h
  · rename_i hm
    rw [List.nodup_append]
    exact ⟨h, by simp, fun a ha b hb e => by simp only [List.mem_singleton] at hb; subst hb; exact hm (e ▸ ha)⟩
/-- a place more -/
theorem LInv.come {bl : List LBlock} {r : Nat} {s0 s : Sp} {i : Nat} {row : List Sp} (h : LInv bl r s0 i row) (hi : i ≤ row.length) (hs : SpotOk bl s) (hl : LiveS bl r s.1 s.2 → LiveS bl r s0.1 s0.2) : LInv bl r s0 i (comeL row s) := by
  obtain ⟨e, he⟩ := comeL_ext row s
  refine ⟨comeL_nodup h.nd s, fun x hx => ?_, comeL_mem.2 (.inl h.start), fun x hx => ?_, fun k x hk hx => ?_⟩
  · rcases comeL_mem.1 hx with hx | rfl
    · exact h.ok x hx
    · exact hs
  · rcases comeL_mem.1 hx with hx | rfl
    · exact h.sound x hx
    · exact hl
  · rw [he, List.getElem?_append_left (by omega)] at hx
    exact (h.gone k x hk hx).mono fun y hy => comeL_mem.2 (.inl hy)
theorem LInv.next {bl : List LBlock} {r : Nat} {s0 s : Sp} {i : Nat} {row : List Sp} (h : LInv bl r s0 i row) (hs : row[i]? = some s) (hg : Gone bl r row s) : LInv bl r s0 (i + 1) row :=
  ⟨h.nd, h.ok, h.start, h.sound, fun k x hk hx => by
    by_cases e : k = i
    · subst e
      rw [hs] at hx
      simp only [Option.some.injEq] at hx
      subst hx
      exact hg
    · exact h.gone k x (by omega) hx⟩
end Go.Proofs.YtbmnkjaelfjlhaaDoor


/- A region that draws its order, reads and calls: what is read is taken in one order, the calls stand alone when they come. One walk serves every order. -/
namespace Go.Proofs.YtbmnkjaelfjlhaaDoor
open Go Go.RowKit

section
variable {P : Program} {N : Nat} {ds : List Deferred} {S : Nat → Prop} {w0 : World} {L L' : List (Nat × Value)} {H H' Hr : List Ent} {Q : Exit → Act → World → Prop} {x y : Operand} {M : Act → World → Prop} {l : List Oper} {fuel : Nat} {listed : Array Bool}

theorem h_call {d ty f : Nat} (i : Nat) {args : List Operand} {vs : List Value} {tys : Array Nat} {pos : String} {aft : Array Go.Edge} (R : World → Value → World → Prop) [ho : ListAt l i ⟨some d, .call { callee := .value (.func f), args := args.toArray, argTypes := tys }, ty, pos, aft, none⟩] [h : EnterOk P f] [hx : Evs L args vs] (hd : okPut d N L = true)
    (hr : decide (Region.ready .any l.toArray listed = [i]) = true)
    (hc : ∀ w, Wd S w0 H w → Ret P f vs w (R w))
    (k : ∀ v w w', Wd S w0 H w → R w v w' → Wd S w0 Hr w' ∧ ∀ a, Fr N ds ((d, v) :: L) a → wpAnyH P .any l.toArray (OnlyN M) (Wd S w0 Hr) fuel (listed.setIfInBounds i true) a w') : G N ds S w0 L H (wpAnyH P .any l.toArray (OnlyN M) (Wd S w0 Hr) (fuel + 1) listed) := by
  intro a w hS
  refine wpAnyH_all (of_decide_eq_true hr) (by simp) fun i' hi' => ?_
  simp only [List.mem_singleton] at hi'
  subst hi'
  unfold wpOp
  rw [show l.toArray[i']? = some ⟨some d, .call { callee := .value (.func f), args := args.toArray, argTypes := tys }, ty, pos, aft, none⟩ by simpa using ho.at']
  simp only
  rw [if_pos (show Region.wanted (⟨some d, .call { callee := .value (.func f), args := args.toArray, argTypes := tys }, ty, pos, aft, none⟩ : Oper) (yielded l.toArray a.tmps) = true from rfl)]
  left
  unfold Oper.wp
  have hrun : (execOp a.eval ⟨some d, .call { callee := .value (.func f), args := args.toArray, argTypes := tys }, ty, pos, aft, none⟩).run P w = .ok (.enter f vs.toArray) w := by
    simp [execOp, resolve, Act.eval, Deferred.ofValue, invoke, hx.eq _ _ _ hS.fr, h.run]
  rw [hrun]
  refine Calls.mono (callsIn_wide.1 (hc w hS.wd)) fun e w' ⟨v, he, hR⟩ => ?_
  subst he
  obtain ⟨h1, h2⟩ := k v w w' hS.wd hR
  exact ⟨h1, h2 _ (hS.fr.putOk hd v)⟩
/-- a call that hands back something that is told by x, with memory of its own -/
theorem h_callE {α : Type} {val : α → Value} {E : α → List Ent} {φ : α → Prop} {d ty f : Nat} (i : Nat) {args : List Operand} {vs : List Value} {tys : Array Nat} {pos : String} {aft : Array Go.Edge} [ho : ListAt l i ⟨some d, .call { callee := .value (.func f), args := args.toArray, argTypes := tys }, ty, pos, aft, none⟩] [h : EnterOk P f] [hx : Evs L args vs] (hd : okPut d N L = true)
    (hr : decide (Region.ready .any l.toArray listed = [i]) = true) (hH : Hr.Sublist H)
    (hc : ∀ w, Wd S w0 H w → Ret P f vs w fun u w' => ∃ x, u = val x ∧ Wd NoS w (E x) w' ∧ φ x)
    (k : ∀ x, φ x → G N ds S w0 ((d, val x) :: L) (E x ++ H) (wpAnyH P .any l.toArray (OnlyN M) (Wd S w0 Hr) fuel (listed.setIfInBounds i true))) : G N ds S w0 L H (wpAnyH P .any l.toArray (OnlyN M) (Wd S w0 Hr) (fuel + 1) listed) :=
  h_call i (fun _ u w' => ∃ x, u = val x ∧ Wd S w0 (E x ++ H) w' ∧ φ x) hd hr (fun w hw => (hc w hw).mono fun v w' ⟨x, h1, h2, h3⟩ => ⟨x, h1, hw.more h2, h3⟩) fun v w w' hw hR => by
    obtain ⟨x, rfl, h2, h3⟩ := hR
    exact ⟨h2.sub (hH.trans (List.sublist_append_right _ _)), fun a hF => k x h3 a w' ⟨hF, h2⟩⟩
/-- a call that is handed the first pieces -/
theorem h_callS {α : Type} {val : α → Value} {E : α → List Ent} {φ : α → Prop} {H1 H2 : List Ent} {d ty f : Nat} (i : Nat) {args : List Operand} {vs : List Value} {tys : Array Nat} {pos : String} {aft : Array Go.Edge} [ho : ListAt l i ⟨some d, .call { callee := .value (.func f), args := args.toArray, argTypes := tys }, ty, pos, aft, none⟩] [h : EnterOk P f] [hx : Evs L args vs] (hd : okPut d N L = true)
    (hr : decide (Region.ready .any l.toArray listed = [i]) = true) (hH : Hr.Sublist H2)
    (hc : ∀ w, Wd S w0 (H1 ++ H2) w → Ret P f vs w fun u w' => ∃ x, u = val x ∧ Wd (fps H1) w (E x) w' ∧ φ x)
    (k : ∀ x, φ x → G N ds S w0 ((d, val x) :: L) (E x ++ H2) (wpAnyH P .any l.toArray (OnlyN M) (Wd S w0 Hr) fuel (listed.setIfInBounds i true))) : G N ds S w0 L (H1 ++ H2) (wpAnyH P .any l.toArray (OnlyN M) (Wd S w0 Hr) (fuel + 1) listed) :=
  h_call i (fun _ u w' => ∃ x, u = val x ∧ Wd S w0 (E x ++ H2) w' ∧ φ x) hd hr (fun w hw => (hc w hw).mono fun v w' ⟨x, h1, h2, h3⟩ => ⟨x, h1, hw.comp h2, h3⟩) fun v w w' hw hR => by
    obtain ⟨x, rfl, h2, h3⟩ := hR
    exact ⟨h2.sub (hH.trans (List.sublist_append_right _ _)), fun a hF => k x h3 a w' ⟨hF, h2⟩⟩
/-- the one operation that is left: a store into a box of the call's own -/
theorem h_skip {o : Oper} (i : Nat) [ho : ListAt l i o] (hg : o.guard = none) (hr : decide (Region.ready .any l.toArray listed = [i]) = true)
    (k : ∀ a w, St N ds S w0 L H a w → ∃ w', (execOp a.eval o).run P w = .ok .skip w' ∧ Wd S w0 Hr w' ∧ wpAnyH P .any l.toArray (OnlyN M) (Wd S w0 Hr) fuel (listed.setIfInBounds i true) (a.put o.dst undef) w') : G N ds S w0 L H (wpAnyH P .any l.toArray (OnlyN M) (Wd S w0 Hr) (fuel + 1) listed) := by
  intro a w hS
  obtain ⟨w', h1, h2, h3⟩ := k a w hS
  refine wpAnyH_all (of_decide_eq_true hr) (by simp) fun i' hi' => ?_
  simp only [List.mem_singleton] at hi'
  subst hi'
  unfold wpOp
  rw [show l.toArray[i']? = some o by simpa using ho.at']
  simp only
  rw [if_pos (show Region.wanted o (yielded l.toArray a.tmps) = true by simp [Region.wanted, hg])]
  left
  unfold Oper.wp
  rw [h1]
  exact ⟨h2, h3⟩
theorem h_val {o : Oper} (i : Nat) [ho : ListAt l i o] (hg : o.guard = none) (hr : decide (Region.ready .any l.toArray listed = [i]) = true)
    (k : ∀ a w, St N ds S w0 L H a w → ∃ v w', (execOp a.eval o).run P w = .ok (.value v) w' ∧ Wd S w0 Hr w' ∧ wpAnyH P .any l.toArray (OnlyN M) (Wd S w0 Hr) fuel (listed.setIfInBounds i true) (a.put o.dst v) w') : G N ds S w0 L H (wpAnyH P .any l.toArray (OnlyN M) (Wd S w0 Hr) (fuel + 1) listed) := by
  intro a w hS
  obtain ⟨v, w', h1, h2, h3⟩ := k a w hS
  refine wpAnyH_all (of_decide_eq_true hr) (by simp) fun i' hi' => ?_
  simp only [List.mem_singleton] at hi'
  subst hi'
  unfold wpOp
  rw [show l.toArray[i']? = some o by simpa using ho.at']
  simp only
  rw [if_pos (show Region.wanted o (yielded l.toArray a.tmps) = true by simp [Region.wanted, hg])]
  left
  unfold Oper.wp
  rw [h1]
  exact ⟨h2, h3⟩
theorem h_store {ty T b o j t : Nat} (i : Nat) [h : OneCell P T] {cs cs' : List Value} {v : Value} {pos : String} {aft : Array Go.Edge} [ho : ListAt l i ⟨none, .store T x y, ty, pos, aft, none⟩]
    [hx : Ev L x (.pointer (some ⟨b, o, none⟩))] [hy : Ev L y v] [h1 : OneV v] [hb : BoxIn H b j cs t] {u : Value} [hu : ListAt cs o u] [hs : SetAt cs o v cs'] [hH : SetAt H j (Ent.box b cs' t) H']
    (hr : decide (Region.ready .any l.toArray listed = [i]) = true) (hHr : Hr.Sublist H')
    (kk : G N ds S w0 L H' (wpAnyH P .any l.toArray (OnlyN M) (Wd S w0 Hr) fuel (listed.setIfInBounds i true))) : G N ds S w0 L H (wpAnyH P .any l.toArray (OnlyN M) (Wd S w0 Hr) (fuel + 1) listed) := by
  refine h_skip i rfl hr fun a w hS => ?_
  have hbx := hS.wd.boxAt j hb.at'
  have := run_storeOne (P := P) (T := T) h1.one (hS.wd.cellBox j hb.at' hu.at') (by simp [World.frozen?, hbx])
  have hw' := hS.wd.setBox j (o := o) v hb.at'
  rw [hs.set', hH.set'] at hw'
  exact ⟨w.setCell ⟨b, o, none⟩ v, by simp [execOp, hx.eq _ _ _ hS.fr, hy.eq _ _ _ hS.fr, this], hw'.sub hHr, kk _ _ ⟨hS.fr, hw'⟩⟩
theorem h_storeAgg {ty T b o j t n : Nat} (i : Nat) [h : AggSize P T n] {cs vs cs' : List Value} {pos : String} {aft : Array Go.Edge} [ho : ListAt l i ⟨none, .store T x y, ty, pos, aft, none⟩]
    [hx : Ev L x (.pointer (some ⟨b, o, none⟩))] [hy : Ev L y (.agg vs.toArray)] [hb : BoxIn H b j cs t] [hn : LenIs vs n] [hp : PutAt cs o vs cs'] [h1 : OneVs vs] [hH : SetAt H j (Ent.box b cs' t) H']
    (hr : decide (Region.ready .any l.toArray listed = [i]) = true) (hHr : Hr.Sublist H')
    (kk : G N ds S w0 L H' (wpAnyH P .any l.toArray (OnlyN M) (Wd S w0 Hr) fuel (listed.setIfInBounds i true))) : G N ds S w0 L H (wpAnyH P .any l.toArray (OnlyN M) (Wd S w0 Hr) (fuel + 1) listed) := by
  refine h_skip i rfl hr fun a w hS => ?_
  have hbx := hS.wd.boxAt j hb.at'
  have hs := run_storeCells_at P b o t vs 0 cs.toArray w hbx (by simpa using hp.le) h1.all
  have e : (cs.toArray.toList.take (o + 0) ++ vs ++ cs.toArray.toList.drop (o + 0 + vs.length)).toArray = cs'.toArray := by
    rw [← hp.eq, ← putL_eq cs o vs hp.le]
    simp
  rw [e] at hs
  have hw' := hS.wd.rowBox j cs' hb.at'
  rw [hH.set'] at hw'
  exact ⟨w.setRow b cs'.toArray, by simp [execOp, hx.eq _ _ _ hS.fr, hy.eq _ _ _ hS.fr, Instr.storeAt, Instr.sureAddr, storeVar, h.sz, Value.cells, hn.eq, hs], hw'.sub hHr, kk _ _ ⟨hS.fr, hw'⟩⟩
/-- all is done -/
theorem h_end (hr : (Region.ready .any l.toArray listed).isEmpty = true) (k : G N ds S w0 L H M) : G N ds S w0 L H (wpAnyH P .any l.toArray (OnlyN M) (Wd S w0 Hr) fuel listed) := fun a w hS => wpAnyH_done (List.isEmpty_iff.1 hr) (k a w hS) _
end
end Go.Proofs.YtbmnkjaelfjlhaaDoor


/- turneryref3.LiveAt, live.lists, live.In, live.Out: what they return. -/
namespace Go.Proofs.YtbmnkjaelfjlhaaDoor
open Go Go.RowKit
attribute [local irreducible] wpListIn Code.wpIn Exit.then Exit.inBlock bodyPost wpQuiet wpAnyIn wpAnyH
set_option maxHeartbeats 4000000

end Go.Proofs.YtbmnkjaelfjlhaaDoor


/- live.In and live.Out: what they return. -/
namespace Go.Proofs.YtbmnkjaelfjlhaaDoor
open Go Go.RowKit
attribute [local irreducible] wpListIn Code.wpIn Exit.then Exit.inBlock bodyPost wpQuiet wpAnyIn wpAnyH
set_option maxHeartbeats 4000000

theorem check_args {u : LUnit} (h : (checkL u).1 = 0) {k : Nat} {X : LFunc} (hX : u.funcs[k]? = some X) : ∀ B ∈ X.blocks, ∀ x ∈ B.list, x.args.length ≤ 1000 := fun B hB x hx => by
  have hb := check_bodies h X (List.mem_of_getElem? hX)
  obtain ⟨b, hbB⟩ := List.getElem?_of_mem hB
  unfold bodyErr at hb
  split at hb
  · rename_i h1; exact absurd hb h1
  have hb := firstI_zero hb b (List.getElem?_eq_some_iff.1 hbB).1
  simp only [blockErr, hbB] at hb
  split at hb
  · rename_i h2; exact absurd hb h2
  have hi := at0_all hb x hx
  by_cases e : x.op = 20
  · unfold insErr at hi
    split at hi
    · cases hi
    split at hi
    · cases hi
    split at hi
    · rename_i h3
      simp only [Bool.and_eq_true, Bool.not_eq_true', decide_eq_false_iff_not] at h3
      exact absurd hi h3.2
    split at hi
    · rename_i h4; exact absurd hi h4
    split at hi
    · rename_i h5; exact absurd hi h5
    unfold callErr at hi
    rw [if_neg (by simpa using e)] at hi
    split at hi
    · cases hi
    rename_i h6
    split at hi
    · cases hi
    rename_i h7
    simp only [within, Bool.not_eq_true', Bool.and_eq_false_iff, decide_eq_false_iff_not, not_or, Decidable.not_not] at h6
    simp only [ne_eq, Decidable.not_not, at0] at h7
    split at h7
    · rename_i Y hY
      have := check_head h hY
      omega
    · omega
  · rw [(insErr_ok (R := X.regs.toNat) (fs := u.funcs) (by rw [Int.toNat_of_nonneg (by have := check_head h hX; omega)]; exact hi)).args e]
    simp
theorem light_lens {X : LFunc} (h : lightF X) : ∀ B ∈ X.blocks, B.list.length ≤ 1000 ∧ B.phis.length ≤ 1000 := fun B hB => by
  have h1 : ((B.phis.length + B.list.length : Nat) : Int) ≤ sizeOfBs X.blocks := by
    unfold sizeOfBs
    generalize X.blocks = l at hB
    induction l with
    | nil => cases hB
    | cons C l ih =>
      have hnn : ∀ m : List LBlock, 0 ≤ (m.map fun b => ((b.phis.length + b.list.length : Nat) : Int)).sum := fun m => by
        induction m with
        | nil => simp
        | cons D m ih => simp only [List.map_cons, List.sum_cons]; omega
      simp only [List.map_cons, List.sum_cons]
      rcases List.mem_cons.1 hB with rfl | hB
      · have := hnn l; omega
      · have := ih hB; omega
  have := h.2
  omega
end Go.Proofs.YtbmnkjaelfjlhaaDoor


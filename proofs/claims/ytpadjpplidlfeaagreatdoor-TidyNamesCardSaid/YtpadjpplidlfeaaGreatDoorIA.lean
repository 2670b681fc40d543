/- Texts joined: TidyP TidyM TidyS. -/
import Derived.Test.YtpadjpplidlfeaaGreatDoorGG
import Derived.Test.YtpadjpplidlfeaaGreatDoorHN
import Derived.Test.YtpadjpplidlfeaaGreatDoorHP
import Derived.Test.YtpadjpplidlfeaaGreatDoorHW
/- Plain: some blocks kept, in an order. -/
namespace Go.Proofs.YtpadjpplidlfeaaGreatDoor
open Go Go.RowKit

def retB : LBlock := ⟨[], [], 1, ⟨false, 0⟩, []⟩
def blkAt (bl : List LBlock) (b : Nat) : LBlock := bl[b]?.getD retB
def keepPhi (bl : List LBlock) (o : List Nat) (b : Nat) (p : LPhi) : LPhi := ⟨p.dst, (o.filter fun q => decide (q ∈ preds bl b)).map (srcAt bl b p)⟩
def keepB (bl : List LBlock) (o : List Nat) (b : Nat) (B : LBlock) : LBlock := { B with phis := B.phis.map (keepPhi bl o b), to := B.to.map fun t => ((o.idxOf t.toNat : Nat) : Int) }
/-- the blocks in o alone, in that order; what they lead to is in it, too -/
def keptL (bl : List LBlock) (o : List Nat) : List LBlock := o.map fun b => keepB bl o b (blkAt bl b)
structure KOk (bl : List LBlock) (o : List Nat) : Prop where
  nodup : o.Nodup
  lt : ∀ b ∈ o, b < bl.length
  closed : ∀ b ∈ o, ∀ t ∈ toOf bl b, t.toNat ∈ o
def nth (o : List Nat) (i : Nat) : Nat := o[i]?.getD 0
theorem nth_get {o : List Nat} {i b : Nat} (h : o[i]? = some b) : nth o i = b := by unfold nth; rw [h]; rfl
theorem get_nth {o : List Nat} {i : Nat} (h : i < o.length) : o[i]? = some (nth o i) := by unfold nth; rw [List.getElem?_eq_getElem h]; rfl
theorem nth_mem {o : List Nat} {i : Nat} (h : i < o.length) : nth o i ∈ o := List.mem_of_getElem? (get_nth h)
theorem idx_lt {o : List Nat} {b : Nat} (h : b ∈ o) : o.idxOf b < o.length := List.idxOf_lt_length_of_mem h
theorem nth_idx {o : List Nat} {b : Nat} (h : b ∈ o) : nth o (o.idxOf b) = b := by
  unfold nth
  rw [List.getElem?_eq_getElem (idx_lt h), List.getElem_idxOf]
  rfl
theorem nth_inj {o : List Nat} (hn : o.Nodup) {i j : Nat} (hi : i < o.length) (hj : j < o.length) (h : nth o i = nth o j) : i = j := by
  unfold nth at h
  rw [List.getElem?_eq_getElem hi, List.getElem?_eq_getElem hj] at h
  exact (List.getElem_inj hn).1 h
theorem idx_nth {o : List Nat} (hn : o.Nodup) {i : Nat} (hi : i < o.length) : o.idxOf (nth o i) = i :=
  nth_inj hn (idx_lt (nth_mem hi)) hi (nth_idx (nth_mem hi))
theorem map_nth (o : List Nat) : (List.range o.length).map (nth o) = o := by
  apply List.ext_getElem?
  intro i
  rw [List.getElem?_map]
  by_cases h : i < o.length
  · rw [List.getElem?_range h, Option.map_some, ← get_nth h]
  · rw [List.getElem?_eq_none (by simp; omega), List.getElem?_eq_none (by omega)]; rfl
theorem keptL_len (bl : List LBlock) (o : List Nat) : (keptL bl o).length = o.length := by simp [keptL]
theorem blkAt_get {bl : List LBlock} {b : Nat} {B : LBlock} (h : bl[b]? = some B) : blkAt bl b = B := by unfold blkAt; rw [h]; rfl
theorem get_blkAt {bl : List LBlock} {b : Nat} (h : b < bl.length) : bl[b]? = some (blkAt bl b) := by unfold blkAt; rw [List.getElem?_eq_getElem h]; rfl
theorem keptL_get {bl : List LBlock} {o : List Nat} {i b : Nat} (h : o[i]? = some b) : (keptL bl o)[i]? = some (keepB bl o b (blkAt bl b)) := by
  unfold keptL
  rw [List.getElem?_map, h]
  rfl
theorem toOf_at {bl : List LBlock} {b : Nat} (h : b < bl.length) : toOf bl b = (blkAt bl b).to := by
  unfold toOf
  rw [get_blkAt h]
section
variable {bl : List LBlock} {o : List Nat} (hg : GoodB bl) (hk : KOk bl o)
include hg hk
theorem toOf_keep {i b : Nat} (h : o[i]? = some b) : toOf (keptL bl o) i = (toOf bl b).map fun t => ((o.idxOf t.toNat : Nat) : Int) := by
  have _ := hg
  rw [toOf_at (hk.lt b (List.mem_of_getElem? h))]
  unfold toOf
  rw [keptL_get h]
  rfl
theorem keep_good : GoodB (keptL bl o) := fun C hC => by
  obtain ⟨i, hi⟩ := List.getElem?_of_mem hC
  have hil : i < o.length := by rw [← keptL_len bl o]; exact (List.getElem?_eq_some_iff.1 hi).1
  have hto := toOf_keep hg hk (get_nth hil)
  have h1 : toOf (keptL bl o) i = C.to := by unfold toOf; rw [hi]
  rw [h1] at hto
  rw [hto, keptL_len]
  have hb := hk.lt _ (nth_mem hil)
  refine ⟨by rw [List.length_map, toOf_at hb]; exact (hg _ (List.mem_of_getElem? (get_blkAt hb))).1, fun t ht => ?_⟩
  obtain ⟨x, hx, rfl⟩ := List.mem_map.1 ht
  have := idx_lt (hk.closed _ (nth_mem hil) x hx)
  omega
theorem mem_keep {i j b t : Nat} (hi : o[i]? = some b) (hj : o[j]? = some t) : (j : Int) ∈ toOf (keptL bl o) i ↔ (t : Int) ∈ toOf bl b := by
  have hbm := List.mem_of_getElem? hi
  have hjl := (List.getElem?_eq_some_iff.1 hj).1
  rw [toOf_keep hg hk hi, List.mem_map]
  constructor
  · rintro ⟨x, hx, e⟩
    have h1 := edge_of hg hx
    have h2 := nth_idx (hk.closed b hbm x hx)
    rw [show o.idxOf x.toNat = j by omega, nth_get hj] at h2
    rw [show (t : Int) = x by omega]
    exact hx
  · intro h
    refine ⟨t, h, ?_⟩
    rw [Int.toNat_natCast]
    have := idx_nth hk.nodup hjl
    rw [nth_get hj] at this
    rw [this]
theorem preds_keep {j t : Nat} (hj : o[j]? = some t) : preds (keptL bl o) j = (List.range o.length).filter fun i => decide (nth o i ∈ preds bl t) := by
  unfold preds
  rw [keptL_len]
  refine List.filter_congr fun i hi => ?_
  have hil := List.mem_range.1 hi
  rw [decide_eq_decide, mem_keep hg hk (get_nth hil) hj, List.mem_filter, List.mem_range, decide_eq_true_eq]
  exact ⟨fun h => ⟨hk.lt _ (nth_mem hil), h⟩, fun h => h.2⟩
theorem preds_keep_map {j t : Nat} (hj : o[j]? = some t) : (preds (keptL bl o) j).map (nth o) = o.filter fun q => decide (q ∈ preds bl t) := by
  rw [preds_keep hg hk hj]
  have h := map_nth o
  have h2 : ((List.range o.length).map (nth o)).filter (fun q => decide (q ∈ preds bl t)) = ((List.range o.length).filter fun i => decide (nth o i ∈ preds bl t)).map (nth o) := by rw [List.filter_map]; rfl
  rw [← h2, h]
theorem keepPhi_src {j t : Nat} (hj : o[j]? = some t) (p : LPhi) : (keepPhi bl o t p).src = (preds (keptL bl o) j).map fun i => srcAt bl t p (nth o i) := by
  unfold keepPhi
  rw [← preds_keep_map hg hk hj, List.map_map]
  rfl
omit hk in
theorem keep_nodup (hk : KOk bl o) (hnd : ∀ (b : Nat) B, bl[b]? = some B → B.to.Nodup) : ∀ (i : Nat) C, (keptL bl o)[i]? = some C → C.to.Nodup := fun i C hC => by
  have hil : i < o.length := by rw [← keptL_len bl o]; exact (List.getElem?_eq_some_iff.1 hC).1
  have hb := hk.lt _ (nth_mem hil)
  have hto := toOf_keep hg hk (get_nth hil)
  have h1 : toOf (keptL bl o) i = C.to := by unfold toOf; rw [hC]
  rw [← h1, hto]
  refine nodup_mapOn (by rw [toOf_at hb]; exact hnd _ _ (get_blkAt hb)) fun x hx y hy e => ?_
  have hx1 := edge_of hg hx
  have hy1 := edge_of hg hy
  have hx2 := nth_idx (hk.closed _ (nth_mem hil) x hx)
  have hy2 := nth_idx (hk.closed _ (nth_mem hil) y hy)
  rw [show o.idxOf x.toNat = o.idxOf y.toNat by omega] at hx2
  omega
end
theorem keep_funcOk {R : Nat} {bl : List LBlock} {o : List Nat} (hf : FuncOk R bl) (hk : KOk bl o) : FuncOk R (keptL bl o) := by
  have hg := hf.good
  refine ⟨keep_good hg hk, fun i C hC => ?_⟩
  have hil : i < o.length := by rw [← keptL_len bl o]; exact (List.getElem?_eq_some_iff.1 hC).1
  have hnd := keep_nodup hg hk (fun b B hB => (hf.block b B hB).to) i C hC
  have hb := hk.lt _ (nth_mem hil)
  have hB := hf.block _ _ (get_blkAt hb)
  rw [keptL_get (get_nth hil)] at hC
  obtain rfl := Option.some.inj hC
  refine ⟨fun p' hp' => ?_, hB.list, hB.on, hnd⟩
  unfold keepB at hp'
  simp only at hp'
  obtain ⟨p, hp, rfl⟩ := List.mem_map.1 hp'
  have hpo := hB.phis p hp
  refine ⟨hpo.dst, by rw [keepPhi_src hg hk (get_nth hil), List.length_map], fun v hv => ?_⟩
  unfold keepPhi at hv
  simp only at hv
  obtain ⟨x, hx, rfl⟩ := List.mem_map.1 hv
  have h2 := (List.mem_filter.1 hx).2
  exact hpo.vals _ (srcAt_mem (R := R) hpo.len (by simpa using h2))
/-! ### Going through kept blocks -/
/-- the blocks of bl' are some of bl, by other numbers -/
structure RenB (bl bl' : List LBlock) (π : Nat → Nat) : Prop where
  lt : ∀ i, i < bl'.length → π i < bl.length
  inj : ∀ i j, i < bl'.length → j < bl'.length → π i = π j → i = j
  to : ∀ i, i < bl'.length → ((toOf bl' i).map Int.toNat).map π = (toOf bl (π i)).map Int.toNat
  good : GoodB bl'
structure RelD (bl bl' : List LBlock) (π : Nat → Nat) (st st' : List Bool × List Nat) : Prop where
  len : st.1.length = bl.length
  len' : st'.1.length = bl'.length
  seen : ∀ i, i < bl'.length → st'.1[i]? = st.1[π i]?
  left : st.2 = st'.2.map π
/-- what is reached, kept in reverse post-order -/
theorem orderK_ok {bl : List LBlock} (hg : GoodB bl) (h0 : 0 < bl.length) : KOk bl (orderL bl) := by
  have ho := orderL_ord hg h0
  refine ⟨ho.nodup, fun b hb => hg.rch h0 ((ho.mem b).1 hb), fun b hb t ht => (ho.mem _).2 ?_⟩
  have := edge_of hg ht
  exact .step ((ho.mem b).1 hb) (by unfold Edge; rw [show ((t.toNat : Nat) : Int) = t by omega]; exact ht) (by omega)
theorem order_pos {bl : List LBlock} (hg : GoodB bl) (h0 : 0 < bl.length) : 0 < (orderL bl).length ∧ nth (orderL bl) 0 = 0 := by
  have ho := orderL_ord hg h0
  exact ⟨(List.getElem?_eq_some_iff.1 ho.zero).1, nth_get ho.zero⟩
end Go.Proofs.YtpadjpplidlfeaaGreatDoor


/- Plain: registers as they are met, and blocks with their registers renamed. -/
namespace Go.Proofs.YtpadjpplidlfeaaGreatDoor
open Go Go.RowKit

/-! ### A list, each once -/
def meet (l : List Int) (r : Int) : List Int := if r ∈ l then l else l ++ [r]
def meets (l s : List Int) : List Int := s.foldl meet l
def once (s : List Int) : List Int := meets [] s
theorem meets_app (l s t : List Int) : meets l (s ++ t) = meets (meets l s) t := List.foldl_append
theorem meets_nil (l : List Int) : meets l [] = l := rfl
theorem meets_cons (l : List Int) (r : Int) (t : List Int) : meets l (r :: t) = meets (meet l r) t := rfl
theorem once_app (s t : List Int) : once (s ++ t) = meets (once s) t := meets_app _ _ _
theorem mem_meet {l : List Int} {r x : Int} : x ∈ meet l r ↔ x ∈ l ∨ x = r := by
  unfold meet
  split
  · rename_i h
    exact ⟨.inl, fun h2 => h2.elim id fun e => e ▸ h⟩
  · rw [List.mem_append, List.mem_singleton]
theorem mem_meets {s : List Int} : ∀ {l : List Int} {x : Int}, x ∈ meets l s ↔ x ∈ l ∨ x ∈ s := by
  induction s with
  | nil => intro l x; rw [meets_nil]; simp
  | cons a s ih =>
    intro l x
    rw [meets_cons, ih, mem_meet, List.mem_cons, or_assoc]
theorem mem_once {s : List Int} {x : Int} : x ∈ once s ↔ x ∈ s := by unfold once; rw [mem_meets]; simp
theorem meet_nodup {l : List Int} {r : Int} (h : l.Nodup) : (meet l r).Nodup := by
  unfold meet
  split
  · exact h
  · rename_i hr
    exact List.nodup_append.2 ⟨h, by simp, fun a ha b hb e => hr (by rw [List.mem_singleton] at hb; rw [← hb, ← e]; exact ha)⟩
theorem meets_nodup {s : List Int} : ∀ {l : List Int}, l.Nodup → (meets l s).Nodup := by
  induction s with
  | nil => intro l h; exact h
  | cons a s ih => intro l h; exact ih (meet_nodup h)
theorem once_nodup (s : List Int) : (once s).Nodup := meets_nodup List.nodup_nil
theorem meet_pre (l : List Int) (r : Int) : l <+: meet l r := by
  unfold meet
  split
  · exact List.prefix_refl l
  · exact List.prefix_append _ _
theorem meets_pre (s : List Int) : ∀ l : List Int, l <+: meets l s := by
  induction s with
  | nil => exact fun l => List.prefix_refl l
  | cons a s ih => exact fun l => (meet_pre l a).trans (ih _)
theorem once_pre (s t : List Int) : once s <+: once (s ++ t) := by rw [once_app]; exact meets_pre _ _
theorem idx_pre {l m : List Int} {r : Int} (h : l <+: m) (hr : r ∈ l) : m.idxOf r = l.idxOf r := by
  obtain ⟨t, rfl⟩ := h
  rw [List.idxOf_append, if_pos hr]
theorem meet_in {l : List Int} {r : Int} (h : r ∈ l) : meet l r = l := by unfold meet; rw [if_pos h]
theorem meets_in {s : List Int} : ∀ {l : List Int}, (∀ r ∈ s, r ∈ l) → meets l s = l := by
  induction s with
  | nil => intro l _; rfl
  | cons a s ih => intro l h; rw [meets_cons, meet_in (h a (by simp))]; exact ih fun r hr => h r (by simp [hr])
theorem once_self {s : List Int} (h : s.Nodup) : once s = s := by
  have key : ∀ (s l : List Int), (l ++ s).Nodup → meets l s = l ++ s := by
    intro s
    induction s with
    | nil => intro l _; rw [meets_nil, List.append_nil]
    | cons a s ih =>
      intro l h
      have ha : a ∉ l := fun hl => (List.nodup_append.1 h).2.2 a hl a (by simp) rfl
      rw [meets_cons, show meet l a = l ++ [a] by unfold meet; rw [if_neg ha], ih _ (by simpa using h)]
      simp
  exact key s [] (by simpa using h)
/-! ### Registers in the order in which they are named -/
def seqV (v : LVal) : List Int := if v.reg then [v.n] else []
def seqI (x : LIns) : List Int := (usesOf x).flatMap seqV ++ if 0 ≤ x.dst then [x.dst] else []
def seqB (B : LBlock) : List Int := B.phis.map (·.dst) ++ (B.list.flatMap seqI ++ seqV B.on)
def seqP (B : LBlock) : List Int := B.phis.flatMap fun p => p.src.flatMap seqV
def parL (n : Nat) : List Int := (List.range n).map fun x : Nat => (x : Int)
def seqL (params : Nat) (bl : List LBlock) : List Int := parL params ++ (bl.flatMap seqB ++ bl.flatMap seqP)
def metL (params : Nat) (bl : List LBlock) : List Int := once (seqL params bl)
/-! ### Renamed -/
def plc (L : List Int) (r : Int) : Int := ((L.idxOf r : Nat) : Int)
def renV (L : List Int) (v : LVal) : LVal := if v.reg then ⟨true, plc L v.n⟩ else v
def renR (L : List Int) (r : Int) : Int := if 0 ≤ r then plc L r else r
def renI (L : List Int) (x : LIns) : LIns := { x with a := renV L x.a, b := renV L x.b, args := x.args.map (renV L), dst := renR L x.dst }
def renP (L : List Int) (p : LPhi) : LPhi := ⟨plc L p.dst, p.src.map (renV L)⟩
def renB (L : List Int) (B : LBlock) : LBlock := { B with phis := B.phis.map (renP L), list := B.list.map (renI L), on := renV L B.on }
def keptF (X : LFunc) : List LBlock := keptL X.blocks (orderL X.blocks)
/-- a function's blocks and registers by new numbers -/
def namesF (X : LFunc) : LFunc := { X with regs := (metL X.params.toNat (keptF X)).length, blocks := (keptF X).map (renB (metL X.params.toNat (keptF X))) }
theorem plc_lt {L : List Int} {r : Int} (h : r ∈ L) : 0 ≤ plc L r ∧ plc L r < L.length := by
  have := List.idxOf_lt_length_of_mem h
  unfold plc
  omega
theorem plc_inj {L : List Int} {a b : Int} (ha : a ∈ L) (hb : b ∈ L) (h : plc L a = plc L b) : a = b := by
  unfold plc at h
  have h1 : L[L.idxOf a]'(List.idxOf_lt_length_of_mem ha) = a := List.getElem_idxOf _
  have h2 : L[L.idxOf b]'(List.idxOf_lt_length_of_mem hb) = b := List.getElem_idxOf _
  have h3 : L.idxOf a = L.idxOf b := by omega
  rw [← h1, ← h2]
  simp only [h3]
theorem plc_pre {l m : List Int} {r : Int} (h : l <+: m) (hr : r ∈ l) : plc m r = plc l r := by unfold plc; rw [idx_pre h hr]
theorem parL_nodup (n : Nat) : (parL n).Nodup := nodup_mapOn List.nodup_range fun x _ y _ e => by omega
theorem mem_parL {n : Nat} {r : Int} : r ∈ parL n ↔ 0 ≤ r ∧ r < n := by
  unfold parL
  rw [List.mem_map]
  constructor
  · rintro ⟨x, hx, rfl⟩
    have := List.mem_range.1 hx
    omega
  · rintro ⟨h1, h2⟩
    exact ⟨r.toNat, List.mem_range.2 (by omega), by omega⟩
theorem parL_len (n : Nat) : (parL n).length = n := by simp [parL]
theorem plc_parL {n : Nat} {r : Int} (h : r ∈ parL n) : plc (parL n) r = r := by
  have h1 := plc_lt h
  rw [parL_len] at h1
  have h2 : (parL n)[(parL n).idxOf r]'(List.idxOf_lt_length_of_mem h) = r := List.getElem_idxOf _
  unfold plc at h1 ⊢
  simp only [parL, List.getElem_map, List.getElem_range] at h2
  exact h2
theorem met_par (params : Nat) (bl : List LBlock) : parL params <+: metL params bl := by
  have := once_pre (parL params) (bl.flatMap seqB ++ bl.flatMap seqP)
  rwa [once_self (parL_nodup _)] at this
theorem mem_metL {params : Nat} {bl : List LBlock} {r : Int} : r ∈ metL params bl ↔ r ∈ parL params ∨ (∃ B ∈ bl, r ∈ seqB B) ∨ ∃ B ∈ bl, r ∈ seqP B := by
  unfold metL seqL
  rw [mem_once, List.mem_append, List.mem_append, List.mem_flatMap, List.mem_flatMap]
/-! ### Named again -/
theorem flat_congr {α β : Type} {l : List α} {f g : α → List β} (h : ∀ x ∈ l, f x = g x) : l.flatMap f = l.flatMap g := by
  rw [List.flatMap_def, List.flatMap_def, List.map_congr_left h]
theorem met_len {params : Nat} {R : Nat} {bl : List LBlock} (h : ∀ r ∈ seqL params bl, 0 ≤ r ∧ r < R) : (metL params bl).length ≤ R := by
  have h1 : ((metL params bl).map Int.toNat).Nodup := nodup_mapOn (once_nodup _) fun x hx y hy e => by
    have := h x (mem_once.1 hx)
    have := h y (mem_once.1 hy)
    omega
  have h2 : ∀ x ∈ (metL params bl).map Int.toNat, x ∈ List.range R := fun x hx => by
    obtain ⟨y, hy, rfl⟩ := List.mem_map.1 hx
    have := h y (mem_once.1 hy)
    exact List.mem_range.2 (by omega)
  have := h1.length_le_of_subset h2
  simpa using this
end Go.Proofs.YtpadjpplidlfeaaGreatDoor


/- Plain: a unit whose blocks and registers have other numbers runs as before, step by step. -/
namespace Go.Proofs.YtpadjpplidlfeaaGreatDoor
open Go Go.RowKit

/-! ### Registers by other numbers -/
def RegR (L rs ss : List Int) : Prop := ∀ r ∈ L, ss[(plc L r).toNat]? = rs[r.toNat]?
theorem RegR.val {L : List Int} {f g : Frm} (h : RegR L f.regs g.regs) {v : LVal} (hv : v.reg = true → v.n ∈ L) : valM g (renV L v) = valM f v := by
  unfold valM renV
  by_cases hr : v.reg = true
  · rw [if_pos hr, if_pos hr]
    simp only [if_true]
    rw [List.getD_eq_getElem?_getD, List.getD_eq_getElem?_getD, h v.n (hv hr)]
  · rw [if_neg hr, if_neg hr, if_neg hr]
theorem RegR.put {L rs ss : List Int} (hL : ∀ r ∈ L, 0 ≤ r) (h : RegR L rs ss) {d : Int} (hd : d ∈ L) (n : Int) : RegR L (rs.set d.toNat n) (ss.set (plc L d).toNat n) := fun r hr => by
  have h0 := h d hd
  rw [List.getElem?_set, List.getElem?_set]
  by_cases e : d = r
  · subst e
    rw [if_pos rfl, if_pos rfl]
    by_cases h1 : d.toNat < rs.length
    · rw [if_pos h1, if_pos]
      rw [List.getElem?_eq_getElem h1] at h0
      exact (List.getElem?_eq_some_iff.1 h0).1
    · rw [if_neg h1, if_neg]
      rw [List.getElem?_eq_none (l := rs) (by omega)] at h0
      have := List.getElem?_eq_none_iff.1 h0
      omega
  · have h1 : ¬ d.toNat = r.toNat := fun e2 => e (by have := hL d hd; have := hL r hr; omega)
    have h2 : ¬ (plc L d).toNat = (plc L r).toNat := fun e2 => e (plc_inj hd hr (by have := plc_lt hd; have := plc_lt hr; omega))
    rw [if_neg h1, if_neg h2]
    exact h r hr
theorem RegR.set {L rs ss : List Int} (hL : ∀ r ∈ L, 0 ≤ r) (h : RegR L rs ss) {d : Int} (hd : 0 ≤ d → d ∈ L) (n : Int) : RegR L (setR rs d n) (setR ss (renR L d) n) := by
  unfold setR renR
  by_cases h1 : 0 ≤ d
  · have := plc_lt (hd h1)
    rw [if_pos h1, if_pos h1, if_pos (by omega)]
    exact h.put hL (hd h1) n
  · rw [if_neg h1, if_neg h1, if_neg h1]
    exact h
theorem RegR.phis {L : List Int} (hL : ∀ r ∈ L, 0 ≤ r) {f g : Frm} (h : RegR L f.regs g.regs) {k k' : Nat} {F : LPhi → LPhi} {ps : List LPhi} (hp : ∀ p ∈ ps, p.dst ∈ L ∧ (F p).dst = plc L p.dst ∧ valM g ((F p).src.getD k' noV) = valM f (p.src.getD k noV)) : RegR L (phisM f k ps) (phisM g k' (ps.map F)) := by
  unfold phisM
  rw [List.foldl_map]
  have key : ∀ (ps : List LPhi) (rs ss : List Int), (∀ p ∈ ps, p.dst ∈ L ∧ (F p).dst = plc L p.dst ∧ valM g ((F p).src.getD k' noV) = valM f (p.src.getD k noV)) → RegR L rs ss → RegR L (ps.foldl (fun regs p => regs.set p.dst.toNat (valM f (p.src.getD k noV))) rs) (ps.foldl (fun regs p => regs.set (F p).dst.toNat (valM g ((F p).src.getD k' noV))) ss) := by
    intro ps
    induction ps with
    | nil => exact fun _ _ _ h => h
    | cons p ps ih =>
      intro rs ss hp h
      obtain ⟨h1, h2, h3⟩ := hp p (by simp)
      rw [List.foldl_cons, List.foldl_cons, h2, h3]
      exact ih _ _ (fun q hq => hp q (by simp [hq])) (h.put hL h1 _)
  exact key ps _ _ hp h
theorem RegR.enter {L args : List Int} {P R : Nat} (hp : parL P <+: L) (hb : ∀ r ∈ L, 0 ≤ r ∧ r < R) (ha : args.length = P) : RegR L (enterR R args) (enterR L.length args) := fun r hr => by
  have h1 := hb r hr
  have h2 := plc_lt hr
  have hk : ∀ i : Nat, (args ++ List.replicate R 0)[i]? = (if i < P then args[i]? else (List.replicate R (0 : Int))[i - P]?) ∧ (args ++ List.replicate L.length 0)[i]? = if i < P then args[i]? else (List.replicate L.length (0 : Int))[i - P]? := fun i => by
    rw [List.getElem?_append, List.getElem?_append, ha]
    exact ⟨rfl, rfl⟩
  unfold enterR
  rw [List.getElem?_take, List.getElem?_take, if_pos (by omega), if_pos (by omega), (hk _).1, (hk _).2]
  by_cases h3 : r.toNat < P
  · have h4 : plc L r = r := by
      have h5 : r ∈ parL P := mem_parL.2 (by omega)
      rw [plc_pre hp h5, plc_parL h5]
    rw [if_pos h3, if_pos (by omega), h4]
  · have h4 : ¬ (plc L r).toNat < P := fun h4 => by
      have h5 : plc L r ∈ parL P := mem_parL.2 (by omega)
      have h6 : plc L (plc L r) = plc L r := by rw [plc_pre hp h5, plc_parL h5]
      have h7 := plc_inj (hp.subset h5) hr h6
      omega
    rw [if_neg h3, if_neg h4, List.getElem?_replicate, List.getElem?_replicate, if_pos (by omega), if_pos (by omega)]

/-! ### One function, one unit -/
structure NmF (X Y : LFunc) (o : List Nat) (L : List Int) : Prop where
  ok : KOk X.blocks o
  zero : 0 < o.length ∧ nth o 0 = 0
  blocks : Y.blocks = (keptL X.blocks o).map (renB L)
  regs : Y.regs = L.length
  par : parL X.params.toNat <+: L
  all : ∀ B ∈ keptL X.blocks o, ∀ r, r ∈ seqB B ∨ r ∈ seqP B → r ∈ L
  bound : ∀ r ∈ L, 0 ≤ r ∧ r < X.regs
structure NmU (u v : LUnit) (o : Nat → List Nat) (L : Nat → List Int) : Prop where
  globs : v.globals = u.globals
  main : mainAt v.funcs = mainAt u.funcs
  fn : ∀ (k : Nat) X, u.funcs[k]? = some X → ∃ Y, v.funcs[k]? = some Y ∧ NmF X Y (o k) (L k)
structure FTn (o : Nat → List Nat) (L : Nat → List Int) (f g : Frm) : Prop where
  fn : g.fn = f.fn
  block : g.block < (o f.fn).length ∧ nth (o f.fn) g.block = f.block
  at' : g.at' = f.at'
  regs : RegR (L f.fn) f.regs g.regs
structure FRn (o : Nat → List Nat) (L : Nat → List Int) (d e : Int) (f g : Frm) : Prop where
  same : FTn o L f g
  dst : e = renR (L f.fn) d
  has : 0 ≤ d → d ∈ L f.fn
theorem FRn.back {o : Nat → List Nat} {L : Nat → List Int} {d e : Int} {f g : Frm} (h : FRn o L d e f g) (hL : ∀ r ∈ L f.fn, 0 ≤ r) (n : Int) : FTn o L (f.set d n) (g.set e n) := by
  obtain ⟨⟨h1, h2, h3, h4⟩, h5, h6⟩ := h
  subst h5
  exact ⟨h1, h2, h3, h4.set hL h6 n⟩
/-- what the runs have to do with each other -/
structure RelN (u : LUnit) (o : Nat → List Nat) (L : Nat → List Int) (s t : Mac) : Prop where
  ok : MacOk u (s.steps + 1) s
  rel : RelM (FRn o L) (FTn o L) s t
theorem seqI_val {x : LIns} {v : LVal} (h : v ∈ usesOf x) (hr : v.reg = true) : v.n ∈ seqI x := by
  unfold seqI
  refine List.mem_append_left _ (List.mem_flatMap.2 ⟨v, h, ?_⟩)
  unfold seqV
  rw [if_pos hr]
  simp
theorem seqI_dst {x : LIns} (h : 0 ≤ x.dst) : x.dst ∈ seqI x := by
  unfold seqI
  rw [if_pos h]
  simp
theorem seqB_ins {B : LBlock} {x : LIns} (h : x ∈ B.list) {r : Int} (hr : r ∈ seqI x) : r ∈ seqB B := by
  unfold seqB
  exact List.mem_append_right _ (List.mem_append_left _ (List.mem_flatMap.2 ⟨x, h, hr⟩))
theorem seqB_on {B : LBlock} (h : B.on.reg = true) : B.on.n ∈ seqB B := by
  unfold seqB seqV
  rw [if_pos h]
  simp
theorem seqB_phi {B : LBlock} {p : LPhi} (h : p ∈ B.phis) : p.dst ∈ seqB B := by
  unfold seqB
  exact List.mem_append_left _ (List.mem_map.2 ⟨p, h, rfl⟩)
theorem seqP_val {B : LBlock} {p : LPhi} (h : p ∈ B.phis) {v : LVal} (hv : v ∈ p.src) (hr : v.reg = true) : v.n ∈ seqP B := by
  unfold seqP
  refine List.mem_flatMap.2 ⟨p, h, List.mem_flatMap.2 ⟨v, hv, ?_⟩⟩
  unfold seqV
  rw [if_pos hr]
  simp
theorem toOf_ren (L : List Int) (bl : List LBlock) (i : Nat) : toOf (bl.map (renB L)) i = toOf bl i := by
  unfold toOf
  rw [List.getElem?_map]
  cases bl[i]? <;> rfl
theorem preds_ren (L : List Int) (bl : List LBlock) (t : Nat) : preds (bl.map (renB L)) t = preds bl t := preds_same (List.length_map _) (toOf_ren L bl) t
end Go.Proofs.YtpadjpplidlfeaaGreatDoor


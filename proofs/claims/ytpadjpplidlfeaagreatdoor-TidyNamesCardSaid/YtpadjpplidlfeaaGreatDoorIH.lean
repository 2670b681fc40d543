/- Texts joined: TidyJ TidyK TidyL TidyD. -/
import Derived.Test.YtpadjpplidlfeaaGreatDoorIB
/- Plain: a block joined with the one to which it jumps. -/
namespace Go.Proofs.YtpadjpplidlfeaaGreatDoor
open Go Go.RowKit

/-- block b jumps to t, which has no phis and no other block ahead -/
structure JoinOk (bl : List LBlock) (b t : Nat) : Prop where
  blt : b < bl.length
  tlt : t < bl.length
  ne : t ≠ b
  kind : (blkAt bl b).kind = 2
  to : (blkAt bl b).to = [(t : Int)]
  none : (blkAt bl t).phis = []
  one : preds bl t = [b]
def toJ (bl : List LBlock) (b t q : Nat) : List Int := if q = t then [] else if q = b then toOf bl t else toOf bl q
def predsJ (bl : List LBlock) (b t c : Nat) : List Nat := (List.range bl.length).filter fun q => decide ((c : Int) ∈ toJ bl b t q)
def phJ (bl : List LBlock) (b t c : Nat) (p : LPhi) : LPhi := ⟨p.dst, (predsJ bl b t c).map fun q => srcAt bl c p (if q = b then t else q)⟩
def blkJ (bl : List LBlock) (b t c : Nat) (B : LBlock) : LBlock :=
  if c = t then retB else if c = b then ⟨B.phis.map (phJ bl b t c), B.list ++ (blkAt bl t).list, (blkAt bl t).kind, (blkAt bl t).on, (blkAt bl t).to⟩ else { B with phis := B.phis.map (phJ bl b t c) }
/-- t goes into b; an empty block stands in its place -/
def joinB (bl : List LBlock) (b t : Nat) : List LBlock := bl.mapIdx (blkJ bl b t)
theorem joinB_len (bl : List LBlock) (b t : Nat) : (joinB bl b t).length = bl.length := by simp [joinB]
theorem joinB_get {bl : List LBlock} {b t c : Nat} {B : LBlock} (h : bl[c]? = some B) : (joinB bl b t)[c]? = some (blkJ bl b t c B) := by
  unfold joinB
  rw [List.getElem?_mapIdx, h]
  rfl
theorem joinB_at {bl : List LBlock} {b t c : Nat} (h : c < bl.length) : blkAt (joinB bl b t) c = blkJ bl b t c (blkAt bl c) := blkAt_get (joinB_get (get_blkAt h))
theorem blkJ_to (bl : List LBlock) (b t c : Nat) (B : LBlock) : (blkJ bl b t c B).to = if c = t then [] else if c = b then (blkAt bl t).to else B.to := by
  unfold blkJ
  split
  · rfl
  split <;> rfl
theorem blkJ_phis (bl : List LBlock) (b t c : Nat) (B : LBlock) : (blkJ bl b t c B).phis = if c = t then [] else B.phis.map (phJ bl b t c) := by
  unfold blkJ
  split
  · rfl
  split <;> rfl
theorem toOf_none {bl : List LBlock} {c : Nat} (h : ¬ c < bl.length) : toOf bl c = [] := by
  unfold toOf
  rw [List.getElem?_eq_none (by omega)]
section
variable {bl : List LBlock} {b t : Nat} (hg : GoodB bl) (hj : JoinOk bl b t)
include hj
theorem toOf_join (c : Nat) : toOf (joinB bl b t) c = toJ bl b t c := by
  by_cases hc : c < bl.length
  · rw [toOf_at (by rw [joinB_len]; exact hc), joinB_at hc, blkJ_to]
    unfold toJ
    rw [toOf_at hj.tlt, toOf_at hc]
  · rw [toOf_none (by rw [joinB_len]; exact hc)]
    unfold toJ
    rw [if_neg (by have := hj.tlt; omega), if_neg (by have := hj.blt; omega), toOf_none hc]
theorem preds_join (c : Nat) : preds (joinB bl b t) c = predsJ bl b t c := by
  unfold preds predsJ
  rw [joinB_len]
  refine List.filter_congr fun q _ => ?_
  rw [toOf_join hj]
theorem toOf_jb : toOf bl b = [(t : Int)] := by rw [toOf_at hj.blt, hj.to]
/-- where what comes from q came from -/
theorem predsJ_mem {c q : Nat} (hc : c ≠ t) : q ∈ predsJ bl b t c ↔ q ≠ t ∧ (if q = b then t else q) ∈ preds bl c := by
  unfold predsJ preds
  rw [List.mem_filter, List.mem_filter, List.mem_range, List.mem_range, decide_eq_true_eq, decide_eq_true_eq]
  unfold toJ
  by_cases h1 : q = t
  · simp [h1]
  · rw [if_neg h1]
    by_cases h2 : q = b
    · rw [if_pos h2, if_pos h2]
      have := hj.tlt
      have := hj.blt
      exact ⟨fun h => ⟨h1, hj.tlt, h.2⟩, fun h => ⟨by omega, h.2.2⟩⟩
    · rw [if_neg h2, if_neg h2]
      exact ⟨fun h => ⟨h1, h⟩, fun h => h.2⟩
include hg
theorem join_good : GoodB (joinB bl b t) := fun C hC => by
  obtain ⟨c, hc⟩ := List.getElem?_of_mem hC
  have hcl : c < bl.length := by rw [← joinB_len bl b t]; exact (List.getElem?_eq_some_iff.1 hc).1
  rw [joinB_get (get_blkAt hcl)] at hc
  obtain rfl := Option.some.inj hc
  rw [blkJ_to, joinB_len]
  split
  · simp
  split
  · exact hg _ (List.mem_of_getElem? (get_blkAt hj.tlt))
  · exact hg _ (List.mem_of_getElem? (get_blkAt hcl))
end
theorem join_nodup {bl : List LBlock} {b t : Nat} (hj : JoinOk bl b t) (hnd : ∀ (c : Nat) B, bl[c]? = some B → B.to.Nodup) : ∀ (c : Nat) B, (joinB bl b t)[c]? = some B → B.to.Nodup := fun c C hc => by
  have hcl : c < bl.length := by rw [← joinB_len bl b t]; exact (List.getElem?_eq_some_iff.1 hc).1
  rw [joinB_get (get_blkAt hcl)] at hc
  obtain rfl := Option.some.inj hc
  rw [blkJ_to]
  split
  · simp
  split
  · exact hnd _ _ (get_blkAt hj.tlt)
  · exact hnd _ _ (get_blkAt hcl)
theorem phJ_mem {R : Nat} {bl : List LBlock} {b t c : Nat} (hf : FuncOk R bl) (hj : JoinOk bl b t) (hc : c ≠ t) (hcl : c < bl.length) {p : LPhi} (hp : p ∈ (blkAt bl c).phis) {v : LVal} (hv : v ∈ (phJ bl b t c p).src) : v ∈ p.src := by
  unfold phJ at hv
  obtain ⟨q, hq, rfl⟩ := List.mem_map.1 hv
  exact srcAt_mem (R := R) ((hf.block c _ (get_blkAt hcl)).phis p hp).len ((predsJ_mem hj hc).1 hq).2
theorem join_funcOk {R : Nat} {bl : List LBlock} {b t : Nat} (hf : FuncOk R bl) (hj : JoinOk bl b t) : FuncOk R (joinB bl b t) := by
  refine ⟨join_good hf.good hj, fun c C hC => ?_⟩
  have hcl : c < bl.length := by rw [← joinB_len bl b t]; exact (List.getElem?_eq_some_iff.1 hC).1
  have hnd := join_nodup hj (fun b B hB => (hf.block b B hB).to) c C hC
  have hB := hf.block _ _ (get_blkAt hcl)
  have hT := hf.block _ _ (get_blkAt hj.tlt)
  rw [joinB_get (get_blkAt hcl)] at hC
  obtain rfl := Option.some.inj hC
  refine ⟨fun p' hp' => ?_, fun x hx => ?_, ?_, hnd⟩
  · rw [blkJ_phis] at hp'
    split at hp'
    · cases hp'
    rename_i hct
    obtain ⟨p, hp, rfl⟩ := List.mem_map.1 hp'
    have hpo := hB.phis p hp
    refine ⟨hpo.dst, by rw [preds_join hj]; simp [phJ], fun v hv => hpo.vals v (phJ_mem hf hj hct hcl hp hv)⟩
  · unfold blkJ at hx
    split at hx
    · cases hx
    split at hx
    · rcases List.mem_append.1 hx with hx | hx
      · exact hB.list x hx
      · exact hT.list x hx
    · exact hB.list x hx
  · unfold blkJ
    split
    · exact fun h => by cases h
    split
    · exact hT.on
    · exact hB.on
theorem many_join {bl : List LBlock} {b t : Nat} (hj : JoinOk bl b t) : manyL (joinB bl b t) = manyL bl := by
  rw [many_range, many_range, joinB_len]
  have hs : ∀ c, c < bl.length → szB (blkAt (joinB bl b t) c) = if c = t then 0 else if c = b then szB (blkAt bl b) + szB (blkAt bl t) else szB (blkAt bl c) := fun c hc => by
    rw [joinB_at hc]
    unfold blkJ
    split
    · rfl
    split
    · rename_i h2
      subst h2
      unfold szB
      simp only [List.length_map, List.length_append, hj.none, List.length_nil]
      omega
    · unfold szB
      simp
  rw [List.map_congr_left fun c hc => hs c (List.mem_range.1 hc)]
  have hpt : (List.range bl.length).Perm (t :: b :: ((List.range bl.length).erase t).erase b) := by
    have h1 := List.perm_cons_erase (List.mem_range.2 hj.tlt)
    have h2 : b ∈ (List.range bl.length).erase t := (List.mem_erase_of_ne (fun e => hj.ne e.symm)).2 (List.mem_range.2 hj.blt)
    exact h1.trans ((List.perm_cons_erase h2).cons t)
  rw [(hpt.map _).sum_nat, (hpt.map fun c => szB (blkAt bl c)).sum_nat]
  simp only [List.map_cons, List.sum_cons, if_true]
  rw [if_neg (fun e => hj.ne e.symm)]
  have hnd : ((List.range bl.length).erase t).Nodup := List.nodup_range.erase t
  have h3 : ∀ c ∈ ((List.range bl.length).erase t).erase b, c ≠ t ∧ c ≠ b := fun c hc => by
    have h4 := (List.Nodup.mem_erase_iff hnd).1 hc
    have h5 := (List.Nodup.mem_erase_iff List.nodup_range).1 h4.2
    exact ⟨h5.1, h4.1⟩
  rw [List.map_congr_left (g := fun c => szB (blkAt bl c)) fun c hc => by rw [if_neg (h3 c hc).1, if_neg (h3 c hc).2]]
  omega
end Go.Proofs.YtpadjpplidlfeaaGreatDoor


/- Plain: a unit with a block joined to the one to which it jumps runs as before, in no more steps; it passes the check. -/
namespace Go.Proofs.YtpadjpplidlfeaaGreatDoor
open Go Go.RowKit

structure FTj (k b t lb : Nat) (f g : Frm) : Prop where
  fn : g.fn = f.fn
  regs : g.regs = f.regs
  dst : g.dst = f.dst
  place : (f.fn = k ∧ f.block = t ∧ g.block = b ∧ g.at' = lb + f.at') ∨ (¬ (f.fn = k ∧ f.block = t) ∧ g.block = f.block ∧ g.at' = f.at')
def FRj (k b t lb : Nat) (d e : Int) (f g : Frm) : Prop := e = d ∧ FTj k b t lb f g
theorem FTj.back {k b t lb : Nat} {f g : Frm} (h : FTj k b t lb f g) (d n : Int) : FTj k b t lb (f.set d n) (g.set d n) := by
  obtain ⟨h1, h2, h3, h4⟩ := h
  exact ⟨h1, by unfold Frm.set; simp only [h2], h3, h4⟩
structure RelJ (u : LUnit) (k b t lb : Nat) (s s2 : Mac) : Prop where
  ok : MacOk u (s.steps + 1) s
  rel : RelM (FRj k b t lb) (FTj k b t lb) s s2
end Go.Proofs.YtpadjpplidlfeaaGreatDoor


/- Plain: all chains made one; what tidy.Do makes of a unit. -/
namespace Go.Proofs.YtpadjpplidlfeaaGreatDoor
open Go Go.RowKit

def KindOk (bl : List LBlock) : Prop := ∀ B ∈ bl, (B.kind = 1 ∨ B.kind = 2 ∨ B.kind = 3) ∧ (B.to.length : Int) = B.kind - 1
def jumpTo (bl : List LBlock) (b : Nat) : Nat := ((blkAt bl b).to.getD 0 0).toNat
/-- the block that b can be joined with -/
def canJ (bl : List LBlock) (b : Nat) : Option Nat :=
  if (blkAt bl b).kind = 2 ∧ jumpTo bl b ≠ b ∧ (blkAt bl (jumpTo bl b)).phis = [] ∧ (preds bl (jumpTo bl b)).length ≤ 1 then some (jumpTo bl b) else none
theorem join_kind {bl : List LBlock} {b t : Nat} (hk : KindOk bl) (hj : JoinOk bl b t) : KindOk (joinB bl b t) := fun C hC => by
  obtain ⟨c, hc⟩ := List.getElem?_of_mem hC
  have hcl : c < bl.length := by rw [← joinB_len bl b t]; exact (List.getElem?_eq_some_iff.1 hc).1
  rw [joinB_get (get_blkAt hcl)] at hc
  obtain rfl := Option.some.inj hc
  have h1 := hk _ (List.mem_of_getElem? (get_blkAt hcl))
  have h2 := hk _ (List.mem_of_getElem? (get_blkAt hj.tlt))
  unfold blkJ
  split
  · simp [retB]
  split
  · exact h2
  · exact h1
/-- blocks ahead of which there are any -/
def hasP (bl : List LBlock) : Nat := ((List.range bl.length).filter fun c => !(preds bl c).isEmpty).length
def chainB : Nat → List LBlock → Nat → List LBlock
  | 0, bl, _ => bl
  | f + 1, bl, b => match canJ bl b with
    | some t => chainB f (joinB bl b t) b
    | none => bl
/-- b joined as long as it can be -/
def chainOf (bl : List LBlock) (b : Nat) : List LBlock := chainB (hasP bl) bl b
def chainsTo (bl : List LBlock) (i : Nat) : List LBlock := (List.range i).foldl chainOf bl
def chainsL (bl : List LBlock) : List LBlock := chainsTo bl bl.length
structure BlOk (R : Nat) (bl : List LBlock) : Prop where
  ok : FuncOk R bl
  kind : KindOk bl
theorem BlOk.join {R : Nat} {bl : List LBlock} {b t : Nat} (h : BlOk R bl) (hj : JoinOk bl b t) : BlOk R (joinB bl b t) := ⟨join_funcOk h.ok hj, join_kind h.kind hj⟩
/-- joined again and again -/
inductive Joins : List LBlock → List LBlock → Prop
  | refl (a : List LBlock) : Joins a a
  | head {a c : List LBlock} {b t : Nat} : JoinOk a b t → Joins (joinB a b t) c → Joins a c
theorem Joins.trans {a b c : List LBlock} (h : Joins a b) (k : Joins b c) : Joins a c := by
  induction h with
  | refl => exact k
  | head h1 _ ih => exact .head h1 (ih k)
theorem Joins.inv {p : List LBlock → Prop} (hp : ∀ a b t, JoinOk a b t → p a → p (joinB a b t)) {a c : List LBlock} (h : Joins a c) (ha : p a) : p c := by
  induction h with
  | refl => exact ha
  | head h1 _ ih => exact ih (hp _ _ _ h1 ha)
theorem Joins.ok {R : Nat} {a c : List LBlock} (h : Joins a c) (ha : BlOk R a) : BlOk R c := h.inv (fun _ _ _ hj h => h.join hj) ha
theorem Joins.len {a c : List LBlock} (h : Joins a c) : c.length = a.length := h.inv (p := fun x => x.length = a.length) (fun _ _ _ _ h => by rw [joinB_len]; exact h) rfl
theorem Joins.many {a c : List LBlock} (h : Joins a c) : manyL c = manyL a := h.inv (p := fun x => manyL x = manyL a) (fun _ _ _ hj h => by rw [many_join hj]; exact h) rfl
end Go.Proofs.YtpadjpplidlfeaaGreatDoor


/- Plain: what tidy.Do makes of a unit: it passes the check and runs as before in no more steps; no chain is left; done again nothing changes. -/
namespace Go.Proofs.YtpadjpplidlfeaaGreatDoor
open Go Go.RowKit

/-! ### What is reached stays reached -/
def PosOk (bl : List LBlock) : Prop := ∀ q, ∀ t ∈ toOf bl q, 1 ≤ t
def ReachR (bl : List LBlock) : Prop := ∀ q, toOf bl q ≠ [] → Rch bl (-1) 0 q
theorem JoinOk.pos {bl : List LBlock} {b t : Nat} (hj : JoinOk bl b t) (hp : PosOk bl) : t ≠ 0 := by
  have := hp b t (by rw [toOf_jb hj]; simp)
  omega
/-! ### Tidy -/
/-- a function on its way -/
structure TidyAll (X : LFunc) (R : Nat) : Prop where
  mid : FnAll (putB X (chainsL (keptF X))) R
  bl : BlOk R (chainsL (keptF X))
  none : ∀ c, canJ (chainsL (keptF X)) c = none
  all : ReachR (chainsL (keptF X))
  len : (chainsL (keptF X)).length ≤ X.blocks.length
  many : manyL (chainsL (keptF X)) ≤ manyL X.blocks
end Go.Proofs.YtpadjpplidlfeaaGreatDoor


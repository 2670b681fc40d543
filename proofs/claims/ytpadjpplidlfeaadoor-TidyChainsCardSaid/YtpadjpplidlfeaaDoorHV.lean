/- Texts joined: Betw SplitP SplitQ SplitR. -/
import Derived.Test.YtpadjpplidlfeaaDoorGF
import Derived.Test.YtpadjpplidlfeaaDoorGJ
import Derived.Test.YtpadjpplidlfeaaDoorGX
import Derived.Test.YtpadjpplidlfeaaDoorHA
import Derived.Test.YtpadjpplidlfeaaDoorHI
import Derived.Test.YtpadjpplidlfeaaDoorHJ
namespace Go.Proofs.YtpadjpplidlfeaaDoor
open Go Go.RowKit
attribute [local irreducible] wpListIn Code.wpIn Exit.then Exit.inBlock bodyPost wpQuiet wpAnyIn wpAnyH
set_option maxHeartbeats 8000000
def toE (b : BRow) : Ent:=Ent.vec b.ta b.to.length b.tc 3 1 (b.to.map (.int .i64))
def phV (b : BRow) : Ent:=Ent.vec b.pa b.ps.length b.pc 62 2 (b.ps.flatMap phiC)
def rpE (b : BRow) : List Ent:=Ent.vec b.la b.xs.length b.lc 66 8 (b.xs.flatMap rowC)::toE b::b.xs.map roE
theorem blkPs_ph (b : BRow) : (blkPs b).Perm (phV b::(b.ps.map phE++rpE b)):=by
 unfold blkPs phV rpE toE
 exact List.Perm.cons _ (List.perm_append_comm (l₁:=[_,_]) (l₂:=b.ps.map phE++b.xs.map roE) |>.trans (by
  rw [List.append_assoc]
  exact List.Perm.append_left _ (List.perm_append_comm (l₁:=b.xs.map roE) (l₂:=[_,_]))))
end Go.Proofs.YtpadjpplidlfeaaDoor
namespace Go.Proofs.YtpadjpplidlfeaaDoor
open Go Go.RowKit
def srcAt (bl : List LBlock) (t : Nat) (p : LPhi) (b : Nat) : LVal:=p.src.getD ((preds bl t).idxOf b) noV
theorem edge_of {bl : List LBlock} (hg : GoodB bl) {b : Nat} {t : Int} (h : t ∈ toOf bl b) : 0 ≤ t∧t < bl.length∧b < bl.length:=by
 unfold toOf at h
 split at h
 ·rename_i B hB
  have:=(hg B (List.mem_of_getElem? hB)).2 t h
  exact ⟨this.1,this.2,(List.getElem?_eq_some_iff.1 hB).1⟩
 ·cases h
theorem nodup_mapOn {α β : Type} {f : α→β} : ∀ {l : List α},l.Nodup→(∀ x ∈ l,∀ y ∈ l,f x = f y→x = y)→(l.map f).Nodup
 | [],_,_=>by simp
 | a::l,h,hi=>by
  rw [List.nodup_cons] at h
  rw [List.map_cons,List.nodup_cons]
  refine ⟨fun hm=>?_,nodup_mapOn h.2 fun x hx y hy=>hi x (List.mem_cons_of_mem _ hx) y (List.mem_cons_of_mem _ hy)⟩
  obtain ⟨y,hy,e⟩:=List.mem_map.1 hm
  have:=hi y (List.mem_cons_of_mem _ hy) a (List.mem_cons_self ..) e
  subst this
  exact h.1 hy
theorem preds_nodup (bl : List LBlock) (t : Nat) : (preds bl t).Nodup:=List.Nodup.sublist List.filter_sublist List.nodup_range
theorem map_eraseIdx' {α β : Type} (f : α→β) (l : List α) (i : Nat) : (l.eraseIdx i).map f = (l.map f).eraseIdx i:=by rw [List.eraseIdx_eq_take_drop_succ,List.eraseIdx_eq_take_drop_succ,List.map_append,List.map_take,List.map_drop]
theorem srcAt_mem {R : Nat} {bl : List LBlock} {t b : Nat} {p : LPhi} (hp : p.src.length = (preds bl t).length) (hb : b ∈ preds bl t) : srcAt bl t p b ∈ p.src:=by
 have h:=List.idxOf_lt_length_of_mem hb
 unfold srcAt
 rw [List.getD_eq_getElem?_getD,List.getElem?_eq_getElem (by omega),Option.getD_some]
 exact List.getElem_mem _
end Go.Proofs.YtpadjpplidlfeaaDoor

/- Texts joined: Betw SplitP SplitQ SplitR. -/
import Derived.Test.YtdbljcahlpkgdaaGreatDoorGF
import Derived.Test.YtdbljcahlpkgdaaGreatDoorGJ
import Derived.Test.YtdbljcahlpkgdaaGreatDoorGX
import Derived.Test.YtdbljcahlpkgdaaGreatDoorHA
import Derived.Test.YtdbljcahlpkgdaaGreatDoorHI
import Derived.Test.YtdbljcahlpkgdaaGreatDoorHJ
namespace Go.Proofs.YtdbljcahlpkgdaaGreatDoor
open Go Go.RowKit
attribute [local irreducible] wpListIn Code.wpIn Exit.then Exit.inBlock bodyPost wpQuiet wpAnyIn wpAnyH
set_option maxHeartbeats 8000000
theorem idxOfI_le {x : Int} : ∀ {l : List Int} {i : Nat},l[i]? = some x→l.idxOf x ≤ i
 | [],i,h=>by simp at h
 | y::l,0,h=>by
  simp only [List.getElem?_cons_zero,Option.some.injEq] at h
  subst h
  simp
 | y::l,i + 1,h=>by
  rw [List.idxOf_cons]
  cases (y == x)
  ·have:=idxOfI_le (l:=l) (i:=i) (by simpa using h)
   simpa using this
  ·simp
theorem indexInt_c (v : Value) (l : List Int) (x : Int) (w0 : World) (hx : x ∈ l) (hv : SlAt w0 v 1 l IntV) : RetV Tryz.prog 70 [v,.int .i64 x] w0 (.int .i64 (l.idxOf x : Nat)):=by
 obtain ⟨a,n,c,b,o,rfl,hn,hnc,hnb,hc,ha,hel⟩:=hv
 have hil:=List.idxOf_lt_length_of_mem hx
 refine ret_enter Tryz.func70 rfl Tryz.ntmps70 rfl (Wd.nil NoS w0) ?_
 repeat (first|refine g_op rfl ?_|refine g_then ?_|refine g_nil ?_|refine g_region ?_|refine g_seq ?_|refine g_block ?_)
 refine g_loop (fun (i : Nat)=>i ≤ l.idxOf x) (fun i=>[(8,.int .i64 i),(6,.slice a n c),(7,.int .i64 n),(0,.slice a n c),(1,.int .i64 x)]) (fun _=>[]) (fun i=>n - i) 0 (Nat.zero_le _) (g_done (by repeat (first|exact trivial|refine ⟨rfl,?_⟩)) (by simp)) fun i hi=>?_
 repeat (first|refine g_op rfl ?_|refine g_then ?_|refine g_nil ?_|refine g_region ?_|refine g_seq ?_)
 refine g_cond (fun h1=>?_) (fun h1=>?_)
 ·have hlt : i < n:=by simpa using h1
  obtain ⟨t,ht⟩ : ∃ t,l[i]? = some t:=⟨_,List.getElem?_eq_getElem (by omega)⟩
  have had : AddrIs a b o:=⟨ha (ne_of_get ht)⟩
  have hli : LtIs i n:=⟨hlt⟩
  obtain ⟨cs,hcs,rfl,_⟩:=hel i _ ht
  have hci : CellsIs w0 b (o + i * 1) _:=⟨hcs⟩
  repeat (first|refine g_op rfl ?_|refine g_then ?_|refine g_nil ?_|refine g_region ?_|refine g_seq ?_|refine g_block ?_|refine g_skip ?_)
  refine g_cond (fun h2=>?_) (fun h2=>?_)
  ·have htx : x = t:=by simpa using h2
   subst htx
   have : l.idxOf x = i:=by
    have h4:=idxOfI_le ht
    omega
   repeat (first|refine g_op rfl ?_|refine g_then ?_|refine g_nil ?_|refine g_region ?_|refine g_seq ?_|refine g_ret ?_|refine g_thenRet ?_|refine g_blockRet ?_)
   exact g_retV rfl (by rw [this])
  ·repeat (first|refine g_then ?_|refine g_nil ?_|refine g_region ?_|refine g_opS rfl ?_|refine g_inBlock ?_|refine g_skip ?_|refine g_add rfl (by omega) (by omega) ?_)
   refine g_next (i + 1) ?_ (by omega) (by repeat (first|exact trivial|refine ⟨rfl,?_⟩)) (by simp)
   refine Nat.lt_of_le_of_ne hi fun e=>?_
   subst e
   have h3:=List.getElem_idxOf hil
   have h4:=(List.getElem?_eq_some_iff.1 ht).2
   rw [h3] at h4
   simp [h4] at h2
 ·exact absurd h1 (by simp; omega)
def toE (b : BRow) : Ent:=Ent.vec b.ta b.to.length b.tc 3 1 (b.to.map (.int .i64))
def rbE (b : BRow) : List Ent:=Ent.vec b.la b.xs.length b.lc 89 8 (b.xs.flatMap rowC)::Ent.vec b.pa b.ps.length b.pc 86 2 (b.ps.flatMap phiC)::(b.ps.map phE++b.xs.map roE)
theorem blkPs_to (b : BRow) : (blkPs b).Perm (toE b::rbE b):=by
 unfold blkPs toE rbE
 exact ((List.Perm.swap _ _ _).trans ((List.Perm.swap _ _ _).cons _)).trans (((List.Perm.swap _ _ _)).trans ((List.Perm.refl _)))
end Go.Proofs.YtdbljcahlpkgdaaGreatDoor
namespace Go.Proofs.YtdbljcahlpkgdaaGreatDoor
open Go Go.RowKit
def srcAt (bl : List LBlock) (t : Nat) (p : LPhi) (b : Nat) : LVal:=p.src.getD ((preds bl t).idxOf b) noV
theorem edge_of {bl : List LBlock} (hg : GoodB bl) {b : Nat} {t : Int} (h : t ∈ toOf bl b) : 0 ≤ t∧t < bl.length∧b < bl.length:=by
 unfold toOf at h
 split at h
 ·rename_i B hB
  have:=(hg B (List.mem_of_getElem? hB)).2 t h
  exact ⟨this.1,this.2,(List.getElem?_eq_some_iff.1 hB).1⟩
 ·cases h
theorem nodup_mapOn {α β : Type} {f : α→β} : ∀ {l : List α},l.Nodup→(∀ x ∈ l,∀ y ∈ l,f x = f y→x = y)→(l.map f).Nodup
 | [],_,_=>by simp
 | a::l,h,hi=>by
  rw [List.nodup_cons] at h
  rw [List.map_cons,List.nodup_cons]
  refine ⟨fun hm=>?_,nodup_mapOn h.2 fun x hx y hy=>hi x (List.mem_cons_of_mem _ hx) y (List.mem_cons_of_mem _ hy)⟩
  obtain ⟨y,hy,e⟩:=List.mem_map.1 hm
  have:=hi y (List.mem_cons_of_mem _ hy) a (List.mem_cons_self ..) e
  subst this
  exact h.1 hy
theorem preds_nodup (bl : List LBlock) (t : Nat) : (preds bl t).Nodup:=List.Nodup.sublist List.filter_sublist List.nodup_range
theorem srcAt_mem {R : Nat} {bl : List LBlock} {t b : Nat} {p : LPhi} (hp : p.src.length = (preds bl t).length) (hb : b ∈ preds bl t) : srcAt bl t p b ∈ p.src:=by
 have h:=List.idxOf_lt_length_of_mem hb
 unfold srcAt
 rw [List.getD_eq_getElem?_getD,List.getElem?_eq_getElem (by omega),Option.getD_some]
 exact List.getElem_mem _
theorem toOf_nodup {bl : List LBlock} (hnd : ∀ (b : Nat) B,bl[b]? = some B→B.to.Nodup) (b : Nat) : (toOf bl b).Nodup:=by
 unfold toOf
 split
 ·rename_i B hB
  exact hnd b B hB
 ·exact List.nodup_nil
end Go.Proofs.YtdbljcahlpkgdaaGreatDoor

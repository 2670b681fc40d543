/- Texts joined: SplitT. -/
import Derived.Test.YtdbljcahlpkgdaaGreatDoorGB
import Derived.Test.YtdbljcahlpkgdaaGreatDoorGF
import Derived.Test.YtdbljcahlpkgdaaGreatDoorGG
import Derived.Test.YtdbljcahlpkgdaaGreatDoorGI
import Derived.Test.YtdbljcahlpkgdaaGreatDoorGX
import Derived.Test.YtdbljcahlpkgdaaGreatDoorHA
import Derived.Test.YtdbljcahlpkgdaaGreatDoorHI
import Derived.Test.YtdbljcahlpkgdaaGreatDoorHJ
import Derived.Test.YtdbljcahlpkgdaaGreatDoorHN
import Derived.Test.YtdbljcahlpkgdaaGreatDoorHP
import Derived.Test.YtdbljcahlpkgdaaGreatDoorHW
namespace Go.Proofs.YtdbljcahlpkgdaaGreatDoor
open Go Go.RowKit
attribute [local irreducible] wpListIn Code.wpIn Exit.then Exit.inBlock bodyPost wpQuiet wpAnyIn wpAnyH bodyPostM oneH
set_option maxHeartbeats 8000000
def withPs (T : BRow) (ps : List PRow) : BRow:={ T with ps:=ps }
theorem wd_shut {S : Nat→Prop} {w0 w : World} {X : List Ent} {a : Option Addr} {n c t : Nat} {zs : List BRow} {T : BRow} {ps : List PRow} (hT : zs[t]? = some T) (hn : n = zs.length) (hps : ps.length = T.ps.length)
  (h : Wd S w0 (X++(Ent.vec a n c 52 6 (zs.flatMap blkC)::Ent.vec T.pa T.ps.length T.pc 86 2 (ps.flatMap phiC)::lvE T::tvE T::(ps.map phE++(T.xs.map roE++(zs.eraseIdx t).map blkE)))) w) : Wd S w0 (X++fnE a c (zs.set t (withPs T ps))) w:=by
 have htl:=(List.getElem?_eq_some_iff.1 hT).1
 have h2 : Wd S w0 (blkPs (withPs T ps)++(X++(Ent.vec a n c 52 6 (zs.flatMap blkC)::(zs.eraseIdx t).map blkE))) w:=by
  refine h.perm ?_
  unfold blkPs withPs lvE tvE
  simp only [hps]
  classical
  refine List.perm_iff_count.2 fun e=>?_
  simp only [List.count_append,List.count_cons]
  omega
 refine (Wd.join h2).perm ?_
 have h5:=map_pull blkE (l:=zs.set t (withPs T ps)) (k:=t) (x:=withPs T ps) (List.getElem?_set_self htl)
 rw [List.eraseIdx_set_eq] at h5
 have h6 : (zs.set t (withPs T ps)).flatMap blkC = zs.flatMap blkC:=flatMap_set hT (by unfold withPs blkC; simp only [hps])
 unfold fnE
 rw [List.length_set,h6,hn]
 classical
 refine List.perm_iff_count.2 fun e=>?_
 have h7:=List.perm_iff_count.1 h5 e
 simp only [List.count_append,List.count_cons,blkE] at h7 ⊢
 omega
theorem wd_openB {S : Nat→Prop} {w0 w : World} {X : List Ent} {a : Option Addr} {c t : Nat} {zs : List BRow} {T : BRow} (hT : zs[t]? = some T) (h : Wd S w0 (X++fnE a c zs) w) :
  Wd S w0 (X++(Ent.vec a zs.length c 52 6 (zs.flatMap blkC)::Ent.vec T.pa T.ps.length T.pc 86 2 (T.ps.flatMap phiC)::lvE T::tvE T::(T.ps.map phE++(T.xs.map roE++(zs.eraseIdx t).map blkE)))) w:=by
 have h2 : Wd S w0 (blkE T::(X++(Ent.vec a zs.length c 52 6 (zs.flatMap blkC)::(zs.eraseIdx t).map blkE))) w:=by
  refine h.perm ?_
  unfold fnE
  have h3:=map_pull blkE hT
  classical
  refine List.perm_iff_count.2 fun e=>?_
  have h4:=List.perm_iff_count.1 h3 e
  simp only [List.count_append,List.count_cons] at h4 ⊢
  omega
 refine h2.unjoin.perm ?_
 unfold blkPs lvE tvE
 classical
 refine List.perm_iff_count.2 fun e=>?_
 simp only [List.count_append,List.count_cons]
 omega
end Go.Proofs.YtdbljcahlpkgdaaGreatDoor

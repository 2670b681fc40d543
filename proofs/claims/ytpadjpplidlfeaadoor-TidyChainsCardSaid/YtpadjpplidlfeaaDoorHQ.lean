/- Texts joined: LiveL OnceP QuietB Given DoA DoB. -/
import Derived.Test.YtpadjpplidlfeaaDoorGB
import Derived.Test.YtpadjpplidlfeaaDoorGF
import Derived.Test.YtpadjpplidlfeaaDoorGG
import Derived.Test.YtpadjpplidlfeaaDoorGI
import Derived.Test.YtpadjpplidlfeaaDoorHA
import Derived.Test.YtpadjpplidlfeaaDoorHI
import Derived.Test.YtpadjpplidlfeaaDoorHJ
import Derived.Test.YtpadjpplidlfeaaDoorHN
import Derived.Test.YtpadjpplidlfeaaDoorHP
namespace Go.Proofs.YtpadjpplidlfeaaDoor
open Go Go.RowKit
attribute [local irreducible] wpListIn Code.wpIn Exit.then Exit.inBlock bodyPost wpQuiet wpAnyIn wpAnyH oneH
set_option maxHeartbeats 4000000
section
variable {P : Program} {N : Nat} {ds : List Deferred} {S : Nat→Prop} {w0 : World} {L L' : List (Nat × Value)} {H H' Hr : List Ent} {x y : Operand} {M : Act→World→Prop} {l : List Oper} {fuel : Nat} {listed : Array Bool}
theorem o_storeVA {ty T b o off j n c e s m : Nat} (i k : Nat) {xs vs : List Value} {pos : String} {aft : Array Go.Edge} [ho : ListAt l i ⟨none,.store T x y,ty,pos,aft,none⟩] [h : AggSize P T m] [hx : Ev L x (.pointer (some ⟨b,off,none⟩))] [hy : Ev L y (.agg vs.toArray)] [hn : LenIs vs m] [h1 : OneVs vs]
  (hk : H[k]? = some (Ent.vec (some ⟨b,o,none⟩) n c e s xs)) (hoff : off = o + j) (hfit : j + m ≤ xs.length) (hHr : Hr.Sublist (H.set k (Ent.vec (some ⟨b,o,none⟩) n c e s (xs.take j++vs++xs.drop (j + m)))))
  (kk : G N ds S w0 L (H.set k (Ent.vec (some ⟨b,o,none⟩) n c e s (xs.take j++vs++xs.drop (j + m)))) (wpAnyH P .any l.toArray (OnlyN M) (Wd S w0 Hr) fuel (listed.setIfInBounds i true))) : G N ds S w0 L H (oneH P l M (Wd S w0 Hr) fuel listed i):=by
 refine o_skip i rfl fun a w hS=>?_
 subst hoff
 have hvm:=hn.eq
 obtain ⟨w',hs,hW'⟩:=hS.wd.writeAt (P:=P) hk j (vs:=vs) h1.all (by omega)
 rw [hvm] at hW'
 refine ⟨w',?_,hW'.sub hHr,kk _ _ ⟨hS.fr,hW'⟩⟩
 simp [execOp,hx.eq _ _ _ hS.fr,hy.eq _ _ _ hS.fr,Instr.storeAt,Instr.sureAddr,storeVar,h.sz,Value.cells,hvm,hs]
end
end Go.Proofs.YtpadjpplidlfeaaDoor

/- Texts joined: DfsB LoopP RingP Sort BacksP Own Clone. -/
import Derived.Sort.Grow
import Derived.Sort.Row
import Derived.Test.YtdbljcahlpkgdaaDoorGA
import Derived.Test.YtdbljcahlpkgdaaDoorGG
import Derived.Test.YtdbljcahlpkgdaaDoorGI
namespace Go.Proofs.YtdbljcahlpkgdaaDoor
open Go Go.RowKit
theorem flat_sl {α : Type} {S : Nat→Prop} {w0 w : World} {H : List Ent} (h : Wd S w0 H w) {k : Nat} {a : Option Addr} {c e s : Nat} {l : List α} {g : α→List Value} (hk : H[k]? = some (Ent.vec a l.length c e s (l.flatMap g))) (hg : ∀ x,(g x).length = s) (hb : l.length ≤ 100000) : SlAt w (.slice a l.length c) s l fun _ x cs=>cs = g x:=by
 refine h.slAt hk rfl (by omega) fun i x hx=>⟨g x,fun j v hj=>flat_at hg l i x j v hx hj,rfl⟩
end Go.Proofs.YtdbljcahlpkgdaaDoor

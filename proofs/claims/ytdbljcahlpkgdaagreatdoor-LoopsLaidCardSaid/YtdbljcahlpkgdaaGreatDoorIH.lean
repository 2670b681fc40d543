/- Texts joined: TidyJ TidyK TidyL TidyD. -/
import Derived.Test.YtdbljcahlpkgdaaGreatDoorIB
namespace Go.Proofs.YtdbljcahlpkgdaaGreatDoor
open Go Go.RowKit
theorem blockM_bls (u : LUnit) (f : Frm) : blockM u f = (blsOf u f.fn).getD f.block ⟨[],[],1,noV,[]⟩:=by
 unfold blockM blsOf
 cases u.funcs[f.fn]? with
 | none=>rfl
 | some X=>rfl
def KindOk (bl : List LBlock) : Prop:=∀ B ∈ bl,(B.kind = 1 ∨ B.kind = 2 ∨ B.kind = 3)∧(B.to.length : Int) = B.kind - 1
def PosOk (bl : List LBlock) : Prop:=∀ q,∀ t ∈ toOf bl q,1 ≤ t
theorem fn_kind {u : LUnit} (hc : CheckOk u) {k : Nat} {X : LFunc} (hX : u.funcs[k]? = some X) : KindOk X.blocks∧PosOk X.blocks:=by
 have hb:=(FnTo.same hc hX).body
 refine ⟨fun B hB=>?_,fun q t ht=>?_⟩
 ·have h:=end_zero.1 (hb.ends B hB)
  exact ⟨by have:=h.kind; omega,h.len⟩
 ·unfold toOf at ht
  split at ht
  ·rename_i B hB
   exact ((end_zero.1 (hb.ends B (List.mem_of_getElem? hB))).to t ht).1
  ·cases ht
end Go.Proofs.YtdbljcahlpkgdaaGreatDoor

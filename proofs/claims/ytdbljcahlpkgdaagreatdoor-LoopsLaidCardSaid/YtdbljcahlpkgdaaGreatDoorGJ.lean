/- Texts joined: LiveK. -/
import Derived.Test.YtdbljcahlpkgdaaGreatDoorGI
namespace Go.Proofs.YtdbljcahlpkgdaaGreatDoor
open Go Go.RowKit
attribute [local irreducible] wpListIn Code.wpIn Exit.then Exit.inBlock bodyPost wpQuiet wpAnyIn wpAnyH
set_option maxHeartbeats 4000000
class AddOk (m n : Int) : Prop where
 lo : -9223372036854775808 ≤ m + n
 hi : m + n ≤ 9223372036854775807
instance {P : Program} {N : Nat} {ds : List Deferred} {S : Nat→Prop} {w0 : World} {L : List (Nat × Value)} {H : List Ent} {x y : Operand} {T T2 : Nat} {m n : Int} [hx : Ev L x (.int .i64 m)] [hy : Ev L y (.int .i64 n)] [h : AddOk m n] : RunsC P N ds S w0 L H (.binOp .add T x y T2) (.int .i64 (m + n)):=by
 have:=runs_addW (P:=P) (N:=N) (ds:=ds) (S:=S) (w0:=w0) (L:=L) (H:=H) (x:=x) (y:=y) (T:=T) (T2:=T2) (m:=m) (n:=n)
 rwa [wrap_in _ h.lo h.hi] at this
end Go.Proofs.YtdbljcahlpkgdaaGreatDoor

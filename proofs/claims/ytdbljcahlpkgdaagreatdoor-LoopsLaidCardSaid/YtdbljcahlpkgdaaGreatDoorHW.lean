/- Texts joined: SplitA SplitB SplitS. -/
import Derived.Test.YtdbljcahlpkgdaaGreatDoorGG
import Derived.Test.YtdbljcahlpkgdaaGreatDoorGI
import Derived.Test.YtdbljcahlpkgdaaGreatDoorHJ
import Derived.Test.YtdbljcahlpkgdaaGreatDoorHS
import Derived.Test.YtdbljcahlpkgdaaGreatDoorHV
namespace Go.Proofs.YtdbljcahlpkgdaaGreatDoor
open Go Go.RowKit
attribute [local irreducible] wpListIn Code.wpIn Exit.then Exit.inBlock bodyPost wpQuiet wpAnyIn wpAnyH bodyPostM oneH
set_option maxHeartbeats 4000000
structure FirstLarge (u : LUnit) (T : LFunc→LFunc) (i : Nat) (X : LFunc) : Prop where
 at' : u.funcs[i]? = some X
 large : largeF (T X) = true
 before : ∀ (j : Nat) (Y : LFunc),j < i→u.funcs[j]? = some Y→largeF (T Y) = false
theorem FirstLarge.one {u : LUnit} {T : LFunc→LFunc} {i j : Nat} {X Y : LFunc} (h : FirstLarge u T i X) (k : FirstLarge u T j Y) : i = j:=by
 rcases Nat.lt_trichotomy i j with h1|h1|h1
 ·exact absurd h.large (by rw [k.before i X h1 h.at']; simp)
 ·exact h1
 ·exact absurd k.large (by rw [h.before j Y h1 k.at']; simp)
theorem large_or (u : LUnit) (T : LFunc→LFunc) : (∃ i X,FirstLarge u T i X) ∨ ∀ X ∈ u.funcs,largeF (T X) = false:=by
 have key : ∀ n,(∃ i X,FirstLarge u T i X) ∨ ∀ (j : Nat) (Y : LFunc),j < n→u.funcs[j]? = some Y→largeF (T Y) = false:=by
  intro n
  induction n with
  | zero=>exact .inr fun j Y hj=>by omega
  | succ n ih =>
   rcases ih with ih|ih
   ·exact .inl ih
   ·cases hX : u.funcs[n]? with
    | none=>exact .inr fun j Y hj hY=>ih j Y (by have:=(List.getElem?_eq_some_iff.1 hY).1; have:=List.getElem?_eq_none_iff.1 hX; omega) hY
    | some X =>
     cases hL : largeF (T X) with
     | true=>exact .inl ⟨n,X,hX,hL,ih⟩
     | false =>
      refine .inr fun j Y hj hY=>?_
      by_cases e : j = n
      ·subst e
       rw [hX] at hY
       obtain rfl:=Option.some.inj hY
       exact hL
      ·exact ih j Y (by omega) hY
 rcases key u.funcs.length with h|h
 ·exact .inl h
 ·refine .inr fun X hX=>?_
  obtain ⟨j,hj⟩:=List.getElem?_of_mem hX
  exact h j X (List.getElem?_eq_some_iff.1 hj).1 hj
end Go.Proofs.YtdbljcahlpkgdaaGreatDoor
namespace Go.Proofs.YtdbljcahlpkgdaaGreatDoor
open Go Go.RowKit
theorem preds_lt (bl : List LBlock) (t : Nat) : ∀ q ∈ preds bl t,q < bl.length:=fun q hq=>List.mem_range.1 (List.mem_filter.1 hq).1
end Go.Proofs.YtdbljcahlpkgdaaGreatDoor

/- Texts joined: Know. -/
import Derived.Test.YtdbljcahlpkgdaaDoorGC
import Derived.Test.YtdbljcahlpkgdaaDoorGE
import Derived.Test.YtdbljcahlpkgdaaDoorGI
import Derived.Test.YtdbljcahlpkgdaaDoorGM
namespace Go.Proofs.YtdbljcahlpkgdaaDoor
open Go Go.RowKit
def RetK (P : Program) (f : FuncId) (args : List Value) (w0 : World) {α : Type} (s : Nat) (l : List α) (V : World→α→List Value→Prop) (mk : Value→Value) : Prop :=
 Ret P f args w0 fun u w'=>∃ x : Option Addr × Nat × (Nat→Prop),u = mk (.slice x.1 l.length x.2.1)∧Wd NoS w0 [⟨x.2.2,fun w=>SlAt w (.slice x.1 l.length x.2.1) s l V⟩] w'∧True
section
variable {P : Program} {ro : Option Nat} {N : Nat} {ds : List Deferred} {S : Nat→Prop} {w0 w : World} {L : List (Nat × Value)} {H E : List Ent} {ops : Array Oper} {rest : List Oper} {Q : Exit→Act→World→Prop}
theorem g_callK {α : Type} {s : Nat} {l : List α} {V : World→α→List Value→Prop} {mk : Value→Value} {d ty f : Nat} {args : List Operand} {vs : List Value} {tys : Array Nat} {pos : String} {aft : Array Go.Edge} [h : EnterOk P f] [hx : Evs L args vs] (hd : okPut d N L = true)
  (hc : ∀ w,Wd S w0 H w→RetK P f vs w s l V mk)
  (k : ∀ a c fp,G N ds S w0 ((d,mk (.slice a l.length c))::L) (⟨fp,fun w=>SlAt w (.slice a l.length c) s l V⟩::H) (wpListIn (FW ro) 0 P ops Q rest)) : G N ds S w0 L H (wpListIn (FW ro) 0 P ops Q (⟨some d,.call { callee:=.value (.func f),args:=args.toArray,argTypes:=tys },ty,pos,aft,none⟩::rest)) :=
 g_callE (val:=fun x : Option Addr × Nat × (Nat→Prop)=>mk (.slice x.1 l.length x.2.1)) (E:=fun x=>[⟨x.2.2,fun w=>SlAt w (.slice x.1 l.length x.2.1) s l V⟩]) (φ:=fun _=>True) hd hc fun x _=>k x.1 x.2.1 x.2.2
end
def mainN : ByteArray:=⟨#[109,97,105,110]⟩
attribute [local irreducible] wpListIn Code.wpIn Exit.then Exit.inBlock bodyPost wpQuiet wpAnyIn
set_option maxHeartbeats 4000000
theorem nil_sl {α : Type} (w : World) (s : Nat) (V : World→α→List Value→Prop) : SlAt w (.slice none 0 0) s [] V:=⟨none,0,0,0,0,rfl,rfl,Nat.le_refl _,by omega,by omega,by simp,by simp⟩
end Go.Proofs.YtdbljcahlpkgdaaDoor

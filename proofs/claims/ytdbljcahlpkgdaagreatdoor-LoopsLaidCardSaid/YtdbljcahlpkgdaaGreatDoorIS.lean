/- Texts joined: DoorE. -/
import Derived.Test.YtdbljcahlpkgdaaGreatDoorGH
namespace Go.Proofs.YtdbljcahlpkgdaaGreatDoor
open Go Go.RowKit Go.ChangeShapes Go.WideShapes Go.ChangeAt
set_option maxRecDepth 100000
theorem open_uli {H : Type} {enc : TypeId × Value→H} {W : World} {args : Array Value} {ds : List (DataW H)} {p : List MemPlace} {base : Nat} {params : Array TypeId} (hp : params = #[25,38,3])
  (h1 : ∀ (j : Nat) t v,params[j]? = some t→args[j]? = some v→Value.okWide Tryz.prog W .any base t v)
  (hA : DataW.TrodAll enc Tryz.prog W 0 (fun _=>true) true [25,38,3] args.toList ds p) (hz : ∀ k ∈ DataW.weightsEach Tryz.prog [25,38,3] ds,k ≤ reachBytes) :
  ∃ (u : LUnit) (g fs : Value) (v : Value) (l : List Int) (k : Int),args = #[.agg #[g,fs],v,.int .i64 k]∧SlAt W g 3 u.globals GlobalV∧SlAt W fs 4 u.funcs FuncV∧SlAt W v 1 l IntV∧inI k:=by
 subst hp
 obtain ⟨v0,vs0,d0,ds0,p0,q0,hargs,rfl,rfl,h0,r0⟩:=trodAll_cons hA
 obtain ⟨v1,vs1,d1,ds1,p1,q1,rfl,rfl,rfl,h1',r1⟩:=trodAll_cons r0
 obtain ⟨v2,vs2,d2,ds2,p2,q2,rfl,rfl,rfl,h2',r2⟩:=trodAll_cons r1
 obtain ⟨rfl,rfl,rfl⟩:=trodAll_nil r2
 obtain rfl : args = #[v0,v1,v2]:=by cases args; simp_all
 obtain ⟨cs0,rfl,_⟩:=okWide_struct Tryz.underlying25 (h1 0 25 v0 rfl rfl)
 obtain ⟨f0,k0⟩:=h0
 obtain ⟨f1,k1⟩:=h1'
 obtain ⟨f2,k2⟩:=h2'
 obtain ⟨cs0⟩:=cs0
 have hz0 : Small Tryz.prog 25 d0:=fun k hk=>hz k (mem_weightsEach (i:=0) rfl rfl hk)
 have hz1 : Small Tryz.prog 38 d1:=fun k hk=>hz k (mem_weightsEach (i:=1) rfl rfl hk)
 obtain ⟨u,g,f,e0,hg,hf⟩:=o_unit k0 hz0
 have hv1 : v1.cells = #[v1]:=by
  obtain ⟨_,_,_,rfl⟩:=okWide_slice Tryz.underlying38 (h1 1 38 v1 rfl rfl)
  rfl
 have hv2 : v2.cells = #[v2]:=by
  obtain ⟨n,rfl,_⟩:=okWide_int Tryz.underlying3 (h1 2 3 v2 rfl rfl)
  rfl
 obtain ⟨n,e1,hn⟩:=o_int k2
 rw [hv1] at k1
 obtain ⟨l,hs⟩:=o_ints (x:=(d1,_)) k1 hz1
 simp only [Value.cells] at e0
 subst e0
 rw [hv2] at e1
 simp only [List.cons.injEq,and_true] at e1
 subst e1
 exact ⟨u,g,f,v1,l,n,rfl,hg,hf,hs,hn⟩
def argsULI : Array Value:=#[.agg #[.slice none 0 0,.slice none 0 0],.slice none 0 0,.int .i64 0]
end Go.Proofs.YtdbljcahlpkgdaaGreatDoor

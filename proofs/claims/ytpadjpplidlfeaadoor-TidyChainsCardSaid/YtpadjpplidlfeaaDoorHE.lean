/- Texts joined: Grow RunH RunS. -/
import Derived.Test.YtpadjpplidlfeaaDoorGD
import Derived.Test.YtpadjpplidlfeaaDoorGX
import Derived.Test.YtpadjpplidlfeaaDoorHA
import Derived.Test.YtpadjpplidlfeaaDoorHC
namespace Go.Proofs.YtpadjpplidlfeaaDoor
open Go Go.RowKit
set_option maxHeartbeats 2000000
structure StartOk (u : LUnit) : Prop where
 globs : u.globals.length ≤ 10
 glob : ∀ g ∈ u.globals,(g.init.length : Int) ≤ g.size∧g.size ≤ 200
 init : ∀ g ∈ u.globals,∀ x ∈ g.init,inI x
 funcs : u.funcs.length ≤ 10
 main : ∃ (fm : Nat) (M : LFunc),mainAt u.funcs = fm∧u.funcs[fm]? = some M
theorem memL_len {l : List LGlobal} (h : ∀ g ∈ l,(g.init.length : Int) ≤ g.size∧g.size ≤ 200) : (memL l).length ≤ 200 * l.length:=by
 induction l with
 | nil=>simp [memL]
 | cons g l ih =>
  have h1:=h g (by simp)
  have h2:=ih fun x hx=>h x (List.mem_cons_of_mem _ hx)
  simp only [memL,List.flatMap_cons,List.length_append,List.length_replicate,List.length_cons] at h2 ⊢
  omega
theorem memL_in {l : List LGlobal} (h : ∀ g ∈ l,∀ x ∈ g.init,inI x) : ∀ x ∈ memL l,inI x:=fun x hx=>by
 obtain ⟨g,hg,hx⟩:=List.mem_flatMap.1 hx
 rcases List.mem_append.1 hx with h1|h1
 ·exact h g hg x h1
 ·rw [List.eq_of_mem_replicate h1]; simp [inI]
theorem start_eq {u : LUnit} {fm R : Nat} {M : LFunc} (hm : mainAt u.funcs = fm) (hM : u.funcs[fm]? = some M) (hR : M.regs = R) (inp : List Int) : startM u inp = ⟨memL u.globals,inp,[],0,[],⟨fm,0,0,enterR R [],-1⟩,bump (u.funcs.map fun X=>List.replicate X.blocks.length 0) fm 0⟩:=by
 unfold startM
 simp only [hm,Int.toNat_natCast,hM,hR]
 simp [enterR]
theorem start_ok {u : LUnit} (hu : UnitFit u) (hs : StartOk u) {inp : List Int} (hin : ∀ x ∈ inp,inI x) : MacOk u 1 (startM u inp):=by
 obtain ⟨fm,M,hm,hM⟩:=hs.main
 obtain ⟨R,hfit⟩:=hu.2 fm M hM
 rw [start_eq hm hM hfit.regs]
 refine ⟨⟨M,R,⟨hM,hfit,enterR_length _ _,hfit.pos,enterR_in (by simp),by simp [inI],fun _ _=>Nat.zero_le _⟩⟩,by simp,?_,bump_cnt (c:=0) ⟨by simp,fun k X hX=>⟨_,by rw [List.getElem?_map,hX]; rfl,by simp,fun x hx=>by rw [List.eq_of_mem_replicate hx]; exact Nat.le_refl _⟩⟩ _ _,by simp,by simp,⟨?_,memL_in hs.init⟩,hin⟩
 ·intro i p q h1 h2
  simp at h1 h2
 ·have:=memL_len hs.glob
  have h9:=hs.globs
  show (memL u.globals).length ≤ 100000
  omega
end Go.Proofs.YtpadjpplidlfeaaDoor

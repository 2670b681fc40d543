/- Texts joined: ZeroP ZeroQ. -/
import Derived.Test.YtdbljcahlpkgdaaGreatDoorHJ
namespace Go.Proofs.YtdbljcahlpkgdaaGreatDoor
open Go Go.RowKit
def blsOf (u : LUnit) (j : Nat) : List LBlock:=match u.funcs[j]? with|some X=>X.blocks|none=>[]
def regsOf (u : LUnit) (j : Nat) : Nat:=match u.funcs[j]? with|some X=>X.regs.toNat|none=>0
def liftF (k n : Nat) (f : Frm) : Frm:={ f with at':=if f.fn = k∧f.block = 0 then f.at' + n else f.at' }
def liftM (k n c : Nat) (s : Mac) : Mac:=⟨s.mem,s.inp,s.out,c,s.rest.map (liftF k n),liftF k n s.top,s.counts⟩
def preM (k n c : Nat) (s : Mac) (i : Nat) : Mac:=⟨s.mem,s.inp,s.out,c,s.rest.map (liftF k n),{ s.top with at':=i },s.counts⟩
theorem jumpM_def (u : LUnit) (s : Mac) (to : Int) : jumpM u s to = { s with top:={ s.top with regs:=phisM s.top ((preds (blsOf u s.top.fn) to.toNat).idxOf s.top.block) (phisOf (blsOf u s.top.fn) to.toNat),block:=to.toNat,at':=0 },counts:=bump s.counts s.top.fn to.toNat }:=rfl
theorem enterM_def (u : LUnit) (s : Mac) (fn : Nat) (dst : Int) (args : List Int) : enterM u s fn dst args = { s with rest:=s.rest++[s.top],top:=⟨fn,0,0,enterR (regsOf u fn) args,dst⟩,counts:=bump s.counts fn 0 }:=rfl
theorem pre_lift (k n c : Nat) (s : Mac) (h : s.top.at' = 0) : preM k n c s (if s.top.fn = k∧s.top.block = 0 then n else 0) = liftM k n c s:=by
 unfold preM liftM liftF
 rw [h,Nat.zero_add]
theorem head_zero {names : List ByteArray} {f : LFunc} : headErr names f = 0 ↔ nameOk f.name = true∧hasName names f.name = false∧(0 ≤ f.params∧f.params ≤ 6)∧(f.params ≤ f.regs∧f.regs ≤ 100)∧(1 ≤ f.blocks.length∧f.blocks.length ≤ 40)∧sizeOfBs f.blocks ≤ 300:=by
 unfold headErr
 constructor
 ·intro h
  split at h
  ·cases h
  rename_i h1
  split at h
  ·cases h
  rename_i h2
  split at h
  ·cases h
  rename_i h3
  split at h
  ·cases h
  rename_i h4
  simp [within] at h1 h2 h3 h4
  exact ⟨h1,h2,by omega,by omega,by omega,by omega⟩
 ·rintro ⟨h1,h2,h3,h4,h5,h6⟩
  rw [if_neg (by simp [h1]),if_neg (by simp [h2]),if_neg (by simp [within]; omega),if_neg (by simp [within]; omega)]
theorem mainAt_map (fs : List LFunc) : mainAt fs = match (fs.map (·.name)).findIdx? (fun s=>s.toList == (ByteArray.mk #[109,97,105,110]).toList) with|some i=>(i : Int)|none=>-1:=by
 unfold mainAt
 rw [List.findIdx?_map]
 rfl
end Go.Proofs.YtdbljcahlpkgdaaGreatDoor

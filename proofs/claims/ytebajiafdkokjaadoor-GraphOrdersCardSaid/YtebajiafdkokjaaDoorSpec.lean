/- What code.Check computes, as a plain function of the unit. No program in sight. -/
import Derived.Test.YtebajiafdkokjaaDoorData
namespace Go.Proofs.YtebajiafdkokjaaDoor
open Go Go.RowKit

/-- the first number below n at which f is not 0, and what it is there; (0, 0) if there is none -/
def firstI (f : Nat → Int) (n : Nat) : Int × Nat := match (List.range n).find? (fun i => !decide (f i = 0)) with | some i => (f i, i) | none => (0, 0)
theorem firstI_hit {f : Nat → Int} {n i : Nat} (h : ∀ j, j < i → f j = 0) (hi : i < n) (hf : f i ≠ 0) : firstI f n = (f i, i) := by
  have e : (List.range n).find? (fun i => !decide (f i = 0)) = some i := by
    rw [List.find?_eq_some_iff_append]
    refine ⟨by simp [hf], List.range i, (List.range' (i + 1) (n - (i + 1))), ?_, fun a ha => by simp [h a (by simpa using ha)]⟩
    apply List.ext_getElem
    · simp; omega
    · intro k h1 h2
      simp only [List.getElem_range, List.getElem_append, List.length_range]
      split
      · simp
      · rename_i hk
        by_cases hk2 : k = i
        · subst hk2; simp
        · rw [List.getElem_cons]
          rw [dif_neg (by omega)]
          simp only [List.getElem_range']
          omega
  unfold firstI
  rw [e]
theorem firstI_none {f : Nat → Int} {n : Nat} (h : ∀ j, j < n → f j = 0) : firstI f n = (0, 0) := by
  unfold firstI
  rw [List.find?_eq_none.2 (fun i hi => by simp [h i (by simpa using hi)])]
theorem firstI_zero {f : Nat → Int} {n : Nat} (h : (firstI f n).1 = 0) : ∀ j, j < n → f j = 0 := by
  intro j hj
  unfold firstI at h
  split at h
  · rename_i i hi
    have := List.find?_some hi
    simp at this
    exact absurd h this
  · rename_i hi
    have := List.find?_eq_none.1 hi j (by simpa using hj)
    simpa using this

def within (n lo hi : Int) : Bool := decide (lo ≤ n) && decide (n ≤ hi)
def byteAt (s : ByteArray) (i : Nat) : Int := if h : i < s.size then ((s[i]'h).toNat : Int) else 0
def okCh (i : Nat) (c : Int) : Bool := (((decide (97 ≤ c) && decide (c ≤ 122)) || (decide (65 ≤ c) && decide (c ≤ 90))) || decide (c = 95)) || ((decide (0 < (i : Int)) && decide (48 ≤ c)) && decide (c ≤ 57))
def nameOk (s : ByteArray) : Bool := if (s.size : Int) < 1 ∨ 12 < (s.size : Int) then false else decide (∀ i, i < s.size → okCh i (byteAt s i) = true)
def hasName (l : List ByteArray) (s : ByteArray) : Bool := l.any fun t => s.toList == t.toList
def valErr (regs : Int) (v : LVal) : Int := if v.reg && !within v.n 0 (regs - 1) then 3 else 0
def dstErr (regs n : Int) : Int := if !within n 0 (regs - 1) then 3 else 0
def at0 {α : Type} (l : List α) (f : α → Int) (i : Nat) : Int := match l[i]? with | some x => f x | none => 0
def aheadIn (i : Nat) (rows : List (List Int)) (to : Int) : List (List Int) := rows.modify to.toNat (· ++ [(i : Int)])
def aheadTo (bs : List LBlock) : Nat → List (List Int)
  | 0 => List.replicate bs.length []
  | i + 1 => (match bs[i]? with | some b => b.to | none => []).foldl (aheadIn i) (aheadTo bs i)
def aheadL (bs : List LBlock) : List (List Int) := aheadTo bs bs.length
def phiE (regs : Int) (block np : Nat) (p : LPhi) : Int :=
  if (block : Int) = 0 then 5 else if dstErr regs p.dst ≠ 0 then dstErr regs p.dst
  else if (p.src.length : Int) ≠ np then 9 else (firstI (at0 p.src (valErr regs)) p.src.length).1
def phiErr (regs : Int) (bs : List LBlock) (block : Nat) (p : LPhi) : Int := phiE regs block ((aheadL bs)[block]?.getD []).length p
def shape (op : Int) : Bool × Bool × Bool :=
  if ((op = 1 ∨ op = 16) ∨ op = 17) ∨ op = 18 then (true, true, false) else if 2 ≤ op ∧ op ≤ 15 then (true, true, true) else if op = 19 then (false, true, true)
  else if op = 20 ∨ op = 21 then (true, false, false) else if op = 22 then (false, true, false) else (false, false, false)
def noVal (v : LVal) : Bool := (v.reg == false) && decide (v.n = 0)
def callErr (fs : List LFunc) (regs : Int) (x : LIns) : Int :=
  if x.op ≠ 20 then 0 else if !within x.fn 0 (fs.length - 1) then 3 else if (x.args.length : Int) ≠ at0 fs (·.params) x.fn.toNat then 9 else (firstI (at0 x.args (valErr regs)) x.args.length).1
def strayB (x : LIns) : Bool :=
  (((!(shape x.op).1 && !decide (x.dst = -1)) || (!(shape x.op).2.1 && !noVal x.a)) || (!(shape x.op).2.2 && !noVal x.b)) || (!decide (x.op = 20) && (!decide (x.fn = 0) || decide (0 < (x.args.length : Int))))
def insErr (fs : List LFunc) (regs : Int) (x : LIns) : Int :=
  if !within x.op 1 22 then 4 else if strayB x then 5
  else if ((shape x.op).1 && !(decide (x.op = 20) && decide (x.dst = -1))) && !decide (dstErr regs x.dst = 0) then dstErr regs x.dst
  else if valErr regs x.a ≠ 0 then valErr regs x.a else if valErr regs x.b ≠ 0 then valErr regs x.b else callErr fs regs x
def endE (n : Nat) (regs kind : Int) (on : LVal) (to : List Int) : Int :=
  if !within kind 1 3 then 4 else if (to.length : Int) ≠ kind - 1 then 9 else if to.any (fun t => !within t 1 (n - 1)) then 3
  else if (decide (kind = 3) && decide (to[0]?.getD 0 = to[1]?.getD 0)) || (decide (kind = 2) && !noVal on) then 5 else valErr regs on
def endErr (n : Nat) (regs : Int) (b : LBlock) : Int := endE n regs b.kind b.on b.to
def blockErr (fs : List LFunc) (f : LFunc) (i : Nat) : Int := match f.blocks[i]? with
  | some b => if (firstI (at0 b.phis (phiErr f.regs f.blocks i)) b.phis.length).1 ≠ 0 then (firstI (at0 b.phis (phiErr f.regs f.blocks i)) b.phis.length).1 else (firstI (at0 b.list (insErr fs f.regs)) b.list.length).1
  | none => 0
def bodyErr (fs : List LFunc) (f : LFunc) : Int :=
  if (firstI (at0 f.blocks (endErr f.blocks.length f.regs)) f.blocks.length).1 ≠ 0 then (firstI (at0 f.blocks (endErr f.blocks.length f.regs)) f.blocks.length).1 else (firstI (blockErr fs f) f.blocks.length).1
def sizeTo (bs : List LBlock) (i : Nat) : Int := ((bs.take i).map fun b => ((b.phis.length + b.list.length : Nat) : Int)).sum
def sizeOfBs (bs : List LBlock) : Int := (bs.map fun b => ((b.phis.length + b.list.length : Nat) : Int)).sum
def headErr (names : List ByteArray) (f : LFunc) : Int :=
  if !nameOk f.name then 12 else if hasName names f.name then 7 else if !within f.params 0 6 || !within f.regs f.params 100 then 3
  else if !within f.blocks.length 1 40 || decide (300 < sizeOfBs f.blocks) then 2 else 0
def totTo (l : List LGlobal) (i : Nat) : Int := ((l.take i).map (·.size)).sum
def globErr (names : List ByteArray) (tot : Int) (g : LGlobal) : Int :=
  if !nameOk g.name then 12 else if hasName names g.name then 7 else if !within g.size 1 200 then 3 else if g.size < (g.init.length : Int) then 9 else if 200 < tot + g.size then 10 else 0
def globAt (l : List LGlobal) (i : Nat) : Int := at0 l (globErr ((l.take i).map (·.name)) (totTo l i)) i
def headAt (u : LUnit) (i : Nat) : Int := at0 u.funcs (headErr (u.globals.map (·.name) ++ (u.funcs.take i).map (·.name))) i
def isMain (f : LFunc) : Bool := f.name.toList == (ByteArray.mk #[109, 97, 105, 110]).toList
def mainAt (fs : List LFunc) : Int := match fs.findIdx? isMain with | some i => (i : Int) | none => -1
def checkL (u : LUnit) : Int × Int :=
  if 10 < (u.globals.length : Int) ∨ 10 < (u.funcs.length : Int) then (2, 0)
  else if (firstI (globAt u.globals) u.globals.length).1 ≠ 0 then ((firstI (globAt u.globals) u.globals.length).1, (firstI (globAt u.globals) u.globals.length).2)
  else if (firstI (headAt u) u.funcs.length).1 ≠ 0 then ((firstI (headAt u) u.funcs.length).1, (firstI (headAt u) u.funcs.length).2)
  else if (firstI (at0 u.funcs (bodyErr u.funcs)) u.funcs.length).1 ≠ 0 then ((firstI (at0 u.funcs (bodyErr u.funcs)) u.funcs.length).1, (firstI (at0 u.funcs (bodyErr u.funcs)) u.funcs.length).2)
  else if mainAt u.funcs < 0 then (6, 0) else if 0 < at0 u.funcs (·.params) (mainAt u.funcs).toNat then (5, mainAt u.funcs) else (0, 0)
end Go.Proofs.YtebajiafdkokjaaDoor

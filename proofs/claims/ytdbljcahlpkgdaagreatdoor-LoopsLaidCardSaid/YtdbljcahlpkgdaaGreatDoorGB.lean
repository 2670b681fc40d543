/- Texts joined: Spec Reach Inst Name CheckA CheckB. -/
import Derived.Test.YtdbljcahlpkgdaaGreatDoorRows
import Derived.Test.YtdbljcahlpkgdaaGreatDoorGA
namespace Go.Proofs.YtdbljcahlpkgdaaGreatDoor
open Go Go.RowKit
def firstI (f : Nat→Int) (n : Nat) : Int × Nat:=match (List.range n).find? (fun i=>!decide (f i = 0)) with|some i=>(f i,i)|none=>(0,0)
theorem firstI_hit {f : Nat→Int} {n i : Nat} (h : ∀ j,j < i→f j = 0) (hi : i < n) (hf : f i ≠ 0) : firstI f n = (f i,i):=by
 have e : (List.range n).find? (fun i=>!decide (f i = 0)) = some i:=by
  rw [List.find?_eq_some_iff_append]
  refine ⟨by simp [hf],List.range i,(List.range' (i + 1) (n - (i + 1))),?_,fun a ha=>by simp [h a (by simpa using ha)]⟩
  apply List.ext_getElem
  ·simp; omega
  ·intro k h1 h2
   simp only [List.getElem_range,List.getElem_append,List.length_range]
   split
   ·simp
   ·rename_i hk
    by_cases hk2 : k = i
    ·subst hk2; simp
    ·rw [List.getElem_cons]
     rw [dif_neg (by omega)]
     simp only [List.getElem_range']
     omega
 unfold firstI
 rw [e]
theorem firstI_none {f : Nat→Int} {n : Nat} (h : ∀ j,j < n→f j = 0) : firstI f n = (0,0):=by
 unfold firstI
 rw [List.find?_eq_none.2 (fun i hi=>by simp [h i (by simpa using hi)])]
theorem firstI_zero {f : Nat→Int} {n : Nat} (h : (firstI f n).1 = 0) : ∀ j,j < n→f j = 0:=by
 intro j hj
 unfold firstI at h
 split at h
 ·rename_i i hi
  have:=List.find?_some hi
  simp at this
  exact absurd h this
 ·rename_i hi
  have:=List.find?_eq_none.1 hi j (by simpa using hj)
  simpa using this
def within (n lo hi : Int) : Bool:=decide (lo ≤ n) && decide (n ≤ hi)
def byteAt (s : ByteArray) (i : Nat) : Int:=if h : i < s.size then ((s[i]'h).toNat : Int) else 0
def okCh (i : Nat) (c : Int) : Bool:=(((decide (97 ≤ c) && decide (c ≤ 122)) || (decide (65 ≤ c) && decide (c ≤ 90))) || decide (c = 95)) || ((decide (0 < (i : Int)) && decide (48 ≤ c)) && decide (c ≤ 57))
def nameOk (s : ByteArray) : Bool:=if (s.size : Int) < 1 ∨ 12 < (s.size : Int) then false else decide (∀ i,i < s.size→okCh i (byteAt s i) = true)
def hasName (l : List ByteArray) (s : ByteArray) : Bool:=l.any fun t=>s.toList == t.toList
def valErr (regs : Int) (v : LVal) : Int:=if v.reg && !within v.n 0 (regs - 1) then 3 else 0
def dstErr (regs n : Int) : Int:=if !within n 0 (regs - 1) then 3 else 0
def at0 {α : Type} (l : List α) (f : α→Int) (i : Nat) : Int:=match l[i]? with|some x=>f x|none=>0
def aheadIn (i : Nat) (rows : List (List Int)) (to : Int) : List (List Int):=rows.modify to.toNat (·++[(i : Int)])
def aheadTo (bs : List LBlock) : Nat→List (List Int)
 | 0=>List.replicate bs.length []
 | i + 1=>(match bs[i]? with|some b=>b.to|none=>[]).foldl (aheadIn i) (aheadTo bs i)
def aheadL (bs : List LBlock) : List (List Int):=aheadTo bs bs.length
def phiE (regs : Int) (block np : Nat) (p : LPhi) : Int :=
 if (block : Int) = 0 then 5 else if dstErr regs p.dst ≠ 0 then dstErr regs p.dst
 else if (p.src.length : Int) ≠ np then 9 else (firstI (at0 p.src (valErr regs)) p.src.length).1
def phiErr (regs : Int) (bs : List LBlock) (block : Nat) (p : LPhi) : Int:=phiE regs block ((aheadL bs)[block]?.getD []).length p
def shape (op : Int) : Bool × Bool × Bool :=
 if ((op = 1 ∨ op = 16) ∨ op = 17) ∨ op = 18 then (true,true,false) else if 2 ≤ op∧op ≤ 15 then (true,true,true) else if op = 19 then (false,true,true)
 else if op = 20 ∨ op = 21 then (true,false,false) else if op = 22 then (false,true,false) else (false,false,false)
def noVal (v : LVal) : Bool:=(v.reg == false) && decide (v.n = 0)
def callErr (fs : List LFunc) (regs : Int) (x : LIns) : Int :=
 if x.op ≠ 20 then 0 else if !within x.fn 0 (fs.length - 1) then 3 else if (x.args.length : Int) ≠ at0 fs (·.params) x.fn.toNat then 9 else (firstI (at0 x.args (valErr regs)) x.args.length).1
def strayB (x : LIns) : Bool :=
 (((!(shape x.op).1 && !decide (x.dst = -1)) || (!(shape x.op).2.1 && !noVal x.a)) || (!(shape x.op).2.2 && !noVal x.b)) || (!decide (x.op = 20) && (!decide (x.fn = 0) || decide (0 < (x.args.length : Int))))
def insErr (fs : List LFunc) (regs : Int) (x : LIns) : Int :=
 if !within x.op 1 22 then 4 else if strayB x then 5
 else if ((shape x.op).1 && !(decide (x.op = 20) && decide (x.dst = -1))) && !decide (dstErr regs x.dst = 0) then dstErr regs x.dst
 else if valErr regs x.a ≠ 0 then valErr regs x.a else if valErr regs x.b ≠ 0 then valErr regs x.b else callErr fs regs x
def endE (n : Nat) (regs kind : Int) (on : LVal) (to : List Int) : Int :=
 if !within kind 1 3 then 4 else if (to.length : Int) ≠ kind - 1 then 9 else if to.any (fun t=>!within t 1 (n - 1)) then 3
 else if (decide (kind = 3) && decide (to[0]?.getD 0 = to[1]?.getD 0)) || (decide (kind = 2) && !noVal on) then 5 else valErr regs on
def endErr (n : Nat) (regs : Int) (b : LBlock) : Int:=endE n regs b.kind b.on b.to
def blockErr (fs : List LFunc) (f : LFunc) (i : Nat) : Int:=match f.blocks[i]? with
 | some b=>if (firstI (at0 b.phis (phiErr f.regs f.blocks i)) b.phis.length).1 ≠ 0 then (firstI (at0 b.phis (phiErr f.regs f.blocks i)) b.phis.length).1 else (firstI (at0 b.list (insErr fs f.regs)) b.list.length).1
 | none=>0
def bodyErr (fs : List LFunc) (f : LFunc) : Int :=
 if (firstI (at0 f.blocks (endErr f.blocks.length f.regs)) f.blocks.length).1 ≠ 0 then (firstI (at0 f.blocks (endErr f.blocks.length f.regs)) f.blocks.length).1 else (firstI (blockErr fs f) f.blocks.length).1
def sizeTo (bs : List LBlock) (i : Nat) : Int:=((bs.take i).map fun b=>((b.phis.length + b.list.length : Nat) : Int)).sum
def sizeOfBs (bs : List LBlock) : Int:=(bs.map fun b=>((b.phis.length + b.list.length : Nat) : Int)).sum
def headErr (names : List ByteArray) (f : LFunc) : Int :=
 if !nameOk f.name then 12 else if hasName names f.name then 7 else if !within f.params 0 6 || !within f.regs f.params 100 then 3
 else if !within f.blocks.length 1 40 || decide (300 < sizeOfBs f.blocks) then 2 else 0
def totTo (l : List LGlobal) (i : Nat) : Int:=((l.take i).map (·.size)).sum
def globErr (names : List ByteArray) (tot : Int) (g : LGlobal) : Int :=
 if !nameOk g.name then 12 else if hasName names g.name then 7 else if !within g.size 1 200 then 3 else if g.size < (g.init.length : Int) then 9 else if 200 < tot + g.size then 10 else 0
def globAt (l : List LGlobal) (i : Nat) : Int:=at0 l (globErr ((l.take i).map (·.name)) (totTo l i)) i
def headAt (u : LUnit) (i : Nat) : Int:=at0 u.funcs (headErr (u.globals.map (·.name)++(u.funcs.take i).map (·.name))) i
def isMain (f : LFunc) : Bool:=f.name.toList == (ByteArray.mk #[109,97,105,110]).toList
def mainAt (fs : List LFunc) : Int:=match fs.findIdx? isMain with|some i=>(i : Int)|none=>-1
def checkL (u : LUnit) : Int × Int :=
 if 10 < (u.globals.length : Int) ∨ 10 < (u.funcs.length : Int) then (2,0)
 else if (firstI (globAt u.globals) u.globals.length).1 ≠ 0 then ((firstI (globAt u.globals) u.globals.length).1,(firstI (globAt u.globals) u.globals.length).2)
 else if (firstI (headAt u) u.funcs.length).1 ≠ 0 then ((firstI (headAt u) u.funcs.length).1,(firstI (headAt u) u.funcs.length).2)
 else if (firstI (at0 u.funcs (bodyErr u.funcs)) u.funcs.length).1 ≠ 0 then ((firstI (at0 u.funcs (bodyErr u.funcs)) u.funcs.length).1,(firstI (at0 u.funcs (bodyErr u.funcs)) u.funcs.length).2)
 else if mainAt u.funcs < 0 then (6,0) else if 0 < at0 u.funcs (·.params) (mainAt u.funcs).toNat then (5,mainAt u.funcs) else (0,0)
def toOf (bl : List LBlock) (i : Nat) : List Int:=match bl[i]? with|some b=>b.to|none=>[]
def Edge (bl : List LBlock) (x y : Nat) : Prop:=(y : Int) ∈ toOf bl x
inductive Rch (bl : List LBlock) (wo : Int) (b : Nat) : Nat→Prop
 | refl : Rch bl wo b b
 | step {x y : Nat} : Rch bl wo b x→Edge bl x y→(y : Int) ≠ wo→Rch bl wo b y
theorem Rch.trans {bl : List LBlock} {wo : Int} {a b c : Nat} (h : Rch bl wo a b) (k : Rch bl wo b c) : Rch bl wo a c:=by
 induction k with
 | refl=>exact h
 | step _ he hw ih=>exact ih.step he hw
theorem toOf_get {bl : List LBlock} {i : Nat} {b : LBlock} (h : bl[i]? = some b) : toOf bl i = b.to:=by simp [toOf,h]
def GoodB (bl : List LBlock) : Prop:=∀ b ∈ bl,b.to.length ≤ 2∧∀ t ∈ b.to,0 ≤ t∧t < bl.length
theorem GoodB.edge {bl : List LBlock} (h : GoodB bl) {x y : Nat} (he : Edge bl x y) : y < bl.length:=by
 unfold Edge toOf at he
 split at he
 ·rename_i b hb
  have:=(h b (List.mem_of_getElem? hb)).2 _ he
  omega
 ·cases he
theorem GoodB.rch {bl : List LBlock} (h : GoodB bl) {wo : Int} {b x : Nat} (hb : b < bl.length) (hr : Rch bl wo b x) : x < bl.length:=by
 induction hr with
 | refl=>exact hb
 | step _ he _ _=>exact h.edge he
theorem rch_closed {bl : List LBlock} {wo : Int} {b : Nat} {p : Nat→Prop} (h0 : p b) (hc : ∀ x y,p x→Edge bl x y→(y : Int) ≠ wo→p y) {x : Nat} (h : Rch bl wo b x) : p x:=by
 induction h with
 | refl=>exact h0
 | step _ he hw ih=>exact hc _ _ ih he hw
theorem nodup_len : ∀ (n : Nat) (l : List Nat),l.Nodup→(∀ x ∈ l,x < n)→l.length ≤ n
 | 0,l,_,h=>by
  cases l with
  | nil=>simp
  | cons x l=>have:=h x (by simp); omega
 | n + 1,l,hn,h=>by
  by_cases hm : n ∈ l
  ·have h1:=nodup_len n (l.erase n) (hn.erase n) fun x hx=>by
    have:=(hn.mem_erase_iff).1 hx
    have:=h x this.2
    omega
   rw [List.length_erase_of_mem hm] at h1
   omega
  ·have:=nodup_len n l hn fun x hx=>by
    have h1:=h x hx
    have : x ≠ n:=fun e=>hm (e ▸ hx)
    omega
   omega
def unseen (l : List Bool) : Nat:=l.count false
theorem unseen_set {l : List Bool} {i : Nat} (h : l[i]? = some false) : unseen (l.set i true) + 1 = unseen l:=by
 induction l generalizing i with
 | nil=>simp at h
 | cons x l ih =>
  cases i with
  | zero =>
   simp only [List.getElem?_cons_zero,Option.some.injEq] at h
   subst h
   simp [unseen]
  | succ i =>
   simp only [List.getElem?_cons_succ] at h
   have:=ih h
   simp only [unseen,List.set_cons_succ,List.count_cons] at this ⊢
   omega
end Go.Proofs.YtdbljcahlpkgdaaGreatDoor
namespace Go.Proofs.YtdbljcahlpkgdaaGreatDoor
open Go Go.RowKit
instance : OneCell Tryz.prog 3:=⟨Tryz.isAgg3,Tryz.sizeOf3⟩
instance : OneCell Tryz.prog 4:=⟨Tryz.isAgg4,Tryz.sizeOf4⟩
instance : ZeroVal Tryz.prog 4 (.bool false):=⟨Tryz.zeroValue4⟩
instance : OneCell Tryz.prog 9:=⟨Tryz.isAgg9,Tryz.sizeOf9⟩
instance : IsStr Tryz.prog 9:=⟨Tryz.underlying9⟩
instance : OneCell Tryz.prog 22:=⟨Tryz.isAgg22,Tryz.sizeOf22⟩
instance : ElemSize Tryz.prog 22 3:=⟨by kernel_rfl,fun w=>by have h : Tryz.prog.elem 22 = 57:=(by kernel_rfl); rw [h]; exact Tryz.sizeOf57 w⟩
instance : ElemInfo Tryz.prog 22 57 3 48 [.string ByteArray.empty,.int .i64 0,.slice none 0 0]:=⟨by kernel_rfl,by kernel_rfl⟩
instance : OneCell Tryz.prog 23:=⟨Tryz.isAgg23,Tryz.sizeOf23⟩
instance : ElemSize Tryz.prog 23 4:=⟨by kernel_rfl,fun w=>by have h : Tryz.prog.elem 23 = 35:=(by kernel_rfl); rw [h]; exact Tryz.sizeOf35 w⟩
instance : ElemInfo Tryz.prog 23 35 4 56 [.string ByteArray.empty,.int .i64 0,.int .i64 0,.slice none 0 0]:=⟨by kernel_rfl,by kernel_rfl⟩
instance : AggSize Tryz.prog 25 2:=⟨Tryz.isAgg25,Tryz.sizeOf25⟩
instance : FieldOff Tryz.prog 25 0 0:=⟨fun b o w=>by simp [Instr.fieldAt,Instr.sureAddr,Tryz.runUnderlying25,fieldPlace,Tryz.sizeOf22,Addr.add_lit]⟩
instance : FieldOff Tryz.prog 25 1 1:=⟨fun b o w=>by simp [Instr.fieldAt,Instr.sureAddr,Tryz.runUnderlying25,fieldPlace,Tryz.sizeOf23,Addr.add_lit]⟩
instance : StructAt Tryz.prog 25 [.slice none 0 0,.slice none 0 0] [(0,1),(1,1)]:=⟨fun parts cells h=>by
 have e : Tryz.prog.built 25 parts = Instr.fill (([(0,1),(1,1)] : List (Nat × Nat)).toArray[·]?) (#[.slice none 0 0,.slice none 0 0] : Array Value) parts:=by kernel_rfl
 rw [e]; simpa using h⟩
instance : ZeroVal Tryz.prog 25 (.agg #[.slice none 0 0,.slice none 0 0]):=⟨Tryz.zeroValue25⟩
instance : AggSize Tryz.prog 28 2:=⟨Tryz.isAgg28,Tryz.sizeOf28⟩
instance : FieldOff Tryz.prog 28 0 0:=⟨fun b o w=>by simp [Instr.fieldAt,Instr.sureAddr,Tryz.runUnderlying28,fieldPlace,Tryz.sizeOf3,Addr.add_lit]⟩
instance : StructAt Tryz.prog 28 [.int .i64 0,.int .i64 0] [(0,1),(1,1)]:=⟨fun parts cells h=>by
 have e : Tryz.prog.built 28 parts = Instr.fill (([(0,1),(1,1)] : List (Nat × Nat)).toArray[·]?) (#[.int .i64 0,.int .i64 0] : Array Value) parts:=by kernel_rfl
 rw [e]; simpa using h⟩
instance : ZeroVal Tryz.prog 28 (.agg #[.int .i64 0,.int .i64 0]):=⟨Tryz.zeroValue28⟩
instance : OneCell Tryz.prog 33:=⟨Tryz.isAgg33,Tryz.sizeOf33⟩
instance : ElemSize Tryz.prog 33 6:=⟨by kernel_rfl,fun w=>by have h : Tryz.prog.elem 33 = 52:=(by kernel_rfl); rw [h]; exact Tryz.sizeOf52 w⟩
instance : ElemInfo Tryz.prog 33 52 6 96 [.slice none 0 0,.slice none 0 0,.int .i64 0,.bool false,.int .i64 0,.slice none 0 0]:=⟨by kernel_rfl,by kernel_rfl⟩
instance : AggSize Tryz.prog 35 4:=⟨Tryz.isAgg35,Tryz.sizeOf35⟩
instance : FieldOff Tryz.prog 35 0 0:=⟨fun b o w=>by simp [Instr.fieldAt,Instr.sureAddr,Tryz.runUnderlying35,fieldPlace,Tryz.sizeOf9,Addr.add_lit]⟩
instance : FieldOff Tryz.prog 35 1 1:=⟨fun b o w=>by simp [Instr.fieldAt,Instr.sureAddr,Tryz.runUnderlying35,fieldPlace,Tryz.sizeOf3,Addr.add_lit]⟩
instance : FieldOff Tryz.prog 35 2 2:=⟨fun b o w=>by simp [Instr.fieldAt,Instr.sureAddr,Tryz.runUnderlying35,fieldPlace,Tryz.sizeOf3,Addr.add_lit]⟩
instance : FieldOff Tryz.prog 35 3 3:=⟨fun b o w=>by simp [Instr.fieldAt,Instr.sureAddr,Tryz.runUnderlying35,fieldPlace,Tryz.sizeOf33,Addr.add_lit]⟩
instance : ZeroVal Tryz.prog 35 (.agg #[.string ByteArray.empty,.int .i64 0,.int .i64 0,.slice none 0 0]):=⟨Tryz.zeroValue35⟩
instance : OneCell Tryz.prog 38:=⟨Tryz.isAgg38,Tryz.sizeOf38⟩
instance : ElemSize Tryz.prog 38 1:=⟨by kernel_rfl,fun w=>by have h : Tryz.prog.elem 38 = 3:=(by kernel_rfl); rw [h]; exact Tryz.sizeOf3 w⟩
instance : ElemInfo Tryz.prog 38 3 1 8 [.int .i64 0]:=⟨by kernel_rfl,by kernel_rfl⟩
instance : ZeroVal Tryz.prog 38 (.slice none 0 0):=⟨Tryz.zeroValue38⟩
instance : OneCell Tryz.prog 40:=⟨Tryz.isAgg40,Tryz.sizeOf40⟩
instance : ElemSize Tryz.prog 40 1:=⟨by kernel_rfl,fun w=>by have h : Tryz.prog.elem 40 = 38:=(by kernel_rfl); rw [h]; exact Tryz.sizeOf38 w⟩
instance : ElemInfo Tryz.prog 40 38 1 24 [.slice none 0 0]:=⟨by kernel_rfl,by kernel_rfl⟩
instance : OneCell Tryz.prog 45:=⟨Tryz.isAgg45,Tryz.sizeOf45⟩
instance : ElemSize Tryz.prog 45 2:=⟨by kernel_rfl,fun w=>by have h : Tryz.prog.elem 45 = 86:=(by kernel_rfl); rw [h]; exact Tryz.sizeOf86 w⟩
instance : ElemInfo Tryz.prog 45 86 2 32 [.int .i64 0,.slice none 0 0]:=⟨by kernel_rfl,by kernel_rfl⟩
instance : OneCell Tryz.prog 46:=⟨Tryz.isAgg46,Tryz.sizeOf46⟩
instance : ElemSize Tryz.prog 46 8:=⟨by kernel_rfl,fun w=>by have h : Tryz.prog.elem 46 = 89:=(by kernel_rfl); rw [h]; exact Tryz.sizeOf89 w⟩
instance : ElemInfo Tryz.prog 46 89 8 80 [.int .i64 0,.int .i64 0,.bool false,.int .i64 0,.bool false,.int .i64 0,.int .i64 0,.slice none 0 0]:=⟨by kernel_rfl,by kernel_rfl⟩
instance : AggSize Tryz.prog 48 2:=⟨Tryz.isAgg48,Tryz.sizeOf48⟩
instance : FieldOff Tryz.prog 48 0 0:=⟨fun b o w=>by simp [Instr.fieldAt,Instr.sureAddr,Tryz.runUnderlying48,fieldPlace,Tryz.sizeOf4,Addr.add_lit]⟩
instance : FieldOff Tryz.prog 48 1 1:=⟨fun b o w=>by simp [Instr.fieldAt,Instr.sureAddr,Tryz.runUnderlying48,fieldPlace,Tryz.sizeOf3,Addr.add_lit]⟩
instance : StructAt Tryz.prog 48 [.bool false,.int .i64 0] [(0,1),(1,1)]:=⟨fun parts cells h=>by
 have e : Tryz.prog.built 48 parts = Instr.fill (([(0,1),(1,1)] : List (Nat × Nat)).toArray[·]?) (#[.bool false,.int .i64 0] : Array Value) parts:=by kernel_rfl
 rw [e]; simpa using h⟩
instance : ZeroVal Tryz.prog 48 (.agg #[.bool false,.int .i64 0]):=⟨Tryz.zeroValue48⟩
instance : AggSize Tryz.prog 50 4:=⟨Tryz.isAgg50,Tryz.sizeOf50⟩
instance : FieldOff Tryz.prog 50 0 0:=⟨fun b o w=>by simp [Instr.fieldAt,Instr.sureAddr,Tryz.runUnderlying50,fieldPlace,Tryz.sizeOf3,Addr.add_lit]⟩
instance : FieldOff Tryz.prog 50 1 1:=⟨fun b o w=>by simp [Instr.fieldAt,Instr.sureAddr,Tryz.runUnderlying50,fieldPlace,Tryz.sizeOf48,Addr.add_lit]⟩
instance : FieldOff Tryz.prog 50 2 3:=⟨fun b o w=>by simp [Instr.fieldAt,Instr.sureAddr,Tryz.runUnderlying50,fieldPlace,Tryz.sizeOf38,Addr.add_lit]⟩
instance : StructAt Tryz.prog 50 [.int .i64 0,.bool false,.int .i64 0,.slice none 0 0] [(0,1),(1,2),(3,1)]:=⟨fun parts cells h=>by
 have e : Tryz.prog.built 50 parts = Instr.fill (([(0,1),(1,2),(3,1)] : List (Nat × Nat)).toArray[·]?) (#[.int .i64 0,.bool false,.int .i64 0,.slice none 0 0] : Array Value) parts:=by kernel_rfl
 rw [e]; simpa using h⟩
instance : AggSize Tryz.prog 52 6:=⟨Tryz.isAgg52,Tryz.sizeOf52⟩
instance : FieldOff Tryz.prog 52 0 0:=⟨fun b o w=>by simp [Instr.fieldAt,Instr.sureAddr,Tryz.runUnderlying52,fieldPlace,Tryz.sizeOf45,Addr.add_lit]⟩
instance : FieldOff Tryz.prog 52 1 1:=⟨fun b o w=>by simp [Instr.fieldAt,Instr.sureAddr,Tryz.runUnderlying52,fieldPlace,Tryz.sizeOf46,Addr.add_lit]⟩
instance : FieldOff Tryz.prog 52 2 2:=⟨fun b o w=>by simp [Instr.fieldAt,Instr.sureAddr,Tryz.runUnderlying52,fieldPlace,Tryz.sizeOf50,Addr.add_lit]⟩
instance : StructAt Tryz.prog 52 [.slice none 0 0,.slice none 0 0,.int .i64 0,.bool false,.int .i64 0,.slice none 0 0] [(0,1),(1,1),(2,4)]:=⟨fun parts cells h=>by
 have e : Tryz.prog.built 52 parts = Instr.fill (([(0,1),(1,1),(2,4)] : List (Nat × Nat)).toArray[·]?) (#[.slice none 0 0,.slice none 0 0,.int .i64 0,.bool false,.int .i64 0,.slice none 0 0] : Array Value) parts:=by kernel_rfl
 rw [e]; simpa using h⟩
instance : ZeroVal Tryz.prog 52 (.agg #[.slice none 0 0,.slice none 0 0,.int .i64 0,.bool false,.int .i64 0,.slice none 0 0]):=⟨Tryz.zeroValue52⟩
instance : ElemSize Tryz.prog 55 1:=⟨by kernel_rfl,fun w=>by have h : Tryz.prog.elem 55 = 9:=(by kernel_rfl); rw [h]; exact Tryz.sizeOf9 w⟩
instance : ElemInfo Tryz.prog 55 9 1 16 [.string ByteArray.empty]:=⟨by kernel_rfl,by kernel_rfl⟩
instance : AggSize Tryz.prog 57 3:=⟨Tryz.isAgg57,Tryz.sizeOf57⟩
instance : FieldOff Tryz.prog 57 0 0:=⟨fun b o w=>by simp [Instr.fieldAt,Instr.sureAddr,Tryz.runUnderlying57,fieldPlace,Tryz.sizeOf9,Addr.add_lit]⟩
instance : FieldOff Tryz.prog 57 1 1:=⟨fun b o w=>by simp [Instr.fieldAt,Instr.sureAddr,Tryz.runUnderlying57,fieldPlace,Tryz.sizeOf3,Addr.add_lit]⟩
instance : FieldOff Tryz.prog 57 2 2:=⟨fun b o w=>by simp [Instr.fieldAt,Instr.sureAddr,Tryz.runUnderlying57,fieldPlace,Tryz.sizeOf38,Addr.add_lit]⟩
instance : ZeroVal Tryz.prog 57 (.agg #[.string ByteArray.empty,.int .i64 0,.slice none 0 0]):=⟨Tryz.zeroValue57⟩
instance : AggSize Tryz.prog 62 7:=⟨Tryz.isAgg62,Tryz.sizeOf62⟩
instance : FieldOff Tryz.prog 62 0 0:=⟨fun b o w=>by simp [Instr.fieldAt,Instr.sureAddr,Tryz.runUnderlying62,fieldPlace,Tryz.sizeOf25,Addr.add_lit]⟩
instance : FieldOff Tryz.prog 62 1 2:=⟨fun b o w=>by simp [Instr.fieldAt,Instr.sureAddr,Tryz.runUnderlying62,fieldPlace,Tryz.sizeOf35,Addr.add_lit]⟩
instance : FieldOff Tryz.prog 62 2 6:=⟨fun b o w=>by simp [Instr.fieldAt,Instr.sureAddr,Tryz.runUnderlying62,fieldPlace,Tryz.sizeOf40,Addr.add_lit]⟩
instance : StructAt Tryz.prog 62 [.slice none 0 0,.slice none 0 0,.string ByteArray.empty,.int .i64 0,.int .i64 0,.slice none 0 0,.slice none 0 0] [(0,2),(2,4),(6,1)]:=⟨fun parts cells h=>by
 have e : Tryz.prog.built 62 parts = Instr.fill (([(0,2),(2,4),(6,1)] : List (Nat × Nat)).toArray[·]?) (#[.slice none 0 0,.slice none 0 0,.string ByteArray.empty,.int .i64 0,.int .i64 0,.slice none 0 0,.slice none 0 0] : Array Value) parts:=by kernel_rfl
 rw [e]; simpa using h⟩
instance : ZeroVal Tryz.prog 62 (.agg #[.slice none 0 0,.slice none 0 0,.string ByteArray.empty,.int .i64 0,.int .i64 0,.slice none 0 0,.slice none 0 0]):=⟨Tryz.zeroValue62⟩
instance : OneCell Tryz.prog 64:=⟨Tryz.isAgg64,Tryz.sizeOf64⟩
instance : AggSize Tryz.prog 73 4:=⟨Tryz.isAgg73,Tryz.sizeOf73⟩
instance : FieldOff Tryz.prog 73 0 0:=⟨fun b o w=>by simp [Instr.fieldAt,Instr.sureAddr,Tryz.runUnderlying73,fieldPlace,Tryz.sizeOf3,Addr.add_lit]⟩
instance : FieldOff Tryz.prog 73 1 1:=⟨fun b o w=>by simp [Instr.fieldAt,Instr.sureAddr,Tryz.runUnderlying73,fieldPlace,Tryz.sizeOf3,Addr.add_lit]⟩
instance : FieldOff Tryz.prog 73 2 2:=⟨fun b o w=>by simp [Instr.fieldAt,Instr.sureAddr,Tryz.runUnderlying73,fieldPlace,Tryz.sizeOf38,Addr.add_lit]⟩
instance : FieldOff Tryz.prog 73 3 3:=⟨fun b o w=>by simp [Instr.fieldAt,Instr.sureAddr,Tryz.runUnderlying73,fieldPlace,Tryz.sizeOf3,Addr.add_lit]⟩
instance : StructAt Tryz.prog 73 [.int .i64 0,.int .i64 0,.slice none 0 0,.int .i64 0] [(0,1),(1,1),(2,1),(3,1)]:=⟨fun parts cells h=>by
 have e : Tryz.prog.built 73 parts = Instr.fill (([(0,1),(1,1),(2,1),(3,1)] : List (Nat × Nat)).toArray[·]?) (#[.int .i64 0,.int .i64 0,.slice none 0 0,.int .i64 0] : Array Value) parts:=by kernel_rfl
 rw [e]; simpa using h⟩
instance : ZeroVal Tryz.prog 73 (.agg #[.int .i64 0,.int .i64 0,.slice none 0 0,.int .i64 0]):=⟨Tryz.zeroValue73⟩
instance : OneCell Tryz.prog 84:=⟨Tryz.isAgg84,Tryz.sizeOf84⟩
instance : ElemSize Tryz.prog 84 2:=⟨by kernel_rfl,fun w=>by have h : Tryz.prog.elem 84 = 48:=(by kernel_rfl); rw [h]; exact Tryz.sizeOf48 w⟩
instance : ElemInfo Tryz.prog 84 48 2 16 [.bool false,.int .i64 0]:=⟨by kernel_rfl,by kernel_rfl⟩
instance : AggSize Tryz.prog 86 2:=⟨Tryz.isAgg86,Tryz.sizeOf86⟩
instance : FieldOff Tryz.prog 86 0 0:=⟨fun b o w=>by simp [Instr.fieldAt,Instr.sureAddr,Tryz.runUnderlying86,fieldPlace,Tryz.sizeOf3,Addr.add_lit]⟩
instance : FieldOff Tryz.prog 86 1 1:=⟨fun b o w=>by simp [Instr.fieldAt,Instr.sureAddr,Tryz.runUnderlying86,fieldPlace,Tryz.sizeOf84,Addr.add_lit]⟩
instance : StructAt Tryz.prog 86 [.int .i64 0,.slice none 0 0] [(0,1),(1,1)]:=⟨fun parts cells h=>by
 have e : Tryz.prog.built 86 parts = Instr.fill (([(0,1),(1,1)] : List (Nat × Nat)).toArray[·]?) (#[.int .i64 0,.slice none 0 0] : Array Value) parts:=by kernel_rfl
 rw [e]; simpa using h⟩
instance : ZeroVal Tryz.prog 86 (.agg #[.int .i64 0,.slice none 0 0]):=⟨Tryz.zeroValue86⟩
instance : AggSize Tryz.prog 89 8:=⟨Tryz.isAgg89,Tryz.sizeOf89⟩
instance : FieldOff Tryz.prog 89 0 0:=⟨fun b o w=>by simp [Instr.fieldAt,Instr.sureAddr,Tryz.runUnderlying89,fieldPlace,Tryz.sizeOf3,Addr.add_lit]⟩
instance : FieldOff Tryz.prog 89 1 1:=⟨fun b o w=>by simp [Instr.fieldAt,Instr.sureAddr,Tryz.runUnderlying89,fieldPlace,Tryz.sizeOf3,Addr.add_lit]⟩
instance : FieldOff Tryz.prog 89 2 2:=⟨fun b o w=>by simp [Instr.fieldAt,Instr.sureAddr,Tryz.runUnderlying89,fieldPlace,Tryz.sizeOf48,Addr.add_lit]⟩
instance : FieldOff Tryz.prog 89 3 4:=⟨fun b o w=>by simp [Instr.fieldAt,Instr.sureAddr,Tryz.runUnderlying89,fieldPlace,Tryz.sizeOf48,Addr.add_lit]⟩
instance : FieldOff Tryz.prog 89 4 6:=⟨fun b o w=>by simp [Instr.fieldAt,Instr.sureAddr,Tryz.runUnderlying89,fieldPlace,Tryz.sizeOf3,Addr.add_lit]⟩
instance : FieldOff Tryz.prog 89 5 7:=⟨fun b o w=>by simp [Instr.fieldAt,Instr.sureAddr,Tryz.runUnderlying89,fieldPlace,Tryz.sizeOf84,Addr.add_lit]⟩
instance : ZeroVal Tryz.prog 89 (.agg #[.int .i64 0,.int .i64 0,.bool false,.int .i64 0,.bool false,.int .i64 0,.int .i64 0,.slice none 0 0]):=⟨Tryz.zeroValue89⟩
instance : ElemSize Tryz.prog 95 2:=⟨by kernel_rfl,fun w=>by have h : Tryz.prog.elem 95 = 97:=(by kernel_rfl); rw [h]; exact Tryz.sizeOf97 w⟩
instance : ElemInfo Tryz.prog 95 97 2 16 [.int .i64 0,.int .i64 0]:=⟨by kernel_rfl,by kernel_rfl⟩
instance : AggSize Tryz.prog 97 2:=⟨Tryz.isAgg97,Tryz.sizeOf97⟩
instance : ArrOf Tryz.prog 97 2 1:=⟨by kernel_rfl,by kernel_rfl,fun w=>by have h : Tryz.prog.elem 97 = 3:=(by kernel_rfl); rw [h]; exact Tryz.sizeOf3 w⟩
instance : ZeroVal Tryz.prog 97 (.agg #[.int .i64 0,.int .i64 0]):=⟨Tryz.zeroValue97⟩
instance : ArrOf Tryz.prog 111 4 1:=⟨by kernel_rfl,by kernel_rfl,fun w=>by have h : Tryz.prog.elem 111 = 3:=(by kernel_rfl); rw [h]; exact Tryz.sizeOf3 w⟩
instance : AggSize Tryz.prog 117 3:=⟨Tryz.isAgg117,Tryz.sizeOf117⟩
instance : FieldOff Tryz.prog 117 0 0:=⟨fun b o w=>by simp [Instr.fieldAt,Instr.sureAddr,Tryz.runUnderlying117,fieldPlace,Tryz.sizeOf4,Addr.add_lit]⟩
instance : FieldOff Tryz.prog 117 1 1:=⟨fun b o w=>by simp [Instr.fieldAt,Instr.sureAddr,Tryz.runUnderlying117,fieldPlace,Tryz.sizeOf4,Addr.add_lit]⟩
instance : FieldOff Tryz.prog 117 2 2:=⟨fun b o w=>by simp [Instr.fieldAt,Instr.sureAddr,Tryz.runUnderlying117,fieldPlace,Tryz.sizeOf4,Addr.add_lit]⟩
instance : StructAt Tryz.prog 117 [.bool false,.bool false,.bool false] [(0,1),(1,1),(2,1)]:=⟨fun parts cells h=>by
 have e : Tryz.prog.built 117 parts = Instr.fill (([(0,1),(1,1),(2,1)] : List (Nat × Nat)).toArray[·]?) (#[.bool false,.bool false,.bool false] : Array Value) parts:=by kernel_rfl
 rw [e]; simpa using h⟩
instance : ZeroVal Tryz.prog 117 (.agg #[.bool false,.bool false,.bool false]):=⟨Tryz.zeroValue117⟩
instance : OneCell Tryz.prog 123:=⟨Tryz.isAgg123,Tryz.sizeOf123⟩
instance : ElemSize Tryz.prog 123 1:=⟨by kernel_rfl,fun w=>by have h : Tryz.prog.elem 123 = 40:=(by kernel_rfl); rw [h]; exact Tryz.sizeOf40 w⟩
instance : ElemInfo Tryz.prog 123 40 1 24 [.slice none 0 0]:=⟨by kernel_rfl,by kernel_rfl⟩
instance : OneCell Tryz.prog 124:=⟨Tryz.isAgg124,Tryz.sizeOf124⟩
instance : ElemSize Tryz.prog 124 5:=⟨by kernel_rfl,fun w=>by have h : Tryz.prog.elem 124 = 145:=(by kernel_rfl); rw [h]; exact Tryz.sizeOf145 w⟩
instance : ElemInfo Tryz.prog 124 145 5 56 [.int .i64 0,.int .i64 0,.int .i64 0,.slice none 0 0,.int .i64 0]:=⟨by kernel_rfl,by kernel_rfl⟩
instance : FieldOff Tryz.prog 126 0 0:=⟨fun b o w=>by simp [Instr.fieldAt,Instr.sureAddr,Tryz.runUnderlying126,fieldPlace,Tryz.sizeOf25,Addr.add_lit]⟩
instance : FieldOff Tryz.prog 126 1 2:=⟨fun b o w=>by simp [Instr.fieldAt,Instr.sureAddr,Tryz.runUnderlying126,fieldPlace,Tryz.sizeOf123,Addr.add_lit]⟩
instance : FieldOff Tryz.prog 126 2 3:=⟨fun b o w=>by simp [Instr.fieldAt,Instr.sureAddr,Tryz.runUnderlying126,fieldPlace,Tryz.sizeOf38,Addr.add_lit]⟩
instance : FieldOff Tryz.prog 126 3 4:=⟨fun b o w=>by simp [Instr.fieldAt,Instr.sureAddr,Tryz.runUnderlying126,fieldPlace,Tryz.sizeOf38,Addr.add_lit]⟩
instance : FieldOff Tryz.prog 126 4 5:=⟨fun b o w=>by simp [Instr.fieldAt,Instr.sureAddr,Tryz.runUnderlying126,fieldPlace,Tryz.sizeOf73,Addr.add_lit]⟩
instance : FieldOff Tryz.prog 126 5 9:=⟨fun b o w=>by simp [Instr.fieldAt,Instr.sureAddr,Tryz.runUnderlying126,fieldPlace,Tryz.sizeOf124,Addr.add_lit]⟩
instance : FieldOff Tryz.prog 126 6 10:=⟨fun b o w=>by simp [Instr.fieldAt,Instr.sureAddr,Tryz.runUnderlying126,fieldPlace,Tryz.sizeOf40,Addr.add_lit]⟩
instance : StructAt Tryz.prog 126 [.slice none 0 0,.slice none 0 0,.slice none 0 0,.slice none 0 0,.slice none 0 0,.int .i64 0,.int .i64 0,.slice none 0 0,.int .i64 0,.slice none 0 0,.slice none 0 0] [(0,2),(2,1),(3,1),(4,1),(5,4),(9,1),(10,1)]:=⟨fun parts cells h=>by
 have e : Tryz.prog.built 126 parts = Instr.fill (([(0,2),(2,1),(3,1),(4,1),(5,4),(9,1),(10,1)] : List (Nat × Nat)).toArray[·]?) (#[.slice none 0 0,.slice none 0 0,.slice none 0 0,.slice none 0 0,.slice none 0 0,.int .i64 0,.int .i64 0,.slice none 0 0,.int .i64 0,.slice none 0 0,.slice none 0 0] : Array Value) parts:=by kernel_rfl
 rw [e]; simpa using h⟩
instance : ElemSize Tryz.prog 141 1:=⟨by kernel_rfl,fun w=>by have h : Tryz.prog.elem 141 = 64:=(by kernel_rfl); rw [h]; exact Tryz.sizeOf64 w⟩
instance : ElemInfo Tryz.prog 141 64 1 8 [.nilFunc]:=⟨by kernel_rfl,by kernel_rfl⟩
instance : FieldOff Tryz.prog 145 0 0:=⟨fun b o w=>by simp [Instr.fieldAt,Instr.sureAddr,Tryz.runUnderlying145,fieldPlace,Tryz.sizeOf3,Addr.add_lit]⟩
instance : FieldOff Tryz.prog 145 1 1:=⟨fun b o w=>by simp [Instr.fieldAt,Instr.sureAddr,Tryz.runUnderlying145,fieldPlace,Tryz.sizeOf3,Addr.add_lit]⟩
instance : FieldOff Tryz.prog 145 2 2:=⟨fun b o w=>by simp [Instr.fieldAt,Instr.sureAddr,Tryz.runUnderlying145,fieldPlace,Tryz.sizeOf3,Addr.add_lit]⟩
instance : FieldOff Tryz.prog 145 3 3:=⟨fun b o w=>by simp [Instr.fieldAt,Instr.sureAddr,Tryz.runUnderlying145,fieldPlace,Tryz.sizeOf38,Addr.add_lit]⟩
instance : FieldOff Tryz.prog 145 4 4:=⟨fun b o w=>by simp [Instr.fieldAt,Instr.sureAddr,Tryz.runUnderlying145,fieldPlace,Tryz.sizeOf3,Addr.add_lit]⟩
instance : StructAt Tryz.prog 145 [.int .i64 0,.int .i64 0,.int .i64 0,.slice none 0 0,.int .i64 0] [(0,1),(1,1),(2,1),(3,1),(4,1)]:=⟨fun parts cells h=>by
 have e : Tryz.prog.built 145 parts = Instr.fill (([(0,1),(1,1),(2,1),(3,1),(4,1)] : List (Nat × Nat)).toArray[·]?) (#[.int .i64 0,.int .i64 0,.int .i64 0,.slice none 0 0,.int .i64 0] : Array Value) parts:=by kernel_rfl
 rw [e]; simpa using h⟩
instance : OneCell Tryz.prog 164:=⟨Tryz.isAgg164,Tryz.sizeOf164⟩
instance : ZeroVal Tryz.prog 164 (.nilFunc):=⟨Tryz.zeroValue164⟩
instance : OneCell Tryz.prog 167:=⟨Tryz.isAgg167,Tryz.sizeOf167⟩
instance : ElemSize Tryz.prog 167 1:=⟨by kernel_rfl,fun w=>by have h : Tryz.prog.elem 167 = 4:=(by kernel_rfl); rw [h]; exact Tryz.sizeOf4 w⟩
instance : ElemInfo Tryz.prog 167 4 1 1 [.bool false]:=⟨by kernel_rfl,by kernel_rfl⟩
instance : ZeroVal Tryz.prog 167 (.slice none 0 0):=⟨Tryz.zeroValue167⟩
instance : EnterOk Tryz.prog 5:=⟨Tryz.call5⟩
instance : EnterOk Tryz.prog 6:=⟨Tryz.call6⟩
instance : EnterOk Tryz.prog 7:=⟨Tryz.call7⟩
instance : EnterOk Tryz.prog 8:=⟨Tryz.call8⟩
instance : EnterOk Tryz.prog 12:=⟨Tryz.call12⟩
instance : EnterOk Tryz.prog 13:=⟨Tryz.call13⟩
instance : EnterOk Tryz.prog 14:=⟨Tryz.call14⟩
instance : EnterOk Tryz.prog 15:=⟨Tryz.call15⟩
instance : EnterOk Tryz.prog 16:=⟨Tryz.call16⟩
instance : EnterOk Tryz.prog 17:=⟨Tryz.call17⟩
instance : EnterOk Tryz.prog 18:=⟨Tryz.call18⟩
instance : EnterOk Tryz.prog 19:=⟨Tryz.call19⟩
instance : EnterOk Tryz.prog 20:=⟨Tryz.call20⟩
instance : EnterOk Tryz.prog 21:=⟨Tryz.call21⟩
instance : EnterOk Tryz.prog 22:=⟨Tryz.call22⟩
instance : EnterOk Tryz.prog 23:=⟨Tryz.call23⟩
instance : EnterOk Tryz.prog 24:=⟨Tryz.call24⟩
instance : EnterOk Tryz.prog 25:=⟨Tryz.call25⟩
instance : EnterOk Tryz.prog 30:=⟨Tryz.call30⟩
instance : EnterOk Tryz.prog 31:=⟨Tryz.call31⟩
instance : EnterOk Tryz.prog 32:=⟨Tryz.call32⟩
instance : EnterOk Tryz.prog 33:=⟨Tryz.call33⟩
instance : EnterOk Tryz.prog 34:=⟨Tryz.call34⟩
instance : EnterOk Tryz.prog 35:=⟨Tryz.call35⟩
instance : EnterOk Tryz.prog 36:=⟨Tryz.call36⟩
instance : EnterOk Tryz.prog 37:=⟨Tryz.call37⟩
instance : EnterOk Tryz.prog 38:=⟨Tryz.call38⟩
instance : EnterOk Tryz.prog 39:=⟨Tryz.call39⟩
instance : EnterOk Tryz.prog 40:=⟨Tryz.call40⟩
instance : EnterOk Tryz.prog 41:=⟨Tryz.call41⟩
instance : EnterOk Tryz.prog 42:=⟨Tryz.call42⟩
instance : EnterOk Tryz.prog 43:=⟨Tryz.call43⟩
instance : EnterOk Tryz.prog 44:=⟨Tryz.call44⟩
instance : EnterOk Tryz.prog 45:=⟨Tryz.call45⟩
instance : EnterOk Tryz.prog 46:=⟨Tryz.call46⟩
instance : EnterOk Tryz.prog 47:=⟨Tryz.call47⟩
instance : EnterOk Tryz.prog 48:=⟨Tryz.call48⟩
instance : EnterOk Tryz.prog 49:=⟨Tryz.call49⟩
instance : EnterOk Tryz.prog 52:=⟨Tryz.call52⟩
instance : EnterOk Tryz.prog 53:=⟨Tryz.call53⟩
instance : EnterOk Tryz.prog 54:=⟨Tryz.call54⟩
instance : EnterOk Tryz.prog 55:=⟨Tryz.call55⟩
instance : EnterOk Tryz.prog 56:=⟨Tryz.call56⟩
instance : EnterOk Tryz.prog 57:=⟨Tryz.call57⟩
instance : EnterOk Tryz.prog 58:=⟨Tryz.call58⟩
instance : EnterOk Tryz.prog 59:=⟨Tryz.call59⟩
instance : EnterOk Tryz.prog 60:=⟨Tryz.call60⟩
instance : EnterOk Tryz.prog 61:=⟨Tryz.call61⟩
instance : EnterOk Tryz.prog 62:=⟨Tryz.call62⟩
instance : EnterOk Tryz.prog 63:=⟨Tryz.call63⟩
instance : EnterOk Tryz.prog 64:=⟨Tryz.call64⟩
instance : EnterOk Tryz.prog 65:=⟨Tryz.call65⟩
instance : EnterOk Tryz.prog 66:=⟨Tryz.call66⟩
instance : EnterOk Tryz.prog 67:=⟨Tryz.call67⟩
instance : EnterOk Tryz.prog 68:=⟨Tryz.call68⟩
instance : EnterOk Tryz.prog 69:=⟨Tryz.call69⟩
instance : EnterOk Tryz.prog 70:=⟨Tryz.call70⟩
instance : EnterOk Tryz.prog 71:=⟨Tryz.call71⟩
instance : EnterOk Tryz.prog 72:=⟨Tryz.call72⟩
instance : EnterOk Tryz.prog 73:=⟨Tryz.call73⟩
instance : EnterOk Tryz.prog 74:=⟨Tryz.call74⟩
instance : EnterOk Tryz.prog 75:=⟨Tryz.call75⟩
instance : EnterOk Tryz.prog 76:=⟨Tryz.call76⟩
instance : EnterOk Tryz.prog 77:=⟨Tryz.call77⟩
instance : EnterOk Tryz.prog 78:=⟨Tryz.call78⟩
instance : EnterOk Tryz.prog 79:=⟨Tryz.call79⟩
instance : EnterOk Tryz.prog 80:=⟨Tryz.call80⟩
instance : EnterOk Tryz.prog 81:=⟨Tryz.call81⟩
instance : EnterOk Tryz.prog 82:=⟨Tryz.call82⟩
instance : EnterOk Tryz.prog 83:=⟨Tryz.call83⟩
instance : EnterOk Tryz.prog 84:=⟨Tryz.call84⟩
instance : EnterOk Tryz.prog 85:=⟨Tryz.call85⟩
instance : EnterOk Tryz.prog 86:=⟨Tryz.call86⟩
instance : EnterOk Tryz.prog 87:=⟨Tryz.call87⟩
instance : EnterOk Tryz.prog 88:=⟨Tryz.call88⟩
instance : EnterOk Tryz.prog 89:=⟨Tryz.call89⟩
instance : EnterOk Tryz.prog 90:=⟨Tryz.call90⟩
instance : EnterOk Tryz.prog 91:=⟨Tryz.call91⟩
instance : EnterOk Tryz.prog 92:=⟨Tryz.call92⟩
instance : EnterOk Tryz.prog 93:=⟨Tryz.call93⟩
instance : EnterOk Tryz.prog 94:=⟨Tryz.call94⟩
instance : EnterOk Tryz.prog 97:=⟨Tryz.call97⟩
instance : EnterOk Tryz.prog 98:=⟨Tryz.call98⟩
instance : EnterOk Tryz.prog 99:=⟨Tryz.call99⟩
instance : EnterOk Tryz.prog 100:=⟨Tryz.call100⟩
instance : EnterOk Tryz.prog 101:=⟨Tryz.call101⟩
instance : EnterOk Tryz.prog 102:=⟨Tryz.call102⟩
instance : EnterOk Tryz.prog 103:=⟨Tryz.call103⟩
instance : EnterOk Tryz.prog 105:=⟨Tryz.call105⟩
instance : EnterOk Tryz.prog 106:=⟨Tryz.call106⟩
instance : EnterOk Tryz.prog 118:=⟨Tryz.call118⟩
instance : EnterOk Tryz.prog 119:=⟨Tryz.call119⟩
instance : EnterOk Tryz.prog 120:=⟨Tryz.call120⟩
instance : EnterOk Tryz.prog 121:=⟨Tryz.call121⟩
instance : EnterOk Tryz.prog 122:=⟨Tryz.call122⟩
instance : EnterOk Tryz.prog 123:=⟨Tryz.call123⟩
instance : EnterOk Tryz.prog 126:=⟨Tryz.call126⟩
instance : EnterOk Tryz.prog 133:=⟨Tryz.call133⟩
instance : EnterOk Tryz.prog 134:=⟨Tryz.call134⟩
instance (a b : ByteArray) : EqVal Tryz.prog 9 (.string a) (.string b) (a.toList == b.toList):=⟨fun _ _ _ _=>by rw [eqGuard_at_string]; rfl,fun w=>by simp [go_sem],fun w=>by simp [go_sem]⟩
theorem eq_struct_28 (x0 y0 : Int) (x1 y1 : Int) (w : World) : (binOp .eql 28 (.agg #[.int .i64 x0,.int .i64 x1]) (.agg #[.int .i64 y0,.int .i64 y1])).run Tryz.prog w = .ok (.bool (decide (x0 = y0) && decide (x1 = y1))) w:=by
 simp [go_sem]
 (repeat' split) <;> simp_all
theorem ne_struct_28 (x0 y0 : Int) (x1 y1 : Int) (w : World) : (binOp .neq 28 (.agg #[.int .i64 x0,.int .i64 x1]) (.agg #[.int .i64 y0,.int .i64 y1])).run Tryz.prog w = .ok (.bool (!(decide (x0 = y0) && decide (x1 = y1)))) w:=by
 simp [go_sem]
 (repeat' split) <;> simp_all
instance (x0 y0 : Int) (x1 y1 : Int) : EqVal Tryz.prog 28 (.agg #[.int .i64 x0,.int .i64 x1]) (.agg #[.int .i64 y0,.int .i64 y1]) (decide (x0 = y0) && decide (x1 = y1)):=⟨fun op x y w=>by unfold eqGuard; cases op <;> simp [go_sem],eq_struct_28 _ _ _ _,ne_struct_28 _ _ _ _⟩
theorem eq_struct_48 (x0 y0 : Bool) (x1 y1 : Int) (w : World) : (binOp .eql 48 (.agg #[.bool x0,.int .i64 x1]) (.agg #[.bool y0,.int .i64 y1])).run Tryz.prog w = .ok (.bool ((x0 == y0) && decide (x1 = y1))) w:=by
 simp [go_sem]
 (repeat' split) <;> simp_all
theorem ne_struct_48 (x0 y0 : Bool) (x1 y1 : Int) (w : World) : (binOp .neq 48 (.agg #[.bool x0,.int .i64 x1]) (.agg #[.bool y0,.int .i64 y1])).run Tryz.prog w = .ok (.bool (!((x0 == y0) && decide (x1 = y1)))) w:=by
 simp [go_sem]
 (repeat' split) <;> simp_all
instance (x0 y0 : Bool) (x1 y1 : Int) : EqVal Tryz.prog 48 (.agg #[.bool x0,.int .i64 x1]) (.agg #[.bool y0,.int .i64 y1]) ((x0 == y0) && decide (x1 = y1)):=⟨fun op x y w=>by unfold eqGuard; cases op <;> simp [go_sem],eq_struct_48 _ _ _ _,ne_struct_48 _ _ _ _⟩
end Go.Proofs.YtdbljcahlpkgdaaGreatDoor
namespace Go.Proofs.YtdbljcahlpkgdaaGreatDoor
open Go Go.RowKit
attribute [local irreducible] wpListIn Code.wpIn Exit.then Exit.inBlock bodyPost wpQuiet wpAnyIn
set_option maxHeartbeats 1000000
theorem mixed : Tryz.prog.follows .mixedOrders = true:=by kernel_rfl
theorem get_lt {α : Type} {l : List α} {i n : Nat} (hn : n = l.length) (h : i < n) : ∃ x,l[i]? = some x:=⟨l[i],by simp [hn ▸ h]⟩
theorem ne_of_get {α : Type} {l : List α} {i : Nat} {x : α} (h : l[i]? = some x) : l ≠ []:=by rintro rfl; simp at h
theorem within_c (n lo hi : Int) (w0 : World) : RetV Tryz.prog 21 [.int .i64 n,.int .i64 lo,.int .i64 hi] w0 (.bool (within n lo hi)):=by
 refine ret_enter Tryz.func21 rfl Tryz.ntmps21 rfl (Wd.nil NoS w0) ?_
 repeat (first|refine g_op rfl ?_|refine g_then ?_|refine g_nil ?_|refine g_region ?_|refine g_seq ?_)
 generalize hb : decide (lo ≤ n) = b
 cases b
 ·repeat (first|refine g_op rfl ?_|refine g_then ?_|refine g_nil ?_|refine g_opS rfl ?_|refine g_pass rfl ?_|refine g_ret ?_)
  exact g_retV rfl (by simp [within,hb])
 ·repeat (first|refine g_op rfl ?_|refine g_then ?_|refine g_nil ?_|refine g_opS rfl ?_|refine g_open ?_|refine g_ret ?_)
  exact g_retV rfl (by simp [within,hb])
theorem fault_c (code at' : Int) (w0 : World) : RetV Tryz.prog 18 [.int .i64 code,.int .i64 at'] w0 (.agg #[.int .i64 code,.int .i64 at']):=by
 refine ret_enter Tryz.func18 rfl Tryz.ntmps18 rfl (Wd.nil NoS w0) ?_
 repeat (first|refine g_op rfl ?_|refine g_then ?_|refine g_nil ?_|refine g_region ?_|refine g_seq ?_|refine g_alloc rfl fun _ _=>?_|refine g_storeAgg ?_|refine g_ret ?_)
 exact g_retC rfl fun _ hw=>⟨rfl,hw.chg⟩
theorem name_c (s : ByteArray) (w0 : World) : RetV Tryz.prog 19 [.string s] w0 (.bool (nameOk s)):=by
 refine ret_enter Tryz.func19 rfl Tryz.ntmps19 rfl (Wd.nil NoS w0) ?_
 repeat (first|refine g_op rfl ?_|refine g_then ?_|refine g_nil ?_|refine g_region ?_|refine g_seq ?_)
 generalize hb : decide ((s.size : Int) < 1) = b
 refine g_join 4 12 (.bool (b || decide (12 < (s.size : Int)))) ?_ ?_
 ·cases b
  ·repeat (first|refine g_op rfl ?_|refine g_then ?_|refine g_nil ?_|refine g_open ?_)
   exact g_done (by repeat (first|exact trivial|refine ⟨rfl,?_⟩)) (by simp)
  ·repeat (first|refine g_op rfl ?_|refine g_then ?_|refine g_nil ?_|refine g_pass rfl ?_)
   exact g_done (by repeat (first|exact trivial|refine ⟨rfl,?_⟩)) (by simp)
 repeat (first|refine g_then ?_|refine g_nil ?_)
 refine g_cond (fun h1=>?_) (fun h1=>?_)
 ·repeat (first|refine g_then ?_|refine g_nil ?_|refine g_region ?_|refine g_seq ?_|refine g_opS rfl ?_|refine g_ret ?_|refine g_thenRet ?_)
  refine g_retV rfl ?_
  subst hb
  simp [nameOk,if_pos (show (s.size : Int) < 1 ∨ 12 < (s.size : Int) by simpa using h1)]
 have h1' : ¬ ((s.size : Int) < 1 ∨ 12 < (s.size : Int)):=by subst hb; simpa using h1
 repeat (first|refine g_op rfl ?_|refine g_then ?_|refine g_nil ?_|refine g_region ?_|refine g_seq ?_|refine g_block ?_|refine g_skip ?_)
 refine g_loop (fun (i : Nat)=>i ≤ s.size∧∀ j,j < i→okCh j (byteAt s j) = true) (fun i=>[(0,.string s),(15,.int .i64 i),(14,.int .i64 s.size)]) (fun _=>[]) (fun i=>s.size - i) 0 ⟨Nat.zero_le _,by simp⟩ (g_done (by repeat (first|exact trivial|refine ⟨rfl,?_⟩)) (by simp)) fun i ⟨hi,hall⟩=>?_
 repeat (first|refine g_op rfl ?_|refine g_then ?_|refine g_nil ?_|refine g_region ?_|refine g_seq ?_)
 refine g_cond (fun h2=>?_) (fun h2=>?_)
 ·have hlt : i < s.size:=by simpa using h2
  have hby : ByteIs s i (byteAt s i):=⟨hlt,by simp [byteAt,hlt]⟩
  generalize hc : byteAt s i = c at hby
  repeat (first|refine g_op rfl ?_|refine g_then ?_|refine g_nil ?_|refine g_region ?_|refine g_seq ?_|refine g_block ?_|refine g_skip ?_)
  generalize e1 : decide (97 ≤ c) = b1
  refine g_join 3 26 (.bool (b1 && decide (c ≤ 122))) ?_ ?_
  ·cases b1
   ·repeat (first|refine g_op rfl ?_|refine g_then ?_|refine g_nil ?_|refine g_pass rfl ?_)
    exact g_done (by repeat (first|exact trivial|refine ⟨rfl,?_⟩)) (by simp)
   ·repeat (first|refine g_op rfl ?_|refine g_then ?_|refine g_nil ?_|refine g_open ?_)
    exact g_done (by repeat (first|exact trivial|refine ⟨rfl,?_⟩)) (by simp)
  generalize e2 : (b1 && decide (c ≤ 122)) = b2
  repeat (refine g_op rfl ?_)
  refine g_join 7 34 (.bool (b2 || (decide (65 ≤ c) && decide (c ≤ 90)))) ?_ ?_
  ·cases b2
   ·repeat (first|refine g_op rfl ?_|refine g_open ?_)
    generalize e3 : decide (65 ≤ c) = b3
    cases b3
    ·repeat (first|refine g_op rfl ?_|refine g_then ?_|refine g_nil ?_|refine g_open ?_|refine g_pass rfl ?_)
     exact g_done (by repeat (first|exact trivial|refine ⟨rfl,?_⟩)) (by simp)
    ·repeat (first|refine g_op rfl ?_|refine g_then ?_|refine g_nil ?_|refine g_open ?_)
     exact g_done (by repeat (first|exact trivial|refine ⟨rfl,?_⟩)) (by simp)
   ·repeat (first|refine g_op rfl ?_|refine g_then ?_|refine g_nil ?_|refine g_pass rfl ?_|refine g_passU rfl ?_)
    exact g_done (by repeat (first|exact trivial|refine ⟨rfl,?_⟩)) (by simp)
  generalize e3 : (b2 || (decide (65 ≤ c) && decide (c ≤ 90))) = b3
  repeat (refine g_op rfl ?_)
  refine g_join 3 38 (.bool (b3 || decide (c = 95))) ?_ ?_
  ·cases b3
   ·repeat (first|refine g_op rfl ?_|refine g_then ?_|refine g_nil ?_|refine g_open ?_)
    exact g_done (by repeat (first|exact trivial|refine ⟨rfl,?_⟩)) (by simp)
   ·repeat (first|refine g_op rfl ?_|refine g_then ?_|refine g_nil ?_|refine g_pass rfl ?_)
    exact g_done (by repeat (first|exact trivial|refine ⟨rfl,?_⟩)) (by simp)
  generalize e4 : (b3 || decide (c = 95)) = b4
  repeat (refine g_op rfl ?_)
  refine g_join 11 50 (.bool (b4 || ((decide (0 < (i : Int)) && decide (48 ≤ c)) && decide (c ≤ 57)))) ?_ ?_
  ·cases b4
   ·repeat (first|refine g_op rfl ?_|refine g_open ?_)
    generalize e5 : decide (0 < (i : Int)) = b5
    cases b5
    ·repeat (first|refine g_op rfl ?_|refine g_then ?_|refine g_nil ?_|refine g_open ?_|refine g_pass rfl ?_)
     exact g_done (by repeat (first|exact trivial|refine ⟨rfl,?_⟩)) (by simp)
    ·repeat (first|refine g_op rfl ?_|refine g_open ?_)
     generalize e6 : decide (48 ≤ c) = b6
     cases b6
     ·repeat (first|refine g_op rfl ?_|refine g_then ?_|refine g_nil ?_|refine g_open ?_|refine g_pass rfl ?_)
      exact g_done (by repeat (first|exact trivial|refine ⟨rfl,?_⟩)) (by simp)
     ·repeat (first|refine g_op rfl ?_|refine g_then ?_|refine g_nil ?_|refine g_open ?_)
      exact g_done (by repeat (first|exact trivial|refine ⟨rfl,?_⟩)) (by simp)
   ·repeat (first|refine g_op rfl ?_|refine g_then ?_|refine g_nil ?_|refine g_pass rfl ?_|refine g_passU rfl ?_)
    exact g_done (by repeat (first|exact trivial|refine ⟨rfl,?_⟩)) (by simp)
  have hok : okCh i c = (b4 || ((decide (0 < (i : Int)) && decide (48 ≤ c)) && decide (c ≤ 57))):=by subst e4 e3 e2 e1; rfl
  rw [← hok]
  repeat (first|refine g_op rfl ?_|refine g_then ?_|refine g_nil ?_)
  refine g_cond (fun h3=>?_) (fun h3=>?_)
  ·have h3' : okCh i c = false:=by simpa using h3
   repeat (first|refine g_op rfl ?_|refine g_then ?_|refine g_nil ?_|refine g_region ?_|refine g_seq ?_|refine g_ret ?_|refine g_thenRet ?_|refine g_blockRet ?_)
   refine g_retV rfl ?_
   simp only [nameOk,if_neg h1',Value.bool.injEq]
   symm
   rw [decide_eq_false_iff_not]
   intro hh
   have:=hh i hlt
   rw [hc,h3'] at this
   cases this
  ·have h3' : okCh i c = true:=by simpa using h3
   repeat (first|refine g_then ?_|refine g_nil ?_|refine g_region ?_|refine g_opS rfl ?_|refine g_inBlock ?_|refine g_skip ?_|refine g_add rfl (by omega) (by omega) ?_)
   refine g_next (i + 1) ⟨hlt,fun j hj=>?_⟩ (by omega) (by repeat (first|exact trivial|refine ⟨rfl,?_⟩)) (by simp)
   by_cases hji : j = i
   ·subst hji; rw [hc]; exact h3'
   ·exact hall j (by omega)
 ·have hge : i = s.size:=by have:=h2; simp at this; omega
  repeat (first|refine g_op rfl ?_|refine g_then ?_|refine g_nil ?_|refine g_region ?_|refine g_seq ?_|refine g_exit ?_|refine g_thenExit ?_|refine g_exitHere ?_|refine g_ret ?_)
  refine g_retV rfl ?_
  subst hge
  simp only [nameOk,if_neg h1',Value.bool.injEq]
  symm
  rw [decide_eq_true_eq]
  exact hall
theorem indexS_c (v : Value) (l : List ByteArray) (s : ByteArray) (w0 : World) (hv : SlAt w0 v 1 l StrV) : Ret Tryz.prog 45 [v,.string s] w0 fun u w'=>Chg NoS w0 w'∧∃ r : Int,u = .int .i64 r∧decide (0 ≤ r) = hasName l s:=by
 obtain ⟨a,n,c,b,o,rfl,hn,hnc,hnb,hc,ha,hel⟩:=hv
 refine ret_enter Tryz.func45 rfl Tryz.ntmps45 rfl (Wd.nil NoS w0) ?_
 repeat (first|refine g_op rfl ?_|refine g_then ?_|refine g_nil ?_|refine g_region ?_|refine g_seq ?_|refine g_block ?_)
 refine g_loop (fun (i : Nat)=>i ≤ n∧∀ j t,j < i→l[j]? = some t→(s.toList == t.toList) = false) (fun i=>[(8,.int .i64 i),(0,.slice a n c),(1,.string s),(7,.int .i64 n)]) (fun _=>[]) (fun i=>n - i) 0 ⟨Nat.zero_le _,by simp⟩ (g_done (by repeat (first|exact trivial|refine ⟨rfl,?_⟩)) (by simp)) fun i ⟨hi,hall⟩=>?_
 repeat (first|refine g_op rfl ?_|refine g_then ?_|refine g_nil ?_|refine g_region ?_|refine g_seq ?_)
 refine g_cond (fun h1=>?_) (fun h1=>?_)
 ·have hlt : i < n:=by simpa using h1
  obtain ⟨x,hx⟩:=get_lt hn hlt
  have had : AddrIs a b o:=⟨ha (ne_of_get hx)⟩
  have hli : LtIs i n:=⟨hlt⟩
  obtain ⟨cs,hcs,rfl⟩:=hel i x hx
  have hci : CellsIs w0 b (o + i * 1) _:=⟨hcs⟩
  repeat (first|refine g_op rfl ?_|refine g_then ?_|refine g_nil ?_|refine g_region ?_|refine g_seq ?_|refine g_block ?_|refine g_skip ?_)
  refine g_cond (fun h2=>?_) (fun h2=>?_)
  ·repeat (first|refine g_op rfl ?_|refine g_then ?_|refine g_nil ?_|refine g_region ?_|refine g_seq ?_|refine g_ret ?_|refine g_thenRet ?_|refine g_blockRet ?_)
   refine g_ret1 rfl fun w hw=>⟨hw.chg,_,rfl,?_⟩
   rw [decide_eq_true (by omega : (0 : Int) ≤ (i : Int))]
   symm
   simp only [hasName,List.any_eq_true]
   exact ⟨x,List.mem_of_getElem? hx,h2⟩
  ·repeat (first|refine g_then ?_|refine g_nil ?_|refine g_region ?_|refine g_opS rfl ?_|refine g_inBlock ?_|refine g_skip ?_|refine g_add rfl (by omega) (by omega) ?_)
   refine g_next (i + 1) ⟨hlt,fun j t hj ht=>?_⟩ (by omega) (by repeat (first|exact trivial|refine ⟨rfl,?_⟩)) (by simp)
   by_cases hji : j = i
   ·subst hji
    rw [hx] at ht
    simp only [Option.some.injEq] at ht
    subst ht; exact h2
   ·exact hall j t (by omega) ht
 ·have hge : i = n:=by have:=h1; simp at this; omega
  repeat (first|refine g_op rfl ?_|refine g_then ?_|refine g_nil ?_|refine g_region ?_|refine g_seq ?_|refine g_exit ?_|refine g_thenExit ?_|refine g_exitHere ?_|refine g_ret ?_)
  refine g_ret1 rfl fun w hw=>⟨hw.chg,_,rfl,?_⟩
  symm
  rw [show decide ((0 : Int) ≤ -1) = false from rfl]
  simp only [hasName,List.any_eq_false]
  intro t ht
  obtain ⟨j,hj⟩:=List.getElem?_of_mem ht
  have:=hall j t (by have:=(List.getElem?_eq_some_iff.1 hj).1; omega) hj
  simp [this]
theorem containsS_c (v : Value) (l : List ByteArray) (s : ByteArray) (w0 : World) (hv : SlAt w0 v 1 l StrV) : RetV Tryz.prog 20 [v,.string s] w0 (.bool (hasName l s)):=by
 refine ret_enter Tryz.func20 rfl Tryz.ntmps20 rfl (Wd.nil NoS w0) ?_
 repeat (first|refine g_op rfl ?_|refine g_then ?_|refine g_nil ?_|refine g_region ?_|refine g_seq ?_)
 refine g_callE (val:=fun r : Int=>.int .i64 r) (φ:=fun r : Int=>decide (0 ≤ r) = hasName l s) (E:=fun _=>[]) rfl (fun w hw=>(indexS_c v l s w (hv.keep keeps_str hw.chg)).mono fun u w' ⟨h1,r,h2,h3⟩=>⟨r,h2,(Wd.nil NoS w).call h1,h3⟩) fun r hr=>?_
 repeat (first|refine g_op rfl ?_|refine g_then ?_|refine g_nil ?_|refine g_opS rfl ?_|refine g_ret ?_)
 exact g_retV rfl (by rw [hr])
theorem val_c (g fs nm pa bs ah : Value) (regs : Int) (hr : 0 ≤ regs∧regs ≤ 100) (v : LVal) (w0 : World) :
  RetV Tryz.prog 73 [.agg #[g,fs,nm,pa,.int .i64 regs,bs,ah],.agg #[.bool v.reg,.int .i64 v.n]] w0 (.int .i64 (valErr regs v)):=by
 refine ret_enter Tryz.func73 rfl Tryz.ntmps73 rfl (Wd.nil NoS w0) ?_
 repeat (first|refine g_op rfl ?_|refine g_then ?_|refine g_nil ?_|refine g_region ?_|refine g_seq ?_|refine g_box rfl fun _ _=>?_)
 generalize hb : v.reg = b
 cases b
 ·repeat (first|refine g_op rfl ?_|refine g_then ?_|refine g_nil ?_|refine g_region ?_|refine g_seq ?_|refine g_opS rfl ?_|refine g_pass rfl ?_|refine g_skip ?_|refine g_condF ?_|refine g_ret ?_)
  exact g_retV rfl (by simp [valErr,hb])
 ·repeat (first|refine g_op rfl ?_|refine g_open ?_|refine g_sub rfl (by omega) (by omega) ?_)
  refine g_callV rfl (fun w _=>within_c _ _ _ w) ?_
  repeat (first|refine g_op rfl ?_|refine g_then ?_|refine g_nil ?_|refine g_open ?_)
  refine g_cond (fun h1=>?_) (fun h1=>?_)
  ·repeat (first|refine g_then ?_|refine g_nil ?_|refine g_region ?_|refine g_seq ?_|refine g_opS rfl ?_|refine g_ret ?_|refine g_thenRet ?_)
   exact g_retV rfl (by simp at h1; simp [valErr,hb,h1])
  ·repeat (first|refine g_then ?_|refine g_nil ?_|refine g_region ?_|refine g_seq ?_|refine g_opS rfl ?_|refine g_skip ?_|refine g_ret ?_)
   exact g_retV rfl (by simp at h1; simp [valErr,hb,h1])
theorem dst_c (g fs nm pa bs ah : Value) (regs : Int) (hr : 0 ≤ regs∧regs ≤ 100) (n : Int) (w0 : World) :
  RetV Tryz.prog 74 [.agg #[g,fs,nm,pa,.int .i64 regs,bs,ah],.int .i64 n] w0 (.int .i64 (dstErr regs n)):=by
 refine ret_enter Tryz.func74 rfl Tryz.ntmps74 rfl (Wd.nil NoS w0) ?_
 repeat (first|refine g_op rfl ?_|refine g_then ?_|refine g_nil ?_|refine g_region ?_|refine g_seq ?_|refine g_box rfl fun _ _=>?_|refine g_sub rfl (by omega) (by omega) ?_)
 refine g_callV rfl (fun w _=>within_c _ _ _ w) ?_
 repeat (first|refine g_op rfl ?_|refine g_then ?_|refine g_nil ?_)
 refine g_cond (fun h1=>?_) (fun h1=>?_)
 ·repeat (first|refine g_then ?_|refine g_nil ?_|refine g_region ?_|refine g_seq ?_|refine g_opS rfl ?_|refine g_ret ?_|refine g_thenRet ?_)
  exact g_retV rfl (by simp at h1; simp [dstErr,h1])
 ·repeat (first|refine g_then ?_|refine g_nil ?_|refine g_region ?_|refine g_seq ?_|refine g_opS rfl ?_|refine g_skip ?_|refine g_ret ?_)
  exact g_retV rfl (by simp at h1; simp [dstErr,h1])
theorem endOne_c (g fs nm pa re ah : Value) (n c b : Nat) (a : Option Addr) (hn : n ≤ 100) (x : Int) (w0 : World) (hc : CellsAt w0 b 0 [g,fs,nm,pa,re,.slice a n c,ah]) :
  RetV Tryz.prog 72 [.int .i64 x,.pointer (some ⟨b,0,none⟩)] w0 (.bool (!within x 1 (n - 1))):=by
 have hci : CellsIs w0 b 0 _:=⟨hc⟩
 have hci5 : CellIs w0 b 5 (.slice a n c):=⟨by simpa using hc 5 _ rfl⟩
 refine ret_enter Tryz.func72 rfl Tryz.ntmps72 rfl (Wd.nil NoS w0) ?_
 repeat (first|refine g_op rfl ?_|refine g_then ?_|refine g_nil ?_|refine g_region ?_|refine g_seq ?_|refine g_sub rfl (by omega) (by omega) ?_)
 refine g_callV rfl (fun w _=>within_c _ _ _ w) ?_
 repeat (first|refine g_op rfl ?_|refine g_then ?_|refine g_nil ?_|refine g_opS rfl ?_|refine g_ret ?_)
 exact g_retV rfl rfl
theorem shapes_c (op : Int) (w0 : World) : RetV Tryz.prog 75 [.int .i64 op] w0 (.agg #[.bool (shape op).1,.bool (shape op).2.1,.bool (shape op).2.2]):=by
 refine ret_enter Tryz.func75 rfl Tryz.ntmps75 rfl (Wd.nil NoS w0) ?_
 repeat (first|refine g_op rfl ?_|refine g_then ?_|refine g_nil ?_|refine g_region ?_|refine g_seq ?_|refine g_alloc rfl fun _ _=>?_|refine g_block ?_)
 generalize e1 : decide (op = 1) = b1
 refine g_join 3 9 (.bool (b1 || decide (op = 16))) ?_ ?_
 ·cases b1
  ·repeat (first|refine g_op rfl ?_|refine g_then ?_|refine g_nil ?_|refine g_open ?_)
   exact g_done (by repeat (first|exact trivial|refine ⟨rfl,?_⟩)) (by simp)
  ·repeat (first|refine g_op rfl ?_|refine g_then ?_|refine g_nil ?_|refine g_pass rfl ?_)
   exact g_done (by repeat (first|exact trivial|refine ⟨rfl,?_⟩)) (by simp)
 generalize e2 : (b1 || decide (op = 16)) = b2
 repeat (refine g_op rfl ?_)
 refine g_join 3 13 (.bool (b2 || decide (op = 17))) ?_ ?_
 ·cases b2
  ·repeat (first|refine g_op rfl ?_|refine g_then ?_|refine g_nil ?_|refine g_open ?_)
   exact g_done (by repeat (first|exact trivial|refine ⟨rfl,?_⟩)) (by simp)
  ·repeat (first|refine g_op rfl ?_|refine g_then ?_|refine g_nil ?_|refine g_pass rfl ?_)
   exact g_done (by repeat (first|exact trivial|refine ⟨rfl,?_⟩)) (by simp)
 generalize e3 : (b2 || decide (op = 17)) = b3
 repeat (refine g_op rfl ?_)
 refine g_join 3 17 (.bool (b3 || decide (op = 18))) ?_ ?_
 ·cases b3
  ·repeat (first|refine g_op rfl ?_|refine g_then ?_|refine g_nil ?_|refine g_open ?_)
   exact g_done (by repeat (first|exact trivial|refine ⟨rfl,?_⟩)) (by simp)
  ·repeat (first|refine g_op rfl ?_|refine g_then ?_|refine g_nil ?_|refine g_pass rfl ?_)
   exact g_done (by repeat (first|exact trivial|refine ⟨rfl,?_⟩)) (by simp)
 repeat (first|refine g_op rfl ?_|refine g_then ?_|refine g_nil ?_)
 refine g_cond (fun h1=>?_) (fun h1=>?_)
 ·repeat (first|refine g_op rfl ?_|refine g_then ?_|refine g_nil ?_|refine g_region ?_|refine g_seq ?_|refine g_storeAgg ?_|refine g_ret ?_|refine g_thenRet ?_|refine g_blockRet ?_)
  refine g_retC rfl fun _ hw=>⟨?_,hw.chg⟩
  have : ((op = 1 ∨ op = 16) ∨ op = 17) ∨ op = 18:=by subst e3 e2 e1; simpa using h1
  simp [shape,this]
 have n1 : ¬ (((op = 1 ∨ op = 16) ∨ op = 17) ∨ op = 18):=by subst e3 e2 e1; simpa using h1
 repeat (first|refine g_op rfl ?_|refine g_region ?_|refine g_seq ?_)
 generalize e4 : decide (2 ≤ op) = b4
 refine g_join 3 25 (.bool (b4 && decide (op ≤ 15))) ?_ ?_
 ·cases b4
  ·repeat (first|refine g_op rfl ?_|refine g_then ?_|refine g_nil ?_|refine g_pass rfl ?_)
   exact g_done (by repeat (first|exact trivial|refine ⟨rfl,?_⟩)) (by simp)
  ·repeat (first|refine g_op rfl ?_|refine g_then ?_|refine g_nil ?_|refine g_open ?_)
   exact g_done (by repeat (first|exact trivial|refine ⟨rfl,?_⟩)) (by simp)
 repeat (first|refine g_op rfl ?_|refine g_then ?_|refine g_nil ?_)
 refine g_cond (fun h2=>?_) (fun h2=>?_)
 ·repeat (first|refine g_op rfl ?_|refine g_then ?_|refine g_nil ?_|refine g_region ?_|refine g_seq ?_|refine g_storeAgg ?_|refine g_ret ?_|refine g_thenRet ?_|refine g_blockRet ?_)
  refine g_retC rfl fun _ hw=>⟨?_,hw.chg⟩
  have : 2 ≤ op∧op ≤ 15:=by subst e4; simpa using h2
  simp [shape,n1,this]
 have n2 : ¬ (2 ≤ op∧op ≤ 15):=by subst e4; simpa using h2
 repeat (first|refine g_op rfl ?_|refine g_then ?_|refine g_nil ?_|refine g_region ?_|refine g_seq ?_)
 refine g_cond (fun h3=>?_) (fun h3=>?_)
 ·repeat (first|refine g_op rfl ?_|refine g_then ?_|refine g_nil ?_|refine g_region ?_|refine g_seq ?_|refine g_storeAgg ?_|refine g_ret ?_|refine g_thenRet ?_|refine g_blockRet ?_)
  refine g_retC rfl fun _ hw=>⟨?_,hw.chg⟩
  have : op = 19:=by simpa using h3
  simp [shape,this]
 have n3 : ¬ op = 19:=by simpa using h3
 repeat (first|refine g_op rfl ?_|refine g_region ?_|refine g_seq ?_)
 generalize e5 : decide (op = 20) = b5
 refine g_join 3 37 (.bool (b5 || decide (op = 21))) ?_ ?_
 ·cases b5
  ·repeat (first|refine g_op rfl ?_|refine g_then ?_|refine g_nil ?_|refine g_open ?_)
   exact g_done (by repeat (first|exact trivial|refine ⟨rfl,?_⟩)) (by simp)
  ·repeat (first|refine g_op rfl ?_|refine g_then ?_|refine g_nil ?_|refine g_pass rfl ?_)
   exact g_done (by repeat (first|exact trivial|refine ⟨rfl,?_⟩)) (by simp)
 repeat (first|refine g_op rfl ?_|refine g_then ?_|refine g_nil ?_)
 refine g_cond (fun h4=>?_) (fun h4=>?_)
 ·repeat (first|refine g_op rfl ?_|refine g_then ?_|refine g_nil ?_|refine g_region ?_|refine g_seq ?_|refine g_storeAgg ?_|refine g_ret ?_|refine g_thenRet ?_|refine g_blockRet ?_)
  refine g_retC rfl fun _ hw=>⟨?_,hw.chg⟩
  have : op = 20 ∨ op = 21:=by subst e5; simpa using h4
  rcases this with rfl|rfl <;> rfl
 have n4 : ¬ (op = 20 ∨ op = 21):=by subst e5; simpa using h4
 repeat (first|refine g_op rfl ?_|refine g_then ?_|refine g_nil ?_|refine g_region ?_|refine g_seq ?_)
 refine g_cond (fun h5=>?_) (fun h5=>?_)
 ·repeat (first|refine g_op rfl ?_|refine g_then ?_|refine g_nil ?_|refine g_region ?_|refine g_seq ?_|refine g_storeAgg ?_|refine g_ret ?_|refine g_thenRet ?_|refine g_blockRet ?_)
  refine g_retC rfl fun _ hw=>⟨?_,hw.chg⟩
  have : op = 22:=by simpa using h5
  subst this; rfl
 ·have n5 : ¬ op = 22:=by simpa using h5
  repeat (first|refine g_op rfl ?_|refine g_then ?_|refine g_nil ?_|refine g_region ?_|refine g_seq ?_|refine g_storeAgg ?_|refine g_inBlock ?_|refine g_skip ?_|refine g_ret ?_)
  refine g_retC rfl fun _ hw=>⟨?_,hw.chg⟩
  simp [shape,n1,n2,n3,n4,n5]
theorem indexFI_c {f : Nat} [EnterOk Tryz.prog f] (cap : List Value) (g : Int→Bool) (v : Value) (l : List Int) (w0 : World) (hv : SlAt w0 v 1 l IntV) (hcl : ∀ w,Chg NoS w0 w→∀ x ∈ l,RetV Tryz.prog f (.int .i64 x::cap) w (.bool (g x))) :
  Ret Tryz.prog 97 [v,.func (.func f) #[] cap.toArray] w0 fun u w'=>∃ r : Int,u = .int .i64 r∧Wd NoS w0 [] w'∧decide (0 ≤ r) = l.any g:=by
 obtain ⟨a,n,c,b,o,rfl,hn,hnc,hnb,hc,ha,hel⟩:=hv
 refine ret_enter Tryz.func97 rfl Tryz.ntmps97 rfl (Wd.nil NoS w0) ?_
 repeat (first|refine g_op rfl ?_|refine g_then ?_|refine g_nil ?_|refine g_region ?_|refine g_seq ?_|refine g_block ?_)
 refine g_loop (fun (i : Nat)=>i ≤ n∧∀ j t,j < i→l[j]? = some t→g t = false) (fun i=>[(8,.int .i64 i),(0,.slice a n c),(1,.func (.func f) #[] cap.toArray),(7,.int .i64 n)]) (fun _=>[]) (fun i=>n - i) 0 ⟨Nat.zero_le _,by simp⟩ (g_done (by repeat (first|exact trivial|refine ⟨rfl,?_⟩)) (by simp)) fun i ⟨hi,hall⟩=>?_
 repeat (first|refine g_op rfl ?_|refine g_then ?_|refine g_nil ?_|refine g_region ?_|refine g_seq ?_)
 refine g_cond (fun h1=>?_) (fun h1=>?_)
 ·have hlt : i < n:=by simpa using h1
  obtain ⟨x,hx⟩:=get_lt hn hlt
  have had : AddrIs a b o:=⟨ha (ne_of_get hx)⟩
  have hli : LtIs i n:=⟨hlt⟩
  obtain ⟨cs,hcs,rfl,hxi⟩:=hel i x hx
  have hci : CellsIs w0 b (o + i * 1) _:=⟨hcs⟩
  repeat (first|refine g_op rfl ?_|refine g_then ?_|refine g_nil ?_|refine g_region ?_|refine g_seq ?_|refine g_block ?_|refine g_skip ?_)
  refine g_callFV rfl (us:=[]) (vs:=[.int .i64 x]) (xs:=cap) (fun w hw=>hcl w hw.chg x (List.mem_of_getElem? hx)) ?_
  repeat (first|refine g_then ?_|refine g_nil ?_)
  refine g_cond (fun h2=>?_) (fun h2=>?_)
  ·repeat (first|refine g_op rfl ?_|refine g_then ?_|refine g_nil ?_|refine g_region ?_|refine g_seq ?_|refine g_ret ?_|refine g_thenRet ?_|refine g_blockRet ?_)
   refine g_ret1 rfl fun w hw=>⟨_,rfl,⟨hw.chg,by simp,by simp,by simp⟩,?_⟩
   rw [decide_eq_true (by omega : (0 : Int) ≤ (i : Int))]
   symm
   simp only [List.any_eq_true]
   exact ⟨x,List.mem_of_getElem? hx,h2⟩
  ·repeat (first|refine g_then ?_|refine g_nil ?_|refine g_region ?_|refine g_opS rfl ?_|refine g_inBlock ?_|refine g_skip ?_|refine g_add rfl (by omega) (by omega) ?_)
   refine g_next (i + 1) ⟨hlt,fun j t hj ht=>?_⟩ (by omega) (by repeat (first|exact trivial|refine ⟨rfl,?_⟩)) (by simp)
   by_cases hji : j = i
   ·subst hji
    rw [hx] at ht
    simp only [Option.some.injEq] at ht
    subst ht; exact h2
   ·exact hall j t (by omega) ht
 ·have hge : i = n:=by have:=h1; simp at this; omega
  repeat (first|refine g_op rfl ?_|refine g_then ?_|refine g_nil ?_|refine g_region ?_|refine g_seq ?_|refine g_exit ?_|refine g_thenExit ?_|refine g_exitHere ?_|refine g_ret ?_)
  refine g_ret1 rfl fun w hw=>⟨_,rfl,⟨hw.chg,by simp,by simp,by simp⟩,?_⟩
  symm
  rw [show decide ((0 : Int) ≤ -1) = false from rfl]
  simp only [List.any_eq_false]
  intro t ht
  obtain ⟨j,hj⟩:=List.getElem?_of_mem ht
  have:=hall j t (by have:=(List.getElem?_eq_some_iff.1 hj).1; omega) hj
  simp [this]
theorem containsFI_c {f : Nat} [EnterOk Tryz.prog f] (cap : List Value) (g : Int→Bool) (v : Value) (l : List Int) (w0 : World) (hv : SlAt w0 v 1 l IntV) (hcl : ∀ w,Chg NoS w0 w→∀ x ∈ l,RetV Tryz.prog f (.int .i64 x::cap) w (.bool (g x))) :
  RetV Tryz.prog 71 [v,.func (.func f) #[] cap.toArray] w0 (.bool (l.any g)):=by
 refine ret_enter Tryz.func71 rfl Tryz.ntmps71 rfl (Wd.nil NoS w0) ?_
 repeat (first|refine g_op rfl ?_|refine g_then ?_|refine g_nil ?_|refine g_region ?_|refine g_seq ?_)
 refine g_callE (val:=fun r : Int=>.int .i64 r) (φ:=fun r : Int=>decide (0 ≤ r) = l.any g) (E:=fun _=>[]) rfl (fun w hw=>indexFI_c cap g v l w (hv.keep keeps_int hw.chg) fun w1 h1 x=>hcl w1 (hw.chg.trans h1) x) fun r hr=>?_
 repeat (first|refine g_op rfl ?_|refine g_then ?_|refine g_nil ?_|refine g_opS rfl ?_|refine g_ret ?_)
 exact g_retV rfl (by rw [hr])
structure Clos where
 f : Nat
 cap : List Value
 err : Int
def ClosV (_ : World) (x : Clos) (cs : List Value) : Prop:=cs = [.func (.func x.f) #[] x.cap.toArray]
theorem first_c (v : Value) (l : List Clos) (w0 : World) (hv : SlAt w0 v 1 l ClosV) (hE : ∀ x ∈ l,EnterOk Tryz.prog x.f) (hcl : ∀ x ∈ l,∀ w,Chg NoS w0 w→RetV Tryz.prog x.f x.cap w (.int .i64 x.err)) :
  RetV Tryz.prog 76 [v] w0 (.int .i64 (firstI (at0 l (·.err)) l.length).1):=by
 obtain ⟨a,n,c,b,o,rfl,hn,hnc,hnb,hc,ha,hel⟩:=hv
 refine ret_enter Tryz.func76 rfl Tryz.ntmps76 rfl (Wd.nil NoS w0) ?_
 repeat (first|refine g_op rfl ?_|refine g_then ?_|refine g_nil ?_|refine g_region ?_|refine g_seq ?_|refine g_block ?_)
 refine g_loop (fun (i : Nat)=>i ≤ n∧∀ j,j < i→at0 l (·.err) j = 0) (fun i=>[(8,.int .i64 i),(6,.slice a n c),(7,.int .i64 n)]) (fun _=>[]) (fun i=>n - i) 0 ⟨Nat.zero_le _,by simp⟩ (g_done (by repeat (first|exact trivial|refine ⟨rfl,?_⟩)) (by simp)) fun i ⟨hi,hall⟩=>?_
 repeat (first|refine g_op rfl ?_|refine g_then ?_|refine g_nil ?_|refine g_region ?_|refine g_seq ?_)
 refine g_cond (fun h1=>?_) (fun h1=>?_)
 ·have hlt : i < n:=by simpa using h1
  obtain ⟨x,hx⟩:=get_lt hn hlt
  have had : AddrIs a b o:=⟨ha (ne_of_get hx)⟩
  have hli : LtIs i n:=⟨hlt⟩
  obtain ⟨cs,hcs,rfl⟩:=hel i x hx
  have hci : CellsIs w0 b (o + i * 1) _:=⟨hcs⟩
  have hxl:=List.mem_of_getElem? hx
  have hen:=hE x hxl
  have hat : at0 l (·.err) i = x.err:=by simp [at0,hx]
  repeat (first|refine g_op rfl ?_|refine g_then ?_|refine g_nil ?_|refine g_region ?_|refine g_seq ?_|refine g_block ?_|refine g_skip ?_)
  refine g_callFV rfl (us:=[]) (vs:=[]) (xs:=x.cap) (fun w hw=>hcl x hxl w hw.chg) ?_
  repeat (first|refine g_op rfl ?_|refine g_then ?_|refine g_nil ?_|refine g_region ?_|refine g_seq ?_)
  refine g_cond (fun h2=>?_) (fun h2=>?_)
  ·repeat (first|refine g_op rfl ?_|refine g_then ?_|refine g_nil ?_|refine g_region ?_|refine g_seq ?_|refine g_ret ?_|refine g_thenRet ?_|refine g_blockRet ?_)
   have h2' : x.err ≠ 0:=by simpa using h2
   refine g_retV rfl ?_
   rw [firstI_hit hall (hn ▸ hlt) (by rw [hat]; exact h2'),hat]
  ·have h2' : x.err = 0:=by simpa using h2
   repeat (first|refine g_then ?_|refine g_nil ?_|refine g_region ?_|refine g_opS rfl ?_|refine g_inBlock ?_|refine g_skip ?_|refine g_add rfl (by omega) (by omega) ?_)
   refine g_next (i + 1) ⟨hlt,fun j hj=>?_⟩ (by omega) (by repeat (first|exact trivial|refine ⟨rfl,?_⟩)) (by simp)
   by_cases hji : j = i
   ·subst hji; rw [hat]; exact h2'
   ·exact hall j (by omega)
 ·have hge : i = n:=by have:=h1; simp at this; omega
  repeat (first|refine g_op rfl ?_|refine g_then ?_|refine g_nil ?_|refine g_region ?_|refine g_seq ?_|refine g_exit ?_|refine g_thenExit ?_|refine g_exitHere ?_|refine g_ret ?_)
  exact g_retV rfl (by rw [← hn,← hge,firstI_none hall])
theorem insOne_c (g fs nm pa bs ah : Value) (regs : Int) (hr : 0 ≤ regs∧regs ≤ 100) (x : LIns) (xv : Value) (b b2 : Nat) (w0 : World) (hc : CellsAt w0 b 0 [g,fs,nm,pa,.int .i64 regs,bs,ah])
  (hx : CellsAt w0 b2 0 [.int .i64 x.op,.int .i64 x.dst,.bool x.a.reg,.int .i64 x.a.n,.bool x.b.reg,.int .i64 x.b.n,.int .i64 x.fn,xv]) :
  RetV Tryz.prog 77 [.pointer (some ⟨b,0,none⟩),.pointer (some ⟨b2,0,none⟩)] w0 (.int .i64 (valErr regs x.a)):=by
 have hci : CellsIs w0 b 0 _:=⟨hc⟩
 have hxi : CellsIs w0 b2 0 _:=⟨hx⟩
 refine ret_enter Tryz.func77 rfl Tryz.ntmps77 rfl (Wd.nil NoS w0) ?_
 repeat (first|refine g_op rfl ?_|refine g_then ?_|refine g_nil ?_|refine g_region ?_|refine g_seq ?_)
 refine g_callV rfl (fun w _=>val_c _ _ _ _ _ _ regs hr x.a w) ?_
 repeat (first|refine g_then ?_|refine g_nil ?_|refine g_opS rfl ?_|refine g_ret ?_)
 exact g_retV rfl rfl
theorem insTwo_c (g fs nm pa bs ah : Value) (regs : Int) (hr : 0 ≤ regs∧regs ≤ 100) (x : LIns) (xv : Value) (b b2 : Nat) (w0 : World) (hc : CellsAt w0 b 0 [g,fs,nm,pa,.int .i64 regs,bs,ah])
  (hx : CellsAt w0 b2 0 [.int .i64 x.op,.int .i64 x.dst,.bool x.a.reg,.int .i64 x.a.n,.bool x.b.reg,.int .i64 x.b.n,.int .i64 x.fn,xv]) :
  RetV Tryz.prog 78 [.pointer (some ⟨b,0,none⟩),.pointer (some ⟨b2,0,none⟩)] w0 (.int .i64 (valErr regs x.b)):=by
 have hci : CellsIs w0 b 0 _:=⟨hc⟩
 have hxi : CellsIs w0 b2 0 _:=⟨hx⟩
 refine ret_enter Tryz.func78 rfl Tryz.ntmps78 rfl (Wd.nil NoS w0) ?_
 repeat (first|refine g_op rfl ?_|refine g_then ?_|refine g_nil ?_|refine g_region ?_|refine g_seq ?_)
 refine g_callV rfl (fun w _=>val_c _ _ _ _ _ _ regs hr x.b w) ?_
 repeat (first|refine g_then ?_|refine g_nil ?_|refine g_opS rfl ?_|refine g_ret ?_)
 exact g_retV rfl rfl
theorem insThree_c (g fs nm pa bs ah : Value) (fl : List LFunc) (hfs : fl.length ≤ 100) (regs : Int) (hr : 0 ≤ regs∧regs ≤ 100) (x : LIns) (_hfn : inI x.fn) (xv : Value) (b b2 b3 : Nat) (w0 : World) (hc : CellsAt w0 b 0 [g,fs,nm,pa,.int .i64 regs,bs,ah])
  (hx : CellsAt w0 b2 0 [.int .i64 x.op,.int .i64 x.dst,.bool x.a.reg,.int .i64 x.a.n,.bool x.b.reg,.int .i64 x.b.n,.int .i64 x.fn,xv]) (h3 : CellsAt w0 b3 0 [.bool (decide (x.op = 20))]) (hf : SlAt w0 fs 4 fl FuncV) (hv : SlAt w0 xv 2 x.args ValV) :
  RetV Tryz.prog 79 [.pointer (some ⟨b3,0,none⟩),.pointer (some ⟨b2,0,none⟩),.pointer (some ⟨b,0,none⟩)] w0 (.int .i64 (callErr fl regs x)):=by
 obtain ⟨fa,fn,fc,fb,fo,rfl,hfn',hfnc,hfnb,hfc,hfa,hfel⟩:=hf
 obtain ⟨va,vn,vc,vb,vo,rfl,hvn,hvnc,hvnb,hvc,hva,hvel⟩:=hv
 have hci : CellsIs w0 b 0 _:=⟨hc⟩
 have hxi : CellsIs w0 b2 0 _:=⟨hx⟩
 have h3i : CellsIs w0 b3 0 _:=⟨h3⟩
 refine ret_enter Tryz.func79 rfl Tryz.ntmps79 rfl (Wd.nil NoS w0) ?_
 repeat (first|refine g_op rfl ?_|refine g_then ?_|refine g_nil ?_|refine g_region ?_|refine g_seq ?_|refine g_block ?_)
 generalize hb : decide (x.op = 20) = bb
 skip
 cases bb
 ·repeat (first|refine g_then ?_|refine g_nil ?_|refine g_region ?_|refine g_seq ?_|refine g_opS rfl ?_|refine g_condT ?_|refine g_ret ?_|refine g_thenRet ?_|refine g_blockRet ?_)
  exact g_retV rfl (by simp at hb; simp [callErr,hb])
 have hb' : ¬ (x.op ≠ 20):=by simpa using hb
 repeat (first|refine g_op rfl ?_|refine g_region ?_|refine g_seq ?_|refine g_condF ?_|refine g_sub rfl (by omega) (by omega) ?_)
 refine g_callV rfl (fun w _=>within_c _ _ _ w) ?_
 repeat (first|refine g_op rfl ?_|refine g_then ?_|refine g_nil ?_)
 refine g_cond (fun h1=>?_) (fun h1=>?_)
 ·repeat (first|refine g_then ?_|refine g_nil ?_|refine g_region ?_|refine g_seq ?_|refine g_opS rfl ?_|refine g_ret ?_|refine g_thenRet ?_|refine g_blockRet ?_)
  exact g_retV rfl (by simp only [callErr,if_neg hb',← hfn']; rw [if_pos (by simpa using h1)])
 have hw : within x.fn 0 ((fn : Int) - 1) = true:=by simpa using h1
 have hrange : 0 ≤ x.fn∧x.fn < fn:=by simp [within] at hw; omega
 obtain ⟨k,hk⟩ : ∃ k : Nat,x.fn = k:=⟨x.fn.toNat,by omega⟩
 have hkl : k < fn:=by omega
 obtain ⟨F,hF⟩:=get_lt hfn' hkl
 have had : AddrIs fa fb fo:=⟨hfa (ne_of_get hF)⟩
 have hli : LtIs k fn:=⟨hkl⟩
 have hni : NatIs x.fn k:=⟨hk⟩
 obtain ⟨cs,hcs,bv,rfl,hpi,_,_⟩:=hfel k F hF
 have hcii : CellsIs w0 fb (fo + k * 4) _:=⟨hcs⟩
 have hat : at0 fl (·.params) x.fn.toNat = F.params:=by simp [at0,hk,hF]
 repeat (refine g_seq ?_)
 refine g_draw mixed (by kernel_rfl) ?_
 repeat (first|refine q_op rfl ?_|refine q_nil ?_)
 repeat (refine g_then ?_)
 refine g_cond (fun h2=>?_) (fun h2=>?_)
 ·repeat (first|refine g_then ?_|refine g_nil ?_|refine g_region ?_|refine g_seq ?_|refine g_opS rfl ?_|refine g_ret ?_|refine g_thenRet ?_|refine g_blockRet ?_)
  refine g_retV rfl ?_
  have h2' : (x.args.length : Int) ≠ F.params:=by rw [← hvn]; simpa using h2
  simp only [callErr,if_neg hb',← hfn',hw,hat,Bool.not_true,if_pos h2']
  rfl
 have h2' : ¬ (x.args.length : Int) ≠ F.params:=by rw [← hvn]; simpa using h2
 have hgoal : callErr fl regs x = (firstI (at0 x.args (valErr regs)) x.args.length).1:=by
  simp only [callErr,if_neg hb',← hfn',hw,hat,Bool.not_true,if_neg h2']
  rfl
 rw [hgoal]
 repeat (first|refine g_op rfl ?_|refine g_then ?_|refine g_nil ?_|refine g_region ?_|refine g_seq ?_|refine g_inBlock ?_|refine g_block ?_|refine g_skip ?_)
 refine g_loop (fun (i : Nat)=>i ≤ vn∧∀ j,j < i→at0 x.args (valErr regs) j = 0) (fun i=>[(36,.int .i64 i),(34,.slice va vn vc),(35,.int .i64 vn),(2,.pointer (some ⟨b,0,none⟩))]) (fun _=>[]) (fun i=>vn - i) 0 ⟨Nat.zero_le _,by simp⟩ (g_done (by repeat (first|exact trivial|refine ⟨rfl,?_⟩)) (by simp)) fun i ⟨hi,hall⟩=>?_
 repeat (first|refine g_op rfl ?_|refine g_then ?_|refine g_nil ?_|refine g_region ?_|refine g_seq ?_)
 refine g_cond (fun h1=>?_) (fun h1=>?_)
 ·have hlt : i < vn:=by simpa using h1
  obtain ⟨y,hy⟩:=get_lt hvn hlt
  have had : AddrIs va vb vo:=⟨hva (ne_of_get hy)⟩
  have hli : LtIs i vn:=⟨hlt⟩
  obtain ⟨cs,hcs,rfl,hyi⟩:=hvel i y hy
  have hci : CellsIs w0 vb (vo + i * 2) _:=⟨hcs⟩
  have hat : at0 x.args (valErr regs) i = valErr regs y:=by simp [at0,hy]
  repeat (first|refine g_op rfl ?_|refine g_then ?_|refine g_nil ?_|refine g_region ?_|refine g_seq ?_|refine g_alloc rfl fun _ _=>?_|refine g_storeAgg ?_|refine g_block ?_|refine g_skip ?_)
  refine g_callV rfl (fun w _=>val_c _ _ _ _ _ _ regs hr y w) ?_
  repeat (first|refine g_op rfl ?_|refine g_then ?_|refine g_nil ?_|refine g_region ?_|refine g_seq ?_)
  refine g_cond (fun h2=>?_) (fun h2=>?_)
  ·repeat (first|refine g_op rfl ?_|refine g_then ?_|refine g_nil ?_|refine g_region ?_|refine g_seq ?_|refine g_ret ?_|refine g_thenRet ?_|refine g_blockRet ?_)
   refine g_retV rfl ?_
   rw [firstI_hit hall (hvn ▸ hlt) (by rw [hat]; simpa using h2),hat]
  ·repeat (first|refine g_then ?_|refine g_nil ?_|refine g_region ?_|refine g_opS rfl ?_|refine g_inBlock ?_|refine g_skip ?_|refine g_add rfl (by omega) (by omega) ?_)
   refine g_next (i + 1) ⟨hlt,fun j hj=>?_⟩ (by omega) (by repeat (first|exact trivial|refine ⟨rfl,?_⟩)) (by simp)
   by_cases hji : j = i
   ·subst hji; rw [hat]; simpa using h2
   ·exact hall j (by omega)
 ·have hge : i = vn:=by have:=h1; simp at this; omega
  repeat (first|refine g_op rfl ?_|refine g_then ?_|refine g_nil ?_|refine g_region ?_|refine g_seq ?_|refine g_exit ?_|refine g_thenExit ?_|refine g_exitHere ?_|refine g_ret ?_)
  exact g_retV rfl (by rw [← hvn,← hge,firstI_none hall])
end Go.Proofs.YtdbljcahlpkgdaaGreatDoor

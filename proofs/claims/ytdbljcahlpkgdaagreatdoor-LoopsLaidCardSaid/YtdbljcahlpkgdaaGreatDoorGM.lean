/- Texts joined: DfsB LoopP RingP Sort BacksP Own Clone. -/
import Derived.Sort.Grow
import Derived.Sort.Row
import Derived.Test.YtdbljcahlpkgdaaGreatDoorGA
import Derived.Test.YtdbljcahlpkgdaaGreatDoorGG
import Derived.Test.YtdbljcahlpkgdaaGreatDoorGI
namespace Go.Proofs.YtdbljcahlpkgdaaGreatDoor
open Go Go.RowKit
def BackE (bl : List LBlock) (u t : Nat) : Prop:=Rch bl (-1) 0 u∧Edge bl u t∧rk (orderL bl) t ≤ rk (orderL bl) u
def InT (bl : List LBlock) (h : Nat) (ts : List Nat) (x : Nat) : Prop:=∃ t ∈ ts,x = h ∨ (x ≠ h∧Rch bl (-1) 0 x∧Rch bl h x t)
theorem Rch.cons {bl : List LBlock} {wo : Int} {a b c : Nat} (he : Edge bl a b) (hw : (b : Int) ≠ wo) (h : Rch bl wo b c) : Rch bl wo a c:=(Rch.refl.step he hw).trans h
theorem Rch.ends {bl : List LBlock} {wo : Int} {a c : Nat} (h : Rch bl wo a c) (ha : (a : Int) ≠ wo) : (c : Int) ≠ wo:=by
 cases h with
 | refl=>exact ha
 | step _ _ hw=>exact hw
theorem rch_back {bl : List LBlock} {wo : Int} {c : Nat} {p : Nat→Prop} (h0 : p c) (hs : ∀ x y,Edge bl x y→(y : Int) ≠ wo→p y→p x) {a : Nat} (h : Rch bl wo a c) : p a:=by
 have key : ∀ x,Rch bl wo a x→(p x→p a):=by
  intro x hx
  induction hx with
  | refl=>exact id
  | step _ he hw ih=>exact fun hp=>ih (hs _ _ he hw hp)
 exact key c h h0
structure LRow (bl : List LBlock) (h : Nat) (ts : List Nat) (row inn : List Int) : Prop where
 nodup : inn.Nodup
 sound : ∀ x ∈ inn++row,∃ c : Nat,x = c∧Rch bl (-1) 0 c∧InT bl h ts c
 done : ∀ b : Nat,(b : Int) ∈ inn→b ≠ h→∀ a : Nat,Rch bl (-1) 0 a→Edge bl a b→(a : Int) ∈ inn++row
 has : ∀ t ∈ ts,(t : Int) ∈ inn++row
 head : ts ≠ []→(h : Int) ∈ inn++row
theorem LRow.mem {bl : List LBlock} {h : Nat} {ts : List Nat} {inn : List Int} (hL : LRow bl h ts [] inn) (_hts : ∀ t ∈ ts,Rch bl (-1) 0 t) (x : Int) : x ∈ inn ↔ ∃ c : Nat,x = c∧InT bl h ts c:=by
 have e : ∀ y,y ∈ inn++([] : List Int) ↔ y ∈ inn:=fun y=>by simp
 constructor
 ·intro hx
  obtain ⟨c,h1,_,h2⟩:=hL.sound x ((e x).2 hx)
  exact ⟨c,h1,h2⟩
 ·rintro ⟨c,rfl,t,ht,hc⟩
  have hth:=(e _).1 (hL.has t ht)
  have hhd:=(e _).1 (hL.head (List.ne_nil_of_mem ht))
  rcases hc with rfl|⟨hne,hr,hw⟩
  ·exact hhd
  ·have key:=rch_back (p:=fun x=>x = h ∨ ¬ Rch bl (-1) 0 x ∨ (x : Int) ∈ inn) (.inr (.inr hth)) (fun x y he hw hy=>?_) hw
   ·rcases key with k|k|k
    ·exact absurd k hne
    ·exact absurd hr k
    ·exact k
   ·by_cases hx0 : Rch bl (-1) 0 x
    ·have hy0 : Rch bl (-1) 0 y:=hx0.step he (by omega)
     rcases hy with k|k|k
     ·exact absurd (by omega) hw
     ·exact absurd hy0 k
     ·have:=hL.done y k (fun e=>hw (by omega)) x hx0 he
      exact .inr (.inr ((e _).1 this))
    ·exact .inr (.inl hx0)
theorem LRow.more {bl : List LBlock} {h : Nat} {ts : List Nat} {inn : List Int} {t : Nat} (hL : LRow bl h ts [] inn) (hh : Rch bl (-1) 0 h) (ht : Rch bl (-1) 0 t) : LRow bl h (ts++[t]) [(h : Int),(t : Int)] inn:=by
 have up : ∀ {c},InT bl h ts c→InT bl h (ts++[t]) c:=fun ⟨s,hs,k⟩=>⟨s,List.mem_append_left _ hs,k⟩
 refine ⟨hL.nodup,fun x hx=>?_,fun b hb hne a ha he=>?_,fun s hs=>?_,fun _=>by simp⟩
 ·rcases List.mem_append.1 hx with hx|hx
  ·obtain ⟨c,h1,h2,h3⟩:=hL.sound x (by simpa using hx)
   exact ⟨c,h1,h2,up h3⟩
  ·simp only [List.mem_cons,List.not_mem_nil,or_false] at hx
   rcases hx with rfl|rfl
   ·exact ⟨h,rfl,hh,t,by simp,.inl rfl⟩
   ·by_cases e : t = h
    ·exact ⟨t,rfl,ht,t,by simp,.inl e⟩
    ·exact ⟨t,rfl,ht,t,by simp,.inr ⟨e,ht,.refl⟩⟩
 ·have:=hL.done b hb hne a ha he
  exact List.mem_append_left _ (by simpa using this)
 ·rcases List.mem_append.1 hs with hs|hs
  ·have:=hL.has s hs
   exact List.mem_append_left _ (by simpa using this)
  ·rw [List.mem_singleton.1 hs]; simp
theorem LRow.skip {bl : List LBlock} {h : Nat} {ts : List Nat} {row inn : List Int} {b : Int} (hL : LRow bl h ts (b::row) inn) (hb : b ∈ inn) : LRow bl h ts row inn:=by
 have e : ∀ {y},y ∈ inn++(b::row)→y ∈ inn++row:=fun {y} hy=>by
  rcases List.mem_append.1 hy with h|h
  ·exact List.mem_append_left _ h
  ·rcases List.mem_cons.1 h with h|h
   ·subst h; exact List.mem_append_left _ hb
   ·exact List.mem_append_right _ h
 exact ⟨hL.nodup,fun x hx=>hL.sound x ((List.mem_append.1 hx).elim (List.mem_append_left _) fun h=>List.mem_append_right _ (List.mem_cons_of_mem _ h)),fun b hb hne a ha he=>e (hL.done b hb hne a ha he),fun t ht=>e (hL.has t ht),fun hn=>e (hL.head hn)⟩
theorem LRow.add {bl : List LBlock} {h : Nat} {ts : List Nat} {row inn ps : List Int} {b : Nat} (hL : LRow bl h ts ((b : Int)::row) inn) (hb : (b : Int) ∉ inn) (hps : b ≠ h→∀ x,x ∈ ps ↔ ∃ a : Nat,x = a∧Rch bl (-1) 0 a∧Edge bl a b) (hph : b = h→ps = []) :
  LRow bl h ts (row++ps) (inn++[(b : Int)]):=by
 have hsb:=hL.sound (b : Int) (by simp)
 have e : ∀ {y},y ∈ inn++((b : Int)::row)→y ∈ (inn++[(b : Int)])++(row++ps):=fun {y} hy=>by
  simp only [List.mem_append,List.mem_cons,List.not_mem_nil,or_false] at hy ⊢
  rcases hy with h|h|h
  ·exact .inl (.inl h)
  ·exact .inl (.inr h)
  ·exact .inr (.inl h)
 refine ⟨List.nodup_append.2 ⟨hL.nodup,by simp,fun a ha c hc e=>hb (by rw [List.mem_singleton.1 hc] at e; rw [← e]; exact ha)⟩,fun x hx=>?_,fun d hd hne a ha he=>?_,fun t ht=>e (hL.has t ht),fun hn=>e (hL.head hn)⟩
 ·simp only [List.mem_append,List.mem_cons,List.not_mem_nil,or_false] at hx
  rcases hx with (hx|hx)|(hx|hx)
  ·exact hL.sound x (List.mem_append_left _ hx)
  ·rw [hx]; exact hsb
  ·exact hL.sound x (List.mem_append_right _ (List.mem_cons_of_mem _ hx))
  ·by_cases hbh : b = h
   ·rw [hph hbh] at hx; cases hx
   ·obtain ⟨a,rfl,ha,he⟩:=(hps hbh x).1 hx
    obtain ⟨c,hc,_,t,ht,hin⟩:=hsb
    have hcb : b = c:=by omega
    subst hcb
    rcases hin with k|⟨_,_,k⟩
    ·exact absurd k hbh
    ·by_cases hah : a = h
     ·exact ⟨a,rfl,ha,t,ht,.inl hah⟩
     ·exact ⟨a,rfl,ha,t,ht,.inr ⟨hah,ha,k.cons he (by omega)⟩⟩
 ·rcases List.mem_append.1 hd with hd|hd
  ·exact e (hL.done d hd hne a ha he)
  ·have hdb : d = b:=by have:=List.mem_singleton.1 hd; omega
   subst hdb
   exact List.mem_append_right _ (List.mem_append_right _ ((hps hne _).2 ⟨a,rfl,ha,he⟩))
def sorted (l : List Int) : List Int:=l.mergeSort fun x y=>decide (x ≤ y)
theorem sorted_perm (l : List Int) : (sorted l).Perm l:=List.mergeSort_perm l _
theorem sorted_len (l : List Int) : (sorted l).length = l.length:=(sorted_perm l).length_eq
theorem sorted_mem {l : List Int} {x : Int} : x ∈ sorted l ↔ x ∈ l:=(sorted_perm l).mem_iff
theorem sorted_le (l : List Int) : (sorted l).Pairwise (· ≤ ·):=by
 have:=List.pairwise_mergeSort (le:=fun x y : Int=>decide (x ≤ y)) (fun a b c h1 h2=>by simp at h1 h2 ⊢; omega) (fun a b=>by simp; omega) l
 exact this.imp fun h=>by simpa using h
theorem rise_eq : ∀ {l m : List Int},l.Pairwise (· < ·)→m.Pairwise (· < ·)→(∀ x,x ∈ l ↔ x ∈ m)→l = m
 | [],[],_,_,_=>rfl
 | [],y::m,_,_,h=>by have:=(h y).2 (by simp); cases this
 | x::l,[],_,_,h=>by have:=(h x).1 (by simp); cases this
 | x::l,y::m,hl,hm,h=>by
  obtain ⟨hx,hl'⟩:=List.pairwise_cons.1 hl
  obtain ⟨hy,hm'⟩:=List.pairwise_cons.1 hm
  have e : x = y:=by
   rcases List.mem_cons.1 ((h x).1 (by simp)) with e|h1
   ·exact e
   ·rcases List.mem_cons.1 ((h y).2 (by simp)) with e|h2
    ·exact e.symm
    ·have:=hx y h2; have:=hy x h1; omega
  subst e
  congr 1
  refine rise_eq hl' hm' fun z=>⟨fun hz=>?_,fun hz=>?_⟩
  ·rcases List.mem_cons.1 ((h z).1 (List.mem_cons_of_mem _ hz)) with e|h1
   ·have:=hx z hz; omega
   ·exact h1
  ·rcases List.mem_cons.1 ((h z).2 (List.mem_cons_of_mem _ hz)) with e|h1
   ·have:=hy z hz; omega
   ·exact h1
theorem sorted_rise {l : List Int} (hn : l.Nodup) : (sorted l).Pairwise (· < ·):=by
 have h1:=sorted_le l
 have h2 : (sorted l).Nodup:=(sorted_perm l).nodup_iff.2 hn
 exact (h1.and h2).imp fun ⟨h,k⟩=>by omega
theorem filter_rise (n : Nat) (p : Nat→Bool) : (((List.range n).filter p).map fun x : Nat=>(x : Int)).Pairwise (· < ·):=by
 rw [List.pairwise_map]
 exact ((List.pairwise_lt_range).filter p).imp fun h=>by omega
theorem sorted_filter {l : List Int} {n : Nat} {p : Nat→Bool} (hn : l.Nodup) (h : ∀ x,x ∈ l ↔ ∃ c : Nat,x = c∧c < n∧p c = true) : sorted l = ((List.range n).filter p).map fun x : Nat=>(x : Int):=by
 refine rise_eq (sorted_rise hn) (filter_rise n p) fun x=>?_
 rw [sorted_mem,h,List.mem_map]
 exact ⟨fun ⟨c,e,h1,h2⟩=>⟨c,List.mem_filter.2 ⟨List.mem_range.2 h1,h2⟩,e.symm⟩,fun ⟨c,h1,e⟩=>⟨c,e.symm,List.mem_range.1 (List.mem_filter.1 h1).1,(List.mem_filter.1 h1).2⟩⟩
theorem putCells_row (pre xs sp : List Value) (l : List Int) (h : xs.length = l.length) : Go.Sort.putCells (Value.int .i64) pre.length l.toArray (pre++xs++sp).toArray = (pre++l.map (Value.int .i64)++sp).toArray:=by
 apply Array.ext'
 apply List.ext_getElem?
 intro j
 unfold Go.Sort.putCells
 by_cases hj : j < (pre++xs++sp).length
 ·rw [Array.getElem?_toList,Array.getElem?_mapIdx]
  rw [List.getElem?_toArray,List.getElem?_eq_getElem hj]
  simp only [Option.map_some]
  by_cases h1 : j < pre.length
  ·rw [if_neg (by simp; omega)]
   simp [List.getElem?_append,h1]
  ·by_cases h2 : j < pre.length + l.length
   ·rw [if_pos (by simp; omega)]
    rw [List.append_assoc,List.getElem?_append_right (by omega),List.getElem?_append_left (by simp; omega)]
    have h3 : j - pre.length < l.length:=by omega
    simp [h3]
   ·rw [if_neg (by simp; omega)]
    rw [List.getElem?_append_right (by simp; omega)]
    simp only [List.length_append,List.length_map] at hj ⊢
    rw [List.getElem_append_right (by simp; omega)]
    simp only [List.length_append,h]
    rw [List.getElem?_eq_getElem (by omega)]
 ·rw [Array.getElem?_toList,Array.getElem?_eq_none (by simp only [Array.size_mapIdx]; simpa using hj),List.getElem?_eq_none (by simp at hj ⊢; omega)]
theorem Wd.sorted {S : Nat→Prop} {w0 w : World} {H : List Ent} (hW : Wd S w0 H w) {k b o n c e m : Nat} {os : Array Obj} {l l' : List Int} (hk : H[k]? = some (Ent.vec (some ⟨b,o,none⟩) n c e 1 (l.map (.int .i64)))) (hl : l'.length = l.length) :
  Wd S w0 (H.set k (Ent.vec (some ⟨b,o,none⟩) n c e 1 (l'.map (.int .i64)))) (Go.Sort.grow (Go.Sort.putRow (Value.int .i64) (Go.Sort.ahead w m) b o l'.toArray) os):=by
 obtain ⟨h1,h2,h3,pre,sp,rfl,h5,hb⟩:=hW.vecAt hk
 rw [List.length_map] at h1
 have hlt : b < w.heap.size:=(Array.getElem?_eq_some_iff.1 hb).1
 have hsz : (Go.Sort.putRow (Value.int .i64) (Go.Sort.ahead w m) b pre.length l'.toArray).heap.size = w.heap.size:=by simp [Go.Sort.putRow,Go.Sort.mapBlock,Go.Sort.ahead]
 have hnew : (Go.Sort.putRow (Value.int .i64) (Go.Sort.ahead w m) b pre.length l'.toArray).heap[b]? = some (.cells (pre++l'.map (Value.int .i64)++sp).toArray e (0,0)):=by
  simp only [Go.Sort.putRow,Go.Sort.mapBlock,Go.Sort.ahead,Array.getElem?_modify,if_true,hb,Option.map_some,Go.Sort.onCells]
  rw [putCells_row pre _ sp l' (by simp [hl])]
 have hoth : ∀ j,j ≠ b→(Go.Sort.putRow (Value.int .i64) (Go.Sort.ahead w m) b pre.length l'.toArray).heap[j]? = w.heap[j]?:=fun j hj=>by
  simp [Go.Sort.putRow,Go.Sort.mapBlock,Go.Sort.ahead,Array.getElem?_modify,Ne.symm hj]
 have hT : Wd S w0 (H.set k (Ent.vec (some ⟨b,pre.length,none⟩) n c e 1 (l'.map (.int .i64)))) (Go.Sort.putRow (Value.int .i64) (Go.Sort.ahead w m) b pre.length l'.toArray):=by
  refine hW.turnAt hk ⟨rfl,rfl,rfl,by rw [hsz]; exact Nat.le_refl _,fun j _ hj=>hoth j fun e'=>hj (by simp [Ent.vec,e'])⟩ (fun b' hb'=>?_) fun w2 hw2=>?_
  ·simp only [Ent.vec,Option.map_some,Option.some.injEq] at hb' ⊢
   subst hb'
   exact ⟨.inl rfl,by rw [hsz]; exact hlt⟩
  ·have:=hw2 b (by simp [Ent.vec])
   refine ⟨by simpa [hl] using h1,.inr ⟨b,pre,sp,rfl,h2,h3,h5,?_⟩⟩
   rw [this,hnew]
 refine hT.call ⟨rfl,rfl,rfl,by simp [Go.Sort.grow],fun j hj _=>?_⟩
 simp only [Go.Sort.grow]
 rw [Array.getElem?_append_left hj]
open Classical in
noncomputable def backRow (bl : List LBlock) (b n : Nat) : List Nat:=(List.range n).filter fun t=>decide (BackE bl b t)
noncomputable def backTo (bl : List LBlock) (b : Nat) : List (Nat × Nat):=(List.range b).flatMap fun b=>(backRow bl b bl.length).map fun t=>(b,t)
noncomputable def backL (bl : List LBlock) : List (Nat × Nat):=backTo bl bl.length
theorem backTo_succ (bl : List LBlock) (b : Nat) : backTo bl (b + 1) = backTo bl b++(backRow bl b bl.length).map fun t=>(b,t):=by
 simp [backTo,List.range_succ,List.flatMap_append]
theorem backRow_succ (bl : List LBlock) (b n : Nat) : backRow bl b (n + 1) = backRow bl b n++if (open Classical in decide (BackE bl b n)) then [n] else []:=by
 classical
 unfold backRow
 rw [List.range_succ,List.filter_append]
 congr 1
 by_cases h : BackE bl b n <;> simp [h]
theorem backRow_mem {bl : List LBlock} {b n t : Nat} : t ∈ backRow bl b n ↔ t < n∧BackE bl b t:=by
 classical
 simp [backRow]
theorem backRow_len (bl : List LBlock) (b n : Nat) : (backRow bl b n).length ≤ n:=by
 classical
 have:=List.length_filter_le (fun t=>decide (BackE bl b t)) (List.range n)
 rwa [List.length_range] at this
theorem backTo_len (bl : List LBlock) (b : Nat) : (backTo bl b).length ≤ b * bl.length:=by
 induction b with
 | zero=>simp [backTo]
 | succ b ih =>
  rw [backTo_succ,List.length_append,List.length_map]
  have:=backRow_len bl b bl.length
  rw [Nat.succ_mul]; omega
theorem backL_mem {bl : List LBlock} (hok : GoodB bl) (h0 : 0 < bl.length) {b t : Nat} : (b,t) ∈ backL bl ↔ BackE bl b t:=by
 unfold backL backTo
 rw [List.mem_flatMap]
 constructor
 ·rintro ⟨c,_,h⟩
  obtain ⟨s,hs,e⟩:=List.mem_map.1 h
  simp only [Prod.mk.injEq] at e
  obtain ⟨rfl,rfl⟩:=e
  exact (backRow_mem.1 hs).2
 ·intro h
  exact ⟨b,List.mem_range.2 (hok.rch h0 h.1),List.mem_map.2 ⟨t,backRow_mem.2 ⟨hok.edge h.2.1,h⟩,rfl⟩⟩
theorem backRow_of {bl : List LBlock} (_hok : GoodB bl) {b : Nat} : (open Classical in ((List.range bl.length).filter fun t : Nat=>decide ((t : Int) ∈ toOf bl b)).filter fun t=>decide (BackE bl b t)) = backRow bl b bl.length:=by
 classical
 rw [List.filter_filter]
 unfold backRow
 refine List.filter_congr fun t _=>?_
 by_cases h : BackE bl b t
 ·simp [h,show (t : Int) ∈ toOf bl b from h.2.1]
 ·simp [h]
def placeL (bl : List LBlock) (b : Nat) : Int:=if b ∈ orderL bl then (rk (orderL bl) b : Int) else -1
def placesL (bl : List LBlock) : List Int:=(List.range bl.length).map (placeL bl)
theorem placeL_back {bl : List LBlock} (hok : GoodB bl) (h0 : 0 < bl.length) {b t : Nat} (he : Edge bl b t) : (0 ≤ placeL bl b∧placeL bl t ≤ placeL bl b) ↔ BackE bl b t:=by
 have ho:=orderL_ord hok h0
 unfold placeL BackE
 by_cases hb : b ∈ orderL bl
 ·have hr:=(ho.mem b).1 hb
  have ht : t ∈ orderL bl:=(ho.mem t).2 (hr.step he (by omega))
  rw [if_pos hb,if_pos ht]
  exact ⟨fun h=>⟨hr,he,by omega⟩,fun h=>⟨by omega,by have:=h.2.2; omega⟩⟩
 ·rw [if_neg hb]
  exact ⟨fun h=>by omega,fun h=>absurd ((ho.mem b).2 h.1) hb⟩
def Ent.join (H : List Ent) : Ent:=⟨fps H,fun w=>(∀ e ∈ H,∀ w2 : World,w.heap.size ≤ w2.heap.size→(∀ b,e.fp b→w2.heap[b]? = w.heap[b]?)→e.ok w2)∧H.Pairwise fun e f=>∀ b,e.fp b→¬ f.fp b⟩
section
variable {P : Program} {N : Nat} {ds : List Deferred} {S : Nat→Prop} {w0 w : World} {L : List (Nat × Value)} {H H1 H2 : List Ent} {p : Act→World→Prop}
theorem Wd.join (h : Wd S w0 (H1++H2) w) : Wd S w0 (Ent.join H1::H2) w:=by
 have hap:=List.pairwise_append.1 h.apart
 refine ⟨h.chg,fun e he b hb=>?_,fun e he w' hs hw'=>?_,List.pairwise_cons.2 ⟨fun f hf b ⟨e,he,hb⟩=>hap.2.2 e he f hf b hb,hap.2.1⟩⟩
 ·rcases List.mem_cons.1 he with rfl|he
  ·obtain ⟨f,hf,hb⟩:=hb
   exact h.own f (List.mem_append_left _ hf) b hb
  ·exact h.own e (List.mem_append_right _ he) b hb
 ·rcases List.mem_cons.1 he with rfl|he
  ·exact ⟨fun f hf w2 hs2 hw2=>h.ok f (List.mem_append_left _ hf) w2 (Nat.le_trans hs hs2) fun b hb=>(hw2 b hb).trans (hw' b ⟨f,hf,hb⟩),hap.1⟩
  ·exact h.ok e (List.mem_append_right _ he) w' hs hw'
theorem Wd.unjoin (h : Wd S w0 (Ent.join H1::H2) w) : Wd S w0 (H1++H2) w:=by
 have hap:=List.pairwise_cons.1 h.apart
 have hj:=h.get (k:=0) rfl
 refine ⟨h.chg,fun e he b hb=>?_,fun e he w' hs hw'=>?_,List.pairwise_append.2 ⟨hj.2,hap.2,fun e he f hf b hb=>hap.1 f hf b ⟨e,he,hb⟩⟩⟩
 ·rcases List.mem_append.1 he with he|he
  ·exact h.own (Ent.join H1) (by simp) b ⟨e,he,hb⟩
  ·exact h.own e (List.mem_cons_of_mem _ he) b hb
 ·rcases List.mem_append.1 he with he|he
  ·exact hj.1 e he w' hs hw'
  ·exact h.ok e (List.mem_cons_of_mem _ he) w' hs hw'
theorem g_joinH (k : G N ds S w0 L (Ent.join H1::H2) p) : G N ds S w0 L (H1++H2) p:=fun a w hS=>k a w ⟨hS.fr,hS.wd.join⟩
theorem g_unjoin (k : G N ds S w0 L (H1++H2) p) : G N ds S w0 L (Ent.join H1::H2) p:=fun a w hS=>k a w ⟨hS.fr,hS.wd.unjoin⟩
end
def vlC (v : LVal) : List Value:=[.bool v.reg,.int .i64 v.n]
structure PRow where
 dst : Int
 a : Option Addr
 c : Nat
 l : List LVal
structure IRow where
 x : LIns
 a : Option Addr
 c : Nat
structure BRow where
 pa : Option Addr
 pc : Nat
 ps : List PRow
 la : Option Addr
 lc : Nat
 xs : List IRow
 kind : Int
 on : LVal
 ta : Option Addr
 tc : Nat
 to : List Int
def PRow.phi (p : PRow) : LPhi:=⟨p.dst,p.l⟩
def BRow.blk (b : BRow) : LBlock:=⟨b.ps.map PRow.phi,b.xs.map (·.x),b.kind,b.on,b.to⟩
def phiC (p : PRow) : List Value:=[.int .i64 p.dst,.slice p.a p.l.length p.c]
def rowC (i : IRow) : List Value:=[.int .i64 i.x.op,.int .i64 i.x.dst,.bool i.x.a.reg,.int .i64 i.x.a.n,.bool i.x.b.reg,.int .i64 i.x.b.n,.int .i64 i.x.fn,.slice i.a i.x.args.length i.c]
def blkC (b : BRow) : List Value:=[.slice b.pa b.ps.length b.pc,.slice b.la b.xs.length b.lc,.int .i64 b.kind,.bool b.on.reg,.int .i64 b.on.n,.slice b.ta b.to.length b.tc]
def phE (p : PRow) : Ent:=Ent.vec p.a p.l.length p.c 48 2 (p.l.flatMap vlC)
def roE (i : IRow) : Ent:=Ent.vec i.a i.x.args.length i.c 48 2 (i.x.args.flatMap vlC)
def blkPs (b : BRow) : List Ent:=Ent.vec b.pa b.ps.length b.pc 86 2 (b.ps.flatMap phiC)::Ent.vec b.la b.xs.length b.lc 89 8 (b.xs.flatMap rowC)::Ent.vec b.ta b.to.length b.tc 3 1 (b.to.map (.int .i64))::(b.ps.map phE++b.xs.map roE)
def blkE (b : BRow) : Ent:=Ent.join (blkPs b)
def PhiC (_ : World) (p : PRow) (cs : List Value) : Prop:=cs = phiC p
def RowC (_ : World) (i : IRow) (cs : List Value) : Prop:=cs = rowC i
def BlkC (_ : World) (b : BRow) (cs : List Value) : Prop:=cs = blkC b
def ValC (_ : World) (v : LVal) (cs : List Value) : Prop:=cs = vlC v
theorem slAt_pick {α β : Type} {w : World} {a : Option Addr} {n c s : Nat} {l : List α} {V : World→α→List Value→Prop} {U : World→β→List Value→Prop} {q : α→β→Prop} (h : SlAt w (.slice a n c) s l V) (hp : ∀ x ∈ l,∀ cs,V w x cs→∃ y,U w y cs∧q x y) :
  ∃ m : List β,m.length = l.length∧SlAt w (.slice a n c) s m U∧∀ (i : Nat) x,l[i]? = some x→∃ y,m[i]? = some y∧q x y:=by
 obtain ⟨hn,hnc,hb,b,o,ha,hel⟩:=h.at
 obtain ⟨_,_,_,_,_,e,_,_,_,hc63,_⟩:=id h
 simp only [Value.slice.injEq] at e
 obtain ⟨ys,hyl,hys⟩:=list_pick (p:=fun i x y=>∃ cs,CellsAt w b (o + i * s) cs∧U w y cs∧q x y) l fun i x hx=>by
  obtain ⟨cs,hc,hv⟩:=hel i x hx
  obtain ⟨y,h1,h2⟩:=hp x (List.mem_of_getElem? hx) cs hv
  exact ⟨y,cs,hc,h1,h2⟩
 refine ⟨ys,hyl,⟨a,n,c,b,o,rfl,by omega,hnc,hb,by omega,fun hne=>ha fun e=>hne (List.eq_nil_of_length_eq_zero (by rw [hyl,e]; rfl)),fun i y hy=>?_⟩,fun i x hx=>?_⟩
 ·have hil : i < l.length:=by rw [← hyl]; exact (List.getElem?_eq_some_iff.1 hy).1
  obtain ⟨y',hy',cs,hc,hu,_⟩:=hys i l[i] (List.getElem?_eq_getElem hil)
  rw [hy] at hy'
  obtain rfl:=Option.some.inj hy'
  exact ⟨cs,hc,hu⟩
 ·obtain ⟨y,hy,cs,_,_,hq⟩:=hys i x hx
  exact ⟨y,hy,hq⟩
theorem map_pick {α β : Type} {f : β→α} {l : List α} {m : List β} (hl : m.length = l.length) (h : ∀ (i : Nat) x,l[i]? = some x→∃ y,m[i]? = some y∧f y = x) : m.map f = l:=by
 apply List.ext_getElem?
 intro i
 by_cases hi : i < l.length
 ·obtain ⟨y,hy,e⟩:=h i l[i] (List.getElem?_eq_getElem hi)
  rw [List.getElem?_map,hy,List.getElem?_eq_getElem hi,← e]; rfl
 ·rw [List.getElem?_eq_none (by simp; omega),List.getElem?_eq_none (by omega)]
theorem phi_rows {w : World} {v : Value} {l : List LPhi} (h : SlAt w v 2 l PhiV) : ∃ (a : Option Addr) (c : Nat) (ps : List PRow),v = .slice a ps.length c∧ps.map PRow.phi = l∧SlAt w v 2 ps PhiC∧∀ p ∈ ps,inI p.dst∧SlAt w (.slice p.a p.l.length p.c) 2 p.l ValV:=by
 obtain ⟨a,n,c,b,o,rfl,hn,_⟩:=id h
 obtain ⟨m,hml,hsl,hq⟩:=slAt_pick (U:=PhiC) (q:=fun x y=>PRow.phi y = x∧inI y.dst∧SlAt w (.slice y.a y.l.length y.c) 2 y.l ValV) h fun x _ cs ⟨v,e,hd,hs⟩=>by
  have hs0:=hs
  obtain ⟨a',n',c',_,_,rfl,hn',_⟩:=hs0
  subst hn'
  exact ⟨⟨x.dst,a',c',x.src⟩,e,rfl,hd,hs⟩
 have hmap:=map_pick (f:=PRow.phi) hml fun i x hx=>by
  obtain ⟨y,hy,e,_⟩:=hq i x hx
  exact ⟨y,hy,e⟩
 refine ⟨a,c,m,by rw [hml,hn],hmap,hsl,fun p hp=>?_⟩
 obtain ⟨i,hi⟩:=List.getElem?_of_mem hp
 obtain ⟨y,hy,_,h2⟩:=hq i (l[i]'(by rw [← hml]; exact (List.getElem?_eq_some_iff.1 hi).1)) (List.getElem?_eq_getElem _)
 rw [hi] at hy
 obtain rfl:=Option.some.inj hy
 exact h2
theorem ins_rows {w : World} {v : Value} {l : List LIns} (h : SlAt w v 8 l InsV) : ∃ (a : Option Addr) (c : Nat) (xs : List IRow),v = .slice a xs.length c∧xs.map (·.x) = l∧SlAt w v 8 xs RowC∧∀ i ∈ xs,(inI i.x.op∧inI i.x.dst∧inI i.x.a.n∧inI i.x.b.n∧inI i.x.fn)∧SlAt w (.slice i.a i.x.args.length i.c) 2 i.x.args ValV:=by
 obtain ⟨a,n,c,b,o,rfl,hn,_⟩:=id h
 obtain ⟨m,hml,hsl,hq⟩:=slAt_pick (U:=RowC) (q:=fun x y=>y.x = x∧(inI y.x.op∧inI y.x.dst∧inI y.x.a.n∧inI y.x.b.n∧inI y.x.fn)∧SlAt w (.slice y.a y.x.args.length y.c) 2 y.x.args ValV) h fun x _ cs ⟨v,e,h1,h2,h3,h4,h5,hs⟩=>by
  have hs0:=hs
  obtain ⟨a',n',c',_,_,rfl,hn',_⟩:=hs0
  subst hn'
  exact ⟨⟨x,a',c'⟩,e,rfl,⟨h1,h2,h3,h4,h5⟩,hs⟩
 have hmap:=map_pick (f:=fun i : IRow=>i.x) hml fun i x hx=>by
  obtain ⟨y,hy,e,_⟩:=hq i x hx
  exact ⟨y,hy,e⟩
 refine ⟨a,c,m,by rw [hml,hn],hmap,hsl,fun p hp=>?_⟩
 obtain ⟨i,hi⟩:=List.getElem?_of_mem hp
 obtain ⟨y,hy,_,h2⟩:=hq i (l[i]'(by rw [← hml]; exact (List.getElem?_eq_some_iff.1 hi).1)) (List.getElem?_eq_getElem _)
 rw [hi] at hy
 obtain rfl:=Option.some.inj hy
 exact h2
structure BlkAt (w : World) (b : BRow) : Prop where
 kind : inI b.kind
 on : inI b.on.n
 phis : SlAt w (.slice b.pa b.ps.length b.pc) 2 b.ps PhiC
 phi : ∀ p ∈ b.ps,inI p.dst∧SlAt w (.slice p.a p.l.length p.c) 2 p.l ValV
 list : SlAt w (.slice b.la b.xs.length b.lc) 8 b.xs RowC
 ins : ∀ i ∈ b.xs,(inI i.x.op∧inI i.x.dst∧inI i.x.a.n∧inI i.x.b.n∧inI i.x.fn)∧SlAt w (.slice i.a i.x.args.length i.c) 2 i.x.args ValV
 to : SlAt w (.slice b.ta b.to.length b.tc) 1 b.to IntV
theorem blk_rows {w : World} {v : Value} {l : List LBlock} (h : SlAt w v 6 l BlockV) : ∃ (a : Option Addr) (c : Nat) (bs : List BRow),v = .slice a bs.length c∧bs.map BRow.blk = l∧SlAt w v 6 bs BlkC∧∀ b ∈ bs,BlkAt w b:=by
 obtain ⟨a,n,c,b,o,rfl,hn,_⟩:=id h
 obtain ⟨m,hml,hsl,hq⟩:=slAt_pick (U:=BlkC) (q:=fun x y=>BRow.blk y = x∧BlkAt w y) h fun x _ cs ⟨p,l,t,e,h1,h2,hp,hl,ht⟩=>by
  obtain ⟨pa,pc,ps,rfl,hp1,hp2,hp3⟩:=phi_rows hp
  obtain ⟨la,lc,xs,rfl,hl1,hl2,hl3⟩:=ins_rows hl
  have ht0:=ht
  obtain ⟨ta,tn,tc,_,_,rfl,htn,_⟩:=ht0
  subst htn
  exact ⟨⟨pa,pc,ps,la,lc,xs,x.kind,x.on,ta,tc,x.to⟩,e,by simp [BRow.blk,hp1,hl1],⟨h1,h2,hp2,hp3,hl2,hl3,ht⟩⟩
 have hmap:=map_pick (f:=BRow.blk) hml fun i x hx=>by
  obtain ⟨y,hy,e,_⟩:=hq i x hx
  exact ⟨y,hy,e⟩
 refine ⟨a,c,m,by rw [hml,hn],hmap,hsl,fun p hp=>?_⟩
 obtain ⟨i,hi⟩:=List.getElem?_of_mem hp
 obtain ⟨y,hy,_,h2⟩:=hq i (l[i]'(by rw [← hml]; exact (List.getElem?_eq_some_iff.1 hi).1)) (List.getElem?_eq_getElem _)
 rw [hi] at hy
 obtain rfl:=Option.some.inj hy
 exact h2
theorem slAt_un {α β : Type} {w : World} {v : Value} {s : Nat} {m : List β} {U : World→β→List Value→Prop} {V : World→α→List Value→Prop} (f : β→α) (h : SlAt w v s m U) (hv : ∀ y ∈ m,∀ cs,U w y cs→V w (f y) cs) : SlAt w v s (m.map f) V:=by
 obtain ⟨a,n,c,b,o,rfl,hn,hnc,hb,h63,ha,hel⟩:=h
 refine ⟨a,n,c,b,o,rfl,by simpa using hn,hnc,hb,h63,fun hne=>ha fun e=>hne (by rw [e]; rfl),fun i x hx=>?_⟩
 rw [List.getElem?_map] at hx
 obtain ⟨y,hy,rfl⟩:=Option.map_eq_some_iff.1 hx
 obtain ⟨cs,hc,hu⟩:=hel i y hy
 exact ⟨cs,hc,hv y (List.mem_of_getElem? hy) cs hu⟩
theorem flat_sl {α : Type} {S : Nat→Prop} {w0 w : World} {H : List Ent} (h : Wd S w0 H w) {k : Nat} {a : Option Addr} {c e s : Nat} {l : List α} {g : α→List Value} (hk : H[k]? = some (Ent.vec a l.length c e s (l.flatMap g))) (hg : ∀ x,(g x).length = s) (hb : l.length ≤ 100000) : SlAt w (.slice a l.length c) s l fun _ x cs=>cs = g x:=by
 refine h.slAt hk rfl (by omega) fun i x hx=>⟨g x,fun j v hj=>flat_at hg l i x j v hx hj,rfl⟩
theorem phiC_len (p : PRow) : (phiC p).length = 2:=rfl
theorem rowC_len (i : IRow) : (rowC i).length = 8:=rfl
theorem blkC_len (b : BRow) : (blkC b).length = 6:=rfl
theorem vlC_len (v : LVal) : (vlC v).length = 2:=rfl
theorem val_sl {w : World} {v : Value} {l : List LVal} (h : SlAt w v 2 l ValC) (hb : ∀ x ∈ l,inI x.n) : SlAt w v 2 l ValV:=by
 have:=slAt_un (V:=ValV) id h fun y hy cs hc=>⟨hc,hb y hy⟩
 rwa [List.map_id] at this
theorem val_slC {w : World} {v : Value} {l : List LVal} (h : SlAt w v 2 l ValV) : SlAt w v 2 l ValC:=by
 have:=slAt_un (V:=ValC) id h fun y _ cs hc=>hc.1
 rwa [List.map_id] at this
theorem val_in {w : World} {v : Value} {l : List LVal} (h : SlAt w v 2 l ValV) : ∀ x ∈ l,inI x.n:=fun x hx=>by
 obtain ⟨_,_,_,_,_,_,_,_,_,_,_,hel⟩:=h
 obtain ⟨i,hi⟩:=List.getElem?_of_mem hx
 obtain ⟨_,_,_,h2⟩:=hel i x hi
 exact h2
theorem int_in {w : World} {v : Value} {l : List Int} (h : SlAt w v 1 l IntV) : ∀ x ∈ l,inI x:=fun x hx=>by
 obtain ⟨_,_,_,_,_,_,_,_,_,_,_,hel⟩:=h
 obtain ⟨i,hi⟩:=List.getElem?_of_mem hx
 obtain ⟨_,_,_,h2⟩:=hel i x hi
 exact h2
structure BRow.Bd (b : BRow) : Prop where
 kind : inI b.kind
 on : inI b.on.n
 phis : b.ps.length ≤ 1000
 phi : ∀ p ∈ b.ps,inI p.dst∧p.l.length ≤ 1000∧∀ v ∈ p.l,inI v.n
 list : b.xs.length ≤ 1000
 ins : ∀ i ∈ b.xs,(inI i.x.op∧inI i.x.dst∧inI i.x.a.n∧inI i.x.b.n∧inI i.x.fn)∧i.x.args.length ≤ 1000∧∀ v ∈ i.x.args,inI v.n
 to : b.to.length ≤ 1000∧∀ t ∈ b.to,inI t
theorem BlkAt.bd {w : World} {b : BRow} (h : BlkAt w b) (h1 : b.ps.length ≤ 1000) (h2 : ∀ p ∈ b.ps,p.l.length ≤ 1000) (h3 : b.xs.length ≤ 1000) (h4 : ∀ i ∈ b.xs,i.x.args.length ≤ 1000) (h5 : b.to.length ≤ 1000) : b.Bd :=
 ⟨h.kind,h.on,h1,fun p hp=>⟨(h.phi p hp).1,h2 p hp,val_in (h.phi p hp).2⟩,h3,fun i hi=>⟨(h.ins i hi).1,h4 i hi,val_in (h.ins i hi).2⟩,h5,int_in h.to⟩
theorem Wd.blkAt {S : Nat→Prop} {w0 w : World} {H : List Ent} {b : BRow} (h : Wd S w0 (blkPs b++H) w) (hb : b.Bd) : BlkAt w b:=by
 have hp : ∀ p ∈ b.ps,phE p ∈ blkPs b++H:=fun p hp=>List.mem_append_left _ (by unfold blkPs; simp only [List.mem_cons,List.mem_append,List.mem_map]; exact .inr (.inr (.inr (.inl ⟨p,hp,rfl⟩))))
 have hi : ∀ i ∈ b.xs,roE i ∈ blkPs b++H:=fun i hi=>List.mem_append_left _ (by unfold blkPs; simp only [List.mem_cons,List.mem_append,List.mem_map]; exact .inr (.inr (.inr (.inr ⟨i,hi,rfl⟩))))
 refine ⟨hb.kind,hb.on,flat_sl h (k:=0) rfl phiC_len (by have:=hb.phis; omega),fun p hpm=>?_,flat_sl h (k:=1) rfl rowC_len (by have:=hb.list; omega),fun i him=>?_,?_⟩
 ·obtain ⟨h1,h2,h3⟩:=hb.phi p hpm
  obtain ⟨k,hk⟩:=List.getElem?_of_mem (hp p hpm)
  exact ⟨h1,val_sl (flat_sl h hk vlC_len (by omega)) h3⟩
 ·obtain ⟨h1,h2,h3⟩:=hb.ins i him
  obtain ⟨k,hk⟩:=List.getElem?_of_mem (hi i him)
  exact ⟨h1,val_sl (flat_sl h hk vlC_len (by omega)) h3⟩
 ·refine h.slAt (k:=2) rfl rfl (by have:=hb.to.1; omega) fun i x hx=>⟨[.int .i64 x],fun j v hj=>?_,rfl,hb.to.2 x (List.mem_of_getElem? hx)⟩
  match j,hj with
  | 0,hj=>simpa [hx] using hj
theorem blk_sl {w : World} {v : Value} {bs : List BRow} (h : SlAt w v 6 bs BlkC) (hb : ∀ b ∈ bs,BlkAt w b) : SlAt w v 6 (bs.map BRow.blk) BlockV :=
 slAt_un BRow.blk h fun b hm cs hc=>by
  have hB:=hb b hm
  refine ⟨_,_,_,hc,hB.kind,hB.on,slAt_un PRow.phi hB.phis fun p hp cs hc=>⟨_,hc,hB.phi p hp⟩,slAt_un (fun i : IRow=>i.x) hB.list fun i hi cs hc=>?_,hB.to⟩
  obtain ⟨⟨h1,h2,h3,h4,h5⟩,h6⟩:=hB.ins i hi
  exact ⟨_,hc,h1,h2,h3,h4,h5,h6⟩
theorem Wd.blocks {S : Nat→Prop} {w0 w : World} {H : List Ent} {ba : Option Addr} {bc : Nat} {bs : List BRow} (h : Wd S w0 (Ent.vec ba bs.length bc 52 6 (bs.flatMap blkC)::(bs.map blkE++H)) w) (hn : bs.length ≤ 1000) (hb : ∀ b ∈ bs,b.Bd) : SlAt w (.slice ba bs.length bc) 6 (bs.map BRow.blk) BlockV:=by
 refine blk_sl (flat_sl h (k:=0) rfl blkC_len (by omega)) fun b hm=>?_
 have hmem : blkE b ∈ Ent.vec ba bs.length bc 52 6 (bs.flatMap blkC)::(bs.map blkE++H):=by
  simp only [List.mem_cons,List.mem_append,List.mem_map]
  exact .inr (.inl ⟨b,hm,rfl⟩)
 obtain ⟨k,hk⟩:=List.getElem?_of_mem hmem
 have h1:=(h.perm (perm_pull hk)).unjoin
 exact h1.blkAt (hb b hm)
end Go.Proofs.YtdbljcahlpkgdaaGreatDoor
namespace Go.Proofs.YtdbljcahlpkgdaaGreatDoor
open Go Go.RowKit
attribute [local irreducible] wpListIn Code.wpIn Exit.then Exit.inBlock bodyPost wpQuiet wpAnyIn wpAnyH
set_option maxHeartbeats 4000000
theorem cloneVal_c (a : Option Addr) (c : Nat) (l : List LVal) (hb : l.length ≤ 100000) (w0 : World) (h : SlAt w0 (.slice a l.length c) 2 l ValC) :
  Ret Tryz.prog 62 [.slice a l.length c] w0 fun u w'=>∃ x : Option Addr × Nat,u = .slice x.1 l.length x.2∧Wd NoS w0 [Ent.vec x.1 l.length x.2 48 2 (l.flatMap vlC)] w'∧True:=by
 refine ret_enter Tryz.func62 rfl Tryz.ntmps62 rfl (Wd.nil NoS w0) ?_
 repeat (first|refine g_op rfl ?_|refine g_then ?_|refine g_nil ?_|refine g_region ?_|refine g_seq ?_)
 cases a with
 | none =>
  have hl0 : l = []:=by
   obtain ⟨_,_,_,b,o,ha,_⟩:=h.at
   exact Classical.byContradiction fun hn=>by cases ha hn
  subst hl0
  repeat (first|refine g_then ?_|refine g_nil ?_|refine g_region ?_|refine g_seq ?_|refine g_opS rfl ?_|refine g_condT ?_|refine g_ret ?_|refine g_thenRet ?_)
  refine g_nilVec 48 2 ?_
  exact g_ret1 rfl fun w hw=>⟨(none,0),rfl,hw,trivial⟩
 | some ad =>
  repeat (first|refine g_then ?_|refine g_region ?_|refine g_seq ?_|refine g_skip ?_|refine g_condF ?_)
  refine g_build0 rfl fun eb _=>?_
  repeat (refine g_op rfl ?_)
  refine g_appendF rfl rfl l vlC (fun _ _ _ h=>h) (fun _=>rfl) (fun y u hu=>by simp only [vlC,List.mem_cons,List.not_mem_nil,or_false] at hu; rcases hu with rfl|rfl <;> rfl) (fun w hw=>h.keep (fun _ _ _ _ _ h=>h) hw.chg) (by omega) (by omega) fun a' c'=>?_
  rw [List.nil_append,Nat.zero_add]
  repeat (first|refine g_then ?_|refine g_nil ?_|refine g_opS rfl ?_|refine g_ret ?_)
  exact g_ret1 rfl fun w hw=>⟨(a',c'),rfl,hw,trivial⟩
theorem clonePhi_c (a : Option Addr) (c : Nat) (l : List PRow) (hb : l.length ≤ 100000) (w0 : World) (h : SlAt w0 (.slice a l.length c) 2 l PhiC) :
  Ret Tryz.prog 61 [.slice a l.length c] w0 fun u w'=>∃ x : Option Addr × Nat,u = .slice x.1 l.length x.2∧Wd NoS w0 [Ent.vec x.1 l.length x.2 86 2 (l.flatMap phiC)] w'∧True:=by
 refine ret_enter Tryz.func61 rfl Tryz.ntmps61 rfl (Wd.nil NoS w0) ?_
 repeat (first|refine g_op rfl ?_|refine g_then ?_|refine g_nil ?_|refine g_region ?_|refine g_seq ?_)
 cases a with
 | none =>
  have hl0 : l = []:=by
   obtain ⟨_,_,_,b,o,ha,_⟩:=h.at
   exact Classical.byContradiction fun hn=>by cases ha hn
  subst hl0
  repeat (first|refine g_then ?_|refine g_nil ?_|refine g_region ?_|refine g_seq ?_|refine g_opS rfl ?_|refine g_condT ?_|refine g_ret ?_|refine g_thenRet ?_)
  refine g_nilVec 86 2 ?_
  exact g_ret1 rfl fun w hw=>⟨(none,0),rfl,hw,trivial⟩
 | some ad =>
  repeat (first|refine g_then ?_|refine g_region ?_|refine g_seq ?_|refine g_skip ?_|refine g_condF ?_)
  refine g_build0 rfl fun eb _=>?_
  repeat (refine g_op rfl ?_)
  refine g_appendF rfl rfl l phiC (fun _ _ _ h=>h) (fun _=>rfl) (fun y u hu=>by simp only [phiC,List.mem_cons,List.not_mem_nil,or_false] at hu; rcases hu with rfl|rfl <;> rfl) (fun w hw=>h.keep (fun _ _ _ _ _ h=>h) hw.chg) (by omega) (by omega) fun a' c'=>?_
  rw [List.nil_append,Nat.zero_add]
  repeat (first|refine g_then ?_|refine g_nil ?_|refine g_opS rfl ?_|refine g_ret ?_)
  exact g_ret1 rfl fun w hw=>⟨(a',c'),rfl,hw,trivial⟩
theorem cloneIns_c (a : Option Addr) (c : Nat) (l : List IRow) (hb : l.length ≤ 100000) (w0 : World) (h : SlAt w0 (.slice a l.length c) 8 l RowC) :
  Ret Tryz.prog 63 [.slice a l.length c] w0 fun u w'=>∃ x : Option Addr × Nat,u = .slice x.1 l.length x.2∧Wd NoS w0 [Ent.vec x.1 l.length x.2 89 8 (l.flatMap rowC)] w'∧True:=by
 refine ret_enter Tryz.func63 rfl Tryz.ntmps63 rfl (Wd.nil NoS w0) ?_
 repeat (first|refine g_op rfl ?_|refine g_then ?_|refine g_nil ?_|refine g_region ?_|refine g_seq ?_)
 cases a with
 | none =>
  have hl0 : l = []:=by
   obtain ⟨_,_,_,b,o,ha,_⟩:=h.at
   exact Classical.byContradiction fun hn=>by cases ha hn
  subst hl0
  repeat (first|refine g_then ?_|refine g_nil ?_|refine g_region ?_|refine g_seq ?_|refine g_opS rfl ?_|refine g_condT ?_|refine g_ret ?_|refine g_thenRet ?_)
  refine g_nilVec 89 8 ?_
  exact g_ret1 rfl fun w hw=>⟨(none,0),rfl,hw,trivial⟩
 | some ad =>
  repeat (first|refine g_then ?_|refine g_region ?_|refine g_seq ?_|refine g_skip ?_|refine g_condF ?_)
  refine g_build0 rfl fun eb _=>?_
  repeat (refine g_op rfl ?_)
  refine g_appendF rfl rfl l rowC (fun _ _ _ h=>h) (fun _=>rfl) (fun y u hu=>by simp only [rowC,List.mem_cons,List.not_mem_nil,or_false] at hu; rcases hu with rfl|rfl|rfl|rfl|rfl|rfl|rfl|rfl <;> rfl) (fun w hw=>h.keep (fun _ _ _ _ _ h=>h) hw.chg) (by omega) (by omega) fun a' c'=>?_
  rw [List.nil_append,Nat.zero_add]
  repeat (first|refine g_then ?_|refine g_nil ?_|refine g_opS rfl ?_|refine g_ret ?_)
  exact g_ret1 rfl fun w hw=>⟨(a',c'),rfl,hw,trivial⟩
theorem cloneBlock_c (a : Option Addr) (c : Nat) (l : List BRow) (hb : l.length ≤ 100000) (w0 : World) (h : SlAt w0 (.slice a l.length c) 6 l BlkC) :
  Ret Tryz.prog 60 [.slice a l.length c] w0 fun u w'=>∃ x : Option Addr × Nat,u = .slice x.1 l.length x.2∧Wd NoS w0 [Ent.vec x.1 l.length x.2 52 6 (l.flatMap blkC)] w'∧True:=by
 refine ret_enter Tryz.func60 rfl Tryz.ntmps60 rfl (Wd.nil NoS w0) ?_
 repeat (first|refine g_op rfl ?_|refine g_then ?_|refine g_nil ?_|refine g_region ?_|refine g_seq ?_)
 cases a with
 | none =>
  have hl0 : l = []:=by
   obtain ⟨_,_,_,b,o,ha,_⟩:=h.at
   exact Classical.byContradiction fun hn=>by cases ha hn
  subst hl0
  repeat (first|refine g_then ?_|refine g_nil ?_|refine g_region ?_|refine g_seq ?_|refine g_opS rfl ?_|refine g_condT ?_|refine g_ret ?_|refine g_thenRet ?_)
  refine g_nilVec 52 6 ?_
  exact g_ret1 rfl fun w hw=>⟨(none,0),rfl,hw,trivial⟩
 | some ad =>
  repeat (first|refine g_then ?_|refine g_region ?_|refine g_seq ?_|refine g_skip ?_|refine g_condF ?_)
  refine g_build0 rfl fun eb _=>?_
  repeat (refine g_op rfl ?_)
  refine g_appendF rfl rfl l blkC (fun _ _ _ h=>h) (fun _=>rfl) (fun y u hu=>by simp only [blkC,List.mem_cons,List.not_mem_nil,or_false] at hu; rcases hu with rfl|rfl|rfl|rfl|rfl|rfl <;> rfl) (fun w hw=>h.keep (fun _ _ _ _ _ h=>h) hw.chg) (by omega) (by omega) fun a' c'=>?_
  rw [List.nil_append,Nat.zero_add]
  repeat (first|refine g_then ?_|refine g_nil ?_|refine g_opS rfl ?_|refine g_ret ?_)
  exact g_ret1 rfl fun w hw=>⟨(a',c'),rfl,hw,trivial⟩
theorem cloneInt_c (a : Option Addr) (c : Nat) (l : List Int) (hb : l.length ≤ 100000) (w0 : World) (h : SlAt w0 (.slice a l.length c) 1 l IntV) :
  Ret Tryz.prog 38 [.slice a l.length c] w0 fun u w'=>∃ x : Option Addr × Nat,u = .slice x.1 l.length x.2∧Wd NoS w0 [Ent.vec x.1 l.length x.2 3 1 (l.map (.int .i64))] w'∧True:=by
 refine ret_enter Tryz.func38 rfl Tryz.ntmps38 rfl (Wd.nil NoS w0) ?_
 repeat (first|refine g_op rfl ?_|refine g_then ?_|refine g_nil ?_|refine g_region ?_|refine g_seq ?_)
 cases a with
 | none =>
  have hl0 : l = []:=by
   obtain ⟨_,_,_,b,o,ha,_⟩:=h.at
   exact Classical.byContradiction fun hn=>by cases ha hn
  subst hl0
  repeat (first|refine g_then ?_|refine g_nil ?_|refine g_region ?_|refine g_seq ?_|refine g_opS rfl ?_|refine g_condT ?_|refine g_ret ?_|refine g_thenRet ?_)
  refine g_nilVec 3 1 ?_
  exact g_ret1 rfl fun w hw=>⟨(none,0),rfl,hw,trivial⟩
 | some ad =>
  repeat (first|refine g_then ?_|refine g_region ?_|refine g_seq ?_|refine g_skip ?_|refine g_condF ?_)
  refine g_build0 rfl fun eb _=>?_
  repeat (refine g_op rfl ?_)
  refine g_appendF rfl rfl l (fun x=>[.int .i64 x]) (fun _ _ _ h=>h.1) (fun _=>rfl) (fun y u hu=>by simp only [List.mem_singleton] at hu; subst hu; rfl) (fun w hw=>h.keep (keeps_int) hw.chg) (by omega) (by omega) fun a' c'=>?_
  rw [flat_one,List.nil_append,Nat.zero_add]
  repeat (first|refine g_then ?_|refine g_nil ?_|refine g_opS rfl ?_|refine g_ret ?_)
  exact g_ret1 rfl fun w hw=>⟨(a',c'),rfl,hw,trivial⟩
end Go.Proofs.YtdbljcahlpkgdaaGreatDoor

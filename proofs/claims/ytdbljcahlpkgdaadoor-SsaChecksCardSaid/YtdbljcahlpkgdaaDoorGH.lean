/- Texts joined: Open Door DoorB. -/
import Derived.Deep.DeepHandedRow
import Derived.Deep.Slices
import Derived.Lib.LaidTab
import Derived.OpenShut
import Derived.ProofKit
import Derived.Test.YtdbljcahlpkgdaaDoorCards
import Derived.Test.YtdbljcahlpkgdaaDoorTie
import Derived.Test.YtdbljcahlpkgdaaDoorGA
import Derived.Test.YtdbljcahlpkgdaaDoorGB
import Derived.Test.YtdbljcahlpkgdaaDoorGC
namespace Go.Proofs.YtdbljcahlpkgdaaDoor
open Go Go.RowKit Go.ChangeShapes Go.WideShapes
set_option maxRecDepth 100000
section
variable {H : Type} {enc : TypeId × Value→H} {P : Program} {w : World} {base : Nat} {spare : Nat→Bool} {held : Bool}
theorem inI_of_wf {x : Int} (h : (Lit.int .i64 x).wf = true) : inI x:=by
 simpa [inI,Lit.wf,IntKind.min,IntKind.max,IntKind.signed,IntKind.bits] using h
theorem choose_list {α : Type} {n : Nat} {p : Nat→α→Prop} (h : ∀ i,i < n→∃ x,p i x) : ∃ l : List α,l.length = n∧∀ i x,l[i]? = some x→p i x:=by
 induction n with
 | zero=>exact ⟨[],rfl,by simp⟩
 | succ n ih =>
  obtain ⟨l,hl,hp⟩:=ih (fun i hi=>h i (by omega))
  obtain ⟨x,hx⟩:=h n (by omega)
  refine ⟨l++[x],by simp [hl],fun i y hy=>?_⟩
  by_cases hi : i < l.length
  ·rw [List.getElem?_append_left hi] at hy; exact hp i y hy
  ·rw [List.getElem?_append_right (by omega)] at hy
   have : i - l.length = 0:=by
    cases hk : i - l.length with
    | zero=>rfl
    | succ k=>rw [hk] at hy; simp at hy
   rw [this] at hy
   simp at hy
   subst hy
   have : i = n:=by omega
   subst this; exact hx
theorem mem_weightsAll {e : TypeId} {d : DataW H} {k : Nat} : ∀ {l : List (DataW H)},d ∈ l→k ∈ d.weights P e→k ∈ DataW.weightsAll P e l
 | [],h,_=>by cases h
 | x::l,h,hk=>by
  simp only [DataW.weightsAll,List.mem_append]
  rcases List.mem_cons.1 h with rfl|h
  ·exact .inl hk
  ·exact .inr (mem_weightsAll h hk)
theorem mem_weightsEach {d : DataW H} {k : Nat} : ∀ {ts : List TypeId} {l : List (DataW H)} {i : Nat} {t : TypeId},ts[i]? = some t→l[i]? = some d→k ∈ d.weights P t→k ∈ DataW.weightsEach P ts l
 | [],_,i,t,h,_,_=>by simp at h
 | _::_,[],i,t,_,h,_=>by simp at h
 | t0::ts,x::l,0,t,h,hd,hk=>by
  simp only [List.getElem?_cons_zero,Option.some.injEq] at h hd
  subst h hd
  simp only [DataW.weightsEach,List.mem_append]
  exact .inl hk
 | t0::ts,x::l,i + 1,t,h,hd,hk=>by
  simp only [List.getElem?_cons_succ] at h hd
  simp only [DataW.weightsEach,List.mem_append]
  exact .inr (mem_weightsEach h hd hk)
def Small (P : Program) (t : TypeId) (d : DataW H) : Prop:=∀ k ∈ d.weights P t,k ≤ reachBytes
theorem open_sl {α : Type} {V : World→α→List Value→Prop} {t e s : Nat} (ht : P.underlying t = some (.slice e)) (hs : P.cellsOf e = s) (hpos : 0 < s) (hby : 0 < P.bytesOf e)
  (hV : ∀ fuel cs x,cs.length = s→DataW.trod enc P w base spare held fuel e cs = some x→Small P e x.1→∃ u,V w u cs)
  {fuel : Nat} {v : Value} {x : DataW H × List MemPlace} (h : DataW.trod enc P w base spare held fuel t [v] = some x) (hz : Small P t x.1) : ∃ l,SlAt w v s l V:=by
 rcases Deep.open_slice ht h with ⟨hcs,_⟩|⟨a,len,cap,m,n,D,Pl,hcs,_,hl,hm,hmm,rfl,hi⟩
 ·simp only [List.cons.injEq,and_true] at hcs
  subst hcs
  exact ⟨[],none,0,0,0,0,rfl,rfl,Nat.le_refl _,by omega,by omega,by simp,by simp⟩
 ·simp only [List.cons.injEq,and_true] at hcs
  subst hcs
  have hlm : len ≤ m:=by rw [hmm]; split <;> omega
  have hsz : len ≤ 140737488355328:=by
   have h1 : (len + (m - len)) * P.bytesOf e ≤ reachBytes:=by
    have:=hz ((len + (m - len)) * P.bytesOf e) (by simp [DataW.weights,ht])
    exact this
   have h2 : len + (m - len) ≤ (len + (m - len)) * P.bytesOf e:=Nat.le_mul_of_pos_right _ hby
   simp only [reachBytes] at h1
   omega
  have hD : ∀ i,i < m→Small P e (D i):=fun i him k hk=>by
   refine hz k ?_
   simp only [DataW.weights,ht,List.mem_cons,List.mem_append]
   right
   by_cases hil : i < len
   ·exact .inl (mem_weightsAll (List.mem_map.2 ⟨i,by simpa using hil,rfl⟩) hk)
   ·exact .inr (mem_weightsAll (List.mem_map.2 ⟨i - len,by simp; omega,by rw [show len + (i - len) = i by omega]⟩) hk)
  obtain ⟨l,hll,hp⟩:=choose_list (α:=α) (n:=len) (p:=fun i u=>∃ cs',w.cells? base (a.add (i * s)) s = some cs'∧V w u cs') (fun i hil=>by
   obtain ⟨cs',hc,ht'⟩:=hi i (by omega)
   rw [hs] at hc
   obtain ⟨u,hu⟩:=hV n cs' _ (World.cells?_some hc).2.1 ht' (hD i (by omega))
   exact ⟨u,cs',hc,hu⟩)
  refine ⟨l,some a,len,cap,a.block,a.off,rfl,hll.symm,hl,hsz,by simpa [maxLen] using hm,fun hne=>?_,fun i u hu=>?_⟩
  ·have h0 : 0 < l.length:=List.length_pos_iff.2 hne
   obtain ⟨cs',hc,_⟩:=hp 0 _ (List.getElem?_eq_getElem h0)
   obtain ⟨_,hlen,hat⟩:=World.cells?_some hc
   have h1:=hat 0 hpos
   rw [List.getElem?_eq_getElem (by omega)] at h1
   have:=World.cell?_spot h1
   simp only [Nat.zero_mul,Addr.add_zero'] at this
   obtain ⟨b,o,sp⟩:=a
   simp only at this
   subst this; rfl
  ·obtain ⟨cs',hc,hv⟩:=hp i u hu
   refine ⟨cs',fun j y hj=>?_,hv⟩
   obtain ⟨_,hlen,hat⟩:=World.cells?_some hc
   have hjl : j < s:=by have:=(List.getElem?_eq_some_iff.1 hj).1; omega
   have h1:=hat j hjl
   rw [hj] at h1
   have hsp : a.spot = none:=by
    have h0:=hat 0 hpos
    rw [List.getElem?_eq_getElem (by omega),Addr.add_zero'] at h0
    have:=World.cell?_spot h0
    unfold Addr.add at this
    split at this
    ·exact this
    ·rename_i hne
     have h0' : 0 < l.length:=by have:=(List.getElem?_eq_some_iff.1 hu).1; omega
     obtain ⟨cs0,hc0,_⟩:=hp 0 _ (List.getElem?_eq_getElem h0')
     obtain ⟨_,hlen0,hat0⟩:=World.cells?_some hc0
     have h3:=hat0 0 hpos
     rw [List.getElem?_eq_getElem (by omega)] at h3
     have:=World.cell?_spot h3
     simpa only [Nat.zero_mul,Addr.add_zero'] using this
   obtain ⟨b,o,sp⟩:=a
   simp only at hsp
   subst hsp
   rw [Addr.add_lit,Addr.add_lit] at h1
   exact h1
end
section
variable {H : Type} {enc : TypeId × Value→H} {w : World} {base : Nat} {spare : Nat→Bool} {held : Bool}
theorem field_of {t : Nat} {fs : Array Field} {fuel : Nat} {cs : List Value} {x : DataW H × List MemPlace} (ht : Tryd.prog.underlying t = some (.struct fs)) (h : DataW.trod enc Tryd.prog w base spare held fuel t cs = some x) (hz : Small Tryd.prog t x.1) :
  ∃ n,cs.length = Tryd.prog.cellsOf t∧∀ (i T off : Nat),(fs[i]?).map (fun f=>(f.type,f.offset)) = some (T,off)→∃ y,DataW.trod enc Tryd.prog w base spare held n T ((cs.drop off).take (Tryd.prog.cellsOf T)) = some y∧Small Tryd.prog T y.1:=by
 obtain ⟨xs,n,_,rfl,hlen,hxl,hf⟩:=DataW.trod_struct ht h
 refine ⟨n,hlen,fun i T off hi=>?_⟩
 obtain ⟨f,hif,e⟩:=Option.map_eq_some_iff.1 hi
 simp only [Prod.mk.injEq] at e
 obtain ⟨rfl,rfl⟩:=e
 have h1:=hf i f hif
 have hlt : i < xs.length:=by rw [hxl]; exact (Array.getElem?_eq_some_iff.1 hif).1
 rw [List.getElem?_eq_getElem hlt] at h1
 refine ⟨_,h1,fun k hk=>hz k ?_⟩
 simp only [DataW.weights,ht]
 exact mem_weightsEach (i:=i) (by simp [hif]) (by simp [List.getElem?_eq_getElem hlt]) hk
theorem cInt : Tryd.prog.cellsOf 3 = 1:=by kernel_rfl
theorem cBool : Tryd.prog.cellsOf 4 = 1:=by kernel_rfl
theorem cStr : Tryd.prog.cellsOf 9 = 1:=by kernel_rfl
theorem cInts : Tryd.prog.cellsOf 43 = 1:=by kernel_rfl
theorem cVal : Tryd.prog.cellsOf 37 = 2:=by kernel_rfl
theorem cVals : Tryd.prog.cellsOf 38 = 1:=by kernel_rfl
theorem cIns : Tryd.prog.cellsOf 40 = 8:=by kernel_rfl
theorem cInss : Tryd.prog.cellsOf 41 = 1:=by kernel_rfl
theorem cPhi : Tryd.prog.cellsOf 68 = 2:=by kernel_rfl
theorem cPhis : Tryd.prog.cellsOf 42 = 1:=by kernel_rfl
theorem cEnd : Tryd.prog.cellsOf 45 = 4:=by kernel_rfl
theorem cBlock : Tryd.prog.cellsOf 47 = 6:=by kernel_rfl
theorem cBlocks : Tryd.prog.cellsOf 31 = 1:=by kernel_rfl
theorem cFunc : Tryd.prog.cellsOf 33 = 4:=by kernel_rfl
theorem cFuncs : Tryd.prog.cellsOf 23 = 1:=by kernel_rfl
theorem cGlobal : Tryd.prog.cellsOf 50 = 3:=by kernel_rfl
theorem cGlobals : Tryd.prog.cellsOf 22 = 1:=by kernel_rfl
theorem cUnit : Tryd.prog.cellsOf 25 = 2:=by kernel_rfl
theorem o_int {fuel : Nat} {cs : List Value} {x : DataW H × List MemPlace} (h : DataW.trod enc Tryd.prog w base spare held fuel 3 cs = some x) : ∃ u,IntV w u cs:=by
 obtain ⟨n,rfl,_,hw⟩:=DataW.trod_int Tryd.underlying3 h
 exact ⟨n,rfl,inI_of_wf hw⟩
theorem o_bool {fuel : Nat} {cs : List Value} {x : DataW H × List MemPlace} (h : DataW.trod enc Tryd.prog w base spare held fuel 4 cs = some x) : ∃ b,cs = [.bool b]:=by
 obtain ⟨b,rfl,_⟩:=DataW.trod_bool Tryd.underlying4 h
 exact ⟨b,rfl⟩
theorem o_val {fuel : Nat} {cs : List Value} {x : DataW H × List MemPlace} (h : DataW.trod enc Tryd.prog w base spare held fuel 37 cs = some x) (hz : Small Tryd.prog 37 x.1) : ∃ u,ValV w u cs:=by
 obtain ⟨n,hl,hf⟩:=field_of Tryd.underlying37 h hz
 rw [cVal] at hl
 match cs,hl with
 | [c0,c1],_ =>
  obtain ⟨y0,h0,z0⟩:=hf 0 4 0 rfl
  obtain ⟨y1,h1,z1⟩:=hf 1 3 1 rfl
  rw [cBool] at h0; rw [cInt] at h1
  obtain ⟨b,hb⟩:=o_bool h0
  obtain ⟨m,hm,hi⟩:=o_int h1
  simp at hb hm
  subst hb hm
  exact ⟨⟨b,m⟩,rfl,hi⟩
theorem o_ints {fuel : Nat} {v : Value} {x : DataW H × List MemPlace} (h : DataW.trod enc Tryd.prog w base spare held fuel 43 [v] = some x) (hz : Small Tryd.prog 43 x.1) : ∃ l,SlAt w v 1 l IntV :=
 open_sl Tryd.underlying43 cInt (by omega) (of_decide_eq_true (by kernel_rfl)) (fun _ _ _ _ hh _=>o_int hh) h hz
theorem o_vals {fuel : Nat} {v : Value} {x : DataW H × List MemPlace} (h : DataW.trod enc Tryd.prog w base spare held fuel 38 [v] = some x) (hz : Small Tryd.prog 38 x.1) : ∃ l,SlAt w v 2 l ValV :=
 open_sl Tryd.underlying38 cVal (by omega) (of_decide_eq_true (by kernel_rfl)) (fun _ _ _ _ hh hz=>o_val hh hz) h hz
theorem o_phi {fuel : Nat} {cs : List Value} {x : DataW H × List MemPlace} (h : DataW.trod enc Tryd.prog w base spare held fuel 68 cs = some x) (hz : Small Tryd.prog 68 x.1) : ∃ u,PhiV w u cs:=by
 obtain ⟨n,hl,hf⟩:=field_of Tryd.underlying68 h hz
 rw [cPhi] at hl
 match cs,hl with
 | [c0,c1],_ =>
  obtain ⟨y0,h0,z0⟩:=hf 0 3 0 rfl
  obtain ⟨y1,h1,z1⟩:=hf 1 38 1 rfl
  rw [cInt] at h0; rw [cVals] at h1
  obtain ⟨m,hm,hi⟩:=o_int h0
  simp at hm
  subst hm
  obtain ⟨l,hs⟩:=o_vals h1 z1
  exact ⟨⟨m,l⟩,c1,rfl,hi,hs⟩
theorem o_ins {fuel : Nat} {cs : List Value} {x : DataW H × List MemPlace} (h : DataW.trod enc Tryd.prog w base spare held fuel 40 cs = some x) (hz : Small Tryd.prog 40 x.1) : ∃ u,InsV w u cs:=by
 obtain ⟨n,hl,hf⟩:=field_of Tryd.underlying40 h hz
 rw [cIns] at hl
 match cs,hl with
 | [c0,c1,c2,c3,c4,c5,c6,c7],_ =>
  obtain ⟨y0,h0,z0⟩:=hf 0 3 0 rfl
  obtain ⟨y1,h1,z1⟩:=hf 1 3 1 rfl
  obtain ⟨y2,h2,z2⟩:=hf 2 37 2 rfl
  obtain ⟨y3,h3,z3⟩:=hf 3 37 4 rfl
  obtain ⟨y4,h4,z4⟩:=hf 4 3 6 rfl
  obtain ⟨y5,h5,z5⟩:=hf 5 38 7 rfl
  rw [cInt] at h0 h1 h4; rw [cVal] at h2 h3; rw [cVals] at h5
  obtain ⟨a0,e0,i0⟩:=o_int h0
  obtain ⟨a1,e1,i1⟩:=o_int h1
  obtain ⟨a2,e2,i2⟩:=o_val h2 z2
  obtain ⟨a3,e3,i3⟩:=o_val h3 z3
  obtain ⟨a4,e4,i4⟩:=o_int h4
  obtain ⟨l,hs⟩:=o_vals h5 z5
  simp at e0 e1 e2 e3 e4
  obtain ⟨e2,e2'⟩:=e2
  obtain ⟨e3,e3'⟩:=e3
  subst e0 e1 e2 e2' e3 e3' e4
  exact ⟨⟨a0,a1,a2,a3,a4,l⟩,c7,rfl,i0,i1,i2,i3,i4,hs⟩
theorem o_phis {fuel : Nat} {v : Value} {x : DataW H × List MemPlace} (h : DataW.trod enc Tryd.prog w base spare held fuel 42 [v] = some x) (hz : Small Tryd.prog 42 x.1) : ∃ l,SlAt w v 2 l PhiV :=
 open_sl Tryd.underlying42 cPhi (by omega) (of_decide_eq_true (by kernel_rfl)) (fun _ _ _ _ hh hz=>o_phi hh hz) h hz
theorem o_inss {fuel : Nat} {v : Value} {x : DataW H × List MemPlace} (h : DataW.trod enc Tryd.prog w base spare held fuel 41 [v] = some x) (hz : Small Tryd.prog 41 x.1) : ∃ l,SlAt w v 8 l InsV :=
 open_sl Tryd.underlying41 cIns (by omega) (of_decide_eq_true (by kernel_rfl)) (fun _ _ _ _ hh hz=>o_ins hh hz) h hz
theorem o_block {fuel : Nat} {cs : List Value} {x : DataW H × List MemPlace} (h : DataW.trod enc Tryd.prog w base spare held fuel 47 cs = some x) (hz : Small Tryd.prog 47 x.1) : ∃ u,BlockV w u cs:=by
 obtain ⟨n,hl,hf⟩:=field_of Tryd.underlying47 h hz
 rw [cBlock] at hl
 match cs,hl with
 | [c0,c1,c2,c3,c4,c5],_ =>
  obtain ⟨y0,h0,z0⟩:=hf 0 42 0 rfl
  obtain ⟨y1,h1,z1⟩:=hf 1 41 1 rfl
  obtain ⟨y2,h2,z2⟩:=hf 2 45 2 rfl
  rw [cPhis] at h0; rw [cInss] at h1; rw [cEnd] at h2
  obtain ⟨lp,sp⟩:=o_phis h0 z0
  obtain ⟨li,si⟩:=o_inss h1 z1
  obtain ⟨m,hm,hg⟩:=field_of Tryd.underlying45 h2 z2
  obtain ⟨z0,k0,zk0⟩:=hg 0 3 0 rfl
  obtain ⟨z1,k1,zk1⟩:=hg 1 37 1 rfl
  obtain ⟨z2,k2,zk2⟩:=hg 2 43 3 rfl
  rw [cInt] at k0; rw [cVal] at k1; rw [cInts] at k2
  obtain ⟨a0,e0,i0⟩:=o_int k0
  obtain ⟨a1,e1,i1⟩:=o_val k1 zk1
  obtain ⟨lt,st⟩:=o_ints k2 zk2
  simp at e0 e1
  obtain ⟨e1,e1'⟩:=e1
  subst e0 e1 e1'
  exact ⟨⟨lp,li,a0,a1,lt⟩,c0,c1,c5,rfl,i0,i1,sp,si,st⟩
theorem o_blocks {fuel : Nat} {v : Value} {x : DataW H × List MemPlace} (h : DataW.trod enc Tryd.prog w base spare held fuel 31 [v] = some x) (hz : Small Tryd.prog 31 x.1) : ∃ l,SlAt w v 6 l BlockV :=
 open_sl Tryd.underlying31 cBlock (by omega) (of_decide_eq_true (by kernel_rfl)) (fun _ _ _ _ hh hz=>o_block hh hz) h hz
theorem o_func {fuel : Nat} {cs : List Value} {x : DataW H × List MemPlace} (h : DataW.trod enc Tryd.prog w base spare held fuel 33 cs = some x) (hz : Small Tryd.prog 33 x.1) : ∃ u,FuncV w u cs:=by
 obtain ⟨n,hl,hf⟩:=field_of Tryd.underlying33 h hz
 rw [cFunc] at hl
 match cs,hl with
 | [c0,c1,c2,c3],_ =>
  obtain ⟨y0,h0,z0⟩:=hf 0 9 0 rfl
  obtain ⟨y1,h1,z1⟩:=hf 1 3 1 rfl
  obtain ⟨y2,h2,z2⟩:=hf 2 3 2 rfl
  obtain ⟨y3,h3,z3⟩:=hf 3 31 3 rfl
  rw [cStr] at h0; rw [cInt] at h1 h2; rw [cBlocks] at h3
  obtain ⟨s,e0,_,_⟩:=DataW.trod_string Tryd.underlying9 h0
  obtain ⟨a1,e1,i1⟩:=o_int h1
  obtain ⟨a2,e2,i2⟩:=o_int h2
  obtain ⟨l,hs⟩:=o_blocks h3 z3
  simp at e0 e1 e2
  subst e0 e1 e2
  exact ⟨⟨s,a1,a2,l⟩,c3,rfl,i1,i2,hs⟩
theorem o_global {fuel : Nat} {cs : List Value} {x : DataW H × List MemPlace} (h : DataW.trod enc Tryd.prog w base spare held fuel 50 cs = some x) (hz : Small Tryd.prog 50 x.1) : ∃ u,GlobalV w u cs:=by
 obtain ⟨n,hl,hf⟩:=field_of Tryd.underlying50 h hz
 rw [cGlobal] at hl
 match cs,hl with
 | [c0,c1,c2],_ =>
  obtain ⟨y0,h0,z0⟩:=hf 0 9 0 rfl
  obtain ⟨y1,h1,z1⟩:=hf 1 3 1 rfl
  obtain ⟨y2,h2,z2⟩:=hf 2 43 2 rfl
  rw [cStr] at h0; rw [cInt] at h1; rw [cInts] at h2
  obtain ⟨s,e0,_,_⟩:=DataW.trod_string Tryd.underlying9 h0
  obtain ⟨a1,e1,i1⟩:=o_int h1
  obtain ⟨l,hs⟩:=o_ints h2 z2
  simp at e0 e1
  subst e0 e1
  exact ⟨⟨s,a1,l⟩,c2,rfl,i1,hs⟩
theorem o_unit {fuel : Nat} {cs : List Value} {x : DataW H × List MemPlace} (h : DataW.trod enc Tryd.prog w base spare held fuel 25 cs = some x) (hz : Small Tryd.prog 25 x.1) : ∃ u,UnitV w u cs:=by
 obtain ⟨n,hl,hf⟩:=field_of Tryd.underlying25 h hz
 rw [cUnit] at hl
 match cs,hl with
 | [c0,c1],_ =>
  obtain ⟨y0,h0,z0⟩:=hf 0 22 0 rfl
  obtain ⟨y1,h1,z1⟩:=hf 1 23 1 rfl
  rw [cGlobals] at h0; rw [cFuncs] at h1
  obtain ⟨lg,sg⟩:=open_sl Tryd.underlying22 cGlobal (by omega) (of_decide_eq_true (by kernel_rfl)) (fun _ _ _ _ hh hz=>o_global hh hz) h0 z0
  obtain ⟨lf,sf⟩:=open_sl Tryd.underlying23 cFunc (by omega) (of_decide_eq_true (by kernel_rfl)) (fun _ _ _ _ hh hz=>o_func hh hz) h1 z1
  exact ⟨⟨lg,lf⟩,c0,c1,rfl,sg,sf⟩
end
theorem own : ownKnob Tryd.prog.godebug = none:=by kernel_rfl
theorem laidOut : laidOutB Tryd.prog = true:=by kernel_rfl
theorem trodAll_below {H : Type} {enc : TypeId × Value→H} {W W' : World} (hb : Below W.heap.size W W') : ∀ (ts : List TypeId) (vs : List Value) (ds : List (DataW H)) (ps : List MemPlace),
  (∀ t ∈ ts,Tryd.prog.readableRec t = true∧t < Tryd.prog.types.size)→DataW.TrodAll enc Tryd.prog W 0 (fun _=>true) true ts vs ds ps→DataW.TrodAll enc Tryd.prog W' 0 (fun b=>decide (b < W.heap.size)) true ts vs ds ps
 | [],vs,ds,ps,_,h=>by obtain ⟨rfl,rfl,rfl⟩:=trodAll_nil h; exact rfl
 | t::ts,vs,ds,ps,hr,h=>by
  obtain ⟨v,vs',d,ds',p,q,rfl,rfl,rfl,h0,h1⟩:=trodAll_cons h
  have lt0 : ∀ x ∈ p,x.block < W.heap.size:=by obtain ⟨m,hm⟩:=h0; exact DataW.trod_lt m _ _ _ hm
  exact ⟨p,q,Below.trod laidOut (hr t (by simp)).1 (hr t (by simp)).2 h0 hb lt0,trodAll_below hb ts vs' ds' q (fun u hu=>hr u (by simp [hu])) h1,rfl⟩
theorem law_post {k : FuncId} {fn : Func} {s : ChangeSpec} {ts : List TypeId} (hp : fn.params.toList = ts) (hres : fn.resultTypes = #[4]) (hvars : s.vars = [])
  (hts : ∀ t ∈ ts,Tryd.prog.readableRec t = true∧t < Tryd.prog.types.size)
  {H : Type} {enc : TypeId × Value→H} {W : World} {args : Array Value} {ds gs : List (DataW H)} {before : List MemPlace}
  (hfn : ds.length = ts.length→s.fn H ds = { results:=[.lit (.bool true)],args:=ds })
  (hW : DataW.Whole enc Tryd.prog fn.params.toList s.vars false W args.toList ds gs before)
  (hwalk : ∀ p,DataW.TrodAll enc Tryd.prog W 0 (fun _=>true) true ts args.toList ds p→RetV Tryd.prog k args.toList W (.bool true)) :
  Calls Tryd.prog k args W fun e W'=>∃ v,e = .returned v∧s.post enc Tryd.prog fn false true false false W args v W':=by
 have hW':=hW
 obtain ⟨p,q,hA,hV,rfl,hfz,hnd⟩:=hW
 rw [hp] at hA
 rw [hvars] at hV
 obtain ⟨rfl,rfl⟩:=trodVars_none hV
 have hlen : ∀ (ts : List TypeId) (vs : List Value) (ds : List (DataW H)) (ps : List MemPlace),DataW.TrodAll enc Tryd.prog W 0 (fun _=>true) true ts vs ds ps→ds.length = ts.length:=by
  intro ts
  induction ts with
  | nil=>intro vs ds ps h; obtain ⟨_,rfl,_⟩:=trodAll_nil h; rfl
  | cons t ts ih=>intro vs ds ps h; obtain ⟨v,vs',d,ds',p,q,rfl,rfl,rfl,h0,h1⟩:=trodAll_cons h; simp [ih _ _ _ h1]
 have hs:=hfn (hlen _ _ _ _ hA)
 have h3 : Calls Tryd.prog k args W fun e w'=>∃ u,e = .returned u∧u = .bool true∧Chg NoS W w':=by
  have:=callsIn_wide.1 (hwalk _ hA)
  simpa using this
 refine h3.mono fun e W' ⟨u,he,hu,hc⟩=>?_
 subst hu
 refine ⟨_,he,ds,[],_,[],p,[],hW',?_,?_,?_,hc.below.frame _,fun h=>by cases h⟩
 ·rw [List.append_nil,hs,hres]
  exact trodAll_mk1 (shut_bool Tryd.underlying4 _)
 ·rw [List.append_nil,hs,hp]
  exact trodAll_below hc.below _ _ _ _ hts hA
 ·rw [List.append_nil,hs,hvars]
  exact rfl
end Go.Proofs.YtdbljcahlpkgdaaDoor
namespace Go.Proofs.YtdbljcahlpkgdaaDoor
open Go Go.RowKit Go.ChangeShapes Go.WideShapes Go.ChangeAt
set_option maxRecDepth 100000
def waysLaid : List (String × DataW Unit) := [("turnery/code.ways", Rows.laid_turnery_code_ways)]
theorem gWays : Tryd.prog.globalNamed "turnery/code.ways" = some 0 := by kernel_rfl
theorem gWaysType : (Tryd.prog.globals[0]?).map (·.type) = some 100:=by kernel_rfl
theorem cWays : Tryd.prog.cellsOf 100 = 4:=by kernel_rfl
theorem ways_of {W : World} (h : laidMetH Tryd.prog waysLaid W) : CellsAt W 0 0 waysC:=by
 have ht : Lib.TabIs Tryd.prog W "turnery/code.ways" .i64 [0, 0, 1, 2] := Lib.tabIs_of_head (rest := []) gWays gWaysType Tryd.underlying100 Tryd.underlying3 cInt cWays h
 intro j v hj
 rw [Nat.zero_add]
 match j,hj with
 | 0,hj=>simp only [waysC,List.getElem?_cons_zero,Option.some.injEq] at hj; subst hj; exact ht.cell gWays 0 (by decide)
 | 1,hj=>simp only [waysC,List.getElem?_cons_succ,List.getElem?_cons_zero,Option.some.injEq] at hj; subst hj; exact ht.cell gWays 1 (by decide)
 | 2,hj=>simp only [waysC,List.getElem?_cons_succ,List.getElem?_cons_zero,Option.some.injEq] at hj; subst hj; exact ht.cell gWays 2 (by decide)
 | 3,hj=>simp only [waysC,List.getElem?_cons_succ,List.getElem?_cons_zero,Option.some.injEq] at hj; subst hj; exact ht.cell gWays 3 (by decide)
 | j + 4,hj=>simp [waysC] at hj
theorem sized_all {l : List Nat} (h : l.all (· ≤ reachBytes) = true) : ∀ k ∈ l,k ≤ reachBytes:=by
 intro k hk
 have:=List.all_eq_true.1 h k hk
 simpa using this
noncomputable def laidWorld (os : Os) : World :=
 { World.holding Tryd.prog os ⟨#[],#[],[]⟩ with heap:=(World.holding Tryd.prog os ⟨#[],#[],[]⟩).heap.modify 0 fun
   | .cells _ t frozen=>.cells #[.int .i64 0,.int .i64 0,.int .i64 1,.int .i64 2] t frozen
   | o=>o }
theorem laid_met (os : Os) (args : Array Value) : laidMet Tryd.prog waysLaid ((laidWorld os).forCall (fun _ _=>0) ⟨#[],args,[]⟩).memory :=
 laidMet_of_run' 8 (by kernel_rfl) (by kernel_rfl)
theorem open_u {H : Type} {enc : TypeId × Value→H} {W : World} {args : Array Value} {ds : List (DataW H)} {p : List MemPlace} {base : Nat} {params : Array TypeId} (hp : params = #[25])
  (h1 : ∀ (j : Nat) t v,params[j]? = some t→args[j]? = some v→Value.okWide Tryd.prog W .any base t v)
  (hA : DataW.TrodAll enc Tryd.prog W 0 (fun _=>true) true [25] args.toList ds p) (hz : ∀ k ∈ DataW.weightsEach Tryd.prog [25] ds,k ≤ reachBytes) :
  ∃ (u : LUnit) (g fs : Value),args = #[.agg #[g,fs]]∧SlAt W g 3 u.globals GlobalV∧SlAt W fs 4 u.funcs FuncV:=by
 subst hp
 obtain ⟨v0,vs0,d0,ds0,p0,q0,hargs,rfl,rfl,h0,r0⟩:=trodAll_cons hA
 obtain ⟨rfl,rfl,rfl⟩:=trodAll_nil r0
 obtain rfl : args = #[v0]:=by cases args; simp_all
 obtain ⟨cs0,rfl,_⟩:=okWide_struct Tryd.underlying25 (h1 0 25 v0 rfl rfl)
 obtain ⟨f0,k0⟩:=h0
 obtain ⟨cs0⟩:=cs0
 have hz0 : Small Tryd.prog 25 d0:=fun k hk=>hz k (mem_weightsEach (i:=0) rfl rfl hk)
 obtain ⟨u,g,f,e0,hg,hf⟩:=o_unit k0 hz0
 simp only [Value.cells] at e0
 subst e0
 exact ⟨u,g,f,rfl,hg,hf⟩
def argsU : Array Value:=#[.agg #[.slice none 0 0,.slice none 0 0]]
end Go.Proofs.YtdbljcahlpkgdaaDoor

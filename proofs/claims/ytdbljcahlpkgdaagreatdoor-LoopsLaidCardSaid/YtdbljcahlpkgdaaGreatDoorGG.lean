/- Texts joined: DomP Mul Cut DomA Hold. -/
import Derived.Laws.Bits64b
import Derived.Laws.CopyRow
import Derived.Laws.IdiomCopy
import Derived.Lib.Mul64
import Derived.Tactics
import Derived.Test.YtdbljcahlpkgdaaGreatDoorGA
import Derived.Test.YtdbljcahlpkgdaaGreatDoorGB
import Derived.Test.YtdbljcahlpkgdaaGreatDoorGD
namespace Go.Proofs.YtdbljcahlpkgdaaGreatDoor
open Go Go.RowKit
theorem dfs_seg (bl : List LBlock) (hok : GoodB bl) : ∀ (f b : Nat) (st : List Bool × List Nat),st.1[b]? = some false →
  ∃ N,(dfs bl f b st).2 = st.2++N∧N.Nodup∧(∀ x ∈ N,st.1[x]? = some false∧(dfs bl f b st).1[x]? = some true)∧(0 < f→∃ N',N = N'++[b])∧∀ (i x : Nat),N[i]? = some x→x ≠ b→∃ j p,i < j∧N[j]? = some p∧Edge bl p x
 | 0,b,st,hb=>⟨[],by simp [dfs],by simp,by simp,by simp,by simp⟩
 | f + 1,b,st,hb=>by
  have key : ∀ (l : List Nat),(∀ t ∈ l,Edge bl b t)→∀ st1 : List Bool × List Nat,
    ∃ N,(l.foldl (vstep bl f) st1).2 = st1.2++N∧N.Nodup∧(∀ x ∈ N,st1.1[x]? = some false∧(l.foldl (vstep bl f) st1).1[x]? = some true)∧∀ (i x : Nat),N[i]? = some x→Edge bl b x ∨ ∃ j p,i < j∧N[j]? = some p∧Edge bl p x:=by
   intro l
   induction l with
   | nil=>exact fun _ st1=>⟨[],by simp,by simp,by simp,by simp⟩
   | cons t l ih =>
    intro hl st1
    simp only [List.foldl_cons]
    obtain ⟨N2,h1,h2,h3,h4⟩:=ih (fun t' ht'=>hl t' (List.mem_cons_of_mem _ ht')) (vstep bl f st1 t)
    rcases vstep_cases (bl:=bl) (f:=f) (t:=t) (st:=st1) with e|⟨hf,e⟩
    ·rw [e] at h1 h3 ⊢
     exact ⟨N2,h1,h2,h3,h4⟩
    ·obtain ⟨N1,g1,g2,g3,g4,g5⟩:=dfs_seg bl hok f t st1 hf
     rw [e] at h1 h3 ⊢
     refine ⟨N1++N2,by rw [h1,g1,List.append_assoc],?_,?_,?_⟩
     ·refine List.nodup_append.2 ⟨g2,h2,fun x hx y hy e'=>?_⟩
      subst e'
      have:=(g3 x hx).2
      rw [(h3 x hy).1] at this
      cases this
     ·intro x hx
      rcases List.mem_append.1 hx with hx|hx
      ·exact ⟨(g3 x hx).1,(vsteps_grows bl f _ l).2.1 x (g3 x hx).2⟩
      ·refine ⟨?_,(h3 x hx).2⟩
       have h:=(h3 x hx).1
       cases hq : st1.1[x]? with
       | none =>
        have h5:=(dfs_grows bl f t st1 hf).1
        have h6:=(List.getElem?_eq_some_iff.1 h).1
        rw [List.getElem?_eq_none_iff] at hq
        omega
       | some v =>
        cases v with
        | false=>rfl
        | true =>
         have:=(dfs_grows bl f t st1 hf).2.1 x hq
         rw [h] at this
         cases this
     ·intro i x hx
      by_cases hi : i < N1.length
      ·rw [List.getElem?_append_left hi] at hx
       by_cases hxt : x = t
       ·subst hxt; exact .inl (hl x (by simp))
       ·obtain ⟨j,p,hj,hp,he⟩:=g5 i x hx hxt
        refine .inr ⟨j,p,hj,?_,he⟩
        rw [List.getElem?_append_left (List.getElem?_eq_some_iff.1 hp).1]
        exact hp
      ·rw [List.getElem?_append_right (by omega)] at hx
       rcases h4 _ x hx with h|⟨j,p,hj,hp,he⟩
       ·exact .inl h
       ·refine .inr ⟨N1.length + j,p,by omega,?_,he⟩
        rw [List.getElem?_append_right (by omega),show N1.length + j - N1.length = j by omega]
        exact hp
  obtain ⟨N,h1,h2,h3,h4⟩:=key ((toOf bl b).reverse.map Int.toNat) (fun t ht=>by
   obtain ⟨z,hz,rfl⟩:=List.mem_map.1 ht
   have hz : z ∈ toOf bl b:=by simpa using hz
   unfold Edge
   rw [hok.nat hz]; exact hz) (st.1.set b true,st.2)
  have hlt:=(List.getElem?_eq_some_iff.1 hb).1
  have hbN : b ∉ N:=fun hm=>by
   have:=(h3 b hm).1
   simp [hlt] at this
  rw [dfs_succ]
  refine ⟨N++[b],by simp only; rw [h1,List.append_assoc],?_,?_,fun _=>⟨N,rfl⟩,?_⟩
  ·refine List.nodup_append.2 ⟨h2,by simp,fun x hx y hy e'=>?_⟩
   simp only [List.mem_singleton] at hy
   exact hbN (by rw [← hy,← e']; exact hx)
  ·intro x hx
   rcases List.mem_append.1 hx with hx|hx
   ·have:=h3 x hx
    refine ⟨?_,this.2⟩
    have h:=this.1
    simp only [List.getElem?_set] at h
    by_cases e' : b = x
    ·subst e'; exact absurd hx hbN
    ·rw [if_neg e'] at h; exact h
   ·simp only [List.mem_singleton] at hx
    subst hx
    exact ⟨hb,(vsteps_grows bl f _ _).2.1 x (by simp [hlt])⟩
  ·intro i x hx hxb
   by_cases hi : i < N.length
   ·rw [List.getElem?_append_left hi] at hx
    rcases h4 i x hx with h|⟨j,p,hj,hp,he⟩
    ·exact ⟨N.length,b,hi,by simp,h⟩
    ·refine ⟨j,p,hj,?_,he⟩
     rw [List.getElem?_append_left (List.getElem?_eq_some_iff.1 hp).1]
     exact hp
   ·rw [List.getElem?_append_right (by omega)] at hx
    have:=(List.getElem?_eq_some_iff.1 hx).1
    simp only [List.length_singleton] at this
    rw [show i - N.length = 0 by omega] at hx
    simp at hx
    exact absurd hx.symm hxb
def orderL (bl : List LBlock) : List Nat:=(postL bl).reverse
theorem postL_seg {bl : List LBlock} (hok : GoodB bl) (h0 : 0 < bl.length) : (postL bl).Nodup∧(∃ N',postL bl = N'++[0])∧∀ (i x : Nat),(postL bl)[i]? = some x→x ≠ 0→∃ j p,i < j∧(postL bl)[j]? = some p∧Edge bl p x:=by
 obtain ⟨N,h1,h2,_,h4,h5⟩:=dfs_seg bl hok bl.length 0 (List.replicate bl.length false,[]) (by simp [h0])
 have e : postL bl = N:=by unfold postL; rw [h1]; rfl
 rw [e]
 exact ⟨h2,h4 h0,h5⟩
structure Ord (bl : List LBlock) (l : List Nat) : Prop where
 nodup : l.Nodup
 mem : ∀ x,x ∈ l ↔ Rch bl (-1) 0 x
 zero : l[0]? = some 0
 ahead : ∀ (i x : Nat),l[i]? = some x→x ≠ 0→∃ j p,j < i∧l[j]? = some p∧Edge bl p x
theorem orderL_ord {bl : List LBlock} (hok : GoodB bl) (h0 : 0 < bl.length) : Ord bl (orderL bl):=by
 obtain ⟨h1,⟨N',h2⟩,h3⟩:=postL_seg hok h0
 refine ⟨by unfold orderL; exact (List.reverse_perm _).nodup_iff.2 h1,fun x=>by unfold orderL; rw [List.mem_reverse]; exact postL_mem hok h0,by unfold orderL; rw [h2]; simp,fun i x hx hx0=>?_⟩
 unfold orderL at hx ⊢
 have hi:=(List.getElem?_eq_some_iff.1 hx).1
 rw [List.length_reverse] at hi
 rw [List.getElem?_reverse hi] at hx
 obtain ⟨j,p,hj,hp,he⟩:=h3 _ x hx hx0
 have hjl:=(List.getElem?_eq_some_iff.1 hp).1
 refine ⟨(postL bl).length - 1 - j,p,by omega,?_,he⟩
 rw [List.getElem?_reverse (by omega),show (postL bl).length - 1 - ((postL bl).length - 1 - j) = j by omega]
 exact hp
def Dom (bl : List LBlock) (a b : Nat) : Prop:=Rch bl (-1) 0 a∧Rch bl (-1) 0 b∧(a = b ∨ a = 0 ∨ ¬ Rch bl a 0 b)
theorem Rch.all {bl : List LBlock} {wo : Int} {a b : Nat} (h : Rch bl wo a b) : Rch bl (-1) a b:=by
 induction h with
 | refl=>exact .refl
 | step _ he _ ih=>exact ih.step he (by omega)
theorem Dom.refl {bl : List LBlock} {b : Nat} (h : Rch bl (-1) 0 b) : Dom bl b b:=⟨h,h,.inl rfl⟩
theorem Dom.edge {bl : List LBlock} {a b p : Nat} (h : Dom bl a b) (hab : a ≠ b) (he : Edge bl p b) (hp : Rch bl (-1) 0 p) : Dom bl a p:=by
 refine ⟨h.1,hp,?_⟩
 rcases h.2.2 with e|e|e
 ·exact absurd e hab
 ·exact .inr (.inl e)
 ·refine .inr (.inr fun hr=>e (hr.step he (by omega)))
theorem dom_closed {bl : List LBlock} {D : Nat→Nat→Prop} (h0 : ∀ a,D a 0→a = 0) (hs : ∀ a b p,b ≠ 0→D a b→Rch bl (-1) 0 p→Edge bl p b→a = b ∨ D a p) {a b : Nat} (ha : Rch bl (-1) 0 a) (hb : Rch bl (-1) 0 b) (h : D a b) : Dom bl a b:=by
 refine ⟨ha,hb,?_⟩
 by_cases e0 : a = 0
 ·exact .inr (.inl e0)
 by_cases e : a = b
 ·exact .inl e
 refine .inr (.inr fun hr=>?_)
 have key : ∀ x,Rch bl a 0 x→¬ D a x:=by
  intro x hx
  induction hx with
  | refl=>exact fun hd=>e0 (h0 a hd)
  | @step x y hx' he hw ih =>
   intro hd
   by_cases hy : y = 0
   ·subst hy; exact e0 (h0 a hd)
   ·rcases hs a y x hy hd hx'.all he with h1|h1
    ·exact hw (by omega)
    ·exact ih h1
 exact key b hr h
def IDom (bl : List LBlock) (c b : Nat) : Prop:=Dom bl c b∧c ≠ b∧∀ a,Dom bl a b→a ≠ b→Dom bl a c
theorem Dom.antisymm {bl : List LBlock} {a b : Nat} (h : Dom bl a b) (k : Dom bl b a) : a = b:=by
 -- along a shortest way to a there is no b,else a would stand before it
 by_cases e : a = b
 ·exact e
 exfalso
 have key : ∀ x,Rch bl (-1) 0 x→(Rch bl a 0 x∧Rch bl b 0 x) ∨ (Rch bl a 0 b) ∨ (Rch bl b 0 a) ∨ a = 0 ∨ b = 0:=by
  intro x hx
  induction hx with
  | refl=>exact .inl ⟨.refl,.refl⟩
  | @step x y hx' he hw ih =>
   rcases ih with ⟨h1,h2⟩|h
   ·by_cases ea : y = a
    ·subst ea; exact .inr (.inr (.inl (h2.step he (by omega))))
    ·by_cases eb : y = b
     ·subst eb; exact .inr (.inl (h1.step he (by omega)))
     ·exact .inl ⟨h1.step he (by omega),h2.step he (by omega)⟩
   ·exact .inr h
 have z0 : ∀ c,Dom bl c 0→c = 0:=fun c hc=>by
  rcases hc.2.2 with e|e|e
  ·exact e
  ·exact e
  ·exact absurd .refl e
 have f1 : a ≠ 0:=fun e0=>by subst e0; exact e (z0 b k).symm
 have f2 : b ≠ 0:=fun e0=>by subst e0; exact e (z0 a h)
 have g1 : ¬ Rch bl a 0 b:=(h.2.2.resolve_left e).resolve_left f1
 have g2 : ¬ Rch bl b 0 a:=(k.2.2.resolve_left (Ne.symm e)).resolve_left f2
 rcases key a h.1 with ⟨_,h2⟩|h|h|h|h
 ·exact g2 h2
 ·exact g1 h
 ·exact g2 h
 ·exact f1 h
 ·exact f2 h
theorem IDom.uniq {bl : List LBlock} {b c d : Nat} (h : IDom bl c b) (k : IDom bl d b) : c = d:=(k.2.2 c h.1 h.2.1).antisymm (h.2.2 d k.1 k.2.1)
open Classical in
noncomputable def treeN (bl : List LBlock) (b : Nat) : Int:=if h : ∃ c,IDom bl c b then (Classical.choose h : Nat) else -1
theorem treeN_eq {bl : List LBlock} {b c : Nat} (h : IDom bl c b) : treeN bl b = c:=by
 have hx : ∃ c,IDom bl c b:=⟨c,h⟩
 unfold treeN
 rw [dif_pos hx,(Classical.choose_spec hx).uniq h]
theorem treeN_none {bl : List LBlock} {b : Nat} (h : ∀ c,¬ IDom bl c b) : treeN bl b = -1:=by
 unfold treeN
 rw [dif_neg fun ⟨c,hc⟩=>h c hc]
def Pr (up : List Int) (b : Nat) : Prop:=∃ c : Nat,up[b]? = some (c : Int)
inductive Anc (up : List Int) (a : Nat) : Nat→Prop
 | refl : Anc up a a
 | up {b c : Nat} : b ≠ 0→up[b]? = some (c : Int)→Anc up a c→Anc up a b
theorem Anc.trans {up : List Int} {a b c : Nat} (h : Anc up a b) (k : Anc up b c) : Anc up a c:=by
 induction k with
 | refl=>exact h
 | up h0 he _ ih=>exact .up h0 he ih
def rk (l : List Nat) (b : Nat) : Nat:=l.idxOf b
theorem rk_get {l : List Nat} (hn : l.Nodup) {i x : Nat} (h : l[i]? = some x) : rk l x = i:=by
 obtain ⟨hi,rfl⟩:=List.getElem?_eq_some_iff.1 h
 exact List.Nodup.idxOf_getElem hn i hi
theorem get_rk {l : List Nat} {x : Nat} (h : x ∈ l) : l[rk l x]? = some x:=by
 have hi : l.idxOf x < l.length:=List.idxOf_lt_length_iff.2 h
 unfold rk
 rw [List.getElem?_eq_getElem hi,List.getElem_idxOf hi]
theorem rk_inj {l : List Nat} {x y : Nat} (hx : x ∈ l) (hy : y ∈ l) (h : rk l x = rk l y) : x = y:=by
 have h1:=get_rk hx
 rw [h,get_rk hy] at h1
 simpa using h1.symm
inductive Fwd (bl : List LBlock) (l : List Nat) (a : Nat) : Nat→Prop
 | refl : Fwd bl l a a
 | step {x y : Nat} : Fwd bl l a x→Edge bl x y→rk l x < rk l y→Fwd bl l a y
theorem Fwd.trans {bl : List LBlock} {l : List Nat} {a b c : Nat} (h : Fwd bl l a b) (k : Fwd bl l b c) : Fwd bl l a c:=by
 induction k with
 | refl=>exact h
 | step _ he hr ih=>exact ih.step he hr
theorem Fwd.le {bl : List LBlock} {l : List Nat} {a b : Nat} (h : Fwd bl l a b) : rk l a ≤ rk l b:=by
 induction h with
 | refl=>exact Nat.le_refl _
 | step _ _ hr ih=>omega
theorem Fwd.dom {bl : List LBlock} {l : List Nat} {a c v : Nat} (hf : Fwd bl l c v) (ha : rk l a < rk l c) (hc : Rch bl (-1) 0 c) (h : Dom bl a v) : Dom bl a c:=by
 induction hf with
 | refl=>exact h
 | @step x y hx he hr ih =>
  have:=hx.le
  have hrx : Rch bl (-1) 0 x:=by
   clear ih h
   clear he hr this
   induction hx with
   | refl=>exact hc
   | step _ he _ ih=>exact ih.step he (by omega)
  exact ih (h.edge (fun e=>by subst e; omega) he hrx)
structure Inv (bl : List LBlock) (l : List Nat) (up : List Int) (k : Nat) : Prop where
 len : up.length = bl.length
 zero : up[0]? = some 0
 val : ∀ b c : Nat,up[b]? = some (c : Int)→b ∈ l∧c ∈ l∧(b ≠ 0→rk l c < rk l b∧Pr up c)
 neg : ∀ (b : Nat) (z : Int),up[b]? = some z→z = -1 ∨ 0 ≤ z
 fwd : ∀ b c : Nat,b ≠ 0→up[b]? = some (c : Int)→Fwd bl l c b
 low : ∀ b c : Nat,b ≠ 0→up[b]? = some (c : Int)→∀ y,(∀ p,Edge bl p b→Pr up p→Anc up y p)→rk l y ≤ rk l c
 sound : ∀ b a,Pr up b→Dom bl a b→Anc up a b
 past : ∀ b ∈ l,rk l b < k→Pr up b
 phase : (∀ b ∈ l,Pr up b) ∨ ∀ b,Pr up b→rk l b < k
 done : ∀ v ∈ l,v ≠ 0→rk l v < k→∀ p,Edge bl p v→p ∈ l→rk l p < rk l v→∀ y,Anc up y v→y = v ∨ Anc up y p
theorem rk_zero {bl : List LBlock} {l : List Nat} (ho : Ord bl l) : rk l 0 = 0:=rk_get ho.nodup ho.zero
theorem Inv.pr_mem {bl : List LBlock} {l : List Nat} {up : List Int} {k b : Nat} (h : Inv bl l up k) (hp : Pr up b) : b ∈ l:=hp.elim fun c hc=>(h.val b c hc).1
theorem Inv.anc_le {bl : List LBlock} {l : List Nat} {up : List Int} {k a b : Nat} (h : Inv bl l up k) (ha : Anc up a b) : rk l a ≤ rk l b:=by
 induction ha with
 | refl=>exact Nat.le_refl _
 | up h0 he _ ih=>have:=((h.val _ _ he).2.2 h0).1; omega
theorem Inv.anc_pr {bl : List LBlock} {l : List Nat} {up : List Int} {k a b : Nat} (h : Inv bl l up k) (ha : Anc up a b) (hb : Pr up b) : Pr up a:=by
 induction ha with
 | refl=>exact hb
 | up h0 he _ ih=>exact ih ((h.val _ _ he).2.2 h0).2
theorem Inv.anc_fwd {bl : List LBlock} {l : List Nat} {up : List Int} {k a b : Nat} (h : Inv bl l up k) (ha : Anc up a b) : Fwd bl l a b:=by
 induction ha with
 | refl=>exact .refl
 | up h0 he _ ih=>exact ih.trans (h.fwd _ _ h0 he)
def MeetIs (up : List Int) (a b z : Nat) : Prop:=Pr up z∧∀ y,Anc up y z ↔ (Anc up y a∧Anc up y b)
theorem Inv.meet_up {bl : List LBlock} {l : List Nat} {up : List Int} {k a b : Nat} (ho : Ord bl l) (h : Inv bl l up k) (ha : Pr up a) (hb : Pr up b) (hne : a ≠ b) (hr : rk l b ≤ rk l a) :
  ∃ c : Nat,up[a]? = some (c : Int)∧Pr up c∧rk l c < rk l a∧∀ z,MeetIs up c b z→MeetIs up a b z:=by
 obtain ⟨c,hc⟩:=ha
 have hv:=h.val a c hc
 have hlt : rk l b < rk l a:=Nat.lt_of_le_of_ne hr fun e=>hne (rk_inj hv.1 (h.pr_mem hb) e.symm)
 have ha0 : a ≠ 0:=fun e=>by subst e; have:=rk_zero ho; omega
 refine ⟨c,hc,(hv.2.2 ha0).2,(hv.2.2 ha0).1,fun z hz=>⟨hz.1,fun y=>(hz.2 y).trans ⟨fun ⟨h1,h2⟩=>⟨.up ha0 hc h1,h2⟩,fun ⟨h1,h2⟩=>⟨?_,h2⟩⟩⟩⟩
 cases h1 with
 | refl=>have:=h.anc_le h2; omega
 | @up _ c' _ he h3 =>
  rw [hc] at he
  have : c = c':=by have:=Option.some.inj he; omega
  rw [this]; exact h3
theorem meet_self {up : List Int} {a : Nat} (ha : Pr up a) : MeetIs up a a a:=⟨ha,fun _=>⟨fun h=>⟨h,h⟩,fun h=>h.1⟩⟩
theorem MeetIs.comm {up : List Int} {a b z : Nat} (h : MeetIs up a b z) : MeetIs up b a z:=⟨h.1,fun y=>(h.2 y).trans And.comm⟩
def BestOf (up : List Int) (ps : List Nat) (z : Int) : Prop:=(z = -1∧∀ p ∈ ps,¬ Pr up p) ∨ ∃ c : Nat,z = c∧Pr up c∧(∃ p ∈ ps,Pr up p)∧∀ y,Anc up y c ↔ ∀ p ∈ ps,Pr up p→Anc up y p
theorem bestOf_nil (up : List Int) : BestOf up [] (-1):=.inl ⟨rfl,by simp⟩
theorem BestOf.pass {up : List Int} {ps : List Nat} {z : Int} {p : Nat} (h : BestOf up ps z) (hp : ¬ Pr up p) : BestOf up (ps++[p]) z:=by
 rcases h with ⟨rfl,h⟩|⟨c,rfl,h1,⟨q,hq,hqp⟩,h3⟩
 ·refine .inl ⟨rfl,fun q hq=>?_⟩
  rcases List.mem_append.1 hq with hq|hq
  ·exact h q hq
  ·rw [List.mem_singleton.1 hq]; exact hp
 ·refine .inr ⟨c,rfl,h1,⟨q,List.mem_append_left _ hq,hqp⟩,fun y=>(h3 y).trans ⟨fun h q hq hqp=>?_,fun h q hq=>h q (List.mem_append_left _ hq)⟩⟩
  rcases List.mem_append.1 hq with hq|hq
  ·exact h q hq hqp
  ·rw [List.mem_singleton.1 hq] at hqp; exact absurd hqp hp
theorem BestOf.first {up : List Int} {ps : List Nat} {z : Int} {p : Nat} (h : BestOf up ps z) (hz : z < 0) (hp : Pr up p) : BestOf up (ps++[p]) p:=by
 rcases h with ⟨rfl,h⟩|⟨c,rfl,_⟩
 ·refine .inr ⟨p,rfl,hp,⟨p,by simp,hp⟩,fun y=>⟨fun hy q hq hqp=>?_,fun h=>h p (by simp) hp⟩⟩
  rcases List.mem_append.1 hq with hq|hq
  ·exact absurd hqp (h q hq)
  ·rw [List.mem_singleton.1 hq]; exact hy
 ·omega
theorem BestOf.pr {up : List Int} {ps : List Nat} {z : Int} (h : BestOf up ps z) (hz : 0 ≤ z) : ∃ c : Nat,z = c∧Pr up c:=by
 rcases h with ⟨rfl,_⟩|⟨c,rfl,h1,_⟩
 ·omega
 ·exact ⟨c,rfl,h1⟩
theorem BestOf.meet {up : List Int} {ps : List Nat} {c p z : Nat} (h : BestOf up ps c) (hp : Pr up p) (hm : MeetIs up c p z) : BestOf up (ps++[p]) z:=by
 rcases h with ⟨h,_⟩|⟨c',e,h1,⟨q,hq,hqp⟩,h3⟩
 ·omega
 ·have : c = c':=by omega
  subst this
  refine .inr ⟨z,rfl,hm.1,⟨q,List.mem_append_left _ hq,hqp⟩,fun y=>(hm.2 y).trans ⟨fun ⟨ha,hb⟩ q hq hqp=>?_,fun h=>⟨(h3 y).2 fun q hq=>h q (List.mem_append_left _ hq),h p (by simp) hp⟩⟩⟩
  rcases List.mem_append.1 hq with hq|hq
  ·exact (h3 y).1 ha q hq hqp
  ·rw [List.mem_singleton.1 hq]; exact hb
theorem Inv.step {bl : List LBlock} {l : List Nat} {up : List Int} {k b z : Nat} (hok : GoodB bl) (h0 : 0 < bl.length) (ho : Ord bl l) (h : Inv bl l up k) (hk : 0 < k) (hb : l[k]? = some b) (hz : Pr up z)
  (hall : ∀ y,Anc up y z ↔ ∀ p,Edge bl p b→Pr up p→Anc up y p) :
  Inv bl l (up.set b (z : Int)) (k + 1)∧(∀ c : Nat,up[b]? = some (c : Int)→c ≠ z→rk l z < rk l c)∧(∀ v,Pr (up.set b (z : Int)) v ↔ (Pr up v ∨ v = b)):=by
 have hrb : rk l b = k:=rk_get ho.nodup hb
 have hbl : b ∈ l:=List.mem_of_getElem? hb
 have hb0 : b ≠ 0:=fun e=>by subst e; have:=rk_zero ho; omega
 have hlt : b < up.length:=by rw [h.len]; exact hok.rch h0 ((ho.mem b).1 hbl)
 have hne : ∀ v,v ≠ b→(up.set b (z : Int))[v]? = up[v]?:=fun v hv=>by rw [List.getElem?_set,if_neg (Ne.symm hv)]
 have heq : (up.set b (z : Int))[b]? = some (z : Int):=by rw [List.getElem?_set,if_pos rfl,if_pos hlt]
 have hpr : ∀ v,Pr (up.set b (z : Int)) v ↔ (Pr up v ∨ v = b):=fun v=>by
  by_cases e : v = b
  ·subst e; exact ⟨fun _=>.inr rfl,fun _=>⟨z,heq⟩⟩
  ·unfold Pr; rw [hne v e]
   exact ⟨.inl,fun h=>h.resolve_right e⟩
 -- some block ahead of it in the order has been looked at
 obtain ⟨q,hq,hqk,hqe⟩ : ∃ q,q ∈ l∧rk l q < k∧Edge bl q b:=by
  obtain ⟨j,q,hj,hqj,hqe⟩:=ho.ahead k b hb hb0
  exact ⟨q,List.mem_of_getElem? hqj,by rw [rk_get ho.nodup hqj]; exact hj,hqe⟩
 have hqp : Pr up q:=h.past q hq hqk
 have hzq : Anc up z q:=(hall z).1 .refl q hqe hqp
 have hrz : rk l z < k:=by have:=h.anc_le hzq; omega
 -- the old one rules in the table what the new one does
 have hold : ∀ c : Nat,up[b]? = some (c : Int)→Anc up z c:=by
  intro c hc
  have hlow:=h.low b c hb0 hc z ((hall z).1 .refl)
  have hv:=h.val b c hc
  by_cases e : z = c
  ·subst e; exact .refl
  have hlt : rk l z < rk l c:=Nat.lt_of_le_of_ne hlow fun e'=>e (rk_inj (h.pr_mem hz) hv.2.1 e')
  have key : ∀ v,Fwd bl l c v→v ∈ l→rk l v < k→Anc up z v→Anc up z c:=by
   intro v hf
   induction hf with
   | refl=>exact fun _ _ h=>h
   | @step x y hx he hr ih =>
    intro hy hyk hzy
    have hx0 : y ≠ 0:=fun e=>by subst e; have:=rk_zero ho; omega
    have hxl : x ∈ l:=by
     rw [ho.mem]
     have hc':=(ho.mem c).1 hv.2.1
     clear ih hzy hy hyk hr he hx0
     induction hx with
     | refl=>exact hc'
     | step _ he _ ih=>exact ih.step he (by omega)
    rcases h.done y hy hx0 hyk x he hxl hr z hzy with e'|h2
    ·subst e'; have:=hx.le; omega
    ·exact ih hxl (by omega) h2
  -- the last step of the way on from c to b
  have hf:=h.fwd b c hb0 hc
  cases hf with
  | refl=>have:=(hv.2.2 hb0).1; omega
  | @step x _ hx he hr =>
   have hxl : x ∈ l:=by
    rw [ho.mem]
    have hc':=(ho.mem c).1 hv.2.1
    clear hr he
    induction hx with
    | refl=>exact hc'
    | step _ he _ ih=>exact ih.step he (by omega)
   exact key x hx hxl (by omega) ((hall z).1 .refl x he (h.past x hxl (by omega)))
 have shrink : ∀ y v,Pr up v→Anc (up.set b (z : Int)) y v→Anc up y v:=by
  intro y v hv hyv
  induction hyv with
  | refl=>exact .refl
  | @up v c hv0 he _ ih =>
   by_cases e : v = b
   ·subst e
    rw [heq] at he
    have e' : c = z:=by have:=Option.some.inj he; omega
    subst e'
    obtain ⟨c0,hc0⟩:=hv
    exact .up hv0 hc0 ((ih hz).trans (hold c0 hc0))
   ·rw [hne v e] at he
    exact .up hv0 he (ih ((h.val v c he).2.2 hv0).2)
 have below : ∀ y v,rk l v < k→Anc up y v→Anc (up.set b (z : Int)) y v:=by
  intro y v hv hyv
  induction hyv with
  | refl=>exact .refl
  | @up v c hv0 he _ ih =>
   have e : v ≠ b:=fun e=>by subst e; omega
   exact .up hv0 (by rw [hne v e]; exact he) (ih (by have:=((h.val v c he).2.2 hv0).1; omega))
 have hself : ∀ y,Anc (up.set b (z : Int)) y b→y = b ∨ Anc up y z:=by
  intro y hy
  cases hy with
  | refl=>exact .inl rfl
  | @up _ c _ he h2 =>
   rw [heq] at he
   have e' : c = z:=by have:=Option.some.inj he; omega
   subst e'
   exact .inr (shrink y c hz h2)
 refine ⟨⟨by rw [List.length_set]; exact h.len,by rw [hne 0 (Ne.symm hb0)]; exact h.zero,?_,?_,?_,?_,?_,?_,?_,?_⟩,?_,hpr⟩
 ·intro v c hc
  by_cases e : v = b
  ·subst e
   rw [heq] at hc
   have e' : c = z:=by have:=Option.some.inj hc; omega
   subst e'
   exact ⟨hbl,h.pr_mem hz,fun _=>⟨by omega,(hpr c).2 (.inl hz)⟩⟩
  ·rw [hne v e] at hc
   have:=h.val v c hc
   exact ⟨this.1,this.2.1,fun hv=>⟨(this.2.2 hv).1,(hpr c).2 (.inl (this.2.2 hv).2)⟩⟩
 ·intro v y hy
  by_cases e : v = b
  ·subst e
   rw [heq] at hy
   have : y = (z : Int):=by simpa using hy.symm
   omega
  ·rw [hne v e] at hy; exact h.neg v y hy
 ·intro v c hv hc
  by_cases e : v = b
  ·subst e
   rw [heq] at hc
   have e' : c = z:=by have:=Option.some.inj hc; omega
   subst e'
   exact (h.anc_fwd hzq).step hqe (by omega)
  ·rw [hne v e] at hc; exact h.fwd v c hv hc
 ·intro v c hv hc y hy
  by_cases e : v = b
  ·subst e
   rw [heq] at hc
   have e' : c = z:=by have:=Option.some.inj hc; omega
   subst e'
   exact h.anc_le ((hall y).2 fun p he hp=>shrink y p hp (hy p he ((hpr p).2 (.inl hp))))
  ·rw [hne v e] at hc
   exact h.low v c hv hc y fun p he hp=>shrink y p hp (hy p he ((hpr p).2 (.inl hp)))
 · -- who rules is there
  have hbz : ∀ a,Dom bl a b→a = b ∨ Anc up a z:=by
   intro a ha
   by_cases e : a = b
   ·exact .inl e
   ·exact .inr ((hall a).2 fun p he hp=>h.sound p a hp (ha.edge e he ((ho.mem p).1 (h.pr_mem hp))))
  have hbz' : ∀ a,Dom bl a b→Anc (up.set b (z : Int)) a b:=by
   intro a ha
   rcases hbz a ha with e|e
   ·subst e; exact .refl
   ·exact .up hb0 heq (below a z hrz e)
  intro v a hv ha
  rcases (hpr v).1 hv with hv|e
  ·have hav:=h.sound v a hv ha
   clear hv
   induction hav with
   | refl=>exact .refl
   | @up v c hv0 he hac ih =>
    by_cases e : v = b
    ·subst e; exact hbz' a ha
    ·refine .up hv0 (by rw [hne v e]; exact he) ?_
     by_cases e' : a = c
     ·subst e'; exact .refl
     ·have hvv:=h.val v c he
      have hlt : rk l a < rk l c:=Nat.lt_of_le_of_ne (h.anc_le hac) fun e2=>e' (rk_inj ((ho.mem a).2 ha.1) hvv.2.1 e2)
      have hd:=(h.fwd v c hv0 he).dom hlt ((ho.mem c).1 hvv.2.1) ha
      exact ih ((hpr c).2 (.inl (hvv.2.2 hv0).2)) hd
  ·subst e; exact hbz' a ha
 ·intro v hv hvk
  by_cases e : v = b
  ·exact (hpr v).2 (.inr e)
  ·exact (hpr v).2 (.inl (h.past v hv (Nat.lt_of_le_of_ne (by omega) fun e'=>e (rk_inj hv hbl (by omega)))))
 ·rcases h.phase with h1|h1
  ·exact .inl fun v hv=>(hpr v).2 (.inl (h1 v hv))
  ·refine .inr fun v hv=>?_
   rcases (hpr v).1 hv with hv|e
   ·have:=h1 v hv; omega
   ·subst e; omega
 ·intro v hv hv0 hvk p he hp hr y hy
  by_cases e : v = b
  ·subst e
   rcases hself y hy with e'|h2
   ·exact .inl e'
   ·exact .inr (below y p (by omega) ((hall y).1 h2 p he (h.past p hp (by omega))))
  ·have hvk' : rk l v < k:=Nat.lt_of_le_of_ne (by omega) fun e'=>e (rk_inj hv hbl (by omega))
   rcases h.done v hv hv0 hvk' p he hp hr y (shrink y v (h.past v hv hvk') hy) with e'|h2
   ·exact .inl e'
   ·exact .inr (below y p (by omega) h2)
 ·intro c hc hcz
  have hac:=hold c hc
  exact Nat.lt_of_le_of_ne (h.anc_le hac) fun e'=>hcz (rk_inj (h.pr_mem hz) (h.val b c hc).2.1 e').symm
theorem inv_start {bl : List LBlock} {l : List Nat} (h0 : 0 < bl.length) (ho : Ord bl l) : Inv bl l ((List.replicate bl.length (-1)).set 0 0) 1:=by
 have hg : ∀ (b : Nat) (z : Int),((List.replicate bl.length (-1 : Int)).set 0 0)[b]? = some z→(b = 0∧z = 0) ∨ z = -1:=by
  intro b z h
  rw [List.getElem?_set] at h
  split at h
  ·rename_i e
   split at h
   ·exact .inl ⟨e.symm,(Option.some.inj h).symm⟩
   ·cases h
  ·rw [List.getElem?_replicate] at h
   split at h
   ·exact .inr (Option.some.inj h).symm
   ·cases h
 have hp : ∀ b c : Nat,((List.replicate bl.length (-1 : Int)).set 0 0)[b]? = some (c : Int)→b = 0∧c = 0:=by
  intro b c h
  rcases hg b c h with ⟨h1,h2⟩|h2 <;> omega
 have hz : ((List.replicate bl.length (-1 : Int)).set 0 0)[0]? = some 0:=by simp [h0]
 have h0l : 0 ∈ l:=List.mem_of_getElem? ho.zero
 refine ⟨by simp,hz,fun b c h=>?_,fun b z h=>?_,fun b c hb h=>absurd (hp b c h).1 hb,fun b c hb h=>absurd (hp b c h).1 hb,fun b a ⟨c,h⟩ ha=>?_,fun b hb hr=>?_,.inr fun b ⟨c,h⟩=>?_,fun v hv hv0 hr=>?_⟩
 ·obtain ⟨rfl,rfl⟩:=hp b c h
  exact ⟨h0l,h0l,fun h=>absurd rfl h⟩
 ·rcases hg b z h with ⟨_,h⟩|h <;> omega
 ·obtain ⟨rfl,rfl⟩:=hp b c h
  rcases ha.2.2 with e|e|e
  ·subst e; exact .refl
  ·subst e; exact .refl
  ·exact absurd .refl e
 ·have e : b = 0:=rk_inj hb h0l (by have:=rk_zero ho; omega)
  subst e
  exact ⟨0,hz⟩
 ·have:=(hp b c h).1
  subst this
  have:=rk_zero ho; omega
 ·exact absurd (rk_inj hv h0l (by have:=rk_zero ho; omega)) hv0
theorem Inv.again {bl : List LBlock} {l : List Nat} {up : List Int} (ho : Ord bl l) (h : Inv bl l up l.length) : Inv bl l up 1:=by
 have hall : ∀ b ∈ l,Pr up b:=fun b hb=>h.past b hb (List.idxOf_lt_length_iff.2 hb)
 exact ⟨h.len,h.zero,h.val,h.neg,h.fwd,h.low,h.sound,fun b hb _=>hall b hb,.inl hall,fun v hv hv0 hr=>absurd (rk_inj hv (List.mem_of_getElem? ho.zero) (by have:=rk_zero ho; omega)) hv0⟩
def Full (bl : List LBlock) (up : List Int) (v : Nat) : Prop:=∀ p,Edge bl p v→Pr up p→∀ y,Anc up y v→y = v ∨ Anc up y p
theorem Inv.full {bl : List LBlock} {l : List Nat} {up : List Int} {k b z : Nat} (_h : Inv bl l up k) (_hb0 : b ≠ 0) (hc : up[b]? = some (z : Int)) (hall : ∀ y,Anc up y z ↔ ∀ p,Edge bl p b→Pr up p→Anc up y p) : Full bl up b:=by
 intro p he hp y hy
 cases hy with
 | refl=>exact .inl rfl
 | @up _ c _ hc' h2 =>
  rw [hc] at hc'
  have e : z = c:=by have:=Option.some.inj hc'; omega
  subst e
  exact .inr ((hall y).1 h2 p he hp)
def weight (l : List Nat) (n : Nat) (z : Int) : Nat:=if z < 0 then n else rk l z.toNat
def mass (l : List Nat) (n : Nat) (up : List Int) : Nat:=(up.map (weight l n)).sum
theorem sum_set : ∀ (l : List Nat) (i x y : Nat),l[i]? = some x→(l.set i y).sum + x = l.sum + y
 | [],i,x,y,h=>by simp at h
 | a::l,0,x,y,h=>by simp at h ⊢; omega
 | a::l,i + 1,x,y,h=>by
  have:=sum_set l i x y (by simpa using h)
  simp only [List.set_cons_succ,List.sum_cons]
  omega
theorem mass_set {l : List Nat} {n : Nat} {up : List Int} {b : Nat} {x z : Int} (hb : up[b]? = some x) (h : weight l n z < weight l n x) : mass l n (up.set b z) < mass l n up:=by
 unfold mass
 rw [List.map_set]
 have:=sum_set (up.map (weight l n)) b (weight l n x) (weight l n z) (by rw [List.getElem?_map,hb]; rfl)
 omega
theorem Inv.falls {bl : List LBlock} {l : List Nat} {up : List Int} {k b z : Nat} {x : Int} (h : Inv bl l up k) (hz : Pr up z) (hb : up[b]? = some x) (hne : x ≠ (z : Int)) (hold : ∀ c : Nat,up[b]? = some (c : Int)→c ≠ z→rk l z < rk l c) : mass l l.length (up.set b (z : Int)) < mass l l.length up:=by
 refine mass_set hb ?_
 have hzl : rk l z < l.length:=List.idxOf_lt_length_iff.2 (h.pr_mem hz)
 unfold weight
 rw [if_neg (by omega)]
 rcases h.neg b x hb with e|e
 ·rw [if_pos (by omega)]; simpa using hzl
 ·rw [if_neg (by omega)]
  obtain ⟨c,rfl⟩ : ∃ c : Nat,x = c:=⟨x.toNat,by omega⟩
  simpa using hold c hb (by omega)
theorem Inv.tree {bl : List LBlock} {l : List Nat} {up : List Int} (ho : Ord bl l) (h : Inv bl l up l.length) (hfull : ∀ v ∈ l,v ≠ 0→Full bl up v) :
  up.set 0 (-1) = (List.range bl.length).map (treeN bl):=by
 have hall : ∀ b ∈ l,Pr up b:=fun b hb=>h.past b hb (List.idxOf_lt_length_iff.2 hb)
 have hanc : ∀ a b,b ∈ l→Anc up a b→Dom bl a b:=by
  intro a b hb hab
  refine dom_closed (D:=fun a b=>Anc up a b) (fun a ha=>?_) (fun a b p hb0 hab hp he=>?_) ((ho.mem a).1 (h.pr_mem (h.anc_pr hab (hall b hb)))) ((ho.mem b).1 hb) hab
  ·cases ha with
   | refl=>rfl
   | up h0=>exact absurd rfl h0
  ·have hpl:=(ho.mem p).2 hp
   have hbl : b ∈ l:=(ho.mem b).2 (hp.step he (by omega))
   exact hfull b hbl hb0 p he (hall p hpl) a hab
 apply List.ext_getElem?
 intro b
 by_cases hb : b < bl.length
 ·have hbu : b < up.length:=by rw [h.len]; exact hb
  rw [List.getElem?_map,List.getElem?_range hb,Option.map_some]
  by_cases hb0 : b = 0
  ·subst hb0
   rw [List.getElem?_set,if_pos rfl,if_pos hbu,treeN_none]
   intro c hc
   refine hc.2.1 ?_
   rcases hc.1.2.2 with e|e|e
   ·exact e
   ·exact e
   ·exact absurd .refl e
  ·rw [List.getElem?_set,if_neg (Ne.symm hb0)]
   by_cases hbl : b ∈ l
   ·obtain ⟨c,hc⟩:=hall b hbl
    have hv:=h.val b c hc
    rw [hc,treeN_eq (c:=c)]
    refine ⟨hanc c b hbl (.up hb0 hc .refl),fun e=>by subst e; have:=(hv.2.2 hb0).1; omega,fun a ha hab=>?_⟩
    have hx:=h.sound b a (hall b hbl) ha
    cases hx with
    | refl=>exact absurd rfl hab
    | @up _ c' _ hc' h2 =>
     rw [hc] at hc'
     have e : c = c':=by have:=Option.some.inj hc'; omega
     subst e
     exact hanc a c hv.2.1 h2
   ·rw [treeN_none fun c hc=>hbl ((ho.mem b).2 hc.1.2.1)]
    obtain ⟨z,hz⟩ : ∃ z,up[b]? = some z:=⟨_,List.getElem?_eq_getElem hbu⟩
    rw [hz]
    rcases h.neg b z hz with e|e
    ·rw [e]
    ·exact absurd (h.val b z.toNat (by rw [hz]; congr 1; omega)).1 hbl
 ·rw [List.getElem?_eq_none (by rw [List.length_set,h.len]; omega),List.getElem?_eq_none (by simp; omega)]
theorem Dom.trans {bl : List LBlock} {a c b : Nat} (h : Dom bl a c) (k : Dom bl c b) : Dom bl a b:=by
 by_cases eac : a = c
 ·subst eac; exact k
 by_cases ecb : c = b
 ·subst ecb; exact h
 refine ⟨h.1,k.2.1,?_⟩
 by_cases ea : a = 0
 ·exact .inr (.inl ea)
 refine .inr (.inr fun hr=>?_)
 have ec : c ≠ 0:=fun e=>by
  subst e
  rcases h.2.2 with e|e|e
  ·exact eac e
  ·exact ea e
  ·exact e .refl
 have h1 : ¬ Rch bl a 0 c:=(h.2.2.resolve_left eac).resolve_left ea
 have h2 : ¬ Rch bl c 0 b:=(k.2.2.resolve_left ecb).resolve_left ec
 have key : ∀ x,Rch bl a 0 x→Rch bl c 0 x ∨ Rch bl a 0 c:=by
  intro x hx
  induction hx with
  | refl=>exact .inl .refl
  | @step x y hx' he hw ih =>
   rcases ih with ih|ih
   ·by_cases e : y = c
    ·subst e; exact .inr (hx'.step he hw)
    ·exact .inl (ih.step he (by omega))
   ·exact .inr ih
 rcases key b hr with h|h
 ·exact h2 h
 ·exact h1 h
theorem Dom.chain {bl : List LBlock} {a c b : Nat} (h : Dom bl a b) (k : Dom bl c b) : Dom bl a c ∨ Dom bl c a:=by
 by_cases eab : a = b
 ·subst eab; exact .inr k
 by_cases ecb : c = b
 ·subst ecb; exact .inl h
 by_cases ea : a = 0
 ·exact .inl ⟨h.1,k.1,.inr (.inl ea)⟩
 by_cases ec : c = 0
 ·exact .inr ⟨k.1,h.1,.inr (.inl ec)⟩
 by_cases e1 : Rch bl a 0 c
 ·by_cases e2 : Rch bl c 0 a
  ·exfalso
   have h1 : ¬ Rch bl a 0 b:=(h.2.2.resolve_left eab).resolve_left ea
   have h2 : ¬ Rch bl c 0 b:=(k.2.2.resolve_left ecb).resolve_left ec
   have key : ∀ x,Rch bl (-1) 0 x→(Rch bl a 0 x∧Rch bl c 0 x) ∨ Rch bl c a x ∨ Rch bl a c x:=by
    intro x hx
    induction hx with
    | refl=>exact .inl ⟨.refl,.refl⟩
    | @step x y _ he _ ih =>
     by_cases ya : y = a
     ·subst ya; exact .inr (.inl .refl)
     by_cases yc : y = c
     ·subst yc; exact .inr (.inr .refl)
     rcases ih with ⟨g1,g2⟩|g|g
     ·exact .inl ⟨g1.step he (by omega),g2.step he (by omega)⟩
     ·exact .inr (.inl (g.step he (by omega)))
     ·exact .inr (.inr (g.step he (by omega)))
   rcases key b h.2.1 with ⟨g,_⟩|g|g
   ·exact h1 g
   ·exact h2 (e2.trans g)
   ·exact h1 (e1.trans g)
  ·exact .inr ⟨k.1,h.1,.inr (.inr e2)⟩
 ·exact .inl ⟨h.1,k.1,.inr (.inr e1)⟩
theorem dom_zero {bl : List LBlock} {a : Nat} (h : Dom bl a 0) : a = 0:=by
 rcases h.2.2 with e|e|e
 ·exact e
 ·exact e
 ·exact absurd .refl e
theorem idom_ex {bl : List LBlock} {b : Nat} (hok : GoodB bl) (h0 : 0 < bl.length) (hb : Rch bl (-1) 0 b) (hb0 : b ≠ 0) : ∃ c,IDom bl c b:=by
 have key : ∀ m,(∀ c,c < m→c ≠ b→¬ Dom bl c b) ∨ ∃ x,x < m∧x ≠ b∧Dom bl x b∧∀ c,c < m→c ≠ b→Dom bl c b→Dom bl c x:=by
  intro m
  induction m with
  | zero=>exact .inl fun c hc=>by omega
  | succ m ih =>
   by_cases hm : m ≠ b∧Dom bl m b
   ·rcases ih with ih|⟨x,hx,hxb,hd,hall⟩
    ·refine .inr ⟨m,by omega,hm.1,hm.2,fun c hc hcb hcd=>?_⟩
     by_cases e : c = m
     ·subst e; exact .refl hcd.1
     ·exact absurd hcd (ih c (by omega) hcb)
    ·rcases hd.chain hm.2 with g|g
     ·refine .inr ⟨m,by omega,hm.1,hm.2,fun c hc hcb hcd=>?_⟩
      by_cases e : c = m
      ·subst e; exact .refl hcd.1
      ·exact (hall c (by omega) hcb hcd).trans g
     ·refine .inr ⟨x,by omega,hxb,hd,fun c hc hcb hcd=>?_⟩
      by_cases e : c = m
      ·subst e; exact g
      ·exact hall c (by omega) hcb hcd
   ·have hno : ∀ c,c < m + 1→c ≠ b→Dom bl c b→c < m:=fun c hc hcb hcd=>by
     have : c ≠ m:=fun e=>by subst e; exact hm ⟨hcb,hcd⟩
     omega
    rcases ih with ih|⟨x,hx,hxb,hd,hall⟩
    ·exact .inl fun c hc hcb hcd=>ih c (hno c hc hcb hcd) hcb hcd
    ·exact .inr ⟨x,by omega,hxb,hd,fun c hc hcb hcd=>hall c (hno c hc hcb hcd) hcb hcd⟩
 rcases key bl.length with h|⟨x,_,hxb,hd,hall⟩
 ·exact absurd ⟨.refl,hb,.inr (.inl rfl)⟩ (h 0 h0 (Ne.symm hb0))
 ·exact ⟨x,hd,hxb,fun a ha hab=>hall a (hok.rch h0 ha.1) hab ha⟩
theorem IDom.iff {bl : List LBlock} {a b c : Nat} (h : IDom bl c b) : Dom bl a b ↔ (Dom bl a c ∨ a = b):=by
 refine ⟨fun ha=>?_,fun ha=>ha.elim (fun h1=>h1.trans h.1) fun e=>by subst e; exact .refl h.1.2.1⟩
 by_cases e : a = b
 ·exact .inr e
 ·exact .inl (h.2.2 a ha e)
open Classical in
noncomputable def domTo (bl : List LBlock) (b n : Nat) : List Nat:=(List.range n).filter fun c=>decide (Dom bl c b)
open Classical in
theorem domTo_cnt (bl : List LBlock) (b n : Nat) : (domTo bl b n).length = cnt (fun c=>Dom bl c b) n:=rfl
theorem idom_has {bl : List LBlock} (hok : GoodB bl) (h0 : 0 < bl.length) {b c : Nat} (h : IDom bl c b) : (domTo bl c bl.length).length + 1 = (domTo bl b bl.length).length:=by
 classical
 have hb:=hok.rch h0 h.1.2.1
 rw [domTo_cnt,domTo_cnt]
 exact (cnt_one (b:=b) (fun hd=>h.2.1 (h.1.antisymm hd)) hb fun a _=>h.iff).symm
theorem domTo_mem {bl : List LBlock} {b n c : Nat} : c ∈ domTo bl b n ↔ (c < n∧Dom bl c b):=by
 classical
 unfold domTo
 simp
end Go.Proofs.YtdbljcahlpkgdaaGreatDoor
namespace Go.Proofs.YtdbljcahlpkgdaaGreatDoor
open Go Go.RowKit Go.Lib
namespace Mul
theorem maskN (a : Nat) (ha : a < 18446744073709551616) : bits .and .u64 (a : Int) 4294967295 = ((a % 4294967296 : Nat) : Int):=by
 have h:=bits_and_u64_nat a 4294967295 ha (by omega)
 have e : a &&& 4294967295 = a % 4294967296:=Nat.and_two_pow_sub_one_eq_mod a 32
 rw [e] at h
 exact h
theorem divN (a : Nat) : (a : Int) / 4294967296 = ((a / 4294967296 : Nat) : Int):=by omega
theorem mulN (a b : Nat) : (a : Int) * (b : Int) = ((a * b : Nat) : Int):=(Int.natCast_mul a b).symm
theorem addN (a b : Nat) : (a : Int) + (b : Int) = ((a + b : Nat) : Int):=(Int.natCast_add a b).symm
theorem wrapN (a : Nat) (ha : a < 18446744073709551616) : IntKind.u64.wrap (a : Int) = (a : Int):=by rw [IntKind.wrap_u64]; omega
theorem wrapM (a : Nat) : IntKind.u64.wrap (a : Int) = ((a % 18446744073709551616 : Nat) : Int):=by rw [IntKind.wrap_u64]; omega
end Mul
set_option maxHeartbeats 1000000 in
theorem mul64_c (x y : Nat) (hx : x < 18446744073709551616) (hy : y < 18446744073709551616) (w : World) :
  Calls Tryz.prog 125 #[.int .u64 x,.int .u64 y] w fun e w'=>e = .returned (.tuple #[.int .u64 ((x * y / 18446744073709551616 : Nat) : Int),.int .u64 ((x * y % 18446744073709551616 : Nat) : Int)])∧w' = w:=by
 obtain ⟨bd,bt,bw,hhi⟩:=Lib.mul64_hi x y hx hy
 have ba:=Lib.half_mul_le (a:=x / 4294967296) (b:=y / 4294967296) (by omega) (by omega)
 have bb:=Lib.half_mul_le (a:=x / 4294967296) (b:=y % 4294967296) (by omega) (by omega)
 have bc:=Lib.half_mul_le (a:=x % 4294967296) (b:=y / 4294967296) (by omega) (by omega)
 have ba' : x / 4294967296 * (y / 4294967296) < 18446744073709551616:=by omega
 have bb' : x / 4294967296 * (y % 4294967296) < 18446744073709551616:=by omega
 have bc' : x % 4294967296 * (y / 4294967296) < 18446744073709551616:=by omega
 have bh1 : x / 4294967296 * (y / 4294967296) + (x / 4294967296 * (y % 4294967296) + x % 4294967296 * (y % 4294967296) / 4294967296) / 4294967296 < 18446744073709551616:=by omega
 have bh : x / 4294967296 * (y / 4294967296) + (x / 4294967296 * (y % 4294967296) + x % 4294967296 * (y % 4294967296) / 4294967296) / 4294967296 + ((x / 4294967296 * (y % 4294967296) + x % 4294967296 * (y % 4294967296) / 4294967296) % 4294967296 + x % 4294967296 * (y / 4294967296)) / 4294967296 < 18446744073709551616:=by omega
 go_enter Tryz.func125,Tryz.ntmps125
 go_wp2
 simp only [Mul.maskN x hx,Mul.maskN y hy,Mul.divN,Mul.mulN,Mul.addN,Mul.wrapN _ bd,Mul.wrapN _ bb',Mul.wrapN _ bt,Mul.maskN _ bt,Mul.wrapN _ bc',Mul.wrapN _ bw,Mul.wrapN _ ba',Mul.wrapN _ bh1,Mul.wrapN _ bh,Mul.wrapM (x * y)]
 rw [hhi]
 go_ret2
 exact ⟨rfl,rfl⟩
instance : EnterOk Tryz.prog 125:=⟨Tryz.call125⟩
instance : EnterOk Tryz.prog 104:=⟨Tryz.call104⟩
attribute [local irreducible] wpListIn Code.wpIn Exit.then Exit.inBlock bodyPost wpQuiet wpAnyIn
theorem mul_c (x y : Nat) (hx : x < 18446744073709551616) (hy : y < 18446744073709551616) (hxy : x * y < 18446744073709551616) (w : World) :
  RetV Tryz.prog 104 [.int .u64 x,.int .u64 y] w (.tuple #[.int .u64 0,.int .u64 ((x * y : Nat) : Int)]):=by
 have h64 : ∀ w : World,Calls Tryz.prog 125 #[.int .u64 x,.int .u64 y] w fun e w'=>e = .returned (.tuple #[.int .u64 0,.int .u64 ((x * y : Nat) : Int)])∧w' = w:=by
  intro w
  have h:=mul64_c x y hx hy w
  rw [Nat.div_eq_of_lt hxy,Nat.mod_eq_of_lt hxy] at h
  exact h
 clear hx hy hxy
 refine ret_enter Tryz.func104 rfl Tryz.ntmps104 rfl (Wd.nil NoS w) ?_
 repeat (first|refine g_op rfl ?_|refine g_then ?_|refine g_nil ?_|refine g_region ?_|refine g_seq ?_|refine g_skip ?_|refine g_condF ?_)
 refine g_callV (u:=.tuple #[.int .u64 0,.int .u64 ((x * y : Nat) : Int)]) rfl (fun w' _=>callsIn_wide.2 ((h64 w').mono fun e w2 he=>⟨_,he.1,rfl,by rw [he.2]; exact Chg.refl _ _⟩)) ?_
 repeat (first|refine g_op rfl ?_|refine g_then ?_|refine g_nil ?_|refine g_region ?_|refine g_seq ?_|refine g_opS rfl ?_|refine g_ret ?_)
 exact g_ret2 rfl fun _ hw=>⟨rfl,hw.chg⟩
end Go.Proofs.YtdbljcahlpkgdaaGreatDoor
namespace Go.Proofs.YtdbljcahlpkgdaaGreatDoor
open Go Go.RowKit
class ConvI (P : Program) (S T : Nat) (q : outParam IntKind) : Prop where
 src : (P.underlying S).isSome = true
 dst : P.underlying T = some (.int (P.intKind T))
 kind : P.intKind T = q
class CutOk (lo n c : Nat) : Prop where
 le : lo ≤ n
 lt : lo < c
class CutHi (hi c : Nat) : Prop where
 le : hi ≤ c
section
variable {P : Program} {ro : Option Nat} {N : Nat} {ds : List Deferred} {S : Nat→Prop} {w0 : World} {L : List (Nat × Value)} {H H1 H2 : List Ent} {ops : Array Oper} {rest : List Oper} {Q : Exit→Act→World→Prop} {p : Act→World→Prop} {x y : Operand}
theorem g_conv {d ty A B : Nat} {k q : IntKind} {n : Int} {pos : String} {aft : Array Go.Edge} [hx : Ev L x (.int k n)] [h : ConvI P A B q] (hd : okPut d N L = true) (hw : q.wrap n = n)
  (kk : G N ds S w0 ((d,.int q n)::L) H (wpListIn (FW ro) 0 P ops Q rest)) : G N ds S w0 L H (wpListIn (FW ro) 0 P ops Q (⟨some d,.convert A B x,ty,pos,aft,none⟩::rest)) :=
 fun a w hS=>step_val (v:=.int q n) (w':=w) rfl (fun _ h=>by cases h) (by simp [execOp,hx.eq _ _ _ hS.fr,run_convert_int w A B k n h.src h.dst,h.kind,hw]) (kk _ _ ⟨hS.fr.putOk hd _,hS.wd⟩)
instance {T b o n c s lo : Nat} [hx : Ev L x (.slice (some ⟨b,o,none⟩) n c)] [hl : Ev L y (.int .i64 (lo : Int))] [h : ElemSize P T s] [hc : CutOk lo n c] : RunsC P N ds S w0 L H (.slice T x (some y) none none) (.slice (some ⟨b,o + lo * s,none⟩) (n - lo) (c - lo)) :=
 ⟨fun _ h=>(by cases h),fun _ _ h=>(by cases h),fun _ _ _ _ _ a w hF _=>by
  have hr:=run_slice_l (P:=P) w T (some ⟨b,o,none⟩) n c h.und .i64 lo (by omega) (by have:=hc.le; omega)
  have hne : ¬ c = lo:=by have:=hc.lt; omega
  simp [execOp,hx.eq _ _ _ hF,hl.eq _ _ _ hF,run_sliceAt_slice (P:=P) w T _ _ _ _ h.und,hr,h.sz,sliced,hne,Addr.add_lit]⟩
instance {T n c s hi : Nat} {ad : Option Addr} [hx : Ev L x (.slice ad n c)] [hl : Ev L y (.int .i64 (hi : Int))] [h : ElemSize P T s] [hc : CutHi hi c] : RunsC P N ds S w0 L H (.slice T x none (some y) none) (.slice ad hi c) :=
 ⟨fun _ h=>(by cases h),fun _ _ h=>(by cases h),fun _ _ _ _ _ a w hF _=>by
  have hr:=run_slice_h (P:=P) w T ad n c h.und .i64 hi (by omega) (by have:=hc.le; omega)
  have hz : (if c = 0 then ad else ad.map fun q=>q.add (0 * s)) = ad:=by
   by_cases h0 : c = 0
   ·rw [if_pos h0]
   ·rw [if_neg h0]; cases ad <;> simp [Addr.add]
  simp only [Nat.zero_mul] at hz
  simp [execOp,hx.eq _ _ _ hF,hl.eq _ _ _ hF,run_sliceAt_slice (P:=P) w T _ _ _ _ h.und,hr,h.sz,sliced,hz]⟩
theorem g_cutTail {d ty T s n c : Nat} {ad : Option Addr} {pos : String} {aft : Array Go.Edge} [hx : Ev L x (.slice ad n c)] [h : ElemSize P T s] (hd : okPut d N L = true) (hn : 0 < n)
  (kk : ∀ a',(∀ b o,1 < c→ad = some ⟨b,o,none⟩→a' = some ⟨b,o + s,none⟩)→G N ds S w0 ((d,.slice a' (n - 1) (c - 1))::L) H (wpListIn (FW ro) 0 P ops Q rest)) : G N ds S w0 L H (wpListIn (FW ro) 0 P ops Q (⟨some d,.slice T x (some (.const (.int .i64 1))) none none,ty,pos,aft,none⟩::rest)):=fun a w hS=>by
 have hr:=run_slice_l (P:=P) w T ad n c h.und .i64 1 (by omega) (by omega)
 have ec : a.eval (.const (.int .i64 1)) = .int .i64 1:=rfl
 refine step_val (v:=.slice (if c = 1 then ad else ad.map (·.add s)) (n - 1) (c - 1)) (w':=w) rfl (fun _ h=>by cases h) ?_ ?_
 ·simp [execOp,hx.eq _ _ _ hS.fr,ec,run_sliceAt_slice (P:=P) w T _ _ _ _ h.und,hr,h.sz,sliced]
 ·refine kk _ (fun b o h1 e=>?_) _ _ ⟨hS.fr.putOk hd _,hS.wd⟩
  subst e
  rw [if_neg (by omega)]
  simp [Addr.add_lit]
theorem g_copy {d ty dT sT e by' b o off n c dl dc sl sc sb so : Nat} {z : Value} (k : Nat) {xs : List Value} (cs : List Value) {pos : String} {aft : Array Go.Edge} [h : ElemInfo P dT e 1 by' [z]] [hx : Ev L x (.slice (some ⟨b,o + off,none⟩) dl dc)] [hy : Ev L y (.slice (some ⟨sb,so,none⟩) sl sc)]
  (hk : H[k]? = some (Ent.vec (some ⟨b,o,none⟩) n c e 1 xs)) (hd : okPut d N L = true) (hn : cs.length = min sl dl) (hsrc : ∀ w,Wd S w0 H w→∀ j v,cs[j]? = some v→w.cell? ⟨sb,so + j,none⟩ = some v) (hfit : off + cs.length ≤ xs.length) (h1 : ∀ v ∈ cs,v.oneCell' = true)
  (kk : G N ds S w0 ((d,.int .i64 cs.length)::L) (H.set k (Ent.vec (some ⟨b,o,none⟩) n c e 1 (xs.take off++cs++xs.drop (off + cs.length)))) (wpListIn (FW ro) 0 P ops Q rest)) : G N ds S w0 L H (wpListIn (FW ro) 0 P ops Q (⟨some d,.call { callee:=.builtin .copy,args:=#[x,y],argTypes:=#[dT,sT] },ty,pos,aft,none⟩::rest)):=fun a w hS=>by
 obtain ⟨hl,hnc,hcm,pre,sp,rfl,hsp,hb⟩:=hS.wd.vecAt hk
 obtain ⟨i,zz,hi,_,_,hi1,_⟩:=h.get
 have hlt : b < w.heap.size:=(Array.getElem?_eq_some_iff.1 hb).1
 have hr:=run_copy_row (P:=P) w dT sT ty e b (pre.length + off) dl dc ⟨sb,so,none⟩ sl sc _ e cs h.und (by rw [hi]; simp [hi1]) hb hn (fun j v hj=>by rw [Addr.add_lit]; exact hsrc w hS.wd j v hj) (by simp; omega) h1
 have hrow : (pre++xs++sp).take (pre.length + off)++cs++(pre++xs++sp).drop (pre.length + off + cs.length) = pre++(xs.take off++cs++xs.drop (off + cs.length))++sp:=by
  rw [List.append_assoc pre xs sp,List.take_length_add_append,Nat.add_assoc,List.drop_length_add_append,List.take_append_of_le_length (by omega),List.drop_append_of_le_length (by omega)]
  simp
 simp only at hr
 rw [hrow] at hr
 refine step_val (v:=.int .i64 cs.length) (w':=w.setRow b (pre++(xs.take off++cs++xs.drop (off + cs.length))++sp).toArray) rfl (fun _ h=>by cases h) ?_ ?_
 ·simp [execOp,resolve,invoke,builtin,hx.eq _ _ _ hS.fr,hy.eq _ _ _ hS.fr,hr,goInt]
 ·refine kk _ _ ⟨hS.fr.putOk hd _,?_⟩
  have hsz : ∀ q : Array Value,(w.setRow b q).heap.size = w.heap.size:=fun q=>by simp [World.setRow]
  refine hS.wd.turnAt hk ⟨rfl,rfl,rfl,by rw [hsz]; exact Nat.le_refl _,fun j _ hj=>setRow_other w b j _ fun e'=>hj (by simp [Ent.vec,e'])⟩ (fun b' hb'=>?_) fun w2 hw2=>?_
  ·simp only [Ent.vec,Option.map_some,Option.some.injEq] at hb' ⊢
   subst hb'
   exact ⟨.inl rfl,by rw [hsz]; exact hlt⟩
  ·have:=hw2 b (by simp [Ent.vec])
   refine ⟨?_,.inr ⟨b,pre,sp,rfl,hnc,hcm,hsp,?_⟩⟩
   ·simp only [List.length_append,List.length_take,List.length_drop]; omega
   ·rw [this]
    exact setRow_heap w b _ _ e _ hb
end
end Go.Proofs.YtdbljcahlpkgdaaGreatDoor
namespace Go.Proofs.YtdbljcahlpkgdaaGreatDoor
open Go Go.RowKit
attribute [local irreducible] wpListIn Code.wpIn Exit.then Exit.inBlock bodyPost wpQuiet wpAnyIn wpAnyH
set_option maxHeartbeats 4000000
instance : ConvI Tryz.prog 3 139 .u64:=⟨by kernel_rfl,by kernel_rfl,by kernel_rfl⟩
instance : ConvI Tryz.prog 139 3 .i64:=⟨by kernel_rfl,by kernel_rfl,by kernel_rfl⟩
theorem rep_copy (z y : Value) (m n : Nat) (_hm : m ≤ n) (k : Nat) (hk : k = min (n - m) m) : (List.replicate m z++List.replicate (n - m) y).take m++List.replicate k z++(List.replicate m z++List.replicate (n - m) y).drop (m + k) = List.replicate (m + k) z++List.replicate (n - (m + k)) y:=by
 rw [List.take_append_of_le_length (by simp),List.take_of_length_le (by simp),List.drop_append,List.drop_of_length_le (by rw [List.length_replicate]; omega)]
 simp only [List.length_replicate,List.nil_append,List.drop_replicate]
 have e : n - m - (m + k - m) = n - (m + k):=by omega
 rw [← List.replicate_append_replicate,e]
theorem repeat_c (b0 o0 n : Nat) (z : Int) (w : World) (hx : w.cell? ⟨b0,o0,none⟩ = some (.int .i64 z)) (hn : 0 < n) (hn' : n ≤ 1000) :
  Ret Tryz.prog 90 [.slice (some ⟨b0,o0,none⟩) 1 1,.int .i64 n] w fun u w'=>∃ a : Nat,u = .slice (some ⟨a,0,none⟩) n n∧Wd NoS w [Ent.vec (some ⟨a,0,none⟩) n n 3 1 (List.replicate n (.int .i64 z))] w'∧True:=by
 refine ret_enter Tryz.func90 rfl Tryz.ntmps90 rfl (Wd.nil NoS w) ?_
 repeat (first|refine g_op rfl ?_|refine g_then ?_|refine g_nil ?_|refine g_region ?_|refine g_seq ?_|refine g_skip ?_|refine g_condF ?_)
 refine g_conv rfl rfl ?_
 repeat (refine g_op rfl ?_)
 refine g_conv rfl (by rw [IntKind.wrap_u64]; omega) ?_
 refine g_callV rfl (fun w' _=>mul_c 1 n (by omega) (by omega) (by omega) w') ?_
 rw [Nat.one_mul]
 repeat (first|refine g_op rfl ?_|refine g_then ?_|refine g_nil ?_|refine g_region ?_|refine g_seq ?_|refine g_open ?_)
 rw [show decide (9223372036854775807 < (n : Int)) = false by simp; omega,show decide ((0 : Int) < 0) = false from rfl]
 repeat (first|refine g_op rfl ?_|refine g_then ?_|refine g_nil ?_|refine g_region ?_|refine g_seq ?_|refine g_skip ?_|refine g_condF ?_)
 refine g_conv rfl ?_ ?_
 ·rw [IntKind.wrap_i64]; omega
 repeat (first|refine g_op rfl ?_|refine g_then ?_|refine g_nil ?_|refine g_region ?_|refine g_seq ?_|refine g_make rfl (by omega) (by omega) fun _ _=>?_)
 rename_i a _
 refine g_copy (b:=a) (o:=0) (off:=0) 0 (List.replicate 1 (.int .i64 z)) rfl rfl (by simp only [List.length_replicate]; omega) (fun w' hw j v hj=>?_) (by simp only [List.length_replicate]; omega) (fun v hv=>by rw [List.eq_of_mem_replicate hv]; rfl) ?_
 ·match j,hj with
  | 0,hj =>
   obtain rfl : _ = v:=by simpa using hj
   exact cell_keep hw.chg hx
 have e0:=rep_copy (.int .i64 z) (.int .i64 0) 0 n (by omega) 1
 simp only [List.length_replicate,List.set_cons_zero]
 rw [show (List.replicate n (Value.int .i64 0)).take 0++List.replicate 1 (.int .i64 z)++(List.replicate n (.int .i64 0)).drop (0 + 1) = List.replicate 1 (.int .i64 z)++List.replicate (n - 1) (.int .i64 0) by simp [List.drop_replicate]]
 repeat (first|refine g_op rfl ?_|refine g_then ?_|refine g_nil ?_|refine g_seq ?_|refine g_block ?_)
 refine g_loop (fun (m : Nat)=>1 ≤ m∧m ≤ n) (fun m=>[(8,.int .i64 m),(7,.slice (some ⟨a,0,none⟩) n n)]) (fun m=>[Ent.vec (some ⟨a,0,none⟩) n n 3 1 (List.replicate m (.int .i64 z)++List.replicate (n - m) (.int .i64 0))]) (fun m=>n - m) 1 ⟨Nat.le_refl _,hn⟩ (g_done (by repeat (first|exact trivial|refine ⟨rfl,?_⟩)) (.refl _)) fun m ⟨hm1,hmn⟩=>?_
 repeat (first|refine g_op rfl ?_|refine g_then ?_|refine g_nil ?_|refine g_region ?_|refine g_seq ?_)
 refine g_cond (fun h1=>?_) (fun h1=>?_)
 ·have hlt : m < n:=by simpa using h1
  have hc1 : CutOk m n n:=⟨by omega,hlt⟩
  have hc2 : CutHi m n:=⟨by omega⟩
  repeat (first|refine g_then ?_|refine g_block ?_|refine g_skip ?_)
  refine g_drawW [(8,.int .i64 ((m + min (n - m) m : Nat) : Int)),(7,.slice (some ⟨a,0,none⟩) n n)] [Ent.vec (some ⟨a,0,none⟩) n n 3 1 (List.replicate (m + min (n - m) m) (.int .i64 z)++List.replicate (n - (m + min (n - m) m)) (.int .i64 0))] mixed ?_ ?_
  ·repeat' (first|refine g_take 0 rfl (by decide +kernel) ?_|refine g_take 1 rfl (by decide +kernel) ?_|refine g_take 2 rfl (by decide +kernel) ?_|refine g_take 3 rfl (by decide +kernel) ?_|refine g_take 4 rfl (by decide +kernel) ?_|refine g_take 5 rfl (by decide +kernel) ?_|refine g_take 6 rfl (by decide +kernel) ?_|refine g_any (by decide +kernel) ?_|refine any_nil|refine any_skip (by decide +kernel) ?_|refine any_cons ?_ ?_)
   rw [Nat.mul_one]
   refine g_copy (b:=a) (o:=0) (off:=m) 0 (List.replicate (min (n - m) m) (.int .i64 z)) rfl rfl (by simp only [List.length_replicate]; omega) (fun w' hw j v hj=>?_) (by simp only [List.length_replicate,List.length_append]; omega) (fun v hv=>by rw [List.eq_of_mem_replicate hv]; rfl) ?_
   ·rw [List.getElem?_replicate] at hj
    split at hj
    ·exact hw.vecCell (k:=0) rfl (by rw [List.getElem?_append_left (by rw [List.length_replicate]; omega),List.getElem?_replicate,if_pos (by omega)]; exact hj)
    ·cases hj
   simp only [List.length_replicate,List.set_cons_zero]
   rw [rep_copy _ _ m n (by omega) _ rfl]
   repeat' (first|refine g_any0 (by decide +kernel) ?_|refine g_any (by decide +kernel) ?_|refine any_nil|refine any_skip (by decide +kernel) ?_|refine any_cons ?_ ?_|refine g_then ?_|refine g_nil ?_|refine g_opS rfl ?_|refine g_add rfl (by omega) (by omega) ?_)
   all_goals
    rw [← Int.natCast_add]
   skip
   all_goals exact g_done (by repeat (first|exact trivial|refine ⟨rfl,?_⟩)) (.refl _)
  ·repeat (first|refine g_then ?_|refine g_inBlock ?_)
   exact g_next (m + min (n - m) m) ⟨by omega,by omega⟩ (by omega) (by repeat (first|exact trivial|refine ⟨rfl,?_⟩)) (.refl _)
 ·have hge : m = n:=by have:=h1; simp at this; omega
  subst hge
  rw [Nat.sub_self,List.replicate_zero,List.append_nil]
  repeat (first|refine g_op rfl ?_|refine g_then ?_|refine g_nil ?_|refine g_region ?_|refine g_seq ?_|refine g_exit ?_|refine g_thenExit ?_|refine g_exitHere ?_|refine g_ret ?_)
  exact g_ret1 rfl fun w' hw=>⟨a,rfl,hw,trivial⟩
theorem meet_c (bl : List LBlock) (l : List Nat) (ho : Ord bl l) (up : List Int) (k : Nat) (hI : Inv bl l up k) (at' : List Int) (hat : ∀ b ∈ l,at'[b]? = some ((rk l b : Nat) : Int)) (_hlen : up.length ≤ 100) (ua ta : Value) (w0 : World)
  (hu : SlAt w0 ua 1 up IntV) (ht : SlAt w0 ta 1 at' IntV) (a b : Nat) (ha : Pr up a) (hb : Pr up b) :
  Ret Tryz.prog 91 [ua,ta,.int .i64 a,.int .i64 b] w0 fun u w'=>∃ z : Nat,u = .int .i64 z∧Wd NoS w0 [] w'∧MeetIs up a b z:=by
 obtain ⟨ua,un,uc,ub,uo,rfl,hun,hunc,hunb,huc,hua,hel⟩:=hu
 obtain ⟨ta,tn,tc,tb,to',rfl,htn,htnc,htnb,htc,hta,htel⟩:=ht
 refine ret_enter Tryz.func91 rfl Tryz.ntmps91 rfl (Wd.nil NoS w0) ?_
 repeat (first|refine g_op rfl ?_|refine g_then ?_|refine g_nil ?_|refine g_region ?_|refine g_seq ?_|refine g_block ?_)
 refine g_loop (fun (x : Nat × Nat)=>Pr up x.1∧Pr up x.2∧∀ z,MeetIs up x.1 x.2 z→MeetIs up a b z) (fun x=>[(0,.slice ua un uc),(1,.slice ta tn tc),(2,.int .i64 x.1),(3,.int .i64 x.2)]) (fun _=>[]) (fun x=>rk l x.1 + rk l x.2) (a,b) ⟨ha,hb,fun _ h=>h⟩ (g_done (by repeat (first|exact trivial|refine ⟨rfl,?_⟩)) (.refl _)) fun x ⟨hx,hy,hall⟩=>?_
 obtain ⟨x,y⟩:=x
 simp only at hx hy hall ⊢
 repeat (first|refine g_op rfl ?_|refine g_then ?_|refine g_nil ?_|refine g_region ?_|refine g_seq ?_)
 refine g_cond (fun h1=>?_) (fun h1=>?_)
 ·have hne : x ≠ y:=fun e=>by subst e; simp at h1
  obtain ⟨cx,hcx⟩:=hx
  obtain ⟨cy,hcy⟩:=hy
  have hxl:=hI.pr_mem ⟨cx,hcx⟩
  have hyl:=hI.pr_mem ⟨cy,hcy⟩
  have hax:=hat x hxl
  have hay:=hat y hyl
  have had : AddrIs ua ub uo:=⟨hua (ne_of_get hcx)⟩
  have had2 : AddrIs ta tb to':=⟨hta (ne_of_get hax)⟩
  have l1 : LtIs x un:=⟨by rw [hun]; exact (List.getElem?_eq_some_iff.1 hcx).1⟩
  have l2 : LtIs y un:=⟨by rw [hun]; exact (List.getElem?_eq_some_iff.1 hcy).1⟩
  have l3 : LtIs x tn:=⟨by rw [htn]; exact (List.getElem?_eq_some_iff.1 hax).1⟩
  have l4 : LtIs y tn:=⟨by rw [htn]; exact (List.getElem?_eq_some_iff.1 hay).1⟩
  obtain ⟨_,c1,rfl,_⟩:=hel x _ hcx
  obtain ⟨_,c2,rfl,_⟩:=hel y _ hcy
  obtain ⟨_,c3,rfl,_⟩:=htel x _ hax
  obtain ⟨_,c4,rfl,_⟩:=htel y _ hay
  have d1 : CellsIs w0 ub (uo + x * 1) _:=⟨c1⟩
  have d2 : CellsIs w0 ub (uo + y * 1) _:=⟨c2⟩
  have d3 : CellsIs w0 tb (to' + x * 1) _:=⟨c3⟩
  have d4 : CellsIs w0 tb (to' + y * 1) _:=⟨c4⟩
  repeat (first|refine g_then ?_|refine g_seq ?_|refine g_block ?_|refine g_skip ?_)
  refine g_draw mixed (by decide +kernel) ?_
  repeat (first|refine q_op rfl ?_|refine q_nil ?_)
  repeat (refine g_then ?_)
  refine g_cond (fun h2=>?_) (fun h2=>?_)
  ·have hlt : rk l x < rk l y:=by simpa using h2
   obtain ⟨c,hc,hcp,hcr,hcm⟩:=hI.meet_up ho (a:=y) (b:=x) ⟨cy,hcy⟩ ⟨cx,hcx⟩ (Ne.symm hne) (by omega)
   rw [hcy] at hc
   have e : cy = c:=by have:=Option.some.inj hc; omega
   subst e
   repeat (first|refine g_op rfl ?_|refine g_then ?_|refine g_nil ?_|refine g_region ?_|refine g_opS rfl ?_|refine g_inBlock ?_)
   exact g_next (cy,x) ⟨hcp,⟨cx,hcx⟩,fun z hz=>hall z (hcm z hz).comm⟩ (by simp only; omega) (by repeat (first|exact trivial|refine ⟨rfl,?_⟩)) (.refl _)
  ·have hlt : rk l y ≤ rk l x:=by have:=h2; simp at this; omega
   obtain ⟨c,hc,hcp,hcr,hcm⟩:=hI.meet_up ho (a:=x) (b:=y) ⟨cx,hcx⟩ ⟨cy,hcy⟩ hne hlt
   rw [hcx] at hc
   have e : cx = c:=by have:=Option.some.inj hc; omega
   subst e
   repeat (first|refine g_op rfl ?_|refine g_then ?_|refine g_nil ?_|refine g_region ?_|refine g_opS rfl ?_|refine g_inBlock ?_|refine g_skip ?_)
   exact g_next (cx,y) ⟨hcp,⟨cy,hcy⟩,fun z hz=>hall z (hcm z hz)⟩ (by simp only; omega) (by repeat (first|exact trivial|refine ⟨rfl,?_⟩)) (.refl _)
 ·have he : x = y:=by have:=h1; simp at this; omega
  subst he
  repeat (first|refine g_op rfl ?_|refine g_then ?_|refine g_nil ?_|refine g_region ?_|refine g_seq ?_|refine g_exit ?_|refine g_thenExit ?_|refine g_exitHere ?_|refine g_ret ?_)
  exact g_ret1 rfl fun w hw=>⟨x,rfl,hw,hall x (meet_self hx)⟩
end Go.Proofs.YtdbljcahlpkgdaaGreatDoor
namespace Go.Proofs.YtdbljcahlpkgdaaGreatDoor
open Go Go.RowKit
theorem SlAt.known {α : Type} {w : World} {b o n c s : Nat} {l : List α} {V : World→α→List Value→Prop} (h : SlAt w (.slice (some ⟨b,o,none⟩) n c) s l V) : ∀ (i : Nat) x,l[i]? = some x→∃ cs,CellsAt w b (o + i * s) cs∧V w x cs:=by
 intro i x hx
 obtain ⟨a,_,_,b',o',e,_,_,_,_,ha,hel⟩:=h
 simp only [Value.slice.injEq] at e
 obtain ⟨rfl,_,_⟩:=e
 have:=ha (List.ne_nil_of_mem (List.mem_of_getElem? hx))
 simp only [Option.some.injEq,Addr.mk.injEq,and_true] at this
 obtain ⟨rfl,rfl⟩:=this
 exact hel i x hx
theorem SlAt.at {α : Type} {w : World} {a : Option Addr} {n c s : Nat} {l : List α} {V : World→α→List Value→Prop} (h : SlAt w (.slice a n c) s l V) : n = l.length∧n ≤ c∧n ≤ 140737488355328∧∃ b o,(l ≠ []→a = some ⟨b,o,none⟩)∧∀ (i : Nat) x,l[i]? = some x→∃ cs,CellsAt w b (o + i * s) cs∧V w x cs:=by
 obtain ⟨_,_,_,b,o,e,h1,h2,h3,_,ha,hel⟩:=h
 simp only [Value.slice.injEq] at e
 obtain ⟨rfl,rfl,rfl⟩:=e
 exact ⟨h1,h2,h3,b,o,ha,hel⟩
open Classical in
noncomputable def killW (S : Nat→Prop) (w : World) : World:={ w with heap:=Array.ofFn (n:=w.heap.size) fun i=>if S i.1 then .deferred (some []) else w.heap[i.1] }
theorem kill_size (S : Nat→Prop) (w : World) : (killW S w).heap.size = w.heap.size:=by simp [killW]
theorem kill_get {S : Nat→Prop} (w : World) {b : Nat} (h : ¬ S b) : (killW S w).heap[b]? = w.heap[b]?:=by
 unfold killW
 by_cases hb : b < w.heap.size
 ·simp [hb,h]
 ·rw [Array.getElem?_eq_none (by simpa using hb),Array.getElem?_eq_none (by omega)]
theorem kill_none {S : Nat→Prop} (w : World) {p : Addr} (h : S p.block) : (killW S w).cell? p = none:=by
 unfold killW World.cell?
 by_cases hb : p.block < w.heap.size
 ·simp [hb,h]
 ·rw [Array.getElem?_eq_none (by simpa using hb)]
theorem kill_cell {S : Nat→Prop} {w : World} {p : Addr} {v : Value} (h : (killW S w).cell? p = some v) : ¬ S p.block∧w.cell? p = some v:=by
 have hn : ¬ S p.block:=fun hs=>by rw [kill_none w hs] at h; cases h
 exact ⟨hn,by rw [← h]; exact (World.cell?_of_block (kill_get w hn)).symm⟩
theorem kill_chg (S : Nat→Prop) (w : World) : Chg S (killW S w) w:=⟨rfl,rfl,rfl,by rw [kill_size]; exact Nat.le_refl _,fun k _ hk=>(kill_get w hk).symm⟩
section
variable {P : Program} {N : Nat} {ds : List Deferred} {S : Nat→Prop} {w0 w w' : World} {L : List (Nat × Value)} {H H1 H2 E : List Ent} {p : Act→World→Prop}
theorem Wd.beside (h : Wd S w0 (H1++H2) w) {e : Ent} (he : e ∈ H2) : e.ok (killW (fps H1) w):=by
 refine h.ok e (List.mem_append_right _ he) _ (by rw [kill_size]; exact Nat.le_refl _) fun b hb=>kill_get w fun ⟨f,hf,hfb⟩=>?_
 exact (List.pairwise_append.1 h.apart).2.2 f hf e he b hfb hb
theorem Wd.besides (h : Wd S w0 (H1++H2) w) : Wd (fun _=>True) (killW (fps H1) w) H2 (killW (fps H1) w):=by
 have hk : ∀ e ∈ H2,∀ b,e.fp b→¬ fps H1 b:=fun e he b hb ⟨f,hf,hfb⟩=>(List.pairwise_append.1 h.apart).2.2 f hf e he b hfb hb
 refine ⟨Chg.refl _ _,fun e he b hb=>⟨.inl trivial,by rw [kill_size]; exact (h.own e (List.mem_append_right _ he) b hb).2⟩,fun e he w' hs hw=>?_,(List.pairwise_append.1 h.apart).2.1⟩
 exact h.ok e (List.mem_append_right _ he) w' (by rwa [kill_size] at hs) fun b hb=>(hw b hb).trans (kill_get w (hk e he b hb))
theorem Wd.killOld (h : Wd NoS w0 (H1++H2) w) : Chg NoS w0 (killW (fps H1) w):=by
 refine ⟨h.chg.os,h.chg.tape,h.chg.output,by rw [kill_size]; exact h.size,fun k hk _=>(kill_get w fun ⟨e,he,hb⟩=>?_).trans (h.chg.block k hk fun h=>h)⟩
 have:=(h.own e (List.mem_append_left _ he) k hb).1
 exact this.elim (fun h=>h) fun h=>by omega
theorem Wd.prek (h : Wd S w0 (H1++H2) w) : Wd (fps H1) (killW (fps H1) w) H1 w :=
 ⟨kill_chg _ _,fun e he b hb=>⟨.inl ⟨e,he,hb⟩,(h.own e (List.mem_append_left _ he) b hb).2⟩,fun e he=>h.ok e (List.mem_append_left _ he),(List.pairwise_append.1 h.apart).1⟩
theorem Wd.unkill {T : Nat→Prop} (h : Wd T (killW T w) E w') : Wd T w E w' :=
 ⟨⟨h.chg.os,h.chg.tape,h.chg.output,by have:=h.chg.size; rwa [kill_size] at this,fun k hk hT=>(h.chg.block k (by rw [kill_size]; exact hk) hT).trans (kill_get w hT)⟩,fun e he b hb=>by have:=h.own e he b hb; rwa [kill_size] at this,h.ok,h.apart⟩
theorem Wd.killKeep {T : Nat→Prop} (h : Wd T (killW T w) E w') : ∀ p v,(killW T w).cell? p = some v→w'.cell? p = some v:=fun p v hc=>by
 have hlt:=World.block_lt_of_cell? _ p hc
 rw [← hc]
 exact World.cell?_of_block (h.chg.block _ hlt (kill_cell hc).1)
theorem killOldIs {T : Nat→Prop} {b o : Nat} {cs : List Value} (hc : CellsAt (killW T w) b o cs) (hne : cs ≠ []) : OldIs T b:=by
 cases cs with
 | nil=>exact absurd rfl hne
 | cons c cs=>exact ⟨(kill_cell (hc 0 c rfl)).1⟩
theorem g_holdK (h : ∀ w,Wd S w0 (H1++H2) w→G N ds (fps H1) (killW (fps H1) w) L H1 p) : G N ds S w0 L (H1++H2) p:=fun a w hS=>h w hS.wd a w ⟨hS.fr,hS.wd.prek⟩
end
end Go.Proofs.YtdbljcahlpkgdaaGreatDoor

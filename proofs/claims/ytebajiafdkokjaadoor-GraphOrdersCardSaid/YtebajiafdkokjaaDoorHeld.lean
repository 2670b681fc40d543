/- A region that draws its order, reads, and ends in one store: what is read lies in pieces that the store leaves alone. One walk serves every order. -/
import Derived.Test.YtebajiafdkokjaaDoorMore
import Derived.OrdersHeld
namespace Go.Proofs.YtebajiafdkokjaaDoor
open Go Go.RowKit

section
variable {P : Program} {N : Nat} {ds : List Deferred} {S : Nat → Prop} {w0 : World} {L L' : List (Nat × Value)} {H H' Hr : List Ent} {Q : Exit → Act → World → Prop} {x y : Operand} {M : Act → World → Prop} {l : List Oper} {fuel : Nat} {listed : Array Bool}

theorem g_drawH {id n : Nat} [hl : LenO l n] (Hr : List Ent) (hm : P.follows .mixedOrders = true) (_hH : Hr.Sublist H)
    (h : G N ds S w0 L H (wpAnyH P .any l.toArray (OnlyN (Q .normal)) (Wd S w0 Hr) n (Array.replicate n false))) : G N ds S w0 L H (Code.wpIn (FW none) 0 P (Code.region id l.toArray true) Q) := fun a w hS => by
  refine wpIn_wide.2 (wp_region_any hm ?_)
  have h1 := wpAny_of_held _ _ _ _ (h a { w with drawn := w.drawn + 1 } ⟨hS.fr, hS.wd.same rfl rfl rfl rfl⟩)
  rw [← hl.eq] at h1
  have key : ∀ (fuel : Nat) (listed : Array Bool) (a : Act) (w : World), wpAny P .any l.toArray (OnlyN (Q .normal)) fuel listed a w → wpAny P .any l.toArray Q fuel listed a w := by
    intro fuel
    induction fuel with
    | zero => exact fun listed a w h => ⟨h.1, h.2⟩
    | succ fuel ih =>
      intro listed a w h
      refine ⟨fun e => h.1 e, fun i hi => ?_⟩
      have h2 := h.2 i hi
      unfold wpOp at h2 ⊢
      split
      · rename_i ho
        simp only [ho] at h2
        exact ih _ _ _ h2
      · rename_i o ho
        simp only [ho] at h2
        split
        · rename_i hw
          rw [if_pos hw] at h2
          rcases h2 with h3 | ⟨_, a', w', h3⟩
          · left
            unfold Oper.wp at h3 ⊢
            revert h3
            generalize (execOp a.eval o).run P w = r
            intro h3
            cases r with
            | ok nx w1 =>
              cases nx with
              | value v => exact ih _ _ _ h3
              | skip => exact ih _ _ _ h3
              | defer d => exact ih _ _ _ h3
              | enter f args =>
                refine Calls.mono h3 fun e w2 hh => ?_
                cases e with
                | returned v => exact ih _ _ _ hh
                | panicked c => exact (hh : False).elim
                | outgrown => exact (Exists.elim hh fun _ h => Exists.elim h fun _ h => (h : False).elim)
              | row r args => exact Rows.mono h3 fun v w2 hh => ih _ _ _ hh
              | _ => exact h3
            | halt x w1 => cases x <;> exact (h3 : False).elim
          · exact (h3 : False).elim
        · rename_i hw
          rw [if_neg hw] at h2
          exact ih _ _ _ h2
  have := key _ _ _ _ h1
  simpa using this
theorem h_take {d ty : Nat} (i : Nat) {pos : String} {aft : Array Edge} {op : Op} {v : Value} [ho : ListAt l i ⟨some d, op, ty, pos, aft, none⟩] [h : RunsC P N ds S w0 L Hr op v] (hd : okPut d N L = true)
    (hr : ((Region.noSelect l.toArray && Region.free .any l.toArray listed i) && (Region.ready .any l.toArray listed).contains i) = true) (hH : Hr.Sublist H)
    (k : G N ds S w0 ((d, v) :: L) H (wpAnyH P .any l.toArray (OnlyN M) (Wd S w0 Hr) fuel (listed.setIfInBounds i true))) : G N ds S w0 L H (wpAnyH P .any l.toArray (OnlyN M) (Wd S w0 Hr) (fuel + 1) listed) := fun a w hS => by
  simp only [Bool.and_eq_true] at hr
  exact wpAnyH_take (i := i) (oi := ⟨some d, op, ty, pos, aft, none⟩) (v := v) (by simpa using ho.at') hr.1.1 hr.1.2 hr.2 (fun c a w hh => hh) (.inl ⟨rfl, fun w hw => h.run _ _ _ _ _ a w hS.fr hw⟩) (hS.wd.sub hH) (k _ _ ⟨hS.fr.putOk hd v, hS.wd⟩)
theorem h_takeG {d ty j t : Nat} (i : Nat) {want : Bool} {pos : String} {aft : Array Edge} {op : Op} {v : Value} [ho : ListAt l i ⟨some d, op, ty, pos, aft, some (j, want)⟩] [hj : DstOf l.toArray j t] [hb : SlotIs L t (.bool want)] [h : RunsC P N ds S w0 L Hr op v] (hd : okPut d N L = true)
    (hr : ((Region.noSelect l.toArray && Region.free .any l.toArray listed i) && (Region.ready .any l.toArray listed).contains i) = true) (hH : Hr.Sublist H)
    (k : G N ds S w0 ((d, v) :: L) H (wpAnyH P .any l.toArray (OnlyN M) (Wd S w0 Hr) fuel (listed.setIfInBounds i true))) : G N ds S w0 L H (wpAnyH P .any l.toArray (OnlyN M) (Wd S w0 Hr) (fuel + 1) listed) := fun a w hS => by
  simp only [Bool.and_eq_true] at hr
  refine wpAnyH_take (i := i) (oi := ⟨some d, op, ty, pos, aft, some (j, want)⟩) (v := v) (by simpa using ho.at') hr.1.1 hr.1.2 hr.2 (fun c a w hh => hh) (.inl ⟨?_, fun w hw => h.run _ _ _ _ _ a w hS.fr hw⟩) (hS.wd.sub hH) (k _ _ ⟨hS.fr.putOk hd v, hS.wd⟩)
  simp only [Region.wanted, hS.fr.yield (ops := l.toArray) (j := j) (b := want)]
  simp
theorem h_takeP {d ty j t : Nat} (i : Nat) {want b : Bool} {pos : String} {aft : Array Edge} {op : Op} [ho : ListAt l i ⟨some d, op, ty, pos, aft, some (j, want)⟩] [hj : DstOf l.toArray j t] [hn : NotB want b] [hb : SlotIs L t (.bool b)] (hd : okPut d N L = true)
    (hr : ((Region.noSelect l.toArray && Region.free .any l.toArray listed i) && (Region.ready .any l.toArray listed).contains i) = true) (hH : Hr.Sublist H)
    (k : G N ds S w0 ((d, undef) :: L) H (wpAnyH P .any l.toArray (OnlyN M) (Wd S w0 Hr) fuel (listed.setIfInBounds i true))) : G N ds S w0 L H (wpAnyH P .any l.toArray (OnlyN M) (Wd S w0 Hr) (fuel + 1) listed) := fun a w hS => by
  simp only [Bool.and_eq_true] at hr
  refine wpAnyH_take (i := i) (oi := ⟨some d, op, ty, pos, aft, some (j, want)⟩) (v := undef) (by simpa using ho.at') hr.1.1 hr.1.2 hr.2 (fun c a w hh => hh) (.inr ⟨?_, rfl⟩) (hS.wd.sub hH) (k _ _ ⟨hS.fr.putOk hd undef, hS.wd⟩)
  simp only [Region.wanted, hS.fr.yield (ops := l.toArray) (j := j) (b := b)]
  exact hn.ne
/-- the one operation that is left: a store into a slice of the call's own -/
theorem h_storeV {ty T b off k o j n c e s : Nat} (i : Nat) [h : OneCell P T] {xs xs' : List Value} {v : Value} {pos : String} {aft : Array Edge} [ho : ListAt l i ⟨none, .store T x y, ty, pos, aft, none⟩]
    [hx : Ev L x (.pointer (some ⟨b, off, none⟩))] [hy : Ev L y v] [h1 : OneV v] [hb : OwnAt H b off k o j n c e s xs] [hu : XSet xs j v xs'] [hH : SetAt H k (Ent.vec (some ⟨b, o, none⟩) n c e s xs') H']
    (hr : decide (Region.ready .any l.toArray listed = [i]) = true) (hr2 : (Region.ready .any l.toArray (listed.setIfInBounds i true)).isEmpty = true) (hHr : Hr.Sublist H')
    (kk : G N ds S w0 L H' M) : G N ds S w0 L H (wpAnyH P .any l.toArray (OnlyN M) (Wd S w0 Hr) (fuel + 1) listed) := by
  intro a w hS
  obtain ⟨_, _, _, pre, sp, hpre, _, hbx⟩ := hS.wd.vecAt hb.at'
  have e1 := hb.eq
  subst e1
  have hlt := hu.lt
  have hc := hS.wd.vecCell hb.at' (List.getElem?_eq_getElem hlt)
  have hrun := run_storeOne (P := P) (T := T) h1.one hc (by simp [World.frozen?, hbx])
  have hw' := hS.wd.setVec v hb.at' hlt
  rw [hu.eq, hH.set'] at hw'
  refine wpAnyH_all (of_decide_eq_true hr) (by simp) fun i' hi' => ?_
  simp only [List.mem_singleton] at hi'
  subst hi'
  unfold wpOp
  rw [show l.toArray[i']? = some ⟨none, .store T x y, ty, pos, aft, none⟩ by simpa using ho.at']
  simp only
  have hwt : Region.wanted (⟨none, .store T x y, ty, pos, aft, none⟩ : Oper) (yielded l.toArray a.tmps) = true := rfl
  rw [if_pos hwt]
  left
  unfold Oper.wp
  rw [show (execOp a.eval ⟨none, .store T x y, ty, pos, aft, none⟩).run P w = .ok .skip (w.setCell ⟨b, o + j, none⟩ v) by simp [execOp, hx.eq _ _ _ hS.fr, hy.eq _ _ _ hS.fr, hrun]]
  refine ⟨hw'.sub hHr, wpAnyH_done (List.isEmpty_iff.1 hr2) ?_ _⟩
  exact kk _ _ ⟨hS.fr, hw'⟩
end
end Go.Proofs.YtebajiafdkokjaaDoor

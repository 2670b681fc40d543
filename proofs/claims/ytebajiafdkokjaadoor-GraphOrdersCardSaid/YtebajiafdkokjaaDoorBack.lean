/- slices.Backward over numbers: the iterator's contract. -/
import Derived.RangeFuncNested
import Derived.RangeFuncLeaves
import Derived.RangeFuncBound
import Derived.Shelf.Abstract
import Derived.WalkKit
import Derived.OwnWalkIn
import Derived.TacticsInMore
import Derived.LoopNIn
import Derived.LoopIn
import Derived.Test.YtebajiafdkokjaaDoorChecked
namespace Go.Proofs.YtebajiafdkokjaaDoor
open Go Go.RowKit Go.Shelf
attribute [local go_sem] Oper.semAt_some

/-- what keeps these blocks -/
def KeepB (K : Nat → Prop) (W W' : World) : Prop := ∀ b, K b → W'.heap[b]? = W.heap[b]?
theorem KeepB.cell {K : Nat → Prop} {W W' : World} (h : KeepB K W W') {p : Addr} (hp : K p.block) : W'.cell? p = W.cell? p := World.cell?_of_block (h _ hp)
/-- the pairs that have come after k rounds over l, from its end on -/
def downTo (l : List Int) (k : Nat) : List (Int × Int) := (List.range k).map fun (j : Nat) => (((l.length - 1 - j : Nat) : Int), l[l.length - 1 - j]?.getD 0)
theorem downTo_succ (l : List Int) (k : Nat) : downTo l (k + 1) = downTo l k ++ [(((l.length - 1 - k : Nat) : Int), l[l.length - 1 - k]?.getD 0)] := by simp [downTo, List.range_succ]
theorem downTo_length (l : List Int) (k : Nat) : (downTo l k).length = k := by simp [downTo]

theorem wrap64_in' (n : Int) (h1 : -9223372036854775808 ≤ n) (h2 : n ≤ 9223372036854775807) : wrap64 n = n := by unfold wrap64; omega
set_option maxRecDepth 100000 in
set_option maxHeartbeats 2000000 in
theorem backInt1_in (n : Nat) (hn : 1 ≤ n) {α : Type} (enc : α → Int × Int) (l Bs b off cap : Nat) (K : Nat → Prop) (zs : List Int) (xs : List α) (hxs : xs.map enc = downTo zs zs.length) (hlen : zs.length ≤ 100000) (hb : zs ≠ [] → K b) (hBsK : K Bs) (J Jx : List α → World → Prop) (a : Option Addr) (ha : zs ≠ [] → a = some ⟨b, off, none⟩)
    (hY : ∀ pre x W, J pre W → pre.length < zs.length → YieldAt Fence.wide (n - 1) Tryd.prog l #[.int .i64 (enc x).1, .int .i64 (enc x).2] W fun e W' =>
      (e = .returned (.bool true) ∧ J (pre ++ [x]) W' ∧ KeepB K W W') ∨ (e = .returned (.bool false) ∧ Jx (pre ++ [x]) W'))
    (W : World) (hBs : W.cell? ⟨Bs, 0, none⟩ = some (.slice a zs.length cap)) (hc : ∀ j, j < zs.length → W.cell? ⟨b, off + j, none⟩ = some (.int .i64 (zs[j]?.getD 0))) (h0 : J [] W) :
    CallsIn Fence.wide n Tryd.prog 117 #[.func (.yield l) #[] #[], .pointer (some ⟨Bs, 0, none⟩)] W fun e W' => (∃ v, e = .returned v) ∧
      ((∃ ys, ys = xs ∧ J ys W') ∨ (∃ pre, pre <+: xs ∧ Jx pre W')) := by
  refine callsIn_of_wp Tryd.func117 rfl trivial ?_ rfl
  simp only [Tryd.ntmps117, List.size_toArray, List.length_cons, List.length_nil, Nat.reduceAdd, Nat.reduceSub, Array.replicate_succ, Array.replicate_zero, List.push_toArray, List.append_toArray, List.nil_append, List.cons_append]
  have hxl : xs.length = zs.length := by have := congrArg List.length hxs; rwa [List.length_map, downTo_length] at this
  have hwr : wrap64 ((zs.length : Int) - 1) = (zs.length : Int) - 1 := wrap64_in' _ (by omega) (by omega)
  gi_wp2
  gi_loopw [3] (fun i wr => ∃ m : Nat, m ≤ zs.length ∧ i = .int .i64 ((m : Int) - 1) ∧ J (xs.take (zs.length - m)) wr ∧ KeepB K W wr) (fun i _ => (intOf i + 1).toNat)
  case atStart => exact ⟨zs.length, Nat.le_refl _, by first | rfl | simp [hwr], by simpa using h0, fun _ _ => rfl⟩
  case round =>
    obtain ⟨m, hm, rfl, hJs, hk⟩ := hrel
    cases m with
    | zero =>
      gi_wp2
      go_end0
      exact ⟨⟨_, rfl⟩, .inl ⟨xs, rfl, by rw [Nat.sub_zero, List.take_of_length_le (by omega)] at hJs; exact hJs⟩⟩
    | succ m =>
      have hne : zs ≠ [] := by rintro rfl; simp at hm
      obtain rfl := ha hne
      rw [show (((m + 1 : Nat) : Int) - 1) = (m : Int) by omega]
      obtain ⟨z, hz⟩ : ∃ z, zs[m]? = some z := ⟨_, List.getElem?_eq_getElem (by omega)⟩
      have hcx : wr.cell? ⟨b, off + m, none⟩ = some (.int .i64 z) := by have := (hk.cell (p := ⟨b, off + m, none⟩) (hb hne)).trans (hc m (by omega)); rwa [hz] at this
      have hBx : wr.cell? ⟨Bs, 0, none⟩ = some (.slice (some ⟨b, off, none⟩) zs.length cap) := (hk.cell (p := ⟨Bs, 0, none⟩) hBsK).trans hBs
      have hlt : m < zs.length := by omega
      obtain ⟨x, hx⟩ : ∃ x, xs[zs.length - (m + 1)]? = some x := ⟨_, List.getElem?_eq_getElem (by omega)⟩
      have hex : enc x = ((m : Int), z) := by
        have h1 : (xs.map enc)[zs.length - (m + 1)]? = some (enc x) := by rw [List.getElem?_map, hx]; rfl
        rw [hxs, downTo, List.getElem?_map, List.getElem?_range (by omega)] at h1
        simp only [Option.map_some, Option.some.injEq] at h1
        rw [← h1, show zs.length - 1 - (zs.length - (m + 1)) = m by omega, hz]; rfl
      have hY1 := hY _ x wr hJs (by rw [List.length_take]; omega)
      rw [hex] at hY1
      have htk : xs.take (zs.length - (m + 1)) ++ [x] = xs.take (zs.length - m) := by
        rw [show zs.length - m = (zs.length - (m + 1)) + 1 by omega, List.take_add_one, hx]; rfl
      rw [htk] at hY1
      obtain ⟨fn, tmps, assign, body, hy, hR⟩ := hY1
      dsimp only at hy
      have hwr2 : wrap64 ((m : Int) - 1) = (m : Int) - 1 := wrap64_in' _ (by omega) (by omega)
      gi_wp2
      refine hR.mono ?_
      rintro e W3 (⟨rfl, hJ3, hk3⟩ | ⟨rfl, hJx3⟩)
      · gi_wp2
        go_roundw
        case rel => exact ⟨m, by omega, by first | rfl | simp [hwr2], hJ3, fun b hb => (hk3 b hb).trans (hk b hb)⟩
        case measure => simp [intOf]
      · gi_wp2
        refine bodyPost_ret (results_none rfl _ _ _) rfl ?_
        exact ⟨⟨_, rfl⟩, .inr ⟨_, List.take_prefix _ _, hJx3⟩⟩
end Go.Proofs.YtebajiafdkokjaaDoor

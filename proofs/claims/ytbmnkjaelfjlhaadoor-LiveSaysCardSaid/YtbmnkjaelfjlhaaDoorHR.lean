/- Texts joined: DoC DoD. -/
import Derived.Test.YtbmnkjaelfjlhaaDoorGF
import Derived.Test.YtbmnkjaelfjlhaaDoorGI
import Derived.Test.YtbmnkjaelfjlhaaDoorHJ
import Derived.Test.YtbmnkjaelfjlhaaDoorHQ
/- What live.once needs: its list as what the iterator yields; what is kept, by rows; returning behind rounds that deferred nothing. -/
namespace Go.Proofs.YtbmnkjaelfjlhaaDoor
open Go Go.RowKit

def rowOfA {R : Nat} {wz : World} (y : InsA R wz) : IRow := ⟨y.1.2.1, y.1.2.2.1, y.1.2.2.2.2⟩
theorem insR_ex {R : Nat} {wz : World} {l : List IRow} (hok : ∀ y ∈ l, InsOk R y.x) (hargs : ∀ y ∈ l, y.x.args.length ≤ 1000) (hel : ∀ y ∈ l, SlAt wz (.slice y.a y.x.args.length y.c) 2 y.x.args ValV) :
    ∃ xs : List (InsA R wz), xs.map InsA.enc = downL (l.map rowC) (l.map rowC).length ∧ xs.map rowOfA = l.reverse ∧ ∀ y ∈ xs, y.1.2.2.2.1 = y.1.2.1.args.length := by
  have hex : ∀ k, k ≤ l.length → ∃ xs : List (InsA R wz), xs.map InsA.enc = downL (l.map rowC) k ∧ xs.map rowOfA = l.reverse.take k ∧ ∀ y ∈ xs, y.1.2.2.2.1 = y.1.2.1.args.length := by
    intro k
    induction k with
    | zero => exact fun _ => ⟨[], by simp [downL], by simp, by simp⟩
    | succ k ih =>
      intro hk
      obtain ⟨xs, h1, h2, h3⟩ := ih (by omega)
      obtain ⟨y, hy⟩ : ∃ y, l[l.length - 1 - k]? = some y := ⟨_, List.getElem?_eq_getElem (by omega)⟩
      have hym := List.mem_of_getElem? hy
      refine ⟨xs ++ [⟨(((l.length - 1 - k : Nat) : Int), y.x, (y.a, y.x.args.length, y.c)), hok y hym, hargs y hym, hel y hym⟩], ?_, ?_, fun z hz => ?_⟩
      · rw [List.map_append, h1]
        simp only [downL, List.range_succ, List.map_append, List.map_cons, List.map_nil, List.length_map]
        congr 1
        simp only [InsA.enc, List.getElem?_map, hy, Option.map_some, Option.getD_some]
        rfl
      · rw [List.map_append, h2, List.take_add_one, List.getElem?_reverse (by omega), hy]; rfl
      · rcases List.mem_append.1 hz with hz | hz
        · exact h3 z hz
        · rw [List.mem_singleton.1 hz]
  obtain ⟨xs, h1, h2, h3⟩ := hex l.length (Nat.le_refl _)
  exact ⟨xs, by rw [List.length_map]; exact h1, by rw [h2, List.take_of_length_le (by simp)], h3⟩
/-- what is kept of instructions, by rows -/
def keepR (W : Int) (s : List Bool) : List IRow → List Bool × List IRow
  | [] => (s, [])
  | y :: l => if quietI W y.x && !getB (keepR W s l).1 y.x.dst then keepR W s l else (insV (keepR W s l).1 y.x, y :: (keepR W s l).2)
theorem keepR_L (W : Int) (s : List Bool) : ∀ l : List IRow, (keepR W s l).1 = (keepL W s (l.map (·.x))).1 ∧ (keepR W s l).2.map (·.x) = (keepL W s (l.map (·.x))).2
  | [] => ⟨rfl, rfl⟩
  | y :: l => by
    obtain ⟨h1, h2⟩ := keepR_L W s l
    rw [List.map_cons, keepR, keepL, h1]
    split
    · exact ⟨h1, h2⟩
    · exact ⟨rfl, by rw [List.map_cons, h2]⟩
theorem keepR_sub (W : Int) (s : List Bool) : ∀ l : List IRow, (keepR W s l).2.Sublist l
  | [] => .refl _
  | y :: l => by
    rw [keepR]
    split
    · exact (keepR_sub W s l).cons _
    · exact (keepR_sub W s l).cons_cons _
theorem keepR_len (W : Int) (s : List Bool) (l : List IRow) : (keepR W s l).1.length = s.length := by rw [(keepR_L W s l).1, keepL_len]
/-- a block that has had its turn, by rows -/
def onceR (W : Int) (s : List Bool) (b : BRow) (la : Option Addr) (lc : Nat) : BRow := { b with ps := b.ps.filter (keepP (keepR W (takeV s b.on) b.xs).1), la := la, lc := lc, xs := (keepR W (takeV s b.on) b.xs).2 }
theorem onceR_blk (W : Int) (s : List Bool) (b : BRow) (la : Option Addr) (lc : Nat) : (onceR W s b la lc).blk = onceB W s b.blk := by
  obtain ⟨h1, h2⟩ := keepR_L W (takeV s b.on) b.xs
  unfold onceR onceB BRow.blk
  simp only [LBlock.mk.injEq, and_true]
  refine ⟨?_, h2⟩
  rw [List.filter_map, h1]
  rfl
theorem onceR_gone (W : Int) (s : List Bool) (b : BRow) (la : Option Addr) (lc : Nat) : goneB W s b.blk = (decide ((keepR W (takeV s b.on) b.xs).2.length < b.xs.length) || decide ((b.ps.filter (keepP (keepR W (takeV s b.on) b.xs).1)).length < b.ps.length)) := by
  unfold goneB
  rw [← onceR_blk W s b la lc]
  unfold onceR BRow.blk
  simp only [List.length_map]
section
variable {P : Program} {ro : Option Nat} {N : Nat} {ds : List Deferred} {S : Nat → Prop} {w0 : World} {L : List (Nat × Value)} {H : List Ent}
theorem leaves_marksS {fn : Func} {tmps : Array Value} {R : Value → World → Prop} {v : Value} (hr : ∀ w, Wd S w0 H w → (results fn tmps).run P w = .ok v w) (hR : ∀ w, Wd S w0 H w → R v w) : ∀ (Ds : List Nat) (_hD : ∀ D ∈ Ds, w0.heap.size ≤ D) (w : World), Wd S w0 (marks Ds ++ H) w →
    LeavesInM (FW none) 0 P fn tmps (fun e w' => ∃ v, e = .returned v ∧ R v w') (dsOf Ds) .returning w
  | [], _, w, hW => ⟨v, hr w hW, v, rfl, hR w hW⟩
  | D :: Ds, hD, w, hW => by
    have h1 : Wd S w0 (Ent.mark D :: (marks Ds ++ H)) w := hW
    exact ⟨by simp, .inl ⟨D, _, rfl, run_takeDeferred (h1.get (k := 0) rfl), leaves_marksS hr hR Ds (fun D h => hD D (List.mem_cons_of_mem _ h)) _ (h1.shut (hD D (by simp)) _)⟩⟩
theorem g_retMsS1 {fn : Func} {R : Value → World → Prop} (Ds : List Nat) (hD : ∀ D ∈ Ds, w0.heap.size ≤ D) {t : Nat} {v : Value} (hr : fn.results = #[.tmp t]) [hv : SlotIs L t v] (hR : ∀ w, Wd S w0 H w → R v w) : G N (dsOf Ds) S w0 L (marks Ds ++ H) (bodyPostM (FW none) 0 P fn (fun e w' => ∃ v, e = .returned v ∧ R v w') .ret) := fun a w hS => by
  show LeavesInM _ _ _ _ _ _ _ _ _
  rw [hS.fr.defers]
  refine leaves_marksS (fun w hw => ?_) hR Ds hD w hS.wd
  rw [results_tmp hr]
  simp [Array.getD_eq_getD_getElem?, hS.fr.slot _ hv.mem]
end
end Go.Proofs.YtbmnkjaelfjlhaaDoor


/- live.once: what it turns a function into. -/
namespace Go.Proofs.YtbmnkjaelfjlhaaDoor
open Go Go.RowKit
attribute [local irreducible] wpListIn Code.wpIn Exit.then Exit.inBlock bodyPost wpQuiet wpAnyIn wpAnyH bodyPostM oneH
set_option maxHeartbeats 8000000

theorem ord6 {v r k p q i : Ent} {F : List Ent} : (v :: r :: k :: p :: q :: i :: F).Perm (r :: v :: p :: q :: i :: k :: F) := by
  classical
  refine List.perm_iff_count.2 fun e => ?_
  simp only [List.count_cons]
  omega
theorem backInsStopsG {α : Type} (enc : α → Int × List Value) {own : Nat → Prop} {wz w : World} {Bs n c b o : Nat} {a : Option Addr} {zs : List (List Value)} {xs : List α} (hn : n = zs.length) (ha : zs ≠ [] → a = some ⟨b, o, none⟩) (hlen : zs.length ≤ 100000) (h8 : ∀ z ∈ zs, z.length = 8)
    (hcell : ∀ m z, zs[m]? = some z → ∀ j v, z[j]? = some v → wz.cell? ⟨b, o + m * 8 + j, none⟩ = some v) (hown : ∀ p v, wz.cell? p = some v → ¬ own p.block) (hBo : ¬ own Bs) (hz0 : ∀ p v, wz.cell? p = some v → w.cell? p = some v) (hB : w.cell? ⟨Bs, 0, none⟩ = some (.slice a n c)) (hxs : xs.map enc = downL zs zs.length) :
    SeqStopsK (FW none) 4 Tryd.prog 143 #[.pointer (some ⟨Bs, 0, none⟩)] (fun x : α => #[.int .i64 (enc x).1, .agg (enc x).2.toArray]) (KeepX own) (fun ys => ys = xs) (fun pre => pre <+: xs) xs.length w := by
  intro l J Jx W hW _ _ hY h0
  have hxl : xs.length = zs.length := by have := congrArg List.length hxs; rwa [List.length_map, downL_length] at this
  subst hn
  have hcW : ∀ p v, w.cell? p = some v → W.cell? p = some v := fun p v hp => (hW.cell (World.block_lt_of_cell? w _ hp)).trans hp
  refine backIns1_in 4 (by omega) enc l Bs b o c (fun b => ¬ own b) (KeepX own) (KeepX.refl own) (fun _ _ _ h k => h.trans k) (fun A B h p v hp hc => h.cell hp hc) zs xs hxs hlen (fun hne => ?_) hBo J Jx a (fun hne => ha hne) (fun pre x W1 hJ hl => hY pre x W1 hJ (by omega)) W (hcW _ _ hB) h8 (fun m z hz j v hj => hcW _ _ (hz0 _ _ (hcell m z hz j v hj))) h0
  obtain ⟨z, hz⟩ : ∃ z, zs[0]? = some z := ⟨_, List.getElem?_eq_getElem (List.length_pos_iff.2 hne)⟩
  have hz8 := h8 z (List.mem_of_getElem? hz)
  obtain ⟨v, hv⟩ : ∃ v, z[0]? = some v := ⟨_, List.getElem?_eq_getElem (by omega)⟩
  exact hown _ v (hcell 0 z hz 0 v hv)
theorem once_c (W : Int) (hW : 0 ≤ W ∧ W ≤ 9223372036854775807) (q : Nat) (nm pa : Value) (R : Nat) (hR : R ≤ 100) (a : Option Addr) (c : Nat) (bs : List BRow) (hlen : bs.length ≤ 100) (hbd : ∀ b ∈ bs, b.Bd) (hf : FuncOk R (bs.map BRow.blk)) (hqd : QDst (bs.map BRow.blk)) (w0 : World)
    (hw0 : Wd (fps (Ent.box q [nm, pa, .int .i64 R, .slice a bs.length c] 35 :: fnE a c bs)) w0 (Ent.box q [nm, pa, .int .i64 R, .slice a bs.length c] 35 :: fnE a c bs) w0) :
    Ret Tryd.prog 65 [.int .i64 W, .pointer (some ⟨q, 0, none⟩)] w0 fun u w' => ∃ (outs : List (List Bool)) (bs' : List BRow), u = .bool (goneTo W outs (bs.map BRow.blk) bs.length) ∧ Wd (fps (Ent.box q [nm, pa, .int .i64 R, .slice a bs.length c] 35 :: fnE a c bs)) w0 (Ent.box q [nm, pa, .int .i64 R, .slice a bs.length c] 35 :: fnE a c bs') w' ∧
      OutOk R (bs.map BRow.blk) outs ∧ bs'.map BRow.blk = onceTo W outs (bs.map BRow.blk) bs.length ∧ bs'.length = bs.length ∧ ∀ b ∈ bs', b.Bd := by
  obtain ⟨bl, hbl⟩ : ∃ bl, bl = bs.map BRow.blk := ⟨_, rfl⟩
  have hbll : bl.length = bs.length := by rw [hbl, List.length_map]
  rw [← hbl] at hf hqd ⊢
  have hw1 := Wd.prek (H1 := Ent.box q [nm, pa, .int .i64 R, .slice a bs.length c] 35 :: fnE a c bs) (H2 := []) (by rw [List.append_nil]; exact hw0)
  obtain ⟨S, hS⟩ : ∃ S, S = fps (Ent.box q [nm, pa, .int .i64 R, .slice a bs.length c] 35 :: fnE a c bs) := ⟨_, rfl⟩
  obtain ⟨wk, hwk⟩ : ∃ wk, wk = killW (fps (Ent.box q [nm, pa, .int .i64 R, .slice a bs.length c] 35 :: fnE a c bs)) w0 := ⟨_, rfl⟩
  have hcl : Clean S wk := by rw [hS, hwk]; exact clean_kill _ _
  rw [← hwk, ← hS] at hw1
  have hlim : ∀ B ∈ bl, (∀ x ∈ B.list, x.args.length ≤ 1000) ∧ B.list.length ≤ 1000 ∧ B.phis.length ≤ 1000 := fun B hB => by
    rw [hbl] at hB
    obtain ⟨b, hb, rfl⟩ := List.mem_map.1 hB
    have h1 := hbd b hb
    refine ⟨fun x hx => ?_, by simp only [BRow.blk, List.length_map]; exact h1.list, by simp only [BRow.blk, List.length_map]; exact h1.phis⟩
    simp only [BRow.blk] at hx
    obtain ⟨i, hi, rfl⟩ := List.mem_map.1 hx
    exact (h1.ins i hi).2.1
  refine Ret.mono (R := fun u w' => ∃ (outs : List (List Bool)) (bs' : List BRow), u = .bool (goneTo W outs bl bs.length) ∧ Wd S wk (Ent.box q [nm, pa, .int .i64 R, .slice a bs.length c] 35 :: fnE a c bs') w' ∧ OutOk R bl outs ∧ bs'.map BRow.blk = onceTo W outs bl bs.length ∧ bs'.length = bs.length ∧ ∀ b ∈ bs', b.Bd) ?_ fun u w' ⟨outs, bs', h1, h2, h3⟩ => ⟨outs, bs', h1, by rw [hS, hwk] at h2; exact h2.unkill, h3⟩
  clear hwk hw0
  refine ret_enterM (w0 := wk) (S := S) Tryd.func65 rfl Tryd.ntmps65 rfl hw1 ?_
  repeat (first | refine g_op rfl ?_ | refine g_then ?_ | refine g_nil ?_ | refine g_region ?_ | refine g_seq ?_ | refine g_box rfl fun _ _ => ?_)
  rename_i p2 _
  refine g_callE (val := fun x : (Option Addr × Nat × List RowB) × (Option Addr × Nat × List RowB) => .tuple #[.slice x.1.1 bl.length x.1.2.1, .slice x.2.1 bl.length x.2.2.1]) (E := fun x => Ent.vec x.1.1 bl.length x.1.2.1 146 1 (x.1.2.2.map (valS R)) :: Ent.vec x.2.1 bl.length x.2.2.1 146 1 (x.2.2.2.map (valS R)) :: (x.1.2.2.map (entS R) ++ x.2.2.2.map (entS R))) (φ := fun x => AllR R bl x.1.2.2 x.2.2.2) rfl
    (fun w hw => allOf_c nm pa R hR bl _ w (by rw [hbl]; exact Wd.blocks (H := []) (hw.sub (List.Sublist.cons _ (List.Sublist.cons _ (by rw [List.append_nil]; exact List.Sublist.refl _)))) (by omega) hbd) (by omega) hf (fun B hB => (hlim B hB).1) fun B hB => (hlim B hB).2) fun x hA => ?_
  obtain ⟨⟨ia, ic, ins⟩, oa, oc, outs⟩ := x
  simp only at hA
  simp only [List.cons_append]
  repeat (first | refine g_op rfl ?_ | refine g_then ?_ | refine g_nil ?_ | refine g_region ?_ | refine g_seq ?_ | refine g_store ?_ | refine g_alloc rfl fun _ _ => ?_)
  rename_i p7 _
  have hon : outs.length = bl.length := hA.outLen
  have hol : ∀ r ∈ outs, r.l.length = R := hA.outRow
  obtain ⟨oL, hoL⟩ : ∃ oL, oL = outs.map (·.l) := ⟨_, rfl⟩
  have hoG : ∀ (j : Nat) o, outs[j]? = some o → oL.getD j [] = o.l := fun j o ho => by rw [hoL, List.getD_eq_getElem?_getD, List.getElem?_map, ho]; rfl
  have hOut : OutOk R bl oL := by
    rw [hoL]
    refine ⟨by rw [List.length_map]; exact hon, fun s hs => ?_, fun b s B hs hB r => ?_⟩
    · obtain ⟨o, ho, rfl⟩ := List.mem_map.1 hs
      exact hol o ho
    · rw [List.getElem?_map] at hs
      obtain ⟨o, ho, rfl⟩ := Option.map_eq_some_iff.1 hs
      exact hA.outAt b o r B ho hB
  refine g_wd (H' := Ent.box p7 [.bool false] 4 :: Ent.box q [nm, pa, .int .i64 R, .slice a bs.length c] 35 :: Ent.vec oa bl.length oc 146 1 (outs.map (valS R)) :: Ent.box p2 [.int .i64 W] 3 :: Ent.vec a bs.length c 47 6 (bs.flatMap blkC) :: (bs.map blkE ++ (outs.map (entS R) ++ marks []))) (fun w hw => ?_) ?_
  · have h2 : SubP (Ent.box p7 [.bool false] 4 :: Ent.box q [nm, pa, .int .i64 R, .slice a bs.length c] 35 :: Ent.vec oa bl.length oc 146 1 (outs.map (valS R)) :: Ent.box p2 [.int .i64 W] 3 :: Ent.vec a bs.length c 47 6 (bs.flatMap blkC) :: (bs.map blkE ++ (outs.map (entS R) ++ marks []))) (Ent.box p7 [.bool false] 4 :: Ent.vec ia bl.length ic 146 1 (ins.map (valS R)) :: Ent.vec oa bl.length oc 146 1 (outs.map (valS R)) :: (ins.map (entS R) ++ outs.map (entS R) ++ Ent.box p2 [.int .i64 W] 3 :: Ent.box q [nm, pa, .int .i64 R, .slice a bs.length c] 35 :: fnE a c bs)) := ⟨⟨Ent.vec ia bl.length ic 146 1 (ins.map (valS R)) :: ins.map (entS R), by
      unfold fnE
      classical
      refine List.perm_iff_count.2 fun e => ?_
      simp only [marks, List.map_nil, List.count_append, List.count_cons, List.count_nil]
      omega⟩⟩
    exact hw.pick h2
  clear hA
  repeat (first | refine g_op rfl ?_ | refine g_then ?_ | refine g_nil ?_ | refine g_block ?_)
  refine g_loopD (fun x : Nat × List BRow × List Nat => dsOf x.2.2) (fun x => x.1 ≤ bs.length ∧ x.2.1.length = bs.length ∧ x.2.1.map BRow.blk = onceTo W oL bl x.1 ∧ (∀ b ∈ x.2.1, b.Bd) ∧ ∀ D ∈ x.2.2, wk.heap.size ≤ D) (fun x => [(27, .int .i64 x.1), (25, .slice a bs.length c), (26, .int .i64 bs.length), (7, .pointer (some ⟨p7, 0, none⟩)), (6, .slice oa bl.length oc), (2, .pointer (some ⟨p2, 0, none⟩)), (1, .pointer (some ⟨q, 0, none⟩)), (4, .bool false)])
    (fun x => Ent.box p7 [.bool (goneTo W oL bl x.1)] 4 :: Ent.box q [nm, pa, .int .i64 R, .slice a bs.length c] 35 :: Ent.vec oa bl.length oc 146 1 (outs.map (valS R)) :: Ent.box p2 [.int .i64 W] 3 :: Ent.vec a bs.length c 47 6 (x.2.1.flatMap blkC) :: (x.2.1.map blkE ++ ((outs.drop x.1).map (entS R) ++ marks x.2.2))) (fun x => bs.length - x.1) (0, bs, []) rfl ⟨Nat.zero_le _, rfl, by rw [onceTo_zero, hbl], hbd, by simp⟩ (g_done (by repeat (first | exact trivial | refine ⟨rfl, ?_⟩)) (by simp [goneTo])) fun x ⟨hx1, hx2, hx3, hx4, hx5⟩ => ?_
  obtain ⟨i, bs', Ds⟩ := x
  simp only at hx1 hx2 hx3 hx4 hx5 ⊢
  repeat (first | refine g_op rfl ?_ | refine g_then ?_ | refine g_nil ?_ | refine g_region ?_ | refine g_seq ?_)
  refine g_cond (fun h1 => ?_) (fun h1 => ?_)
  case refine_2 =>
    have hie : i = bs.length := by have := h1; simp at this; omega
    repeat (first | refine g_op rfl ?_ | refine g_then ?_ | refine g_nil ?_ | refine g_region ?_ | refine g_seq ?_ | refine g_opS rfl ?_ | refine g_exit ?_ | refine g_thenExit ?_ | refine g_exitHere ?_ | refine g_ret ?_)
    refine g_permH (H1 := marks Ds ++ (Ent.box q [nm, pa, .int .i64 R, .slice a bs.length c] 35 :: fnE a c bs' ++ (Ent.box p7 [.bool (goneTo W oL bl i)] 4 :: Ent.vec oa bl.length oc 146 1 (outs.map (valS R)) :: Ent.box p2 [.int .i64 W] 3 :: (outs.drop i).map (entS R)))) ?_ ?_
    · unfold fnE
      rw [hx2]
      classical
      refine List.perm_iff_count.2 fun e => ?_
      simp only [List.count_append, List.count_cons]
      omega
    refine g_retMsS1 Ds hx5 rfl fun w hw => ⟨oL, bs', by rw [hie], hw.sub (List.sublist_append_left _ _), hOut, by rw [← hie]; exact hx3, hx2, hx4⟩
  have hilt : i < bs.length := by simpa using h1
  obtain ⟨B, hB⟩ : ∃ B, bl[i]? = some B := ⟨_, List.getElem?_eq_getElem (by omega)⟩
  obtain ⟨b, hb, hbB⟩ : ∃ b, bs'[i]? = some b ∧ b.blk = B := by
    have h4 : (bs'.map BRow.blk)[i]? = _ := congrArg (fun l => l[i]?) hx3
    rw [onceTo_get, hB, Option.map_some, if_neg (by omega), List.getElem?_map] at h4
    exact Option.map_eq_some_iff.1 h4
  obtain ⟨⟨sa, sc, sl⟩, ho⟩ : ∃ o, outs[i]? = some o := ⟨_, List.getElem?_eq_getElem (by omega)⟩
  have hodr : outs.drop i = (⟨sa, sc, sl⟩ : RowB) :: outs.drop (i + 1) := by rw [List.drop_eq_getElem_cons (by omega), (List.getElem?_eq_some_iff.1 ho).2]
  have hoR : sl.length = R := hol _ (List.mem_of_getElem? ho)
  have hbB' := hx4 b (List.mem_of_getElem? hb)
  have hBok := hf.block i B hB
  refine g_wd (H' := vecB sa R sc sl :: Ent.box p7 [.bool (goneTo W oL bl i)] 4 :: Ent.box q [nm, pa, .int .i64 R, .slice a bs.length c] 35 :: Ent.vec oa bl.length oc 146 1 (outs.map (valS R)) :: Ent.box p2 [.int .i64 W] 3 :: Ent.vec a bs.length c 47 6 (bs'.flatMap blkC) :: blkE b :: ((bs'.eraseIdx i).map blkE ++ ((outs.drop (i + 1)).map (entS R) ++ marks Ds))) (fun w hw => ?_) ?_
  · refine hw.perm ?_
    have h2 := map_pull blkE hb
    have h3 : entS R ⟨sa, sc, sl⟩ = vecB sa R sc sl := rfl
    rw [hodr, List.map_cons, h3]
    classical
    refine List.perm_iff_count.2 fun e => ?_
    have h4 := List.perm_iff_count.1 h2 e
    simp only [List.count_append, List.count_cons] at h4 ⊢
    omega
  refine g_vec 5 rfl (by omega) fun vb vo hva => ?_
  subst hva
  refine g_vec 3 rfl (by omega) fun ob oo hoa => ?_
  subst hoa
  have hli : LtIs i bs.length := ⟨hilt⟩
  have hlo : LtIs i bl.length := ⟨by omega⟩
  have hxo : XAt (outs.map (valS R)) (i * 1) (.slice sa R sc) := ⟨by rw [Nat.mul_one, List.getElem?_map, ho]; rfl⟩
  have hob : ∀ (X1 X2 X3 X4 X5 : Ent) (H : List Ent), OwnAgg (X1 :: X2 :: X3 :: X4 :: X5 :: Ent.vec (some ⟨vb, vo, none⟩) bs.length c 47 6 (bs'.flatMap blkC) :: H) vb (vo + i * 6) (blkC b) := fun X1 X2 X3 X4 X5 H => ownAgg (k := 5) rfl blkC_len hb
  simp only [blkC] at hob
  repeat (first | refine g_op rfl ?_ | refine g_then ?_ | refine g_nil ?_ | refine g_region ?_ | refine g_seq ?_ | refine g_store ?_ | refine g_alloc rfl fun _ _ => ?_ | refine g_storeAgg ?_ | refine g_block ?_ | refine g_skip ?_)
  rename_i p9 _ p10 _
  refine g_permH (H1 := [vecB sa R sc sl] ++ (Ent.box p10 [.slice sa R sc] 146 :: Ent.box p9 [.slice b.pa b.ps.length b.pc, .slice b.la b.xs.length b.lc, .int .i64 b.kind, .bool b.on.reg, .int .i64 b.on.n, .slice b.ta b.to.length b.tc] 47 :: Ent.box p7 [.bool (goneTo W oL bl i)] 4 :: (Ent.box q [nm, pa, .int .i64 R, .slice (some ⟨vb, vo, none⟩) bs.length c] 35 :: Ent.vec (some ⟨ob, oo, none⟩) bl.length oc 146 1 (outs.map (valS R)) :: Ent.box p2 [.int .i64 W] 3 :: Ent.vec (some ⟨vb, vo, none⟩) bs.length c 47 6 (bs'.flatMap blkC) :: blkE b :: ((bs'.eraseIdx i).map blkE ++ ((outs.drop (i + 1)).map (entS R) ++ marks Ds))))) (List.perm_middle (l₁ := [Ent.box p10 [.slice sa R sc] 146, Ent.box p9 [.slice b.pa b.ps.length b.pc, .slice b.la b.xs.length b.lc, .int .i64 b.kind, .bool b.on.reg, .int .i64 b.on.n, .slice b.ta b.to.length b.tc] 47]) (a := vecB sa R sc sl)) ?_
  refine g_callS (val := fun _ : Unit => .tuple #[]) (E := fun _ => [vecB sa R sc (takeV sl b.on)]) (φ := fun _ => True) rfl (fun w hw => take_c sa R sc sl hoR b.on (by have := hBok.on; rw [← hbB] at this; exact this) w hw.pre) fun _ _ => ?_
  simp only [List.cons_append, List.nil_append]
  generalize hs1 : takeV sl b.on = s1
  have hs1l : s1.length = R := by rw [← hs1, takeV_length]; exact hoR
  repeat (first | refine g_op rfl ?_ | refine g_then ?_ | refine g_nil ?_ | refine g_region ?_ | refine g_seq ?_ | refine g_alloc rfl fun _ _ => ?_)
  refine g_callE (val := fun p : Nat × Nat => .func (.func 143) #[] #[.pointer (some ⟨p.1, 0, none⟩)]) (E := fun p => [Ent.box p.1 [.slice b.la b.xs.length b.lc] p.2]) (φ := fun _ => True) rfl (fun w hw => backwardI_c _ ⟨_, _, _, rfl⟩ w) fun Bp _ => ?_
  obtain ⟨Bs, Bt⟩ := Bp
  simp only [List.cons_append, List.nil_append]
  repeat (first | refine g_then ?_ | refine g_nil ?_ | refine g_block ?_)
  rename_i p11 _ _
  refine g_nilVec 71 8 ?_
  refine g_fix (L' := [(43, .func (.func 143) #[] #[.pointer (some ⟨Bs, 0, none⟩)]), (11, .pointer (some ⟨p11, 0, none⟩)), (10, .pointer (some ⟨p10, 0, none⟩)), (9, .pointer (some ⟨p9, 0, none⟩)), (8, .int .i64 i), (27, .int .i64 i), (25, .slice (some ⟨vb, vo, none⟩) bs.length c), (26, .int .i64 bs.length), (7, .pointer (some ⟨p7, 0, none⟩)), (6, .slice (some ⟨ob, oo, none⟩) bl.length oc), (2, .pointer (some ⟨p2, 0, none⟩)), (1, .pointer (some ⟨q, 0, none⟩)), (4, .bool false)]) (by repeat (first | exact trivial | refine ⟨rfl, ?_⟩)) (List.Sublist.refl _) ?_
  refine g_wd (H' := ([vecB sa R sc s1, Ent.box p7 [.bool (goneTo W oL bl i)] 4, Ent.box p11 [.slice none 0 0] 45, insE none 0 []] ++ (Ent.box Bs [.slice b.la b.xs.length b.lc] Bt :: Ent.box p10 [.slice sa R sc] 146 :: Ent.box p9 [.slice b.pa b.ps.length b.pc, .slice b.la b.xs.length b.lc, .int .i64 b.kind, .bool b.on.reg, .int .i64 b.on.n, .slice b.ta b.to.length b.tc] 47 :: (Ent.box q [nm, pa, .int .i64 R, .slice (some ⟨vb, vo, none⟩) bs.length c] 35 :: Ent.vec (some ⟨ob, oo, none⟩) bl.length oc 146 1 (outs.map (valS R)) :: Ent.box p2 [.int .i64 W] 3 :: Ent.vec (some ⟨vb, vo, none⟩) bs.length c 47 6 (bs'.flatMap blkC) :: ((bs'.eraseIdx i).map blkE ++ ((outs.drop (i + 1)).map (entS R) ++ marks Ds))))) ++ blkPs b) (fun w hw => ?_) ?_
  · have h2 : Wd S wk (blkE b :: ([vecB sa R sc s1, Ent.box p7 [.bool (goneTo W oL bl i)] 4, Ent.box p11 [.slice none 0 0] 45, insE none 0 []] ++ (Ent.box Bs [.slice b.la b.xs.length b.lc] Bt :: Ent.box p10 [.slice sa R sc] 146 :: Ent.box p9 [.slice b.pa b.ps.length b.pc, .slice b.la b.xs.length b.lc, .int .i64 b.kind, .bool b.on.reg, .int .i64 b.on.n, .slice b.ta b.to.length b.tc] 47 :: (Ent.box q [nm, pa, .int .i64 R, .slice (some ⟨vb, vo, none⟩) bs.length c] 35 :: Ent.vec (some ⟨ob, oo, none⟩) bl.length oc 146 1 (outs.map (valS R)) :: Ent.box p2 [.int .i64 W] 3 :: Ent.vec (some ⟨vb, vo, none⟩) bs.length c 47 6 (bs'.flatMap blkC) :: ((bs'.eraseIdx i).map blkE ++ ((outs.drop (i + 1)).map (entS R) ++ marks Ds)))))) w := by
      refine hw.perm ?_
      unfold insE
      classical
      refine List.perm_iff_count.2 fun e => ?_
      simp only [List.count_append, List.count_cons, List.count_nil, List.length_nil, List.flatMap_nil]
      omega
    exact h2.unjoin.perm List.perm_append_comm
  refine g_holdK fun w2 hw2 => ?_
  have hBA : BlkAt (killW (fps ([vecB sa R sc s1, Ent.box p7 [.bool (goneTo W oL bl i)] 4, Ent.box p11 [.slice none 0 0] 45, insE none 0 []] ++ (Ent.box Bs [.slice b.la b.xs.length b.lc] Bt :: Ent.box p10 [.slice sa R sc] 146 :: Ent.box p9 [.slice b.pa b.ps.length b.pc, .slice b.la b.xs.length b.lc, .int .i64 b.kind, .bool b.on.reg, .int .i64 b.on.n, .slice b.ta b.to.length b.tc] 47 :: (Ent.box q [nm, pa, .int .i64 R, .slice (some ⟨vb, vo, none⟩) bs.length c] 35 :: Ent.vec (some ⟨ob, oo, none⟩) bl.length oc 146 1 (outs.map (valS R)) :: Ent.box p2 [.int .i64 W] 3 :: Ent.vec (some ⟨vb, vo, none⟩) bs.length c 47 6 (bs'.flatMap blkC) :: ((bs'.eraseIdx i).map blkE ++ ((outs.drop (i + 1)).map (entS R) ++ marks Ds)))))) w2) b := by
    have h2 := hw2.besides
    rw [← List.append_nil (blkPs b)] at h2
    exact h2.blkAt hbB'
  have back : ∀ {E : List Ent} {w : World}, Wd (fps ([vecB sa R sc s1, Ent.box p7 [.bool (goneTo W oL bl i)] 4, Ent.box p11 [.slice none 0 0] 45, insE none 0 []] ++ (Ent.box Bs [.slice b.la b.xs.length b.lc] Bt :: Ent.box p10 [.slice sa R sc] 146 :: Ent.box p9 [.slice b.pa b.ps.length b.pc, .slice b.la b.xs.length b.lc, .int .i64 b.kind, .bool b.on.reg, .int .i64 b.on.n, .slice b.ta b.to.length b.tc] 47 :: (Ent.box q [nm, pa, .int .i64 R, .slice (some ⟨vb, vo, none⟩) bs.length c] 35 :: Ent.vec (some ⟨ob, oo, none⟩) bl.length oc 146 1 (outs.map (valS R)) :: Ent.box p2 [.int .i64 W] 3 :: Ent.vec (some ⟨vb, vo, none⟩) bs.length c 47 6 (bs'.flatMap blkC) :: ((bs'.eraseIdx i).map blkE ++ ((outs.drop (i + 1)).map (entS R) ++ marks Ds)))))) (killW (fps ([vecB sa R sc s1, Ent.box p7 [.bool (goneTo W oL bl i)] 4, Ent.box p11 [.slice none 0 0] 45, insE none 0 []] ++ (Ent.box Bs [.slice b.la b.xs.length b.lc] Bt :: Ent.box p10 [.slice sa R sc] 146 :: Ent.box p9 [.slice b.pa b.ps.length b.pc, .slice b.la b.xs.length b.lc, .int .i64 b.kind, .bool b.on.reg, .int .i64 b.on.n, .slice b.ta b.to.length b.tc] 47 :: (Ent.box q [nm, pa, .int .i64 R, .slice (some ⟨vb, vo, none⟩) bs.length c] 35 :: Ent.vec (some ⟨ob, oo, none⟩) bl.length oc 146 1 (outs.map (valS R)) :: Ent.box p2 [.int .i64 W] 3 :: Ent.vec (some ⟨vb, vo, none⟩) bs.length c 47 6 (bs'.flatMap blkC) :: ((bs'.eraseIdx i).map blkE ++ ((outs.drop (i + 1)).map (entS R) ++ marks Ds)))))) w2) E w → Wd S wk (E ++ blkPs b) w := fun hw => hw2.comp hw.unkill
  have hclj : Clean (fps ([vecB sa R sc s1, Ent.box p7 [.bool (goneTo W oL bl i)] 4, Ent.box p11 [.slice none 0 0] 45, insE none 0 []] ++ (Ent.box Bs [.slice b.la b.xs.length b.lc] Bt :: Ent.box p10 [.slice sa R sc] 146 :: Ent.box p9 [.slice b.pa b.ps.length b.pc, .slice b.la b.xs.length b.lc, .int .i64 b.kind, .bool b.on.reg, .int .i64 b.on.n, .slice b.ta b.to.length b.tc] 47 :: (Ent.box q [nm, pa, .int .i64 R, .slice (some ⟨vb, vo, none⟩) bs.length c] 35 :: Ent.vec (some ⟨ob, oo, none⟩) bl.length oc 146 1 (outs.map (valS R)) :: Ent.box p2 [.int .i64 W] 3 :: Ent.vec (some ⟨vb, vo, none⟩) bs.length c 47 6 (bs'.flatMap blkC) :: ((bs'.eraseIdx i).map blkE ++ ((outs.drop (i + 1)).map (entS R) ++ marks Ds)))))) (killW (fps ([vecB sa R sc s1, Ent.box p7 [.bool (goneTo W oL bl i)] 4, Ent.box p11 [.slice none 0 0] 45, insE none 0 []] ++ (Ent.box Bs [.slice b.la b.xs.length b.lc] Bt :: Ent.box p10 [.slice sa R sc] 146 :: Ent.box p9 [.slice b.pa b.ps.length b.pc, .slice b.la b.xs.length b.lc, .int .i64 b.kind, .bool b.on.reg, .int .i64 b.on.n, .slice b.ta b.to.length b.tc] 47 :: (Ent.box q [nm, pa, .int .i64 R, .slice (some ⟨vb, vo, none⟩) bs.length c] 35 :: Ent.vec (some ⟨ob, oo, none⟩) bl.length oc 146 1 (outs.map (valS R)) :: Ent.box p2 [.int .i64 W] 3 :: Ent.vec (some ⟨vb, vo, none⟩) bs.length c 47 6 (bs'.flatMap blkC) :: ((bs'.eraseIdx i).map blkE ++ ((outs.drop (i + 1)).map (entS R) ++ marks Ds)))))) w2) := clean_kill _ _
  have hszj : wk.heap.size ≤ (killW (fps ([vecB sa R sc s1, Ent.box p7 [.bool (goneTo W oL bl i)] 4, Ent.box p11 [.slice none 0 0] 45, insE none 0 []] ++ (Ent.box Bs [.slice b.la b.xs.length b.lc] Bt :: Ent.box p10 [.slice sa R sc] 146 :: Ent.box p9 [.slice b.pa b.ps.length b.pc, .slice b.la b.xs.length b.lc, .int .i64 b.kind, .bool b.on.reg, .int .i64 b.on.n, .slice b.ta b.to.length b.tc] 47 :: (Ent.box q [nm, pa, .int .i64 R, .slice (some ⟨vb, vo, none⟩) bs.length c] 35 :: Ent.vec (some ⟨ob, oo, none⟩) bl.length oc 146 1 (outs.map (valS R)) :: Ent.box p2 [.int .i64 W] 3 :: Ent.vec (some ⟨vb, vo, none⟩) bs.length c 47 6 (bs'.flatMap blkC) :: ((bs'.eraseIdx i).map blkE ++ ((outs.drop (i + 1)).map (entS R) ++ marks Ds)))))) w2).heap.size := by rw [kill_size]; exact hw2.size
  generalize hwj : killW (fps ([vecB sa R sc s1, Ent.box p7 [.bool (goneTo W oL bl i)] 4, Ent.box p11 [.slice none 0 0] 45, insE none 0 []] ++ (Ent.box Bs [.slice b.la b.xs.length b.lc] Bt :: Ent.box p10 [.slice sa R sc] 146 :: Ent.box p9 [.slice b.pa b.ps.length b.pc, .slice b.la b.xs.length b.lc, .int .i64 b.kind, .bool b.on.reg, .int .i64 b.on.n, .slice b.ta b.to.length b.tc] 47 :: (Ent.box q [nm, pa, .int .i64 R, .slice (some ⟨vb, vo, none⟩) bs.length c] 35 :: Ent.vec (some ⟨ob, oo, none⟩) bl.length oc 146 1 (outs.map (valS R)) :: Ent.box p2 [.int .i64 W] 3 :: Ent.vec (some ⟨vb, vo, none⟩) bs.length c 47 6 (bs'.flatMap blkC) :: ((bs'.eraseIdx i).map blkE ++ ((outs.drop (i + 1)).map (entS R) ++ marks Ds)))))) w2 = wj at *
  generalize hSJ : fps ([vecB sa R sc s1, Ent.box p7 [.bool (goneTo W oL bl i)] 4, Ent.box p11 [.slice none 0 0] 45, insE none 0 []] ++ (Ent.box Bs [.slice b.la b.xs.length b.lc] Bt :: Ent.box p10 [.slice sa R sc] 146 :: Ent.box p9 [.slice b.pa b.ps.length b.pc, .slice b.la b.xs.length b.lc, .int .i64 b.kind, .bool b.on.reg, .int .i64 b.on.n, .slice b.ta b.to.length b.tc] 47 :: (Ent.box q [nm, pa, .int .i64 R, .slice (some ⟨vb, vo, none⟩) bs.length c] 35 :: Ent.vec (some ⟨ob, oo, none⟩) bl.length oc 146 1 (outs.map (valS R)) :: Ent.box p2 [.int .i64 W] 3 :: Ent.vec (some ⟨vb, vo, none⟩) bs.length c 47 6 (bs'.flatMap blkC) :: ((bs'.eraseIdx i).map blkE ++ ((outs.drop (i + 1)).map (entS R) ++ marks Ds))))) = SJ at *
  have hfok : ∀ z ∈ b.xs, InsOk R z.x := fun z hz => hBok.list z.x (by rw [← hbB]; exact List.mem_map.2 ⟨z, hz, rfl⟩)
  obtain ⟨xs, hxs1, hxs2, hxs3⟩ := insR_ex (R := R) (wz := wj) hfok (fun z hz => (hbB'.ins z hz).2.1) (fun z hz => (hBA.ins z hz).2)
  have hqdst : ∀ z ∈ b.xs, quietI W z.x = true → 0 ≤ z.x.dst := fun z hz hq => by
    obtain ⟨h2, h3⟩ := quiet_op hq
    exact hqd B (List.mem_of_getElem? hB) z.x (by rw [← hbB]; exact List.mem_map.2 ⟨z, hz, rfl⟩) h2 h3
  obtain ⟨_, _, _, lb, lo, hla, hlel⟩ := hBA.list.at
  refine g_rangeS (α := { y : InsA R wj // y ∈ xs }) (gf := 143) (lb := [.pointer (some ⟨Bs, 0, none⟩)]) (Ent.box Bs [.slice b.la b.xs.length b.lc] Bt :: Ent.box p10 [.slice sa R sc] 146 :: Ent.box p9 [.slice b.pa b.ps.length b.pc, .slice b.la b.xs.length b.lc, .int .i64 b.kind, .bool b.on.reg, .int .i64 b.on.n, .slice b.ta b.to.length b.tc] 47 :: (Ent.box q [nm, pa, .int .i64 R, .slice (some ⟨vb, vo, none⟩) bs.length c] 35 :: Ent.vec (some ⟨ob, oo, none⟩) bl.length oc 146 1 (outs.map (valS R)) :: Ent.box p2 [.int .i64 W] 3 :: Ent.vec (some ⟨vb, vo, none⟩) bs.length c 47 6 (bs'.flatMap blkC) :: ((bs'.eraseIdx i).map blkE ++ ((outs.drop (i + 1)).map (entS R) ++ marks Ds)))) (fun st : List Bool × Bool × Option Addr × Nat × List IRow => [vecB sa R sc st.1, Ent.box p7 [.bool st.2.1] 4, Ent.box p11 [.slice st.2.2.1 st.2.2.2.2.length st.2.2.2.1] 45, insE st.2.2.1 st.2.2.2.1 st.2.2.2.2]) (s1, (goneTo W oL bl i), none, 0, []) 71 (fun st e he => ?_) p11 (fun k => sa.map (·.block) = some k ∨ k = p7 ∨ k = p11) (fun st w hw => ?_) xs.attach
    (encs := fun y => #[.int .i64 (InsA.enc y.1).1, .agg (InsA.enc y.1).2.toArray]) (Bs := Bs) (bcs := [.slice b.la b.xs.length b.lc]) (bt := Bt) (List.mem_cons_self ..) (fun w hw => ?_)
    (fun pre st => (st.1, st.2.2.2.2.reverse) = keepR W s1 ((pre.map fun y => rowOfA y.1).reverse) ∧ st.2.1 = ((goneTo W oL bl i) || decide (st.2.2.2.2.length < pre.length))) ⟨rfl, by simp⟩ (List.Sublist.refl _) (fun _ => rfl) (fun y => insC y.1.1.2.1 y.1.1.2.2)
    (fun y => [(45, .agg (insC y.1.1.2.1 y.1.1.2.2).toArray), (44, .int .i64 y.1.1.1), (11, .pointer (some ⟨p11, 0, none⟩)), (10, .pointer (some ⟨p10, 0, none⟩)), (9, .pointer (some ⟨p9, 0, none⟩)), (8, .int .i64 i), (27, .int .i64 i), (25, .slice (some ⟨vb, vo, none⟩) bs.length c), (26, .int .i64 bs.length), (7, .pointer (some ⟨p7, 0, none⟩)), (6, .slice (some ⟨ob, oo, none⟩) bl.length oc), (2, .pointer (some ⟨p2, 0, none⟩)), (1, .pointer (some ⟨q, 0, none⟩)), (4, .bool false)]) (fun y k => [(13, .pointer (some ⟨k, 0, none⟩)), (11, .pointer (some ⟨p11, 0, none⟩)), (10, .pointer (some ⟨p10, 0, none⟩)), (9, .pointer (some ⟨p9, 0, none⟩)), (8, .int .i64 i), (27, .int .i64 i), (25, .slice (some ⟨vb, vo, none⟩) bs.length c), (26, .int .i64 bs.length), (7, .pointer (some ⟨p7, 0, none⟩)), (6, .slice (some ⟨ob, oo, none⟩) bl.length oc), (2, .pointer (some ⟨p2, 0, none⟩)), (1, .pointer (some ⟨q, 0, none⟩)), (4, .bool false)]) (fun y a h => ?_) (fun l y st RR => ?_) (fun l pre y st k RR hI hlt => ?_) fun D st hD hI => ?_
  · simp only [List.mem_cons, List.not_mem_nil, or_false] at he
    rcases he with rfl | rfl | rfl | rfl
    · exact cellE_vec
    · exact cellE_box
    · exact cellE_box
    · exact cellE_vec
  · refine ⟨st.2.2.1, st.2.2.2.2.length, st.2.2.2.1, 45, hw.get (k := 2) rfl, fun k => ?_⟩
    simp only [fps, List.mem_cons, List.not_mem_nil, or_false, exists_eq_or_imp, exists_eq_left, vecB, insE, Ent.vec, Ent.box]
    constructor
    · rintro (h | h | h | h)
      · exact .inl (.inl h)
      · exact .inl (.inr (.inl h))
      · exact .inl (.inr (.inr h))
      · exact .inr h
    · rintro ((h | h | h) | h)
      · exact .inl h
      · exact .inr (.inl h)
      · exact .inr (.inr (.inl h))
      · exact .inr (.inr (.inr h))
  · refine backInsStopsG (fun y : { y : InsA R wj // y ∈ xs } => InsA.enc y.1) (wz := wj) (b := lb) (o := lo) (zs := b.xs.map rowC) (by rw [List.length_map]) (fun hne => hla (fun e => hne (by rw [e]; rfl))) (by rw [List.length_map]; have := hbB'.list; omega) (fun z hz => by obtain ⟨y, _, rfl⟩ := List.mem_map.1 hz; rfl) (fun m z hz j v hj => ?_) (fun p v hp h => ?_) (fun h => h.2 rfl) (fun p v hp => hclj.now hw p v hp) (hw.cellBox 4 (b := Bs) (cs := [.slice b.la b.xs.length b.lc]) (t := Bt) (o := 0) rfl rfl) (by rw [← hxs1]; exact List.attach_map_val (l := xs) (f := InsA.enc))
    · rw [List.getElem?_map] at hz
      obtain ⟨y, hy, rfl⟩ := Option.map_eq_some_iff.1 hz
      obtain ⟨cs, hcs, rfl⟩ := hlel m y hy
      exact hcs j v hj
    · have hlt2 := World.block_lt_of_cell? wj p hp
      have hns := hclj p v hp
      rcases h.1 with ⟨e, he, hb2⟩ | h3 | h3
      · have := (hw.own e he p.block hb2).1
        exact this.elim hns fun h => by omega
      · exact hns h3
      · have := hw.size; omega
  · have h2 := ((h.to (L' := [(11, .pointer (some ⟨p11, 0, none⟩)), (10, .pointer (some ⟨p10, 0, none⟩)), (9, .pointer (some ⟨p9, 0, none⟩)), (8, .int .i64 i), (27, .int .i64 i), (25, .slice (some ⟨vb, vo, none⟩) bs.length c), (26, .int .i64 bs.length), (7, .pointer (some ⟨p7, 0, none⟩)), (6, .slice (some ⟨ob, oo, none⟩) bl.length oc), (2, .pointer (some ⟨p2, 0, none⟩)), (1, .pointer (some ⟨q, 0, none⟩)), (4, .bool false)]) (by repeat (first | exact trivial | refine ⟨rfl, ?_⟩))).putOk (d := 44) rfl (.int .i64 y.1.1.1)).putOk (d := 45) rfl (.agg (insC y.1.1.2.1 y.1.1.2.2).toArray)
    have e : (#[44, 45].zip #[Value.int .i64 (InsA.enc y.1).1, .agg (InsA.enc y.1).2.toArray]).foldl (fun (t : Array Value) (q : Tmp × Value) => t.setIfInBounds q.1 q.2) a.tmps = (a.tmps.setIfInBounds 44 (.int .i64 y.1.1.1)).setIfInBounds 45 (.agg (insC y.1.1.2.1 y.1.1.2.2).toArray) := by simp [InsA.enc]
    refine ⟨Eq.trans (congrArg Array.size e) h2.size, rfl, fun p hp => ?_⟩
    exact Eq.trans (congrArg (fun t : Array Value => t[p.1]?) e) (h2.slot p hp)
  · simp only [insC]
    repeat (first | refine g_then ?_ | refine g_nil ?_ | refine g_region ?_ | refine g_alloc rfl fun _ _ => ?_ | refine g_storeAgg ?_)
    exact g_doneP _ (by repeat (first | exact trivial | refine ⟨rfl, ?_⟩)) (List.Sublist.refl _)
  · obtain ⟨y, hyx⟩ := y
    have hvn := hxs3 y hyx
    have hyb : rowOfA y ∈ b.xs := by have := List.mem_map_of_mem (f := rowOfA) hyx; rw [hxs2] at this; exact List.mem_reverse.1 this
    have hyq := hqdst _ hyb
    have hbl := hbB'.list
    have hpl : pre.length < b.xs.length := by rw [List.length_attach] at hlt; have := congrArg List.length hxs2; rw [List.length_map, List.length_reverse] at this; omega
    obtain ⟨⟨i0, x, ⟨va, vn, vc⟩⟩, hxo, hxa, hxs0⟩ := y
    obtain ⟨s, gn, la', lc', kept⟩ := st
    simp only at hvn
    subst hvn
    simp only [rowOfA] at hyq
    obtain ⟨hIk, hIg⟩ := hI
    simp only at hIk hIg
    generalize hprow : (pre.map fun y => rowOfA y.1).reverse = prow at hIk
    have hprl : prow.length = pre.length := by rw [← hprow]; simp
    have hprow2 : ((pre ++ [(⟨⟨(i0, x, (va, x.args.length, vc)), hxo, hxa, hxs0⟩, hyx⟩ : { y : InsA R wj // y ∈ xs })]).map fun y => rowOfA y.1).reverse = ⟨x, va, vc⟩ :: prow := by rw [List.map_append, List.reverse_append, hprow]; rfl
    have hsl2 : s.length = R := by have := keepR_len W s1 prow; rw [← hIk] at this; exact this.trans hs1l
    have hkl : kept.length ≤ pre.length := by have := (keepR_sub W s1 prow).length_le; rw [← hIk] at this; simpa [hprl] using this
    simp only [insC, List.cons_append, List.nil_append]
    repeat (first | refine g_op rfl ?_ | refine g_region ?_ | refine g_seq ?_ | refine g_block ?_)
    refine g_callV rfl (fun w hw => quietIn_c W _ _ _ _ _ _ _ _ hW w) ?_
    generalize hqt : quietL W x.op x.a.reg x.a.n x.b.reg x.b.n = qt
    have hqt' : quietI W x = qt := hqt
    rw [hqt'] at hyq
    repeat (refine g_op rfl ?_)
    refine g_joinTo 56 (.bool (qt && !getB s x.dst)) ?_ ?_
    · cases qt
      · repeat (first | refine g_op rfl ?_ | refine g_then ?_ | refine g_nil ?_ | refine g_pass rfl ?_)
        exact g_done (by repeat (first | exact trivial | refine ⟨rfl, ?_⟩)) (List.Sublist.refl _)
      · have hd0 : 0 ≤ x.dst := hyq rfl
        have hdR : x.dst < R := hxo.dst hd0
        obtain ⟨dn, hdn⟩ : ∃ dn : Nat, x.dst = dn := ⟨x.dst.toNat, by omega⟩
        obtain ⟨e, he⟩ : ∃ e, s[dn]? = some e := ⟨_, List.getElem?_eq_getElem (by omega)⟩
        have hgb : getB s x.dst = e := by unfold getB; rw [hdn, Int.toNat_natCast, List.getD_eq_getElem?_getD, he]; rfl
        rw [hgb]
        unfold vecB
        refine g_vec 2 rfl (by omega) fun yb yo hya => ?_
        have hli : LtIs dn R := ⟨by omega⟩
        have hea : ElAt s dn e := ⟨he⟩
        have hni : NatIs x.dst dn := ⟨hdn⟩
        rw [hya]
        repeat (first | refine g_op rfl ?_ | refine g_then ?_ | refine g_nil ?_ | refine g_open ?_)
        exact g_done (by repeat (first | exact trivial | refine ⟨rfl, ?_⟩)) (List.Sublist.refl _)
    · repeat (first | refine g_then ?_ | refine g_nil ?_)
      refine g_cond (fun h2 => ?_) (fun h2 => ?_)
      · have hkr : keepR W s1 (⟨x, va, vc⟩ :: prow) = (s, kept.reverse) := by
          rw [keepR, ← hIk, hqt', if_pos h2]
        repeat (first | refine g_then ?_ | refine g_nil ?_ | refine g_region ?_ | refine g_seq ?_ | refine g_store ?_ | refine g_exit ?_ | refine g_thenExit ?_ | refine g_exitHere ?_)
        refine g_permH (List.Perm.cons _ (List.perm_middle (l₁ := [_, _, _, _])).symm) ?_
        refine g_rnd (s, true, la', lc', kept) ⟨?_, ?_⟩ (List.Sublist.refl _)
        · rw [hprow2]; exact hkr.symm
        · rw [List.length_append, List.length_singleton, decide_eq_true (by simp only; omega), Bool.or_true]
      · have hkr : keepR W s1 (⟨x, va, vc⟩ :: prow) = (insV s x, ⟨x, va, vc⟩ :: kept.reverse) := by
          rw [keepR, ← hIk, hqt', if_neg (by rw [h2]; simp)]
        repeat (first | refine g_op rfl ?_ | refine g_then ?_ | refine g_region ?_ | refine g_seq ?_ | refine g_skip ?_)
        refine g_permH (List.perm_middle (l₁ := [_, _]) (a := vecB sa R sc s)) ?_
        refine g_eqH (H1 := [vecB sa R sc s] ++ (_ :: _)) rfl ?_
        refine g_callS (val := fun _ : Unit => .tuple #[]) (E := fun _ => [vecB sa R sc (insV s x)]) (φ := fun _ => True) rfl (fun w hw => setAhead_c sa R sc s hsl2 x hxo (Nat.le_trans (show x.args.length ≤ 1000 from hxa) (by decide)) va x.args.length vc SJ wj hclj hxs0 w (hw.sub (List.sublist_append_left _ _))) fun _ _ => ?_
        simp only [List.append_eq, List.cons_append, List.nil_append]
        repeat (first | refine g_op rfl ?_ | refine g_then ?_ | refine g_nil ?_ | refine g_region ?_ | refine g_build1 rfl rfl fun _ _ => ?_)
        unfold insE
        refine g_appendAt 6 rfl rfl (by decide +kernel) (by omega) (by omega) fun na nc => ?_
        rw [show kept.flatMap rowC ++ [Value.int .i64 x.op, .int .i64 x.dst, .bool x.a.reg, .int .i64 x.a.n, .bool x.b.reg, .int .i64 x.b.n, .int .i64 x.fn, .slice va x.args.length vc] = (kept ++ [(⟨x, va, vc⟩ : IRow)]).flatMap rowC by rw [List.flatMap_append]; rfl]
        simp only [List.set_cons_zero, List.set_cons_succ]
        repeat (first | refine g_then ?_ | refine g_nil ?_ | refine g_store ?_ | refine g_inBlock ?_)
        refine g_permH (List.Perm.cons _ ord6) ?_
        refine g_rnd (insV s x, gn, na, nc, kept ++ [(⟨x, va, vc⟩ : IRow)]) ⟨?_, ?_⟩ (List.Sublist.cons _ ?_)
        · rw [hprow2, List.reverse_append]; exact hkr.symm
        · simp only [hIg, List.length_append, List.length_singleton]
          congr 1
          exact decide_eq_decide.2 (by omega)
        · simp only [List.length_append, List.length_singleton]
          exact List.Sublist.refl _
  · obtain ⟨s, gn, la', lc', kept⟩ := st
    obtain ⟨hIk, hIg⟩ := hI
    simp only at hIk hIg
    have hatt : (xs.attach.map fun y => rowOfA y.1).reverse = b.xs := by rw [List.attach_map_val (l := xs) (f := rowOfA), hxs2, List.reverse_reverse]
    rw [hatt] at hIk
    have hxl : xs.attach.length = b.xs.length := by have := congrArg List.length hxs2; rw [List.length_map, List.length_reverse] at this; rw [List.length_attach]; exact this
    rw [hxl] at hIg
    have hsl2 : s.length = R := by have := keepR_len W s1 b.xs; rw [← hIk] at this; exact this.trans hs1l
    have hkl : kept.length ≤ b.xs.length := by have := (keepR_sub W s1 b.xs).length_le; rw [← hIk] at this; simpa using this
    have hbl := hbB'.list
    have hbp := hbB'.phis
    have hphd : ∀ p ∈ b.ps, 0 ≤ p.dst ∧ p.dst < R := fun p hp => (hBok.phis ⟨p.dst, p.l⟩ (by rw [← hbB]; exact List.mem_map.2 ⟨p, hp, rfl⟩)).dst
    refine g_unhold back ?_
    refine g_wd (H' := insE la' lc' kept :: phVec b.pa b.pc b.ps :: vecB sa R sc s :: Ent.box p7 [.bool gn] 4 :: Ent.box p11 [.slice la' kept.length lc'] 45 :: Ent.box Bs [.slice b.la b.xs.length b.lc] Bt :: Ent.box p10 [.slice sa R sc] 146 :: Ent.box p9 [.slice b.pa b.ps.length b.pc, .slice b.la b.xs.length b.lc, .int .i64 b.kind, .bool b.on.reg, .int .i64 b.on.n, .slice b.ta b.to.length b.tc] 47 :: (Ent.box q [nm, pa, .int .i64 R, .slice (some ⟨vb, vo, none⟩) bs.length c] 35 :: Ent.vec (some ⟨ob, oo, none⟩) bl.length oc 146 1 (outs.map (valS R)) :: Ent.box p2 [.int .i64 W] 3 :: Ent.vec (some ⟨vb, vo, none⟩) bs.length c 47 6 (bs'.flatMap blkC) :: insE b.la b.lc b.xs :: Ent.vec b.ta b.to.length b.tc 3 1 (b.to.map (.int .i64)) :: (b.ps.map phE ++ (b.xs.map roE ++ ((bs'.eraseIdx i).map blkE ++ ((outs.drop (i + 1)).map (entS R) ++ marks (D :: Ds))))))) (fun w hw => ?_) ?_
    · refine hw.perm ?_
      unfold blkPs insE phVec
      classical
      refine List.perm_iff_count.2 fun e => ?_
      simp only [List.count_append, List.count_cons, List.count_nil, marks, List.map_cons]
      omega
    repeat (first | refine g_op rfl ?_ | refine g_then ?_ | refine g_region ?_ | refine g_seq ?_ | refine g_inBlock ?_)
    refine g_eqH (H1 := [insE la' lc' kept] ++ (_ :: _)) rfl ?_
    refine g_callS (val := fun _ : Unit => .tuple #[]) (E := fun _ => [insE la' lc' kept.reverse]) (φ := fun _ => True) rfl (fun w hw => reverseI_c la' lc' kept (by omega) w hw.pre) fun _ _ => ?_
    simp only [List.append_eq, List.cons_append, List.nil_append]
    repeat (first | refine g_op rfl ?_ | refine g_then ?_ | refine g_nil ?_ | refine g_region ?_ | refine g_seq ?_)
    refine g_permH (List.Perm.swap _ _ _) ?_
    refine g_eqH (H1 := [phVec b.pa b.pc b.ps] ++ (_ :: _)) rfl ?_
    refine g_callC (val := fun _ : Unit => .slice b.pa (b.ps.filter (keepP s)).length b.pc) (E := fun _ => [phVec b.pa b.pc (b.ps.filter (keepP s))]) (φ := fun _ => True) hcl rfl (fun wz w hclz hlez hwz hw => ?_) fun _ _ => ?_
    · refine (deletePhi_c p10 sa R sc s hsl2 b.pa b.pc b.ps (by omega) hphd wz w hclz (fun j v hj => ?_) (bools_sl hwz (k := 1) rfl hsl2.symm (by omega)) hw).mono fun u w' ⟨h1, h2⟩ => ⟨(), h1, h2, trivial⟩
      rw [Nat.zero_add]
      exact hwz.cellBox 5 (b := p10) (cs := [.slice sa R sc]) (t := 146) rfl hj
    simp only [List.append_eq, List.cons_append, List.nil_append]
    repeat (first | refine g_op rfl ?_ | refine g_then ?_ | refine g_nil ?_ | refine g_region ?_ | refine g_seq ?_)
    generalize hfs : b.ps.filter (keepP s) = fs
    obtain ⟨nb, hnb⟩ : ∃ nb, nb = onceR W sl b la' lc' := ⟨_, rfl⟩
    have hkk : keepR W (takeV sl b.on) b.xs = (s, kept.reverse) := by rw [hs1]; exact hIk.symm
    have hnb2 : nb = { b with ps := fs, la := la', lc := lc', xs := kept.reverse } := by rw [hnb]; unfold onceR; rw [hkk, ← hfs]
    refine g_joinTo 78 (.bool (gn || decide ((fs.length : Int) < b.ps.length))) ?_ ?_
    · cases gn
      · repeat (first | refine g_op rfl ?_ | refine g_then ?_ | refine g_nil ?_ | refine g_open ?_)
        exact g_done (by repeat (first | exact trivial | refine ⟨rfl, ?_⟩)) (List.Sublist.refl _)
      · repeat (first | refine g_op rfl ?_ | refine g_then ?_ | refine g_nil ?_ | refine g_pass rfl ?_)
        exact g_done (by repeat (first | exact trivial | refine ⟨rfl, ?_⟩)) (List.Sublist.refl _)
    repeat (first | refine g_then ?_ | refine g_nil ?_ | refine g_store ?_)
    have hli2 : LtIs i bs.length := ⟨hilt⟩
    obtain ⟨b1, hb1⟩ : ∃ b1 : BRow, b1 = { b with la := la', lc := lc', xs := kept.reverse } := ⟨_, rfl⟩
    have hb1s : (bs'.set i b1)[i]? = some b1 := List.getElem?_set_self (by omega)
    have hss : (bs'.set i b1).set i nb = bs'.set i nb := List.set_set ..
    have hot1 : ∀ (A1 A2 A3 A4 A5 A6 A7 A8 A9 A10 A11 : Ent) (Y : List Ent), OwnAt (A1 :: A2 :: A3 :: A4 :: A5 :: A6 :: A7 :: A8 :: A9 :: A10 :: A11 :: Ent.vec (some ⟨vb, vo, none⟩) bs.length c 47 6 (bs'.flatMap blkC) :: Y) vb (vo + i * 6 + 1) 11 vo (i * 6 + 1) bs.length c 47 6 (bs'.flatMap blkC) := fun _ _ _ _ _ _ _ _ _ _ _ _ => ⟨rfl, by omega⟩
    have hot0 : ∀ (A1 A2 A3 A4 A5 A6 A7 A8 A9 A10 A11 : Ent) (Y : List Ent), OwnAt (A1 :: A2 :: A3 :: A4 :: A5 :: A6 :: A7 :: A8 :: A9 :: A10 :: A11 :: Ent.vec (some ⟨vb, vo, none⟩) bs.length c 47 6 ((bs'.set i b1).flatMap blkC) :: Y) vb (vo + i * 6) 11 vo (i * 6 + 0) bs.length c 47 6 ((bs'.set i b1).flatMap blkC) := fun _ _ _ _ _ _ _ _ _ _ _ _ => ⟨rfl, by omega⟩
    have hxs1' : XSet (bs'.flatMap blkC) (i * 6 + 1) (.slice la' kept.length lc') ((bs'.set i b1).flatMap blkC) := ⟨flat_set blkC_len hb (by decide) (by rw [hb1]; simp [blkC]), by rw [flat_len blkC_len]; omega⟩
    have hxs0' : XSet ((bs'.set i b1).flatMap blkC) (i * 6 + 0) (.slice b.pa fs.length b.pc) ((bs'.set i nb).flatMap blkC) := ⟨by rw [flat_set blkC_len hb1s (k := 0) (y := nb) (by decide) (by rw [hb1, hnb2]; simp [blkC]), hss], by rw [flat_len blkC_len, List.length_set]; omega⟩
    refine g_drawX [Ent.box p11 [.slice la' kept.length lc'] 45, Ent.box q [nm, pa, .int .i64 R, .slice (some ⟨vb, vo, none⟩) bs.length c] 35] (fun _ : Unit => True) (fun _ => [(8, .int .i64 i), (27, .int .i64 i), (25, .slice (some ⟨vb, vo, none⟩) bs.length c), (26, .int .i64 bs.length), (7, .pointer (some ⟨p7, 0, none⟩)), (6, .slice (some ⟨ob, oo, none⟩) bl.length oc), (2, .pointer (some ⟨p2, 0, none⟩)), (1, .pointer (some ⟨q, 0, none⟩)), (4, .bool false)]) (fun _ => phVec b.pa b.pc fs :: insE la' lc' kept.reverse :: vecB sa R sc s :: Ent.box p7 [.bool (gn || decide ((fs.length : Int) < b.ps.length))] 4 :: Ent.box p11 [.slice la' kept.length lc'] 45 :: Ent.box Bs [.slice b.la b.xs.length b.lc] Bt :: Ent.box p10 [.slice sa R sc] 146 :: Ent.box p9 [.slice b.pa b.ps.length b.pc, .slice b.la b.xs.length b.lc, .int .i64 b.kind, .bool b.on.reg, .int .i64 b.on.n, .slice b.ta b.to.length b.tc] 47 :: (Ent.box q [nm, pa, .int .i64 R, .slice (some ⟨vb, vo, none⟩) bs.length c] 35 :: Ent.vec (some ⟨ob, oo, none⟩) bl.length oc 146 1 (outs.map (valS R)) :: Ent.box p2 [.int .i64 W] 3 :: Ent.vec (some ⟨vb, vo, none⟩) bs.length c 47 6 ((bs'.set i nb).flatMap blkC) :: insE b.la b.lc b.xs :: Ent.vec b.ta b.to.length b.tc 3 1 (b.to.map (.int .i64)) :: (b.ps.map phE ++ (b.xs.map roE ++ ((bs'.eraseIdx i).map blkE ++ ((outs.drop (i + 1)).map (entS R) ++ marks (D :: Ds))))))) mixed (.cons _ (.cons _ (.cons _ (.cons _ (.cons_cons _ (.cons _ (.cons _ (.cons _ (.cons_cons _ (List.nil_sublist _)))))))))) ?_ fun _ _ => ?_
    · skip
      refine h_take 0 rfl (by decide +kernel) (.cons _ (.cons _ (.cons _ (.cons _ (.cons_cons _ (.cons _ (.cons _ (.cons _ (.cons_cons _ (List.nil_sublist _)))))))))) ?_
      refine h_take 1 rfl (by decide +kernel) (.cons _ (.cons _ (.cons _ (.cons _ (.cons_cons _ (.cons _ (.cons _ (.cons _ (.cons_cons _ (List.nil_sublist _)))))))))) ?_
      refine h_take 2 rfl (by decide +kernel) (.cons _ (.cons _ (.cons _ (.cons _ (.cons_cons _ (.cons _ (.cons _ (.cons _ (.cons_cons _ (List.nil_sublist _)))))))))) ?_
      refine h_take 3 rfl (by decide +kernel) (.cons _ (.cons _ (.cons _ (.cons _ (.cons_cons _ (.cons _ (.cons _ (.cons _ (.cons_cons _ (List.nil_sublist _)))))))))) ?_
      refine h_take 4 rfl (by decide +kernel) (.cons _ (.cons _ (.cons _ (.cons _ (.cons_cons _ (.cons _ (.cons _ (.cons _ (.cons_cons _ (List.nil_sublist _)))))))))) ?_
      refine h_take 5 rfl (by decide +kernel) (.cons _ (.cons _ (.cons _ (.cons _ (.cons_cons _ (.cons _ (.cons _ (.cons _ (.cons_cons _ (List.nil_sublist _)))))))))) ?_
      refine h_take 6 rfl (by decide +kernel) (.cons _ (.cons _ (.cons _ (.cons _ (.cons_cons _ (.cons _ (.cons _ (.cons _ (.cons_cons _ (List.nil_sublist _)))))))))) ?_
      refine h_take 7 rfl (by decide +kernel) (.cons _ (.cons _ (.cons _ (.cons _ (.cons_cons _ (.cons _ (.cons _ (.cons _ (.cons_cons _ (List.nil_sublist _)))))))))) ?_
      refine h_take 8 rfl (by decide +kernel) (.cons _ (.cons _ (.cons _ (.cons _ (.cons_cons _ (.cons _ (.cons _ (.cons _ (.cons_cons _ (List.nil_sublist _)))))))))) ?_
      refine h_take 9 rfl (by decide +kernel) (.cons _ (.cons _ (.cons _ (.cons _ (.cons_cons _ (.cons _ (.cons _ (.cons _ (.cons_cons _ (List.nil_sublist _)))))))))) ?_
      refine h_take 10 rfl (by decide +kernel) (.cons _ (.cons _ (.cons _ (.cons _ (.cons_cons _ (.cons _ (.cons _ (.cons _ (.cons_cons _ (List.nil_sublist _)))))))))) ?_
      refine h_take 11 rfl (by decide +kernel) (.cons _ (.cons _ (.cons _ (.cons _ (.cons_cons _ (.cons _ (.cons _ (.cons _ (.cons_cons _ (List.nil_sublist _)))))))))) ?_
      refine h_take 12 rfl (by decide +kernel) (.cons _ (.cons _ (.cons _ (.cons _ (.cons_cons _ (.cons _ (.cons _ (.cons _ (.cons_cons _ (List.nil_sublist _)))))))))) ?_
      refine h_take 13 rfl (by decide +kernel) (.cons _ (.cons _ (.cons _ (.cons _ (.cons_cons _ (.cons _ (.cons _ (.cons _ (.cons_cons _ (List.nil_sublist _)))))))))) ?_
      refine h_one 14 (by decide +kernel) ?_
      refine o_storeV 14 (.cons _ (.cons _ (.cons _ (.cons _ (.cons_cons _ (.cons _ (.cons _ (.cons _ (.cons_cons _ (List.nil_sublist _)))))))))) ?_
      refine h_take 15 rfl (by decide +kernel) (.cons _ (.cons _ (.cons _ (.cons _ (.cons_cons _ (.cons _ (.cons _ (.cons _ (.cons_cons _ (List.nil_sublist _)))))))))) ?_
      refine h_take 16 rfl (by decide +kernel) (.cons _ (.cons _ (.cons _ (.cons _ (.cons_cons _ (.cons _ (.cons _ (.cons _ (.cons_cons _ (List.nil_sublist _)))))))))) ?_
      refine h_one 17 (by decide +kernel) ?_
      refine o_storeV 17 (.cons _ (.cons _ (.cons _ (.cons _ (.cons_cons _ (.cons _ (.cons _ (.cons _ (.cons_cons _ (List.nil_sublist _)))))))))) ?_
      refine h_end (by decide +kernel) ?_
      exact g_mem () trivial (by repeat (first | exact trivial | refine ⟨rfl, ?_⟩)) (List.Sublist.refl _)
    · have hgetD : oL.getD i [] = sl := hoG i _ ho
      have hgone : goneTo W oL bl (i + 1) = (gn || decide ((fs.length : Int) < b.ps.length)) := by
        rw [goneTo_succ hB, hgetD, ← hbB, onceR_gone W sl b la' lc', hkk, hIg, Bool.or_assoc]
        simp only [List.length_reverse, hfs, Int.ofNat_lt]
      have hblk : (bs'.set i nb).map BRow.blk = onceTo W oL bl (i + 1) := by
        rw [onceTo_succ hB, hgetD, List.map_set, hx3, ← hbB, ← onceR_blk W sl b la' lc', hnb]
      have hxsub : kept.reverse.Sublist b.xs := by have := keepR_sub W s1 b.xs; rw [← hIk] at this; exact this
      have hfsub : fs.Sublist b.ps := by rw [← hfs]; exact List.filter_sublist
      have hnbBd : nb.Bd := by
        rw [hnb2]
        exact ⟨hbB'.kind, hbB'.on, Nat.le_trans hfsub.length_le hbB'.phis, fun p hp => hbB'.phi p (hfsub.subset hp), Nat.le_trans hxsub.length_le hbB'.list, fun z hz => hbB'.ins z (hxsub.subset hz), hbB'.to⟩
      refine g_wd (H' := Ent.box p7 [.bool (goneTo W oL bl (i + 1))] 4 :: Ent.box q [nm, pa, .int .i64 R, .slice (some ⟨vb, vo, none⟩) bs.length c] 35 :: Ent.vec (some ⟨ob, oo, none⟩) bl.length oc 146 1 (outs.map (valS R)) :: Ent.box p2 [.int .i64 W] 3 :: Ent.vec (some ⟨vb, vo, none⟩) bs.length c 47 6 ((bs'.set i nb).flatMap blkC) :: ((bs'.set i nb).map blkE ++ ((outs.drop (i + 1)).map (entS R) ++ marks (D :: Ds)))) (fun w hw => ?_) ?_
      · have h2 : Wd S wk (blkPs nb ++ (Ent.box p7 [.bool (gn || decide ((fs.length : Int) < b.ps.length))] 4 :: Ent.box q [nm, pa, .int .i64 R, .slice (some ⟨vb, vo, none⟩) bs.length c] 35 :: Ent.vec (some ⟨ob, oo, none⟩) bl.length oc 146 1 (outs.map (valS R)) :: Ent.box p2 [.int .i64 W] 3 :: Ent.vec (some ⟨vb, vo, none⟩) bs.length c 47 6 ((bs'.set i nb).flatMap blkC) :: ((bs'.eraseIdx i).map blkE ++ ((outs.drop (i + 1)).map (entS R) ++ marks (D :: Ds))))) w := by
          refine hw.pick ⟨?_⟩
          obtain ⟨rx, hrx⟩ := List.Sublist.exists_perm_append (hxsub.map roE)
          obtain ⟨rf, hrf⟩ := List.Sublist.exists_perm_append (hfsub.map phE)
          refine ⟨rx ++ rf ++ [vecB sa R sc s, Ent.box p11 [.slice la' kept.length lc'] 45, Ent.box Bs [.slice b.la b.xs.length b.lc] Bt, Ent.box p10 [.slice sa R sc] 146, Ent.box p9 [.slice b.pa b.ps.length b.pc, .slice b.la b.xs.length b.lc, .int .i64 b.kind, .bool b.on.reg, .int .i64 b.on.n, .slice b.ta b.to.length b.tc] 47, insE b.la b.lc b.xs], ?_⟩
          rw [hnb2]
          unfold blkPs phVec insE
          classical
          refine List.perm_iff_count.2 fun e => ?_
          have h3 := List.perm_iff_count.1 hrx e
          have h4 := List.perm_iff_count.1 hrf e
          simp only [List.count_append, List.count_cons, List.count_nil] at h3 h4 ⊢
          omega
        rw [hgone]
        refine (Wd.join h2).perm ?_
        have h5 := map_pull blkE (l := bs'.set i nb) (k := i) (x := nb) (List.getElem?_set_self (by omega))
        have h6 : (bs'.set i nb).eraseIdx i = bs'.eraseIdx i := List.eraseIdx_set_eq
        rw [h6] at h5
        classical
        refine List.perm_iff_count.2 fun e => ?_
        have h7 := List.perm_iff_count.1 h5 e
        simp only [List.count_append, List.count_cons, blkE] at h7 ⊢
        omega
      · repeat (first | refine g_then ?_ | refine g_nil ?_ | refine g_region ?_ | refine g_opS rfl ?_ | refine g_inBlock ?_ | refine g_add rfl (by omega) (by omega) ?_)
        refine g_nextD (i + 1, bs'.set i nb, D :: Ds) rfl ⟨hilt, by simp only; rw [List.length_set]; exact hx2, hblk, fun z hz => ?_, fun z hz => ?_⟩ (by simp only; omega) (by repeat (first | exact trivial | refine ⟨rfl, ?_⟩)) (List.Sublist.refl _)
        · rcases List.mem_or_eq_of_mem_set hz with hz | rfl
          · exact hx4 z hz
          · exact hnbBd
        · rcases List.mem_cons.1 hz with rfl | hz
          · exact Nat.le_trans hszj hD
          · exact hx5 z hz
end Go.Proofs.YtbmnkjaelfjlhaaDoor


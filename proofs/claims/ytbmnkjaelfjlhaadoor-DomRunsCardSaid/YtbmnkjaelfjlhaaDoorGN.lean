/- Texts joined: Know BackL Table. -/
import Derived.Test.YtbmnkjaelfjlhaaDoorGC
import Derived.Test.YtbmnkjaelfjlhaaDoorGD
import Derived.Test.YtbmnkjaelfjlhaaDoorGE
import Derived.Test.YtbmnkjaelfjlhaaDoorGF
import Derived.Test.YtbmnkjaelfjlhaaDoorGI
import Derived.Test.YtbmnkjaelfjlhaaDoorGK
import Derived.Test.YtbmnkjaelfjlhaaDoorGL
import Derived.Test.YtbmnkjaelfjlhaaDoorGM
/- A callee that hands back a slice of new memory that is only read from then on. The unit 'ring'. -/
namespace Go.Proofs.YtbmnkjaelfjlhaaDoor
open Go Go.RowKit

/-- it hands back a slice, in 'mk', that reads as l -/
def RetK (P : Program) (f : FuncId) (args : List Value) (w0 : World) {α : Type} (s : Nat) (l : List α) (V : World → α → List Value → Prop) (mk : Value → Value) : Prop :=
  Ret P f args w0 fun u w' => ∃ x : Option Addr × Nat × (Nat → Prop), u = mk (.slice x.1 l.length x.2.1) ∧ Wd NoS w0 [⟨x.2.2, fun w => SlAt w (.slice x.1 l.length x.2.1) s l V⟩] w' ∧ True
section
variable {P : Program} {ro : Option Nat} {N : Nat} {ds : List Deferred} {S : Nat → Prop} {w0 w : World} {L : List (Nat × Value)} {H E : List Ent} {ops : Array Oper} {rest : List Oper} {Q : Exit → Act → World → Prop}
theorem g_callK {α : Type} {s : Nat} {l : List α} {V : World → α → List Value → Prop} {mk : Value → Value} {d ty f : Nat} {args : List Operand} {vs : List Value} {tys : Array Nat} {pos : String} {aft : Array Go.Edge} [h : EnterOk P f] [hx : Evs L args vs] (hd : okPut d N L = true)
    (hc : ∀ w, Wd S w0 H w → RetK P f vs w s l V mk)
    (k : ∀ a c fp, G N ds S w0 ((d, mk (.slice a l.length c)) :: L) (⟨fp, fun w => SlAt w (.slice a l.length c) s l V⟩ :: H) (wpListIn (FW ro) 0 P ops Q rest)) : G N ds S w0 L H (wpListIn (FW ro) 0 P ops Q (⟨some d, .call { callee := .value (.func f), args := args.toArray, argTypes := tys }, ty, pos, aft, none⟩ :: rest)) :=
  g_callE (val := fun x : Option Addr × Nat × (Nat → Prop) => mk (.slice x.1 l.length x.2.1)) (E := fun x => [⟨x.2.2, fun w => SlAt w (.slice x.1 l.length x.2.1) s l V⟩]) (φ := fun _ => True) hd hc fun x _ => k x.1 x.2.1 x.2.2
end
attribute [local irreducible] wpListIn Code.wpIn Exit.then Exit.inBlock bodyPost wpQuiet wpAnyIn
set_option maxHeartbeats 4000000
end Go.Proofs.YtbmnkjaelfjlhaaDoor


/- graph.Back, turneryref3.Back: what they return; the law GraphBacks, walked. -/
namespace Go.Proofs.YtbmnkjaelfjlhaaDoor
open Go Go.RowKit
attribute [local irreducible] wpListIn Code.wpIn Exit.then Exit.inBlock bodyPost wpQuiet wpAnyIn wpAnyH bodyPostM
set_option maxHeartbeats 4000000

end Go.Proofs.YtbmnkjaelfjlhaaDoor


/- dom.Table: what it returns; the law DomTables, walked. -/
namespace Go.Proofs.YtbmnkjaelfjlhaaDoor
open Go Go.RowKit
attribute [local irreducible] wpListIn Code.wpIn Exit.then Exit.inBlock bodyPost wpQuiet wpAnyIn wpAnyH bodyPostM
set_option maxHeartbeats 8000000

section
variable {P : Program} {ro : Option Nat} {N : Nat} {ds : List Deferred} {S : Nat → Prop} {w0 w : World} {L : List (Nat × Value)} {H : List Ent} {ops : Array Oper} {rest : List Oper} {Q : Exit → Act → World → Prop}
/-- a call that is handed piece number k -/
theorem g_callAt {α : Type} {val : α → Value} {E : α → Ent} {φ : α → Prop} {d ty f : Nat} (k : Nat) {e : Ent} {args : List Operand} {vs : List Value} {tys : Array Nat} {pos : String} {aft : Array Go.Edge} [h : EnterOk P f] [hx : Evs L args vs] (hk : H[k]? = some e) (hd : okPut d N L = true)
    (hc : ∀ w, Wd S w0 ([e] ++ H.eraseIdx k) w → Ret P f vs w fun u w' => ∃ x, u = val x ∧ Wd (fps [e]) w [E x] w' ∧ φ x)
    (kk : ∀ x, φ x → G N ds S w0 ((d, val x) :: L) (H.set k (E x)) (wpListIn (FW ro) 0 P ops Q rest)) : G N ds S w0 L H (wpListIn (FW ro) 0 P ops Q (⟨some d, .call { callee := .value (.func f), args := args.toArray, argTypes := tys }, ty, pos, aft, none⟩ :: rest)) :=
  g_permH (perm_pull hk) (g_callS (H1 := [e]) (H2 := H.eraseIdx k) (E := fun x => [E x]) hd hc fun x hx => g_permH (perm_set hk (E x)) (kk x hx))
end
/-- those that rule b from b up to, but not with, z -/
structure ChainUp (bl : List LBlock) (b : Nat) (z : Int) (l : List Int) : Prop where
  nodup : l.Nodup
  mem : ∀ x : Int, x ∈ l ↔ ∃ c : Nat, x = c ∧ Dom bl c b ∧ ¬ DomI bl c z
  len : l.length + wayM bl z ≤ bl.length
theorem chain_start {bl : List LBlock} {b : Nat} : ChainUp bl b b [] := by
  classical
  refine ⟨by simp, fun x => ⟨fun h => (by cases h), fun ⟨c, _, h, hn⟩ => absurd ⟨b, rfl, h⟩ hn⟩, ?_⟩
  have h1 := List.length_filter_le (fun c => decide (Dom bl c b)) (List.range bl.length)
  rw [List.length_range] at h1
  unfold wayM
  rw [if_neg (by omega)]
  simpa [domTo] using h1
theorem domI_self {bl : List LBlock} {a : Nat} : ¬ DomI bl a (treeN bl a) := fun ⟨c, hc, h⟩ => by
  by_cases hx : ∃ d, IDom bl d a
  · obtain ⟨d, hdd⟩ := hx
    rw [treeN_eq hdd] at hc
    have : d = c := by omega
    subst this
    exact hdd.2.1 (hdd.1.antisymm h)
  · rw [treeN_none fun c hc => hx ⟨c, hc⟩] at hc
    omega
theorem chain_step {bl : List LBlock} (hok : GoodB bl) (h0 : 0 < bl.length) {b a : Nat} {l : List Int} (had : Dom bl a b) (h : ChainUp bl b a l) : ChainUp bl b (treeN bl a) (l ++ [(a : Int)]) := by
  have hda : ∀ c, DomI bl c (a : Int) ↔ Dom bl c a := fun c => ⟨fun ⟨d, e, h⟩ => (show a = d by omega) ▸ h, fun h => ⟨a, rfl, h⟩⟩
  have hd : ∀ c, Dom bl c a ↔ (DomI bl c (treeN bl a) ∨ c = a) := fun c => domI_tree hok h0 had.1
  have hnot : (a : Int) ∉ l := fun hm => by
    obtain ⟨c, e, _, hn⟩ := (h.mem _).1 hm
    have : a = c := by omega
    subst this
    exact hn ((hda a).2 (.refl had.1))
  refine ⟨List.nodup_append.2 ⟨h.nodup, by simp, fun x hx y hy e => hnot (by rw [List.mem_singleton.1 hy] at e; rw [← e]; exact hx)⟩, fun x => ?_, ?_⟩
  · rw [List.mem_append, List.mem_singleton, h.mem]
    constructor
    · rintro (⟨c, e, h1, h2⟩ | e)
      · exact ⟨c, e, h1, fun k => h2 ((hda c).2 ((hd c).2 (.inl k)))⟩
      · exact ⟨a, e, had, domI_self⟩
    · rintro ⟨c, e, h1, h2⟩
      by_cases hc : Dom bl c a
      · rcases (hd c).1 hc with k | k
        · exact absurd k h2
        · subst k; exact .inr e
      · exact .inl ⟨c, e, h1, fun k => hc ((hda c).1 k)⟩
  · have := wayM_lt hok h0 had.1
    have := h.len
    rw [List.length_append, List.length_singleton]
    omega
theorem chain_end {bl : List LBlock} (hok : GoodB bl) (h0 : 0 < bl.length) {b : Nat} {l : List Int} (h : ChainUp bl b (-1) l) : sorted l = (domTo bl b bl.length).map fun x : Nat => (x : Int) := by
  classical
  refine sorted_filter h.nodup fun x => ?_
  rw [h.mem]
  exact ⟨fun ⟨c, e, h1, _⟩ => ⟨c, e, hok.rch h0 h1.1, by simpa using h1⟩, fun ⟨c, e, _, h1⟩ => ⟨c, e, by simpa using h1, fun ⟨d, hd, _⟩ => by omega⟩⟩
open Classical in
noncomputable def tabAt (bl : List LBlock) (ps : List Nat) (j : Nat) : List Int := if j ∈ ps then (domTo bl j bl.length).map fun x : Nat => (x : Int) else []
theorem table_ok (u : LUnit) (hl : light u) (k : Nat) (hgood : (askedL u k).1 = 0) (X : LFunc) (hX : u.funcs[k]? = some X) (hok : GoodB X.blocks) (hpos : 0 < X.blocks.length) (hch : (checkL u).1 = 0) (g fs : Value) (w0 : World) (hg : SlAt w0 g 3 u.globals GlobalV) (hf : SlAt w0 fs 4 u.funcs FuncV) (hways : CellsAt w0 0 0 waysC) :
    RetK Tryd.prog 27 [.agg #[g, fs], .int .i64 k] w0 1 (domL X.blocks) RowV fun v => .tuple #[v, .agg #[.int .i64 0, .int .i64 0]] := by
  classical
  have hg0 := hg
  have hf0 := hf
  obtain ⟨ga, gn, gc, gb, go, rfl, _⟩ := hg
  obtain ⟨fa, fn, fc, fb, fo, rfl, _⟩ := hf
  have hlx := hl.2 X (List.mem_of_getElem? hX)
  have h24 := hlx.1
  obtain ⟨bv, hbv, hfc⟩ := func_ok u hl k hgood _ _ X hX w0 hg0 hf0 hways
  have hbv0 := hbv
  obtain ⟨ba, n, bc, bb, bo', rfl, hn, hnc, hnb, hbc, hba, hel⟩ := hbv
  obtain ⟨R, hXR, hR, hFO⟩ := check_func hch hX
  refine ret_enter Tryd.func27 rfl Tryd.ntmps27 rfl (Wd.nil NoS w0) ?_
  repeat (first | refine g_op rfl ?_ | refine g_then ?_ | refine g_nil ?_ | refine g_region ?_ | refine g_seq ?_ | refine g_box rfl fun _ _ => ?_ | refine g_alloc rfl fun _ _ => ?_)
  rename_i p2 _ p5 _
  refine g_callV rfl (fun w hw => hfc w hw.chg) ?_
  repeat (first | refine g_op rfl ?_ | refine g_then ?_ | refine g_nil ?_ | refine g_region ?_ | refine g_seq ?_ | refine g_alloc rfl fun _ _ => ?_ | refine g_storeAgg ?_ | refine g_skip ?_ | refine g_condF ?_)
  rename_i p6 _ p7 _
  refine g_callE (val := fun a : Nat => .slice (some ⟨a, 0, none⟩) n n) (E := fun a => [Ent.vec (some ⟨a, 0, none⟩) n n 3 1 (((List.range X.blocks.length).map (treeN X.blocks)).map (.int .i64))]) (φ := fun _ => True) rfl (fun w hw => by
    have := treeOf_c (.string X.name) (.int .i64 X.params) (.int .i64 X.regs) X.blocks _ ⟨ba, n, bc, rfl⟩ w (hbv0.keep keeps_block hw.chg) (by omega) hok (fun b B hB => (hFO.block b B hB).to) hpos
    rw [← hn] at this ⊢
    exact this) fun ua _ => ?_
  simp only [List.cons_append, List.nil_append]
  repeat (first | refine g_op rfl ?_ | refine g_then ?_ | refine g_nil ?_ | refine g_region ?_ | refine g_seq ?_ | refine g_make rfl (by omega) (by omega) fun _ _ => ?_)
  rename_i bo _
  refine g_callE (val := fun x : Option Addr × Nat => .slice x.1 (postL X.blocks).length x.2) (E := fun x => [Ent.vec x.1 (postL X.blocks).length x.2 3 1 ((postL X.blocks).map intN)]) (φ := fun _ => True) rfl (fun w hw => graphPost_c _ _ _ X.blocks _ w (hbv0.keep keeps_block hw.chg) (by omega) hok hpos) fun x _ => ?_
  obtain ⟨xa, xc⟩ := x
  simp only [List.cons_append, List.nil_append]
  repeat (first | refine g_op rfl ?_ | refine g_then ?_ | refine g_nil ?_ | refine g_block ?_)
  have hpn := (postL_seg hok hpos).1
  have hpl := postL_len hpos
  refine g_sel [1, 2, 0, 3, 5] (by decide) ?_
  refine g_nilVecs 3 1 n ?_
  rw [show (List.replicate n (Value.slice none 0 0)) = (List.replicate n (⟨none, 0, []⟩ : Row)).map valR by simp [valR], show (List.replicate n (Ent.vec none 0 0 3 1 [])) = (List.replicate n (⟨none, 0, []⟩ : Row)).map entR by simp [entR], ← map_intN]
  refine g_vec 2 rfl (List.length_pos_of_mem ((postL_mem hok hpos).2 .refl)) fun pb po hpa => ?_
  subst hpa
  refine g_loop (fun (x : Nat × List Row) => x.1 ≤ (postL X.blocks).length ∧ x.2.length = n ∧ ∀ j r, x.2[j]? = some r → r.l = tabAt X.blocks ((postL X.blocks).take x.1) j) (fun x => [(32, .int .i64 x.1), (31, .int .i64 (postL X.blocks).length), (30, .slice (some ⟨pb, po, none⟩) (postL X.blocks).length xc), (8, .slice (some ⟨ua, 0, none⟩) n n), (9, .slice (some ⟨bo, 0, none⟩) n n), (7, .pointer (some ⟨p7, 0, none⟩)), (5, .pointer (some ⟨p5, 0, none⟩))])
    (fun x => Ent.vec (some ⟨bo, 0, none⟩) n n 38 1 (x.2.map valR) :: Ent.vec (some ⟨ua, 0, none⟩) n n 3 1 (((List.range X.blocks.length).map (treeN X.blocks)).map (.int .i64)) :: Ent.vec (some ⟨pb, po, none⟩) (postL X.blocks).length xc 3 1 (((postL X.blocks).map fun x : Nat => (x : Int)).map (.int .i64)) :: Ent.box p7 [.int .i64 0, .int .i64 0] 28 :: Ent.box p5 [.int .i64 0, .int .i64 0] 28 :: x.2.map entR) (fun x => (postL X.blocks).length - x.1) (0, List.replicate n ⟨none, 0, []⟩)
    ⟨Nat.zero_le _, by simp, fun j r hr => ?_⟩ (g_done (by repeat (first | exact trivial | refine ⟨rfl, ?_⟩)) (by simp)) fun x ⟨hi, hrl, hrows⟩ => ?_
  · simp only [List.getElem?_replicate] at hr
    split at hr
    · simp only [Option.some.injEq] at hr
      subst hr
      simp [tabAt]
    · cases hr
  obtain ⟨i, rs⟩ := x
  simp only at hi hrl hrows ⊢
  repeat (first | refine g_op rfl ?_ | refine g_then ?_ | refine g_nil ?_ | refine g_region ?_ | refine g_seq ?_)
  refine g_cond (fun h1 => ?_) (fun h1 => ?_)
  · have hlt : i < (postL X.blocks).length := by simpa using h1
    obtain ⟨b, hb⟩ : ∃ b, (postL X.blocks)[i]? = some b := ⟨_, List.getElem?_eq_getElem hlt⟩
    have hbm := List.mem_of_getElem? hb
    have hbr := (postL_mem hok hpos).1 hbm
    have hbn : b < n := by have := hok.rch hpos hbr; omega
    have htk : (postL X.blocks).take (i + 1) = (postL X.blocks).take i ++ [b] := by rw [List.take_add_one, hb]; rfl
    have hbnot : b ∉ (postL X.blocks).take i := fun hm => by
      obtain ⟨j, hj⟩ := List.getElem?_of_mem hm
      have hji : j < i := by have := (List.getElem?_eq_some_iff.1 hj).1; rw [List.length_take] at this; omega
      rw [List.getElem?_take_of_lt hji] at hj
      have e1 := rk_get hpn hj
      have e2 := rk_get hpn hb
      omega
    have hli : LtIs i (postL X.blocks).length := ⟨hlt⟩
    have hel1 : ElAt ((postL X.blocks).map fun x : Nat => (x : Int)) i (b : Int) := ⟨by rw [List.getElem?_map, hb]; rfl⟩
    have hlb : LtIs b n := ⟨hbn⟩
    repeat (first | refine g_op rfl ?_ | refine g_then ?_ | refine g_nil ?_ | refine g_region ?_ | refine g_seq ?_ | refine g_block ?_ | refine g_skip ?_)
    obtain ⟨rb, hrb⟩ : ∃ r, rs[b]? = some r := ⟨_, List.getElem?_eq_getElem (by omega)⟩
    have hrb0 : rb.l = [] := by rw [hrows b rb hrb]; simp [tabAt, hbnot]
    refine g_loop (fun (x : Int × List Row) => ((x.1 < 0 ∧ x.1 = -1) ∨ ∃ c : Nat, x.1 = c ∧ Dom X.blocks c b) ∧ x.2.length = n ∧ (∀ j r, j ≠ b → x.2[j]? = some r → r.l = tabAt X.blocks ((postL X.blocks).take i) j) ∧ ∃ r, x.2[b]? = some r ∧ ChainUp X.blocks b x.1 r.l) (fun x => [(12, .int .i64 x.1), (11, .int .i64 b), (32, .int .i64 i), (31, .int .i64 (postL X.blocks).length), (30, .slice (some ⟨pb, po, none⟩) (postL X.blocks).length xc), (8, .slice (some ⟨ua, 0, none⟩) n n), (9, .slice (some ⟨bo, 0, none⟩) n n), (7, .pointer (some ⟨p7, 0, none⟩)), (5, .pointer (some ⟨p5, 0, none⟩))])
      (fun x => Ent.vec (some ⟨bo, 0, none⟩) n n 38 1 (x.2.map valR) :: Ent.vec (some ⟨ua, 0, none⟩) n n 3 1 (((List.range X.blocks.length).map (treeN X.blocks)).map (.int .i64)) :: Ent.vec (some ⟨pb, po, none⟩) (postL X.blocks).length xc 3 1 (((postL X.blocks).map fun x : Nat => (x : Int)).map (.int .i64)) :: Ent.box p7 [.int .i64 0, .int .i64 0] 28 :: Ent.box p5 [.int .i64 0, .int .i64 0] 28 :: x.2.map entR) (fun x => wayM X.blocks x.1) ((b : Int), rs)
      ⟨.inr ⟨b, rfl, .refl hbr⟩, hrl, fun j r _ hr => hrows j r hr, rb, hrb, by rw [hrb0]; exact chain_start⟩ (g_done (by repeat (first | exact trivial | refine ⟨rfl, ?_⟩)) (List.Sublist.refl _)) fun x ⟨hz, hrl1, hrows1, r, hr, hch1⟩ => ?_
    obtain ⟨z, rs1⟩ := x
    simp only at hz hrl1 hrows1 hr hch1 ⊢
    have hcl := hch1.len
    repeat (first | refine g_op rfl ?_ | refine g_then ?_ | refine g_nil ?_ | refine g_region ?_ | refine g_seq ?_)
    rcases hz with ⟨hz0, rfl⟩ | ⟨a, rfl, had⟩
    · rw [show decide ((0 : Int) ≤ -1) = false from rfl]
      repeat (first | refine g_op rfl ?_ | refine g_then ?_ | refine g_region ?_ | refine g_condF ?_ | refine g_exit ?_ | refine g_thenExit ?_ | refine g_exitHere ?_)
      have hxa : XAt (rs1.map valR) (b * 1) (.slice r.a r.l.length r.c) := ⟨by simp [hr, valR]⟩
      repeat (refine g_op rfl ?_)
      refine g_callAt (b + 5) (e := Ent.vec r.a r.l.length r.c 3 1 (r.l.map (.int .i64))) (val := fun _ : Unit => .tuple #[]) (E := fun _ => Ent.vec r.a r.l.length r.c 3 1 ((sorted r.l).map (.int .i64))) (φ := fun _ => True) (by simp [hr, entR]) rfl (fun w hw => sort_c r.a r.c r.l (by omega) w hw.pre) fun _ _ => ?_
      refine g_eqH (H1 := Ent.vec (some ⟨bo, 0, none⟩) n n 38 1 ((rs1.set b (⟨r.a, r.c, sorted r.l⟩ : Row)).map valR) :: Ent.vec (some ⟨ua, 0, none⟩) n n 3 1 (((List.range X.blocks.length).map (treeN X.blocks)).map (.int .i64)) :: Ent.vec (some ⟨pb, po, none⟩) (postL X.blocks).length xc 3 1 (((postL X.blocks).map fun x : Nat => (x : Int)).map (.int .i64)) :: Ent.box p7 [.int .i64 0, .int .i64 0] 28 :: Ent.box p5 [.int .i64 0, .int .i64 0] 28 :: (rs1.set b (⟨r.a, r.c, sorted r.l⟩ : Row)).map entR) ?_ ?_
      · rw [List.map_set, List.map_set, set_self (l := rs1.map valR) (by rw [List.getElem?_map, hr]; simp [valR, sorted_len])]
        simp [entR, sorted_len]
      repeat (first | refine g_then ?_ | refine g_nil ?_ | refine g_region ?_ | refine g_opS rfl ?_ | refine g_inBlock ?_ | refine g_add rfl (by omega) (by omega) ?_)
      refine g_next (i + 1, rs1.set b (⟨r.a, r.c, sorted r.l⟩ : Row)) ⟨hlt, by simpa using hrl1, fun j q hq => ?_⟩ (by simp only; omega) (by repeat (first | exact trivial | refine ⟨rfl, ?_⟩)) (List.Sublist.refl _)
      simp only
      rw [htk]
      by_cases hjb : j = b
      · subst hjb
        rw [List.getElem?_set_self (by omega)] at hq
        simp only [Option.some.injEq] at hq
        subst hq
        simp only
        rw [chain_end hok hpos hch1]
        simp [tabAt]
      · rw [List.getElem?_set_ne (Ne.symm hjb)] at hq
        rw [hrows1 j q hjb hq]
        simp [tabAt, hjb]
    · have han : a < n := by have := hok.rch hpos had.1; omega
      rw [show decide ((0 : Int) ≤ (a : Int)) = true by simp]
      have hla : LtIs a n := ⟨han⟩
      have hta := treeN_dom hok hpos (b := a) had
      have hms := wayM_lt hok hpos had.1
      have hela : ElAt ((List.range X.blocks.length).map (treeN X.blocks)) a (treeN X.blocks a) := ⟨by rw [List.getElem?_map, List.getElem?_range (by omega)]; rfl⟩
      have hxa : XAt (rs1.map valR) (b * 1) (.slice r.a r.l.length r.c) := ⟨by simp [hr, valR]⟩
      have hbl2 : b < rs1.length := by omega
      repeat (first | refine g_op rfl ?_ | refine g_then ?_ | refine g_region ?_ | refine g_seq ?_ | refine g_block ?_ | refine g_skip ?_ | refine g_condT ?_ | refine g_build1 rfl rfl fun _ _ => ?_)
      rename_i bt _
      refine g_appendAt (b + 6) (xs := r.l.map (.int .i64)) (e := 3) (by simp [hr, entR]) rfl rfl (by omega) (by omega) fun a' c' => ?_
      refine g_eqH (H1 := Ent.vec (some ⟨bt, 0, none⟩) 1 1 3 1 [.int .i64 a] :: Ent.vec (some ⟨bo, 0, none⟩) n n 38 1 (rs1.map valR) :: Ent.vec (some ⟨ua, 0, none⟩) n n 3 1 (((List.range X.blocks.length).map (treeN X.blocks)).map (.int .i64)) :: Ent.vec (some ⟨pb, po, none⟩) (postL X.blocks).length xc 3 1 (((postL X.blocks).map fun x : Nat => (x : Int)).map (.int .i64)) :: Ent.box p7 [.int .i64 0, .int .i64 0] 28 :: Ent.box p5 [.int .i64 0, .int .i64 0] 28 :: (rs1.set b (⟨a', c', r.l ++ [(a : Int)]⟩ : Row)).map entR) (by simp [entR, List.map_set]) ?_
      have hxs : XSet (rs1.map valR) (b * 1) (.slice a' (r.l.length + 1) c') ((rs1.set b (⟨a', c', r.l ++ [(a : Int)]⟩ : Row)).map valR) := ⟨by simp [valR, List.map_set], by simpa using hbl2⟩
      repeat (first | refine g_op rfl ?_ | refine g_then ?_ | refine g_nil ?_ | refine g_region ?_ | refine g_opS rfl ?_ | refine g_inBlock ?_ | refine g_storeV ?_)
      exact g_next (treeN X.blocks a, rs1.set b (⟨a', c', r.l ++ [(a : Int)]⟩ : Row)) ⟨hta, by simpa using hrl1, fun j q hj hq => hrows1 j q hj (by rw [List.getElem?_set_ne (Ne.symm hj)] at hq; exact hq), _, List.getElem?_set_self hbl2, chain_step hok hpos had hch1⟩ hms (by repeat (first | exact trivial | refine ⟨rfl, ?_⟩)) (List.Sublist.cons _ (List.Sublist.refl _))
  · have hge : i = (postL X.blocks).length := by have := h1; simp at this; omega
    rw [hge, List.take_length] at hrows
    have hall : rs.map (·.l) = domL X.blocks := by
      apply List.ext_getElem?
      intro j
      by_cases hj : j < n
      · obtain ⟨r, hr⟩ : ∃ r, rs[j]? = some r := ⟨_, List.getElem?_eq_getElem (by omega)⟩
        rw [List.getElem?_map, hr, domL_get (by omega), Option.map_some, hrows j r hr]
        unfold tabAt
        by_cases hm : j ∈ postL X.blocks
        · rw [if_pos hm]
        · rw [if_neg hm]
          have : domTo X.blocks j X.blocks.length = [] := List.eq_nil_iff_forall_not_mem.2 fun c hc => hm ((postL_mem hok hpos).2 (domTo_mem.1 hc).2.2.1)
          rw [this]; rfl
      · rw [List.getElem?_eq_none (by rw [List.length_map]; omega), List.getElem?_eq_none (by unfold domL gridL; rw [List.length_map, List.length_range]; omega)]
    have hdl : (domL X.blocks).length = n := by unfold domL gridL; rw [List.length_map, List.length_range, hn]
    repeat (first | refine g_then ?_ | refine g_seq ?_ | refine g_exit ?_ | refine g_thenExit ?_ | refine g_exitHere ?_)
    refine g_drawW [(4, .slice (some ⟨bo, 0, none⟩) n n), (5, .pointer (some ⟨p5, 0, none⟩))] (Ent.vec (some ⟨bo, 0, none⟩) n n 38 1 (rs.map valR) :: Ent.box p5 [.int .i64 0, .int .i64 0] 28 :: rs.map entR) mixed ?_ ?_
    · repeat' (first | refine g_any0 (by decide +kernel) ?_ | refine g_any (by decide +kernel) ?_ | refine any_nil | refine any_skip (by decide +kernel) ?_ | refine any_cons ?_ ?_ | refine g_op rfl ?_ | refine g_then ?_ | refine g_nil ?_ | refine g_storeAgg ?_)
      all_goals exact g_done (by repeat (first | exact trivial | refine ⟨rfl, ?_⟩)) (List.Sublist.cons_cons _ (List.Sublist.cons _ (List.Sublist.cons _ (List.Sublist.cons _ (List.Sublist.refl _)))))
    · repeat (first | refine g_then ?_ | refine g_ret ?_)
      refine g_retTC rfl fun w hw => ⟨(some ⟨bo, 0, none⟩, n, fps (Ent.vec (some ⟨bo, 0, none⟩) n n 38 1 (rs.map valR) :: rs.map entR)), by rw [hdl], ?_, trivial⟩
      rw [hdl]
      have := (hw.sub (List.Sublist.cons_cons _ (List.sublist_cons_self _ _))).grid (R := fun b a => Dom X.blocks a b) hrl (by omega) (by rw [hall, hn]; rfl)
      rw [hn] at this ⊢
      exact this
theorem domL_len (bl : List LBlock) : (domL bl).length = bl.length := by unfold domL gridL; rw [List.length_map, List.length_range]
end Go.Proofs.YtbmnkjaelfjlhaaDoor


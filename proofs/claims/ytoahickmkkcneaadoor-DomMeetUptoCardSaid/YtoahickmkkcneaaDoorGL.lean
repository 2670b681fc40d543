/- Texts joined: FrontA FrontB FrontC FrontD FrontE. -/
import Derived.Test.YtoahickmkkcneaaDoorGE
import Derived.Test.YtoahickmkkcneaaDoorGF
import Derived.Test.YtoahickmkkcneaaDoorGG
/- Dominance frontiers, as plain facts; slices.Contains at numbers: what it returns. -/
namespace Go.Proofs.YtoahickmkkcneaaDoor
open Go Go.RowKit
attribute [local irreducible] wpListIn Code.wpIn Exit.then Exit.inBlock bodyPost wpQuiet wpAnyIn wpAnyH
set_option maxHeartbeats 4000000

/-- b is where what a rules ends -/
def FrontR (bl : List LBlock) (a b : Nat) : Prop := ∃ p, Rch bl (-1) 0 p ∧ Edge bl p b ∧ Dom bl a p ∧ (a = b ∨ ¬ Dom bl a b)
noncomputable def frontL (bl : List LBlock) : List (List Int) := gridL (FrontR bl) bl.length
/-- i rules the nearest one of b -/
def Stop (bl : List LBlock) (b i : Nat) : Prop := ∃ c, IDom bl c b ∧ Dom bl i c
theorem stop_iff {bl : List LBlock} (hok : GoodB bl) (h0 : 0 < bl.length) {b i : Nat} (hb : Rch bl (-1) 0 b) : ¬ Stop bl b i ↔ (i = b ∨ ¬ Dom bl i b) := by
  by_cases hb0 : b = 0
  · subst hb0
    refine ⟨fun _ => ?_, fun _ ⟨c, hc, _⟩ => hc.2.1 (dom_zero hc.1)⟩
    by_cases h : Dom bl i 0
    · exact .inl (dom_zero h)
    · exact .inr h
  · obtain ⟨c, hc⟩ := idom_ex hok h0 hb hb0
    have hs : Stop bl b i ↔ Dom bl i c := ⟨fun ⟨d, hd, h⟩ => by rw [hc.uniq hd]; exact h, fun h => ⟨c, hc, h⟩⟩
    rw [hs, hc.iff]
    constructor
    · intro h
      by_cases e : i = b
      · exact .inl e
      · exact .inr fun h' => h'.elim h e
    · rintro (e | h) hd
      · subst e
        exact hc.2.1 (hc.1.antisymm hd)
      · exact h (.inl hd)
/-- who is marked at b by the first j of those that lead to it -/
def Mark (bl : List LBlock) (b : Nat) (ps : List Nat) (i : Nat) : Prop := ∃ p ∈ ps, Rch bl (-1) 0 p ∧ Dom bl i p ∧ ¬ Stop bl b i
theorem mark_front {bl : List LBlock} (hok : GoodB bl) (h0 : 0 < bl.length) {b i : Nat} (hb : Rch bl (-1) 0 b) {ps : List Nat} (hps : ∀ p, p ∈ ps ↔ (p < bl.length ∧ Edge bl p b)) : Mark bl b ps i ↔ FrontR bl i b := by
  constructor
  · rintro ⟨p, hp, hr, hd, hs⟩
    exact ⟨p, hr, ((hps p).1 hp).2, hd, (stop_iff hok h0 hb).1 hs⟩
  · rintro ⟨p, hr, he, hd, hs⟩
    exact ⟨p, (hps p).2 ⟨hok.rch h0 hr, he⟩, hr, hd, (stop_iff hok h0 hb).2 hs⟩
/-- a number as a block that is ruled -/
def DomI (bl : List LBlock) (i : Nat) (z : Int) : Prop := ∃ c : Nat, z = c ∧ Dom bl i c
/-- who is marked on the way up from p, which has come to z -/
def Way (bl : List LBlock) (b : Nat) (ps : List Nat) (p : Nat) (z : Int) (i : Nat) : Prop := Mark bl b ps i ∨ (Dom bl i p ∧ ¬ DomI bl i z)
theorem way_start {bl : List LBlock} {b p i : Nat} {ps : List Nat} : Way bl b ps p p i ↔ Mark bl b ps i := by
  refine ⟨fun h => h.elim id fun ⟨h1, h2⟩ => absurd ⟨p, rfl, h1⟩ h2, .inl⟩
theorem domI_tree {bl : List LBlock} (hok : GoodB bl) (h0 : 0 < bl.length) {a i : Nat} (ha : Rch bl (-1) 0 a) : Dom bl i a ↔ (DomI bl i (treeN bl a) ∨ i = a) := by
  by_cases ha0 : a = 0
  · subst ha0
    rw [treeN_none fun c hc => hc.2.1 (dom_zero hc.1)]
    refine ⟨fun h => .inr (dom_zero h), fun h => h.elim (fun ⟨c, hc, _⟩ => by omega) fun e => by subst e; exact .refl ha⟩
  · obtain ⟨c, hc⟩ := idom_ex hok h0 ha ha0
    rw [treeN_eq hc, hc.iff]
    exact ⟨fun h => h.imp (fun h => ⟨c, rfl, h⟩) id, fun h => h.imp (fun ⟨d, e, h⟩ => (show c = d by omega) ▸ h) id⟩
theorem way_step {bl : List LBlock} (hok : GoodB bl) (h0 : 0 < bl.length) {b p a i : Nat} {ps : List Nat} (hap : Dom bl a p) : Way bl b ps p (treeN bl a) i ↔ (Way bl b ps p a i ∨ i = a) := by
  have hd := domI_tree hok h0 (a := a) (i := i) hap.1
  have hself : ¬ DomI bl a (treeN bl a) := fun ⟨c, hc, h⟩ => by
    by_cases hx : ∃ d, IDom bl d a
    · obtain ⟨d, hdd⟩ := hx
      rw [treeN_eq hdd] at hc
      have : d = c := by omega
      subst this
      exact hdd.2.1 (hdd.1.antisymm h)
    · rw [treeN_none fun c hc => hx ⟨c, hc⟩] at hc
      omega
  have hda : DomI bl i (a : Int) ↔ Dom bl i a := ⟨fun ⟨c, e, h⟩ => (show a = c by omega) ▸ h, fun h => ⟨a, rfl, h⟩⟩
  unfold Way
  rw [hda]
  constructor
  · rintro (h | ⟨h1, h2⟩)
    · exact .inl (.inl h)
    · by_cases e : i = a
      · exact .inr e
      · exact .inl (.inr ⟨h1, fun h => (hd.1 h).elim h2 e⟩)
  · rintro ((h | ⟨h1, h2⟩) | e)
    · exact .inl h
    · exact .inr ⟨h1, fun h => h2 (hd.2 (.inl h))⟩
    · subst e; exact .inr ⟨hap, hself⟩
/-- where the way up ends -/
theorem way_end {bl : List LBlock} {b p i : Nat} {ps : List Nat} {z : Int} (hp : Rch bl (-1) 0 p) (hH : ∀ c, IDom bl c b → DomI bl c z) (hz : z < 0 ∨ z = treeN bl b) : Way bl b ps p z i ↔ Mark bl b (ps ++ [p]) i := by
  have hs : DomI bl i z ↔ Stop bl b i := by
    by_cases hx : ∃ c, IDom bl c b
    · obtain ⟨c, hc⟩ := hx
      obtain ⟨c', e', _⟩ := hH c hc
      have e : z = c := by
        rcases hz with h | h
        · omega
        · rw [h, treeN_eq hc]
      refine ⟨fun ⟨d, hd, h⟩ => ⟨c, hc, ?_⟩, fun ⟨d, hd, h⟩ => ⟨c, e, ?_⟩⟩
      · have : d = c := by omega
        exact this ▸ h
      · rw [hc.uniq hd]; exact h
    · have e : z < 0 := hz.elim id fun h => by rw [h, treeN_none fun c hc => hx ⟨c, hc⟩]; omega
      exact ⟨fun ⟨d, hd, _⟩ => by omega, fun ⟨d, hd, _⟩ => absurd ⟨d, hd⟩ hx⟩
  unfold Way Mark
  rw [hs]
  constructor
  · rintro (⟨q, hq, h⟩ | ⟨h1, h2⟩)
    · exact ⟨q, List.mem_append_left _ hq, h⟩
    · exact ⟨p, by simp, hp, h1, h2⟩
  · rintro ⟨q, hq, hr, hd, hn⟩
    rcases List.mem_append.1 hq with hq | hq
    · exact .inl ⟨q, hq, hr, hd, hn⟩
    · rw [List.mem_singleton.1 hq] at hd; exact .inr ⟨hd, hn⟩
theorem mark_pass {bl : List LBlock} {b p i : Nat} {ps : List Nat} (hp : ¬ Rch bl (-1) 0 p) : Mark bl b (ps ++ [p]) i ↔ Mark bl b ps i := by
  unfold Mark
  constructor
  · rintro ⟨q, hq, hr, h⟩
    rcases List.mem_append.1 hq with hq | hq
    · exact ⟨q, hq, hr, h⟩
    · rw [List.mem_singleton.1 hq] at hr; exact absurd hr hp
  · rintro ⟨q, hq, h⟩
    exact ⟨q, List.mem_append_left _ hq, h⟩
theorem way_up {bl : List LBlock} (hok : GoodB bl) (h0 : 0 < bl.length) {b a : Nat} (ha : Rch bl (-1) 0 a) (hH : ∀ c, IDom bl c b → DomI bl c (a : Int)) (hne : (a : Int) ≠ treeN bl b) : ∀ c, IDom bl c b → DomI bl c (treeN bl a) := by
  intro c hc
  obtain ⟨a', e, hd⟩ := hH c hc
  have : a = a' := by omega
  subst this
  rcases (domI_tree hok h0 ha).1 hd with h | h
  · exact h
  · subst h; exact absurd (treeN_eq hc).symm hne
noncomputable def wayM (bl : List LBlock) (z : Int) : Nat := if z < 0 then 0 else (domTo bl z.toNat bl.length).length
theorem wayM_lt {bl : List LBlock} (hok : GoodB bl) (h0 : 0 < bl.length) {a : Nat} (ha : Rch bl (-1) 0 a) : wayM bl (treeN bl a) < wayM bl a := by
  have h1 : 0 < (domTo bl a bl.length).length := List.length_pos_of_mem (domTo_mem.2 ⟨hok.rch h0 ha, .refl ha⟩)
  have e1 : wayM bl (a : Int) = (domTo bl a bl.length).length := by unfold wayM; rw [if_neg (by omega)]; rfl
  rw [e1]
  by_cases hx : ∃ c, IDom bl c a
  · obtain ⟨c, hc⟩ := hx
    rw [treeN_eq hc]
    have e2 : wayM bl (c : Int) = (domTo bl c bl.length).length := by unfold wayM; rw [if_neg (by omega)]; rfl
    have := idom_has hok h0 hc
    omega
  · rw [treeN_none fun c hc => hx ⟨c, hc⟩]
    unfold wayM
    rw [if_pos (by omega)]; exact h1
open Classical in
/-- rows as they stand: those below b are done, at b those of V are marked -/
noncomputable def frAt (bl : List LBlock) (b : Nat) (V : Nat → Prop) (i : Nat) : List Int := (((List.range b).filter fun c => decide (FrontR bl i c)).map fun x : Nat => (x : Int)) ++ if V i then [(b : Int)] else []
theorem frAt_congr {bl : List LBlock} {b i : Nat} {V W : Nat → Prop} (h : V i ↔ W i) : frAt bl b V i = frAt bl b W i := by
  classical
  unfold frAt
  by_cases hv : V i
  · rw [if_pos hv, if_pos (h.1 hv)]
  · rw [if_neg hv, if_neg fun hw => hv (h.2 hw)]
theorem frAt_next {bl : List LBlock} {b i : Nat} : frAt bl b (fun i => FrontR bl i b) i = frAt bl (b + 1) (fun _ => False) i := by
  classical
  unfold frAt
  simp only [if_false]
  rw [List.append_nil, filterTo_succ (p := fun c => FrontR bl i c) b, List.map_append]
  congr 1
  by_cases h : FrontR bl i b <;> simp [h]
theorem frAt_mem {bl : List LBlock} {b i : Nat} {V : Nat → Prop} : (b : Int) ∈ frAt bl b V i ↔ V i := by
  classical
  unfold frAt
  rw [List.mem_append]
  constructor
  · rintro (h | h)
    · obtain ⟨x, hx, e⟩ := List.mem_map.1 h
      have := List.mem_range.1 (List.mem_filter.1 hx).1
      omega
    · by_cases hv : V i
      · exact hv
      · rw [if_neg hv] at h; cases h
  · intro h
    rw [if_pos h]; exact .inr (by simp)
theorem frAt_bd {bl : List LBlock} {b i : Nat} {V : Nat → Prop} (hb : b ≤ 100) : (frAt bl b V i).length ≤ 1000 ∧ ∀ x ∈ frAt bl b V i, inI x := by
  classical
  have h1 := List.length_filter_le (fun c => decide (FrontR bl i c)) (List.range b)
  rw [List.length_range] at h1
  unfold frAt
  refine ⟨?_, fun x hx => ?_⟩
  · rw [List.length_append, List.length_map]
    have : (if V i then [(b : Int)] else []).length ≤ 1 := by split <;> simp
    omega
  · rcases List.mem_append.1 hx with h | h
    · obtain ⟨y, hy, rfl⟩ := List.mem_map.1 h
      have := List.mem_range.1 (List.mem_filter.1 hy).1
      simp only [inI]; omega
    · by_cases hv : V i
      · rw [if_pos hv] at h
        rw [List.mem_singleton.1 h]; simp only [inI]; omega
      · rw [if_neg hv] at h; cases h
theorem frAt_add {bl : List LBlock} {b i : Nat} {V : Nat → Prop} (h : ¬ V i) : frAt bl b (fun j => V j ∨ j = i) i = frAt bl b V i ++ [(b : Int)] := by
  classical
  unfold frAt
  rw [if_pos (.inr rfl), if_neg h, List.append_nil]
theorem indexAny_c (v : Value) (l : List Int) (x : Int) (w0 : World) (hv : SlAt w0 v 1 l IntV) : Ret Tryd.prog 119 [v, .int .i64 x] w0 fun u w' => ∃ r : Int, u = .int .i64 r ∧ Wd NoS w0 [] w' ∧ (0 ≤ r ↔ x ∈ l) := by
  obtain ⟨a, n, c, b, o, rfl, hn, hnc, hnb, hc, ha, hel⟩ := hv
  refine ret_enter Tryd.func119 rfl Tryd.ntmps119 rfl (Wd.nil NoS w0) ?_
  repeat (first | refine g_op rfl ?_ | refine g_then ?_ | refine g_nil ?_ | refine g_region ?_ | refine g_seq ?_ | refine g_block ?_)
  refine g_loop (fun (i : Nat) => i ≤ n ∧ ∀ j y, j < i → l[j]? = some y → y ≠ x) (fun i => [(8, .int .i64 i), (6, .slice a n c), (7, .int .i64 n), (0, .slice a n c), (1, .int .i64 x)]) (fun _ => []) (fun i => n - i) 0 ⟨Nat.zero_le _, fun j y hj => by omega⟩ (g_done (by repeat (first | exact trivial | refine ⟨rfl, ?_⟩)) (by simp)) fun i ⟨hi, hall⟩ => ?_
  repeat (first | refine g_op rfl ?_ | refine g_then ?_ | refine g_nil ?_ | refine g_region ?_ | refine g_seq ?_)
  refine g_cond (fun h1 => ?_) (fun h1 => ?_)
  · have hlt : i < n := by simpa using h1
    obtain ⟨t, ht⟩ : ∃ t, l[i]? = some t := ⟨_, List.getElem?_eq_getElem (by omega)⟩
    have had : AddrIs a b o := ⟨ha (ne_of_get ht)⟩
    have hli : LtIs i n := ⟨hlt⟩
    obtain ⟨cs, hcs, rfl, _⟩ := hel i _ ht
    have hci : CellsIs w0 b (o + i * 1) _ := ⟨hcs⟩
    repeat (first | refine g_op rfl ?_ | refine g_then ?_ | refine g_nil ?_ | refine g_region ?_ | refine g_seq ?_ | refine g_block ?_ | refine g_skip ?_)
    refine g_cond (fun h2 => ?_) (fun h2 => ?_)
    · have h5 : x = t := by simpa using h2
      repeat (first | refine g_op rfl ?_ | refine g_then ?_ | refine g_nil ?_ | refine g_region ?_ | refine g_seq ?_ | refine g_ret ?_ | refine g_thenRet ?_ | refine g_blockRet ?_)
      exact g_ret1 rfl fun w hw => ⟨(i : Int), rfl, hw, ⟨fun _ => by rw [h5]; exact List.mem_of_getElem? ht, fun _ => by omega⟩⟩
    · have h5 : x ≠ t := by simpa using h2
      repeat (first | refine g_then ?_ | refine g_nil ?_ | refine g_region ?_ | refine g_opS rfl ?_ | refine g_inBlock ?_ | refine g_skip ?_ | refine g_add rfl (by omega) (by omega) ?_)
      refine g_next (i + 1) ⟨hlt, fun j y hj hy => ?_⟩ (by omega) (by repeat (first | exact trivial | refine ⟨rfl, ?_⟩)) (by simp)
      by_cases e : j = i
      · subst e
        rw [ht] at hy
        exact fun e => h5 (by rw [← e]; exact Option.some.inj hy.symm)
      · exact hall j y (by omega) hy
  · have hge : i = n := by have := h1; simp at this; omega
    repeat (first | refine g_op rfl ?_ | refine g_then ?_ | refine g_nil ?_ | refine g_region ?_ | refine g_seq ?_ | refine g_exit ?_ | refine g_thenExit ?_ | refine g_exitHere ?_ | refine g_ret ?_)
    refine g_ret1 rfl fun w hw => ⟨-1, rfl, hw, ⟨fun h => by omega, fun h => ?_⟩⟩
    obtain ⟨j, hj⟩ := List.getElem?_of_mem h
    exact absurd rfl (hall j x (by have := (List.getElem?_eq_some_iff.1 hj).1; omega) hj)
theorem contains_c (v : Value) (l : List Int) (x : Int) (w0 : World) (hv : SlAt w0 v 1 l IntV) (hvs : ∃ a n c, v = .slice a n c) : RetV Tryd.prog 117 [v, .int .i64 x] w0 (.bool (decide (x ∈ l))) := by
  obtain ⟨a, n, c, rfl⟩ := hvs
  refine ret_enter Tryd.func117 rfl Tryd.ntmps117 rfl (Wd.nil NoS w0) ?_
  repeat (first | refine g_op rfl ?_ | refine g_then ?_ | refine g_nil ?_ | refine g_region ?_ | refine g_seq ?_)
  refine g_callE (val := fun r : Int => .int .i64 r) (E := fun _ => []) (φ := fun r => 0 ≤ r ↔ x ∈ l) rfl (fun w hw => indexAny_c _ l x w (hv.keep keeps_int hw.chg)) fun r hr => ?_
  simp only [List.nil_append]
  repeat (first | refine g_op rfl ?_ | refine g_then ?_ | refine g_nil ?_ | refine g_opS rfl ?_ | refine g_ret ?_)
  exact g_retV rfl (by rw [decide_eq_decide.2 hr])
end Go.Proofs.YtoahickmkkcneaaDoor

/- dom.FrontOf: what it returns. -/
namespace Go.Proofs.YtoahickmkkcneaaDoor
open Go Go.RowKit
attribute [local irreducible] wpListIn Code.wpIn Exit.then Exit.inBlock bodyPost wpQuiet wpAnyIn wpAnyH
set_option maxHeartbeats 8000000

theorem treeL_sl {S : Nat → Prop} {w0 w : World} {H : List Ent} {k : Nat} {a : Option Addr} {n c e : Nat} {bl : List LBlock} (hw : Wd S w0 H w) (hk : H[k]? = some (Ent.vec a n c e 1 (((List.range bl.length).map (treeN bl)).map (.int .i64)))) (hn : n = bl.length) (hok : GoodB bl) (hpos : 0 < bl.length) (hlen : bl.length ≤ 100) : SlAt w (.slice a n c) 1 ((List.range bl.length).map (treeN bl)) IntV := by
  refine hw.slAt hk (by simpa using hn) (by omega) fun i x hx => ⟨[.int .i64 x], fun j v hj => ?_, rfl, ?_⟩
  · match j, hj with
    | 0, hj => rw [Nat.mul_one, Nat.add_zero, List.getElem?_map, hx]; simpa using hj
  · obtain ⟨b, _, rfl⟩ := List.mem_map.1 (List.mem_of_getElem? hx)
    by_cases h : ∃ c, IDom bl c b
    · obtain ⟨c, hc⟩ := h
      rw [treeN_eq hc]
      have := hok.rch hpos hc.1.1
      simp only [inI]; omega
    · rw [treeN_none fun c hc => h ⟨c, hc⟩]; simp [inI]
theorem tree_neg {bl : List LBlock} (hok : GoodB bl) (h0 : 0 < bl.length) {b : Nat} (hb0 : b ≠ 0) : decide (treeN bl b < 0) = !(open Classical in decide (Rch bl (-1) 0 b)) := by
  classical
  by_cases h : Rch bl (-1) 0 b
  · obtain ⟨c, hc⟩ := idom_ex hok h0 h hb0
    rw [treeN_eq hc]
    simp [h]
  · rw [treeN_none fun c hc => h hc.1.2.1]
    simp [h]
/-- where a way up comes to -/
theorem treeN_dom {bl : List LBlock} (_hok : GoodB bl) (_h0 : 0 < bl.length) {b p : Nat} (h : Dom bl b p) : (treeN bl b < 0 ∧ treeN bl b = -1) ∨ ∃ c : Nat, treeN bl b = c ∧ Dom bl c p := by
  by_cases hx : ∃ c, IDom bl c b
  · obtain ⟨c, hc⟩ := hx
    exact .inr ⟨c, treeN_eq hc, hc.1.trans h⟩
  · have e := treeN_none fun c hc => hx ⟨c, hc⟩
    exact .inl ⟨by rw [e]; omega, e⟩
theorem frontOf_c (nm pa re : Value) (bl : List LBlock) (bs : Value) (hbsl : ∃ a n c, bs = .slice a n c) (w0 : World) (hbs : SlAt w0 bs 6 bl BlockV) (hlen : bl.length ≤ 100) (hok : GoodB bl) (hto : ∀ (b : Nat) (B : LBlock), bl[b]? = some B → B.to.Nodup) (hpos : 0 < bl.length) :
    Ret Tryd.prog 83 [.agg #[nm, pa, re, bs]] w0 fun u w' => ∃ x : Nat × List Row, u = .slice (some ⟨x.1, 0, none⟩) bl.length bl.length ∧ Wd NoS w0 (Ent.vec (some ⟨x.1, 0, none⟩) bl.length bl.length 35 1 (x.2.map valR) :: x.2.map entR) w' ∧ x.2.map (·.l) = frontL bl := by
  classical
  obtain ⟨ba, n, bc, rfl⟩ := hbsl
  have hn : n = bl.length := hbs.at.1
  refine ret_enter Tryd.func83 rfl Tryd.ntmps83 rfl (Wd.nil NoS w0) ?_
  repeat (first | refine g_op rfl ?_ | refine g_then ?_ | refine g_nil ?_ | refine g_region ?_ | refine g_seq ?_ | refine g_box rfl fun _ _ => ?_)
  rename_i p1 _
  refine g_callE (val := fun a : Nat => .slice (some ⟨a, 0, none⟩) n n) (E := fun a => [Ent.vec (some ⟨a, 0, none⟩) n n 3 1 (((List.range bl.length).map (treeN bl)).map (.int .i64))]) (φ := fun _ => True) rfl (fun w hw => by
    have := treeOf_c nm pa re bl _ ⟨ba, n, bc, rfl⟩ w (hbs.keep keeps_block hw.chg) hlen hok hto hpos
    rw [← hn] at this ⊢
    exact this) fun ua _ => ?_
  simp only [List.cons_append, List.nil_append]
  repeat (first | refine g_op rfl ?_ | refine g_then ?_ | refine g_nil ?_ | refine g_region ?_ | refine g_seq ?_ | refine g_make rfl (by omega) (by omega) fun _ _ => ?_)
  rename_i bo _
  refine g_nilVecs 3 1 n ?_
  rw [show (List.replicate n (Value.slice none 0 0)) = (List.replicate n (⟨none, 0, []⟩ : Row)).map valR by simp [valR], show (List.replicate n (Ent.vec none 0 0 3 1 [])) = (List.replicate n (⟨none, 0, []⟩ : Row)).map entR by simp [entR]]
  refine g_callE (val := fun x : (Option Addr × Nat × Nat) × (Nat → Prop) => .slice x.1.1 x.1.2.1 x.1.2.2) (E := fun x => [⟨x.2, fun w => SlAt w (.slice x.1.1 x.1.2.1 x.1.2.2) 1 (aheadL bl) RowV⟩]) (φ := fun _ => True) rfl (fun w hw => graphAhead_c _ _ _ bl _ w (hbs.keep keeps_block hw.chg) hlen hok) fun x _ => ?_
  obtain ⟨⟨aa, an, ac⟩, fp⟩ := x
  simp only [List.cons_append, List.nil_append]
  repeat (first | refine g_op rfl ?_ | refine g_then ?_ | refine g_nil ?_ | refine g_block ?_)
  refine g_permH (H1 := (Ent.vec (some ⟨bo, 0, none⟩) n n 35 1 ((List.replicate n (⟨none, 0, []⟩ : Row)).map valR) :: (List.replicate n (⟨none, 0, []⟩ : Row)).map entR) ++ [⟨fp, fun w => SlAt w (.slice aa an ac) 1 (aheadL bl) RowV⟩, Ent.vec (some ⟨ua, 0, none⟩) n n 3 1 (((List.range bl.length).map (treeN bl)).map (.int .i64)), Ent.box p1 [nm, pa, re, .slice ba n bc] 34]) ((List.Perm.swap _ _ _).trans (List.Perm.cons _ (List.perm_append_comm (l₁ := [⟨fp, fun w => SlAt w (.slice aa an ac) 1 (aheadL bl) RowV⟩, Ent.vec (some ⟨ua, 0, none⟩) n n 3 1 (((List.range bl.length).map (treeN bl)).map (.int .i64)), Ent.box p1 [nm, pa, re, .slice ba n bc] 34])))) ?_
  refine g_holdK fun w1 hw1 => ?_
  have hahk : SlAt (killW (fps (Ent.vec (some ⟨bo, 0, none⟩) n n 35 1 ((List.replicate n (⟨none, 0, []⟩ : Row)).map valR) :: (List.replicate n (⟨none, 0, []⟩ : Row)).map entR)) w1) (.slice aa an ac) 1 (aheadL bl) RowV := hw1.beside (e := ⟨fp, fun w => SlAt w (.slice aa an ac) 1 (aheadL bl) RowV⟩) (by simp)
  have hupk : SlAt (killW (fps (Ent.vec (some ⟨bo, 0, none⟩) n n 35 1 ((List.replicate n (⟨none, 0, []⟩ : Row)).map valR) :: (List.replicate n (⟨none, 0, []⟩ : Row)).map entR)) w1) (.slice (some ⟨ua, 0, none⟩) n n) 1 ((List.range bl.length).map (treeN bl)) IntV := treeL_sl hw1.besides (k := 1) rfl hn hok hpos hlen
  have back : ∀ {E : List Ent} {w : World}, Wd (fps (Ent.vec (some ⟨bo, 0, none⟩) n n 35 1 ((List.replicate n (⟨none, 0, []⟩ : Row)).map valR) :: (List.replicate n (⟨none, 0, []⟩ : Row)).map entR)) (killW (fps (Ent.vec (some ⟨bo, 0, none⟩) n n 35 1 ((List.replicate n (⟨none, 0, []⟩ : Row)).map valR) :: (List.replicate n (⟨none, 0, []⟩ : Row)).map entR)) w1) E w → Wd NoS w0 (E ++ [⟨fp, fun w => SlAt w (.slice aa an ac) 1 (aheadL bl) RowV⟩, Ent.vec (some ⟨ua, 0, none⟩) n n 3 1 (((List.range bl.length).map (treeN bl)).map (.int .i64)), Ent.box p1 [nm, pa, re, .slice ba n bc] 34]) w := fun hw => hw1.comp hw.unkill
  have hold : ∀ {b o : Nat} {v : Value}, CellsAt (killW (fps (Ent.vec (some ⟨bo, 0, none⟩) n n 35 1 ((List.replicate n (⟨none, 0, []⟩ : Row)).map valR) :: (List.replicate n (⟨none, 0, []⟩ : Row)).map entR)) w1) b o [v] → OldIs (fps (Ent.vec (some ⟨bo, 0, none⟩) n n 35 1 ((List.replicate n (⟨none, 0, []⟩ : Row)).map valR) :: (List.replicate n (⟨none, 0, []⟩ : Row)).map entR)) b := fun hc => killOldIs hc (by simp)
  generalize killW (fps (Ent.vec (some ⟨bo, 0, none⟩) n n 35 1 ((List.replicate n (⟨none, 0, []⟩ : Row)).map valR) :: (List.replicate n (⟨none, 0, []⟩ : Row)).map entR)) w1 = wk at *
  generalize fps (Ent.vec (some ⟨bo, 0, none⟩) n n 35 1 ((List.replicate n (⟨none, 0, []⟩ : Row)).map valR) :: (List.replicate n (⟨none, 0, []⟩ : Row)).map entR) = SS at *
  obtain ⟨hanl, hanc, _, ab, ao, haa, hahel⟩ := hahk.at
  have hal : (aheadL bl).length = n := by unfold aheadL; rw [aheadTo_length, hn]
  rw [hal] at hanl
  have hanl' := hanl.symm
  subst hanl'
  have tree : ∀ b, b < n → CellsIs wk ua (0 + b * 1) [.int .i64 (treeN bl b)] ∧ OldIs SS ua := by
    intro b hb
    obtain ⟨_, hc, rfl, _⟩ := hupk.known b (treeN bl b) (by rw [List.getElem?_map, List.getElem?_range (by omega)]; rfl)
    exact ⟨⟨hc⟩, hold hc⟩
  refine g_loop (fun (x : Nat × List Row) => x.1 ≤ n ∧ x.2.length = n ∧ ∀ i r, x.2[i]? = some r → r.l = frAt bl x.1 (fun _ => False) i) (fun x => [(19, .int .i64 x.1), (17, .slice aa n ac), (18, .int .i64 n), (3, .slice (some ⟨ua, 0, none⟩) n n), (4, .slice (some ⟨bo, 0, none⟩) n n)])
    (fun x => Ent.vec (some ⟨bo, 0, none⟩) n n 35 1 (x.2.map valR) :: x.2.map entR) (fun x => n - x.1) (0, List.replicate n ⟨none, 0, []⟩)
    ⟨Nat.zero_le _, by simp, fun i r hr => ?_⟩ (g_done (by repeat (first | exact trivial | refine ⟨rfl, ?_⟩)) (List.Sublist.refl _)) fun x ⟨hi, hrl, hrows⟩ => ?_
  · simp only [List.getElem?_replicate] at hr
    split at hr
    · simp only [Option.some.injEq] at hr
      subst hr
      simp [frAt]
    · cases hr
  obtain ⟨b, rs⟩ := x
  simp only at hi hrl hrows ⊢
  repeat (first | refine g_op rfl ?_ | refine g_then ?_ | refine g_nil ?_ | refine g_region ?_ | refine g_seq ?_)
  refine g_cond (fun h1 => ?_) (fun h1 => ?_)
  · have hbn : b < n := by simpa using h1
    have harow := aheadL_get hok hto (t := b) (by omega)
    obtain ⟨_, hc2, v, rfl, hrow⟩ := hahel b _ harow
    have hada : AddrIs aa ab ao := ⟨haa (List.ne_nil_of_mem (List.mem_of_getElem? harow))⟩
    have hlb : LtIs b n := ⟨hbn⟩
    have hca : CellsIs wk ab (ao + b * 1) [v] := ⟨hc2⟩
    have ol2 : OldIs SS ab := hold hc2
    have hrow0 := hrow
    obtain ⟨ra, rn, rc, _, _, rfl, _⟩ := hrow0
    obtain ⟨hrn, hrnc, hrm, rb, ro, hra, hrel⟩ := hrow.at
    rw [List.length_map] at hrn
    have hps : ∀ p, p ∈ preds bl b ↔ (p < bl.length ∧ Edge bl p b) := fun p => by simp [preds, Edge]
    have hpn : (preds bl b).length ≤ 100 := by have := List.length_filter_le (fun i => decide ((b : Int) ∈ toOf bl i)) (List.range bl.length); rw [List.length_range] at this; unfold preds; omega
    generalize preds bl b = ps at *
    obtain ⟨htb, ol3⟩ := tree b hbn
    repeat (first | refine g_op rfl ?_ | refine g_then ?_ | refine g_nil ?_ | refine g_region ?_ | refine g_seq ?_ | refine g_block ?_ | refine g_skip ?_)
    refine g_joinTo 32 (.bool (!decide (Rch bl (-1) 0 b))) ?_ ?_
    · by_cases hb0 : b = 0
      · subst hb0
        rw [show decide ((0 : Int) < ((0 : Nat) : Int)) = false from rfl, show (!decide (Rch bl (-1) 0 0)) = false by simp [Rch.refl]]
        repeat (first | refine g_op rfl ?_ | refine g_then ?_ | refine g_nil ?_ | refine g_pass rfl ?_)
        exact g_done (by repeat (first | exact trivial | refine ⟨rfl, ?_⟩)) (List.Sublist.refl _)
      · rw [show decide ((0 : Int) < (b : Int)) = true by simp; omega, ← tree_neg hok hpos hb0]
        repeat (first | refine g_op rfl ?_ | refine g_then ?_ | refine g_nil ?_ | refine g_open ?_)
        exact g_done (by repeat (first | exact trivial | refine ⟨rfl, ?_⟩)) (List.Sublist.refl _)
    generalize he1 : decide (Rch bl (-1) 0 b) = e1
    cases e1
    · have hno : ¬ Rch bl (-1) 0 b := by simpa using he1
      rw [show (!false) = true from rfl]
      repeat (first | refine g_then ?_ | refine g_nil ?_ | refine g_region ?_ | refine g_opS rfl ?_ | refine g_condT ?_ | refine g_add rfl (by omega) (by omega) ?_ | refine g_exit ?_ | refine g_thenExit ?_ | refine g_exitHere ?_)
      refine g_next (b + 1, rs) ⟨hbn, hrl, fun i r hr => ?_⟩ (by simp only; omega) (by repeat (first | exact trivial | refine ⟨rfl, ?_⟩)) (List.Sublist.refl _)
      rw [hrows i r hr, ← frAt_next]
      exact frAt_congr ⟨fun h => h.elim, fun ⟨p, hp, he, _⟩ => hno (hp.step he (by omega))⟩
    have hrb : Rch bl (-1) 0 b := by simpa using he1
    rw [show (!true) = false from rfl]
    repeat (first | refine g_op rfl ?_ | refine g_then ?_ | refine g_nil ?_ | refine g_region ?_ | refine g_seq ?_ | refine g_block ?_ | refine g_skip ?_ | refine g_condF ?_)
    refine g_loop (fun (x : Nat × List Row) => x.1 ≤ rn ∧ x.2.length = n ∧ ∀ i r, x.2[i]? = some r → r.l = frAt bl b (Mark bl b (ps.take x.1)) i) (fun x => [(35, .int .i64 x.1), (33, .slice ra rn rc), (34, .int .i64 rn), (5, .int .i64 b), (19, .int .i64 b), (17, .slice aa n ac), (18, .int .i64 n), (3, .slice (some ⟨ua, 0, none⟩) n n), (4, .slice (some ⟨bo, 0, none⟩) n n)])
      (fun x => Ent.vec (some ⟨bo, 0, none⟩) n n 35 1 (x.2.map valR) :: x.2.map entR) (fun x => rn - x.1) (0, rs)
      ⟨Nat.zero_le _, hrl, fun i r hr => by rw [hrows i r hr]; exact frAt_congr ⟨fun h => h.elim, fun ⟨p, hp, _⟩ => by simp at hp⟩⟩ (g_done (by repeat (first | exact trivial | refine ⟨rfl, ?_⟩)) (List.Sublist.refl _)) fun x ⟨hj, hrl1, hrows1⟩ => ?_
    obtain ⟨j, rs1⟩ := x
    simp only at hj hrl1 hrows1 ⊢
    repeat (first | refine g_op rfl ?_ | refine g_then ?_ | refine g_nil ?_ | refine g_region ?_ | refine g_seq ?_)
    refine g_cond (fun h2 => ?_) (fun h2 => ?_)
    · have hjl : j < rn := by simpa using h2
      obtain ⟨p, hp⟩ : ∃ p, ps[j]? = some p := ⟨_, List.getElem?_eq_getElem (by omega)⟩
      have hpm := (hps p).1 (List.mem_of_getElem? hp)
      have htk : ps.take (j + 1) = ps.take j ++ [p] := by rw [List.take_add_one, hp]; rfl
      obtain ⟨_, hc3, rfl, _⟩ := hrel j (p : Int) (by rw [List.getElem?_map, hp]; rfl)
      have hadr : AddrIs ra rb ro := ⟨hra (fun e => by rw [List.map_eq_nil_iff] at e; rw [e] at hp; cases hp)⟩
      have hlj : LtIs j rn := ⟨hjl⟩
      have hcr : CellsIs wk rb (ro + j * 1) [.int .i64 (p : Int)] := ⟨hc3⟩
      have ol4 : OldIs SS rb := hold hc3
      have hlp : LtIs p n := ⟨by omega⟩
      obtain ⟨htp, _⟩ := tree p (by omega)
      repeat (first | refine g_op rfl ?_ | refine g_then ?_ | refine g_nil ?_ | refine g_region ?_ | refine g_seq ?_ | refine g_block ?_ | refine g_skip ?_)
      refine g_joinTo 47 (.bool (!decide (Rch bl (-1) 0 p))) ?_ ?_
      · by_cases hp0 : p = 0
        · subst hp0
          rw [show decide ((0 : Int) < ((0 : Nat) : Int)) = false from rfl, show (!decide (Rch bl (-1) 0 0)) = false by simp [Rch.refl]]
          repeat (first | refine g_op rfl ?_ | refine g_then ?_ | refine g_nil ?_ | refine g_pass rfl ?_)
          exact g_done (by repeat (first | exact trivial | refine ⟨rfl, ?_⟩)) (List.Sublist.refl _)
        · rw [show decide ((0 : Int) < (p : Int)) = true by simp; omega, ← tree_neg hok hpos hp0]
          repeat (first | refine g_op rfl ?_ | refine g_then ?_ | refine g_nil ?_ | refine g_open ?_)
          exact g_done (by repeat (first | exact trivial | refine ⟨rfl, ?_⟩)) (List.Sublist.refl _)
      generalize he2 : decide (Rch bl (-1) 0 p) = e2
      cases e2
      · have hno : ¬ Rch bl (-1) 0 p := by simpa using he2
        rw [show (!false) = true from rfl]
        repeat (first | refine g_then ?_ | refine g_nil ?_ | refine g_region ?_ | refine g_opS rfl ?_ | refine g_condT ?_ | refine g_add rfl (by omega) (by omega) ?_ | refine g_exit ?_ | refine g_thenExit ?_ | refine g_exitHere ?_)
        refine g_next (j + 1, rs1) ⟨hjl, hrl1, fun i r hr => ?_⟩ (by simp only; omega) (by repeat (first | exact trivial | refine ⟨rfl, ?_⟩)) (List.Sublist.refl _)
        rw [hrows1 i r hr]
        simp only
        rw [htk]
        exact frAt_congr (mark_pass hno).symm
      have hrp : Rch bl (-1) 0 p := by simpa using he2
      rw [show (!true) = false from rfl]
      repeat (first | refine g_op rfl ?_ | refine g_then ?_ | refine g_nil ?_ | refine g_region ?_ | refine g_seq ?_ | refine g_block ?_ | refine g_skip ?_ | refine g_condF ?_)
      refine g_loop (fun (x : Int × List Row) => ((x.1 < 0 ∧ x.1 = -1) ∨ ∃ c : Nat, x.1 = c ∧ Dom bl c p) ∧ (∀ c, IDom bl c b → DomI bl c x.1) ∧ x.2.length = n ∧ ∀ i r, x.2[i]? = some r → r.l = frAt bl b (Way bl b (ps.take j) p x.1) i) (fun x => [(9, .int .i64 x.1), (8, .int .i64 p), (35, .int .i64 j), (33, .slice ra rn rc), (34, .int .i64 rn), (5, .int .i64 b), (19, .int .i64 b), (17, .slice aa n ac), (18, .int .i64 n), (3, .slice (some ⟨ua, 0, none⟩) n n), (4, .slice (some ⟨bo, 0, none⟩) n n)])
        (fun x => Ent.vec (some ⟨bo, 0, none⟩) n n 35 1 (x.2.map valR) :: x.2.map entR) (fun x => wayM bl x.1) ((p : Int), rs1)
        ⟨.inr ⟨p, rfl, .refl hrp⟩, fun c hc => ⟨p, rfl, hc.1.edge hc.2.1 hpm.2 hrp⟩, hrl1, fun i r hr => by rw [hrows1 i r hr]; exact frAt_congr way_start.symm⟩ (g_done (by repeat (first | exact trivial | refine ⟨rfl, ?_⟩)) (List.Sublist.refl _)) fun x ⟨hz, hH, hrl2, hrows2⟩ => ?_
      obtain ⟨z, rs2⟩ := x
      simp only at hz hH hrl2 hrows2 ⊢
      have fin : (z < 0 ∨ z = treeN bl b) → ∀ i r, rs2[i]? = some r → r.l = frAt bl b (Mark bl b (ps.take (j + 1))) i := fun h i r hr => by
        rw [hrows2 i r hr, htk]
        exact frAt_congr (way_end hrp hH h)
      repeat (first | refine g_op rfl ?_ | refine g_region ?_ | refine g_seq ?_)
      rcases hz with ⟨hz0, rfl⟩ | ⟨a, rfl, had⟩
      · rw [show decide ((0 : Int) ≤ -1) = false from rfl]
        repeat (first | refine g_op rfl ?_ | refine g_then ?_ | refine g_nil ?_ | refine g_region ?_ | refine g_opS rfl ?_ | refine g_pass rfl ?_ | refine g_inBlock ?_ | refine g_condF ?_ | refine g_add rfl (by omega) (by omega) ?_ | refine g_exit ?_ | refine g_thenExit ?_ | refine g_exitHere ?_)
        exact g_next (j + 1, rs2) ⟨hjl, hrl2, fin (.inl hz0)⟩ (by simp only; omega) (by repeat (first | exact trivial | refine ⟨rfl, ?_⟩)) (List.Sublist.refl _)
      have hra' := had.1
      have han : a < n := by have := hok.rch hpos hra'; omega
      rw [show decide ((0 : Int) ≤ (a : Int)) = true by simp]
      repeat (first | refine g_op rfl ?_ | refine g_then ?_ | refine g_nil ?_ | refine g_open ?_)
      refine g_cond (fun h3 => ?_) (fun h3 => ?_)
      · have hne : (a : Int) ≠ treeN bl b := by simpa using h3
        have hla : LtIs a n := ⟨han⟩
        obtain ⟨hta, _⟩ := tree a han
        obtain ⟨r, hr⟩ : ∃ r, rs2[a]? = some r := ⟨_, List.getElem?_eq_getElem (by omega)⟩
        have hrb2 := frAt_bd (bl := bl) (b := b) (i := a) (V := Way bl b (ps.take j) p a) (by omega)
        rw [← hrows2 a r hr] at hrb2
        have hxa : XAt (rs2.map valR) (a * 1) (.slice r.a r.l.length r.c) := ⟨by simp [hr, valR]⟩
        have hal2 : a < rs2.length := by omega
        have hrt := treeN_dom hok hpos (b := a) had
        repeat (first | refine g_op rfl ?_ | refine g_then ?_ | refine g_region ?_ | refine g_seq ?_ | refine g_block ?_ | refine g_skip ?_)
        refine g_callV rfl (fun w hw => contains_c _ r.l b w (row_sl (E := [_]) (H := []) (by rw [List.append_nil]; exact hw) hr hrb2) ⟨_, _, _, rfl⟩) ?_
        rw [show decide ((b : Int) ∈ r.l) = decide (Way bl b (ps.take j) p a a) by rw [decide_eq_decide, hrows2 a r hr, frAt_mem]]
        generalize he3 : decide (Way bl b (ps.take j) p a a) = e3
        have hms := wayM_lt hok hpos hra'
        cases e3
        · have hnw : ¬ Way bl b (ps.take j) p a a := by simpa using he3
          repeat (first | refine g_op rfl ?_ | refine g_then ?_ | refine g_nil ?_ | refine g_region ?_ | refine g_condT ?_ | refine g_build1 rfl rfl fun _ _ => ?_)
          rename_i bt _
          refine g_appendAt (a + 2) (xs := r.l.map (.int .i64)) (e := 3) (by simp [hr, entR]) rfl rfl (by omega) (by omega) fun a' c' => ?_
          refine g_eqH (H1 := Ent.vec (some ⟨bt, 0, none⟩) 1 1 3 1 [.int .i64 b] :: Ent.vec (some ⟨bo, 0, none⟩) n n 35 1 (rs2.map valR) :: (rs2.set a ⟨a', c', r.l ++ [(b : Int)]⟩).map entR) (by simp [entR, List.map_set]) ?_
          have hxs : XSet (rs2.map valR) (a * 1) (.slice a' (r.l.length + 1) c') ((rs2.set a ⟨a', c', r.l ++ [(b : Int)]⟩).map valR) := ⟨by simp [valR, List.map_set], by simpa using hal2⟩
          repeat (first | refine g_op rfl ?_ | refine g_then ?_ | refine g_nil ?_ | refine g_region ?_ | refine g_opS rfl ?_ | refine g_inBlock ?_ | refine g_storeV ?_)
          refine g_next (treeN bl a, rs2.set a ⟨a', c', r.l ++ [(b : Int)]⟩) ⟨hrt, way_up hok hpos hra' hH hne, by simpa using hrl2, fun i q hq => ?_⟩ hms (by repeat (first | exact trivial | refine ⟨rfl, ?_⟩)) (List.Sublist.cons _ (List.Sublist.refl _))
          simp only [List.getElem?_set] at hq
          simp only
          rw [frAt_congr (W := fun i => Way bl b (ps.take j) p a i ∨ i = a) (way_step hok hpos had)]
          by_cases hia : a = i
          · subst hia
            simp only [if_true, hal2, Option.some.injEq] at hq
            subst hq
            simp only
            rw [frAt_add hnw, hrows2 a r hr]
          · rw [if_neg hia] at hq
            rw [hrows2 i q hq]
            exact frAt_congr ⟨.inl, fun h => h.elim id fun e => absurd e.symm hia⟩
        · have hw' : Way bl b (ps.take j) p a a := by simpa using he3
          repeat (first | refine g_op rfl ?_ | refine g_then ?_ | refine g_nil ?_ | refine g_region ?_ | refine g_opS rfl ?_ | refine g_inBlock ?_ | refine g_skip ?_ | refine g_condF ?_)
          refine g_next (treeN bl a, rs2) ⟨hrt, way_up hok hpos hra' hH hne, hrl2, fun i q hq => ?_⟩ hms (by repeat (first | exact trivial | refine ⟨rfl, ?_⟩)) (List.Sublist.refl _)
          rw [hrows2 i q hq]
          exact frAt_congr ((way_step hok hpos had).trans ⟨fun h => h.elim id fun e => by subst e; exact hw', .inl⟩).symm
      · have he : (a : Int) = treeN bl b := by simpa using h3
        repeat (first | refine g_then ?_ | refine g_nil ?_ | refine g_region ?_ | refine g_opS rfl ?_ | refine g_inBlock ?_ | refine g_add rfl (by omega) (by omega) ?_ | refine g_exit ?_ | refine g_thenExit ?_ | refine g_exitHere ?_)
        exact g_next (j + 1, rs2) ⟨hjl, hrl2, fin (.inr he)⟩ (by simp only; omega) (by repeat (first | exact trivial | refine ⟨rfl, ?_⟩)) (List.Sublist.refl _)
    · have hjr : j = rn := by have := h2; simp at this; omega
      rw [hjr, hrn, List.take_length] at hrows1
      repeat (first | refine g_then ?_ | refine g_nil ?_ | refine g_region ?_ | refine g_opS rfl ?_ | refine g_inBlock ?_ | refine g_add rfl (by omega) (by omega) ?_ | refine g_exit ?_ | refine g_thenExit ?_ | refine g_exitHere ?_)
      refine g_next (b + 1, rs1) ⟨hbn, hrl1, fun i r hr => ?_⟩ (by simp only; omega) (by repeat (first | exact trivial | refine ⟨rfl, ?_⟩)) (List.Sublist.refl _)
      rw [hrows1 i r hr, ← frAt_next]
      exact frAt_congr (mark_front hok hpos hrb hps)
  · have hge : b = n := by have := h1; simp at this; omega
    repeat (first | refine g_op rfl ?_ | refine g_then ?_ | refine g_nil ?_ | refine g_region ?_ | refine g_seq ?_ | refine g_exit ?_ | refine g_thenExit ?_ | refine g_exitHere ?_ | refine g_ret ?_)
    refine g_ret1 rfl fun w hw => ⟨(bo, rs), by rw [hn], ?_, ?_⟩
    · simp only
      rw [← hn]
      exact (back hw).sub (List.sublist_append_left _ _)
    · show rs.map (·.l) = frontL bl
      apply List.ext_getElem?
      intro i
      unfold frontL gridL
      by_cases hin : i < n
      · rw [List.getElem?_map, List.getElem?_map, List.getElem?_eq_getElem (by omega : i < rs.length), List.getElem?_range (by omega), Option.map_some, Option.map_some, hrows i _ (List.getElem?_eq_getElem (by omega)), hge, hn]
        simp [frAt]
      · rw [List.getElem?_map, List.getElem?_eq_none (by omega), List.getElem?_eq_none (by rw [List.length_map, List.length_range]; omega)]
        rfl
end Go.Proofs.YtoahickmkkcneaaDoor

/- turneryref3.Sorted, turneryref3.Front: what they return. -/
namespace Go.Proofs.YtoahickmkkcneaaDoor
open Go Go.RowKit
attribute [local irreducible] wpListIn Code.wpIn Exit.then Exit.inBlock bodyPost wpQuiet wpAnyIn wpAnyH
set_option maxHeartbeats 8000000

def sortL (l : List Int) (n : Nat) : List Nat := (List.range n).filter fun c => decide ((c : Int) ∈ l)
theorem sorted_c (v : Value) (hvs : ∃ a n c, v = .slice a n c) (l : List Int) (n : Nat) (hn : n ≤ 1000) (w0 : World) (hv : SlAt w0 v 1 l IntV) : Ret Tryd.prog 41 [v, .int .i64 n] w0 fun u w' => ∃ x : Option Addr × Nat, u = .slice x.1 (sortL l n).length x.2 ∧ Wd NoS w0 [Ent.vec x.1 (sortL l n).length x.2 3 1 ((sortL l n).map intN)] w' ∧ True := by
  obtain ⟨va, vn, vc, rfl⟩ := hvs
  refine ret_enter Tryd.func41 rfl Tryd.ntmps41 rfl (Wd.nil NoS w0) ?_
  repeat (first | refine g_op rfl ?_ | refine g_then ?_ | refine g_nil ?_ | refine g_region ?_ | refine g_seq ?_ | refine g_block ?_)
  refine g_nilVec 3 1 ?_
  refine g_loop (fun (x : Nat × Option Addr × Nat × List Nat) => x.1 ≤ n ∧ x.2.2.2 = sortL l x.1) (fun x => [(6, .int .i64 x.1), (5, .slice x.2.1 x.2.2.2.length x.2.2.1), (0, .slice va vn vc), (1, .int .i64 n)]) (fun x => [Ent.vec x.2.1 x.2.2.2.length x.2.2.1 3 1 (x.2.2.2.map intN)]) (fun x => n - x.1) (0, none, 0, []) ⟨Nat.zero_le _, rfl⟩ (g_done (by repeat (first | exact trivial | refine ⟨rfl, ?_⟩)) (List.Sublist.refl _)) fun x ⟨hi, hL⟩ => ?_
  obtain ⟨i, oa, oc, L⟩ := x
  simp only at hi hL ⊢
  have hLl : L.length ≤ i := by
    have := List.length_filter_le (fun c : Nat => decide ((c : Int) ∈ l)) (List.range i)
    rw [List.length_range] at this
    rw [hL]; exact this
  have hs : sortL l (i + 1) = sortL l i ++ if (i : Int) ∈ l then [i] else [] := by
    unfold sortL
    rw [List.range_succ, List.filter_append]
    congr 1
    by_cases h : (i : Int) ∈ l <;> simp [h]
  repeat (first | refine g_op rfl ?_ | refine g_then ?_ | refine g_nil ?_ | refine g_region ?_ | refine g_seq ?_)
  refine g_cond (fun h1 => ?_) (fun h1 => ?_)
  · have hlt : i < n := by simpa using h1
    repeat (first | refine g_op rfl ?_ | refine g_then ?_ | refine g_region ?_ | refine g_seq ?_ | refine g_block ?_ | refine g_skip ?_)
    refine g_callV rfl (fun w hw => has_c _ l i w (hv.keep keeps_int hw.chg)) ?_
    generalize he : decide ((i : Int) ∈ l) = e
    cases e
    · have hno : ¬ (i : Int) ∈ l := by simpa using he
      repeat (first | refine g_op rfl ?_ | refine g_then ?_ | refine g_nil ?_ | refine g_region ?_ | refine g_opS rfl ?_ | refine g_inBlock ?_ | refine g_skip ?_ | refine g_condF ?_ | refine g_add rfl (by omega) (by omega) ?_)
      exact g_next (i + 1, oa, oc, L) ⟨hlt, by simp only; rw [hs, if_neg hno, List.append_nil, hL]⟩ (by simp only; omega) (by repeat (first | exact trivial | refine ⟨rfl, ?_⟩)) (List.Sublist.refl _)
    · have hyes : (i : Int) ∈ l := by simpa using he
      repeat (first | refine g_op rfl ?_ | refine g_then ?_ | refine g_nil ?_ | refine g_region ?_ | refine g_condT ?_ | refine g_build1 rfl rfl fun _ _ => ?_)
      rename_i bt _
      refine g_append rfl rfl (by omega) (by omega) fun a' c' => ?_
      repeat (first | refine g_op rfl ?_ | refine g_then ?_ | refine g_nil ?_ | refine g_region ?_ | refine g_opS rfl ?_ | refine g_inBlock ?_ | refine g_add rfl (by omega) (by omega) ?_)
      refine g_eqH (H1 := Ent.vec (some ⟨bt, 0, none⟩) 1 1 3 1 [.int .i64 i] :: [Ent.vec a' (L ++ [i]).length c' 3 1 ((L ++ [i]).map intN)]) (by simp [intN]) ?_
      refine g_fix (L' := [(6, .int .i64 ((i : Int) + 1)), (5, .slice a' (L ++ [i]).length c'), (0, .slice va vn vc), (1, .int .i64 n)]) ?_ (List.Sublist.refl _) ?_
      · rw [show (L ++ [i]).length = L.length + 1 by simp]
        exact (by repeat (first | exact trivial | refine ⟨rfl, ?_⟩))
      exact g_next (i + 1, a', c', L ++ [i]) ⟨hlt, by simp only; rw [hs, if_pos hyes, hL]⟩ (by simp only; omega) (by repeat (first | exact trivial | refine ⟨rfl, ?_⟩)) (List.Sublist.cons _ (List.Sublist.refl _))
  · have hge : i = n := by have := h1; simp at this; omega
    repeat (first | refine g_op rfl ?_ | refine g_then ?_ | refine g_nil ?_ | refine g_region ?_ | refine g_seq ?_ | refine g_exit ?_ | refine g_thenExit ?_ | refine g_exitHere ?_ | refine g_ret ?_)
    refine g_ret1 rfl fun w hw => ⟨(oa, oc), ?_, ?_, trivial⟩
    · rw [← hge, ← hL]
    · rw [← hge, ← hL]; exact hw
/-- what is marked by the blocks below b -/
def FrTo (bl : List LBlock) (a b : Nat) (x : Int) : Prop := ∃ c : Nat, x = c ∧ ∃ p, p < b ∧ Dom bl a p ∧ Edge bl p c ∧ (c = a ∨ ¬ Dom bl a c)
def FrJ (bl : List LBlock) (a b : Nat) (ts : List Int) (x : Int) : Prop := FrTo bl a b x ∨ x ∈ ts ∧ ∃ c : Nat, x = c ∧ (c = a ∨ ¬ Dom bl a c)
theorem frTo_front {bl : List LBlock} (hok : GoodB bl) (h0 : 0 < bl.length) {a c : Nat} : FrTo bl a bl.length (c : Int) ↔ FrontR bl a c := by
  constructor
  · rintro ⟨c', e, p, _, hd, he, hc⟩
    have : c = c' := by omega
    subst this
    exact ⟨p, hd.2.1, he, hd, hc.imp Eq.symm id⟩
  · rintro ⟨p, hr, he, hd, hc⟩
    exact ⟨c, rfl, p, hok.rch h0 hr, hd, he, hc.imp Eq.symm id⟩
theorem frTo_no {bl : List LBlock} {a b : Nat} {x : Int} (h : ¬ Dom bl a b) : FrTo bl a (b + 1) x ↔ FrTo bl a b x := by
  constructor
  · rintro ⟨c, e, p, hp, hd, h2⟩
    refine ⟨c, e, p, Nat.lt_of_le_of_ne (by omega) fun e => ?_, hd, h2⟩
    subst e; exact h hd
  · rintro ⟨c, e, p, hp, h2⟩
    exact ⟨c, e, p, by omega, h2⟩
theorem frTo_yes {bl : List LBlock} {a b : Nat} {x : Int} (h : Dom bl a b) : FrTo bl a (b + 1) x ↔ FrJ bl a b (toOf bl b) x := by
  constructor
  · rintro ⟨c, e, p, hp, hd, he, h2⟩
    by_cases hpb : p = b
    · subst hpb
      subst e
      exact .inr ⟨he, c, rfl, h2⟩
    · exact .inl ⟨c, e, p, by omega, hd, he, h2⟩
  · rintro (⟨c, e, p, hp, h2⟩ | ⟨hm, c, e, h2⟩)
    · exact ⟨c, e, p, by omega, h2⟩
    · subst e
      exact ⟨c, rfl, b, by omega, h, hm, h2⟩
theorem set_fill {A : List Value} {z v : Value} {k : Nat} : (A ++ List.replicate (k + 1) z).set A.length v = A ++ [v] ++ List.replicate k z := by
  rw [List.set_append_right _ _ (Nat.le_refl _), Nat.sub_self, List.replicate_succ, List.set_cons_zero, List.append_assoc]; rfl
end Go.Proofs.YtoahickmkkcneaaDoor

/- turneryref3.Front: what it returns. -/
namespace Go.Proofs.YtoahickmkkcneaaDoor
open Go Go.RowKit
attribute [local irreducible] wpListIn Code.wpIn Exit.then Exit.inBlock bodyPost wpQuiet wpAnyIn wpAnyH
set_option maxHeartbeats 8000000

theorem refFront_c (nm pa re : Value) (bl : List LBlock) (bs : Value) (hbsl : ∃ a n c, bs = .slice a n c) (w0 : World) (hbs : SlAt w0 bs 6 bl BlockV) (hlen : bl.length ≤ 100) (hok : GoodB bl) (hpos : 0 < bl.length) :
    Ret Tryd.prog 84 [.agg #[nm, pa, re, bs]] w0 fun u w' => ∃ x : Nat × List Row, u = .slice (some ⟨x.1, 0, none⟩) bl.length bl.length ∧ Wd NoS w0 (Ent.vec (some ⟨x.1, 0, none⟩) bl.length bl.length 35 1 (x.2.map valR) :: x.2.map entR) w' ∧ x.2.map (·.l) = frontL bl := by
  classical
  obtain ⟨ba, n, bc, rfl⟩ := hbsl
  have hn : n = bl.length := hbs.at.1
  refine ret_enter Tryd.func84 rfl Tryd.ntmps84 rfl (Wd.nil NoS w0) ?_
  repeat (first | refine g_op rfl ?_ | refine g_then ?_ | refine g_nil ?_ | refine g_region ?_ | refine g_seq ?_ | refine g_box rfl fun _ _ => ?_)
  rename_i p1 _
  refine g_callE (val := fun x : Nat × (Nat → Prop) => .slice (some ⟨x.1, 0, none⟩) n n) (E := fun x => [⟨x.2, fun w => SlAt w (.slice (some ⟨x.1, 0, none⟩) n n) 1 (domL bl) RowV⟩]) (φ := fun _ => True) rfl (fun w hw => by
    have := refTable_c nm pa re bl _ ⟨ba, n, bc, rfl⟩ w (hbs.keep keeps_block hw.chg) hlen hok hpos
    rw [← hn] at this
    exact this) fun x _ => ?_
  obtain ⟨to, fp⟩ := x
  simp only [List.cons_append, List.nil_append]
  repeat (first | refine g_op rfl ?_ | refine g_then ?_ | refine g_nil ?_ | refine g_region ?_ | refine g_seq ?_ | refine g_block ?_ | refine g_make rfl (by omega) (by omega) fun _ _ => ?_)
  rename_i bo _
  refine g_permH (H1 := [Ent.vec (some ⟨bo, 0, none⟩) n n 35 1 (List.replicate n (.slice none 0 0)), Ent.box p1 [nm, pa, re, .slice ba n bc] 34] ++ [⟨fp, fun w => SlAt w (.slice (some ⟨to, 0, none⟩) n n) 1 (domL bl) RowV⟩]) (List.Perm.cons _ (List.Perm.swap _ _ _)) ?_
  refine g_holdK fun w1 hw1 => ?_
  have htk : SlAt (killW (fps [Ent.vec (some ⟨bo, 0, none⟩) n n 35 1 (List.replicate n (.slice none 0 0)), Ent.box p1 [nm, pa, re, .slice ba n bc] 34]) w1) (.slice (some ⟨to, 0, none⟩) n n) 1 (domL bl) RowV := hw1.beside (e := ⟨fp, fun w => SlAt w (.slice (some ⟨to, 0, none⟩) n n) 1 (domL bl) RowV⟩) (by simp)
  have hbk : SlAt (killW (fps [Ent.vec (some ⟨bo, 0, none⟩) n n 35 1 (List.replicate n (.slice none 0 0)), Ent.box p1 [nm, pa, re, .slice ba n bc] 34]) w1) (.slice ba n bc) 6 bl BlockV := hbs.keep keeps_block hw1.killOld
  have back : ∀ {E : List Ent} {w : World}, Wd (fps [Ent.vec (some ⟨bo, 0, none⟩) n n 35 1 (List.replicate n (.slice none 0 0)), Ent.box p1 [nm, pa, re, .slice ba n bc] 34]) (killW (fps [Ent.vec (some ⟨bo, 0, none⟩) n n 35 1 (List.replicate n (.slice none 0 0)), Ent.box p1 [nm, pa, re, .slice ba n bc] 34]) w1) E w → Wd NoS w0 (E ++ [⟨fp, fun w => SlAt w (.slice (some ⟨to, 0, none⟩) n n) 1 (domL bl) RowV⟩]) w := fun hw => hw1.comp hw.unkill
  have hkk : ∀ {E : List Ent} {w : World}, Wd (fps [Ent.vec (some ⟨bo, 0, none⟩) n n 35 1 (List.replicate n (.slice none 0 0)), Ent.box p1 [nm, pa, re, .slice ba n bc] 34]) (killW (fps [Ent.vec (some ⟨bo, 0, none⟩) n n 35 1 (List.replicate n (.slice none 0 0)), Ent.box p1 [nm, pa, re, .slice ba n bc] 34]) w1) E w → ∀ p v, (killW (fps [Ent.vec (some ⟨bo, 0, none⟩) n n 35 1 (List.replicate n (.slice none 0 0)), Ent.box p1 [nm, pa, re, .slice ba n bc] 34]) w1).cell? p = some v → w.cell? p = some v := fun hw => hw.killKeep
  have hold : ∀ {b o : Nat} {v : Value} {l : List Value}, CellsAt (killW (fps [Ent.vec (some ⟨bo, 0, none⟩) n n 35 1 (List.replicate n (.slice none 0 0)), Ent.box p1 [nm, pa, re, .slice ba n bc] 34]) w1) b o (v :: l) → OldIs (fps [Ent.vec (some ⟨bo, 0, none⟩) n n 35 1 (List.replicate n (.slice none 0 0)), Ent.box p1 [nm, pa, re, .slice ba n bc] 34]) b := fun hc => killOldIs hc (by simp)
  generalize killW (fps [Ent.vec (some ⟨bo, 0, none⟩) n n 35 1 (List.replicate n (.slice none 0 0)), Ent.box p1 [nm, pa, re, .slice ba n bc] 34]) w1 = wk at *
  generalize fps [Ent.vec (some ⟨bo, 0, none⟩) n n 35 1 (List.replicate n (.slice none 0 0)), Ent.box p1 [nm, pa, re, .slice ba n bc] 34] = SS at *
  have row : ∀ b, b < n → ∃ (a : Option Addr) (c : Nat), CellsIs wk to (0 + b * 1) [.slice a (domTo bl b n).length c] ∧ OldIs SS to ∧ SlAt wk (.slice a (domTo bl b n).length c) 1 ((domTo bl b n).map fun x : Nat => (x : Int)) IntV := by
    intro b hb
    obtain ⟨_, hc, v, rfl, hv⟩ := htk.known b _ (domL_get (by omega))
    have hv0 := hv
    obtain ⟨ra, rn, rc, _, _, rfl, _⟩ := hv0
    have hrn := hv.at.1
    rw [List.length_map, ← hn] at hrn
    subst hrn
    rw [← hn] at hv
    exact ⟨ra, rc, ⟨hc⟩, hold hc, hv⟩
  have hdm : ∀ a b : Nat, decide ((a : Int) ∈ (domTo bl b n).map fun x : Nat => (x : Int)) = decide (Dom bl a b) := fun a b => by
    rw [decide_eq_decide, mem_ints, domTo_mem]
    exact ⟨fun h => h.2, fun h => ⟨by have := hok.rch hpos h.1; omega, h⟩⟩
  refine g_loop (fun (x : List Row) => x.length ≤ n ∧ ∀ i r, x[i]? = some r → r.l = ((List.range n).filter fun c => decide (FrontR bl i c)).map fun x : Nat => (x : Int)) (fun x => [(5, .int .i64 x.length), (3, .slice (some ⟨to, 0, none⟩) n n), (4, .slice (some ⟨bo, 0, none⟩) n n), (1, .pointer (some ⟨p1, 0, none⟩))])
    (fun x => Ent.vec (some ⟨bo, 0, none⟩) n n 35 1 (x.map valR ++ List.replicate (n - x.length) (.slice none 0 0)) :: Ent.box p1 [nm, pa, re, .slice ba n bc] 34 :: x.map entR) (fun x => n - x.length) [] ⟨Nat.zero_le _, by simp⟩ (g_done (by repeat (first | exact trivial | refine ⟨rfl, ?_⟩)) (List.Sublist.refl _)) fun rs ⟨hi, hrows⟩ => ?_
  repeat (first | refine g_op rfl ?_ | refine g_then ?_ | refine g_nil ?_ | refine g_region ?_ | refine g_seq ?_)
  refine g_cond (fun h1 => ?_) (fun h1 => ?_)
  · have hlt : rs.length < n := by simpa using h1
    generalize ha : rs.length = a at *
    repeat (first | refine g_op rfl ?_ | refine g_then ?_ | refine g_nil ?_ | refine g_region ?_ | refine g_seq ?_ | refine g_block ?_ | refine g_skip ?_)
    refine g_nilVec 3 1 ?_
    refine g_loop (fun (x : Nat × Option Addr × Nat × List Int) => x.1 ≤ n ∧ x.2.2.2.length ≤ 2 * x.1 ∧ (∀ y ∈ x.2.2.2, inI y) ∧ ∀ y, y ∈ x.2.2.2 ↔ FrTo bl a x.1 y) (fun x => [(7, .int .i64 x.1), (6, .slice x.2.1 x.2.2.2.length x.2.2.1), (5, .int .i64 a), (3, .slice (some ⟨to, 0, none⟩) n n), (4, .slice (some ⟨bo, 0, none⟩) n n), (1, .pointer (some ⟨p1, 0, none⟩))])
      (fun x => Ent.vec x.2.1 x.2.2.2.length x.2.2.1 3 1 (x.2.2.2.map (.int .i64)) :: Ent.vec (some ⟨bo, 0, none⟩) n n 35 1 (rs.map valR ++ List.replicate (n - a) (.slice none 0 0)) :: Ent.box p1 [nm, pa, re, .slice ba n bc] 34 :: rs.map entR) (fun x => n - x.1) (0, none, 0, []) ⟨Nat.zero_le _, by simp, by simp, fun y => ⟨fun h => by simp at h, fun ⟨_, _, p, hp, _⟩ => by simp only at hp; omega⟩⟩ (g_done (by repeat (first | exact trivial | refine ⟨rfl, ?_⟩)) (List.Sublist.refl _)) fun x ⟨hb, hll, hlin, hl⟩ => ?_
    obtain ⟨b, la, lc, l⟩ := x
    simp only at hb hll hlin hl ⊢
    repeat (first | refine g_op rfl ?_ | refine g_then ?_ | refine g_nil ?_ | refine g_region ?_ | refine g_seq ?_)
    refine g_cond (fun h2 => ?_) (fun h2 => ?_)
    · have hbn : b < n := by simpa using h2
      have hlb : LtIs b n := ⟨hbn⟩
      obtain ⟨ra, rc, hcr, hor, hsr⟩ := row b hbn
      repeat (first | refine g_op rfl ?_ | refine g_then ?_ | refine g_region ?_ | refine g_seq ?_ | refine g_block ?_ | refine g_skip ?_)
      refine g_callV rfl (fun w hw => has_c _ ((domTo bl b n).map fun x : Nat => (x : Int)) a w (SlAt.mono (V := IntV) (w := wk) (w' := w) (fun _ _ h => h) (hkk hw) hsr)) ?_
      rw [hdm]
      generalize he1 : decide (Dom bl a b) = e1
      cases e1
      · have hno : ¬ Dom bl a b := by simpa using he1
        repeat (first | refine g_op rfl ?_ | refine g_then ?_ | refine g_nil ?_ | refine g_region ?_ | refine g_opS rfl ?_ | refine g_condT ?_ | refine g_add rfl (by omega) (by omega) ?_ | refine g_exit ?_ | refine g_thenExit ?_ | refine g_exitHere ?_)
        exact g_next (b + 1, la, lc, l) ⟨hbn, by simp only; omega, hlin, fun y => (hl y).trans (frTo_no hno).symm⟩ (by simp only; omega) (by repeat (first | exact trivial | refine ⟨rfl, ?_⟩)) (List.Sublist.refl _)
      have hyes : Dom bl a b := by simpa using he1
      obtain ⟨B, hB⟩ : ∃ B, bl[b]? = some B := ⟨_, List.getElem?_eq_getElem (by omega)⟩
      obtain ⟨_, _, _, bb, bo', hba, hel⟩ := hbk.at
      have hadB : AddrIs ba bb bo' := ⟨hba (ne_of_get hB)⟩
      obtain ⟨csB, hcsB, pv, lv, tv, rfl, _, _, _, _, htv⟩ := hel b B hB
      have htv0 := htv
      obtain ⟨ta, tn, tc, _, _, rfl, _⟩ := htv0
      obtain ⟨htn, htnc, htm, tb, tob, hta, htel⟩ := htv.at
      have hciB : CellsIs wk bb (bo' + b * 6) _ := ⟨hcsB⟩
      have hoB := hold hcsB
      have hgB := hok B (List.mem_of_getElem? hB)
      have htoOf := toOf_get hB
      repeat (first | refine g_op rfl ?_ | refine g_then ?_ | refine g_nil ?_ | refine g_region ?_ | refine g_seq ?_ | refine g_block ?_ | refine g_skip ?_ | refine g_condF ?_)
      refine g_loop (fun (x : Nat × Option Addr × Nat × List Int) => x.1 ≤ tn ∧ x.2.2.2.length ≤ 2 * b + x.1 ∧ (∀ y ∈ x.2.2.2, inI y) ∧ ∀ y, y ∈ x.2.2.2 ↔ FrJ bl a b (B.to.take x.1) y) (fun x => [(9, .int .i64 x.1), (6, .slice x.2.1 x.2.2.2.length x.2.2.1), (8, .slice ta tn tc), (7, .int .i64 b), (5, .int .i64 a), (3, .slice (some ⟨to, 0, none⟩) n n), (4, .slice (some ⟨bo, 0, none⟩) n n), (1, .pointer (some ⟨p1, 0, none⟩))])
        (fun x => Ent.vec x.2.1 x.2.2.2.length x.2.2.1 3 1 (x.2.2.2.map (.int .i64)) :: Ent.vec (some ⟨bo, 0, none⟩) n n 35 1 (rs.map valR ++ List.replicate (n - a) (.slice none 0 0)) :: Ent.box p1 [nm, pa, re, .slice ba n bc] 34 :: rs.map entR) (fun x => tn - x.1) (0, la, lc, l) ⟨Nat.zero_le _, by simpa using hll, hlin, fun y => (hl y).trans ⟨.inl, fun h => h.elim id fun h => by simp at h⟩⟩ (g_done (by repeat (first | exact trivial | refine ⟨rfl, ?_⟩)) (List.Sublist.refl _)) fun x ⟨hj, hll1, hlin1, hl1⟩ => ?_
      obtain ⟨j, la1, lc1, l1⟩ := x
      simp only at hj hll1 hlin1 hl1 ⊢
      repeat (first | refine g_op rfl ?_ | refine g_then ?_ | refine g_nil ?_ | refine g_region ?_ | refine g_seq ?_)
      refine g_cond (fun h3 => ?_) (fun h3 => ?_)
      · have hjl : j < tn := by simpa using h3
        obtain ⟨y, hy⟩ : ∃ y, B.to[j]? = some y := ⟨_, List.getElem?_eq_getElem (by omega)⟩
        have hyb := hgB.2 y (List.mem_of_getElem? hy)
        obtain ⟨c, rfl⟩ : ∃ c : Nat, y = c := ⟨y.toNat, by omega⟩
        have htk : B.to.take (j + 1) = B.to.take j ++ [(c : Int)] := by rw [List.take_add_one, hy]; rfl
        have hadT : AddrIs ta tb tob := ⟨hta (ne_of_get hy)⟩
        have hljt : LtIs j tn := ⟨hjl⟩
        obtain ⟨_, hcT, rfl, _⟩ := htel j _ hy
        have hciT : CellsIs wk tb (tob + j * 1) _ := ⟨hcT⟩
        have hoT := hold hcT
        have hlc : LtIs c n := ⟨by omega⟩
        obtain ⟨ra2, rc2, hcr2, _, hsr2⟩ := row c (by omega)
        repeat (first | refine g_op rfl ?_ | refine g_then ?_ | refine g_region ?_ | refine g_seq ?_ | refine g_block ?_ | refine g_skip ?_)
        refine g_joinTo 65 (.bool (decide (c = a ∨ ¬ Dom bl a c))) ?_ ?_
        · by_cases hca : c = a
          · rw [show decide (((c : Nat) : Int) = (a : Int)) = true by simp [hca], show decide (c = a ∨ ¬ Dom bl a c) = true by simp [hca]]
            repeat (first | refine g_op rfl ?_ | refine g_then ?_ | refine g_nil ?_ | refine g_pass rfl ?_)
            exact g_done (by repeat (first | exact trivial | refine ⟨rfl, ?_⟩)) (List.Sublist.refl _)
          · rw [show decide (((c : Nat) : Int) = (a : Int)) = false by simp; omega]
            repeat (first | refine g_op rfl ?_ | refine g_open ?_)
            refine g_callV rfl (fun w hw => has_c _ ((domTo bl c n).map fun x : Nat => (x : Int)) a w (SlAt.mono (V := IntV) (w := wk) (w' := w) (fun _ _ h => h) (hkk hw) hsr2)) ?_
            rw [hdm, show decide (c = a ∨ ¬ Dom bl a c) = !decide (Dom bl a c) by simp [hca]]
            repeat (first | refine g_op rfl ?_ | refine g_then ?_ | refine g_nil ?_ | refine g_open ?_)
            exact g_done (by repeat (first | exact trivial | refine ⟨rfl, ?_⟩)) (List.Sublist.refl _)
        generalize he2 : decide (c = a ∨ ¬ Dom bl a c) = e2
        cases e2
        · have hno : ¬ (c = a ∨ ¬ Dom bl a c) := by simpa using he2
          repeat (first | refine g_op rfl ?_ | refine g_then ?_ | refine g_nil ?_ | refine g_region ?_ | refine g_opS rfl ?_ | refine g_inBlock ?_ | refine g_skip ?_ | refine g_condF ?_ | refine g_add rfl (by omega) (by omega) ?_)
          refine g_next (j + 1, la1, lc1, l1) ⟨hjl, by simp only; omega, hlin1, fun y => (hl1 y).trans ?_⟩ (by simp only; omega) (by repeat (first | exact trivial | refine ⟨rfl, ?_⟩)) (List.Sublist.refl _)
          simp only
          rw [htk]
          refine ⟨fun h => h.imp id fun ⟨h1, h2⟩ => ⟨List.mem_append_left _ h1, h2⟩, fun h => h.imp id fun ⟨h1, h2⟩ => ?_⟩
          rcases List.mem_append.1 h1 with h1 | h1
          · exact ⟨h1, h2⟩
          · obtain ⟨c', e', h2⟩ := h2
            rw [List.mem_singleton.1 h1] at e'
            have : c = c' := by omega
            subst this
            exact absurd h2 hno
        · have hyes2 : c = a ∨ ¬ Dom bl a c := by simpa using he2
          repeat (first | refine g_op rfl ?_ | refine g_then ?_ | refine g_nil ?_ | refine g_region ?_ | refine g_condT ?_ | refine g_build1 rfl rfl fun _ _ => ?_)
          rename_i bt _
          refine g_append rfl rfl (by omega) (by omega) fun a' c' => ?_
          repeat (first | refine g_op rfl ?_ | refine g_then ?_ | refine g_nil ?_ | refine g_region ?_ | refine g_opS rfl ?_ | refine g_inBlock ?_ | refine g_add rfl (by omega) (by omega) ?_)
          refine g_eqH (H1 := Ent.vec (some ⟨bt, 0, none⟩) 1 1 3 1 [.int .i64 c] :: Ent.vec a' (l1 ++ [(c : Int)]).length c' 3 1 ((l1 ++ [(c : Int)]).map (.int .i64)) :: Ent.vec (some ⟨bo, 0, none⟩) n n 35 1 (rs.map valR ++ List.replicate (n - a) (.slice none 0 0)) :: Ent.box p1 [nm, pa, re, .slice ba n bc] 34 :: rs.map entR) (by simp) ?_
          refine g_fix (L' := [(9, .int .i64 ((j : Int) + 1)), (6, .slice a' (l1 ++ [(c : Int)]).length c'), (8, .slice ta tn tc), (7, .int .i64 b), (5, .int .i64 a), (3, .slice (some ⟨to, 0, none⟩) n n), (4, .slice (some ⟨bo, 0, none⟩) n n), (1, .pointer (some ⟨p1, 0, none⟩))]) ?_ (List.Sublist.refl _) ?_
          · rw [show (l1 ++ [(c : Int)]).length = l1.length + 1 by simp]
            exact (by repeat (first | exact trivial | refine ⟨rfl, ?_⟩))
          refine g_next (j + 1, a', c', l1 ++ [(c : Int)]) ⟨hjl, by simp only [List.length_append, List.length_singleton]; omega, fun y hy => ?_, fun y => ?_⟩ (by simp only; omega) (by repeat (first | exact trivial | refine ⟨rfl, ?_⟩)) (List.Sublist.cons _ (List.Sublist.refl _))
          · rcases List.mem_append.1 hy with hy | hy
            · exact hlin1 y hy
            · rw [List.mem_singleton.1 hy]; simp only [inI]; omega
          · simp only
            rw [htk, List.mem_append, hl1 y, List.mem_singleton]
            constructor
            · rintro ((h | ⟨h1, h2⟩) | e)
              · exact .inl h
              · exact .inr ⟨List.mem_append_left _ h1, h2⟩
              · exact .inr ⟨by simp [e], c, e, hyes2⟩
            · rintro (h | ⟨h1, h2⟩)
              · exact .inl (.inl h)
              · rcases List.mem_append.1 h1 with h1 | h1
                · exact .inl (.inr ⟨h1, h2⟩)
                · exact .inr (List.mem_singleton.1 h1)
      · have hjt : j = tn := by have := h3; simp at this; omega
        repeat (first | refine g_op rfl ?_ | refine g_then ?_ | refine g_nil ?_ | refine g_region ?_ | refine g_opS rfl ?_ | refine g_inBlock ?_ | refine g_add rfl (by omega) (by omega) ?_ | refine g_exit ?_ | refine g_thenExit ?_ | refine g_exitHere ?_)
        refine g_next (b + 1, la1, lc1, l1) ⟨hbn, by simp only; have := hgB.1; omega, hlin1, fun y => ?_⟩ (by simp only; omega) (by repeat (first | exact trivial | refine ⟨rfl, ?_⟩)) (List.Sublist.refl _)
        rw [hl1 y, hjt, htn, List.take_length, frTo_yes hyes, htoOf]
    · have hge : b = n := by have := h2; simp at this; omega
      have hfin : sortL l n = (List.range n).filter fun c => decide (FrontR bl a c) := by
        unfold sortL
        refine List.filter_congr fun c _ => ?_
        rw [decide_eq_decide, hl, hge, hn, frTo_front hok hpos]
      have hsl : (sortL l n).length ≤ n := by
        have := List.length_filter_le (fun c : Nat => decide ((c : Int) ∈ l)) (List.range n)
        rw [List.length_range] at this; exact this
      have hla : LtIs a n := ⟨hlt⟩
      repeat (first | refine g_op rfl ?_ | refine g_then ?_ | refine g_region ?_ | refine g_exit ?_ | refine g_thenExit ?_ | refine g_exitHere ?_)
      refine g_callE (val := fun x : Option Addr × Nat => .slice x.1 (sortL l n).length x.2) (E := fun x => [Ent.vec x.1 (sortL l n).length x.2 3 1 ((sortL l n).map intN)]) (φ := fun _ => True) rfl (fun w hw => sorted_c _ ⟨_, _, _, rfl⟩ l n (by omega) w (hw.slAt (k := 0) rfl rfl (by omega) fun i x hx => ⟨[.int .i64 x], fun q v hq => ?_, rfl, hlin x (List.mem_of_getElem? hx)⟩)) fun x _ => ?_
      · match q, hq with
        | 0, hq => simpa [hx] using hq
      obtain ⟨sa, sc⟩ := x
      simp only [List.cons_append, List.nil_append]
      have hxs : XSet (rs.map valR ++ List.replicate (n - a) (.slice none 0 0)) (a * 1) (.slice sa (sortL l n).length sc) ((rs ++ [(⟨sa, sc, (sortL l n).map fun x : Nat => (x : Int)⟩ : Row)]).map valR ++ List.replicate (n - (a + 1)) (.slice none 0 0)) := ⟨by
          rw [Nat.mul_one, show n - a = (n - (a + 1)) + 1 by omega, show a = (rs.map valR).length by simp [ha], set_fill]
          simp [valR], by simp; omega⟩
      repeat (first | refine g_op rfl ?_ | refine g_then ?_ | refine g_nil ?_ | refine g_region ?_ | refine g_opS rfl ?_ | refine g_inBlock ?_ | refine g_add rfl (by omega) (by omega) ?_ | refine g_storeV ?_)
      refine g_fix (L' := [(5, .int .i64 ((a : Int) + 1)), (3, .slice (some ⟨to, 0, none⟩) n n), (4, .slice (some ⟨bo, 0, none⟩) n n), (1, .pointer (some ⟨p1, 0, none⟩))]) (by repeat (first | exact trivial | refine ⟨rfl, ?_⟩)) (List.Sublist.cons_cons _ (List.Sublist.cons _ (List.Sublist.refl _))) ?_
      refine g_permH (List.perm_append_comm (l₁ := [Ent.vec sa (sortL l n).length sc 3 1 ((sortL l n).map intN)])) ?_
      refine g_eqH (H1 := Ent.vec (some ⟨bo, 0, none⟩) n n 35 1 ((rs ++ [(⟨sa, sc, (sortL l n).map fun x : Nat => (x : Int)⟩ : Row)]).map valR ++ List.replicate (n - (rs ++ [(⟨sa, sc, (sortL l n).map fun x : Nat => (x : Int)⟩ : Row)]).length) (.slice none 0 0)) :: Ent.box p1 [nm, pa, re, .slice ba n bc] 34 :: (rs ++ [(⟨sa, sc, (sortL l n).map fun x : Nat => (x : Int)⟩ : Row)]).map entR) ?_ ?_
      · simp only [List.cons_append, List.map_append, List.map_cons, List.map_nil, List.length_append, List.length_singleton, ha, entR, List.length_map, map_intN]
      refine g_fix (L' := [(5, .int .i64 ((rs ++ [(⟨sa, sc, (sortL l n).map fun x : Nat => (x : Int)⟩ : Row)]).length : Nat)), (3, .slice (some ⟨to, 0, none⟩) n n), (4, .slice (some ⟨bo, 0, none⟩) n n), (1, .pointer (some ⟨p1, 0, none⟩))]) ?_ (List.Sublist.refl _) ?_
      · rw [show (rs ++ [(⟨sa, sc, (sortL l n).map fun x : Nat => (x : Int)⟩ : Row)]).length = a + 1 by simp [ha]]
        exact (by repeat (first | exact trivial | refine ⟨rfl, ?_⟩))
      refine g_next (rs ++ [(⟨sa, sc, (sortL l n).map fun x : Nat => (x : Int)⟩ : Row)]) ⟨by rw [List.length_append, List.length_singleton]; omega, fun i r hr => ?_⟩ (by rw [List.length_append, List.length_singleton]; omega) (by repeat (first | exact trivial | refine ⟨rfl, ?_⟩)) (List.Sublist.refl _)
      by_cases hia : i < a
      · rw [List.getElem?_append_left (by omega)] at hr
        exact hrows i r hr
      · have := (List.getElem?_eq_some_iff.1 hr).1
        rw [List.length_append, List.length_singleton] at this
        have hia' : i = a := by omega
        subst hia'
        rw [List.getElem?_append_right (by omega), ha, Nat.sub_self] at hr
        simp only [List.getElem?_cons_zero, Option.some.injEq] at hr
        subst hr
        simp only
        rw [hfin]
  · have hge : rs.length = n := by have := h1; simp at this; omega
    repeat (first | refine g_op rfl ?_ | refine g_then ?_ | refine g_nil ?_ | refine g_region ?_ | refine g_seq ?_ | refine g_exit ?_ | refine g_thenExit ?_ | refine g_exitHere ?_ | refine g_ret ?_)
    refine g_ret1 rfl fun w hw => ⟨(bo, rs), by rw [hn], ?_, ?_⟩
    · have := back hw
      rw [hge, Nat.sub_self, List.replicate_zero, List.append_nil] at this
      simp only
      rw [← hn]
      exact this.sub ((List.Sublist.cons_cons _ (List.Sublist.cons _ (List.Sublist.refl _))).trans (List.sublist_append_left _ _))
    · show rs.map (·.l) = frontL bl
      apply List.ext_getElem?
      intro i
      unfold frontL gridL
      rw [← hn]
      by_cases hin : i < n
      · rw [List.getElem?_map, List.getElem?_map, List.getElem?_eq_getElem (by omega : i < rs.length), List.getElem?_range (by omega), Option.map_some, Option.map_some, hrows i _ (List.getElem?_eq_getElem (by omega))]
      · rw [List.getElem?_map, List.getElem?_eq_none (by omega), List.getElem?_eq_none (by rw [List.length_map, List.length_range]; omega)]
        rfl
end Go.Proofs.YtoahickmkkcneaaDoor

/- dom.Front: what it returns; the law DomFronts, walked. -/
namespace Go.Proofs.YtoahickmkkcneaaDoor
open Go Go.RowKit
attribute [local irreducible] wpListIn Code.wpIn Exit.then Exit.inBlock bodyPost wpQuiet wpAnyIn wpAnyH
set_option maxHeartbeats 4000000

end Go.Proofs.YtoahickmkkcneaaDoor

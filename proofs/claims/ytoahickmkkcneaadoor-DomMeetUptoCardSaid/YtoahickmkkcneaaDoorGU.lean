/- Texts joined: MeetP RowsB MeetA HeldC MeetB MeetC. -/
import Derived.Test.YtoahickmkkcneaaDoorGB
import Derived.Test.YtoahickmkkcneaaDoorGE
import Derived.Test.YtoahickmkkcneaaDoorGF
import Derived.Test.YtoahickmkkcneaaDoorGI
import Derived.Test.YtoahickmkkcneaaDoorGL
import Derived.Test.YtoahickmkkcneaaDoorGM
import Derived.Test.YtoahickmkkcneaaDoorGN
/- Where ways meet, again and again, as plain facts. No program in sight. -/
namespace Go.Proofs.YtoahickmkkcneaaDoor
open Go Go.RowKit

/-- where ways from some blocks meet -/
inductive Meets (bl : List LBlock) (bs : List Int) : Nat → Prop
  | base {b x : Nat} : (b : Int) ∈ bs → FrontR bl b x → Meets bl bs x
  | step {y x : Nat} : Meets bl bs y → FrontR bl y x → Meets bl bs x
theorem FrontR.lt {bl : List LBlock} (hok : GoodB bl) {a b : Nat} (h : FrontR bl a b) : b < bl.length := by
  obtain ⟨p, _, he, _⟩ := h
  exact hok.edge he
theorem FrontR.lt_left {bl : List LBlock} (hok : GoodB bl) (h0 : 0 < bl.length) {a b : Nat} (h : FrontR bl a b) : a < bl.length := by
  obtain ⟨p, _, _, hd, _⟩ := h
  exact hok.rch h0 hd.1
theorem Meets.lt {bl : List LBlock} (hok : GoodB bl) {bs : List Int} {x : Nat} (h : Meets bl bs x) : x < bl.length := by
  cases h with
  | base _ h => exact h.lt hok
  | step _ h => exact h.lt hok
/-- closed: what begins in bs, or is in, leads to what is in -/
def MClosed (bl : List LBlock) (bs : List Int) (p : Nat → Prop) : Prop := ∀ b : Nat, ((b : Int) ∈ bs ∨ p b) → ∀ x, FrontR bl b x → p x
theorem MClosed.all {bl : List LBlock} {bs : List Int} {p : Nat → Prop} (h : MClosed bl bs p) {x : Nat} (hx : Meets bl bs x) : p x := by
  induction hx with
  | base hb hf => exact h _ (.inl hb) _ hf
  | step _ hf ih => exact h _ (.inr ih) _ hf
theorem meets_closed (bl : List LBlock) (bs : List Int) : MClosed bl bs (Meets bl bs) := fun _ h _ hf => h.elim (fun h => .base h hf) fun h => .step h hf
/-- of the union, and again -/
theorem meets_union {bl : List LBlock} {cs bs : List Int} {x : Nat} : Meets bl (cs ++ bs) x ↔ (Meets bl cs x ∨ Meets bl bs x) := by
  constructor
  · intro h
    induction h with
    | base hb hf =>
      rcases List.mem_append.1 hb with h | h
      · exact .inl (.base h hf)
      · exact .inr (.base h hf)
    | step _ hf ih => exact ih.imp (fun h => .step h hf) fun h => .step h hf
  · rintro (h | h)
    · induction h with
      | base hb hf => exact .base (List.mem_append_left _ hb) hf
      | step _ hf ih => exact .step ih hf
    · induction h with
      | base hb hf => exact .base (List.mem_append_right _ hb) hf
      | step _ hf ih => exact .step ih hf
theorem meets_mono {bl : List LBlock} {cs bs : List Int} (h : ∀ x ∈ cs, x ∈ bs) {x : Nat} (hx : Meets bl cs x) : Meets bl bs x := by
  induction hx with
  | base hb hf => exact .base (h _ hb) hf
  | step _ hf ih => exact .step ih hf
/-- from the blocks and all that they come to -/
theorem meets_again {bl : List LBlock} {bs ms : List Int} (hm : ∀ x ∈ ms, ∃ c : Nat, x = c ∧ Meets bl bs c) {x : Nat} (hx : Meets bl (bs ++ ms) x) : Meets bl bs x := by
  induction hx with
  | base hb hf =>
    rcases List.mem_append.1 hb with h | h
    · exact .base h hf
    · obtain ⟨c, e, hc⟩ := hm _ h
      have e := Int.ofNat.inj e
      subst e
      exact .step hc hf
  | step _ hf ih => exact .step ih hf
open Classical in
noncomputable def meetL (bl : List LBlock) (bs : List Int) : List Int := ((List.range bl.length).filter fun x => decide (Meets bl bs x)).map fun x : Nat => (x : Int)
open Classical in
theorem meetL_mem {bl : List LBlock} (hok : GoodB bl) {bs : List Int} {x : Int} : x ∈ meetL bl bs ↔ ∃ c : Nat, x = c ∧ Meets bl bs c := by
  unfold meetL
  rw [List.mem_map]
  constructor
  · rintro ⟨c, h, rfl⟩
    exact ⟨c, rfl, by simpa using (List.mem_filter.1 h).2⟩
  · rintro ⟨c, rfl, h⟩
    exact ⟨c, List.mem_filter.2 ⟨List.mem_range.2 (h.lt hok), by simpa using h⟩, rfl⟩

/-! ### With a row of those that are still to be looked at -/
structure MRow (bl : List LBlock) (bs : List Int) (row out : List Int) : Prop where
  nodup : out.Nodup
  sound : ∀ x ∈ out, ∃ c : Nat, x = c ∧ Meets bl bs c
  rows : ∀ x ∈ row, x ∈ bs ∨ x ∈ out
  done : ∀ y : Nat, ((y : Int) ∈ bs ∨ (y : Int) ∈ out) → (y : Int) ∈ row ∨ ∀ x : Nat, FrontR bl y x → (x : Int) ∈ out
theorem mrow_start (bl : List LBlock) (bs : List Int) : MRow bl bs bs [] := ⟨by simp, by simp, fun _ h => .inl h, fun _ h => .inl (h.elim id fun h => by cases h)⟩
/-- the first of the row is being looked at; the first k of its frontier are through -/
structure MHead (bl : List LBlock) (bs : List Int) (b : Nat) (fs : List Int) (row out : List Int) : Prop where
  nodup : out.Nodup
  sound : ∀ x ∈ out, ∃ c : Nat, x = c ∧ Meets bl bs c
  head : (b : Int) ∈ bs ∨ (b : Int) ∈ out
  rows : ∀ x ∈ row, x ∈ bs ∨ x ∈ out
  done : ∀ y : Nat, ((y : Int) ∈ bs ∨ (y : Int) ∈ out) → y = b ∨ (y : Int) ∈ row ∨ ∀ x : Nat, FrontR bl y x → (x : Int) ∈ out
  seen : ∀ x ∈ fs, x ∈ out
theorem MRow.head {bl : List LBlock} {bs row out : List Int} {b : Nat} (h : MRow bl bs ((b : Int) :: row) out) : MHead bl bs b [] row out :=
  ⟨h.nodup, h.sound, h.rows _ (by simp), fun x hx => h.rows x (List.mem_cons_of_mem _ hx), fun y hy => (h.done y hy).elim (fun hm => (List.mem_cons.1 hm).elim (fun e => .inl (by omega)) fun hm => .inr (.inl hm)) fun hx => .inr (.inr hx), by simp⟩
theorem MHead.pass {bl : List LBlock} {bs row out fs : List Int} {b : Nat} {x : Int} (h : MHead bl bs b fs row out) (hx : x ∈ out) : MHead bl bs b (fs ++ [x]) row out :=
  ⟨h.nodup, h.sound, h.head, h.rows, h.done, fun y hy => (List.mem_append.1 hy).elim (h.seen y) fun hy => by rw [List.mem_singleton.1 hy]; exact hx⟩
theorem MHead.add {bl : List LBlock} {bs row out fs : List Int} {b x : Nat} (h : MHead bl bs b fs row out) (hf : FrontR bl b x) (hx : (x : Int) ∉ out) : MHead bl bs b (fs ++ [(x : Int)]) (row ++ [(x : Int)]) (out ++ [(x : Int)]) := by
  have hm : Meets bl bs x := h.head.elim (fun hb => .base hb hf) fun hb => by
    obtain ⟨c, e, hc⟩ := h.sound _ hb
    have : b = c := by omega
    subst this
    exact .step hc hf
  refine ⟨List.nodup_append.2 ⟨h.nodup, by simp, fun a ha c hc e => hx ?_⟩, fun y hy => ?_, h.head.imp id (List.mem_append_left _), fun y hy => ?_, fun y hy => ?_, fun y hy => ?_⟩
  · rw [List.mem_singleton.1 hc] at e; rw [← e]; exact ha
  · rcases List.mem_append.1 hy with hy | hy
    · exact h.sound y hy
    · exact ⟨x, List.mem_singleton.1 hy, hm⟩
  · rcases List.mem_append.1 hy with hy | hy
    · exact (h.rows y hy).imp id (List.mem_append_left _)
    · rw [List.mem_singleton.1 hy]; exact .inr (by simp)
  · have hold : ((y : Int) ∈ bs ∨ (y : Int) ∈ out) → y = b ∨ (y : Int) ∈ row ++ [(x : Int)] ∨ ∀ z : Nat, FrontR bl y z → (z : Int) ∈ out ++ [(x : Int)] := fun hy =>
      (h.done y hy).imp id fun h => h.imp (List.mem_append_left _) fun h z hz => List.mem_append_left _ (h z hz)
    rcases hy with hy | hy
    · exact hold (.inl hy)
    · rcases List.mem_append.1 hy with hy | hy
      · exact hold (.inr hy)
      · exact .inr (.inl (List.mem_append_right _ hy))
  · rcases List.mem_append.1 hy with hy | hy
    · exact List.mem_append_left _ (h.seen y hy)
    · exact List.mem_append_right _ hy
theorem MHead.row {bl : List LBlock} {bs row out fs : List Int} {b : Nat} (h : MHead bl bs b fs row out) (hall : ∀ x : Nat, FrontR bl b x → (x : Int) ∈ fs) : MRow bl bs row out :=
  ⟨h.nodup, h.sound, h.rows, fun y hy => (h.done y hy).elim (fun e => .inr fun x hx => h.seen _ (hall x (e ▸ hx))) id⟩
theorem MRow.mem {bl : List LBlock} {bs out : List Int} (h : MRow bl bs [] out) (x : Int) : x ∈ out ↔ ∃ c : Nat, x = c ∧ Meets bl bs c := by
  refine ⟨h.sound x, fun ⟨c, e, hc⟩ => ?_⟩
  have hcl : MClosed bl bs fun y => (y : Int) ∈ out := fun b hb y hy => (h.done b hb).elim (fun hm => by cases hm) fun hd => hd y hy
  rw [e]; exact hcl.all hc

/-! ### Round by round -/
/-- in a round, the blocks below b looked at; p0: as the round began -/
structure MRound (bl : List LBlock) (bs : List Int) (p0 : Nat → Prop) (b : Nat) (p : Nat → Prop) : Prop where
  sub : ∀ x, p0 x → p x
  sound : ∀ x, p x → Meets bl bs x
  done : ∀ y, y < b → ((y : Int) ∈ bs ∨ p0 y) → ∀ x, FrontR bl y x → p x
  stay : MClosed bl bs p0 → ∀ x, p x → p0 x
theorem mround_start {bl : List LBlock} {bs : List Int} {p0 : Nat → Prop} (h : ∀ x, p0 x → Meets bl bs x) : MRound bl bs p0 0 p0 := ⟨fun _ h => h, h, fun _ h => by omega, fun _ _ h => h⟩
theorem MRound.pass {bl : List LBlock} {bs : List Int} {p0 p : Nat → Prop} {b : Nat} (h : MRound bl bs p0 b p) (hb : ¬ ((b : Int) ∈ bs ∨ p b)) : MRound bl bs p0 (b + 1) p :=
  ⟨h.sub, h.sound, fun y hy hc => by
    by_cases e : y = b
    · subst e; exact absurd (hc.imp id (h.sub y)) hb
    · exact h.done y (by omega) hc, h.stay⟩
theorem MRound.take {bl : List LBlock} {bs : List Int} {p0 p p' : Nat → Prop} {b : Nat} (h : MRound bl bs p0 b p) (hb : (b : Int) ∈ bs ∨ p b) (hp : ∀ x, p' x ↔ (p x ∨ FrontR bl b x)) : MRound bl bs p0 (b + 1) p' :=
  ⟨fun x hx => (hp x).2 (.inl (h.sub x hx)), fun x hx => ((hp x).1 hx).elim (h.sound x) fun hf => hb.elim (fun hb => .base hb hf) fun hb => .step (h.sound b hb) hf, fun y hy hc x hx => by
    by_cases e : y = b
    · subst e; exact (hp x).2 (.inr hx)
    · exact (hp x).2 (.inl (h.done y (by omega) hc x hx)), fun hcl x hx => ((hp x).1 hx).elim (h.stay hcl x) fun hf => hcl b (hb.imp id (h.stay hcl b)) x hf⟩
open Classical in
/-- after k rounds it is closed, or has k at least -/
theorem MRound.next {bl : List LBlock} (hok : GoodB bl) (h0 : 0 < bl.length) {bs : List Int} {p0 p : Nat → Prop} {k : Nat} (h : MRound bl bs p0 bl.length p) (hk : MClosed bl bs p0 ∨ k ≤ cnt p0 bl.length) : MClosed bl bs p ∨ k + 1 ≤ cnt p bl.length := by
  by_cases hc : MClosed bl bs p0
  · left
    intro b hb x hx
    exact h.sub x (hc b (hb.imp id (h.stay hc b)) x hx)
  · right
    have hk := hk.resolve_left hc
    have hle := cnt_le (p := p0) (q := p) (n := bl.length) fun c _ hc => h.sub c hc
    by_cases he : cnt p0 bl.length = cnt p bl.length
    · exfalso
      refine hc fun b hb x hx => ?_
      have := h.done b (hx.lt_left hok h0) hb x hx
      exact cnt_eq (p := p0) (q := p) (fun c _ hc => h.sub c hc) he x (hx.lt hok) this
    · omega
open Classical in
theorem mround_end {bl : List LBlock} {bs : List Int} {p : Nat → Prop} (hs : ∀ x, p x → Meets bl bs x) (hk : MClosed bl bs p ∨ bl.length + 1 ≤ cnt p bl.length) (x : Nat) : p x ↔ Meets bl bs x := by
  refine ⟨hs x, fun hx => ?_⟩
  rcases hk with h | h
  · exact h.all hx
  · have : cnt p bl.length ≤ bl.length := by
      unfold cnt
      have := List.length_filter_le (fun c => decide (p c)) (List.range bl.length)
      rw [List.length_range] at this; exact this
    omega
end Go.Proofs.YtoahickmkkcneaaDoor

/- Rows of numbers as one reads them: what texts far from one another need. -/
namespace Go.Proofs.YtoahickmkkcneaaDoor
open Go Go.RowKit
attribute [local irreducible] wpListIn Code.wpIn Exit.then Exit.inBlock bodyPost wpQuiet wpAnyIn wpAnyH bodyPostM
theorem nodup_lenJ {l : List Int} {n : Nat} (hn : l.Nodup) (h : ∀ x ∈ l, ∃ c : Nat, x = c ∧ c < n) : l.length ≤ n := by
  have h1 : (l.map Int.toNat).Nodup := by
    refine List.pairwise_map.2 (List.Pairwise.imp_of_mem (fun {x y} hx hy hne e => ?_) hn)
    obtain ⟨c, rfl, _⟩ := h x hx
    obtain ⟨d, rfl, _⟩ := h y hy
    exact hne (by simp at e; omega)
  have h2 := nodup_len n (l.map Int.toNat) h1 fun x hx => by
    obtain ⟨y, hy, rfl⟩ := List.mem_map.1 hx
    obtain ⟨c, rfl, hc⟩ := h y hy
    simpa using hc
  rwa [List.length_map] at h2
/-- a table of rows of numbers, from wherever it begins, as one reads it -/
theorem rows_slB {S : Nat → Prop} {w0 w : World} {rs : List Row} {a : Option Addr} {c e : Nat} {H : List Ent} (h : Wd S w0 (Ent.vec a rs.length c e 1 (rs.map valR) :: (rs.map entR ++ H)) w) (hb : rs.length ≤ 100000) (hl : ∀ r ∈ rs, r.l.length ≤ 1000 ∧ ∀ x ∈ r.l, inI x) : SlAt w (.slice a rs.length c) 1 (rs.map (·.l)) RowV := by
  refine h.slAt (k := 0) rfl (by rw [List.length_map]) (by omega) fun i x hx => ?_
  rw [List.getElem?_map] at hx
  obtain ⟨r, hr, rfl⟩ := Option.map_eq_some_iff.1 hx
  refine ⟨[valR r], fun j v hj => ?_, _, rfl, row_sl (E := [_]) (H := H) h hr (hl r (List.mem_of_getElem? hr))⟩
  match j, hj with
  | 0, hj => simpa [hr] using hj
theorem tabsOf {w : World} {S : Nat → Prop} {a : Option Addr} {n c : Nat} {T : List (List Int)} (h : SlAt w (.slice a n c) 1 T RowV) (hold : ∀ {b o : Nat} {v : Value} {l : List Value}, CellsAt w b o (v :: l) → OldIs S b) (h0 : T ≠ []) :
    ∃ b o : Nat, AddrIs a b o ∧ OldIs S b ∧ ∀ i l, T[i]? = some l → ∃ (ra : Option Addr) (rc : Nat), CellsIs w b (o + i * 1) [.slice ra l.length rc] ∧ SlAt w (.slice ra l.length rc) 1 l IntV := by
  obtain ⟨_, _, _, b, o, ha, hel⟩ := h.at
  refine ⟨b, o, ⟨ha h0⟩, ?_, fun i l hi => ?_⟩
  · obtain ⟨l, hl⟩ : ∃ l, T[0]? = some l := ⟨_, List.getElem?_eq_getElem (List.length_pos_iff.2 h0)⟩
    obtain ⟨_, hc, v, rfl, _⟩ := hel 0 l hl
    exact hold hc
  · obtain ⟨_, hc, v, rfl, hv⟩ := hel i l hi
    have hv0 := hv
    obtain ⟨ra, rn, rc, _, _, rfl, hrn, _⟩ := hv0
    subst hrn
    exact ⟨ra, rc, ⟨hc⟩, hv⟩
end Go.Proofs.YtoahickmkkcneaaDoor

/- slices.Clone at ints for long slices; dom.MeetOf: what they return. -/
namespace Go.Proofs.YtoahickmkkcneaaDoor
open Go Go.RowKit
attribute [local irreducible] wpListIn Code.wpIn Exit.then Exit.inBlock bodyPost wpQuiet wpAnyIn wpAnyH bodyPostM
set_option maxHeartbeats 4000000

theorem cloneBig_c (a : Option Addr) (c : Nat) (l : List Int) (hb : l.length ≤ 17592186044416) (w0 : World) (h : SlAt w0 (.slice a l.length c) 1 l IntV) :
    Ret Tryd.prog 116 [.slice a l.length c] w0 fun u w' => ∃ x : Option Addr × Nat, u = .slice x.1 l.length x.2 ∧ Wd NoS w0 [Ent.vec x.1 l.length x.2 3 1 (l.map (.int .i64))] w' ∧ True := by
  refine ret_enter Tryd.func116 rfl Tryd.ntmps116 rfl (Wd.nil NoS w0) ?_
  repeat (first | refine g_op rfl ?_ | refine g_then ?_ | refine g_nil ?_ | refine g_region ?_ | refine g_seq ?_)
  cases a with
  | none =>
    have hl0 : l = [] := by
      obtain ⟨_, _, _, b, o, ha, _⟩ := h.at
      exact Classical.byContradiction fun hn => by cases ha hn
    subst hl0
    repeat (first | refine g_then ?_ | refine g_nil ?_ | refine g_region ?_ | refine g_seq ?_ | refine g_opS rfl ?_ | refine g_condT ?_ | refine g_ret ?_ | refine g_thenRet ?_)
    refine g_nilVec 3 1 ?_
    exact g_ret1 rfl fun w hw => ⟨(none, 0), rfl, hw, trivial⟩
  | some ad =>
    repeat (first | refine g_then ?_ | refine g_region ?_ | refine g_seq ?_ | refine g_skip ?_ | refine g_condF ?_)
    refine g_build0 rfl fun eb _ => ?_
    repeat (refine g_op rfl ?_)
    refine g_appendF rfl rfl l (fun x => [.int .i64 x]) (fun _ _ _ h => h.1) (fun _ => rfl) (fun y u hu => by simp only [List.mem_singleton] at hu; subst hu; rfl) (fun w hw => h.keep (keeps_int) hw.chg) (by omega) (by omega) fun a' c' => ?_
    rw [flat_one, List.nil_append, Nat.zero_add]
    repeat (first | refine g_then ?_ | refine g_nil ?_ | refine g_opS rfl ?_ | refine g_ret ?_)
    exact g_ret1 rfl fun w hw => ⟨(a', c'), rfl, hw, trivial⟩
/-- the blocks on a block's frontier, as a row -/
noncomputable def frontRow (bl : List LBlock) (b : Nat) : List Int := ((List.range bl.length).filter fun x => (open Classical in decide (FrontR bl b x))).map fun x : Nat => (x : Int)
theorem frontRow_get {bl : List LBlock} {b : Nat} (hb : b < bl.length) : (frontL bl)[b]? = some (frontRow bl b) := by
  unfold frontL gridL
  rw [List.getElem?_map, List.getElem?_range hb]; rfl
theorem frontRow_mem {bl : List LBlock} (hok : GoodB bl) {b x : Nat} : (x : Int) ∈ frontRow bl b ↔ FrontR bl b x := by
  classical
  unfold frontRow
  rw [mem_ints, List.mem_filter, List.mem_range]
  simp only [decide_eq_true_eq]
  exact ⟨fun h => h.2, fun h => ⟨h.lt hok, h⟩⟩
theorem frontRow_lt {bl : List LBlock} {b : Nat} {x : Int} (hx : x ∈ frontRow bl b) : ∃ c : Nat, x = c ∧ c < bl.length ∧ FrontR bl b c := by
  classical
  unfold frontRow at hx
  obtain ⟨c, hc, rfl⟩ := List.mem_map.1 hx
  have h := List.mem_filter.1 hc
  exact ⟨c, rfl, List.mem_range.1 h.1, by simpa using h.2⟩
theorem frontRow_nodup (bl : List LBlock) (b : Nat) : (frontRow bl b).Nodup := by
  classical
  exact (filter_rise bl.length fun x => decide (FrontR bl b x)).imp fun h e => by omega
theorem frontL_len (bl : List LBlock) : (frontL bl).length = bl.length := by unfold frontL gridL; rw [List.length_map, List.length_range]
theorem meetL_nodup (bl : List LBlock) (bs : List Int) : (meetL bl bs).Nodup := by
  classical
  exact (filter_rise bl.length fun x => decide (Meets bl bs x)).imp fun h e => by omega
theorem meetOf_c (bl : List LBlock) (hok : GoodB bl) (hpos : 0 < bl.length) (hlen : bl.length ≤ 100) (fa : Option Addr) (fc : Nat) (ba : Option Addr) (bc : Nat) (bs : List Int) (hbn : bs.length ≤ 17592186044000) (hin : ∀ x ∈ bs, ∃ c : Nat, x = c ∧ c < bl.length) (w0 : World) (hf : SlAt w0 (.slice fa bl.length fc) 1 (frontL bl) RowV) (hbs : SlAt w0 (.slice ba bs.length bc) 1 bs IntV) :
    Ret Tryd.prog 82 [.slice fa bl.length fc, .slice ba bs.length bc] w0 fun u w' => ∃ x : Option Addr × Nat, u = .slice x.1 (meetL bl bs).length x.2 ∧ Wd NoS w0 [Ent.vec x.1 (meetL bl bs).length x.2 3 1 ((meetL bl bs).map (.int .i64))] w' ∧ True := by
  classical
  obtain ⟨_, _, _, kb, ko, hfa, hfel⟩ := hf.at
  refine ret_enter Tryd.func82 rfl Tryd.ntmps82 rfl (Wd.nil NoS w0) ?_
  repeat (first | refine g_op rfl ?_ | refine g_then ?_ | refine g_nil ?_ | refine g_region ?_ | refine g_seq ?_)
  refine g_callE (val := fun x : Option Addr × Nat => .slice x.1 bs.length x.2) (E := fun x => [Ent.vec x.1 bs.length x.2 3 1 (bs.map (.int .i64))]) (φ := fun _ => True) rfl (fun w hw => cloneBig_c _ _ bs (by omega) w (hbs.keep keeps_int hw.chg)) fun x _ => ?_
  obtain ⟨ra, rc⟩ := x
  simp only [List.cons_append, List.nil_append]
  repeat (first | refine g_op rfl ?_ | refine g_then ?_ | refine g_nil ?_ | refine g_block ?_)
  refine g_nilVec 3 1 ?_
  have hlt : ∀ (row out : List Int), MRow bl bs row out → ∀ x ∈ out, ∃ c : Nat, x = c ∧ c < bl.length := fun row out h x hx => by
    obtain ⟨c, e, hc⟩ := h.sound x hx
    exact ⟨c, e, hc.lt hok⟩
  refine g_loop (fun (x : List Int × (Option Addr × Nat) × List Int × (Option Addr × Nat)) => MRow bl bs x.1 x.2.2.1 ∧ x.1.length ≤ bs.length + x.2.2.1.length) (fun x => [(6, .slice x.2.1.1 x.1.length x.2.1.2), (5, .slice x.2.2.2.1 x.2.2.1.length x.2.2.2.2), (0, .slice fa bl.length fc)])
    (fun x => [Ent.vec x.2.2.2.1 x.2.2.1.length x.2.2.2.2 3 1 (x.2.2.1.map (.int .i64)), Ent.vec x.2.1.1 x.1.length x.2.1.2 3 1 (x.1.map (.int .i64))]) (fun x => (bl.length - x.2.2.1.length) * (bl.length + 1) + x.1.length) (bs, (ra, rc), [], (none, 0))
    ⟨mrow_start bl bs, by simp⟩ (g_done (by repeat (first | exact trivial | refine ⟨rfl, ?_⟩)) (List.Sublist.refl _)) fun x ⟨hM, hrl⟩ => ?_
  obtain ⟨row, ⟨ra1, rc1⟩, out, ⟨oa, oc⟩⟩ := x
  simp only at hM hrl ⊢
  have hol := nodup_lenJ hM.nodup (hlt _ _ hM)
  repeat (first | refine g_op rfl ?_ | refine g_then ?_ | refine g_nil ?_ | refine g_region ?_ | refine g_seq ?_)
  refine g_cond (fun h1 => ?_) (fun h1 => ?_)
  · obtain ⟨z, rest, rfl⟩ : ∃ z rest, row = z :: rest := by
      cases row with
      | nil => simp at h1
      | cons z rest => exact ⟨z, rest, rfl⟩
    have hzc : ∃ c : Nat, z = c ∧ c < bl.length := (hM.rows z (by simp)).elim (hin z) (hlt _ _ hM z)
    obtain ⟨c, rfl, hcn⟩ := hzc
    have hlc : LtIs c bl.length := ⟨hcn⟩
    have hrl1 : (((c : Int) :: rest).length) = rest.length + 1 := rfl
    rw [hrl1] at hrl ⊢
    refine g_vec 1 rfl (by omega) fun qb qo hqa => ?_
    subst hqa
    have hl00 : LtIs 0 (rest.length + 1) := ⟨by omega⟩
    have hada : AddrIs fa kb ko := ⟨hfa (ne_of_get (frontRow_get hcn))⟩
    obtain ⟨_, hc2, v, rfl, hrow⟩ := hfel c _ (frontRow_get hcn)
    have hca : CellsIs w0 kb (ko + c * 1) [v] := ⟨hc2⟩
    have hrow0 := hrow
    obtain ⟨va, vn, vc, _, _, rfl, _⟩ := hrow0
    obtain ⟨hvn, hvnc, hvm, vb, vo, hva, hvel⟩ := hrow.at
    repeat (first | refine g_op rfl ?_ | refine g_then ?_ | refine g_nil ?_ | refine g_region ?_ | refine g_seq ?_ | refine g_block ?_ | refine g_skip ?_)
    have hnd := frontRow_nodup bl c
    have hfm : ∀ x : Nat, (x : Int) ∈ frontRow bl c ↔ FrontR bl c x := fun x => frontRow_mem hok
    have hfl : ∀ x ∈ frontRow bl c, ∃ d : Nat, x = d ∧ d < bl.length ∧ FrontR bl c d := fun x hx => frontRow_lt hx
    generalize frontRow bl c = fs at *
    refine g_loop (fun (x : Nat × List Int × (Option Addr × Nat) × List Int × (Option Addr × Nat)) => x.1 ≤ vn ∧ MHead bl bs c (fs.take x.1) x.2.1 x.2.2.2.1 ∧ x.2.1.length + 1 ≤ bs.length + x.2.2.2.1.length ∧ (bl.length - x.2.2.2.1.length) * (bl.length + 1) + x.2.1.length ≤ (bl.length - out.length) * (bl.length + 1) + rest.length)
      (fun x => [(23, .int .i64 x.1), (6, .slice x.2.2.1.1 (x.2.1.length + 1) x.2.2.1.2), (5, .slice x.2.2.2.2.1 x.2.2.2.1.length x.2.2.2.2.2), (0, .slice fa bl.length fc), (21, .slice va vn vc), (22, .int .i64 vn)])
      (fun x => [Ent.vec x.2.2.2.2.1 x.2.2.2.1.length x.2.2.2.2.2 3 1 (x.2.2.2.1.map (.int .i64)), Ent.vec x.2.2.1.1 (x.2.1.length + 1) x.2.2.1.2 3 1 (((c : Int) :: x.2.1).map (.int .i64))]) (fun x => vn - x.1) (0, rest, (some ⟨qb, qo, none⟩, rc1), out, (oa, oc))
      ⟨Nat.zero_le _, hM.head, hrl, Nat.le_refl _⟩ (g_done (by repeat (first | exact trivial | refine ⟨rfl, ?_⟩)) (List.Sublist.refl _)) fun x ⟨hj, hH, hRl, hms⟩ => ?_
    obtain ⟨j, R, ⟨ra2, rc2⟩, out2, ⟨oa2, oc2⟩⟩ := x
    simp only at hj hH hRl hms ⊢
    have hlt2 : ∀ x ∈ out2, ∃ c : Nat, x = c ∧ c < bl.length := fun x hx => by
      obtain ⟨c, e, hc⟩ := hH.sound x hx
      exact ⟨c, e, hc.lt hok⟩
    have hol2 := nodup_lenJ hH.nodup hlt2
    repeat (first | refine g_op rfl ?_ | refine g_then ?_ | refine g_nil ?_ | refine g_region ?_ | refine g_seq ?_)
    refine g_cond (fun h2 => ?_) (fun h2 => ?_)
    · have hjl : j < vn := by simpa using h2
      obtain ⟨y, hy⟩ : ∃ y, fs[j]? = some y := ⟨_, List.getElem?_eq_getElem (by omega)⟩
      obtain ⟨d, rfl, hdn, hdf⟩ := hfl y (List.mem_of_getElem? hy)
      obtain ⟨_, hc3, rfl, _⟩ := hvel j _ hy
      have hadv : AddrIs va vb vo := ⟨hva (ne_of_get hy)⟩
      have hlj : LtIs j vn := ⟨hjl⟩
      have hcv : CellsIs w0 vb (vo + j * 1) [.int .i64 (d : Int)] := ⟨hc3⟩
      have htk : fs.take (j + 1) = fs.take j ++ [(d : Int)] := by rw [List.take_add_one, hy]; rfl
      repeat (first | refine g_op rfl ?_ | refine g_then ?_ | refine g_nil ?_ | refine g_region ?_ | refine g_seq ?_ | refine g_block ?_ | refine g_skip ?_)
      refine g_callV rfl (fun w hw => contains_c _ out2 d w (hw.slAt (k := 0) rfl rfl (by omega) fun i x hx => ⟨[.int .i64 x], fun j v hj => by
        match j, hj with
        | 0, hj => simpa [hx] using hj, rfl, by
          obtain ⟨e, rfl, he⟩ := hlt2 x (List.mem_of_getElem? hx)
          simp only [inI]; omega⟩) ⟨_, _, _, rfl⟩) ?_
      generalize hd1 : decide ((d : Int) ∈ out2) = d1
      cases d1
      · have hno : (d : Int) ∉ out2 := by simpa using hd1
        have hadd := hH.add hdf hno
        have hol3 : out2.length + 1 ≤ bl.length := by
          have := nodup_lenJ (n := bl.length) hadd.nodup fun x hx => by
            obtain ⟨c, e, hc⟩ := hadd.sound x hx
            exact ⟨c, e, hc.lt hok⟩
          rwa [List.length_append, List.length_singleton] at this
        have hmul : (bl.length - (out2.length + 1)) * (bl.length + 1) + (bl.length + 1) = (bl.length - out2.length) * (bl.length + 1) := by
          rw [← Nat.succ_mul, show (bl.length - (out2.length + 1)).succ = bl.length - out2.length by omega]
        repeat (first | refine g_op rfl ?_ | refine g_then ?_ | refine g_nil ?_ | refine g_region ?_ | refine g_seq ?_ | refine g_condT ?_ | refine g_build1 rfl rfl fun _ _ => ?_)
        rename_i bt _
        refine g_append rfl rfl (by omega) (by omega) fun a1 c1 => ?_
        repeat (first | refine g_op rfl ?_ | refine g_then ?_ | refine g_nil ?_ | refine g_region ?_ | refine g_opS rfl ?_ | refine g_build1 rfl rfl fun _ _ => ?_)
        rename_i bt2 _
        refine g_append rfl rfl (by omega) (by omega) fun a2 c2 => ?_
        refine g_sel [2, 3] (by decide) ?_
        refine g_eqH (H1 := [Ent.vec a1 (out2 ++ [(d : Int)]).length c1 3 1 ((out2 ++ [(d : Int)]).map (.int .i64)), Ent.vec a2 ((R ++ [(d : Int)]).length + 1) c2 3 1 (((c : Int) :: (R ++ [(d : Int)])).map (.int .i64))]) (by simp) ?_
        repeat (first | refine g_then ?_ | refine g_nil ?_ | refine g_region ?_ | refine g_opS rfl ?_ | refine g_inBlock ?_ | refine g_add rfl (by omega) (by omega) ?_)
        have hl1 : (out2 ++ [(d : Int)]).length = out2.length + 1 := by simp
        have hl2 : (R ++ [(d : Int)]).length = R.length + 1 := by simp
        refine g_fix (L' := [(23, .int .i64 ((j : Int) + 1)), (6, .slice a2 ((R ++ [(d : Int)]).length + 1) c2), (5, .slice a1 (out2 ++ [(d : Int)]).length c1), (0, .slice fa bl.length fc), (21, .slice va vn vc), (22, .int .i64 vn)]) (by rw [hl1, hl2]; exact (by repeat (first | exact trivial | refine ⟨rfl, ?_⟩))) (List.Sublist.refl _) ?_
        exact g_next (j + 1, R ++ [(d : Int)], (a2, c2), out2 ++ [(d : Int)], (a1, c1)) ⟨hjl, by simp only [htk]; exact hadd, by simp only [hl1, hl2]; omega, by simp only [hl1, hl2]; omega⟩ (by simp only; omega) (by repeat (first | exact trivial | refine ⟨rfl, ?_⟩)) (List.Sublist.refl _)
      · have hyes : (d : Int) ∈ out2 := by simpa using hd1
        repeat (first | refine g_op rfl ?_ | refine g_then ?_ | refine g_nil ?_ | refine g_region ?_ | refine g_opS rfl ?_ | refine g_inBlock ?_ | refine g_skip ?_ | refine g_condF ?_ | refine g_add rfl (by omega) (by omega) ?_)
        exact g_next (j + 1, R, (ra2, rc2), out2, (oa2, oc2)) ⟨hjl, by simp only [htk]; exact hH.pass hyes, hRl, hms⟩ (by simp only; omega) (by repeat (first | exact trivial | refine ⟨rfl, ?_⟩)) (List.Sublist.refl _)
    · have hge : j = vn := by have := h2; simp at this; omega
      rw [hge, hvn, List.take_length] at hH
      repeat (first | refine g_op rfl ?_ | refine g_then ?_ | refine g_region ?_ | refine g_inBlock ?_ | refine g_exit ?_ | refine g_thenExit ?_ | refine g_exitHere ?_)
      refine g_tail rfl (by omega) fun a2 => ?_
      repeat (first | refine g_then ?_ | refine g_nil ?_ | refine g_opS rfl ?_)
      exact g_next (R, (a2, rc2 - 1), out2, (oa2, oc2)) ⟨hH.row fun x hx => (hfm x).2 hx, by simp only; omega⟩ (by simp only [List.length_cons]; omega) (by repeat (first | exact trivial | refine ⟨rfl, ?_⟩)) (List.Sublist.refl _)
  · have hr0 : row = [] := by
      cases row with
      | nil => rfl
      | cons z rest => simp at h1
    subst hr0
    have hsm : sorted out = meetL bl bs := by
      unfold meetL
      refine sorted_filter hM.nodup fun x => ?_
      rw [hM.mem]
      exact ⟨fun ⟨c, e, h⟩ => ⟨c, e, h.lt hok, by simpa using h⟩, fun ⟨c, e, _, h⟩ => ⟨c, e, by simpa using h⟩⟩
    have hsl := sorted_len out
    repeat (first | refine g_op rfl ?_ | refine g_then ?_ | refine g_region ?_ | refine g_seq ?_ | refine g_exit ?_ | refine g_thenExit ?_ | refine g_exitHere ?_)
    refine g_callS (H1 := [Ent.vec oa out.length oc 3 1 (out.map (.int .i64))]) (H2 := [Ent.vec ra1 ([] : List Int).length rc1 3 1 (([] : List Int).map (.int .i64))]) (val := fun _ : Unit => .tuple #[]) (E := fun _ => [Ent.vec oa out.length oc 3 1 ((sorted out).map (.int .i64))]) (φ := fun _ => True) rfl (fun w hw => sort_c oa oc out (by omega) w hw.pre) fun _ _ => ?_
    rw [hsm] at hsl ⊢
    rw [← hsl]
    repeat (first | refine g_op rfl ?_ | refine g_then ?_ | refine g_nil ?_ | refine g_region ?_ | refine g_seq ?_ | refine g_ret ?_)
    exact g_ret1 rfl fun w hw => ⟨(oa, oc), rfl, hw.sub (List.Sublist.cons_cons _ (List.nil_sublist _)), trivial⟩
end Go.Proofs.YtoahickmkkcneaaDoor

/- In a region that draws: an empty slice, and append of what is only read. -/
namespace Go.Proofs.YtoahickmkkcneaaDoor
open Go Go.RowKit

section
variable {P : Program} {N : Nat} {ds : List Deferred} {S : Nat → Prop} {w0 : World} {L L' : List (Nat × Value)} {H H' Hr : List Ent} {Q : Exit → Act → World → Prop} {x y : Operand} {M : Act → World → Prop} {l : List Oper} {fuel : Nat} {listed : Array Bool}
theorem h_build0 {d ty T e s by' : Nat} {zs : List Value} {pos : String} {aft : Array Go.Edge} (i0 : Nat) [ho : ListAt l i0 ⟨some d, .buildSlice T 0 #[], ty, pos, aft, none⟩] [h : ElemInfo P T e s by' zs] (hd : okPut d N L = true)
    (hr : decide (Region.ready .any l.toArray listed = [i0]) = true) (hH : Hr.Sublist H)
    (k : ∀ b, w0.heap.size ≤ b → G N ds S w0 ((d, .slice (some ⟨b, 0, none⟩) 0 0) :: L) (Ent.vec (some ⟨b, 0, none⟩) 0 0 e s [] :: H) (wpAnyH P .any l.toArray (OnlyN M) (Wd S w0 Hr) fuel (listed.setIfInBounds i0 true))) : G N ds S w0 L H (wpAnyH P .any l.toArray (OnlyN M) (Wd S w0 Hr) (fuel + 1) listed) :=
  h_val i0 rfl hr fun a w hS => by
    obtain ⟨i, zz, hi, _, _, _, _⟩ := h.get
    have hv := hS.wd.vecNew e s 0 [] (by simp) (by simp [maxLen])
    refine ⟨.slice (some ⟨w.heap.size, 0, none⟩) 0 0, w.alloc (.cells #[] e), ?_, hv.sub (hH.trans (List.sublist_cons_self _ _)), k _ hS.wd.size _ _ ⟨hS.fr.putOk hd _, hv⟩⟩
    have hr : (Instr.buildSlice T 0 #[]).run P w = .ok (.slice (some ⟨w.heap.size, 0, none⟩) 0 0) (w.alloc (.cells #[] e)) := by
      simp [Instr.buildSlice, run_underlying h.und, sizeOf, typeInfo, hi, Instr.fill, newRow]
      congr 2
      exact Array.eq_empty_of_size_eq_zero (by simp)
    simp [execOp, hr]
theorem h_appendF {α : Type} {d ty T e s by' : Nat} {zs : List Value} {pos : String} {aft : Array Go.Edge} {ad a2 : Option Addr} {n c m c2 : Nat} (i0 k : Nat) {xs : List Value} [ho : ListAt l i0 ⟨some d, .call { callee := .builtin .append, args := #[x, y], argTypes := #[T, T] }, ty, pos, aft, none⟩] [h : ElemInfo P T e s by' zs] [hx : Ev L x (.slice ad n c)] [hy : Ev L y (.slice a2 m c2)]
    (hk : H[k]? = some (Ent.vec ad n c e s xs)) (hd : okPut d N L = true) (hs : (Nat.blt 0 s && Nat.beq zs.length s) = true) (q : List α) {V : World → α → List Value → Prop} (g : α → List Value) (hg : ∀ w x cs, V w x cs → cs = g x) (hlen : ∀ x, (g x).length = s) (hone : ∀ x, ∀ u ∈ g x, u.oneCell' = true)
    (hsl : ∀ w, Wd S w0 H w → SlAt w (.slice a2 m c2) s q V) (hbytes : (n + m) * by' ≤ 140737488355328) (h63 : n + m ≤ 140737488355328)
    (hr : decide (Region.ready .any l.toArray listed = [i0]) = true) (hH : ∀ e', Hr.Sublist (H.set k e'))
    (kk : ∀ a' c', G N ds S w0 ((d, .slice a' (n + m) c') :: L) (H.set k (Ent.vec a' (n + m) c' e s (xs ++ q.flatMap g))) (wpAnyH P .any l.toArray (OnlyN M) (Wd S w0 Hr) fuel (listed.setIfInBounds i0 true))) : G N ds S w0 L H (wpAnyH P .any l.toArray (OnlyN M) (Wd S w0 Hr) (fuel + 1) listed) :=
  h_val i0 rfl hr fun a w hS => by
    simp only [Bool.and_eq_true, Nat.blt_eq] at hs
    obtain ⟨a2', m', c2', b, o, hval, hm, hmc, _, _, ha, hel⟩ := hsl w hS.wd
    simp only [Value.slice.injEq] at hval
    obtain ⟨rfl, rfl, rfl⟩ := hval
    by_cases h0 : m = 0
    · subst h0
      have hl : q = [] := List.eq_nil_of_length_eq_zero hm.symm
      subst hl
      obtain ⟨i, zz, hi, _, _, _, _⟩ := h.get
      have hnc : n ≤ c := by
        obtain ⟨_, h2⟩ := hS.wd.get hk
        rcases h2 with ⟨_, h2, h3⟩ | ⟨_, _, _, _, h3, _⟩ <;> omega
      have hr : (Builtin.append_ #[T, T] ty #[.slice ad n c, .slice a2 0 c2]).run P w = .ok (.slice ad n c) w := by
        cases ad <;> cases a2 <;> simp [Builtin.append_, run_underlying h.und, sizeOf, typeInfo, hi, Builtin.lenOf, Builtin.firstCells, hnc, storeCells, loadCells, loadCellsFrom]
      have := kk ad c
      simp only [List.flatMap_nil, List.append_nil, Nat.add_zero] at this
      rw [set_self hk] at this
      have hsub := hH (Ent.vec ad n c e s xs)
      rw [set_self hk] at hsub
      exact ⟨.slice ad n c, w, by simp [execOp, resolve, invoke, builtin, hx.eq _ _ _ hS.fr, hy.eq _ _ _ hS.fr, hr], hS.wd.sub hsub, this _ _ ⟨hS.fr.putOk hd _, hS.wd⟩⟩
    · have hne : q ≠ [] := by rintro rfl; simp at hm; exact h0 hm
      have ha := ha hne
      subst ha
      obtain ⟨a', c', w', hr, hw'⟩ := hS.wd.append (P := P) (ty := ty) (c2 := c2) (a2 := ⟨b, o, none⟩) (m := m) (news := q.flatMap g) h hs.1 hk (by omega) (by rw [flat_len hlen, hm]) (fun j u hj => by
        obtain ⟨i, q, j', h1, h2, rfl⟩ := flat_from hlen q j u hj
        obtain ⟨cs, hc, hV⟩ := hel i q h1
        rw [hg _ _ _ hV] at hc
        have := hc j' u h2
        rw [Addr.add_lit, ← Nat.add_assoc]
        exact this) (fun u hu => by obtain ⟨q, _, hq⟩ := List.mem_flatMap.1 hu; exact hone q u hq) hbytes h63 (Nat.eq_of_beq_eq_true hs.2)
      exact ⟨.slice a' (n + m) c', w', by simp [execOp, resolve, invoke, builtin, hx.eq _ _ _ hS.fr, hy.eq _ _ _ hS.fr, hr], hw'.sub (hH _), kk a' c' _ _ ⟨hS.fr.putOk hd _, hw'⟩⟩
end
end Go.Proofs.YtoahickmkkcneaaDoor

/- turneryref3.Meet: what it returns. -/
namespace Go.Proofs.YtoahickmkkcneaaDoor
open Go Go.RowKit
attribute [local irreducible] wpListIn Code.wpIn Exit.then Exit.inBlock bodyPost wpQuiet wpAnyIn wpAnyH bodyPostM
set_option maxHeartbeats 4000000

theorem frontK {f : FuncId} {args : List Value} {w0 : World} {bl : List LBlock} (hlen : bl.length ≤ 100) (h : Ret Tryd.prog f args w0 fun u w' => ∃ x : Nat × List Row, u = .slice (some ⟨x.1, 0, none⟩) bl.length bl.length ∧ Wd NoS w0 (Ent.vec (some ⟨x.1, 0, none⟩) bl.length bl.length 35 1 (x.2.map valR) :: x.2.map entR) w' ∧ x.2.map (·.l) = frontL bl) :
    RetK Tryd.prog f args w0 1 (frontL bl) RowV fun v => v :=
  retK_of h fun x hx => ⟨some ⟨x.1, 0, none⟩, bl.length, by rw [frontL_len], fun w2 hw => by
    have hl : x.2.length = bl.length := by have := congrArg List.length hx; rwa [List.length_map, frontL_len] at this
    rw [← hx, List.length_map]
    rw [← hl] at hw ⊢
    exact rows_slB (H := []) (by rw [List.append_nil]; exact hw) (by omega) fun r hr => gridL_bd hlen (hx ▸ List.mem_map.2 ⟨r, hr, rfl⟩)⟩
/-- as it was sorted -/
def Canon (n : Nat) (l : List Int) : Prop := (sortL l n).map (fun x : Nat => (x : Int)) = l
theorem canon_nil (n : Nat) : Canon n [] := by simp [Canon, sortL]
theorem canon_sort (n : Nat) (l : List Int) : Canon n ((sortL l n).map fun x : Nat => (x : Int)) := by
  unfold Canon
  congr 1
  unfold sortL
  refine List.filter_congr fun c hc => ?_
  rw [decide_eq_decide, mem_ints, List.mem_filter]
  exact ⟨fun h => by simpa using h.2, fun h => ⟨hc, by simpa using h⟩⟩
theorem Canon.lt {n : Nat} {l : List Int} (h : Canon n l) {x : Int} (hx : x ∈ l) : ∃ c : Nat, x = c ∧ c < n := by
  rw [← h] at hx
  obtain ⟨c, hc, rfl⟩ := List.mem_map.1 hx
  exact ⟨c, rfl, List.mem_range.1 (List.mem_filter.1 hc).1⟩
theorem Canon.len {n : Nat} {l : List Int} (h : Canon n l) : l.length ≤ n := by
  have h1 := congrArg List.length h
  have h2 := List.length_filter_le (fun c : Nat => decide ((c : Int) ∈ l)) (List.range n)
  rw [List.length_map] at h1
  rw [List.length_range] at h2
  unfold sortL at h1
  omega
theorem Canon.meet {bl : List LBlock} {bs l : List Int} (h : Canon bl.length l) (hm : ∀ x : Nat, (x : Int) ∈ l ↔ Meets bl bs x) : l = meetL bl bs := by
  classical
  rw [← h]
  unfold meetL sortL
  congr 1
  exact List.filter_congr fun c _ => by rw [decide_eq_decide]; exact hm c
theorem sortL_mem' {l : List Int} {n x : Nat} : (x : Int) ∈ (sortL l n).map (fun x : Nat => (x : Int)) ↔ x < n ∧ (x : Int) ∈ l := by
  rw [mem_ints]
  unfold sortL
  rw [List.mem_filter, List.mem_range]
  simp
noncomputable def cntL (l : List Int) (n : Nat) : Nat := @cnt (fun y : Nat => (y : Int) ∈ l) (fun _ => Classical.propDecidable _) n
theorem refMeet_c (nm pa re : Value) (bl : List LBlock) (fbs : Value) (hbsl : ∃ a n c, fbs = .slice a n c) (bs : List Int) (ba : Option Addr) (bc : Nat) (w0 : World) (hfb : SlAt w0 fbs 6 bl BlockV) (hbs : SlAt w0 (.slice ba bs.length bc) 1 bs IntV) (hlen : bl.length ≤ 100) (hok : GoodB bl) (hpos : 0 < bl.length) :
    Ret Tryd.prog 44 [.agg #[nm, pa, re, fbs], .slice ba bs.length bc] w0 fun u w' => ∃ x : Option Addr × Nat, u = .slice x.1 (meetL bl bs).length x.2 ∧ Wd NoS w0 [Ent.vec x.1 (meetL bl bs).length x.2 3 1 ((meetL bl bs).map (.int .i64))] w' ∧ True := by
  classical
  obtain ⟨fba, n, fbc, rfl⟩ := hbsl
  have hn : n = bl.length := hfb.at.1
  refine ret_enter Tryd.func44 rfl Tryd.ntmps44 rfl (Wd.nil NoS w0) ?_
  repeat (first | refine g_op rfl ?_ | refine g_then ?_ | refine g_nil ?_ | refine g_region ?_ | refine g_seq ?_ | refine g_box rfl fun _ _ => ?_)
  rename_i p2 _
  refine g_callK (s := 1) (l := frontL bl) (V := RowV) (mk := fun v => v) rfl (fun w hw => frontK hlen (refFront_c _ _ _ bl _ ⟨_, _, _, rfl⟩ w (hfb.keep keeps_block hw.chg) hlen hok hpos)) fun ka kc kp => ?_
  rw [frontL_len]
  repeat (first | refine g_op rfl ?_ | refine g_then ?_ | refine g_nil ?_ | refine g_region ?_ | refine g_seq ?_ | refine g_block ?_)
  refine g_sel [1, 0] (by decide) ?_
  refine g_eqH (H1 := [Ent.box p2 [nm, pa, re, .slice fba n fbc] 34] ++ [(⟨kp, fun w => SlAt w (.slice ka bl.length kc) 1 (frontL bl) RowV⟩ : Ent)]) rfl ?_
  refine g_holdK fun w1 hw1 => ?_
  have hkk : SlAt (killW (fps [Ent.box p2 [nm, pa, re, .slice fba n fbc] 34]) w1) (.slice ka bl.length kc) 1 (frontL bl) RowV := hw1.beside (e := (⟨kp, fun w => SlAt w (.slice ka bl.length kc) 1 (frontL bl) RowV⟩ : Ent)) (by simp)
  have back : ∀ {E : List Ent} {w : World}, Wd (fps [Ent.box p2 [nm, pa, re, .slice fba n fbc] 34]) (killW (fps [Ent.box p2 [nm, pa, re, .slice fba n fbc] 34]) w1) E w → Wd NoS w0 (E ++ [(⟨kp, fun w => SlAt w (.slice ka bl.length kc) 1 (frontL bl) RowV⟩ : Ent)]) w := fun hw => hw1.comp hw.unkill
  have hkp : ∀ {E : List Ent} {w : World}, Wd (fps [Ent.box p2 [nm, pa, re, .slice fba n fbc] 34]) (killW (fps [Ent.box p2 [nm, pa, re, .slice fba n fbc] 34]) w1) E w → ∀ p v, (killW (fps [Ent.box p2 [nm, pa, re, .slice fba n fbc] 34]) w1).cell? p = some v → w.cell? p = some v := fun hw => hw.killKeep
  have hold : ∀ {b o : Nat} {v : Value} {l : List Value}, CellsAt (killW (fps [Ent.box p2 [nm, pa, re, .slice fba n fbc] 34]) w1) b o (v :: l) → OldIs (fps [Ent.box p2 [nm, pa, re, .slice fba n fbc] 34]) b := fun hc => killOldIs hc (by simp)
  have hbk := hbs.keep keeps_int hw1.killOld
  generalize killW (fps [Ent.box p2 [nm, pa, re, .slice fba n fbc] 34]) w1 = wk at *
  generalize fps [Ent.box p2 [nm, pa, re, .slice fba n fbc] 34] = SS at *
  obtain ⟨kb, ko, hadk, holk, htab⟩ := tabsOf hkk hold (by intro e; have := frontL_len bl; rw [e] at this; simp at this; omega)
  refine g_nilVec 3 1 ?_
  refine g_loop (fun (x : Nat × List Int × Option Addr × Nat) => x.1 ≤ bl.length + 1 ∧ Canon bl.length x.2.1 ∧ (∀ y : Nat, (y : Int) ∈ x.2.1 → Meets bl bs y) ∧ (MClosed bl bs (fun y => (y : Int) ∈ x.2.1) ∨ x.1 ≤ cntL x.2.1 bl.length))
    (fun x => [(7, .int .i64 x.1), (6, .slice x.2.2.1 x.2.1.length x.2.2.2), (5, .slice ka bl.length kc), (1, .slice ba bs.length bc)]) (fun x => [Ent.vec x.2.2.1 x.2.1.length x.2.2.2 3 1 (x.2.1.map (.int .i64)), Ent.box p2 [nm, pa, re, .slice fba n fbc] 34]) (fun x => bl.length + 1 - x.1) (0, [], none, 0) ⟨Nat.zero_le _, canon_nil _, (by simp), .inr (Nat.zero_le _)⟩ (g_done (by repeat (first | exact trivial | refine ⟨rfl, ?_⟩)) (List.Sublist.refl _)) fun x ⟨hk, hc, hs, hr⟩ => ?_
  obtain ⟨k, l0, la0, lc0⟩ := x
  simp only at hk hc hs hr ⊢
  repeat (first | refine g_op rfl ?_ | refine g_then ?_ | refine g_nil ?_ | refine g_region ?_ | refine g_seq ?_)
  refine g_cond (fun h1 => ?_) (fun h1 => ?_)
  · have hlt : k < bl.length + 1 := by have := h1; simp at this; omega
    repeat (first | refine g_op rfl ?_ | refine g_then ?_ | refine g_nil ?_ | refine g_region ?_ | refine g_seq ?_ | refine g_block ?_ | refine g_skip ?_)
    refine g_loop (fun (x : Nat × List Int × Option Addr × Nat) => x.1 ≤ bl.length ∧ Canon bl.length x.2.1 ∧ MRound bl bs (fun y => (y : Int) ∈ l0) x.1 (fun y => (y : Int) ∈ x.2.1))
      (fun x => [(8, .int .i64 x.1), (7, .int .i64 k), (6, .slice x.2.2.1 x.2.1.length x.2.2.2), (5, .slice ka bl.length kc), (1, .slice ba bs.length bc)]) (fun x => [Ent.vec x.2.2.1 x.2.1.length x.2.2.2 3 1 (x.2.1.map (.int .i64)), Ent.box p2 [nm, pa, re, .slice fba n fbc] 34]) (fun x => bl.length - x.1) (0, l0, la0, lc0) ⟨Nat.zero_le _, hc, mround_start hs⟩ (g_done (by repeat (first | exact trivial | refine ⟨rfl, ?_⟩)) (List.Sublist.refl _)) fun x ⟨hb, hcl, hM⟩ => ?_
    obtain ⟨b, l, la, lc⟩ := x
    simp only at hb hcl hM ⊢
    have hll := hcl.len
    repeat (first | refine g_op rfl ?_ | refine g_then ?_ | refine g_nil ?_ | refine g_region ?_ | refine g_seq ?_)
    refine g_cond (fun h2 => ?_) (fun h2 => ?_)
    · have hbl : b < bl.length := by simpa using h2
      have hlb : LtIs b bl.length := ⟨hbl⟩
      obtain ⟨va, vc, hcib, hrow⟩ := htab b _ (frontRow_get hbl)
      have hlin : ∀ x ∈ l, inI x := fun x hx => by
        obtain ⟨c, rfl, hc⟩ := hcl.lt hx
        simp only [inI]; omega
      have hsl : ∀ (w : World) (H : List Ent), Wd SS wk (Ent.vec la l.length lc 3 1 (l.map (.int .i64)) :: H) w → SlAt w (.slice la l.length lc) 1 l IntV := fun w H hw => hw.slAt (k := 0) rfl rfl (by omega) fun i x hx => ⟨[.int .i64 x], fun j v hj => by
        match j, hj with
        | 0, hj => simpa [hx] using hj, rfl, hlin x (List.mem_of_getElem? hx)⟩
      repeat (first | refine g_op rfl ?_ | refine g_then ?_ | refine g_region ?_ | refine g_seq ?_ | refine g_block ?_ | refine g_skip ?_)
      refine g_callV rfl (fun w hw => has_c _ bs b w (SlAt.mono (V := IntV) (w := wk) (w' := w) (fun _ _ h => h) (hkp hw) hbk)) ?_
      by_cases hin : (b : Int) ∈ bs ∨ (b : Int) ∈ l
      · have hrn : (frontRow bl b).length ≤ bl.length := nodup_lenJ (frontRow_nodup bl b) fun x hx => (frontRow_lt hx).imp fun c h => ⟨h.1, h.2.1⟩
        refine Or.elim (Classical.em ((b : Int) ∈ bs)) (fun h => ?_) (fun h => ?_)
        rw [decide_eq_true h]
        repeat (first | refine g_op rfl ?_ | refine g_then ?_ | refine g_nil ?_ | refine g_seq ?_ | refine g_pass rfl ?_ | refine g_condT ?_)
        refine g_fix (L' := [(8, .int .i64 b), (7, .int .i64 k), (6, .slice la l.length lc), (5, .slice ka bl.length kc), (1, .slice ba bs.length bc)]) (by repeat (first | exact trivial | refine ⟨rfl, ?_⟩)) (List.Sublist.refl _) ?_
        rotate_left
        rw [decide_eq_false h]
        repeat (first | refine g_op rfl ?_ | refine g_open ?_)
        refine g_callV rfl (fun w hw => has_c _ l b w (hsl w _ hw)) ?_
        rw [decide_eq_true (hin.resolve_left h)]
        repeat (first | refine g_op rfl ?_ | refine g_then ?_ | refine g_nil ?_ | refine g_seq ?_ | refine g_condT ?_)
        refine g_fix (L' := [(8, .int .i64 b), (7, .int .i64 k), (6, .slice la l.length lc), (5, .slice ka bl.length kc), (1, .slice ba bs.length bc)]) (by repeat (first | exact trivial | refine ⟨rfl, ?_⟩)) (List.Sublist.refl _) ?_
        rotate_left
        all_goals
          refine g_drawH [Ent.vec la l.length lc 3 1 (l.map (.int .i64)), Ent.box p2 [nm, pa, re, .slice fba n fbc] 34] mixed (List.Sublist.refl _) ?_
          refine h_take 1 rfl (by decide +kernel) (List.Sublist.refl _) ?_
          refine h_take 3 rfl (by decide +kernel) (List.Sublist.refl _) ?_
          refine h_take 4 rfl (by decide +kernel) (List.Sublist.refl _) ?_
          refine h_take 5 rfl (by decide +kernel) (List.Sublist.refl _) ?_
          refine h_take 6 rfl (by decide +kernel) (List.Sublist.refl _) ?_
          refine h_build0 0 rfl (by decide +kernel) (List.Sublist.refl _) fun eb _ => ?_
          refine h_appendF 2 0 rfl rfl rfl l (V := IntV) (fun x => [.int .i64 x]) (fun _ _ _ h => h.1) (fun _ => rfl) (fun y u hu => by simp only [List.mem_singleton] at hu; subst hu; rfl) (fun w hw => hsl w _ (hw.sub (List.sublist_cons_self _ _))) (by omega) (by omega) (by decide +kernel) (fun _ => (List.Sublist.cons _ (List.Sublist.refl _))) fun a1 c1 => ?_
          rw [flat_one, List.nil_append, Nat.zero_add]
          simp only [List.set_cons_zero]
          refine h_appendF 7 0 rfl rfl rfl (frontRow bl b) (V := IntV) (fun x => [.int .i64 x]) (fun _ _ _ h => h.1) (fun _ => rfl) (fun y u hu => by simp only [List.mem_singleton] at hu; subst hu; rfl) (fun w hw => SlAt.mono (V := IntV) (w := wk) (w' := w) (fun _ _ h => h) (hkp hw) hrow) (by omega) (by omega) (by decide +kernel) (fun _ => (List.Sublist.cons _ (List.Sublist.refl _))) fun a2 c2 => ?_
          rw [flat_one, ← List.map_append]
          simp only [List.set_cons_zero]
          refine g_fix (L' := [(38, .slice a2 (l.length + (frontRow bl b).length) c2), (8, .int .i64 b), (7, .int .i64 k), (5, .slice ka bl.length kc), (1, .slice ba bs.length bc)]) (by repeat (first | exact trivial | refine ⟨rfl, ?_⟩)) (List.Sublist.refl _) ?_
          refine h_take 8 rfl (by decide +kernel) (List.Sublist.cons _ (List.Sublist.refl _)) ?_
          refine h_end (by decide +kernel) ?_
          repeat (first | refine g_op rfl ?_ | refine g_then ?_ | refine g_region ?_)
          refine g_callE (val := fun x : Option Addr × Nat => .slice x.1 (sortL (l ++ frontRow bl b) bl.length).length x.2) (E := fun x => [Ent.vec x.1 (sortL (l ++ frontRow bl b) bl.length).length x.2 3 1 ((sortL (l ++ frontRow bl b) bl.length).map intN)]) (φ := fun _ => True) rfl (fun w hw => sorted_c _ ⟨_, _, _, rfl⟩ (l ++ frontRow bl b) bl.length (by omega) w (hw.slAt (k := 0) rfl (by simp) (by omega) fun i x hx => ⟨[.int .i64 x], fun j v hj => by
            match j, hj with
            | 0, hj =>
              rw [List.getElem?_map, Nat.mul_one, Nat.add_zero, hx]
              simpa using hj, rfl, (List.mem_append.1 (List.mem_of_getElem? hx)).elim (hlin x) fun h => by
            obtain ⟨c, rfl, hc, _⟩ := frontRow_lt h
            simp only [inI]; omega⟩)) fun y _ => ?_
          obtain ⟨sa, sc⟩ := y
          simp only [List.cons_append, List.nil_append]
          have hnl : ((sortL (l ++ frontRow bl b) bl.length).map fun x : Nat => (x : Int)).length = (sortL (l ++ frontRow bl b) bl.length).length := by simp
          refine g_eqH (H1 := Ent.vec sa ((sortL (l ++ frontRow bl b) bl.length).map fun x : Nat => (x : Int)).length sc 3 1 (((sortL (l ++ frontRow bl b) bl.length).map fun x : Nat => (x : Int)).map (.int .i64)) :: [Ent.vec a2 (l.length + (frontRow bl b).length) c2 3 1 ((l ++ frontRow bl b).map (.int .i64)), Ent.vec la l.length lc 3 1 (l.map (.int .i64)), Ent.box p2 [nm, pa, re, .slice fba n fbc] 34]) (by rw [hnl, ← map_intN]) ?_
          repeat (first | refine g_op rfl ?_ | refine g_then ?_ | refine g_nil ?_ | refine g_region ?_ | refine g_opS rfl ?_ | refine g_inBlock ?_ | refine g_add rfl (by omega) (by omega) ?_)
          refine g_fix (L' := [(8, .int .i64 ((b : Int) + 1)), (7, .int .i64 k), (6, .slice sa ((sortL (l ++ frontRow bl b) bl.length).map fun x : Nat => (x : Int)).length sc), (5, .slice ka bl.length kc), (1, .slice ba bs.length bc)]) (by rw [hnl]; exact (by repeat (first | exact trivial | refine ⟨rfl, ?_⟩))) (List.Sublist.refl _) ?_
          exact g_next (b + 1, ((sortL (l ++ frontRow bl b) bl.length).map fun x : Nat => (x : Int)), sa, sc) ⟨hbl, canon_sort _ _, hM.take hin fun x => by
            simp only
            rw [sortL_mem', List.mem_append, frontRow_mem hok]
            exact ⟨fun h => h.2, fun h => ⟨h.elim (fun h => by obtain ⟨c, e, hc⟩ := hcl.lt h; omega) fun h => h.lt hok, h⟩⟩⟩ (by simp only; omega) (by repeat (first | exact trivial | refine ⟨rfl, ?_⟩)) (List.Sublist.cons_cons _ (List.Sublist.cons _ (List.Sublist.cons _ (List.Sublist.refl _))))
      · have h1 : ¬ (b : Int) ∈ bs := fun h => hin (.inl h)
        have h2 : ¬ (b : Int) ∈ l := fun h => hin (.inr h)
        rw [decide_eq_false h1]
        repeat (first | refine g_op rfl ?_ | refine g_open ?_)
        refine g_callV rfl (fun w hw => has_c _ l b w (hsl w _ hw)) ?_
        rw [decide_eq_false h2]
        repeat (first | refine g_op rfl ?_ | refine g_then ?_ | refine g_nil ?_ | refine g_region ?_ | refine g_opS rfl ?_ | refine g_inBlock ?_ | refine g_skip ?_ | refine g_condF ?_ | refine g_add rfl (by omega) (by omega) ?_)
        exact g_next (b + 1, l, la, lc) ⟨hbl, hcl, hM.pass hin⟩ (by simp only; omega) (by repeat (first | exact trivial | refine ⟨rfl, ?_⟩)) (List.Sublist.refl _)
    · have hge : b = bl.length := by have := h2; simp at this; omega
      rw [hge] at hM
      repeat (first | refine g_op rfl ?_ | refine g_then ?_ | refine g_nil ?_ | refine g_region ?_ | refine g_opS rfl ?_ | refine g_inBlock ?_ | refine g_add rfl (by omega) (by omega) ?_ | refine g_exit ?_ | refine g_thenExit ?_ | refine g_exitHere ?_)
      exact g_next (k + 1, l, la, lc) ⟨hlt, hcl, hM.sound, hM.next hok hpos hr⟩ (by simp only; omega) (by repeat (first | exact trivial | refine ⟨rfl, ?_⟩)) (List.Sublist.refl _)
  · have hge : k = bl.length + 1 := by have := h1; simp at this; omega
    rw [hge] at hr
    have hl := hc.meet (mround_end hs hr)
    repeat (first | refine g_op rfl ?_ | refine g_then ?_ | refine g_nil ?_ | refine g_region ?_ | refine g_seq ?_ | refine g_exit ?_ | refine g_thenExit ?_ | refine g_exitHere ?_ | refine g_ret ?_)
    exact g_ret1 rfl fun w hw => ⟨(la0, lc0), by rw [← hl], by rw [← hl]; exact (back hw).sub (List.Sublist.cons_cons _ (List.nil_sublist _)), trivial⟩
end Go.Proofs.YtoahickmkkcneaaDoor

/- dom.Meet: what it returns. -/
namespace Go.Proofs.YtoahickmkkcneaaDoor
open Go Go.RowKit
attribute [local irreducible] wpListIn Code.wpIn Exit.then Exit.inBlock bodyPost wpQuiet wpAnyIn wpAnyH bodyPostM
set_option maxHeartbeats 4000000

/-- no block of a function of n -/
def outB (n : Nat) (x : Int) : Bool := !within x 0 ((n : Int) - 1)
theorem outB_iff {n : Nat} {x : Int} : outB n x = true ↔ (x < 0 ∨ (n : Int) ≤ x) := by
  simp only [outB, within, Bool.not_eq_true', Bool.and_eq_false_iff, decide_eq_false_iff_not]
  omega
theorem meetOne_c (p8 : Nat) (nm pa re : Value) (ba : Option Addr) (n bc : Nat) (hn : n ≤ 100) (x : Int) (w0 : World) (hb : CellsAt w0 p8 0 [nm, pa, re, .slice ba n bc]) :
    RetV Tryd.prog 81 [.int .i64 x, .pointer (some ⟨p8, 0, none⟩)] w0 (.bool (outB n x)) := by
  have hci : CellsIs w0 p8 0 _ := ⟨hb⟩
  refine ret_enter Tryd.func81 rfl Tryd.ntmps81 rfl (Wd.nil NoS w0) ?_
  repeat (first | refine g_op rfl ?_ | refine g_then ?_ | refine g_nil ?_ | refine g_region ?_ | refine g_seq ?_ | refine g_sub rfl (by omega) (by omega) ?_)
  refine g_callV rfl (fun w hw => within_c x 0 ((n : Int) - 1) w) ?_
  repeat (first | refine g_op rfl ?_ | refine g_then ?_ | refine g_nil ?_ | refine g_opS rfl ?_ | refine g_ret ?_)
  exact g_retV rfl rfl
theorem meet_bad (u : LUnit) (hl : light u) (k : Int) (hk : inI k) (hbad : (askedL u k).1 ≠ 0) (g fs bs : Value) (w0 : World) (hg : SlAt w0 g 3 u.globals GlobalV) (hf : SlAt w0 fs 4 u.funcs FuncV) (hways : CellsAt w0 0 0 waysC) :
    RetV Tryd.prog 43 [.agg #[g, fs], .int .i64 k, bs] w0 (.tuple #[.slice none 0 0, .agg #[.int .i64 (askedL u k).1, .int .i64 (askedL u k).2]]) := by
  have hg0 := hg
  have hf0 := hf
  obtain ⟨ga, gn, gc, gb, go, rfl, _⟩ := hg
  obtain ⟨fa, fn, fc, fb, fo, rfl, _⟩ := hf
  refine ret_enter Tryd.func43 rfl Tryd.ntmps43 rfl (Wd.nil NoS w0) ?_
  repeat (first | refine g_op rfl ?_ | refine g_then ?_ | refine g_nil ?_ | refine g_region ?_ | refine g_seq ?_ | refine g_box rfl fun _ _ => ?_ | refine g_alloc rfl fun _ _ => ?_)
  rename_i p3 _ p7 _
  refine g_callV rfl (fun w hw => func_bad u hl k hk hbad _ _ w (hg0.keep keeps_global hw.chg) (hf0.keep keeps_func hw.chg) (hways.keep hw.chg)) ?_
  unfold zeroFn
  repeat (first | refine g_op rfl ?_ | refine g_then ?_ | refine g_nil ?_ | refine g_region ?_ | refine g_seq ?_ | refine g_alloc rfl fun _ _ => ?_ | refine g_storeAgg ?_)
  rename_i p8 _ p9 _
  refine g_cond (fun h1 => ?_) (fun h1 => ?_)
  · repeat (refine g_seq ?_)
    refine g_drawW [(6, .slice none 0 0), (7, .pointer (some ⟨p7, 0, none⟩))] [Ent.box p7 [.int .i64 (askedL u k).1, .int .i64 (askedL u k).2] 29] mixed ?_ ?_
    · repeat' (first | refine g_any0 (by decide +kernel) ?_ | refine g_any (by decide +kernel) ?_ | refine any_nil | refine any_skip (by decide +kernel) ?_ | refine any_cons ?_ ?_ | refine g_op rfl ?_ | refine g_then ?_ | refine g_nil ?_ | refine g_opS rfl ?_ | refine g_storeAgg ?_)
      all_goals exact g_done (by repeat (first | exact trivial | refine ⟨rfl, ?_⟩)) (by simp)
    · repeat (first | refine g_then ?_ | refine g_ret ?_ | refine g_thenRet ?_)
      exact g_retTC rfl fun _ hw => ⟨rfl, hw.chg⟩
  · exact absurd h1 (by simp [hbad])
theorem meet_out (u : LUnit) (hl : light u) (k : Nat) (hgood : (askedL u k).1 = 0) (X : LFunc) (hX : u.funcs[k]? = some X) (l : List Int) (_hlin : ∀ x ∈ l, inI x) (hout : l.any (outB X.blocks.length) = true) (g fs bs : Value) (w0 : World) (hg : SlAt w0 g 3 u.globals GlobalV) (hf : SlAt w0 fs 4 u.funcs FuncV) (hbs : SlAt w0 bs 1 l IntV) (hways : CellsAt w0 0 0 waysC) :
    RetV Tryd.prog 43 [.agg #[g, fs], .int .i64 k, bs] w0 (.tuple #[.slice none 0 0, .agg #[.int .i64 3, .int .i64 (-1)]]) := by
  have hg0 := hg
  have hf0 := hf
  obtain ⟨ga, gn, gc, gb, go, rfl, _⟩ := hg
  obtain ⟨fa, fn, fc, fb, fo, rfl, _⟩ := hf
  have h24 := (hl.2 X (List.mem_of_getElem? hX)).1
  obtain ⟨bv, hbv, hfc⟩ := func_ok u hl k hgood _ _ X hX w0 hg0 hf0 hways
  have hbv0 := hbv
  obtain ⟨ba, n, bc, bb, bo', rfl, hn, hnc, hnb, hbc, hba, hel⟩ := hbv
  refine ret_enter Tryd.func43 rfl Tryd.ntmps43 rfl (Wd.nil NoS w0) ?_
  repeat (first | refine g_op rfl ?_ | refine g_then ?_ | refine g_nil ?_ | refine g_region ?_ | refine g_seq ?_ | refine g_box rfl fun _ _ => ?_ | refine g_alloc rfl fun _ _ => ?_)
  rename_i p3 _ p7 _
  refine g_callV rfl (fun w hw => hfc w hw.chg) ?_
  repeat (first | refine g_op rfl ?_ | refine g_then ?_ | refine g_nil ?_ | refine g_region ?_ | refine g_seq ?_ | refine g_alloc rfl fun _ _ => ?_ | refine g_storeAgg ?_ | refine g_skip ?_ | refine g_condF ?_)
  rename_i p8 _ p9 _
  refine g_callV rfl (fun w hw => containsFI_c (f := 81) [.pointer (some ⟨p8, 0, none⟩)] (outB n) _ l w (hbs.keep keeps_int hw.chg) fun w1 h1 x _ => meetOne_c p8 _ _ _ ba n bc (by omega) x w1 ((hw.boxCells p8).keep h1)) ?_
  rw [hn, hout]
  repeat (first | refine g_then ?_ | refine g_nil ?_ | refine g_region ?_ | refine g_seq ?_ | refine g_condT ?_)
  refine g_callV rfl (fun w hw => fault_c 3 (-1) w) ?_
  repeat (first | refine g_then ?_ | refine g_nil ?_ | refine g_opS rfl ?_ | refine g_storeAgg ?_ | refine g_ret ?_ | refine g_thenRet ?_)
  exact g_retTC rfl fun w hw => ⟨rfl, hw.chg⟩
theorem meet_ok (u : LUnit) (hl : light u) (k : Nat) (hgood : (askedL u k).1 = 0) (X : LFunc) (hX : u.funcs[k]? = some X) (hok : GoodB X.blocks) (hpos : 0 < X.blocks.length) (hch : (checkL u).1 = 0) (ma : Option Addr) (mc : Nat) (l : List Int) (hll : l.length ≤ 17592186044000) (hin : l.any (outB X.blocks.length) = false) (g fs : Value) (w0 : World) (hg : SlAt w0 g 3 u.globals GlobalV) (hf : SlAt w0 fs 4 u.funcs FuncV) (hbs : SlAt w0 (.slice ma l.length mc) 1 l IntV) (hways : CellsAt w0 0 0 waysC) :
    Ret Tryd.prog 43 [.agg #[g, fs], .int .i64 k, .slice ma l.length mc] w0 fun v w' => ∃ x : Option Addr × Nat, v = .tuple #[.slice x.1 (meetL X.blocks l).length x.2, .agg #[.int .i64 0, .int .i64 0]] ∧ Wd NoS w0 [Ent.vec x.1 (meetL X.blocks l).length x.2 3 1 ((meetL X.blocks l).map (.int .i64))] w' ∧ True := by
  have hg0 := hg
  have hf0 := hf
  obtain ⟨ga, gn, gc, gb, go, rfl, _⟩ := hg
  obtain ⟨fa, fn, fc, fb, fo, rfl, _⟩ := hf
  have h24 := (hl.2 X (List.mem_of_getElem? hX)).1
  obtain ⟨bv, hbv, hfc⟩ := func_ok u hl k hgood _ _ X hX w0 hg0 hf0 hways
  have hbv0 := hbv
  obtain ⟨ba, n, bc, bb, bo', rfl, hn, hnc, hnb, hbc, hba, hel⟩ := hbv
  obtain ⟨R, hXR, hR, hFO⟩ := check_func hch hX
  have hlin : ∀ x ∈ l, ∃ c : Nat, x = c ∧ c < X.blocks.length := fun x hx => by
    have h1 : outB X.blocks.length x = false := by
      rw [List.any_eq_false] at hin
      simpa using hin x hx
    have h2 : ¬ (x < 0 ∨ (X.blocks.length : Int) ≤ x) := fun h => by rw [outB_iff.2 h] at h1; cases h1
    exact ⟨x.toNat, by omega, by omega⟩
  refine ret_enter Tryd.func43 rfl Tryd.ntmps43 rfl (Wd.nil NoS w0) ?_
  repeat (first | refine g_op rfl ?_ | refine g_then ?_ | refine g_nil ?_ | refine g_region ?_ | refine g_seq ?_ | refine g_box rfl fun _ _ => ?_ | refine g_alloc rfl fun _ _ => ?_)
  rename_i p3 _ p7 _
  refine g_callV rfl (fun w hw => hfc w hw.chg) ?_
  repeat (first | refine g_op rfl ?_ | refine g_then ?_ | refine g_nil ?_ | refine g_region ?_ | refine g_seq ?_ | refine g_alloc rfl fun _ _ => ?_ | refine g_storeAgg ?_ | refine g_skip ?_ | refine g_condF ?_)
  rename_i p8 _ p9 _
  refine g_callV rfl (fun w hw => containsFI_c (f := 81) [.pointer (some ⟨p8, 0, none⟩)] (outB n) _ l w (hbs.keep keeps_int hw.chg) fun w1 h1 x _ => meetOne_c p8 _ _ _ ba n bc (by omega) x w1 ((hw.boxCells p8).keep h1)) ?_
  rw [show l.any (outB n) = false by rw [hn]; exact hin]
  repeat (first | refine g_then ?_ | refine g_nil ?_ | refine g_seq ?_ | refine g_skip ?_ | refine g_condF ?_)
  refine g_sel [2, 0, 1] (by decide) ?_
  refine g_fix (L' := [(9, .pointer (some ⟨p9, 0, none⟩)), (8, .pointer (some ⟨p8, 0, none⟩)), (7, .pointer (some ⟨p7, 0, none⟩)), (2, .slice ma l.length mc)]) (by repeat (first | exact trivial | refine ⟨rfl, ?_⟩)) (List.Sublist.refl _) ?_
  refine g_drawH [Ent.box p9 [.int .i64 0, .int .i64 0] 29, Ent.box p8 [.string X.name, .int .i64 X.params, .int .i64 X.regs, .slice ba n bc] 34] mixed (List.sublist_cons_self _ _) ?_
  refine h_take 0 rfl (by decide +kernel) (List.sublist_cons_self _ _) ?_
  refine h_take 2 rfl (by decide +kernel) (List.sublist_cons_self _ _) ?_
  refine h_take 4 rfl (by decide +kernel) (List.sublist_cons_self _ _) ?_
  refine h_callE 1 (val := fun x : Option Addr × Nat × (Nat → Prop) => .slice x.1 (frontL X.blocks).length x.2.1) (E := fun x => [⟨x.2.2, fun w => SlAt w (.slice x.1 (frontL X.blocks).length x.2.1) 1 (frontL X.blocks) RowV⟩]) (φ := fun _ => True) rfl (by decide +kernel) (List.sublist_cons_self _ _) (fun w hw => frontK (by omega) (frontOf_c _ _ _ X.blocks _ ⟨_, _, _, rfl⟩ w (hbv0.keep keeps_block hw.chg) (by omega) hok (fun b B hB => (hFO.block b B hB).to) hpos)) fun x _ => ?_
  obtain ⟨xa, xc, xp⟩ := x
  simp only [List.cons_append, List.nil_append]
  rw [frontL_len]
  refine h_callE 3 (val := fun x : Option Addr × Nat => .slice x.1 (meetL X.blocks l).length x.2) (E := fun x => [Ent.vec x.1 (meetL X.blocks l).length x.2 3 1 ((meetL X.blocks l).map (.int .i64))]) (φ := fun _ => True) rfl (by decide +kernel) (List.Sublist.cons _ (List.sublist_cons_self _ _)) (fun w hw => meetOf_c X.blocks hok hpos (by omega) xa xc ma mc l hll hlin w (hw.get (k := 0) rfl) (hbs.keep keeps_int hw.chg)) fun x _ => ?_
  obtain ⟨ya, yc⟩ := x
  simp only [List.cons_append, List.nil_append]
  refine h_take 5 rfl (by decide +kernel) (List.Sublist.cons _ (List.Sublist.cons _ (List.sublist_cons_self _ _))) ?_
  refine h_storeAgg 6 (by decide +kernel) (List.Sublist.cons _ (List.Sublist.cons _ (List.sublist_cons_self _ _))) ?_
  refine h_end (by decide +kernel) ?_
  repeat (first | refine g_then ?_ | refine g_ret ?_)
  exact g_retTC rfl fun w hw => ⟨(ya, yc), rfl, hw.sub (List.Sublist.cons_cons _ (List.nil_sublist _)), trivial⟩
end Go.Proofs.YtoahickmkkcneaaDoor

/- Texts joined: SsaH SsaI. -/
import Derived.Test.YtdbljcahlpkgdaaDoorGD
import Derived.Test.YtdbljcahlpkgdaaDoorKB
import Derived.Test.YtdbljcahlpkgdaaDoorKC
import Derived.Test.YtdbljcahlpkgdaaDoorLB
import Derived.Test.YtdbljcahlpkgdaaDoorLC
import Derived.Test.YtdbljcahlpkgdaaDoorLD
namespace Go.Proofs.YtdbljcahlpkgdaaDoor
open Go Go.RowKit
attribute [local irreducible] wpListIn Code.wpIn Exit.then Exit.inBlock bodyPost wpQuiet wpAnyIn wpAnyH bodyPostM oneH
set_option maxHeartbeats 4000000
theorem known_cons {bl : List LBlock} {W : List Wr} {v : LVal} {b : Nat} {i : Int} {x : Wr} {l : List Wr} (hr : v.reg = true) (h : writesOf W v.n = x::l) : KnownAt bl W v b i ↔ (x.block = b→x.at' < i)∧(x.block ≠ b→Dom bl x.block b):=by
 refine ⟨fun hk=>?_,fun hk _=>⟨x,l,h,hk⟩⟩
 obtain ⟨y,m,e,h4⟩:=hk hr
 rw [h] at e
 obtain ⟨rfl,rfl⟩:=List.cons.inj e
 exact h4
theorem ruled_c (nm re : Value) (n R : Nat) (bl : List LBlock) (bs tv lv : Value) (l : List LVal) (b : Nat) (i : Int) (w0 : World) (hbs : SlAt w0 bs 6 bl BlockV) (htv : SlAt w0 tv 1 (domL bl) RowV) (hlv : SlAt w0 lv 2 l fun _ v cs=>cs = valC v) (hcnt : (allW n bl).length ≤ 100000) (hok : GoodB bl) (hpos : 0 < bl.length) (hb : b < bl.length) (hv : ∀ v ∈ l,v.reg = true→0 ≤ v.n∧v.n < R) (hWb : ∀ w ∈ allW n bl,w.block < bl.length) :
  RetV Tryd.prog 23 [.agg #[nm,.int .i64 (n : Int),re,bs],tv,lv,.agg #[.int .i64 (b : Int),.int .i64 i]] w0 (.bool (open Classical in decide (∀ v ∈ l,KnownAt bl (allW n bl) v b i))):=by
 classical
 obtain ⟨W,hW⟩ : ∃ W,W = allW n bl:=⟨_,rfl⟩
 rw [← hW] at hcnt hWb ⊢
 have hbs0:=hbs
 have hlv0:=hlv
 have htv0:=htv
 obtain ⟨ba,bn,bc,_,_,rfl,hbn,_⟩:=hbs
 obtain ⟨la,ln,lc,_,_,rfl,hln,_⟩:=hlv
 obtain ⟨ta,tn,tc,_,_,rfl,htn,_⟩:=htv
 refine ret_enter Tryd.func23 rfl Tryd.ntmps23 rfl (Wd.nil NoS w0) ?_
 have hold : ∀ {b o : Nat} {v : Value} {l : List Value},CellsAt w0 b o (v::l)→OldIs NoS b:=fun _=>⟨fun h=>h⟩
 repeat (first|refine g_op rfl ?_|refine g_then ?_|refine g_nil ?_|refine g_region ?_|refine g_seq ?_|refine g_box rfl fun _ _=>?_|refine g_block ?_)
 rename_i p4 _ p7 _
 refine g_loop (fun j : Nat=>j ≤ ln∧∀ j' v,j' < j→l[j']? = some v→KnownAt bl W v b i) (fun j=>[(9,.int .i64 j),(7,.pointer (some ⟨p7,0,none⟩)),(4,.pointer (some ⟨p4,0,none⟩)),(2,.slice la ln lc),(1,.slice ta tn tc)]) (fun _=>[Ent.box p7 [.int .i64 (b : Int),.int .i64 i] 70,Ent.box p4 [nm,.int .i64 (n : Int),re,.slice ba bn bc] 33]) (fun j=>ln - j) 0 ⟨Nat.zero_le _,fun _ _ h=>absurd h (Nat.not_lt_zero _)⟩ (g_done (by repeat (first|exact trivial|refine ⟨rfl,?_⟩)) (.refl _)) fun j ⟨hj,hall⟩=>?_
 repeat (first|refine g_op rfl ?_|refine g_then ?_|refine g_nil ?_|refine g_region ?_|refine g_seq ?_)
 refine g_cond (fun h1=>?_) (fun h1=>?_)
 case refine_2 =>
  have hje : j = ln:=by have:=h1; simp at this; omega
  rw [decide_eq_true (show ∀ v ∈ l,KnownAt bl W v b i from fun v hv=>by
   obtain ⟨k,hk⟩:=List.getElem?_of_mem hv
   exact hall k v (by have:=(List.getElem?_eq_some_iff.1 hk).1; omega) hk)]
  repeat (first|refine g_op rfl ?_|refine g_then ?_|refine g_nil ?_|refine g_region ?_|refine g_seq ?_|refine g_exit ?_|refine g_thenExit ?_|refine g_exitHere ?_|refine g_ret ?_)
  exact g_retV rfl rfl
 have hjl : j < ln:=by simpa using h1
 obtain ⟨v,hvj⟩ : ∃ v,l[j]? = some v:=⟨_,List.getElem?_eq_getElem (by omega)⟩
 obtain ⟨b1,o1,had1,hold1,hel1⟩:=slKnown hlv0 hold (fun _ _ h=>⟨_,_,h⟩) (ne_of_get hvj)
 obtain ⟨_,hci1,rfl⟩:=hel1 j v hvj
 unfold valC at hci1
 have hlt : LtIs j ln:=⟨hjl⟩
 have hvm:=List.mem_of_getElem? hvj
 have hvo:=hv v hvm
 have hnext : KnownAt bl W v b i→∀ j' v',j' < j + 1→l[j']? = some v'→KnownAt bl W v' b i:=fun hk j' v' hj' hv'=>by
  by_cases e : j' = j
  ·subst e
   rw [hvj] at hv'
   obtain rfl:=Option.some.inj hv'
   exact hk
  ·exact hall j' v' (by omega) hv'
 have hno : ¬ KnownAt bl W v b i→¬ ∀ v ∈ l,KnownAt bl W v b i:=fun hk h=>hk (h v hvm)
 obtain ⟨reg,vn⟩:=v
 cases reg with
 | false =>
  repeat (first|refine g_op rfl ?_|refine g_then ?_|refine g_nil ?_|refine g_region ?_|refine g_seq ?_|refine g_opS rfl ?_|refine g_block ?_|refine g_skip ?_|refine g_condT ?_|refine g_add rfl (by omega) (by omega) ?_|refine g_exit ?_|refine g_thenExit ?_|refine g_exitHere ?_)
  exact g_next (j + 1) ⟨hjl,hnext fun h=>by cases h⟩ (by omega) (by repeat (first|exact trivial|refine ⟨rfl,?_⟩)) (.refl _)
 | true =>
  obtain ⟨h2,h3⟩:=hvo rfl
  simp only at h2 h3
  obtain ⟨r,rfl⟩ : ∃ r : Nat,vn = r:=⟨vn.toNat,by omega⟩
  repeat (first|refine g_op rfl ?_|refine g_then ?_|refine g_nil ?_|refine g_region ?_|refine g_seq ?_|refine g_block ?_|refine g_skip ?_|refine g_condF ?_)
  refine g_drawX [Ent.box p7 [.int .i64 (b : Int),.int .i64 i] 70,Ent.box p4 [nm,.int .i64 (n : Int),re,.slice ba bn bc] 33] (fun _ : Option Addr × Nat=>True) (fun x=>[(10,.slice x.1 (writesOf W r).length x.2),(9,.int .i64 j),(7,.pointer (some ⟨p7,0,none⟩)),(4,.pointer (some ⟨p4,0,none⟩)),(2,.slice la ln lc),(1,.slice ta tn tc)]) (fun x=>[(fun x : Option Addr × Nat=>Ent.vec x.1 (writesOf W r).length x.2 70 2 ((writesOf W r).flatMap spW)) x,Ent.box p7 [.int .i64 (b : Int),.int .i64 i] 70,Ent.box p4 [nm,.int .i64 (n : Int),re,.slice ba bn bc] 33]) mixed (.refl _) ?_ fun x _=>?_
  ·skip
   refine h_take 0 rfl (by decide +kernel) (.refl _) ?_
   refine h_take 1 rfl (by decide +kernel) (.refl _) ?_
   refine h_take 2 rfl (by decide +kernel) (.refl _) ?_
   refine h_take 3 rfl (by decide +kernel) (.refl _) ?_
   refine h_take 4 rfl (by decide +kernel) (.refl _) ?_
   refine h_take 5 rfl (by decide +kernel) (.refl _) ?_
   refine h_callE 6 (val:=fun x : Option Addr × Nat=>.slice x.1 (writesOf W r).length x.2) (E:=fun x=>[(fun x : Option Addr × Nat=>Ent.vec x.1 (writesOf W r).length x.2 70 2 ((writesOf W r).flatMap spW)) x]) (φ:=fun _=>True) rfl (by decide +kernel) (.refl _) (fun w hw=>by rw [hW]; exact refWrites_c nm re n bl _ r w (hbs0.keep keeps_block hw.chg) (by rw [← hW]; exact hcnt)) fun x _=>?_
   simp only [List.cons_append,List.nil_append]
   refine h_take 7 rfl (by decide +kernel) (.cons _ (.refl _)) ?_
   refine h_end (by decide +kernel) ?_
   exact g_mem x trivial (by repeat (first|exact trivial|refine ⟨rfl,?_⟩)) (.refl _)
  obtain ⟨xa,xc⟩:=x
  simp only
  cases hwo : writesOf W r with
  | nil =>
   rw [decide_eq_false (hno fun h=>by obtain ⟨x,l,e,_⟩:=h rfl; rw [hwo] at e; cases e)]
   repeat (first|refine g_op rfl ?_|refine g_then ?_|refine g_nil ?_|refine g_region ?_|refine g_seq ?_|refine g_condT ?_|refine g_ret ?_|refine g_thenRet ?_|refine g_blockRet ?_)
   rw [show decide (((([] : List Wr).length : Nat) : Int) = 0) = true from rfl]
   skip
   exact g_retV rfl rfl
  | cons x l' =>
   have hkn:=known_cons (bl:=bl) (b:=b) (i:=i) (v:=⟨true,r⟩) rfl hwo
   have hxm : x ∈ writesOf W r:=by rw [hwo]; simp
   have hxb : x.block < bl.length:=hWb x (List.mem_filter.1 hxm).1
   repeat (first|refine g_op rfl ?_|refine g_then ?_|refine g_nil ?_|refine g_region ?_|refine g_seq ?_|refine g_skip ?_|refine g_condF ?_)
   rw [show decide ((((x::l').length : Nat) : Int) = 0) = false by simp; omega]
   skip
   refine g_vec 0 rfl (by simp) fun vb vo hva=>?_
   subst hva
   obtain ⟨m,hm⟩ : ∃ m,m = (x::l').length:=⟨_,rfl⟩
   rw [← hm]
   have hm0 : LtIs 0 m:=⟨by rw [hm]; simp⟩
   have ho:=own_flat (H:=[Ent.vec (some ⟨vb,vo,none⟩) m xc 70 2 ((x::l').flatMap spW),Ent.box p7 [.int .i64 (b : Int),.int .i64 i] 70,Ent.box p4 [nm,.int .i64 (n : Int),re,.slice ba bn bc] 33]) (g:=spW) spW_len 0 rfl (i:=0) (x:=x) rfl
   have hc0 : OwnCell [Ent.vec (some ⟨vb,vo,none⟩) m xc 70 2 ((x::l').flatMap spW),Ent.box p7 [.int .i64 (b : Int),.int .i64 i] 70,Ent.box p4 [nm,.int .i64 (n : Int),re,.slice ba bn bc] 33] vb (vo + 0 * 2) _:=ho 0 _ rfl
   have hc1 : OwnCell [Ent.vec (some ⟨vb,vo,none⟩) m xc 70 2 ((x::l').flatMap spW),Ent.box p7 [.int .i64 (b : Int),.int .i64 i] 70,Ent.box p4 [nm,.int .i64 (n : Int),re,.slice ba bn bc] 33] vb (vo + 0 * 2 + 1) _:=ho 1 _ rfl
   refine g_drawX [Ent.vec (some ⟨vb,vo,none⟩) m xc 70 2 ((x::l').flatMap spW),Ent.box p7 [.int .i64 (b : Int),.int .i64 i] 70,Ent.box p4 [nm,.int .i64 (n : Int),re,.slice ba bn bc] 33] (fun _ : Unit=>True) (fun _=>[(70,.bool (!decide (KnownAt bl W ⟨true,r⟩ b i))),(9,.int .i64 j),(7,.pointer (some ⟨p7,0,none⟩)),(4,.pointer (some ⟨p4,0,none⟩)),(2,.slice la ln lc),(1,.slice ta tn tc)]) (fun _=>[Ent.box p7 [.int .i64 (b : Int),.int .i64 i] 70,Ent.box p4 [nm,.int .i64 (n : Int),re,.slice ba bn bc] 33]) mixed (.refl _) ?_ fun _ _=>?_
   ·skip
    refine h_take 0 rfl (by decide +kernel) (.refl _) ?_
    refine h_take 1 rfl (by decide +kernel) (.refl _) ?_
    refine h_take 2 rfl (by decide +kernel) (.refl _) ?_
    refine h_take 3 rfl (by decide +kernel) (.refl _) ?_
    refine h_take 4 rfl (by decide +kernel) (.refl _) ?_
    refine h_take 5 rfl (by decide +kernel) (.refl _) ?_
    refine h_take 6 rfl (by decide +kernel) (.refl _) ?_
    refine h_take 7 rfl (by decide +kernel) (.refl _) ?_
    by_cases he : x.block = b
    ·rw [decide_eq_true (show (x.block : Int) = (b : Int) by omega)]
     refine h_takeG 8 rfl (by decide +kernel) (.refl _) ?_
     refine h_takeG 9 rfl (by decide +kernel) (.refl _) ?_
     refine h_takeG 10 rfl (by decide +kernel) (.refl _) ?_
     refine h_takeG 11 rfl (by decide +kernel) (.refl _) ?_
     refine h_takeG 12 rfl (by decide +kernel) (.refl _) ?_
     refine h_takeG 13 rfl (by decide +kernel) (.refl _) ?_
     refine h_takeG 14 rfl (by decide +kernel) (.refl _) ?_
     refine h_take 15 rfl (by decide +kernel) (.refl _) ?_
     refine h_take 16 rfl (by decide +kernel) (.refl _) ?_
     by_cases hi : i ≤ x.at'
     ·rw [decide_eq_true hi,decide_eq_false (show ¬ KnownAt bl W ⟨true,r⟩ b i from fun h=>by have:=(hkn.1 h).1 he; omega)]
      refine h_takeP 17 rfl (by decide +kernel) (.refl _) ?_
      refine h_takeP 18 rfl (by decide +kernel) (.refl _) ?_
      refine h_takeP 19 rfl (by decide +kernel) (.refl _) ?_
      refine h_takeP 20 rfl (by decide +kernel) (.refl _) ?_
      refine h_takeP 21 rfl (by decide +kernel) (.refl _) ?_
      refine h_takeP 22 rfl (by decide +kernel) (.refl _) ?_
      refine h_takeP 23 rfl (by decide +kernel) (.refl _) ?_
      refine h_takeP 24 rfl (by decide +kernel) (.refl _) ?_
      refine h_takeU 25 rfl (by decide +kernel) (.refl _) ?_
      refine h_takeU 26 rfl (by decide +kernel) (.refl _) ?_
      refine h_takeU 27 rfl (by decide +kernel) (.refl _) ?_
      refine h_takeU 28 rfl (by decide +kernel) (.refl _) ?_
      refine h_takeU 29 rfl (by decide +kernel) (.refl _) ?_
      refine h_takeU 30 rfl (by decide +kernel) (.refl _) ?_
      refine h_takeU 31 rfl (by decide +kernel) (.refl _) ?_
      refine h_takeU 32 rfl (by decide +kernel) (.refl _) ?_
      refine h_takeU 33 rfl (by decide +kernel) (.refl _) ?_
      refine h_takeU 34 rfl (by decide +kernel) (.refl _) ?_
      refine h_takeU 35 rfl (by decide +kernel) (.refl _) ?_
      refine h_takeP 36 rfl (by decide +kernel) (.refl _) ?_
      refine h_take 37 rfl (by decide +kernel) (.refl _) ?_
      refine h_end (by decide +kernel) ?_
      exact g_mem () trivial (by repeat (first|exact trivial|refine ⟨rfl,?_⟩)) (.cons _ (.refl _))
     ·rw [decide_eq_false hi,decide_eq_true (show KnownAt bl W ⟨true,r⟩ b i from hkn.2 ⟨fun _=>by omega,fun h=>absurd he h⟩)]
      refine h_takeG 17 rfl (by decide +kernel) (.refl _) ?_
      refine h_takeG 18 rfl (by decide +kernel) (.refl _) ?_
      refine h_takeG 19 rfl (by decide +kernel) (.refl _) ?_
      refine h_takeG 20 rfl (by decide +kernel) (.refl _) ?_
      refine h_takeG 21 rfl (by decide +kernel) (.refl _) ?_
      refine h_takeG 22 rfl (by decide +kernel) (.refl _) ?_
      refine h_takeG 23 rfl (by decide +kernel) (.refl _) ?_
      rw [decide_eq_true (show (x.block : Int) = (b : Int) by omega)]
      simp only [Bool.not_true]
      refine h_takeG 24 rfl (by decide +kernel) (.refl _) ?_
      refine h_takeP 25 rfl (by decide +kernel) (.refl _) ?_
      refine h_takeP 26 rfl (by decide +kernel) (.refl _) ?_
      refine h_takeP 27 rfl (by decide +kernel) (.refl _) ?_
      refine h_takeP 28 rfl (by decide +kernel) (.refl _) ?_
      refine h_takeP 29 rfl (by decide +kernel) (.refl _) ?_
      refine h_takeP 30 rfl (by decide +kernel) (.refl _) ?_
      refine h_takeP 31 rfl (by decide +kernel) (.refl _) ?_
      refine h_takeP 32 rfl (by decide +kernel) (.refl _) ?_
      refine h_takeP 33 rfl (by decide +kernel) (.refl _) ?_
      refine h_takeP 34 rfl (by decide +kernel) (.refl _) ?_
      refine h_takeP 35 rfl (by decide +kernel) (.refl _) ?_
      refine h_takeG 36 rfl (by decide +kernel) (.refl _) ?_
      refine h_take 37 rfl (by decide +kernel) (.refl _) ?_
      refine h_end (by decide +kernel) ?_
      exact g_mem () trivial (by repeat (first|exact trivial|refine ⟨rfl,?_⟩)) (.cons _ (.refl _))
    ·rw [decide_eq_false (show ¬ (x.block : Int) = (b : Int) by omega)]
     refine h_takeP 8 rfl (by decide +kernel) (.refl _) ?_
     refine h_takeP 9 rfl (by decide +kernel) (.refl _) ?_
     refine h_takeP 10 rfl (by decide +kernel) (.refl _) ?_
     refine h_takeP 11 rfl (by decide +kernel) (.refl _) ?_
     refine h_takeP 12 rfl (by decide +kernel) (.refl _) ?_
     refine h_takeP 13 rfl (by decide +kernel) (.refl _) ?_
     refine h_takeP 14 rfl (by decide +kernel) (.refl _) ?_
     refine h_take 15 rfl (by decide +kernel) (.refl _) ?_
     refine h_take 16 rfl (by decide +kernel) (.refl _) ?_
     refine h_takeG 17 rfl (by decide +kernel) (.refl _) ?_
     refine h_takeG 18 rfl (by decide +kernel) (.refl _) ?_
     refine h_takeG 19 rfl (by decide +kernel) (.refl _) ?_
     refine h_takeG 20 rfl (by decide +kernel) (.refl _) ?_
     refine h_takeG 21 rfl (by decide +kernel) (.refl _) ?_
     refine h_takeG 22 rfl (by decide +kernel) (.refl _) ?_
     refine h_takeG 23 rfl (by decide +kernel) (.refl _) ?_
     rw [decide_eq_false (show ¬ (x.block : Int) = (b : Int) by omega)]
     simp only [Bool.not_false]
     have hdg:=domL_get hb
     obtain ⟨b2,o2,had2,hold2,hel2⟩:=slKnown htv0 hold (fun _ _ h=>by obtain ⟨_,e,_⟩:=h; exact ⟨_,_,e⟩) (ne_of_get hdg)
     obtain ⟨_,hci2,rv,rfl,hrv⟩:=hel2 b _ hdg
     have hlt2 : LtIs b tn:=⟨by rw [htn]; exact (List.getElem?_eq_some_iff.1 hdg).1⟩
     obtain ⟨ra,rn,rc,_,_,rfl,_⟩:=id hrv
     refine h_takeG 24 rfl (by decide +kernel) (.refl _) ?_
     refine h_takeG 25 rfl (by decide +kernel) (.refl _) ?_
     refine h_takeG 26 rfl (by decide +kernel) (.refl _) ?_
     refine h_takeG 27 rfl (by decide +kernel) (.refl _) ?_
     refine h_takeG 28 rfl (by decide +kernel) (.refl _) ?_
     refine h_takeG 29 rfl (by decide +kernel) (.refl _) ?_
     refine h_takeG 30 rfl (by decide +kernel) (.refl _) ?_
     refine h_takeG 31 rfl (by decide +kernel) (.refl _) ?_
     refine h_takeG 32 rfl (by decide +kernel) (.refl _) ?_
     refine h_takeG 33 rfl (by decide +kernel) (.refl _) ?_
     refine h_callEG 34 (val:=fun _ : Unit=>.bool (decide ((x.block : Int) ∈ (domTo bl b bl.length).map fun x : Nat=>(x : Int)))) (E:=fun _=>[]) (φ:=fun _=>True) rfl (by decide +kernel) (.refl _) (fun w hw=>(has_c _ _ (x.block : Int) w (hrv.keep keeps_int hw.chg)).mono fun u w' ⟨h7,h8⟩=>⟨(),h7,⟨h8,by simp,by simp,List.Pairwise.nil⟩,trivial⟩) fun _ _=>?_
     simp only [List.nil_append]
     rw [show decide ((x.block : Int) ∈ (domTo bl b bl.length).map fun x : Nat=>(x : Int)) = decide (KnownAt bl W ⟨true,r⟩ b i) by
      rw [decide_eq_decide,mem_ints,domTo_mem,hkn]
      exact ⟨fun h=>⟨fun e=>absurd e he,fun _=>h.2⟩,fun h=>⟨hxb,h.2 he⟩⟩]
     refine h_takeG 35 rfl (by decide +kernel) (.refl _) ?_
     refine h_takeG 36 rfl (by decide +kernel) (.refl _) ?_
     refine h_take 37 rfl (by decide +kernel) (.refl _) ?_
     refine h_end (by decide +kernel) ?_
     exact g_mem () trivial (by repeat (first|exact trivial|refine ⟨rfl,?_⟩)) (.cons _ (.refl _))
   by_cases hk : KnownAt bl W ⟨true,r⟩ b i
   ·rw [decide_eq_true hk]
    simp only [Bool.not_true]
    repeat (first|refine g_op rfl ?_|refine g_then ?_|refine g_nil ?_|refine g_region ?_|refine g_opS rfl ?_|refine g_inBlock ?_|refine g_skip ?_|refine g_condF ?_|refine g_add rfl (by omega) (by omega) ?_)
    exact g_next (j + 1) ⟨hjl,hnext hk⟩ (by omega) (by repeat (first|exact trivial|refine ⟨rfl,?_⟩)) (.refl _)
   ·rw [decide_eq_false hk,decide_eq_false (hno hk)]
    simp only [Bool.not_false]
    repeat (first|refine g_op rfl ?_|refine g_then ?_|refine g_nil ?_|refine g_region ?_|refine g_seq ?_|refine g_condT ?_|refine g_ret ?_|refine g_thenRet ?_|refine g_blockRet ?_)
    exact g_retV rfl rfl
theorem reached_all2 {bl : List LBlock} {l : List Nat} (h : FromR bl (-1) 0 l) : l.length < bl.length ↔ ∃ b,b < bl.length∧¬ Rch bl (-1) 0 b:=by
 obtain ⟨h1,h2,h3⟩:=h
 have h4 : ∀ x,x ∈ l ↔ Rch bl (-1) 0 x:=fun x=>(h3 x).trans ⟨fun h=>h.2,fun h=>⟨by omega,h⟩⟩
 constructor
 ·intro h
  refine Classical.byContradiction fun hn=>?_
  have h5 : (List.range bl.length).Perm l:=(List.perm_ext_iff_of_nodup List.nodup_range h1).2 fun x=>by
   rw [List.mem_range]
   exact ⟨fun hb=>(h4 x).2 (Classical.byContradiction fun h6=>hn ⟨x,hb,h6⟩),fun hx=>h2 x hx⟩
  have h6:=h5.length_eq
  rw [List.length_range] at h6
  omega
 ·rintro ⟨b,hb,hn⟩
  have h5 : (b::l).Nodup:=List.nodup_cons.2 ⟨fun hm=>hn ((h4 b).1 hm),h1⟩
  have h6:=nodup_len bl.length _ h5 fun x hx=>by
   rcases List.mem_cons.1 hx with rfl|hx
   ·exact hb
   ·exact h2 x hx
  rw [List.length_cons] at h6
  omega
theorem one_at {v x : LVal} {i j : Nat} {u : Value} (hx : [v][i]? = some x) (hj : (valC x)[j]? = some u) : [Value.bool v.reg,.int .i64 v.n][i * 2 + j]? = some u:=by
 cases i with
 | zero =>
  obtain rfl : v = x:=by simpa using hx
  rw [Nat.zero_mul,Nat.zero_add]
  exact hj
 | succ i=>simp at hx
theorem usesOf_len (x : LIns) : (usesOf x).length ≤ x.args.length + 2:=by
 unfold usesOf
 repeat' split
 all_goals simp
theorem refWrong_c (nm : Value) (n R : Nat) (bl : List LBlock) (bs : Value) (w0 : World) (hbs : SlAt w0 bs 6 bl BlockV) (hn : n ≤ R) (hR : R ≤ 100) (hf : FuncOk R bl) (hlen : bl.length ≤ 100) (hpos : 0 < bl.length) (hls : ∀ B ∈ bl,∀ x ∈ B.list,x.args.length ≤ 1000) (hcnt : (allW n bl).length ≤ 100000) (hlist : ∀ B ∈ bl,B.list.length ≤ 1000) :
  RetV Tryd.prog 7 [.agg #[nm,.int .i64 (n : Int),.int .i64 (R : Int),bs]] w0 (.int .i64 (wrongL n R bl)):=by
 classical
 have hok:=hf.good
 have hWb : ∀ w ∈ allW n bl,w.block < bl.length:=fun w hw=>(allW_ok hf hn hpos hlist hw).block
 have hbs0:=hbs
 obtain ⟨ba,bn,bc,_,_,rfl,hbn,_⟩:=hbs
 have hold : ∀ {b o : Nat} {v : Value} {l : List Value},CellsAt w0 b o (v::l)→OldIs NoS b:=fun _=>⟨fun h=>h⟩
 refine ret_enter Tryd.func7 rfl Tryd.ntmps7 rfl (Wd.nil NoS w0) ?_
 repeat (first|refine g_op rfl ?_|refine g_then ?_|refine g_nil ?_|refine g_region ?_|refine g_seq ?_|refine g_box rfl fun _ _=>?_)
 rename_i p1 _
 refine g_drawX [Ent.box p1 [nm,.int .i64 (n : Int),.int .i64 (R : Int),.slice ba bn bc] 33] (fun x : List Nat=>FromR bl (-1) 0 x) (fun x=>[(17,.bool (decide (x.length < bl.length))),(2,.int .i64 0),(1,.pointer (some ⟨p1,0,none⟩))]) (fun _=>[Ent.box p1 [nm,.int .i64 (n : Int),.int .i64 (R : Int),.slice ba bn bc] 33]) mixed (.refl _) ?_ fun x hx=>?_
 ·skip
  refine h_take 0 rfl (by decide +kernel) (.refl _) ?_
  refine h_take 3 rfl (by decide +kernel) (.refl _) ?_
  refine h_take 4 rfl (by decide +kernel) (.refl _) ?_
  refine h_take 5 rfl (by decide +kernel) (.refl _) ?_
  refine h_callE 1 (val:=fun x : Option Addr × Nat × List Nat=>.slice x.1 x.2.2.length x.2.1) (E:=fun x=>[Ent.vec x.1 x.2.2.length x.2.1 3 1 (x.2.2.map intN)]) (φ:=fun x=>FromR bl (-1) 0 x.2.2) rfl (by decide +kernel) (.refl _) (fun w hw=>reached_c _ _ _ bl _ ⟨_,_,_,rfl⟩ w (hbs0.keep keeps_block hw.chg) hlen hok hpos) fun x hx=>?_
  obtain ⟨ra,rc,rl⟩:=x
  simp only [List.cons_append,List.nil_append]
  refine h_take 2 rfl (by decide +kernel) (.cons _ (.refl _)) ?_
  refine h_take 6 rfl (by decide +kernel) (.cons _ (.refl _)) ?_
  rw [show decide ((rl.length : Int) < (bn : Int)) = decide (rl.length < bl.length) by rw [decide_eq_decide]; omega]
  refine h_end (by decide +kernel) ?_
  exact g_mem rl hx (by repeat (first|exact trivial|refine ⟨rfl,?_⟩)) (.cons _ (.refl _))
 by_cases hp : x.length < bl.length
 ·rw [decide_eq_true hp,show wrongL n R bl = 5 from if_pos ((reached_all2 hx).1 hp)]
  repeat (first|refine g_then ?_|refine g_nil ?_|refine g_region ?_|refine g_seq ?_|refine g_opS rfl ?_|refine g_condT ?_|refine g_ret ?_|refine g_thenRet ?_)
  exact g_retV rfl rfl
 rw [decide_eq_false hp]
 have hno5 : ¬ ∃ b,b < bl.length∧¬ Rch bl (-1) 0 b:=fun h=>hp ((reached_all2 hx).2 h)
 have hw5 : wrongL n R bl = if onceB (allW n bl) R = false then 7 else if ¬ UsesOk bl (allW n bl) then 6 else 0:=if_neg hno5
 rw [hw5]
 repeat (first|refine g_op rfl ?_|refine g_then ?_|refine g_nil ?_|refine g_region ?_|refine g_seq ?_|refine g_block ?_|refine g_skip ?_|refine g_condF ?_)
 refine g_loop (fun r : Nat=>r ≤ R∧∀ r' : Nat,r' < r→(writesOf (allW n bl) r').length ≤ 1) (fun r=>[(3,.int .i64 r),(2,.int .i64 0),(1,.pointer (some ⟨p1,0,none⟩))]) (fun _=>[Ent.box p1 [nm,.int .i64 (n : Int),.int .i64 (R : Int),.slice ba bn bc] 33]) (fun r=>R - r) 0 ⟨Nat.zero_le _,fun _ h=>absurd h (Nat.not_lt_zero _)⟩ (g_done (by repeat (first|exact trivial|refine ⟨rfl,?_⟩)) (.refl _)) fun r ⟨hr,hall⟩=>?_
 repeat (first|refine g_op rfl ?_|refine g_then ?_|refine g_nil ?_|refine g_region ?_|refine g_seq ?_)
 refine g_cond (fun h1=>?_) (fun h1=>?_)
 ·have hrR : r < R:=by simpa using h1
  repeat (first|refine g_op rfl ?_|refine g_then ?_|refine g_region ?_|refine g_seq ?_|refine g_block ?_|refine g_skip ?_)
  refine g_callE (val:=fun x : Option Addr × Nat=>.slice x.1 (writesOf (allW n bl) r).length x.2) (E:=fun x=>[Ent.vec x.1 (writesOf (allW n bl) r).length x.2 70 2 ((writesOf (allW n bl) r).flatMap spW)]) (φ:=fun _=>True) rfl (fun w hw=>refWrites_c nm (.int .i64 (R : Int)) n bl _ r w (hbs0.keep keeps_block hw.chg) hcnt) fun x _=>?_
  obtain ⟨xa,xc⟩:=x
  simp only [List.cons_append,List.nil_append]
  repeat (first|refine g_op rfl ?_|refine g_then ?_|refine g_nil ?_)
  by_cases h2 : 1 < (writesOf (allW n bl) r).length
  ·rw [decide_eq_true (show (1 : Int) < ((writesOf (allW n bl) r).length : Int) by omega)]
   rw [if_pos (show onceB (allW n bl) R = false from decide_eq_false fun h=>by have:=h r hrR; omega)]
   repeat (first|refine g_then ?_|refine g_nil ?_|refine g_region ?_|refine g_seq ?_|refine g_opS rfl ?_|refine g_condT ?_|refine g_ret ?_|refine g_thenRet ?_|refine g_blockRet ?_)
   exact g_retV rfl rfl
  ·rw [decide_eq_false (show ¬ (1 : Int) < ((writesOf (allW n bl) r).length : Int) by omega)]
   repeat (first|refine g_op rfl ?_|refine g_then ?_|refine g_nil ?_|refine g_region ?_|refine g_opS rfl ?_|refine g_inBlock ?_|refine g_skip ?_|refine g_condF ?_|refine g_add rfl (by omega) (by omega) ?_)
   exact g_next (r + 1) ⟨hrR,fun r' h=>by
    by_cases e : r' = r
    ·subst e; omega
    ·exact hall r' (by omega)⟩ (by omega) (by repeat (first|exact trivial|refine ⟨rfl,?_⟩)) (.cons _ (.refl _))
 have hre : r = R:=by have:=h1; simp at this; omega
 have ho : onceB (allW n bl) R = true:=decide_eq_true fun r' h=>hall r' (by omega)
 rw [if_neg (by rw [ho]; simp)]
 repeat (first|refine g_op rfl ?_|refine g_then ?_|refine g_region ?_|refine g_seq ?_|refine g_exit ?_|refine g_thenExit ?_|refine g_exitHere ?_)
 refine g_callK (s:=1) (l:=domL bl) (V:=RowV) (mk:=fun v=>v) rfl (fun w hw=>refTableK _ _ _ bl _ ⟨_,_,_,rfl⟩ w (hbs0.keep keeps_block hw.chg) hlen hok hpos) fun ta tc tf=>?_
 repeat (first|refine g_op rfl ?_|refine g_then ?_|refine g_nil ?_|refine g_region ?_|refine g_seq ?_|refine g_block ?_)
 obtain ⟨tn,htn⟩ : ∃ tn,tn = (domL bl).length:=⟨_,rfl⟩
 rw [← htn]
 refine g_loop (fun b : Nat=>b ≤ bn∧∀ b' B,b' < b→bl[b']? = some B→BlockUse bl (allW n bl) b' B) (fun b=>[(5,.int .i64 b),(4,.slice ta tn tc),(2,.int .i64 0),(1,.pointer (some ⟨p1,0,none⟩))]) (fun _=>[(⟨tf,fun w=>SlAt w (.slice ta tn tc) 1 (domL bl) RowV⟩ : Ent),Ent.box p1 [nm,.int .i64 (n : Int),.int .i64 (R : Int),.slice ba bn bc] 33]) (fun b=>bn - b) 0 ⟨Nat.zero_le _,fun _ _ h=>absurd h (Nat.not_lt_zero _)⟩ (g_done (by repeat (first|exact trivial|refine ⟨rfl,?_⟩)) (.refl _)) fun b ⟨hb,hall⟩=>?_
 repeat (first|refine g_op rfl ?_|refine g_then ?_|refine g_nil ?_|refine g_region ?_|refine g_seq ?_)
 refine g_cond (fun h1=>?_) (fun h1=>?_)
 case refine_2 =>
  have hbe : b = bn:=by have:=h1; simp at this; omega
  have hU : UsesOk bl (allW n bl):=fun c B hB=>hall c B (by have:=(List.getElem?_eq_some_iff.1 hB).1; omega) hB
  rw [if_neg (by simp [hU])]
  repeat (first|refine g_then ?_|refine g_nil ?_|refine g_region ?_|refine g_seq ?_|refine g_opS rfl ?_|refine g_exit ?_|refine g_thenExit ?_|refine g_exitHere ?_|refine g_ret ?_)
  exact g_retV rfl rfl
 have hlt : b < bn:=by simpa using h1
 have hbl : b < bl.length:=by omega
 obtain ⟨B,hB⟩ : ∃ B,bl[b]? = some B:=⟨_,List.getElem?_eq_getElem (by omega)⟩
 obtain ⟨b1,o1,had1,_,hel1⟩:=slKnown hbs0 hold (fun _ _ h=>by obtain ⟨_,_,_,e,_⟩:=h; exact ⟨_,_,e⟩) (ne_of_get hB)
 obtain ⟨_,hci1,pv,lv,tv,rfl,_,_,hph,hli,hto⟩:=hel1 b B hB
 have hfB:=hf.block b B hB
 have hlt2 : LtIs b bn:=⟨hlt⟩
 obtain ⟨pa,pn,pc,_,_,rfl,hpn,_⟩:=id hph
 obtain ⟨la,ln,lc,_,_,rfl,hln,_⟩:=id hli
 obtain ⟨va,vn,vc,_,_,rfl,_⟩:=id hto
 have hno : ¬ BlockUse bl (allW n bl) b B→(if ¬ UsesOk bl (allW n bl) then (6 : Int) else 0) = 6:=fun h=>if_pos fun hu=>h (hu b B hB)
 have hv : ∀ v : LVal,ValOk R v→∀ v' ∈ [v],v'.reg = true→0 ≤ v'.n∧v'.n < R:=fun v h v' hv'=>by rw [List.mem_singleton.1 hv']; exact h
 have hone : ∀ (v : LVal) (a : Nat) (i : Int),(∀ v' ∈ [v],KnownAt bl (allW n bl) v' a i) ↔ KnownAt bl (allW n bl) v a i:=fun v a i=>by simp
 repeat (first|refine g_op rfl ?_|refine g_then ?_|refine g_nil ?_|refine g_region ?_|refine g_seq ?_|refine g_alloc rfl fun _ _=>?_|refine g_storeAgg ?_|refine g_block ?_|refine g_skip ?_)
 rename_i p6 _
 refine g_callE (val:=fun x : Option Addr × Nat=>.slice x.1 (preds bl b).length x.2) (E:=fun x=>[Ent.vec x.1 (preds bl b).length x.2 3 1 ((preds bl b).map intN)]) (φ:=fun _=>True) rfl (fun w hw=>refAhead_c _ _ _ bl _ b w (hbs0.keep keeps_block hw.chg) hlen) fun x _=>?_
 obtain ⟨aa,ac⟩:=x
 simp only [List.cons_append,List.nil_append]
 have hpl : (preds bl b).length ≤ 100:=by
  unfold preds
  exact Nat.le_trans (List.length_filter_le _ _) (by rw [List.length_range]; omega)
 repeat (first|refine g_op rfl ?_|refine g_then ?_|refine g_nil ?_|refine g_region ?_|refine g_seq ?_|refine g_block ?_)
 refine g_loop (fun i : Nat=>i ≤ pn∧∀ i' q,i' < i→B.phis[i']? = some q→PhiUse bl (allW n bl) b q (preds bl b).length) (fun i=>[(8,.int .i64 i),(7,.slice aa (preds bl b).length ac),(6,.pointer (some ⟨p6,0,none⟩)),(5,.int .i64 b),(4,.slice ta tn tc),(2,.int .i64 0),(1,.pointer (some ⟨p1,0,none⟩))]) (fun _=>[(fun z : Option Addr=>Ent.vec z (preds bl b).length ac 3 1 ((preds bl b).map intN)) aa,Ent.box p6 [.slice pa pn pc,.slice la ln lc,.int .i64 B.kind,.bool B.on.reg,.int .i64 B.on.n,.slice va vn vc] 47,(⟨tf,fun w=>SlAt w (.slice ta tn tc) 1 (domL bl) RowV⟩ : Ent),Ent.box p1 [nm,.int .i64 (n : Int),.int .i64 (R : Int),.slice ba bn bc] 33]) (fun i=>pn - i) 0 ⟨Nat.zero_le _,fun _ _ h=>absurd h (Nat.not_lt_zero _)⟩ (g_done (by repeat (first|exact trivial|refine ⟨rfl,?_⟩)) (.refl _)) fun i ⟨hi,hpall⟩=>?_
 repeat (first|refine g_op rfl ?_|refine g_then ?_|refine g_nil ?_|refine g_region ?_|refine g_seq ?_)
 refine g_cond (fun h2=>?_) (fun h2=>?_)
 ·have hil : i < pn:=by simpa using h2
  obtain ⟨q,hq⟩ : ∃ q,B.phis[i]? = some q:=⟨_,List.getElem?_eq_getElem (by omega)⟩
  obtain ⟨b2,o2,had2,_,hel2⟩:=slKnown hph hold (fun _ _ h=>by obtain ⟨_,e,_⟩:=h; exact ⟨_,_,e⟩) (ne_of_get hq)
  obtain ⟨_,hci2,sv,rfl,_,hsv⟩:=hel2 i q hq
  have hqP:=hfB.phis q (List.mem_of_getElem? hq)
  have hqlen:=hqP.len
  have hlt3 : LtIs i pn:=⟨hil⟩
  obtain ⟨sa,sn,sc,_,_,rfl,hsn,_⟩:=id hsv
  repeat (first|refine g_op rfl ?_|refine g_then ?_|refine g_nil ?_|refine g_region ?_|refine g_seq ?_|refine g_block ?_|refine g_skip ?_)
  refine g_loop (fun j : Nat=>j ≤ (preds bl b).length∧PhiUse bl (allW n bl) b q j) (fun j=>[(9,.int .i64 j),(8,.int .i64 i),(7,.slice aa (preds bl b).length ac),(6,.pointer (some ⟨p6,0,none⟩)),(5,.int .i64 b),(4,.slice ta tn tc),(2,.int .i64 0),(1,.pointer (some ⟨p1,0,none⟩))]) (fun _=>[(fun z : Option Addr=>Ent.vec z (preds bl b).length ac 3 1 ((preds bl b).map intN)) aa,Ent.box p6 [.slice pa pn pc,.slice la ln lc,.int .i64 B.kind,.bool B.on.reg,.int .i64 B.on.n,.slice va vn vc] 47,(⟨tf,fun w=>SlAt w (.slice ta tn tc) 1 (domL bl) RowV⟩ : Ent),Ent.box p1 [nm,.int .i64 (n : Int),.int .i64 (R : Int),.slice ba bn bc] 33]) (fun j=>(preds bl b).length - j) 0 ⟨Nat.zero_le _,fun _ _ _ _ h=>absurd h (Nat.not_lt_zero _)⟩ (g_done (by repeat (first|exact trivial|refine ⟨rfl,?_⟩)) (.refl _)) fun j ⟨hj,hpu⟩=>?_
  repeat (first|refine g_op rfl ?_|refine g_then ?_|refine g_nil ?_|refine g_region ?_|refine g_seq ?_)
  refine g_cond (fun h3=>?_) (fun h3=>?_)
  ·have hjl : j < (preds bl b).length:=by simpa using h3
   obtain ⟨v,hvj⟩ : ∃ v,q.src[j]? = some v:=⟨_,List.getElem?_eq_getElem (by omega)⟩
   obtain ⟨b3,o3,had3,_,hel3⟩:=slKnown hsv hold (fun _ _ h=>⟨_,_,h.1⟩) (ne_of_get hvj)
   obtain ⟨_,hci3,rfl,_⟩:=hel3 j v hvj
   have hlt4 : LtIs j sn:=⟨by omega⟩
   have hlt5 : LtIs j (preds bl b).length:=⟨hjl⟩
   obtain ⟨a,ha⟩ : ∃ a,(preds bl b)[j]? = some a:=⟨_,List.getElem?_eq_getElem (by omega)⟩
   have hal : a < bl.length:=by have h9:=List.mem_of_getElem? ha; unfold preds at h9; exact List.mem_range.1 (List.mem_filter.1 h9).1
   obtain ⟨A,hA⟩ : ∃ A,bl[a]? = some A:=⟨_,List.getElem?_eq_getElem hal⟩
   obtain ⟨b7,o7,had7,_,hel7⟩:=slKnown hbs0 hold (fun _ _ h=>by obtain ⟨_,_,_,e,_⟩:=h; exact ⟨_,_,e⟩) (ne_of_get hA)
   obtain ⟨_,hci7,apv,alv,atv,rfl,_,_,_,hali,_⟩:=hel7 a A hA
   obtain ⟨ala,aln,alc,_,_,rfl,haln,_⟩:=id hali
   have hlt6 : LtIs a bn:=⟨by omega⟩
   simp only
   refine g_vec 0 rfl (by omega) fun ab ao haa=>?_
   subst haa
   have hxa : XAt ((preds bl b).map intN) (j * 1) (.int .i64 (a : Int)):=⟨by rw [Nat.mul_one,List.getElem?_map,ha]; rfl⟩
   repeat (first|refine g_then ?_|refine g_seq ?_|refine g_block ?_|refine g_skip ?_)
   refine g_drawX [Ent.vec (some ⟨ab,ao,none⟩) (preds bl b).length ac 3 1 ((preds bl b).map intN),Ent.box p6 [.slice pa pn pc,.slice la ln lc,.int .i64 B.kind,.bool B.on.reg,.int .i64 B.on.n,.slice va vn vc] 47,(⟨tf,fun w=>SlAt w (.slice ta tn tc) 1 (domL bl) RowV⟩ : Ent),Ent.box p1 [nm,.int .i64 (n : Int),.int .i64 (R : Int),.slice ba bn bc] 33] (fun _ : Unit=>True) (fun _=>[(87,.bool (!decide (KnownAt bl (allW n bl) v a A.list.length))),(9,.int .i64 j),(8,.int .i64 i),(7,.slice (some ⟨ab,ao,none⟩) (preds bl b).length ac),(6,.pointer (some ⟨p6,0,none⟩)),(5,.int .i64 b),(4,.slice ta tn tc),(2,.int .i64 0),(1,.pointer (some ⟨p1,0,none⟩))]) (fun _=>[Ent.vec (some ⟨ab,ao,none⟩) (preds bl b).length ac 3 1 ((preds bl b).map intN),Ent.box p6 [.slice pa pn pc,.slice la ln lc,.int .i64 B.kind,.bool B.on.reg,.int .i64 B.on.n,.slice va vn vc] 47,(⟨tf,fun w=>SlAt w (.slice ta tn tc) 1 (domL bl) RowV⟩ : Ent),Ent.box p1 [nm,.int .i64 (n : Int),.int .i64 (R : Int),.slice ba bn bc] 33]) mixed (.refl _) ?_ fun _ _=>?_
   ·skip
    refine h_take 0 rfl (by decide +kernel) (.refl _) ?_
    refine h_take 1 rfl (by decide +kernel) (.refl _) ?_
    refine h_take 2 rfl (by decide +kernel) (.refl _) ?_
    refine h_take 3 rfl (by decide +kernel) (.refl _) ?_
    refine h_take 4 rfl (by decide +kernel) (.refl _) ?_
    refine h_take 5 rfl (by decide +kernel) (.refl _) ?_
    refine h_take 6 rfl (by decide +kernel) (.refl _) ?_
    refine h_take 7 rfl (by decide +kernel) (.refl _) ?_
    refine h_take 8 rfl (by decide +kernel) (.refl _) ?_
    refine h_take 9 rfl (by decide +kernel) (.refl _) ?_
    refine h_take 10 rfl (by decide +kernel) (.refl _) ?_
    refine h_take 12 rfl (by decide +kernel) (.refl _) ?_
    refine h_take 13 rfl (by decide +kernel) (.refl _) ?_
    refine h_take 14 rfl (by decide +kernel) (.refl _) ?_
    refine h_take 15 rfl (by decide +kernel) (.refl _) ?_
    refine h_take 16 rfl (by decide +kernel) (.refl _) ?_
    refine h_take 17 rfl (by decide +kernel) (.refl _) ?_
    refine h_take 18 rfl (by decide +kernel) (.refl _) ?_
    refine h_take 19 rfl (by decide +kernel) (.refl _) ?_
    refine h_take 20 rfl (by decide +kernel) (.refl _) ?_
    refine h_take 21 rfl (by decide +kernel) (.refl _) ?_
    refine h_take 22 rfl (by decide +kernel) (.refl _) ?_
    refine h_take 23 rfl (by decide +kernel) (.refl _) ?_
    refine h_take 24 rfl (by decide +kernel) (.refl _) ?_
    refine h_take 25 rfl (by decide +kernel) (.refl _) ?_
    refine h_take 26 rfl (by decide +kernel) (.refl _) ?_
    refine h_build1 11 rfl (by decide +kernel) (by decide +kernel) (.refl _) fun qb _=>?_
    rw [haln]
    refine h_callV 27 rfl (by decide +kernel) (.cons _ (.refl _)) (fun w hw=>ruled_c nm (.int .i64 (R : Int)) n R bl _ (.slice ta tn tc) (.slice (some ⟨qb,0,none⟩) 1 1) [v] a A.list.length w (hbs0.keep keeps_block hw.chg) (hw.get (k:=3) rfl) (hw.slAt (k:=0) rfl rfl (by decide) fun i' x hx=>⟨valC x,fun j' u hj'=>one_at hx hj',rfl⟩) hcnt hok hpos hal (hv v (hqP.vals v (List.mem_of_getElem? hvj))) hWb) ?_
    rw [show decide (∀ v' ∈ [v],KnownAt bl (allW n bl) v' a A.list.length) = decide (KnownAt bl (allW n bl) v a A.list.length) from decide_eq_decide.2 (hone v a _)]
    refine h_take 28 rfl (by decide +kernel) (.cons _ (.refl _)) ?_
    refine h_end (by decide +kernel) ?_
    exact g_mem () trivial (by repeat (first|exact trivial|refine ⟨rfl,?_⟩)) (.cons _ (.refl _))
   by_cases hk : KnownAt bl (allW n bl) v a A.list.length
   ·rw [decide_eq_true hk]
    simp only [Bool.not_true]
    repeat (first|refine g_op rfl ?_|refine g_then ?_|refine g_nil ?_|refine g_region ?_|refine g_opS rfl ?_|refine g_inBlock ?_|refine g_skip ?_|refine g_condF ?_|refine g_add rfl (by omega) (by omega) ?_)
    exact g_next (j + 1) ⟨hjl,fun j' a' v' A' hj' ha' hv' hA'=>by
     by_cases e : j' = j
     ·subst e
      rw [ha] at ha'; rw [hvj] at hv'
      obtain rfl:=Option.some.inj ha'; obtain rfl:=Option.some.inj hv'
      rw [hA] at hA'
      obtain rfl:=Option.some.inj hA'
      exact hk
     ·exact hpu j' a' v' A' (by omega) ha' hv' hA'⟩ (by omega) (by repeat (first|exact trivial|refine ⟨rfl,?_⟩)) (.refl _)
   ·rw [decide_eq_false hk,hno fun h=>hk (h.phis q (List.mem_of_getElem? hq) j a v A hjl ha hvj hA)]
    simp only [Bool.not_false]
    repeat (first|refine g_then ?_|refine g_nil ?_|refine g_region ?_|refine g_seq ?_|refine g_opS rfl ?_|refine g_condT ?_|refine g_ret ?_|refine g_thenRet ?_|refine g_blockRet ?_)
    exact g_retV rfl rfl
  ·repeat (first|refine g_op rfl ?_|refine g_then ?_|refine g_nil ?_|refine g_region ?_|refine g_opS rfl ?_|refine g_inBlock ?_|refine g_add rfl (by omega) (by omega) ?_|refine g_exit ?_|refine g_thenExit ?_|refine g_exitHere ?_)
   exact g_next (i + 1) ⟨hil,fun i' q' h hq'=>by
    by_cases e : i' = i
    ·subst e
     rw [hq] at hq'
     obtain rfl:=Option.some.inj hq'
     have hje : j = (preds bl b).length:=by have:=h3; simp at this; omega
     rw [← hje]
     exact hpu
    ·exact hpall i' q' (by omega) hq'⟩ (by omega) (by repeat (first|exact trivial|refine ⟨rfl,?_⟩)) (.refl _)
 have hphs : ∀ q ∈ B.phis,PhiUse bl (allW n bl) b q (preds bl b).length:=fun q hq=>by
  obtain ⟨i',hi'⟩:=List.getElem?_of_mem hq
  exact hpall i' q (by have:=(List.getElem?_eq_some_iff.1 hi').1; have:=h2; simp at this; omega) hi'
 repeat (first|refine g_op rfl ?_|refine g_then ?_|refine g_nil ?_|refine g_region ?_|refine g_seq ?_|refine g_block ?_|refine g_exit ?_|refine g_thenExit ?_|refine g_exitHere ?_)
 refine g_loop (fun k : Nat=>k ≤ ln∧∀ k' y,k' < k→B.list[k']? = some y→InsUse bl (allW n bl) b k' y) (fun k=>[(10,.int .i64 k),(7,.slice aa (preds bl b).length ac),(6,.pointer (some ⟨p6,0,none⟩)),(5,.int .i64 b),(4,.slice ta tn tc),(2,.int .i64 0),(1,.pointer (some ⟨p1,0,none⟩))]) (fun _=>[(fun z : Option Addr=>Ent.vec z (preds bl b).length ac 3 1 ((preds bl b).map intN)) aa,Ent.box p6 [.slice pa pn pc,.slice la ln lc,.int .i64 B.kind,.bool B.on.reg,.int .i64 B.on.n,.slice va vn vc] 47,(⟨tf,fun w=>SlAt w (.slice ta tn tc) 1 (domL bl) RowV⟩ : Ent),Ent.box p1 [nm,.int .i64 (n : Int),.int .i64 (R : Int),.slice ba bn bc] 33]) (fun k=>ln - k) 0 ⟨Nat.zero_le _,fun _ _ h=>absurd h (Nat.not_lt_zero _)⟩ (g_done (by repeat (first|exact trivial|refine ⟨rfl,?_⟩)) (.refl _)) fun k ⟨hk,hlall⟩=>?_
 repeat (first|refine g_op rfl ?_|refine g_then ?_|refine g_nil ?_|refine g_region ?_|refine g_seq ?_)
 refine g_cond (fun h3=>?_) (fun h3=>?_)
 ·have hkl : k < ln:=by simpa using h3
  obtain ⟨y,hy⟩ : ∃ y,B.list[k]? = some y:=⟨_,List.getElem?_eq_getElem (by omega)⟩
  obtain ⟨b3,o3,had3,_,hel3⟩:=slKnown hli hold (fun _ _ h=>by obtain ⟨_,e,_⟩:=h; exact ⟨_,_,e⟩) (ne_of_get hy)
  obtain ⟨_,hci3,av,rfl,_,_,_,_,_,hav⟩:=hel3 k y hy
  have hyO:=hfB.list y (List.mem_of_getElem? hy)
  have hyl:=hls B (List.mem_of_getElem? hB) y (List.mem_of_getElem? hy)
  have hlt4 : LtIs k ln:=⟨hkl⟩
  obtain ⟨ya,yn,yc,_,_,rfl,_⟩:=id hav
  have huv:=uses_vals hyO
  have hul:=usesOf_len y
  simp only
  repeat (first|refine g_then ?_|refine g_seq ?_|refine g_block ?_|refine g_skip ?_)
  refine g_drawX [(fun z : Option Addr=>Ent.vec z (preds bl b).length ac 3 1 ((preds bl b).map intN)) aa,Ent.box p6 [.slice pa pn pc,.slice la ln lc,.int .i64 B.kind,.bool B.on.reg,.int .i64 B.on.n,.slice va vn vc] 47,(⟨tf,fun w=>SlAt w (.slice ta tn tc) 1 (domL bl) RowV⟩ : Ent),Ent.box p1 [nm,.int .i64 (n : Int),.int .i64 (R : Int),.slice ba bn bc] 33] (fun _ : Unit=>True) (fun _=>[(107,.bool (!decide (InsUse bl (allW n bl) b k y))),(10,.int .i64 k),(7,.slice aa (preds bl b).length ac),(6,.pointer (some ⟨p6,0,none⟩)),(5,.int .i64 b),(4,.slice ta tn tc),(2,.int .i64 0),(1,.pointer (some ⟨p1,0,none⟩))]) (fun _=>[(fun z : Option Addr=>Ent.vec z (preds bl b).length ac 3 1 ((preds bl b).map intN)) aa,Ent.box p6 [.slice pa pn pc,.slice la ln lc,.int .i64 B.kind,.bool B.on.reg,.int .i64 B.on.n,.slice va vn vc] 47,(⟨tf,fun w=>SlAt w (.slice ta tn tc) 1 (domL bl) RowV⟩ : Ent),Ent.box p1 [nm,.int .i64 (n : Int),.int .i64 (R : Int),.slice ba bn bc] 33]) mixed (.refl _) ?_ fun _ _=>?_
  ·skip
   refine h_take 0 rfl (by decide +kernel) (.refl _) ?_
   refine h_take 1 rfl (by decide +kernel) (.refl _) ?_
   refine h_take 2 rfl (by decide +kernel) (.refl _) ?_
   refine h_take 3 rfl (by decide +kernel) (.refl _) ?_
   refine h_take 4 rfl (by decide +kernel) (.refl _) ?_
   refine h_take 5 rfl (by decide +kernel) (.refl _) ?_
   refine h_take 6 rfl (by decide +kernel) (.refl _) ?_
   refine h_take 8 rfl (by decide +kernel) (.refl _) ?_
   refine h_take 9 rfl (by decide +kernel) (.refl _) ?_
   refine h_take 10 rfl (by decide +kernel) (.refl _) ?_
   refine h_callE 7 (val:=fun y' : Option Addr × Nat × Nat=>.slice y'.1 (usesOf y).length y'.2.1) (E:=fun y'=>[Ent.vec y'.1 (usesOf y).length y'.2.1 y'.2.2 2 ((usesOf y).flatMap valC)]) (φ:=fun _=>True) rfl (by decide +kernel) (.refl _) (fun w hw=>uses_c y ya yn yc w (hav.keep keeps_val hw.chg) hyl) fun z _=>?_
   obtain ⟨za,zc,ze⟩:=z
   simp only [List.cons_append,List.nil_append]
   refine h_callV 11 rfl (by decide +kernel) (.cons _ (.refl _)) (fun w hw=>ruled_c nm (.int .i64 (R : Int)) n R bl _ (.slice ta tn tc) (.slice za (usesOf y).length zc) (usesOf y) b k w (hbs0.keep keeps_block hw.chg) (hw.get (k:=3) rfl) (flat_sl hw (k:=0) rfl (fun _=>rfl) (by omega)) hcnt hok hpos hbl (fun v hv=>by rw [huv] at hv; exact hyO.vals v hv) hWb) ?_
   rw [show decide (∀ v ∈ usesOf y,KnownAt bl (allW n bl) v b k) = decide (InsUse bl (allW n bl) b k y) by rw [decide_eq_decide,huv]; exact Iff.rfl]
   refine h_take 12 rfl (by decide +kernel) (.cons _ (.refl _)) ?_
   refine h_end (by decide +kernel) ?_
   exact g_mem () trivial (by repeat (first|exact trivial|refine ⟨rfl,?_⟩)) (.cons _ (.refl _))
  by_cases hk : InsUse bl (allW n bl) b k y
  ·rw [decide_eq_true hk]
   simp only [Bool.not_true]
   repeat (first|refine g_op rfl ?_|refine g_then ?_|refine g_nil ?_|refine g_region ?_|refine g_opS rfl ?_|refine g_inBlock ?_|refine g_skip ?_|refine g_condF ?_|refine g_add rfl (by omega) (by omega) ?_)
   exact g_next (k + 1) ⟨hkl,fun k' y' h hy'=>by
    by_cases e : k' = k
    ·subst e
     rw [hy] at hy'
     obtain rfl:=Option.some.inj hy'
     exact hk
    ·exact hlall k' y' (by omega) hy'⟩ (by omega) (by repeat (first|exact trivial|refine ⟨rfl,?_⟩)) (.refl _)
  ·rw [decide_eq_false hk,hno fun h=>hk (h.list k y hy)]
   simp only [Bool.not_false]
   repeat (first|refine g_then ?_|refine g_nil ?_|refine g_region ?_|refine g_seq ?_|refine g_opS rfl ?_|refine g_condT ?_|refine g_ret ?_|refine g_thenRet ?_|refine g_blockRet ?_)
   exact g_retV rfl rfl
 have hlist2 : ∀ (i : Nat) x,B.list[i]? = some x→InsUse bl (allW n bl) b i x:=fun i x hx=>hlall i x (by have:=(List.getElem?_eq_some_iff.1 hx).1; have:=h3; simp at this; omega) hx
 repeat (first|refine g_op rfl ?_|refine g_then ?_|refine g_region ?_|refine g_seq ?_|refine g_exit ?_|refine g_thenExit ?_|refine g_exitHere ?_|refine g_build1 rfl rfl fun _ _=>?_)
 rename_i pq _
 refine g_callV rfl (fun w hw=>ruled_c nm (.int .i64 (R : Int)) n R bl _ (.slice ta tn tc) (.slice (some ⟨pq,0,none⟩) 1 1) [B.on] b ln w (hbs0.keep keeps_block hw.chg) (hw.get (k:=3) rfl) (hw.slAt (k:=0) rfl rfl (by decide) fun i' x hx=>⟨valC x,fun j' u hj'=>one_at hx hj',rfl⟩) hcnt hok hpos hbl (hv B.on hfB.on) hWb) ?_
 rw [show decide (∀ v' ∈ [B.on],KnownAt bl (allW n bl) v' b ln) = decide (KnownAt bl (allW n bl) B.on b B.list.length) by rw [hln]; exact decide_eq_decide.2 (hone B.on b _)]
 by_cases hk2 : KnownAt bl (allW n bl) B.on b B.list.length
 ·rw [decide_eq_true hk2]
  repeat (first|refine g_op rfl ?_|refine g_then ?_|refine g_nil ?_|refine g_region ?_|refine g_opS rfl ?_|refine g_inBlock ?_|refine g_skip ?_|refine g_condF ?_|refine g_add rfl (by omega) (by omega) ?_)
  exact g_next (b + 1) ⟨hlt,fun b' B' h hB'=>by
   by_cases e : b' = b
   ·subst e
    rw [hB] at hB'
    obtain rfl:=Option.some.inj hB'
    exact ⟨hphs,hlist2,hk2⟩
   ·exact hall b' B' (by omega) hB'⟩ (by omega) (by repeat (first|exact trivial|refine ⟨rfl,?_⟩)) (.cons _ (.cons _ (.cons _ (.refl _))))
 ·rw [decide_eq_false hk2,hno fun h=>hk2 h.on]
  repeat (first|refine g_op rfl ?_|refine g_then ?_|refine g_nil ?_|refine g_region ?_|refine g_seq ?_|refine g_opS rfl ?_|refine g_condT ?_|refine g_ret ?_|refine g_thenRet ?_|refine g_blockRet ?_)
  exact g_retV rfl rfl
end Go.Proofs.YtdbljcahlpkgdaaDoor

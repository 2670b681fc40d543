/- Texts joined: DomB DomC FrontA FrontB DomD DomE FrontC. -/
import Derived.Test.YtdbljcahlpkgdaaGreatDoorGE
import Derived.Test.YtdbljcahlpkgdaaGreatDoorGF
import Derived.Test.YtdbljcahlpkgdaaGreatDoorGG
namespace Go.Proofs.YtdbljcahlpkgdaaGreatDoor
open Go Go.RowKit
attribute [local irreducible] wpListIn Code.wpIn Exit.then Exit.inBlock bodyPost wpQuiet wpAnyIn wpAnyH
set_option maxHeartbeats 8000000
theorem upSl {bl : List LBlock} {l : List Nat} {up : List Int} {k : Nat} (h : Inv bl l up k) {S : Nat→Prop} {w0 w : World} {H : List Ent} {a : Option Addr} {n c : Nat} (hw : Wd S w0 (Ent.vec a n c 3 1 (up.map (.int .i64))::H) w) (hn : n = up.length) (hb : n ≤ 1000) (hl : ∀ x ∈ l,x < 1000) : SlAt w (.slice a n c) 1 up IntV:=by
 refine hw.slAt (k:=0) rfl hn (by omega) fun i x hx=>⟨[.int .i64 x],fun j v hj=>?_,rfl,?_⟩
 ·match j,hj with
  | 0,hj=>simpa [hx] using hj
 ·rcases h.neg i x hx with e|e
  ·rw [e]; simp [inI]
  ·have:=hl _ (h.val i x.toNat (by rw [hx]; congr 1; omega)).2.1
   simp only [inI]; omega
theorem treeOf_c (nm pa re : Value) (bl : List LBlock) (bs : Value) (hbsl : ∃ a n c,bs = .slice a n c) (w0 : World) (hbs : SlAt w0 bs 6 bl BlockV) (hlen : bl.length ≤ 100) (hok : GoodB bl) (hto : ∀ (b : Nat) (B : LBlock),bl[b]? = some B→B.to.Nodup) (hpos : 0 < bl.length) :
  Ret Tryz.prog 64 [.agg #[nm,pa,re,bs]] w0 fun u w'=>∃ a : Nat,u = .slice (some ⟨a,0,none⟩) bl.length bl.length∧Wd NoS w0 [Ent.vec (some ⟨a,0,none⟩) bl.length bl.length 3 1 (((List.range bl.length).map (treeN bl)).map (.int .i64))] w'∧True:=by
 obtain ⟨ba,n,bc,rfl⟩:=hbsl
 have hn : n = bl.length:=by obtain ⟨_,_,_,_,_,e,h,_⟩:=hbs; simp only [Value.slice.injEq] at e; omega
 have ho:=orderL_ord hok hpos
 have hol : (orderL bl).length = (postL bl).length:=by unfold orderL; rw [List.length_reverse]
 have hpl:=postL_len hpos
 refine ret_enter Tryz.func64 rfl Tryz.ntmps64 rfl (Wd.nil NoS w0) ?_
 repeat (first|refine g_op rfl ?_|refine g_then ?_|refine g_nil ?_|refine g_region ?_|refine g_seq ?_|refine g_box rfl fun _ _=>?_)
 rename_i p1 _
 refine g_callE (val:=fun x : Option Addr × Nat=>.slice x.1 (postL bl).length x.2) (E:=fun x=>[Ent.vec x.1 (postL bl).length x.2 3 1 ((orderL bl).map intN)]) (φ:=fun _=>True) rfl (fun w hw=>orderOf_c _ _ _ bl _ ⟨_,_,_,rfl⟩ w (hbs.keep keeps_block hw.chg) hlen hok hpos) fun x _=>?_
 obtain ⟨xa,xc⟩:=x
 have hml : 0 < (orderL bl).length:=by
  cases h : orderL bl with
  | nil=>have:=ho.zero; rw [h] at this; cases this
  | cons=>simp
 have hlt : ∀ x ∈ orderL bl,x < bl.length:=fun x hx=>hok.rch hpos ((ho.mem x).1 hx)
 rw [← hol]
 generalize hl : orderL bl = l at *
 generalize hm : l.length = m at *
 simp only [List.cons_append,List.nil_append]
 repeat (first|refine g_op rfl ?_|refine g_then ?_|refine g_nil ?_|refine g_region ?_|refine g_seq ?_|refine g_build1 rfl rfl fun _ _=>?_|refine g_make rfl (by omega) (by omega) fun _ _=>?_)
 rename_i ta _ e1 _
 refine g_callE (val:=fun a : Nat=>.slice (some ⟨a,0,none⟩) n n) (E:=fun a=>[Ent.vec (some ⟨a,0,none⟩) n n 3 1 (List.replicate n (.int .i64 (-1)))]) (φ:=fun _=>True) rfl (fun w hw=>repeat_c e1 0 n (-1) w (hw.vecCell (k:=0) (o:=0) (j:=0) rfl rfl) (by omega) (by omega)) fun ua _=>?_
 simp only [List.cons_append,List.nil_append]
 rw [show List.replicate n (Value.int .i64 (-1)) = (List.replicate n (-1 : Int)).map (.int .i64) by simp,show List.replicate n (Value.int .i64 0) = (List.replicate n (0 : Nat)).map intN by simp [intN]]
 refine g_vec 3 rfl (by omega) fun ob oo hxa=>?_
 subst hxa
 refine g_vecLe 3 rfl fun _ hmc hc63=>?_
 repeat (first|refine g_op rfl ?_|refine g_then ?_|refine g_nil ?_|refine g_region ?_|refine g_seq ?_|refine g_block ?_)
 refine g_loop (fun (x : Nat × List Nat)=>x.1 ≤ m∧x.2.length = n∧(∀ j b : Nat,j < x.1→l[j]? = some b→x.2[b]? = some j)∧∀ y ∈ x.2,y ≤ 100000) (fun x=>[(28,.int .i64 x.1),(27,.int .i64 m),(26,.slice (some ⟨ob,oo,none⟩) m xc),(3,.slice (some ⟨ob,oo,none⟩) m xc),(4,.slice (some ⟨ta,0,none⟩) n n),(5,.slice (some ⟨ua,0,none⟩) n n),(1,.pointer (some ⟨p1,0,none⟩))])
  (fun x=>[Ent.vec (some ⟨ua,0,none⟩) n n 3 1 ((List.replicate n (-1 : Int)).map (.int .i64)),Ent.vec (some ⟨e1,0,none⟩) 1 1 3 1 [.int .i64 (-1)],Ent.vec (some ⟨ta,0,none⟩) n n 3 1 (x.2.map intN),Ent.vec (some ⟨ob,oo,none⟩) m xc 3 1 (l.map intN),Ent.box p1 [nm,pa,re,.slice ba n bc] 35]) (fun x=>m - x.1) (0,List.replicate n 0) ⟨Nat.zero_le _,by simp,fun j b hj=>by simp only at hj; omega,fun y hy=>by rw [List.eq_of_mem_replicate hy]; omega⟩ (g_done (by repeat (first|exact trivial|refine ⟨rfl,?_⟩)) (.refl _)) fun x ⟨hi,hxl,hall,hxb⟩=>?_
 obtain ⟨i,xs⟩:=x
 simp only at hi hxl hall hxb ⊢
 repeat (first|refine g_op rfl ?_|refine g_then ?_|refine g_nil ?_|refine g_region ?_|refine g_seq ?_)
 refine g_cond (fun h1=>?_) (fun h1=>?_)
 ·have hil : i < m:=by simpa using h1
  obtain ⟨b,hb⟩ : ∃ b,l[i]? = some b:=⟨_,List.getElem?_eq_getElem (by omega)⟩
  have hbn : b < n:=by rw [hn]; exact hlt b (List.mem_of_getElem? hb)
  have hli : LtIs i m:=⟨hil⟩
  have hea : ElAt l i b:=⟨hb⟩
  have hlb : LtIs b n:=⟨hbn⟩
  have hxa : XAt (l.map intN) (i * 1) (.int .i64 b):=⟨by simp [hb,intN]⟩
  have hxs : XSet (xs.map intN) (b * 1) (.int .i64 (i : Int)) ((xs.set b i).map intN):=⟨by simp [List.map_set,intN],by simp; omega⟩
  repeat (first|refine g_op rfl ?_|refine g_then ?_|refine g_nil ?_|refine g_region ?_|refine g_seq ?_|refine g_opS rfl ?_|refine g_inBlock ?_|refine g_block ?_|refine g_skip ?_|refine g_add rfl (by omega) (by omega) ?_|refine g_storeV ?_)
  refine g_next (i + 1,xs.set b i) ⟨hil,by simpa using hxl,fun j c hj hc=>?_,fun y hy=>by
   rcases List.mem_or_eq_of_mem_set hy with h|h
   ·exact hxb y h
   ·rw [h]; omega⟩ (by simp only; omega) (by repeat (first|exact trivial|refine ⟨rfl,?_⟩)) (.refl _)
  rw [List.getElem?_set]
  by_cases e : b = c
  ·subst e
   rw [if_pos rfl,if_pos (by omega)]
   congr 1
   have h1:=rk_get ho.nodup hb
   rw [rk_get ho.nodup hc] at h1
   omega
  ·rw [if_neg e]
   refine hall j c ?_ hc
   have : j ≠ i:=fun e'=>by subst e'; rw [hb] at hc; exact e (Option.some.inj hc)
   simp only at hj; omega
 have him : i = m:=by have:=h1; simp at this; omega
 clear hi h1
 rw [him] at hall
 have hat : ∀ b ∈ l,(xs.map (fun x : Nat=>(x : Int)))[b]? = some ((rk l b : Nat) : Int):=by
  intro b hb
  have h1:=get_rk hb
  have h2 : rk l b < l.length:=List.idxOf_lt_length_iff.2 hb
  rw [List.getElem?_map,hall (rk l b) b (by omega) h1]; rfl
 have hl0 : LtIs 0 n:=⟨by omega⟩
 have hxs0 : XSet ((List.replicate n (-1 : Int)).map (.int .i64)) (0 * 1) (.int .i64 0) (((List.replicate n (-1 : Int)).set 0 0).map (.int .i64)):=⟨by simp [List.map_set],by simp; omega⟩
 have hI0:=inv_start hpos ho
 rw [← hn] at hI0
 generalize (List.replicate n (-1 : Int)).set 0 0 = up0 at hI0 hxs0
 repeat (first|refine g_op rfl ?_|refine g_then ?_|refine g_nil ?_|refine g_region ?_|refine g_seq ?_|refine g_exit ?_|refine g_thenExit ?_|refine g_exitHere ?_|refine g_storeV ?_)
 refine g_callE (val:=fun x : (Option Addr × Nat × Nat) × (Nat→Prop)=>.slice x.1.1 x.1.2.1 x.1.2.2) (E:=fun x=>[⟨x.2,fun w=>SlAt w (.slice x.1.1 x.1.2.1 x.1.2.2) 1 (aheadL bl) RowV⟩]) (φ:=fun _=>True) rfl (fun w hw=>graphAhead_c _ _ _ bl _ w (hbs.keep keeps_block hw.chg) hlen hok) fun x _=>?_
 obtain ⟨⟨aa,an,ac⟩,fp⟩:=x
 simp only [List.cons_append,List.nil_append]
 repeat (first|refine g_op rfl ?_|refine g_then ?_|refine g_nil ?_|refine g_region ?_|refine g_seq ?_|refine g_block ?_)
 refine g_fix (L':=[(9,.bool true),(8,.slice aa an ac),(3,.slice (some ⟨ob,oo,none⟩) m xc),(4,.slice (some ⟨ta,0,none⟩) n n),(5,.slice (some ⟨ua,0,none⟩) n n),(1,.pointer (some ⟨p1,0,none⟩))]) (by repeat (first|exact trivial|refine ⟨rfl,?_⟩)) (.refl _) ?_
 refine g_permH (H1:=[Ent.vec (some ⟨ua,0,none⟩) n n 3 1 (up0.map (.int .i64))]++[⟨fp,fun w=>SlAt w (.slice aa an ac) 1 (aheadL bl) RowV⟩,Ent.vec (some ⟨e1,0,none⟩) 1 1 3 1 [.int .i64 (-1)],Ent.vec (some ⟨ta,0,none⟩) n n 3 1 (xs.map intN),Ent.vec (some ⟨ob,oo,none⟩) m xc 3 1 (l.map intN),Ent.box p1 [nm,pa,re,.slice ba n bc] 35]) (List.Perm.swap _ _ _) ?_
 refine g_holdK fun w1 hw1=>?_
 have hbk : SlAt (killW (fps [Ent.vec (some ⟨ua,0,none⟩) n n 3 1 (up0.map (.int .i64))]) w1) (.slice ba n bc) 6 bl BlockV:=hbs.keep keeps_block hw1.killOld
 have hordk : SlAt (killW (fps [Ent.vec (some ⟨ua,0,none⟩) n n 3 1 (up0.map (.int .i64))]) w1) (.slice (some ⟨ob,oo,none⟩) m xc) 1 (l.map (fun x : Nat=>(x : Int))) IntV:=ints_sl hw1.besides (k:=3) rfl hm.symm (by omega) fun x hx=>by have:=hlt x hx; omega
 have hatk : SlAt (killW (fps [Ent.vec (some ⟨ua,0,none⟩) n n 3 1 (up0.map (.int .i64))]) w1) (.slice (some ⟨ta,0,none⟩) n n) 1 (xs.map (fun x : Nat=>(x : Int))) IntV:=ints_sl hw1.besides (k:=2) rfl hxl.symm (by omega) hxb
 have hahk : SlAt (killW (fps [Ent.vec (some ⟨ua,0,none⟩) n n 3 1 (up0.map (.int .i64))]) w1) (.slice aa an ac) 1 (aheadL bl) RowV:=hw1.beside (e:=⟨fp,fun w=>SlAt w (.slice aa an ac) 1 (aheadL bl) RowV⟩) (by simp)
 have back : ∀ {E : List Ent} {w : World},Wd (fps [Ent.vec (some ⟨ua,0,none⟩) n n 3 1 (up0.map (.int .i64))]) (killW (fps [Ent.vec (some ⟨ua,0,none⟩) n n 3 1 (up0.map (.int .i64))]) w1) E w→Wd NoS w0 (E++[⟨fp,fun w=>SlAt w (.slice aa an ac) 1 (aheadL bl) RowV⟩,Ent.vec (some ⟨e1,0,none⟩) 1 1 3 1 [.int .i64 (-1)],Ent.vec (some ⟨ta,0,none⟩) n n 3 1 (xs.map intN),Ent.vec (some ⟨ob,oo,none⟩) m xc 3 1 (l.map intN),Ent.box p1 [nm,pa,re,.slice ba n bc] 35]) w:=fun hw=>hw1.comp hw.unkill
 have hkk : ∀ {E : List Ent} {w : World},Wd (fps [Ent.vec (some ⟨ua,0,none⟩) n n 3 1 (up0.map (.int .i64))]) (killW (fps [Ent.vec (some ⟨ua,0,none⟩) n n 3 1 (up0.map (.int .i64))]) w1) E w→∀ p v,(killW (fps [Ent.vec (some ⟨ua,0,none⟩) n n 3 1 (up0.map (.int .i64))]) w1).cell? p = some v→w.cell? p = some v:=fun hw=>hw.killKeep
 have hold : ∀ {b o : Nat} {v : Value},CellsAt (killW (fps [Ent.vec (some ⟨ua,0,none⟩) n n 3 1 (up0.map (.int .i64))]) w1) b o [v]→OldIs (fps [Ent.vec (some ⟨ua,0,none⟩) n n 3 1 (up0.map (.int .i64))]) b:=fun hc=>killOldIs hc (by simp)
 generalize killW (fps [Ent.vec (some ⟨ua,0,none⟩) n n 3 1 (up0.map (.int .i64))]) w1 = wk at *
 generalize fps [Ent.vec (some ⟨ua,0,none⟩) n n 3 1 (up0.map (.int .i64))] = SS at *
 have hoel:=hordk.known
 obtain ⟨hanl,hanc,_,ab,ao,haa,hahel⟩:=hahk.at
 have hal : (aheadL bl).length = n:=by unfold aheadL; rw [aheadTo_length,hn]
 rw [hal] at hanl
 have hanl':=hanl.symm
 subst hanl'
 have hmsz : ∀ up : List Int,mass l m up ≤ mass l m up:=fun _=>Nat.le_refl _
 refine g_loop (fun (x : List Int × Bool)=>if x.2 then Inv bl l x.1 1 else (Inv bl l x.1 l.length∧∀ v ∈ l,v ≠ 0→Full bl x.1 v)) (fun x=>[(9,.bool x.2),(8,.slice aa n ac),(3,.slice (some ⟨ob,oo,none⟩) m xc),(4,.slice (some ⟨ta,0,none⟩) n n),(5,.slice (some ⟨ua,0,none⟩) n n),(1,.pointer (some ⟨p1,0,none⟩))])
  (fun x=>[Ent.vec (some ⟨ua,0,none⟩) n n 3 1 (x.1.map (.int .i64))]) (fun x=>2 * mass l m x.1 + if x.2 then 1 else 0) (up0,true) hI0 (g_done (by repeat (first|exact trivial|refine ⟨rfl,?_⟩)) (.refl _)) fun x hI=>?_
 obtain ⟨up,more⟩:=x
 simp only at hI ⊢
 repeat (first|refine g_op rfl ?_|refine g_then ?_|refine g_nil ?_|refine g_region ?_|refine g_seq ?_)
 refine g_cond (fun h1=>?_) (fun h1=>?_)
 ·subst h1
  simp only [if_true] at hI
  repeat (first|refine g_op rfl ?_|refine g_then ?_|refine g_nil ?_|refine g_region ?_|refine g_seq ?_|refine g_opS rfl ?_|refine g_block ?_|refine g_skip ?_)
  refine g_cutTail rfl (by omega) fun a' ha'=>?_
  repeat (first|refine g_op rfl ?_|refine g_then ?_|refine g_nil ?_|refine g_block ?_)
  refine g_loop (fun (x : Nat × List Int × Bool)=>x.1 + 1 ≤ m∧Inv bl l x.2.1 (x.1 + 1)∧(x.2.2 = false→x.2.1 = up∧∀ v ∈ l,v ≠ 0→rk l v < x.1 + 1→Full bl x.2.1 v)∧(x.2.2 = true→mass l m x.2.1 < mass l m up)∧mass l m x.2.1 ≤ mass l m up) (fun x=>[(46,.int .i64 x.1),(44,.slice a' (m - 1) (xc - 1)),(45,.int .i64 ((m - 1 : Nat) : Int)),(9,.bool x.2.2),(8,.slice aa n ac),(3,.slice (some ⟨ob,oo,none⟩) m xc),(4,.slice (some ⟨ta,0,none⟩) n n),(5,.slice (some ⟨ua,0,none⟩) n n),(1,.pointer (some ⟨p1,0,none⟩))])
   (fun x=>[Ent.vec (some ⟨ua,0,none⟩) n n 3 1 (x.2.1.map (.int .i64))]) (fun x=>m - x.1) (0,up,false) ⟨by simp only; omega,hI,fun _=>⟨rfl,fun v hv hv0 hr=>absurd (rk_inj hv (List.mem_of_getElem? ho.zero) (by have:=rk_zero ho; omega)) hv0⟩,fun h=>(by cases h),Nat.le_refl _⟩ (g_done (by repeat (first|exact trivial|refine ⟨rfl,?_⟩)) (.refl _)) fun x ⟨hk,hIk,hnm,hm1,hm2⟩=>?_
  obtain ⟨k,up,more⟩:=x
  simp only at hk hIk hnm hm1 hm2 ⊢
  repeat (first|refine g_op rfl ?_|refine g_then ?_|refine g_nil ?_|refine g_region ?_|refine g_seq ?_)
  refine g_cond (fun h1=>?_) (fun h1=>?_)
  ·have hkm : k < m - 1:=by simpa using h1
   obtain ⟨b,hb⟩ : ∃ b,l[k + 1]? = some b:=⟨_,List.getElem?_eq_getElem (by omega)⟩
   have hbl:=List.mem_of_getElem? hb
   have hbn:=hlt b hbl
   have hrb : rk l b = k + 1:=rk_get ho.nodup hb
   have hb0 : b ≠ 0:=fun e=>by subst e; have:=rk_zero ho; omega
   obtain ⟨_,hc1,rfl,_⟩:=hoel (k + 1) b (by rw [List.getElem?_map,hb]; rfl)
   have had : AddrIs a' ob (oo + 1):=⟨ha' ob oo (by omega) rfl⟩
   have hlk : LtIs k (m - 1):=⟨hkm⟩
   have hcb : CellsIs wk ob (oo + 1 + k * 1) [.int .i64 (b : Int)]:=⟨by rw [show oo + 1 + k * 1 = oo + (k + 1) * 1 by omega]; exact hc1⟩
   have ol1 : OldIs SS ob:=hold hc1
   have harow:=aheadL_get hok hto (t:=b) hbn
   obtain ⟨_,hc2,v,rfl,hrow⟩:=hahel b _ harow
   have hada : AddrIs aa ab ao:=⟨haa (List.ne_nil_of_mem (List.mem_of_getElem? harow))⟩
   have hlb : LtIs b n:=⟨by omega⟩
   have hca : CellsIs wk ab (ao + b * 1) [v]:=⟨hc2⟩
   have ol2 : OldIs SS ab:=hold hc2
   have hrow0:=hrow
   obtain ⟨ra,rn,rc,_,_,rfl,_⟩:=hrow0
   obtain ⟨hrn,hrnc,hrm,rb,ro,hra,hrel⟩:=hrow.at
   rw [List.length_map] at hrn
   have hps : ∀ p,p ∈ preds bl b ↔ (p < n∧Edge bl p b):=fun p=>by simp [preds,Edge,hn]
   have hpn : (preds bl b).length ≤ 100:=by have:=List.length_filter_le (fun i=>decide ((b : Int) ∈ toOf bl i)) (List.range bl.length); rw [List.length_range] at this; unfold preds; omega
   generalize preds bl b = ps at *
   have hul:=hIk.len
   repeat (first|refine g_op rfl ?_|refine g_then ?_|refine g_nil ?_|refine g_region ?_|refine g_seq ?_|refine g_block ?_|refine g_skip ?_)
   refine g_loop (fun (x : Nat × Int)=>x.1 ≤ rn∧BestOf up (ps.take x.1) x.2) (fun x=>[(55,.int .i64 x.1),(12,.int .i64 x.2),(53,.slice ra rn rc),(54,.int .i64 rn),(11,.int .i64 b),(46,.int .i64 k),(44,.slice a' (m - 1) (xc - 1)),(45,.int .i64 ((m - 1 : Nat) : Int)),(9,.bool more),(8,.slice aa n ac),(3,.slice (some ⟨ob,oo,none⟩) m xc),(4,.slice (some ⟨ta,0,none⟩) n n),(5,.slice (some ⟨ua,0,none⟩) n n),(1,.pointer (some ⟨p1,0,none⟩))])
    (fun _=>[Ent.vec (some ⟨ua,0,none⟩) n n 3 1 (up.map (.int .i64))]) (fun x=>rn - x.1) (0,-1) ⟨Nat.zero_le _,by simpa using bestOf_nil up⟩ (g_done (by repeat (first|exact trivial|refine ⟨rfl,?_⟩)) (.refl _)) fun x ⟨hj,hbest⟩=>?_
   obtain ⟨j,z⟩:=x
   simp only at hj hbest ⊢
   repeat (first|refine g_op rfl ?_|refine g_then ?_|refine g_nil ?_|refine g_region ?_|refine g_seq ?_)
   refine g_cond (fun h2=>?_) (fun h2=>?_)
   ·have hjl : j < rn:=by simpa using h2
    obtain ⟨p,hp⟩ : ∃ p,ps[j]? = some p:=⟨_,List.getElem?_eq_getElem (by omega)⟩
    have hpm:=(hps p).1 (List.mem_of_getElem? hp)
    have htk : ps.take (j + 1) = ps.take j++[p]:=by rw [List.take_add_one,hp]; rfl
    obtain ⟨_,hc3,rfl,_⟩:=hrel j (p : Int) (by rw [List.getElem?_map,hp]; rfl)
    have hadr : AddrIs ra rb ro:=⟨hra (fun e=>by rw [List.map_eq_nil_iff] at e; rw [e] at hp; cases hp)⟩
    have hlj : LtIs j rn:=⟨hjl⟩
    have hcr : CellsIs wk rb (ro + j * 1) [.int .i64 (p : Int)]:=⟨hc3⟩
    have ol3 : OldIs SS rb:=hold hc3
    have hlp : LtIs p n:=⟨hpm.1⟩
    obtain ⟨q,hq⟩ : ∃ q,up[p]? = some q:=⟨_,List.getElem?_eq_getElem (by omega)⟩
    have hea : ElAt up p q:=⟨hq⟩
    repeat (first|refine g_op rfl ?_|refine g_then ?_|refine g_nil ?_|refine g_region ?_|refine g_seq ?_|refine g_block ?_|refine g_skip ?_)
    refine g_cond (fun h3=>?_) (fun h3=>?_)
    ·have hq0 : q < 0:=by simpa using h3
     repeat (first|refine g_then ?_|refine g_nil ?_|refine g_region ?_|refine g_opS rfl ?_|refine g_inBlock ?_|refine g_skip ?_|refine g_add rfl (by omega) (by omega) ?_)
     refine g_next (j + 1,z) ⟨hjl,?_⟩ (by simp only; omega) (by repeat (first|exact trivial|refine ⟨rfl,?_⟩)) (.refl _)
     simp only
     rw [htk]
     exact hbest.pass fun ⟨c,hc⟩=>by rw [hq] at hc; have:=Option.some.inj hc; omega
    ·have hq0 : 0 ≤ q:=by have:=h3; simp at this; omega
     have hpp : Pr up p:=⟨q.toNat,by rw [hq]; congr 1; omega⟩
     repeat (first|refine g_op rfl ?_|refine g_then ?_|refine g_nil ?_|refine g_region ?_|refine g_seq ?_)
     refine g_cond (fun h4=>?_) (fun h4=>?_)
     ·have hz0 : z < 0:=by simpa using h4
      repeat (first|refine g_op rfl ?_|refine g_then ?_|refine g_nil ?_|refine g_region ?_|refine g_opS rfl ?_|refine g_inBlock ?_|refine g_add rfl (by omega) (by omega) ?_)
      refine g_next (j + 1,(p : Int)) ⟨hjl,?_⟩ (by simp only; omega) (by repeat (first|exact trivial|refine ⟨rfl,?_⟩)) (.refl _)
      simp only
      rw [htk]
      exact hbest.first hz0 hpp
     ·have hz0 : 0 ≤ z:=by have:=h4; simp at this; omega
      obtain ⟨c,rfl,hcp⟩:=hbest.pr hz0
      repeat (first|refine g_op rfl ?_|refine g_region ?_)
      refine g_callE (val:=fun z : Nat=>.int .i64 (z : Int)) (E:=fun _=>[]) (φ:=fun z=>MeetIs up c p z) rfl (fun w hw=>meet_c bl l ho up _ hIk _ hat (by omega) _ _ w (upSl hIk hw (by omega) (by omega) fun x hx=>by have:=hlt x hx; omega) (SlAt.mono (V:=IntV) (w:=wk) (w':=w) (fun _ _ h=>h) (hkk hw) hatk) c p hcp hpp) fun z hz=>?_
      simp only [List.nil_append]
      repeat (first|refine g_then ?_|refine g_nil ?_|refine g_region ?_|refine g_opS rfl ?_|refine g_inBlock ?_|refine g_add rfl (by omega) (by omega) ?_)
      refine g_next (j + 1,(z : Int)) ⟨hjl,?_⟩ (by simp only; omega) (by repeat (first|exact trivial|refine ⟨rfl,?_⟩)) (.refl _)
      simp only
      rw [htk]
      exact hbest.meet hpp hz
   ·have hjr : j = rn:=by have:=h2; simp at this; omega
    rw [hjr,hrn,List.take_length] at hbest
    obtain ⟨q,hqj,hql,hqk,hqe⟩ : ∃ q,q ∈ ps∧q ∈ l∧rk l q < k + 1∧Edge bl q b:=by
     obtain ⟨j,q,hj,hqj,hqe⟩:=ho.ahead (k + 1) b hb hb0
     have hql:=List.mem_of_getElem? hqj
     exact ⟨q,(hps q).2 ⟨by have:=hlt q hql; omega,hqe⟩,hql,by rw [rk_get ho.nodup hqj]; exact hj,hqe⟩
    obtain ⟨z,rfl,hzp,hall'⟩ : ∃ c : Nat,z = c∧Pr up c∧∀ y,Anc up y c ↔ ∀ p,Edge bl p b→Pr up p→Anc up y p:=by
     rcases hbest with ⟨_,h⟩|⟨c,h1,h2,_,h3⟩
     ·exact absurd (hIk.past q hql hqk) (h q hqj)
     ·refine ⟨c,h1,h2,fun y=>(h3 y).trans ⟨fun h p he hp=>h p ((hps p).2 ⟨by have:=hlt p (hIk.pr_mem hp); omega,he⟩) hp,fun h p hp hpp=>h p ((hps p).1 hp).2 hpp⟩⟩
    obtain ⟨hIs,hless,_⟩:=hIk.step hok hpos ho (by omega) hb hzp hall'
    have hbu : b < up.length:=by omega
    obtain ⟨x0,hx0⟩ : ∃ x,up[b]? = some x:=⟨_,List.getElem?_eq_getElem hbu⟩
    have hea : ElAt up b x0:=⟨hx0⟩
    have hlen' : l.length = m:=hm
    repeat (first|refine g_op rfl ?_|refine g_then ?_|refine g_nil ?_|refine g_region ?_|refine g_seq ?_|refine g_exit ?_|refine g_thenExit ?_|refine g_exitHere ?_)
    refine g_cond (fun h3=>?_) (fun h3=>?_)
    ·have hne : x0 ≠ (z : Int):=by simpa using h3
     have hfall:=hIk.falls hzp hx0 hne hless
     rw [hlen'] at hfall
     have hxs : XSet (up.map (.int .i64)) (b * 1) (.int .i64 (z : Int)) ((up.set b (z : Int)).map (.int .i64)):=⟨by simp [List.map_set],by simp; omega⟩
     repeat (first|refine g_op rfl ?_|refine g_then ?_|refine g_nil ?_|refine g_region ?_|refine g_opS rfl ?_|refine g_inBlock ?_|refine g_add rfl (by omega) (by omega) ?_|refine g_storeV ?_)
     refine g_next (k + 1,up.set b (z : Int),true) ⟨by simp only; omega,hIs,fun h=>(by cases h),fun _=>by simp only; omega,by simp only; omega⟩ (by simp only; omega) (by repeat (first|exact trivial|refine ⟨rfl,?_⟩)) (.refl _)
    ·have he : x0 = (z : Int):=by have:=h3; simp at this; exact this
     subst he
     have hset : up.set b (z : Int) = up:=set_self hx0
     rw [hset] at hIs
     repeat (first|refine g_then ?_|refine g_nil ?_|refine g_region ?_|refine g_opS rfl ?_|refine g_inBlock ?_|refine g_skip ?_|refine g_add rfl (by omega) (by omega) ?_)
     refine g_next (k + 1,up,more) ⟨by simp only; omega,hIs,fun h=>⟨(hnm h).1,fun v hv hv0 hr=>?_⟩,hm1,hm2⟩ (by simp only; omega) (by repeat (first|exact trivial|refine ⟨rfl,?_⟩)) (.refl _)
     by_cases e : v = b
     ·subst e; exact hIk.full hb0 hx0 hall'
     ·refine (hnm h).2 v hv hv0 ?_
      have : rk l v ≠ k + 1:=fun e'=>e (rk_inj hv hbl (by omega))
      simp only at hr; omega
  ·have hkm : k + 1 = m:=by have:=h1; simp at this; omega
   rw [hkm] at hIk hnm
   repeat (first|refine g_then ?_|refine g_inBlock ?_|refine g_exit ?_|refine g_thenExit ?_|refine g_exitHere ?_)
   refine g_next (up,more) ?_ ?_ (by repeat (first|exact trivial|refine ⟨rfl,?_⟩)) (.refl _)
   ·cases more with
    | true=>exact Inv.again ho (hm.symm ▸ hIk)
    | false =>
     refine ⟨hm.symm ▸ hIk,fun v hv hv0=>(hnm rfl).2 v hv hv0 ?_⟩
     rw [← hm]; exact List.idxOf_lt_length_iff.2 hv
   ·cases more with
    | true=>have:=hm1 rfl; simp only [if_true]; omega
    | false=>simp only [Bool.false_eq_true,if_true,if_false]; omega
 ·subst h1
  simp only [Bool.false_eq_true,if_false] at hI
  have hul:=hI.1.len
  have hxs2 : XSet (up.map (.int .i64)) (0 * 1) (.int .i64 (-1)) ((up.set 0 (-1)).map (.int .i64)):=⟨by simp [List.map_set],by simp; omega⟩
  repeat (first|refine g_op rfl ?_|refine g_then ?_|refine g_nil ?_|refine g_region ?_|refine g_seq ?_|refine g_exit ?_|refine g_thenExit ?_|refine g_exitHere ?_|refine g_ret ?_|refine g_storeV ?_)
  refine g_ret1 rfl fun w hw=>⟨ua,by rw [hn],?_,trivial⟩
  have:=back hw
  rw [hI.1.tree ho hI.2,← hn] at this
  rw [← hn]
  exact this.sub (List.sublist_append_left _ _)
end Go.Proofs.YtdbljcahlpkgdaaGreatDoor
namespace Go.Proofs.YtdbljcahlpkgdaaGreatDoor
open Go Go.RowKit
attribute [local irreducible] wpListIn Code.wpIn Exit.then Exit.inBlock bodyPost wpQuiet wpAnyIn wpAnyH
set_option maxHeartbeats 4000000
def DomI (bl : List LBlock) (i : Nat) (z : Int) : Prop:=∃ c : Nat,z = c∧Dom bl i c
theorem domI_tree {bl : List LBlock} (hok : GoodB bl) (h0 : 0 < bl.length) {a i : Nat} (ha : Rch bl (-1) 0 a) : Dom bl i a ↔ (DomI bl i (treeN bl a) ∨ i = a):=by
 by_cases ha0 : a = 0
 ·subst ha0
  rw [treeN_none fun c hc=>hc.2.1 (dom_zero hc.1)]
  refine ⟨fun h=>.inr (dom_zero h),fun h=>h.elim (fun ⟨c,hc,_⟩=>by omega) fun e=>by subst e; exact .refl ha⟩
 ·obtain ⟨c,hc⟩:=idom_ex hok h0 ha ha0
  rw [treeN_eq hc,hc.iff]
  exact ⟨fun h=>h.imp (fun h=>⟨c,rfl,h⟩) id,fun h=>h.imp (fun ⟨d,e,h⟩=>(show c = d by omega) ▸ h) id⟩
noncomputable def wayM (bl : List LBlock) (z : Int) : Nat:=if z < 0 then 0 else (domTo bl z.toNat bl.length).length
theorem wayM_lt {bl : List LBlock} (hok : GoodB bl) (h0 : 0 < bl.length) {a : Nat} (ha : Rch bl (-1) 0 a) : wayM bl (treeN bl a) < wayM bl a:=by
 have h1 : 0 < (domTo bl a bl.length).length:=List.length_pos_of_mem (domTo_mem.2 ⟨hok.rch h0 ha,.refl ha⟩)
 have e1 : wayM bl (a : Int) = (domTo bl a bl.length).length:=by unfold wayM; rw [if_neg (by omega)]; rfl
 rw [e1]
 by_cases hx : ∃ c,IDom bl c a
 ·obtain ⟨c,hc⟩:=hx
  rw [treeN_eq hc]
  have e2 : wayM bl (c : Int) = (domTo bl c bl.length).length:=by unfold wayM; rw [if_neg (by omega)]; rfl
  have:=idom_has hok h0 hc
  omega
 ·rw [treeN_none fun c hc=>hx ⟨c,hc⟩]
  unfold wayM
  rw [if_pos (by omega)]; exact h1
theorem indexAny_c (v : Value) (l : List Int) (x : Int) (w0 : World) (hv : SlAt w0 v 1 l IntV) : Ret Tryz.prog 70 [v,.int .i64 x] w0 fun u w'=>∃ r : Int,u = .int .i64 r∧Wd NoS w0 [] w'∧(0 ≤ r ↔ x ∈ l):=by
 obtain ⟨a,n,c,b,o,rfl,hn,hnc,hnb,hc,ha,hel⟩:=hv
 refine ret_enter Tryz.func70 rfl Tryz.ntmps70 rfl (Wd.nil NoS w0) ?_
 repeat (first|refine g_op rfl ?_|refine g_then ?_|refine g_nil ?_|refine g_region ?_|refine g_seq ?_|refine g_block ?_)
 refine g_loop (fun (i : Nat)=>i ≤ n∧∀ j y,j < i→l[j]? = some y→y ≠ x) (fun i=>[(8,.int .i64 i),(6,.slice a n c),(7,.int .i64 n),(0,.slice a n c),(1,.int .i64 x)]) (fun _=>[]) (fun i=>n - i) 0 ⟨Nat.zero_le _,fun j y hj=>by omega⟩ (g_done (by repeat (first|exact trivial|refine ⟨rfl,?_⟩)) (by simp)) fun i ⟨hi,hall⟩=>?_
 repeat (first|refine g_op rfl ?_|refine g_then ?_|refine g_nil ?_|refine g_region ?_|refine g_seq ?_)
 refine g_cond (fun h1=>?_) (fun h1=>?_)
 ·have hlt : i < n:=by simpa using h1
  obtain ⟨t,ht⟩ : ∃ t,l[i]? = some t:=⟨_,List.getElem?_eq_getElem (by omega)⟩
  have had : AddrIs a b o:=⟨ha (ne_of_get ht)⟩
  have hli : LtIs i n:=⟨hlt⟩
  obtain ⟨cs,hcs,rfl,_⟩:=hel i _ ht
  have hci : CellsIs w0 b (o + i * 1) _:=⟨hcs⟩
  repeat (first|refine g_op rfl ?_|refine g_then ?_|refine g_nil ?_|refine g_region ?_|refine g_seq ?_|refine g_block ?_|refine g_skip ?_)
  refine g_cond (fun h2=>?_) (fun h2=>?_)
  ·have h5 : x = t:=by simpa using h2
   repeat (first|refine g_op rfl ?_|refine g_then ?_|refine g_nil ?_|refine g_region ?_|refine g_seq ?_|refine g_ret ?_|refine g_thenRet ?_|refine g_blockRet ?_)
   exact g_ret1 rfl fun w hw=>⟨(i : Int),rfl,hw,⟨fun _=>by rw [h5]; exact List.mem_of_getElem? ht,fun _=>by omega⟩⟩
  ·have h5 : x ≠ t:=by simpa using h2
   repeat (first|refine g_then ?_|refine g_nil ?_|refine g_region ?_|refine g_opS rfl ?_|refine g_inBlock ?_|refine g_skip ?_|refine g_add rfl (by omega) (by omega) ?_)
   refine g_next (i + 1) ⟨hlt,fun j y hj hy=>?_⟩ (by omega) (by repeat (first|exact trivial|refine ⟨rfl,?_⟩)) (by simp)
   by_cases e : j = i
   ·subst e
    rw [ht] at hy
    exact fun e=>h5 (by rw [← e]; exact Option.some.inj hy.symm)
   ·exact hall j y (by omega) hy
 ·have hge : i = n:=by have:=h1; simp at this; omega
  repeat (first|refine g_op rfl ?_|refine g_then ?_|refine g_nil ?_|refine g_region ?_|refine g_seq ?_|refine g_exit ?_|refine g_thenExit ?_|refine g_exitHere ?_|refine g_ret ?_)
  refine g_ret1 rfl fun w hw=>⟨-1,rfl,hw,⟨fun h=>by omega,fun h=>?_⟩⟩
  obtain ⟨j,hj⟩:=List.getElem?_of_mem h
  exact absurd rfl (hall j x (by have:=(List.getElem?_eq_some_iff.1 hj).1; omega) hj)
theorem contains_c (v : Value) (l : List Int) (x : Int) (w0 : World) (hv : SlAt w0 v 1 l IntV) (hvs : ∃ a n c,v = .slice a n c) : RetV Tryz.prog 68 [v,.int .i64 x] w0 (.bool (decide (x ∈ l))):=by
 obtain ⟨a,n,c,rfl⟩:=hvs
 refine ret_enter Tryz.func68 rfl Tryz.ntmps68 rfl (Wd.nil NoS w0) ?_
 repeat (first|refine g_op rfl ?_|refine g_then ?_|refine g_nil ?_|refine g_region ?_|refine g_seq ?_)
 refine g_callE (val:=fun r : Int=>.int .i64 r) (E:=fun _=>[]) (φ:=fun r=>0 ≤ r ↔ x ∈ l) rfl (fun w hw=>indexAny_c _ l x w (hv.keep keeps_int hw.chg)) fun r hr=>?_
 simp only [List.nil_append]
 repeat (first|refine g_op rfl ?_|refine g_then ?_|refine g_nil ?_|refine g_opS rfl ?_|refine g_ret ?_)
 exact g_retV rfl (by rw [decide_eq_decide.2 hr])
end Go.Proofs.YtdbljcahlpkgdaaGreatDoor
namespace Go.Proofs.YtdbljcahlpkgdaaGreatDoor
open Go Go.RowKit
attribute [local irreducible] wpListIn Code.wpIn Exit.then Exit.inBlock bodyPost wpQuiet wpAnyIn wpAnyH
set_option maxHeartbeats 8000000
theorem treeL_sl {S : Nat→Prop} {w0 w : World} {H : List Ent} {k : Nat} {a : Option Addr} {n c e : Nat} {bl : List LBlock} (hw : Wd S w0 H w) (hk : H[k]? = some (Ent.vec a n c e 1 (((List.range bl.length).map (treeN bl)).map (.int .i64)))) (hn : n = bl.length) (hok : GoodB bl) (hpos : 0 < bl.length) (hlen : bl.length ≤ 100) : SlAt w (.slice a n c) 1 ((List.range bl.length).map (treeN bl)) IntV:=by
 refine hw.slAt hk (by simpa using hn) (by omega) fun i x hx=>⟨[.int .i64 x],fun j v hj=>?_,rfl,?_⟩
 ·match j,hj with
  | 0,hj=>rw [Nat.mul_one,Nat.add_zero,List.getElem?_map,hx]; simpa using hj
 ·obtain ⟨b,_,rfl⟩:=List.mem_map.1 (List.mem_of_getElem? hx)
  by_cases h : ∃ c,IDom bl c b
  ·obtain ⟨c,hc⟩:=h
   rw [treeN_eq hc]
   have:=hok.rch hpos hc.1.1
   simp only [inI]; omega
  ·rw [treeN_none fun c hc=>h ⟨c,hc⟩]; simp [inI]
theorem tree_neg {bl : List LBlock} (hok : GoodB bl) (h0 : 0 < bl.length) {b : Nat} (hb0 : b ≠ 0) : decide (treeN bl b < 0) = !(open Classical in decide (Rch bl (-1) 0 b)):=by
 classical
 by_cases h : Rch bl (-1) 0 b
 ·obtain ⟨c,hc⟩:=idom_ex hok h0 h hb0
  rw [treeN_eq hc]
  simp [h]
 ·rw [treeN_none fun c hc=>h hc.1.2.1]
  simp [h]
theorem treeN_dom {bl : List LBlock} (_hok : GoodB bl) (_h0 : 0 < bl.length) {b p : Nat} (h : Dom bl b p) : (treeN bl b < 0∧treeN bl b = -1) ∨ ∃ c : Nat,treeN bl b = c∧Dom bl c p:=by
 by_cases hx : ∃ c,IDom bl c b
 ·obtain ⟨c,hc⟩:=hx
  exact .inr ⟨c,treeN_eq hc,hc.1.trans h⟩
 ·have e:=treeN_none fun c hc=>hx ⟨c,hc⟩
  exact .inl ⟨by rw [e]; omega,e⟩
def sortL (l : List Int) (n : Nat) : List Nat:=(List.range n).filter fun c=>decide ((c : Int) ∈ l)
theorem sorted_c (v : Value) (hvs : ∃ a n c,v = .slice a n c) (l : List Int) (n : Nat) (hn : n ≤ 1000) (w0 : World) (hv : SlAt w0 v 1 l IntV) : Ret Tryz.prog 58 [v,.int .i64 n] w0 fun u w'=>∃ x : Option Addr × Nat,u = .slice x.1 (sortL l n).length x.2∧Wd NoS w0 [Ent.vec x.1 (sortL l n).length x.2 3 1 ((sortL l n).map intN)] w'∧True:=by
 obtain ⟨va,vn,vc,rfl⟩:=hvs
 refine ret_enter Tryz.func58 rfl Tryz.ntmps58 rfl (Wd.nil NoS w0) ?_
 repeat (first|refine g_op rfl ?_|refine g_then ?_|refine g_nil ?_|refine g_region ?_|refine g_seq ?_|refine g_block ?_)
 refine g_nilVec 3 1 ?_
 refine g_loop (fun (x : Nat × Option Addr × Nat × List Nat)=>x.1 ≤ n∧x.2.2.2 = sortL l x.1) (fun x=>[(6,.int .i64 x.1),(5,.slice x.2.1 x.2.2.2.length x.2.2.1),(0,.slice va vn vc),(1,.int .i64 n)]) (fun x=>[Ent.vec x.2.1 x.2.2.2.length x.2.2.1 3 1 (x.2.2.2.map intN)]) (fun x=>n - x.1) (0,none,0,[]) ⟨Nat.zero_le _,rfl⟩ (g_done (by repeat (first|exact trivial|refine ⟨rfl,?_⟩)) (.refl _)) fun x ⟨hi,hL⟩=>?_
 obtain ⟨i,oa,oc,L⟩:=x
 simp only at hi hL ⊢
 have hLl : L.length ≤ i:=by
  have:=List.length_filter_le (fun c : Nat=>decide ((c : Int) ∈ l)) (List.range i)
  rw [List.length_range] at this
  rw [hL]; exact this
 have hs : sortL l (i + 1) = sortL l i++if (i : Int) ∈ l then [i] else []:=by
  unfold sortL
  rw [List.range_succ,List.filter_append]
  congr 1
  by_cases h : (i : Int) ∈ l <;> simp [h]
 repeat (first|refine g_op rfl ?_|refine g_then ?_|refine g_nil ?_|refine g_region ?_|refine g_seq ?_)
 refine g_cond (fun h1=>?_) (fun h1=>?_)
 ·have hlt : i < n:=by simpa using h1
  repeat (first|refine g_op rfl ?_|refine g_then ?_|refine g_region ?_|refine g_seq ?_|refine g_block ?_|refine g_skip ?_)
  refine g_callV rfl (fun w hw=>has_c _ l i w (hv.keep keeps_int hw.chg)) ?_
  generalize he : decide ((i : Int) ∈ l) = e
  cases e
  ·have hno : ¬ (i : Int) ∈ l:=by simpa using he
   repeat (first|refine g_op rfl ?_|refine g_then ?_|refine g_nil ?_|refine g_region ?_|refine g_opS rfl ?_|refine g_inBlock ?_|refine g_skip ?_|refine g_condF ?_|refine g_add rfl (by omega) (by omega) ?_)
   exact g_next (i + 1,oa,oc,L) ⟨hlt,by simp only; rw [hs,if_neg hno,List.append_nil,hL]⟩ (by simp only; omega) (by repeat (first|exact trivial|refine ⟨rfl,?_⟩)) (.refl _)
  ·have hyes : (i : Int) ∈ l:=by simpa using he
   repeat (first|refine g_op rfl ?_|refine g_then ?_|refine g_nil ?_|refine g_region ?_|refine g_condT ?_|refine g_build1 rfl rfl fun _ _=>?_)
   rename_i bt _
   refine g_append rfl rfl (by omega) (by omega) fun a' c'=>?_
   repeat (first|refine g_op rfl ?_|refine g_then ?_|refine g_nil ?_|refine g_region ?_|refine g_opS rfl ?_|refine g_inBlock ?_|refine g_add rfl (by omega) (by omega) ?_)
   refine g_eqH (H1:=Ent.vec (some ⟨bt,0,none⟩) 1 1 3 1 [.int .i64 i]::[Ent.vec a' (L++[i]).length c' 3 1 ((L++[i]).map intN)]) (by simp [intN]) ?_
   refine g_fix (L':=[(6,.int .i64 ((i : Int) + 1)),(5,.slice a' (L++[i]).length c'),(0,.slice va vn vc),(1,.int .i64 n)]) ?_ (.refl _) ?_
   ·rw [show (L++[i]).length = L.length + 1 by simp]
    exact (by repeat (first|exact trivial|refine ⟨rfl,?_⟩))
   exact g_next (i + 1,a',c',L++[i]) ⟨hlt,by simp only; rw [hs,if_pos hyes,hL]⟩ (by simp only; omega) (by repeat (first|exact trivial|refine ⟨rfl,?_⟩)) (.cons _ (.refl _))
 ·have hge : i = n:=by have:=h1; simp at this; omega
  repeat (first|refine g_op rfl ?_|refine g_then ?_|refine g_nil ?_|refine g_region ?_|refine g_seq ?_|refine g_exit ?_|refine g_thenExit ?_|refine g_exitHere ?_|refine g_ret ?_)
  refine g_ret1 rfl fun w hw=>⟨(oa,oc),?_,?_,trivial⟩
  ·rw [← hge,← hL]
  ·rw [← hge,← hL]; exact hw
end Go.Proofs.YtdbljcahlpkgdaaGreatDoor

/- Texts joined: DomB DomC FrontA FrontB DomD DomE FrontC. -/
import Derived.Test.YtdbljcahlpkgdaaDoorGE
import Derived.Test.YtdbljcahlpkgdaaDoorGF
import Derived.Test.YtdbljcahlpkgdaaDoorGG
namespace Go.Proofs.YtdbljcahlpkgdaaDoor
open Go Go.RowKit
attribute [local irreducible] wpListIn Code.wpIn Exit.then Exit.inBlock bodyPost wpQuiet wpAnyIn wpAnyH
set_option maxHeartbeats 8000000
theorem upSl {bl : List LBlock} {l : List Nat} {up : List Int} {k : Nat} (h : Inv bl l up k) {S : Nat→Prop} {w0 w : World} {H : List Ent} {a : Option Addr} {n c : Nat} (hw : Wd S w0 (Ent.vec a n c 3 1 (up.map (.int .i64))::H) w) (hn : n = up.length) (hb : n ≤ 1000) (hl : ∀ x ∈ l,x < 1000) : SlAt w (.slice a n c) 1 up IntV:=by
 refine hw.slAt (k:=0) rfl hn (by omega) fun i x hx=>⟨[.int .i64 x],fun j v hj=>?_,rfl,?_⟩
 ·match j,hj with
  | 0,hj=>simpa [hx] using hj
 ·rcases h.neg i x hx with e|e
  ·rw [e]; simp [inI]
  ·have:=hl _ (h.val i x.toNat (by rw [hx]; congr 1; omega)).2.1
   simp only [inI]; omega
theorem treeOf_c (nm pa re : Value) (bl : List LBlock) (bs : Value) (hbsl : ∃ a n c,bs = .slice a n c) (w0 : World) (hbs : SlAt w0 bs 6 bl BlockV) (hlen : bl.length ≤ 100) (hok : GoodB bl) (hto : ∀ (b : Nat) (B : LBlock),bl[b]? = some B→B.to.Nodup) (hpos : 0 < bl.length) :
  Ret Tryd.prog 25 [.agg #[nm,pa,re,bs]] w0 fun u w'=>∃ a : Nat,u = .slice (some ⟨a,0,none⟩) bl.length bl.length∧Wd NoS w0 [Ent.vec (some ⟨a,0,none⟩) bl.length bl.length 3 1 (((List.range bl.length).map (treeN bl)).map (.int .i64))] w'∧True:=by
 obtain ⟨ba,n,bc,rfl⟩:=hbsl
 have hn : n = bl.length:=by obtain ⟨_,_,_,_,_,e,h,_⟩:=hbs; simp only [Value.slice.injEq] at e; omega
 have ho:=orderL_ord hok hpos
 have hol : (orderL bl).length = (postL bl).length:=by unfold orderL; rw [List.length_reverse]
 have hpl:=postL_len hpos
 refine ret_enter Tryd.func25 rfl Tryd.ntmps25 rfl (Wd.nil NoS w0) ?_
 repeat (first|refine g_op rfl ?_|refine g_then ?_|refine g_nil ?_|refine g_region ?_|refine g_seq ?_|refine g_box rfl fun _ _=>?_)
 rename_i p1 _
 refine g_callE (val:=fun x : Option Addr × Nat=>.slice x.1 (postL bl).length x.2) (E:=fun x=>[Ent.vec x.1 (postL bl).length x.2 3 1 ((orderL bl).map intN)]) (φ:=fun _=>True) rfl (fun w hw=>orderOf_c _ _ _ bl _ ⟨_,_,_,rfl⟩ w (hbs.keep keeps_block hw.chg) hlen hok hpos) fun x _=>?_
 obtain ⟨xa,xc⟩:=x
 have hml : 0 < (orderL bl).length:=by
  cases h : orderL bl with
  | nil=>have:=ho.zero; rw [h] at this; cases this
  | cons=>simp
 have hlt : ∀ x ∈ orderL bl,x < bl.length:=fun x hx=>hok.rch hpos ((ho.mem x).1 hx)
 rw [← hol]
 generalize hl : orderL bl = l at *
 generalize hm : l.length = m at *
 simp only [List.cons_append,List.nil_append]
 repeat (first|refine g_op rfl ?_|refine g_then ?_|refine g_nil ?_|refine g_region ?_|refine g_seq ?_|refine g_build1 rfl rfl fun _ _=>?_|refine g_make rfl (by omega) (by omega) fun _ _=>?_)
 rename_i ta _ e1 _
 refine g_callE (val:=fun a : Nat=>.slice (some ⟨a,0,none⟩) n n) (E:=fun a=>[Ent.vec (some ⟨a,0,none⟩) n n 3 1 (List.replicate n (.int .i64 (-1)))]) (φ:=fun _=>True) rfl (fun w hw=>repeat_c e1 0 n (-1) w (hw.vecCell (k:=0) (o:=0) (j:=0) rfl rfl) (by omega) (by omega)) fun ua _=>?_
 simp only [List.cons_append,List.nil_append]
 rw [show List.replicate n (Value.int .i64 (-1)) = (List.replicate n (-1 : Int)).map (.int .i64) by simp,show List.replicate n (Value.int .i64 0) = (List.replicate n (0 : Nat)).map intN by simp [intN]]
 refine g_vec 3 rfl (by omega) fun ob oo hxa=>?_
 subst hxa
 refine g_vecLe 3 rfl fun _ hmc hc63=>?_
 repeat (first|refine g_op rfl ?_|refine g_then ?_|refine g_nil ?_|refine g_region ?_|refine g_seq ?_|refine g_block ?_)
 refine g_loop (fun (x : Nat × List Nat)=>x.1 ≤ m∧x.2.length = n∧(∀ j b : Nat,j < x.1→l[j]? = some b→x.2[b]? = some j)∧∀ y ∈ x.2,y ≤ 100000) (fun x=>[(28,.int .i64 x.1),(27,.int .i64 m),(26,.slice (some ⟨ob,oo,none⟩) m xc),(3,.slice (some ⟨ob,oo,none⟩) m xc),(4,.slice (some ⟨ta,0,none⟩) n n),(5,.slice (some ⟨ua,0,none⟩) n n),(1,.pointer (some ⟨p1,0,none⟩))])
  (fun x=>[Ent.vec (some ⟨ua,0,none⟩) n n 3 1 ((List.replicate n (-1 : Int)).map (.int .i64)),Ent.vec (some ⟨e1,0,none⟩) 1 1 3 1 [.int .i64 (-1)],Ent.vec (some ⟨ta,0,none⟩) n n 3 1 (x.2.map intN),Ent.vec (some ⟨ob,oo,none⟩) m xc 3 1 (l.map intN),Ent.box p1 [nm,pa,re,.slice ba n bc] 33]) (fun x=>m - x.1) (0,List.replicate n 0) ⟨Nat.zero_le _,by simp,fun j b hj=>by simp only at hj; omega,fun y hy=>by rw [List.eq_of_mem_replicate hy]; omega⟩ (g_done (by repeat (first|exact trivial|refine ⟨rfl,?_⟩)) (.refl _)) fun x ⟨hi,hxl,hall,hxb⟩=>?_
 obtain ⟨i,xs⟩:=x
 simp only at hi hxl hall hxb ⊢
 repeat (first|refine g_op rfl ?_|refine g_then ?_|refine g_nil ?_|refine g_region ?_|refine g_seq ?_)
 refine g_cond (fun h1=>?_) (fun h1=>?_)
 ·have hil : i < m:=by simpa using h1
  obtain ⟨b,hb⟩ : ∃ b,l[i]? = some b:=⟨_,List.getElem?_eq_getElem (by omega)⟩
  have hbn : b < n:=by rw [hn]; exact hlt b (List.mem_of_getElem? hb)
  have hli : LtIs i m:=⟨hil⟩
  have hea : ElAt l i b:=⟨hb⟩
  have hlb : LtIs b n:=⟨hbn⟩
  have hxa : XAt (l.map intN) (i * 1) (.int .i64 b):=⟨by simp [hb,intN]⟩
  have hxs : XSet (xs.map intN) (b * 1) (.int .i64 (i : Int)) ((xs.set b i).map intN):=⟨by simp [List.map_set,intN],by simp; omega⟩
  repeat (first|refine g_op rfl ?_|refine g_then ?_|refine g_nil ?_|refine g_region ?_|refine g_seq ?_|refine g_opS rfl ?_|refine g_inBlock ?_|refine g_block ?_|refine g_skip ?_|refine g_add rfl (by omega) (by omega) ?_|refine g_storeV ?_)
  refine g_next (i + 1,xs.set b i) ⟨hil,by simpa using hxl,fun j c hj hc=>?_,fun y hy=>by
   rcases List.mem_or_eq_of_mem_set hy with h|h
   ·exact hxb y h
   ·rw [h]; omega⟩ (by simp only; omega) (by repeat (first|exact trivial|refine ⟨rfl,?_⟩)) (.refl _)
  rw [List.getElem?_set]
  by_cases e : b = c
  ·subst e
   rw [if_pos rfl,if_pos (by omega)]
   congr 1
   have h1:=rk_get ho.nodup hb
   rw [rk_get ho.nodup hc] at h1
   omega
  ·rw [if_neg e]
   refine hall j c ?_ hc
   have : j ≠ i:=fun e'=>by subst e'; rw [hb] at hc; exact e (Option.some.inj hc)
   simp only at hj; omega
 have him : i = m:=by have:=h1; simp at this; omega
 clear hi h1
 rw [him] at hall
 have hat : ∀ b ∈ l,(xs.map (fun x : Nat=>(x : Int)))[b]? = some ((rk l b : Nat) : Int):=by
  intro b hb
  have h1:=get_rk hb
  have h2 : rk l b < l.length:=List.idxOf_lt_length_iff.2 hb
  rw [List.getElem?_map,hall (rk l b) b (by omega) h1]; rfl
 have hl0 : LtIs 0 n:=⟨by omega⟩
 have hxs0 : XSet ((List.replicate n (-1 : Int)).map (.int .i64)) (0 * 1) (.int .i64 0) (((List.replicate n (-1 : Int)).set 0 0).map (.int .i64)):=⟨by simp [List.map_set],by simp; omega⟩
 have hI0:=inv_start hpos ho
 rw [← hn] at hI0
 generalize (List.replicate n (-1 : Int)).set 0 0 = up0 at hI0 hxs0
 repeat (first|refine g_op rfl ?_|refine g_then ?_|refine g_nil ?_|refine g_region ?_|refine g_seq ?_|refine g_exit ?_|refine g_thenExit ?_|refine g_exitHere ?_|refine g_storeV ?_)
 refine g_callE (val:=fun x : (Option Addr × Nat × Nat) × (Nat→Prop)=>.slice x.1.1 x.1.2.1 x.1.2.2) (E:=fun x=>[⟨x.2,fun w=>SlAt w (.slice x.1.1 x.1.2.1 x.1.2.2) 1 (aheadL bl) RowV⟩]) (φ:=fun _=>True) rfl (fun w hw=>graphAhead_c _ _ _ bl _ w (hbs.keep keeps_block hw.chg) hlen hok) fun x _=>?_
 obtain ⟨⟨aa,an,ac⟩,fp⟩:=x
 simp only [List.cons_append,List.nil_append]
 repeat (first|refine g_op rfl ?_|refine g_then ?_|refine g_nil ?_|refine g_region ?_|refine g_seq ?_|refine g_block ?_)
 refine g_fix (L':=[(9,.bool true),(8,.slice aa an ac),(3,.slice (some ⟨ob,oo,none⟩) m xc),(4,.slice (some ⟨ta,0,none⟩) n n),(5,.slice (some ⟨ua,0,none⟩) n n),(1,.pointer (some ⟨p1,0,none⟩))]) (by repeat (first|exact trivial|refine ⟨rfl,?_⟩)) (.refl _) ?_
 refine g_permH (H1:=[Ent.vec (some ⟨ua,0,none⟩) n n 3 1 (up0.map (.int .i64))]++[⟨fp,fun w=>SlAt w (.slice aa an ac) 1 (aheadL bl) RowV⟩,Ent.vec (some ⟨e1,0,none⟩) 1 1 3 1 [.int .i64 (-1)],Ent.vec (some ⟨ta,0,none⟩) n n 3 1 (xs.map intN),Ent.vec (some ⟨ob,oo,none⟩) m xc 3 1 (l.map intN),Ent.box p1 [nm,pa,re,.slice ba n bc] 33]) (List.Perm.swap _ _ _) ?_
 refine g_holdK fun w1 hw1=>?_
 have hbk : SlAt (killW (fps [Ent.vec (some ⟨ua,0,none⟩) n n 3 1 (up0.map (.int .i64))]) w1) (.slice ba n bc) 6 bl BlockV:=hbs.keep keeps_block hw1.killOld
 have hordk : SlAt (killW (fps [Ent.vec (some ⟨ua,0,none⟩) n n 3 1 (up0.map (.int .i64))]) w1) (.slice (some ⟨ob,oo,none⟩) m xc) 1 (l.map (fun x : Nat=>(x : Int))) IntV:=ints_sl hw1.besides (k:=3) rfl hm.symm (by omega) fun x hx=>by have:=hlt x hx; omega
 have hatk : SlAt (killW (fps [Ent.vec (some ⟨ua,0,none⟩) n n 3 1 (up0.map (.int .i64))]) w1) (.slice (some ⟨ta,0,none⟩) n n) 1 (xs.map (fun x : Nat=>(x : Int))) IntV:=ints_sl hw1.besides (k:=2) rfl hxl.symm (by omega) hxb
 have hahk : SlAt (killW (fps [Ent.vec (some ⟨ua,0,none⟩) n n 3 1 (up0.map (.int .i64))]) w1) (.slice aa an ac) 1 (aheadL bl) RowV:=hw1.beside (e:=⟨fp,fun w=>SlAt w (.slice aa an ac) 1 (aheadL bl) RowV⟩) (by simp)
 have back : ∀ {E : List Ent} {w : World},Wd (fps [Ent.vec (some ⟨ua,0,none⟩) n n 3 1 (up0.map (.int .i64))]) (killW (fps [Ent.vec (some ⟨ua,0,none⟩) n n 3 1 (up0.map (.int .i64))]) w1) E w→Wd NoS w0 (E++[⟨fp,fun w=>SlAt w (.slice aa an ac) 1 (aheadL bl) RowV⟩,Ent.vec (some ⟨e1,0,none⟩) 1 1 3 1 [.int .i64 (-1)],Ent.vec (some ⟨ta,0,none⟩) n n 3 1 (xs.map intN),Ent.vec (some ⟨ob,oo,none⟩) m xc 3 1 (l.map intN),Ent.box p1 [nm,pa,re,.slice ba n bc] 33]) w:=fun hw=>hw1.comp hw.unkill
 have hkk : ∀ {E : List Ent} {w : World},Wd (fps [Ent.vec (some ⟨ua,0,none⟩) n n 3 1 (up0.map (.int .i64))]) (killW (fps [Ent.vec (some ⟨ua,0,none⟩) n n 3 1 (up0.map (.int .i64))]) w1) E w→∀ p v,(killW (fps [Ent.vec (some ⟨ua,0,none⟩) n n 3 1 (up0.map (.int .i64))]) w1).cell? p = some v→w.cell? p = some v:=fun hw=>hw.killKeep
 have hold : ∀ {b o : Nat} {v : Value},CellsAt (killW (fps [Ent.vec (some ⟨ua,0,none⟩) n n 3 1 (up0.map (.int .i64))]) w1) b o [v]→OldIs (fps [Ent.vec (some ⟨ua,0,none⟩) n n 3 1 (up0.map (.int .i64))]) b:=fun hc=>killOldIs hc (by simp)
 generalize killW (fps [Ent.vec (some ⟨ua,0,none⟩) n n 3 1 (up0.map (.int .i64))]) w1 = wk at *
 generalize fps [Ent.vec (some ⟨ua,0,none⟩) n n 3 1 (up0.map (.int .i64))] = SS at *
 have hoel:=hordk.known
 obtain ⟨hanl,hanc,_,ab,ao,haa,hahel⟩:=hahk.at
 have hal : (aheadL bl).length = n:=by unfold aheadL; rw [aheadTo_length,hn]
 rw [hal] at hanl
 have hanl':=hanl.symm
 subst hanl'
 have hmsz : ∀ up : List Int,mass l m up ≤ mass l m up:=fun _=>Nat.le_refl _
 refine g_loop (fun (x : List Int × Bool)=>if x.2 then Inv bl l x.1 1 else (Inv bl l x.1 l.length∧∀ v ∈ l,v ≠ 0→Full bl x.1 v)) (fun x=>[(9,.bool x.2),(8,.slice aa n ac),(3,.slice (some ⟨ob,oo,none⟩) m xc),(4,.slice (some ⟨ta,0,none⟩) n n),(5,.slice (some ⟨ua,0,none⟩) n n),(1,.pointer (some ⟨p1,0,none⟩))])
  (fun x=>[Ent.vec (some ⟨ua,0,none⟩) n n 3 1 (x.1.map (.int .i64))]) (fun x=>2 * mass l m x.1 + if x.2 then 1 else 0) (up0,true) hI0 (g_done (by repeat (first|exact trivial|refine ⟨rfl,?_⟩)) (.refl _)) fun x hI=>?_
 obtain ⟨up,more⟩:=x
 simp only at hI ⊢
 repeat (first|refine g_op rfl ?_|refine g_then ?_|refine g_nil ?_|refine g_region ?_|refine g_seq ?_)
 refine g_cond (fun h1=>?_) (fun h1=>?_)
 ·subst h1
  simp only [if_true] at hI
  repeat (first|refine g_op rfl ?_|refine g_then ?_|refine g_nil ?_|refine g_region ?_|refine g_seq ?_|refine g_opS rfl ?_|refine g_block ?_|refine g_skip ?_)
  refine g_cutTail rfl (by omega) fun a' ha'=>?_
  repeat (first|refine g_op rfl ?_|refine g_then ?_|refine g_nil ?_|refine g_block ?_)
  refine g_loop (fun (x : Nat × List Int × Bool)=>x.1 + 1 ≤ m∧Inv bl l x.2.1 (x.1 + 1)∧(x.2.2 = false→x.2.1 = up∧∀ v ∈ l,v ≠ 0→rk l v < x.1 + 1→Full bl x.2.1 v)∧(x.2.2 = true→mass l m x.2.1 < mass l m up)∧mass l m x.2.1 ≤ mass l m up) (fun x=>[(46,.int .i64 x.1),(44,.slice a' (m - 1) (xc - 1)),(45,.int .i64 ((m - 1 : Nat) : Int)),(9,.bool x.2.2),(8,.slice aa n ac),(3,.slice (some ⟨ob,oo,none⟩) m xc),(4,.slice (some ⟨ta,0,none⟩) n n),(5,.slice (some ⟨ua,0,none⟩) n n),(1,.pointer (some ⟨p1,0,none⟩))])
   (fun x=>[Ent.vec (some ⟨ua,0,none⟩) n n 3 1 (x.2.1.map (.int .i64))]) (fun x=>m - x.1) (0,up,false) ⟨by simp only; omega,hI,fun _=>⟨rfl,fun v hv hv0 hr=>absurd (rk_inj hv (List.mem_of_getElem? ho.zero) (by have:=rk_zero ho; omega)) hv0⟩,fun h=>(by cases h),Nat.le_refl _⟩ (g_done (by repeat (first|exact trivial|refine ⟨rfl,?_⟩)) (.refl _)) fun x ⟨hk,hIk,hnm,hm1,hm2⟩=>?_
  obtain ⟨k,up,more⟩:=x
  simp only at hk hIk hnm hm1 hm2 ⊢
  repeat (first|refine g_op rfl ?_|refine g_then ?_|refine g_nil ?_|refine g_region ?_|refine g_seq ?_)
  refine g_cond (fun h1=>?_) (fun h1=>?_)
  ·have hkm : k < m - 1:=by simpa using h1
   obtain ⟨b,hb⟩ : ∃ b,l[k + 1]? = some b:=⟨_,List.getElem?_eq_getElem (by omega)⟩
   have hbl:=List.mem_of_getElem? hb
   have hbn:=hlt b hbl
   have hrb : rk l b = k + 1:=rk_get ho.nodup hb
   have hb0 : b ≠ 0:=fun e=>by subst e; have:=rk_zero ho; omega
   obtain ⟨_,hc1,rfl,_⟩:=hoel (k + 1) b (by rw [List.getElem?_map,hb]; rfl)
   have had : AddrIs a' ob (oo + 1):=⟨ha' ob oo (by omega) rfl⟩
   have hlk : LtIs k (m - 1):=⟨hkm⟩
   have hcb : CellsIs wk ob (oo + 1 + k * 1) [.int .i64 (b : Int)]:=⟨by rw [show oo + 1 + k * 1 = oo + (k + 1) * 1 by omega]; exact hc1⟩
   have ol1 : OldIs SS ob:=hold hc1
   have harow:=aheadL_get hok hto (t:=b) hbn
   obtain ⟨_,hc2,v,rfl,hrow⟩:=hahel b _ harow
   have hada : AddrIs aa ab ao:=⟨haa (List.ne_nil_of_mem (List.mem_of_getElem? harow))⟩
   have hlb : LtIs b n:=⟨by omega⟩
   have hca : CellsIs wk ab (ao + b * 1) [v]:=⟨hc2⟩
   have ol2 : OldIs SS ab:=hold hc2
   have hrow0:=hrow
   obtain ⟨ra,rn,rc,_,_,rfl,_⟩:=hrow0
   obtain ⟨hrn,hrnc,hrm,rb,ro,hra,hrel⟩:=hrow.at
   rw [List.length_map] at hrn
   have hps : ∀ p,p ∈ preds bl b ↔ (p < n∧Edge bl p b):=fun p=>by simp [preds,Edge,hn]
   have hpn : (preds bl b).length ≤ 100:=by have:=List.length_filter_le (fun i=>decide ((b : Int) ∈ toOf bl i)) (List.range bl.length); rw [List.length_range] at this; unfold preds; omega
   generalize preds bl b = ps at *
   have hul:=hIk.len
   repeat (first|refine g_op rfl ?_|refine g_then ?_|refine g_nil ?_|refine g_region ?_|refine g_seq ?_|refine g_block ?_|refine g_skip ?_)
   refine g_loop (fun (x : Nat × Int)=>x.1 ≤ rn∧BestOf up (ps.take x.1) x.2) (fun x=>[(55,.int .i64 x.1),(12,.int .i64 x.2),(53,.slice ra rn rc),(54,.int .i64 rn),(11,.int .i64 b),(46,.int .i64 k),(44,.slice a' (m - 1) (xc - 1)),(45,.int .i64 ((m - 1 : Nat) : Int)),(9,.bool more),(8,.slice aa n ac),(3,.slice (some ⟨ob,oo,none⟩) m xc),(4,.slice (some ⟨ta,0,none⟩) n n),(5,.slice (some ⟨ua,0,none⟩) n n),(1,.pointer (some ⟨p1,0,none⟩))])
    (fun _=>[Ent.vec (some ⟨ua,0,none⟩) n n 3 1 (up.map (.int .i64))]) (fun x=>rn - x.1) (0,-1) ⟨Nat.zero_le _,by simpa using bestOf_nil up⟩ (g_done (by repeat (first|exact trivial|refine ⟨rfl,?_⟩)) (.refl _)) fun x ⟨hj,hbest⟩=>?_
   obtain ⟨j,z⟩:=x
   simp only at hj hbest ⊢
   repeat (first|refine g_op rfl ?_|refine g_then ?_|refine g_nil ?_|refine g_region ?_|refine g_seq ?_)
   refine g_cond (fun h2=>?_) (fun h2=>?_)
   ·have hjl : j < rn:=by simpa using h2
    obtain ⟨p,hp⟩ : ∃ p,ps[j]? = some p:=⟨_,List.getElem?_eq_getElem (by omega)⟩
    have hpm:=(hps p).1 (List.mem_of_getElem? hp)
    have htk : ps.take (j + 1) = ps.take j++[p]:=by rw [List.take_add_one,hp]; rfl
    obtain ⟨_,hc3,rfl,_⟩:=hrel j (p : Int) (by rw [List.getElem?_map,hp]; rfl)
    have hadr : AddrIs ra rb ro:=⟨hra (fun e=>by rw [List.map_eq_nil_iff] at e; rw [e] at hp; cases hp)⟩
    have hlj : LtIs j rn:=⟨hjl⟩
    have hcr : CellsIs wk rb (ro + j * 1) [.int .i64 (p : Int)]:=⟨hc3⟩
    have ol3 : OldIs SS rb:=hold hc3
    have hlp : LtIs p n:=⟨hpm.1⟩
    obtain ⟨q,hq⟩ : ∃ q,up[p]? = some q:=⟨_,List.getElem?_eq_getElem (by omega)⟩
    have hea : ElAt up p q:=⟨hq⟩
    repeat (first|refine g_op rfl ?_|refine g_then ?_|refine g_nil ?_|refine g_region ?_|refine g_seq ?_|refine g_block ?_|refine g_skip ?_)
    refine g_cond (fun h3=>?_) (fun h3=>?_)
    ·have hq0 : q < 0:=by simpa using h3
     repeat (first|refine g_then ?_|refine g_nil ?_|refine g_region ?_|refine g_opS rfl ?_|refine g_inBlock ?_|refine g_skip ?_|refine g_add rfl (by omega) (by omega) ?_)
     refine g_next (j + 1,z) ⟨hjl,?_⟩ (by simp only; omega) (by repeat (first|exact trivial|refine ⟨rfl,?_⟩)) (.refl _)
     simp only
     rw [htk]
     exact hbest.pass fun ⟨c,hc⟩=>by rw [hq] at hc; have:=Option.some.inj hc; omega
    ·have hq0 : 0 ≤ q:=by have:=h3; simp at this; omega
     have hpp : Pr up p:=⟨q.toNat,by rw [hq]; congr 1; omega⟩
     repeat (first|refine g_op rfl ?_|refine g_then ?_|refine g_nil ?_|refine g_region ?_|refine g_seq ?_)
     refine g_cond (fun h4=>?_) (fun h4=>?_)
     ·have hz0 : z < 0:=by simpa using h4
      repeat (first|refine g_op rfl ?_|refine g_then ?_|refine g_nil ?_|refine g_region ?_|refine g_opS rfl ?_|refine g_inBlock ?_|refine g_add rfl (by omega) (by omega) ?_)
      refine g_next (j + 1,(p : Int)) ⟨hjl,?_⟩ (by simp only; omega) (by repeat (first|exact trivial|refine ⟨rfl,?_⟩)) (.refl _)
      simp only
      rw [htk]
      exact hbest.first hz0 hpp
     ·have hz0 : 0 ≤ z:=by have:=h4; simp at this; omega
      obtain ⟨c,rfl,hcp⟩:=hbest.pr hz0
      repeat (first|refine g_op rfl ?_|refine g_region ?_)
      refine g_callE (val:=fun z : Nat=>.int .i64 (z : Int)) (E:=fun _=>[]) (φ:=fun z=>MeetIs up c p z) rfl (fun w hw=>meet_c bl l ho up _ hIk _ hat (by omega) _ _ w (upSl hIk hw (by omega) (by omega) fun x hx=>by have:=hlt x hx; omega) (SlAt.mono (V:=IntV) (w:=wk) (w':=w) (fun _ _ h=>h) (hkk hw) hatk) c p hcp hpp) fun z hz=>?_
      simp only [List.nil_append]
      repeat (first|refine g_then ?_|refine g_nil ?_|refine g_region ?_|refine g_opS rfl ?_|refine g_inBlock ?_|refine g_add rfl (by omega) (by omega) ?_)
      refine g_next (j + 1,(z : Int)) ⟨hjl,?_⟩ (by simp only; omega) (by repeat (first|exact trivial|refine ⟨rfl,?_⟩)) (.refl _)
      simp only
      rw [htk]
      exact hbest.meet hpp hz
   ·have hjr : j = rn:=by have:=h2; simp at this; omega
    rw [hjr,hrn,List.take_length] at hbest
    obtain ⟨q,hqj,hql,hqk,hqe⟩ : ∃ q,q ∈ ps∧q ∈ l∧rk l q < k + 1∧Edge bl q b:=by
     obtain ⟨j,q,hj,hqj,hqe⟩:=ho.ahead (k + 1) b hb hb0
     have hql:=List.mem_of_getElem? hqj
     exact ⟨q,(hps q).2 ⟨by have:=hlt q hql; omega,hqe⟩,hql,by rw [rk_get ho.nodup hqj]; exact hj,hqe⟩
    obtain ⟨z,rfl,hzp,hall'⟩ : ∃ c : Nat,z = c∧Pr up c∧∀ y,Anc up y c ↔ ∀ p,Edge bl p b→Pr up p→Anc up y p:=by
     rcases hbest with ⟨_,h⟩|⟨c,h1,h2,_,h3⟩
     ·exact absurd (hIk.past q hql hqk) (h q hqj)
     ·refine ⟨c,h1,h2,fun y=>(h3 y).trans ⟨fun h p he hp=>h p ((hps p).2 ⟨by have:=hlt p (hIk.pr_mem hp); omega,he⟩) hp,fun h p hp hpp=>h p ((hps p).1 hp).2 hpp⟩⟩
    obtain ⟨hIs,hless,_⟩:=hIk.step hok hpos ho (by omega) hb hzp hall'
    have hbu : b < up.length:=by omega
    obtain ⟨x0,hx0⟩ : ∃ x,up[b]? = some x:=⟨_,List.getElem?_eq_getElem hbu⟩
    have hea : ElAt up b x0:=⟨hx0⟩
    have hlen' : l.length = m:=hm
    repeat (first|refine g_op rfl ?_|refine g_then ?_|refine g_nil ?_|refine g_region ?_|refine g_seq ?_|refine g_exit ?_|refine g_thenExit ?_|refine g_exitHere ?_)
    refine g_cond (fun h3=>?_) (fun h3=>?_)
    ·have hne : x0 ≠ (z : Int):=by simpa using h3
     have hfall:=hIk.falls hzp hx0 hne hless
     rw [hlen'] at hfall
     have hxs : XSet (up.map (.int .i64)) (b * 1) (.int .i64 (z : Int)) ((up.set b (z : Int)).map (.int .i64)):=⟨by simp [List.map_set],by simp; omega⟩
     repeat (first|refine g_op rfl ?_|refine g_then ?_|refine g_nil ?_|refine g_region ?_|refine g_opS rfl ?_|refine g_inBlock ?_|refine g_add rfl (by omega) (by omega) ?_|refine g_storeV ?_)
     refine g_next (k + 1,up.set b (z : Int),true) ⟨by simp only; omega,hIs,fun h=>(by cases h),fun _=>by simp only; omega,by simp only; omega⟩ (by simp only; omega) (by repeat (first|exact trivial|refine ⟨rfl,?_⟩)) (.refl _)
    ·have he : x0 = (z : Int):=by have:=h3; simp at this; exact this
     subst he
     have hset : up.set b (z : Int) = up:=set_self hx0
     rw [hset] at hIs
     repeat (first|refine g_then ?_|refine g_nil ?_|refine g_region ?_|refine g_opS rfl ?_|refine g_inBlock ?_|refine g_skip ?_|refine g_add rfl (by omega) (by omega) ?_)
     refine g_next (k + 1,up,more) ⟨by simp only; omega,hIs,fun h=>⟨(hnm h).1,fun v hv hv0 hr=>?_⟩,hm1,hm2⟩ (by simp only; omega) (by repeat (first|exact trivial|refine ⟨rfl,?_⟩)) (.refl _)
     by_cases e : v = b
     ·subst e; exact hIk.full hb0 hx0 hall'
     ·refine (hnm h).2 v hv hv0 ?_
      have : rk l v ≠ k + 1:=fun e'=>e (rk_inj hv hbl (by omega))
      simp only at hr; omega
  ·have hkm : k + 1 = m:=by have:=h1; simp at this; omega
   rw [hkm] at hIk hnm
   repeat (first|refine g_then ?_|refine g_inBlock ?_|refine g_exit ?_|refine g_thenExit ?_|refine g_exitHere ?_)
   refine g_next (up,more) ?_ ?_ (by repeat (first|exact trivial|refine ⟨rfl,?_⟩)) (.refl _)
   ·cases more with
    | true=>exact Inv.again ho (hm.symm ▸ hIk)
    | false =>
     refine ⟨hm.symm ▸ hIk,fun v hv hv0=>(hnm rfl).2 v hv hv0 ?_⟩
     rw [← hm]; exact List.idxOf_lt_length_iff.2 hv
   ·cases more with
    | true=>have:=hm1 rfl; simp only [if_true]; omega
    | false=>simp only [Bool.false_eq_true,if_true,if_false]; omega
 ·subst h1
  simp only [Bool.false_eq_true,if_false] at hI
  have hul:=hI.1.len
  have hxs2 : XSet (up.map (.int .i64)) (0 * 1) (.int .i64 (-1)) ((up.set 0 (-1)).map (.int .i64)):=⟨by simp [List.map_set],by simp; omega⟩
  repeat (first|refine g_op rfl ?_|refine g_then ?_|refine g_nil ?_|refine g_region ?_|refine g_seq ?_|refine g_exit ?_|refine g_thenExit ?_|refine g_exitHere ?_|refine g_ret ?_|refine g_storeV ?_)
  refine g_ret1 rfl fun w hw=>⟨ua,by rw [hn],?_,trivial⟩
  have:=back hw
  rw [hI.1.tree ho hI.2,← hn] at this
  rw [← hn]
  exact this.sub (List.sublist_append_left _ _)
end Go.Proofs.YtdbljcahlpkgdaaDoor
namespace Go.Proofs.YtdbljcahlpkgdaaDoor
open Go Go.RowKit
attribute [local irreducible] wpListIn Code.wpIn Exit.then Exit.inBlock bodyPost wpQuiet wpAnyIn wpAnyH
set_option maxHeartbeats 4000000
noncomputable def domL (bl : List LBlock) : List (List Int):=gridL (fun b a=>Dom bl a b) bl.length
theorem domL_get {bl : List LBlock} {b : Nat} (hb : b < bl.length) : (domL bl)[b]? = some ((domTo bl b bl.length).map fun x : Nat=>(x : Int)):=by
 unfold domL gridL
 rw [List.getElem?_map,List.getElem?_range hb]
 rfl
noncomputable def domAt (bl : List LBlock) (a b i : Nat) : List Int:=(domTo bl i (if i < b then a + 1 else a)).map fun x : Nat=>(x : Int)
theorem domTo_succ (bl : List LBlock) (i a : Nat) : domTo bl i (a + 1) = domTo bl i a++(open Classical in if Dom bl a i then [a] else []):=by
 classical
 exact filterTo_succ (p:=fun c=>Dom bl c i) a
theorem domAt_succ {bl : List LBlock} {a b i : Nat} : domAt bl a (b + 1) i = if i = b then domAt bl a b b++(open Classical in if Dom bl a b then [(a : Int)] else []) else domAt bl a b i:=by
 classical
 unfold domAt
 by_cases h : i = b
 ·subst h
  rw [if_pos rfl,if_pos (by omega),if_neg (by omega),domTo_succ,List.map_append]
  congr 1
  by_cases hd : Dom bl a i <;> simp [hd]
 ·rw [if_neg h]
  by_cases h2 : i < b
  ·rw [if_pos h2,if_pos (by omega)]
  ·rw [if_neg h2,if_neg (by omega)]
theorem domAt_next {bl : List LBlock} {a n i : Nat} (hi : i < n) : domAt bl a n i = domAt bl (a + 1) 0 i:=by
 unfold domAt
 rw [if_pos hi,if_neg (by omega)]
theorem domAt_none {bl : List LBlock} {a i : Nat} (h : ¬ Rch bl (-1) 0 a) : domAt bl (a + 1) 0 i = domAt bl a 0 i:=by
 unfold domAt
 rw [if_neg (by omega),if_neg (by omega),domTo_succ,if_neg fun hd=>h hd.1,List.append_nil]
theorem domAt_bd {bl : List LBlock} {a b i : Nat} (ha : a ≤ 100) : (domAt bl a b i).length ≤ 1000∧∀ x ∈ domAt bl a b i,inI x:=by
 classical
 have h1 : (if i < b then a + 1 else a) ≤ 101:=by split <;> omega
 refine ⟨?_,fun x hx=>?_⟩
 ·rw [domAt,List.length_map,domTo]
  have:=List.length_filter_le (fun c=>decide (Dom bl c i)) (List.range (if i < b then a + 1 else a))
  rw [List.length_range] at this
  omega
 ·rw [domAt] at hx
  obtain ⟨y,hy,rfl⟩:=List.mem_map.1 hx
  have:=(domTo_mem.1 hy).1
  simp only [inI]; omega
theorem refTable_c (nm pa re : Value) (bl : List LBlock) (bs : Value) (hbsl : ∃ a n c,bs = .slice a n c) (w0 : World) (hbs : SlAt w0 bs 6 bl BlockV) (hlen : bl.length ≤ 100) (hok : GoodB bl) (hpos : 0 < bl.length) :
  Ret Tryd.prog 21 [.agg #[nm,pa,re,bs]] w0 fun u w'=>∃ x : Nat × (Nat→Prop),u = .slice (some ⟨x.1,0,none⟩) bl.length bl.length∧Wd NoS w0 [⟨x.2,fun w=>SlAt w (.slice (some ⟨x.1,0,none⟩) bl.length bl.length) 1 (domL bl) RowV⟩] w'∧True:=by
 classical
 obtain ⟨ba,n,bc,rfl⟩:=hbsl
 have hn : n = bl.length:=hbs.at.1
 refine ret_enter Tryd.func21 rfl Tryd.ntmps21 rfl (Wd.nil NoS w0) ?_
 repeat (first|refine g_op rfl ?_|refine g_then ?_|refine g_nil ?_|refine g_region ?_|refine g_seq ?_|refine g_box rfl fun _ _=>?_|refine g_make rfl (by omega) (by omega) fun _ _=>?_)
 rename_i p1 _ bo _
 refine g_nilVecs 3 1 n ?_
 rw [show (List.replicate n (Value.slice none 0 0)) = (List.replicate n (⟨none,0,[]⟩ : Row)).map valR by simp [valR],show (List.replicate n (Ent.vec none 0 0 3 1 [])) = (List.replicate n (⟨none,0,[]⟩ : Row)).map entR by simp [entR]]
 refine g_permH (H1:=Ent.box p1 [nm,pa,re,.slice ba n bc] 33::Ent.vec (some ⟨bo,0,none⟩) n n 43 1 ((List.replicate n (⟨none,0,[]⟩ : Row)).map valR)::(List.replicate n (⟨none,0,[]⟩ : Row)).map entR) (List.Perm.swap _ _ _) ?_
 refine g_callE (val:=fun x : Option Addr × Nat × List Nat=>.slice x.1 x.2.2.length x.2.1) (E:=fun x=>[Ent.vec x.1 x.2.2.length x.2.1 3 1 (x.2.2.map intN)]) (φ:=fun x=>FromR bl (-1) 0 x.2.2) rfl (fun w hw=>reached_c _ _ _ bl _ ⟨_,_,_,rfl⟩ w (hbs.keep keeps_block hw.chg) hlen hok hpos) fun x hx=>?_
 obtain ⟨xa,xc,l⟩:=x
 simp only [List.cons_append,List.nil_append] at hx ⊢
 have hlb : l.length ≤ bl.length:=nodup_len _ _ hx.1 hx.2.1
 have hmem : ∀ x : Nat,decide ((x : Int) ∈ l.map (fun x : Nat=>(x : Int))) = decide (Rch bl (-1) 0 x):=fun x=>by rw [decide_eq_decide,mem_ints,hx.2.2 x]; simp
 repeat (first|refine g_op rfl ?_|refine g_then ?_|refine g_nil ?_|refine g_region ?_|refine g_seq ?_|refine g_block ?_)
 refine g_loop (fun (x : Nat × List Row)=>x.1 ≤ n∧x.2.length = n∧∀ i r,x.2[i]? = some r→r.l = domAt bl x.1 0 i) (fun x=>[(5,.int .i64 x.1),(3,.slice (some ⟨bo,0,none⟩) n n),(4,.slice xa l.length xc),(1,.pointer (some ⟨p1,0,none⟩))])
  (fun x=>Ent.vec xa l.length xc 3 1 (l.map intN)::Ent.box p1 [nm,pa,re,.slice ba n bc] 33::Ent.vec (some ⟨bo,0,none⟩) n n 43 1 (x.2.map valR)::x.2.map entR) (fun x=>n - x.1) (0,List.replicate n ⟨none,0,[]⟩)
  ⟨Nat.zero_le _,by simp,fun i r hr=>?_⟩ (g_done (by repeat (first|exact trivial|refine ⟨rfl,?_⟩)) (.refl _)) fun x ⟨hi,hrl,hrows⟩=>?_
 ·simp only [List.getElem?_replicate] at hr
  split at hr
  ·simp only [Option.some.injEq] at hr
   subst hr
   simp [domAt,domTo]
  ·cases hr
 obtain ⟨a,rs⟩:=x
 simp only at hi hrl hrows ⊢
 repeat (first|refine g_op rfl ?_|refine g_then ?_|refine g_nil ?_|refine g_region ?_|refine g_seq ?_)
 refine g_cond (fun h1=>?_) (fun h1=>?_)
 ·have hlt : a < n:=by simpa using h1
  repeat (first|refine g_op rfl ?_|refine g_then ?_|refine g_region ?_|refine g_seq ?_|refine g_block ?_|refine g_skip ?_)
  refine g_callV rfl (fun w hw=>has_c _ (l.map (fun x : Nat=>(x : Int))) a w (ints_sl hw (k:=0) rfl rfl (by omega) fun y hy=>by have:=hx.2.1 y hy; omega)) ?_
  rw [hmem]
  generalize he1 : decide (Rch bl (-1) 0 a) = e1
  cases e1
  ·have hno : ¬ Rch bl (-1) 0 a:=by simpa using he1
   repeat (first|refine g_op rfl ?_|refine g_then ?_|refine g_nil ?_|refine g_region ?_|refine g_opS rfl ?_|refine g_condT ?_|refine g_add rfl (by omega) (by omega) ?_|refine g_exit ?_|refine g_thenExit ?_|refine g_exitHere ?_)
   refine g_next (a + 1,rs) ⟨hlt,hrl,fun i r hr=>?_⟩ (by simp only; omega) (by repeat (first|exact trivial|refine ⟨rfl,?_⟩)) (.refl _)
   rw [hrows i r hr,domAt_none hno]
  have hra : Rch bl (-1) 0 a:=by simpa using he1
  repeat (first|refine g_op rfl ?_|refine g_then ?_|refine g_nil ?_|refine g_region ?_|refine g_seq ?_|refine g_skip ?_|refine g_condF ?_)
  refine g_callE (val:=fun x : Option Addr × Nat × List Nat=>.slice x.1 x.2.2.length x.2.1) (E:=fun x=>[Ent.vec x.1 x.2.2.length x.2.1 3 1 (x.2.2.map intN)]) (φ:=fun x=>FromR bl a 0 x.2.2) rfl (fun w hw=>refFrom_c _ _ _ bl _ 0 a w (hbs.keep keeps_block hw.chg) hlen hok hpos) fun y hy=>?_
  obtain ⟨ya,yc,lw⟩:=y
  simp only [List.cons_append,List.nil_append] at hy ⊢
  have hlwb : lw.length ≤ bl.length:=nodup_len _ _ hy.1 hy.2.1
  have hmemw : ∀ x : Nat,decide ((x : Int) ∈ lw.map (fun x : Nat=>(x : Int))) = decide ((0 : Int) ≠ a∧Rch bl a 0 x):=fun x=>by rw [decide_eq_decide,mem_ints,hy.2.2 x]; rfl
  repeat (first|refine g_op rfl ?_|refine g_then ?_|refine g_nil ?_|refine g_region ?_|refine g_seq ?_|refine g_block ?_)
  refine g_loop (fun (x : Nat × List Row)=>x.1 ≤ n∧x.2.length = n∧∀ i r,x.2[i]? = some r→r.l = domAt bl a x.1 i) (fun x=>[(7,.int .i64 x.1),(6,.slice ya lw.length yc),(5,.int .i64 a),(3,.slice (some ⟨bo,0,none⟩) n n),(4,.slice xa l.length xc),(1,.pointer (some ⟨p1,0,none⟩))])
   (fun x=>Ent.vec ya lw.length yc 3 1 (lw.map intN)::Ent.vec xa l.length xc 3 1 (l.map intN)::Ent.box p1 [nm,pa,re,.slice ba n bc] 33::Ent.vec (some ⟨bo,0,none⟩) n n 43 1 (x.2.map valR)::x.2.map entR) (fun x=>n - x.1) (0,rs)
   ⟨Nat.zero_le _,hrl,hrows⟩ (g_done (by repeat (first|exact trivial|refine ⟨rfl,?_⟩)) (.refl _)) fun x ⟨hj,hrl',hrows'⟩=>?_
  obtain ⟨b,rs'⟩:=x
  simp only at hj hrl' hrows' ⊢
  repeat (first|refine g_op rfl ?_|refine g_then ?_|refine g_nil ?_|refine g_region ?_|refine g_seq ?_)
  refine g_cond (fun h2=>?_) (fun h2=>?_)
  ·have hblt : b < n:=by simpa using h2
   repeat (first|refine g_op rfl ?_|refine g_then ?_|refine g_region ?_|refine g_seq ?_|refine g_block ?_|refine g_skip ?_)
   refine g_callV rfl (fun w hw=>has_c _ (l.map (fun x : Nat=>(x : Int))) b w (ints_sl hw (k:=1) rfl rfl (by omega) fun y hy=>by have:=hx.2.1 y hy; omega)) ?_
   rw [hmem]
   generalize he2 : decide (Rch bl (-1) 0 b) = e2
   have pass : ¬ Dom bl a b→∀ i r,rs'[i]? = some r→r.l = domAt bl a (b + 1) i:=fun hs i r hr=>by
    rw [domAt_succ,if_neg hs,List.append_nil,hrows' i r hr]
    by_cases hib : i = b
    ·subst hib; simp
    ·simp [hib]
   have hadd : Dom bl a b→∀ r a' c',rs'[b]? = some r→∀ i q,(rs'.set b ⟨a',c',r.l++[(a : Int)]⟩)[i]? = some q→q.l = domAt bl a (b + 1) i:=fun hs r a' c' hr i q hq=>by
    have hbl:=(List.getElem?_eq_some_iff.1 hr).1
    rw [domAt_succ]
    simp only [List.getElem?_set] at hq
    by_cases hib : b = i
    ·subst hib
     simp only [if_true,hbl,Option.some.injEq] at hq
     subst hq
     simp only [if_true,if_pos hs]
     rw [hrows' b r hr]
    ·rw [if_neg hib] at hq
     rw [if_neg (Ne.symm hib)]
     exact hrows' i q hq
   obtain ⟨r,hr⟩ : ∃ r,rs'[b]? = some r:=⟨_,List.getElem?_eq_getElem (by omega)⟩
   have hrb:=domAt_bd (bl:=bl) (a:=a) (b:=b) (i:=b) (by omega)
   rw [← hrows' b r hr] at hrb
   have hli : LtIs b n:=⟨hblt⟩
   have hxa : XAt (rs'.map valR) (b * 1) (.slice r.a r.l.length r.c):=⟨by simp [hr,valR]⟩
   have hbl : b < rs'.length:=by omega
   cases e2
   ·have hno : ¬ Rch bl (-1) 0 b:=by simpa using he2
    repeat (first|refine g_op rfl ?_|refine g_then ?_|refine g_nil ?_|refine g_region ?_|refine g_opS rfl ?_|refine g_pass rfl ?_|refine g_inBlock ?_|refine g_skip ?_|refine g_condF ?_|refine g_add rfl (by omega) (by omega) ?_|refine g_passU rfl ?_)
    exact g_next (b + 1,rs') ⟨hblt,hrl',pass fun h=>hno h.2.1⟩ (by simp only; omega) (by repeat (first|exact trivial|refine ⟨rfl,?_⟩)) (.refl _)
   have hrb' : Rch bl (-1) 0 b:=by simpa using he2
   repeat (first|refine g_op rfl ?_|refine g_open ?_)
   by_cases hab : a = b
   ·rw [show decide ((a : Int) = (b : Int)) = true by simp [hab]]
    have hD : Dom bl a b:=⟨hra,hrb',.inl hab⟩
    repeat (first|refine g_op rfl ?_|refine g_then ?_|refine g_nil ?_|refine g_region ?_|refine g_open ?_|refine g_pass rfl ?_|refine g_condT ?_|refine g_build1 rfl rfl fun _ _=>?_)
    rename_i bt _
    refine g_appendAt (b + 5) (xs:=r.l.map (.int .i64)) (e:=3) (by simp [hr,entR]) rfl rfl (by omega) (by omega) fun a' c'=>?_
    refine g_eqH (H1:=Ent.vec (some ⟨bt,0,none⟩) 1 1 3 1 [.int .i64 a]::Ent.vec ya lw.length yc 3 1 (lw.map intN)::Ent.vec xa l.length xc 3 1 (l.map intN)::Ent.box p1 [nm,pa,re,.slice ba n bc] 33::Ent.vec (some ⟨bo,0,none⟩) n n 43 1 (rs'.map valR)::(rs'.set b ⟨a',c',r.l++[(a : Int)]⟩).map entR) (by simp [entR,List.map_set]) ?_
    have hxs : XSet (rs'.map valR) (b * 1) (.slice a' (r.l.length + 1) c') ((rs'.set b ⟨a',c',r.l++[(a : Int)]⟩).map valR):=⟨by simp [valR,List.map_set],by simpa using hbl⟩
    repeat (first|refine g_op rfl ?_|refine g_then ?_|refine g_nil ?_|refine g_region ?_|refine g_opS rfl ?_|refine g_inBlock ?_|refine g_add rfl (by omega) (by omega) ?_|refine g_storeV ?_)
    exact g_next (b + 1,rs'.set b ⟨a',c',r.l++[(a : Int)]⟩) ⟨hblt,by simpa using hrl',hadd hD r a' c' hr⟩ (by simp only; omega) (by repeat (first|exact trivial|refine ⟨rfl,?_⟩)) (.cons _ (.refl _))
   ·rw [show decide ((a : Int) = (b : Int)) = false by simp; omega]
    repeat (first|refine g_op rfl ?_|refine g_open ?_)
    refine g_callV rfl (fun w hw=>has_c _ (lw.map (fun x : Nat=>(x : Int))) b w (ints_sl hw (k:=0) rfl rfl (by omega) fun y hy'=>by have:=hy.2.1 y hy'; omega)) ?_
    rw [hmemw]
    generalize he3 : decide ((0 : Int) ≠ a∧Rch bl a 0 b) = e3
    cases e3
    ·have hD : Dom bl a b:=⟨hra,hrb',by
      have h : ¬ ((0 : Int) ≠ a∧Rch bl a 0 b):=by simpa using he3
      by_cases ha0 : a = 0
      ·exact .inr (.inl ha0)
      ·exact .inr (.inr fun hr=>h ⟨by omega,hr⟩)⟩
     repeat (first|refine g_op rfl ?_|refine g_then ?_|refine g_nil ?_|refine g_region ?_|refine g_open ?_|refine g_condT ?_|refine g_build1 rfl rfl fun _ _=>?_)
     rename_i bt _
     refine g_appendAt (b + 5) (xs:=r.l.map (.int .i64)) (e:=3) (by simp [hr,entR]) rfl rfl (by omega) (by omega) fun a' c'=>?_
     refine g_eqH (H1:=Ent.vec (some ⟨bt,0,none⟩) 1 1 3 1 [.int .i64 a]::Ent.vec ya lw.length yc 3 1 (lw.map intN)::Ent.vec xa l.length xc 3 1 (l.map intN)::Ent.box p1 [nm,pa,re,.slice ba n bc] 33::Ent.vec (some ⟨bo,0,none⟩) n n 43 1 (rs'.map valR)::(rs'.set b ⟨a',c',r.l++[(a : Int)]⟩).map entR) (by simp [entR,List.map_set]) ?_
     have hxs : XSet (rs'.map valR) (b * 1) (.slice a' (r.l.length + 1) c') ((rs'.set b ⟨a',c',r.l++[(a : Int)]⟩).map valR):=⟨by simp [valR,List.map_set],by simpa using hbl⟩
     repeat (first|refine g_op rfl ?_|refine g_then ?_|refine g_nil ?_|refine g_region ?_|refine g_opS rfl ?_|refine g_inBlock ?_|refine g_add rfl (by omega) (by omega) ?_|refine g_storeV ?_)
     exact g_next (b + 1,rs'.set b ⟨a',c',r.l++[(a : Int)]⟩) ⟨hblt,by simpa using hrl',hadd hD r a' c' hr⟩ (by simp only; omega) (by repeat (first|exact trivial|refine ⟨rfl,?_⟩)) (.cons _ (.refl _))
    ·have hD : ¬ Dom bl a b:=fun hd=>by
      have h : (0 : Int) ≠ a∧Rch bl a 0 b:=by simpa using he3
      rcases hd.2.2 with e|e|e
      ·exact hab e
      ·exact h.1 (by omega)
      ·exact e h.2
     repeat (first|refine g_op rfl ?_|refine g_then ?_|refine g_nil ?_|refine g_region ?_|refine g_opS rfl ?_|refine g_open ?_|refine g_inBlock ?_|refine g_skip ?_|refine g_condF ?_|refine g_add rfl (by omega) (by omega) ?_)
     exact g_next (b + 1,rs') ⟨hblt,hrl',pass hD⟩ (by simp only; omega) (by repeat (first|exact trivial|refine ⟨rfl,?_⟩)) (.refl _)
  ·have hge : b = n:=by have:=h2; simp at this; omega
   repeat (first|refine g_op rfl ?_|refine g_then ?_|refine g_nil ?_|refine g_region ?_|refine g_opS rfl ?_|refine g_inBlock ?_|refine g_add rfl (by omega) (by omega) ?_|refine g_exit ?_|refine g_thenExit ?_|refine g_exitHere ?_)
   refine g_next (a + 1,rs') ⟨hlt,hrl',fun i q hq=>?_⟩ (by simp only; omega) (by repeat (first|exact trivial|refine ⟨rfl,?_⟩)) (.cons _ (.refl _))
   have:=(List.getElem?_eq_some_iff.1 hq).1
   rw [hrows' i q hq,hge,domAt_next (by simp only at this; omega)]
 ·have hge : a = n:=by have:=h1; simp at this; omega
  repeat (first|refine g_op rfl ?_|refine g_then ?_|refine g_nil ?_|refine g_region ?_|refine g_seq ?_|refine g_exit ?_|refine g_thenExit ?_|refine g_exitHere ?_|refine g_ret ?_)
  refine g_ret1 rfl fun w hw=>⟨(bo,fps (Ent.vec (some ⟨bo,0,none⟩) n n 43 1 (rs.map valR)::rs.map entR)),by rw [hn],?_,trivial⟩
  have hw' : Wd NoS w0 ((Ent.vec (some ⟨bo,0,none⟩) n n 43 1 (rs.map valR)::rs.map entR)++[]) w:=by rw [List.append_nil]; exact hw.sub (.cons _ (.cons _ (.refl _)))
  refine hw'.pack _ fun w2 hw2=>?_
  have hrd : rs.map (·.l) = domL bl:=by
   apply List.ext_getElem?
   intro i
   by_cases hin : i < n
   ·rw [List.getElem?_map,List.getElem?_eq_getElem (by omega : i < rs.length),domL_get (by omega),Option.map_some,hrows i _ (List.getElem?_eq_getElem (by omega)),domAt,if_neg (by omega),hge,hn]
   ·rw [List.getElem?_map,List.getElem?_eq_none (by omega),List.getElem?_eq_none (by unfold domL gridL; rw [List.length_map,List.length_range]; omega)]
    rfl
  rw [← hn,← hrd]
  refine rows_sl (H:=[]) (by rw [List.append_nil]; exact hw2) hrl.symm (by omega) fun r hr=>?_
  obtain ⟨i,hi⟩:=List.getElem?_of_mem hr
  rw [hrows i r hi]
  exact domAt_bd (by omega)
def DomI (bl : List LBlock) (i : Nat) (z : Int) : Prop:=∃ c : Nat,z = c∧Dom bl i c
theorem domI_tree {bl : List LBlock} (hok : GoodB bl) (h0 : 0 < bl.length) {a i : Nat} (ha : Rch bl (-1) 0 a) : Dom bl i a ↔ (DomI bl i (treeN bl a) ∨ i = a):=by
 by_cases ha0 : a = 0
 ·subst ha0
  rw [treeN_none fun c hc=>hc.2.1 (dom_zero hc.1)]
  refine ⟨fun h=>.inr (dom_zero h),fun h=>h.elim (fun ⟨c,hc,_⟩=>by omega) fun e=>by subst e; exact .refl ha⟩
 ·obtain ⟨c,hc⟩:=idom_ex hok h0 ha ha0
  rw [treeN_eq hc,hc.iff]
  exact ⟨fun h=>h.imp (fun h=>⟨c,rfl,h⟩) id,fun h=>h.imp (fun ⟨d,e,h⟩=>(show c = d by omega) ▸ h) id⟩
noncomputable def wayM (bl : List LBlock) (z : Int) : Nat:=if z < 0 then 0 else (domTo bl z.toNat bl.length).length
theorem wayM_lt {bl : List LBlock} (hok : GoodB bl) (h0 : 0 < bl.length) {a : Nat} (ha : Rch bl (-1) 0 a) : wayM bl (treeN bl a) < wayM bl a:=by
 have h1 : 0 < (domTo bl a bl.length).length:=List.length_pos_of_mem (domTo_mem.2 ⟨hok.rch h0 ha,.refl ha⟩)
 have e1 : wayM bl (a : Int) = (domTo bl a bl.length).length:=by unfold wayM; rw [if_neg (by omega)]; rfl
 rw [e1]
 by_cases hx : ∃ c,IDom bl c a
 ·obtain ⟨c,hc⟩:=hx
  rw [treeN_eq hc]
  have e2 : wayM bl (c : Int) = (domTo bl c bl.length).length:=by unfold wayM; rw [if_neg (by omega)]; rfl
  have:=idom_has hok h0 hc
  omega
 ·rw [treeN_none fun c hc=>hx ⟨c,hc⟩]
  unfold wayM
  rw [if_pos (by omega)]; exact h1
end Go.Proofs.YtdbljcahlpkgdaaDoor
namespace Go.Proofs.YtdbljcahlpkgdaaDoor
open Go Go.RowKit
attribute [local irreducible] wpListIn Code.wpIn Exit.then Exit.inBlock bodyPost wpQuiet wpAnyIn wpAnyH
set_option maxHeartbeats 8000000
theorem treeL_sl {S : Nat→Prop} {w0 w : World} {H : List Ent} {k : Nat} {a : Option Addr} {n c e : Nat} {bl : List LBlock} (hw : Wd S w0 H w) (hk : H[k]? = some (Ent.vec a n c e 1 (((List.range bl.length).map (treeN bl)).map (.int .i64)))) (hn : n = bl.length) (hok : GoodB bl) (hpos : 0 < bl.length) (hlen : bl.length ≤ 100) : SlAt w (.slice a n c) 1 ((List.range bl.length).map (treeN bl)) IntV:=by
 refine hw.slAt hk (by simpa using hn) (by omega) fun i x hx=>⟨[.int .i64 x],fun j v hj=>?_,rfl,?_⟩
 ·match j,hj with
  | 0,hj=>rw [Nat.mul_one,Nat.add_zero,List.getElem?_map,hx]; simpa using hj
 ·obtain ⟨b,_,rfl⟩:=List.mem_map.1 (List.mem_of_getElem? hx)
  by_cases h : ∃ c,IDom bl c b
  ·obtain ⟨c,hc⟩:=h
   rw [treeN_eq hc]
   have:=hok.rch hpos hc.1.1
   simp only [inI]; omega
  ·rw [treeN_none fun c hc=>h ⟨c,hc⟩]; simp [inI]
theorem treeN_dom {bl : List LBlock} (_hok : GoodB bl) (_h0 : 0 < bl.length) {b p : Nat} (h : Dom bl b p) : (treeN bl b < 0∧treeN bl b = -1) ∨ ∃ c : Nat,treeN bl b = c∧Dom bl c p:=by
 by_cases hx : ∃ c,IDom bl c b
 ·obtain ⟨c,hc⟩:=hx
  exact .inr ⟨c,treeN_eq hc,hc.1.trans h⟩
 ·have e:=treeN_none fun c hc=>hx ⟨c,hc⟩
  exact .inl ⟨by rw [e]; omega,e⟩
end Go.Proofs.YtdbljcahlpkgdaaDoor

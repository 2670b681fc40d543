/- Texts joined: RangeO SortC Backs Pair BacksB PostC BackL Table. -/
import Derived.ChangeKeysEq
import Derived.Shelf.Slices.In.SortNone
import Derived.Shelf.Sort.Plain
import Derived.Test.YtdbljcahlpkgdaaGreatDoorGB
import Derived.Test.YtdbljcahlpkgdaaGreatDoorGD
import Derived.Test.YtdbljcahlpkgdaaGreatDoorGE
import Derived.Test.YtdbljcahlpkgdaaGreatDoorGF
import Derived.Test.YtdbljcahlpkgdaaGreatDoorGG
import Derived.Test.YtdbljcahlpkgdaaGreatDoorGI
import Derived.Test.YtdbljcahlpkgdaaGreatDoorGM
import Derived.Test.YtdbljcahlpkgdaaGreatDoorGN
import Derived.Test.YtdbljcahlpkgdaaGreatDoorKB
namespace Go.Proofs.YtdbljcahlpkgdaaGreatDoor
open Go Go.RowKit
section
variable {P : Program} {N : Nat} {ds : List Deferred} {S : Nat→Prop} {w0 : World} {L L' : List (Nat × Value)} {H H' : List Ent} {a : Act} {w : World}
 {ops : Array Oper} {rest : List Oper} {Q : Exit→Act→World→Prop} {p : Act→World→Prop}
theorem g_rangeO {α σ : Type} {g : Operand} {ps : Array Tmp} {assign body : Code} {gf : Nat} {lb : List Value} [hg : Ev L g (.func (.func gf) #[] lb.toArray)] [eg : EnterOk P gf] (F : List Ent) (Hc : σ→List Ent) (hcl : ∀ s,CellsL (Hc s)) (xs : List α) {encs : α→Array Value}
  (hseq : ∀ w,Wd S w0 H w→SeqStopsK (FW none) 4 P gf lb.toArray encs (KeepB fun b=>b < w0.heap.size∧¬ S b) (fun ys=>ys = xs) (fun pre=>pre <+: xs) xs.length w)
  (I : List α→σ→Prop) (s0 : σ) (h0 : I [] s0) (hH : (Hc s0++F).Sublist H) (hps : ∀ x,(encs x).size = ps.size)
  (L0 La : α→List (Nat × Value)) (hput : ∀ x a,Fr N ds L a→Fr N [] (L0 x) { tmps:=(ps.zip (encs x)).foldl (fun t (p,v)=>t.setIfInBounds p v) a.tmps,defers:=[] })
  (hassign : ∀ (l : Nat) (x : α) (s : σ) (R : Ent),G N [] S w0 (L0 x) (R::(Hc s++F)) (assign.wpIn (FW (some l)) 0 P (Exit.then (St N [] S w0 (La x) (R::(Hc s++F))) (fun _ _ _=>False))))
  (hbody : ∀ (l : Nat) (pre : List α) (x : α) (s : σ) (R : Ent),I pre s→pre.length < xs.length→G N [] S w0 (La x) (R::(Hc s++F)) (body.wpIn (FW (some l)) 0 P (Exit.then (Rnd S w0 (I (pre++[x])) R Hc F) (fun _ _ _=>False))))
  (k : ∀ D s,w0.heap.size ≤ D→I xs s→G N (⟨.collected D,#[]⟩::ds) S w0 L (Ent.mark D::(Hc s++F)) (Q .normal)) : G N ds S w0 L H (Code.wpIn (FW none) 0 P (Code.rangeFunc g ps assign body) Q):=fun a w hS=>by
 have hsz:=hS.wd.size
 have hF : ∀ e ∈ F,∀ b,e.fp b→b < w.heap.size:=fun e he b hb=>(hS.wd.own e (hH.subset (List.mem_append_right _ he)) b hb).2
 have hcell : ∀ s W,Wd S w0 (Hc s++F) W→∀ r o,W.heap[r]? = some o→o.isCells = false→w.heap.size ≤ r→¬ fps (Hc s++F) r:=by
  rintro s W hW r o ho hn hle ⟨e,he,hb⟩
  rcases List.mem_append.1 he with he|he
  ·obtain ⟨j,hj⟩:=List.getElem?_of_mem (List.mem_append_left F he)
   obtain ⟨cs,t,z,hc⟩:=((hcl s).all e he).ok W (hW.get hj) r hb
   rw [hc] at ho
   cases ho
   cases hn
  ·have:=hF e he r hb; omega
 have hout : ∀ s s' W W',Wd S w0 (Hc s++F) W→Wd S w0 (Ent.rest (restOf w0.heap.size W (Hc s++F)) W::(Hc s'++F)) W'→KeepsFrom w.heap.size W W'∧KeepB (fun b=>b < w0.heap.size∧¬ S b) W W':=by
  intro s s' W W' hW hW'
  obtain ⟨hs,hr⟩:=hW'.get (k:=0) rfl
  refine ⟨⟨hs,fun j o hj ho hn=>?_⟩,fun b hb=>?_⟩
  ·exact (hr j ⟨by omega,(Array.getElem?_eq_some_iff.1 ho).1,hcell s W hW j o ho hn hj⟩).trans ho
  ·exact (hW'.chg.block b hb.1 hb.2).trans (hW.chg.block b hb.1 hb.2).symm
 refine wpIn_deep (m:=5) ?_
 refine wpIn_rangeFunc_ownH (F:=FW none) (n:=5) (w0:=w) rfl (by omega) (hg.eq _ _ _ hS.fr) trivial (fun args w=>eg.run args w) (hseq w hS.wd) (fun h1 h2 b hb=>(h2 b hb).trans (h1 b hb)) (fun W l o o' hl _ _ _ b hb=>?_) (Below.refl _ _) hps
  (fun pre W=>∃ s,I pre s∧Wd S w0 (Hc s++F) W) (fun _ _ _=>False) (fun pre W W' row ⟨s,hI,hW⟩ hg hr=>⟨s,hI,hW.grown hg fun r e=>?_⟩) (fun _ _ _ _ _ h=>h.elim) ⟨s0,h0,hS.wd.sub hH⟩ (fun x a' _=>Fr N [] (La x) a') (fun _ _ _ _ _ _ h _ _=>h) ?_ ?_ ?_ ?_
 ·have hlt : b < w.heap.size:=by have:=hb.1; omega
  exact World.putObj_heap_other (by omega)
 ·obtain ⟨h1,o,ho,hn⟩:=hr r e
  exact ⟨by omega,hcell s W hW r o ho hn h1⟩
 ·rintro l pre x W K ⟨s,hI,hW⟩ hK
  refine wpIn_deep (m:=0) ?_
  refine Code.wpIn_mono (fun e a' W' q=>?_) (hassign l x s _ _ W ⟨hput x a hS.fr,hW.withRest⟩)
  cases e with
  | normal =>
   have ho:=hout s s W W' hW q.wd
   exact hK a' W' ho.1 ho.2 ⟨s,hI,q.wd.sub (List.sublist_cons_self _ _)⟩ q.fr
  | _=>exact q.elim
 ·rintro l pre x a' W _ _ ⟨s,hI,hW⟩ ha hlt
  refine wpIn_deep (m:=0) ?_
  refine Code.wpIn_mono (fun e a' W' q=>?_) (hbody l pre x s _ hI hlt a' W ⟨ha,hW.withRest⟩)
  cases e with
  | normal =>
   obtain ⟨s',hI',hW'⟩:=q
   have ho:=hout s s' W W' hW hW'
   exact ⟨ho.1,ho.2,s',hI',hW'.sub (List.sublist_cons_self _ _)⟩
  | _=>exact q.elim
 ·rintro D ys W hD rfl ⟨s,hI,hW⟩ hd
  refine k D s (by omega) hI _ W ⟨⟨hS.fr.size,by rw [hS.fr.defers],hS.fr.slot⟩,?_⟩
  have hn : ¬ fps (Hc s++F) D:=hcell s W hW D _ hd rfl hD
  exact ⟨hW.chg,fun e he b hb=>by
   rcases List.mem_cons.1 he with rfl|he
   ·cases hb
    exact ⟨.inr (by omega),(Array.getElem?_eq_some_iff.1 hd).1⟩
   ·exact hW.own e he b hb,fun e he w2 hs hw2=>by
   rcases List.mem_cons.1 he with rfl|he
   ·exact (hw2 D rfl).trans hd
   ·exact hW.ok e he w2 hs hw2,List.pairwise_cons.2 ⟨fun f hf b hb hfb=>by cases hb; exact hn ⟨f,hf,hfb⟩,hW.apart⟩⟩
 ·intro D c pre W _ _ h
  exact h.elim
end
def sortLays_ren : Go.Shelf.Ren:=⟨fun|125=>96|128=>116|129=>117|189=>69|215=>132|216=>113|257=>95|294=>107|295=>108|296=>109|297=>110|298=>111|299=>112|300=>114|301=>115|328=>127|329=>128|330=>129|331=>130|332=>131|343=>135|n=>n,fun|0=>0|3=>3|4=>4|5=>5|9=>9|28=>38|46=>139|51=>161|53=>163|131=>158|182=>153|183=>154|218=>176|222=>180|228=>183|229=>184|n=>n,fun n=>n⟩
theorem sortLays : Go.Proofs.Lays.n189 Tryz.prog sortLays_ren where
 mixed:=by kernel_rfl
 f125:=Tryz.func96.trans (congrArg some (by kernel_rfl))
 f128:=Tryz.func116.trans (congrArg some (by kernel_rfl))
 f129:=Tryz.func117.trans (congrArg some (by kernel_rfl))
 f189:=Tryz.func69.trans (congrArg some (by kernel_rfl))
 f215:=Tryz.func132.trans (congrArg some (by kernel_rfl))
 f216:=Tryz.func113.trans (congrArg some (by kernel_rfl))
 f257:=Tryz.func95.trans (congrArg some (by kernel_rfl))
 f294:=Tryz.func107.trans (congrArg some (by kernel_rfl))
 f295:=Tryz.func108.trans (congrArg some (by kernel_rfl))
 f296:=Tryz.func109.trans (congrArg some (by kernel_rfl))
 f297:=Tryz.func110.trans (congrArg some (by kernel_rfl))
 f298:=Tryz.func111.trans (congrArg some (by kernel_rfl))
 f299:=Tryz.func112.trans (congrArg some (by kernel_rfl))
 f300:=Tryz.func114.trans (congrArg some (by kernel_rfl))
 f301:=Tryz.func115.trans (congrArg some (by kernel_rfl))
 f328:=Tryz.func127.trans (congrArg some (by kernel_rfl))
 f329:=Tryz.func128.trans (congrArg some (by kernel_rfl))
 f330:=Tryz.func129.trans (congrArg some (by kernel_rfl))
 f331:=Tryz.func130.trans (congrArg some (by kernel_rfl))
 f332:=Tryz.func131.trans (congrArg some (by kernel_rfl))
 f343:=Tryz.func135.trans (congrArg some (by kernel_rfl))
 t0:=Tryz.underlying0
 a0:=Tryz.isAgg0
 z0:=Tryz.sizeOf0
 v0:=Tryz.zeroValue0
 t3:=Tryz.underlying3
 a3:=Tryz.isAgg3
 z3:=Tryz.sizeOf3
 v3:=Tryz.zeroValue3
 t4:=Tryz.underlying4
 a4:=Tryz.isAgg4
 z4:=Tryz.sizeOf4
 v4:=Tryz.zeroValue4
 t5:=Tryz.underlying5
 a5:=Tryz.isAgg5
 z5:=Tryz.sizeOf5
 v5:=Tryz.zeroValue5
 t9:=Tryz.underlying9
 a9:=Tryz.isAgg9
 z9:=Tryz.sizeOf9
 v9:=Tryz.zeroValue9
 t28:=Tryz.underlying38
 a28:=Tryz.isAgg38
 z28:=Tryz.sizeOf38
 v28:=Tryz.zeroValue38
 t46:=Tryz.underlying139
 a46:=Tryz.isAgg139
 z46:=Tryz.sizeOf139
 v46:=Tryz.zeroValue139
 t51:=Tryz.underlying161
 a51:=Tryz.isAgg161
 z51:=Tryz.sizeOf161
 v51:=Tryz.zeroValue161
 t53:=Tryz.underlying163
 a53:=Tryz.isAgg163
 z53:=Tryz.sizeOf163
 v53:=Tryz.zeroValue163
 t131:=Tryz.underlying158
 a131:=Tryz.isAgg158
 z131:=Tryz.sizeOf158
 v131:=Tryz.zeroValue158
 t182:=Tryz.underlying153
 a182:=Tryz.isAgg153
 z182:=Tryz.sizeOf153
 v182:=Tryz.zeroValue153
 t183:=Tryz.underlying154
 a183:=Tryz.isAgg154
 z183:=Tryz.sizeOf154
 v183:=Tryz.zeroValue154
 t218:=Tryz.underlying176
 a218:=Tryz.isAgg176
 z218:=Tryz.sizeOf176
 v218:=Tryz.zeroValue176
 t222:=Tryz.underlying180
 a222:=Tryz.isAgg180
 z222:=Tryz.sizeOf180
 v222:=Tryz.zeroValue180
 t228:=Tryz.underlying183
 a228:=Tryz.isAgg183
 z228:=Tryz.sizeOf183
 v228:=Tryz.zeroValue183
 t229:=Tryz.underlying184
 a229:=Tryz.isAgg184
 z229:=Tryz.sizeOf184
 v229:=Tryz.zeroValue184
theorem Wd.holds {S : Nat→Prop} {w0 w : World} {H : List Ent} (hW : Wd S w0 H w) {k b o n c e : Nat} {l : List Int} (hk : H[k]? = some (Ent.vec (some ⟨b,o,none⟩) n c e 1 (l.map (.int .i64)))) : Go.Sort.Holds (Value.int .i64) w b o l.toArray∧b < w.heap.size:=by
 obtain ⟨_,_,_,pre,sp,rfl,_,hb⟩:=hW.vecAt hk
 refine ⟨fun j hj=>⟨?_,by simp [World.frozen?,hb]⟩,(Array.getElem?_eq_some_iff.1 hb).1⟩
 have hj' : j < l.length:=by simpa using hj
 refine hW.vecCell hk ?_
 rw [List.getElem?_map,List.getElem?_eq_getElem hj']
 simp [hj']
theorem sort_c (a : Option Addr) (c : Nat) (l : List Int) (hlen : l.length ≤ 100000) (w : World) (hw : Wd (fps [Ent.vec a l.length c 3 1 (l.map (.int .i64))]) w [Ent.vec a l.length c 3 1 (l.map (.int .i64))] w) :
  Ret Tryz.prog 69 [.slice a l.length c] w fun u w'=>∃ _ : Unit,u = .tuple #[]∧Wd (fps [Ent.vec a l.length c 3 1 (l.map (.int .i64))]) w [Ent.vec a l.length c 3 1 ((sorted l).map (.int .i64))] w'∧True:=by
 rcases (hw.get (k:=0) rfl).2 with ⟨rfl,h0,rfl⟩|⟨b,pre,sp,rfl,_⟩
 ·have hl : l = []:=List.eq_nil_of_length_eq_zero h0
  subst hl
  refine callsIn_wide.2 ((Go.Proofs.Any.slices_Sort_int_none sortLays none 0 w).mono fun e w' ⟨he,hw'⟩=>⟨_,he,(),rfl,?_,trivial⟩)
  rw [hw',show sorted [] = [] by simp [sorted]]
  exact hw
 ·obtain ⟨h1,h2⟩:=hw.holds (k:=0) rfl
  refine callsIn_wide.2 ((Go.Proofs.Any.slices_Sort_int sortLays b pre.length c l w h1 h2 (by omega)).mono fun e w' ⟨he,m,os,hw'⟩=>⟨_,he,(),rfl,?_,trivial⟩)
  rw [hw']
  have:=hw.sorted (k:=0) (m:=m) (os:=os) (l':=sorted l) rfl (sorted_len l)
  simpa [sorted] using this
end Go.Proofs.YtdbljcahlpkgdaaGreatDoor
namespace Go.Proofs.YtdbljcahlpkgdaaGreatDoor
open Go Go.RowKit
attribute [local irreducible] wpListIn Code.wpIn Exit.then Exit.inBlock bodyPost wpQuiet wpAnyIn wpAnyH bodyPostM
set_option maxHeartbeats 4000000
theorem values_c (v : Value) (hv : ∃ a n c,v = .slice a n c) (w0 : World) : Ret Tryz.prog 94 [v] w0 fun u w'=>∃ p : Nat,u = .func (.func 106) #[] #[.pointer (some ⟨p,0,none⟩)]∧Wd NoS w0 [Ent.box p [v] 38] w'∧True:=by
 obtain ⟨a,n,c,rfl⟩:=hv
 refine ret_enter Tryz.func94 rfl Tryz.ntmps94 rfl (Wd.nil NoS w0) ?_
 repeat (first|refine g_op rfl ?_|refine g_then ?_|refine g_nil ?_|refine g_region ?_|refine g_seq ?_|refine g_opS rfl ?_|refine g_box rfl fun _ _=>?_|refine g_ret ?_)
 exact g_ret1 rfl fun w hw=>⟨_,rfl,hw,trivial⟩
theorem valuesStops {α : Type} (enc : α→Int) {K : Nat→Prop} {w0 w : World} {Bs n c : Nat} {a : Option Addr} {zs : List Int} {xs : List α} (hsl : SlAt w0 (.slice a n c) 1 zs IntV) (hlen : zs.length ≤ 100000) (hK : ∀ b,b < w0.heap.size→K b) (hw : Chg NoS w0 w)
  (hB : CellsAt w0 Bs 0 [.slice a n c]) (hxs : xs.map enc = zs) :
  SeqStopsK (FW none) 4 Tryz.prog 106 #[.pointer (some ⟨Bs,0,none⟩)] (fun x=>#[.int .i64 (enc x)]) (KeepB K) (fun ys=>ys = xs) (fun pre=>pre <+: xs) xs.length w:=by
 intro l J Jx W hW hJ hJx hY h0
 have hz : ∀ p v,w0.cell? p = some v→W.cell? p = some v:=fun p v hp=>by
  have h3:=cell_keep hw hp
  exact (hW.cell (World.block_lt_of_cell? w _ h3)).trans h3
 have hxl : xs.length = zs.length:=by have:=congrArg List.length hxs; rwa [List.length_map] at this
 have hn : n = zs.length:=hsl.at.1
 have keepW : ∀ w,(∀ p v,w0.cell? p = some v→w.cell? p = some v)→∀ w',KeepB K w w'→∀ p v,w0.cell? p = some v→w'.cell? p = some v:=fun w h w' hk p v hp=>(hk.cell (hK _ (World.block_lt_of_cell? w0 p hp))).trans (h p v hp)
 have hBi : CellsIs W Bs 0 _:=⟨fun j v hj=>hz _ _ (hB j v hj)⟩
 refine callsIn_deep (m:=0) (CallsIn.mono (R:=fun e w'=>∃ v,e = .returned v∧((∃ ys,ys = xs∧J ys w') ∨ (∃ pre,pre <+: xs∧Jx pre w'))) ?_ fun e w' ⟨v,he,hh⟩=>⟨⟨v,he⟩,hh⟩)
 show Ret Tryz.prog 106 [.func (.yield l) #[] #[],.pointer (some ⟨Bs,0,none⟩)] W fun _ W'=>(∃ ys,ys = xs∧J ys W') ∨ (∃ pre,pre <+: xs∧Jx pre W')
 refine ret_enter Tryz.func106 rfl Tryz.ntmps106 rfl (Wd.nil NoS W) ?_
 repeat (first|refine g_op rfl ?_|refine g_then ?_|refine g_nil ?_|refine g_region ?_|refine g_seq ?_|refine g_block ?_)
 intro a1 w1 hS1
 have hJ1:=jchg hJ hS1.wd.chg h0
 have hz1:=fun p v h=>cell_keep hS1.wd.chg (hz p v h)
 have hF1:=hS1.fr
 refine c_loop (fun (i : Nat) a' w=>i ≤ n∧Fr 16 [] [(7,.int .i64 (i : Int)),(5,.slice a n c),(6,.int .i64 n),(0,.func (.yield l) #[] #[])] a'∧J (xs.take i) w∧∀ p v,w0.cell? p = some v→w.cell? p = some v) (fun i=>n - i) 0 ⟨Nat.zero_le _,hF1.to (by repeat (first|exact trivial|refine ⟨rfl,?_⟩)),by simpa using hJ1,hz1⟩ ?_
 rintro i a' w2 ⟨hi,hF,hJi,hzi⟩
 refine rebase hF ?_
 repeat (first|refine g_op rfl ?_|refine g_then ?_|refine g_nil ?_|refine g_region ?_|refine g_seq ?_)
 refine g_cond (fun h1=>?_) (fun h1=>?_)
 ·have hlt : i < n:=by simpa using h1
  obtain ⟨x,hx⟩ : ∃ x,xs[i]? = some x:=⟨_,List.getElem?_eq_getElem (by omega)⟩
  have hzx : zs[i]? = some (enc x):=by rw [← hxs,List.getElem?_map,hx]; rfl
  have hsl2 : SlAt w2 (.slice a n c) 1 zs IntV:=SlAt.mono (w:=w0) (w':=w2) (V:=IntV) (fun _ _ h=>h) hzi hsl
  obtain ⟨_,_,_,vb,vo,hva,hvel⟩:=hsl2.at
  have had : AddrIs a vb vo:=⟨hva (ne_of_get hzx)⟩
  have hli : LtIs i n:=⟨hlt⟩
  obtain ⟨cs,hcs,rfl,_⟩:=hvel i _ hzx
  have hci : CellsIs w2 vb (vo + i * 1) _:=⟨hcs⟩
  have htk : xs.take i++[x] = xs.take (i + 1):=by rw [List.take_add_one,hx]; rfl
  repeat (first|refine g_op rfl ?_|refine g_then ?_|refine g_nil ?_|refine g_region ?_|refine g_seq ?_|refine g_block ?_|refine g_skip ?_)
  refine g_yield (m:=3) (fun w v w'=>(v = .bool true∧J (xs.take (i + 1)) w'∧KeepB K w w') ∨ (v = .bool false∧Jx (xs.take (i + 1)) w')) rfl (fun w3 hw=>?_) fun v w3 w' hw hR a hF=>?_
  ·have:=hY (xs.take i) x w3 (jchg hJ hw.chg hJi) (by rw [List.length_take]; omega)
   rw [htk] at this
   exact this.mono fun e W' h=>h.elim (fun ⟨h1,h2,h3⟩=>⟨_,h1,.inl ⟨rfl,h2,h3⟩⟩) fun ⟨h1,h2⟩=>⟨_,h1,.inr ⟨rfl,h2⟩⟩
  rcases hR with ⟨rfl,hJ',hk⟩|⟨rfl,hJ'⟩
  ·have hz':=keepW w3 (fun p v h=>cell_keep hw.chg (hzi p v h)) w' hk
   refine rebase hF ?_
   repeat (first|refine g_op rfl ?_|refine g_then ?_|refine g_nil ?_|refine g_region ?_|refine g_opS rfl ?_|refine g_inBlock ?_|refine g_skip ?_|refine g_condF ?_|refine g_add rfl (by omega) (by omega) ?_)
   exact fun a w3 hS=>⟨i + 1,⟨hlt,hS.fr.to (by repeat (first|exact trivial|refine ⟨rfl,?_⟩)),jchg hJ hS.wd.chg hJ',fun p v h=>cell_keep hS.wd.chg (hz' p v h)⟩,by omega⟩
  ·refine rebase hF ?_
   repeat (first|refine g_op rfl ?_|refine g_then ?_|refine g_nil ?_|refine g_condT ?_|refine g_ret ?_|refine g_thenRet ?_|refine g_blockRet ?_)
   exact g_ret0 rfl fun w3 hw3=>.inr ⟨_,List.take_prefix _ _,jchg hJx hw3.chg hJ'⟩
 ·have hge : i = n:=by have:=h1; simp at this; omega
  repeat (first|refine g_exit ?_|refine g_thenExit ?_|refine g_exitHere ?_)
  refine g_end0 rfl fun w3 hw3=>.inl ⟨xs,rfl,?_⟩
  rw [List.take_of_length_le (by omega)] at hJi
  exact jchg hJ hw3.chg hJi
theorem appendSeq_c {Bs n c : Nat} {a : Option Addr} (zs : List Int) (hlen : zs.length ≤ 100000) (w0 : World) (hsl : SlAt w0 (.slice a n c) 1 zs IntV) (hB : CellsAt w0 Bs 0 [.slice a n c]) :
  Ret Tryz.prog 126 [.slice none 0 0,(Value.func (.func 106) #[] #[.pointer (some ⟨Bs,0,none⟩)])] w0 fun u w'=>∃ x : Option Addr × Nat,u = .slice x.1 zs.length x.2∧Wd NoS w0 [Ent.vec x.1 zs.length x.2 3 1 (zs.map (.int .i64))] w'∧True:=by
 refine ret_enterM Tryz.func126 rfl Tryz.ntmps126 rfl (Wd.nil NoS w0) ?_
 repeat (first|refine g_op rfl ?_|refine g_then ?_|refine g_nil ?_|refine g_region ?_|refine g_seq ?_|refine g_box rfl fun _ _=>?_|refine g_block ?_)
 rename_i p2 _
 refine g_nilVec 3 1 ?_
 refine g_fix (L':=[(6,(Value.func (.func 106) #[] #[.pointer (some ⟨Bs,0,none⟩)])),(2,.pointer (some ⟨p2,0,none⟩))]) (by repeat (first|exact trivial|refine ⟨rfl,?_⟩)) (.refl _) ?_
 refine g_sel [1,0] (by decide) ?_
 refine g_rangeO (α:=Int) (gf:=106) (lb:=[.pointer (some ⟨Bs,0,none⟩)]) [] (fun s : List Int × Option Addr × Nat=>[Ent.box p2 [.slice s.2.1 s.1.length s.2.2] 38,Ent.vec s.2.1 s.1.length s.2.2 3 1 (s.1.map (.int .i64))])
  (fun s=>⟨by intro e he; simp only [List.mem_cons,List.not_mem_nil,or_false] at he; rcases he with rfl|rfl <;> infer_instance⟩) zs (encs:=fun x=>#[.int .i64 x])
  (fun w hw=>valuesStops (fun x=>x) hsl hlen (fun b hb=>⟨hb,fun h=>h⟩) hw.chg hB (by simp))
  (fun pre s=>s.1 = pre) ([],none,0) rfl (.refl _) (fun _=>rfl)
  (fun x=>[(7,.int .i64 x),(2,.pointer (some ⟨p2,0,none⟩))]) (fun x=>[(5,.int .i64 x),(2,.pointer (some ⟨p2,0,none⟩))]) (fun x a h=>?_) (fun l x s R=>?_) (fun l pre x s R hI hlt=>?_) fun D s hD hI=>?_
 ·have h2:=(h.to (L':=[(2,.pointer (some ⟨p2,0,none⟩))]) (by repeat (first|exact trivial|refine ⟨rfl,?_⟩))).putOk (d:=7) rfl (.int .i64 x)
  have e : (#[7].zip #[Value.int .i64 x]).foldl (fun (t : Array Value) (q : Tmp × Value)=>t.setIfInBounds q.1 q.2) a.tmps = a.tmps.setIfInBounds 7 (.int .i64 x):=by simp
  refine ⟨Eq.trans (congrArg Array.size e) h2.size,rfl,fun p hp=>?_⟩
  exact Eq.trans (congrArg (fun t : Array Value=>t[p.1]?) e) (h2.slot p hp)
 ·repeat (first|refine g_op rfl ?_|refine g_then ?_|refine g_nil ?_|refine g_region ?_)
  exact g_done (by repeat (first|exact trivial|refine ⟨rfl,?_⟩)) (.refl _)
 ·obtain ⟨s,sa,sc⟩:=s
  simp only at hI
  subst hI
  simp only [List.cons_append,List.nil_append]
  repeat (first|refine g_op rfl ?_|refine g_region ?_|refine g_block ?_|refine g_build1 rfl rfl fun _ _=>?_)
  rename_i bt _
  refine g_append rfl rfl (by omega) (by omega) fun a' c'=>?_
  rw [show s.map (Value.int .i64)++[.int .i64 x] = (s++[x]).map (Value.int .i64) by simp,show s.length + 1 = (s++[x]).length by simp]
  repeat (first|refine g_then ?_|refine g_nil ?_|refine g_store ?_|refine g_inBlock ?_)
  exact g_rnd (s++[x],a',c') rfl (.cons _ (.refl _))
 ·obtain ⟨s,sa,sc⟩:=s
  simp only at hI
  subst hI
  simp only [List.cons_append,List.nil_append]
  repeat (first|refine g_op rfl ?_|refine g_then ?_|refine g_nil ?_|refine g_region ?_|refine g_seq ?_|refine g_inBlock ?_|refine g_ret ?_)
  exact g_retM1 rfl hD fun w hw=>⟨(sa,sc),rfl,hw.sel [1] (by decide),trivial⟩
theorem collect_c {Bs n c : Nat} {a : Option Addr} (zs : List Int) (hlen : zs.length ≤ 100000) (w0 : World) (hsl : SlAt w0 (.slice a n c) 1 zs IntV) (hB : CellsAt w0 Bs 0 [.slice a n c]) :
  Ret Tryz.prog 105 [(Value.func (.func 106) #[] #[.pointer (some ⟨Bs,0,none⟩)])] w0 fun u w'=>∃ x : Option Addr × Nat,u = .slice x.1 zs.length x.2∧Wd NoS w0 [Ent.vec x.1 zs.length x.2 3 1 (zs.map (.int .i64))] w'∧True:=by
 refine ret_enter Tryz.func105 rfl Tryz.ntmps105 rfl (Wd.nil NoS w0) ?_
 repeat (first|refine g_op rfl ?_|refine g_then ?_|refine g_nil ?_|refine g_region ?_|refine g_seq ?_)
 refine g_callE (val:=fun x : Option Addr × Nat=>.slice x.1 zs.length x.2) (E:=fun x=>[Ent.vec x.1 zs.length x.2 3 1 (zs.map (.int .i64))]) (φ:=fun _=>True) rfl (fun w hw=>appendSeq_c zs hlen w (hsl.keep keeps_int hw.chg) (hB.keep hw.chg)) fun x _=>?_
 obtain ⟨xa,xc⟩:=x
 simp only [List.cons_append,List.nil_append]
 repeat (first|refine g_then ?_|refine g_nil ?_|refine g_opS rfl ?_|refine g_ret ?_)
 exact g_ret1 rfl fun w hw=>⟨(xa,xc),rfl,hw,trivial⟩
theorem sortedOf_c {Bs n c : Nat} {a : Option Addr} (zs : List Int) (hlen : zs.length ≤ 100000) (w0 : World) (hsl : SlAt w0 (.slice a n c) 1 zs IntV) (hB : CellsAt w0 Bs 0 [.slice a n c]) :
  Ret Tryz.prog 93 [(Value.func (.func 106) #[] #[.pointer (some ⟨Bs,0,none⟩)])] w0 fun u w'=>∃ x : Option Addr × Nat,u = .slice x.1 zs.length x.2∧Wd NoS w0 [Ent.vec x.1 zs.length x.2 3 1 ((sorted zs).map (.int .i64))] w'∧True:=by
 refine ret_enter Tryz.func93 rfl Tryz.ntmps93 rfl (Wd.nil NoS w0) ?_
 repeat (first|refine g_op rfl ?_|refine g_then ?_|refine g_nil ?_|refine g_region ?_|refine g_seq ?_)
 refine g_callE (val:=fun x : Option Addr × Nat=>.slice x.1 zs.length x.2) (E:=fun x=>[Ent.vec x.1 zs.length x.2 3 1 (zs.map (.int .i64))]) (φ:=fun _=>True) rfl (fun w hw=>collect_c zs hlen w (hsl.keep keeps_int hw.chg) (hB.keep hw.chg)) fun x _=>?_
 obtain ⟨xa,xc⟩:=x
 simp only [List.cons_append,List.nil_append]
 repeat (first|refine g_op rfl ?_|refine g_then ?_|refine g_nil ?_|refine g_region ?_|refine g_seq ?_)
 refine g_callS (H1:=[Ent.vec xa zs.length xc 3 1 (zs.map (.int .i64))]) (H2:=[]) (val:=fun _ : Unit=>.tuple #[]) (E:=fun _=>[Ent.vec xa zs.length xc 3 1 ((sorted zs).map (.int .i64))]) (φ:=fun _=>True) rfl (fun w hw=>sort_c xa xc zs hlen w hw.pre) fun _ _=>?_
 simp only [List.cons_append,List.nil_append]
 repeat (first|refine g_op rfl ?_|refine g_then ?_|refine g_nil ?_|refine g_region ?_|refine g_seq ?_|refine g_opS rfl ?_|refine g_ret ?_)
 exact g_ret1 rfl fun w hw=>⟨(xa,xc),rfl,hw,trivial⟩
def placeIn (l : List Nat) (i b : Nat) : Int:=if b ∈ l.take i then (l.idxOf b : Int) else -1
theorem placeIn_step {l : List Nat} (hn : l.Nodup) {i b n : Nat} (h : l[i]? = some b) (_hb : b < n) : (((List.range n).map (placeIn l i)).set b (i : Int)) = (List.range n).map (placeIn l (i + 1)):=by
 apply List.ext_getElem?
 intro j
 rw [List.getElem?_set]
 have htk : l.take (i + 1) = l.take i++[b]:=by rw [List.take_add_one,h]; rfl
 by_cases hj : j < n
 ·rw [List.getElem?_map,List.getElem?_map,List.getElem?_range hj]
  simp only [Option.map_some,List.length_map,List.length_range]
  by_cases e : b = j
  ·subst e
   rw [if_pos rfl,if_pos hj]
   unfold placeIn
   rw [htk,if_pos (by simp),show l.idxOf b = i from rk_get hn h]
  ·rw [if_neg e]
   unfold placeIn
   rw [htk]
   have : j ∈ l.take i++[b] ↔ j ∈ l.take i:=by simp [Ne.symm e]
   simp only [this]
 ·rw [if_neg (by omega),List.getElem?_eq_none (by simp; omega),List.getElem?_eq_none (by simp; omega)]
theorem places_c (n : Nat) (hpos : 0 < n) (hn : n ≤ 1000) (l : List Nat) (hnd : l.Nodup) (hlt : ∀ x ∈ l,x < n) (a : Option Addr) (c m : Nat) (w0 : World) (hl : SlAt w0 (.slice a m c) 1 (l.map fun x : Nat=>(x : Int)) IntV) :
  Ret Tryz.prog 92 [.int .i64 n,.slice a m c] w0 fun u w'=>∃ p : Nat,u = .slice (some ⟨p,0,none⟩) n n∧Wd NoS w0 [Ent.vec (some ⟨p,0,none⟩) n n 3 1 (((List.range n).map (placeIn l l.length)).map (.int .i64))] w'∧True:=by
 obtain ⟨hml,hmc,hmb,lb,lo,hla,hlel⟩:=hl.at
 rw [List.length_map] at hml
 refine ret_enter Tryz.func92 rfl Tryz.ntmps92 rfl (Wd.nil NoS w0) ?_
 repeat (first|refine g_op rfl ?_|refine g_then ?_|refine g_nil ?_|refine g_region ?_|refine g_seq ?_|refine g_build1 rfl rfl fun _ _=>?_)
 rename_i pb _
 refine g_callE (val:=fun a : Nat=>.slice (some ⟨a,0,none⟩) n n) (E:=fun a=>[Ent.vec (some ⟨a,0,none⟩) n n 3 1 (List.replicate n (.int .i64 (-1)))]) (φ:=fun _=>True) rfl (fun w hw=>repeat_c pb 0 n (-1) w (by have:=hw.vecCell (k:=0) (j:=0) rfl rfl; simpa using this) hpos hn) fun p _=>?_
 simp only [List.cons_append,List.nil_append]
 repeat (first|refine g_op rfl ?_|refine g_then ?_|refine g_nil ?_|refine g_region ?_|refine g_seq ?_|refine g_block ?_)
 refine g_loop (fun (i : Nat)=>i ≤ m) (fun i=>[(13,.int .i64 i),(11,.slice a m c),(12,.int .i64 m),(5,.slice (some ⟨p,0,none⟩) n n)]) (fun i=>[Ent.vec (some ⟨p,0,none⟩) n n 3 1 (((List.range n).map (placeIn l i)).map (.int .i64))]) (fun i=>m - i) 0 (Nat.zero_le _) ?_ fun i hi=>?_
 ·have e0 : List.replicate n (Value.int .i64 (-1)) = ((List.range n).map (placeIn l 0)).map (.int .i64):=by
   rw [List.map_map]
   apply List.ext_getElem?
   intro j
   rw [List.getElem?_replicate,List.getElem?_map]
   by_cases hj : j < n
   ·rw [if_pos hj,List.getElem?_range hj]; simp [placeIn]
   ·rw [if_neg hj,List.getElem?_eq_none (by simp; omega)]; rfl
  rw [e0]
  exact g_done (by repeat (first|exact trivial|refine ⟨rfl,?_⟩)) (.cons_cons _ (by simp))
 repeat (first|refine g_op rfl ?_|refine g_then ?_|refine g_nil ?_|refine g_region ?_|refine g_seq ?_)
 refine g_cond (fun h1=>?_) (fun h1=>?_)
 ·have hlt1 : i < m:=by simpa using h1
  obtain ⟨b,hb⟩ : ∃ b,l[i]? = some b:=⟨_,List.getElem?_eq_getElem (by omega)⟩
  have hbn:=hlt b (List.mem_of_getElem? hb)
  have hli : LtIs i m:=⟨hlt1⟩
  obtain ⟨_,hcs,rfl,_⟩:=hlel i (b : Int) (by rw [List.getElem?_map,hb]; rfl)
  have had : AddrIs a lb lo:=⟨hla (fun e=>by rw [List.map_eq_nil_iff] at e; rw [e] at hb; cases hb)⟩
  have hci : CellsIs w0 lb (lo + i * 1) _:=⟨hcs⟩
  have hlb : LtIs b n:=⟨hbn⟩
  have hel : ElAt ((List.range n).map (placeIn l i)) b (placeIn l i b):=⟨by rw [List.getElem?_map,List.getElem?_range hbn]; rfl⟩
  repeat (first|refine g_op rfl ?_|refine g_then ?_|refine g_nil ?_|refine g_region ?_|refine g_seq ?_|refine g_opS rfl ?_|refine g_inBlock ?_|refine g_block ?_|refine g_skip ?_|refine g_add rfl (by omega) (by omega) ?_|refine g_storeV ?_)
  rw [placeIn_step hnd hb hbn]
  exact g_next (i + 1) hlt1 (by omega) (by repeat (first|exact trivial|refine ⟨rfl,?_⟩)) (.refl _)
 ·have hge : i = l.length:=by have:=h1; simp at this; omega
  subst hge
  repeat (first|refine g_op rfl ?_|refine g_then ?_|refine g_nil ?_|refine g_region ?_|refine g_seq ?_|refine g_exit ?_|refine g_thenExit ?_|refine g_exitHere ?_|refine g_ret ?_)
  exact g_ret1 rfl fun w hw=>⟨p,rfl,hw,trivial⟩
theorem placesL_eq (bl : List LBlock) : (List.range bl.length).map (placeIn (orderL bl) (orderL bl).length) = placesL bl:=by
 unfold placesL
 refine List.map_congr_left fun b _=>?_
 unfold placeIn placeL
 rw [List.take_length]; rfl
def pairC (p : Nat × Nat) : List Value:=[.int .i64 (p.1 : Int),.int .i64 (p.2 : Int)]
theorem pairC_len (p : Nat × Nat) : (pairC p).length = 2:=rfl
end Go.Proofs.YtdbljcahlpkgdaaGreatDoor
namespace Go.Proofs.YtdbljcahlpkgdaaGreatDoor
open Go Go.RowKit
section
variable {N : Nat} {ds : List Deferred} {S : Nat→Prop} {w0 : World} {L : List (Nat × Value)} {H : List Ent} {x y : Operand}
theorem built_pair (a b : Int) : Tryz.prog.built 97 [(0,.int .i64 a),(1,.int .i64 b)] = some #[.int .i64 a,.int .i64 b]:=by kernel_rfl
instance {a b : Int} [hx : Ev L x (.int .i64 a)] [hy : Ev L y (.int .i64 b)] : RunsC Tryz.prog N ds S w0 L H (.build 97 #[(0,x),(1,y)]) (.agg #[.int .i64 a,.int .i64 b]) :=
 ⟨fun _ h=>(by cases h),fun _ _ h=>(by cases h),fun _ _ _ _ _ ac w hF _=>by
  have h:=run_build (P:=Tryz.prog) w 97 #[(0,.int .i64 a),(1,.int .i64 b)] _ (built_pair a b)
  simp [execOp,hx.eq _ _ _ hF,hy.eq _ _ _ hF,h]⟩
end
end Go.Proofs.YtdbljcahlpkgdaaGreatDoor
namespace Go.Proofs.YtdbljcahlpkgdaaGreatDoor
open Go Go.RowKit
attribute [local irreducible] wpListIn Code.wpIn Exit.then Exit.inBlock bodyPost wpQuiet wpAnyIn wpAnyH bodyPostM
set_option maxHeartbeats 8000000
theorem backOf_c (nm pa re : Value) (bl : List LBlock) (bs : Value) (hbsl : ∃ a n c,bs = .slice a n c) (w0 : World) (hbs : SlAt w0 bs 6 bl BlockV) (hlen : bl.length ≤ 100) (hok : GoodB bl) (hto : ∀ (b : Nat) (B : LBlock),bl[b]? = some B→B.to.Nodup) (hpos : 0 < bl.length) :
  Ret Tryz.prog 66 [.agg #[nm,pa,re,bs]] w0 fun u w'=>∃ x : Option Addr × Nat,u = .slice x.1 (backL bl).length x.2∧Wd NoS w0 [Ent.vec x.1 (backL bl).length x.2 97 2 ((backL bl).flatMap pairC)] w'∧True:=by
 classical
 obtain ⟨ba,n,bc,rfl⟩:=hbsl
 obtain ⟨hn,hnc,hnb,bb,bo,hba,hel⟩:=hbs.at
 have hl:=postL_len hpos
 have ho:=orderL_ord hok hpos
 refine ret_enter Tryz.func66 rfl Tryz.ntmps66 rfl (Wd.nil NoS w0) ?_
 repeat (first|refine g_op rfl ?_|refine g_then ?_|refine g_nil ?_|refine g_region ?_|refine g_seq ?_|refine g_box rfl fun _ _=>?_)
 rename_i p1 _
 refine g_drawH [Ent.box p1 [nm,pa,re,.slice ba n bc] 35] mixed (.refl _) ?_
 refine h_take 0 rfl (by decide +kernel) (.refl _) ?_
 refine h_take 1 rfl (by decide +kernel) (.refl _) ?_
 refine h_take 2 rfl (by decide +kernel) (.refl _) ?_
 refine h_take 3 rfl (by decide +kernel) (.refl _) ?_
 refine h_callE 4 (val:=fun x : Option Addr × Nat=>.slice x.1 (postL bl).length x.2) (E:=fun x=>[Ent.vec x.1 (postL bl).length x.2 3 1 ((postL bl).reverse.map intN)]) (φ:=fun _=>True) rfl (by decide +kernel) (.refl _) (fun w hw=>orderOf_c _ _ _ bl _ ⟨_,_,_,rfl⟩ w (hbs.keep keeps_block hw.chg) hlen hok hpos) fun x _=>?_
 obtain ⟨xa,xc⟩:=x
 simp only [List.cons_append,List.nil_append]
 refine h_callE 5 (val:=fun p : Nat=>.slice (some ⟨p,0,none⟩) n n) (E:=fun p=>[Ent.vec (some ⟨p,0,none⟩) n n 3 1 ((placesL bl).map (.int .i64))]) (φ:=fun _=>True) rfl (by decide +kernel) (.cons _ (.refl _)) (fun w hw=>?_) fun p _=>?_
 ·rw [hn]
  have:=places_c bl.length hpos (by omega) (orderL bl) ho.nodup (fun x hx=>hok.rch hpos ((ho.mem x).1 hx)) xa xc (postL bl).length w (ints_sl (l:=orderL bl) hw (k:=0) rfl (by unfold orderL; rw [List.length_reverse]) (by omega) fun x hx=>by have:=hok.rch hpos ((ho.mem x).1 hx); omega)
  rw [placesL_eq] at this
  exact this
 simp only [List.cons_append,List.nil_append]
 refine h_take 6 rfl (by decide +kernel) (.cons _ (.cons _ (.refl _))) ?_
 refine h_end (by decide +kernel) ?_
 repeat (first|refine g_op rfl ?_|refine g_then ?_|refine g_nil ?_|refine g_region ?_|refine g_seq ?_|refine g_block ?_)
 refine g_nilVec 97 2 ?_
 refine g_sel [0,1] (by decide) ?_
 refine g_loop (fun (x : Nat × Option Addr × Nat)=>x.1 ≤ n) (fun x=>[(19,.int .i64 x.1),(4,.slice x.2.1 (backTo bl x.1).length x.2.2),(17,.slice ba n bc),(18,.int .i64 n),(3,.slice (some ⟨p,0,none⟩) n n),(1,.pointer (some ⟨p1,0,none⟩))]) (fun x=>[Ent.vec x.2.1 (backTo bl x.1).length x.2.2 97 2 ((backTo bl x.1).flatMap pairC),Ent.vec (some ⟨p,0,none⟩) n n 3 1 ((placesL bl).map (.int .i64))]) (fun x=>n - x.1) (0,none,0) (Nat.zero_le _) (g_done (by repeat (first|exact trivial|refine ⟨rfl,?_⟩)) (.refl _)) fun x hi=>?_
 obtain ⟨b,la,lc⟩:=x
 simp only at hi ⊢
 have hbl:=backTo_len bl b
 have hbb : b * bl.length ≤ 100 * 100:=Nat.mul_le_mul (by omega) (by omega)
 repeat (first|refine g_op rfl ?_|refine g_then ?_|refine g_nil ?_|refine g_region ?_|refine g_seq ?_)
 refine g_cond (fun h1=>?_) (fun h1=>?_)
 ·have hlt : b < n:=by simpa using h1
  obtain ⟨B,hB⟩ : ∃ B,bl[b]? = some B:=⟨_,List.getElem?_eq_getElem (by omega)⟩
  have had : AddrIs ba bb bo:=⟨hba (ne_of_get hB)⟩
  have hlb : LtIs b n:=⟨hlt⟩
  obtain ⟨cs,hcs,pv,lv,tv,rfl,_,_,hpv,hlv,htv⟩:=hel b B hB
  have htv0:=htv
  obtain ⟨_,_,_,_,_,rfl,_⟩:=hpv
  obtain ⟨_,_,_,_,_,rfl,_⟩:=hlv
  obtain ⟨ta,tn,tc,_,_,rfl,_⟩:=htv0
  have htn:=htv.at.1
  have hci : CellsIs w0 bb (bo + b * 6) _:=⟨hcs⟩
  have hgB:=hok B (List.mem_of_getElem? hB)
  have htoOf:=toOf_get hB
  repeat (first|refine g_op rfl ?_|refine g_then ?_|refine g_nil ?_|refine g_region ?_|refine g_seq ?_|refine g_alloc rfl fun _ _=>?_|refine g_storeAgg ?_|refine g_block ?_|refine g_skip ?_)
  rename_i p6 _
  refine g_callE (val:=fun q : Nat=>.func (.func 106) #[] #[.pointer (some ⟨q,0,none⟩)]) (E:=fun q=>[Ent.box q [.slice ta tn tc] 38]) (φ:=fun _=>True) rfl (fun w hw=>values_c _ ⟨_,_,_,rfl⟩ w) fun q _=>?_
  simp only [List.cons_append,List.nil_append]
  skip
  refine g_callE (val:=fun x : Option Addr × Nat=>.slice x.1 B.to.length x.2) (E:=fun x=>[Ent.vec x.1 B.to.length x.2 3 1 ((sorted B.to).map (.int .i64))]) (φ:=fun _=>True) rfl (fun w hw=>sortedOf_c B.to (by omega) w (htv.keep keeps_int hw.chg) (hw.boxCells q)) fun x _=>?_
  obtain ⟨sa,sc⟩:=x
  simp only [List.cons_append,List.nil_append]
  repeat (first|refine g_op rfl ?_|refine g_then ?_|refine g_nil ?_|refine g_region ?_|refine g_seq ?_|refine g_block ?_)
  obtain ⟨S,hS⟩ : ∃ S : List Nat,S = (List.range bl.length).filter fun t : Nat=>decide ((t : Int) ∈ toOf bl b):=⟨_,rfl⟩
  have hsS : sorted B.to = S.map fun x : Nat=>(x : Int):=by
   rw [hS]
   refine sorted_filter (hto b B hB) fun x=>⟨fun hx=>?_,fun ⟨c,e,_,hc⟩=>?_⟩
   ·have:=hgB.2 x hx
    exact ⟨x.toNat,by omega,by omega,by rw [htoOf]; simpa [show ((x.toNat : Nat) : Int) = x by omega] using hx⟩
   ·rw [e]; rw [htoOf] at hc; simpa using hc
  have hSl : S.length = B.to.length:=by have:=congrArg List.length hsS; rw [List.length_map,sorted_len] at this; omega
  have hSlt : ∀ t ∈ S,t < bl.length∧Edge bl b t:=fun t ht=>by
   rw [hS] at ht
   have:=List.mem_filter.1 ht
   exact ⟨List.mem_range.1 this.1,by simpa [Edge] using this.2⟩
  rw [hsS]
  refine g_sel [0,3,4] (by decide) ?_
  refine g_permH (List.Perm.swap _ _ _) ?_
  refine g_loop (fun (x : Nat × List (Nat × Nat) × Option Addr × Nat)=>x.1 ≤ S.length∧x.2.1 = backTo bl b++((S.take x.1).filter fun t=>decide (BackE bl b t)).map fun t=>(b,t)) (fun x=>[(31,.int .i64 x.1),(4,.slice x.2.2.1 x.2.1.length x.2.2.2),(29,.slice sa B.to.length sc),(30,.int .i64 B.to.length),(5,.int .i64 b),(19,.int .i64 b),(17,.slice ba n bc),(18,.int .i64 n),(3,.slice (some ⟨p,0,none⟩) n n),(1,.pointer (some ⟨p1,0,none⟩))])
   (fun x=>[Ent.vec x.2.2.1 x.2.1.length x.2.2.2 97 2 (x.2.1.flatMap pairC),Ent.vec sa B.to.length sc 3 1 ((S.map fun x : Nat=>(x : Int)).map (.int .i64)),Ent.vec (some ⟨p,0,none⟩) n n 3 1 ((placesL bl).map (.int .i64))]) (fun x=>S.length - x.1) (0,backTo bl b,la,lc) ⟨Nat.zero_le _,by simp⟩ (g_done (by repeat (first|exact trivial|refine ⟨rfl,?_⟩)) (.refl _)) fun x ⟨hj,hL⟩=>?_
  obtain ⟨j,L,la1,lc1⟩:=x
  simp only at hj hL ⊢
  have hLl : L.length ≤ 10200:=by
   rw [hL,List.length_append,List.length_map]
   have h2:=List.length_filter_le (fun t=>decide (BackE bl b t)) (S.take j)
   rw [List.length_take] at h2
   omega
  repeat (first|refine g_op rfl ?_|refine g_then ?_|refine g_nil ?_|refine g_region ?_|refine g_seq ?_)
  refine g_cond (fun h2=>?_) (fun h2=>?_)
  ·have hjl : j < B.to.length:=by simpa using h2
   obtain ⟨t,ht⟩ : ∃ t,S[j]? = some t:=⟨_,List.getElem?_eq_getElem (by omega)⟩
   obtain ⟨htl,hte⟩:=hSlt t (List.mem_of_getElem? ht)
   have hbk:=placeL_back hok hpos hte
   have htk : S.take (j + 1) = S.take j++[t]:=by rw [List.take_add_one,ht]; rfl
   have hlj : LtIs j B.to.length:=⟨hjl⟩
   refine g_vec 1 rfl (by omega) fun sb so hsa=>?_
   subst hsa
   have he1 : ElAt (S.map fun x : Nat=>(x : Int)) j (t : Int):=⟨by rw [List.getElem?_map,ht]; rfl⟩
   have he2 : ElAt (placesL bl) b (placeL bl b):=⟨by unfold placesL; rw [List.getElem?_map,List.getElem?_range (by omega)]; rfl⟩
   have he3 : ElAt (placesL bl) t (placeL bl t):=⟨by unfold placesL; rw [List.getElem?_map,List.getElem?_range htl]; rfl⟩
   have hlt2 : LtIs t n:=⟨by omega⟩
   have hskip : ¬ BackE bl b t→L = backTo bl b++((S.take (j + 1)).filter fun t=>decide (BackE bl b t)).map fun t=>(b,t):=fun hno=>by
    rw [htk,List.filter_append,List.map_append,hL]
    simp [hno]
   repeat (first|refine g_op rfl ?_|refine g_then ?_|refine g_nil ?_|refine g_region ?_|refine g_seq ?_|refine g_block ?_|refine g_skip ?_)
   refine g_draw mixed (by kernel_rfl) ?_
   repeat (refine q_op rfl ?_)
   generalize hd1 : decide (0 ≤ placeL bl b) = d1
   cases d1
   ·repeat (first|refine q_op rfl ?_|refine q_pass rfl ?_|refine q_nil ?_)
    have hno : ¬ BackE bl b t:=fun h=>by have:=(hbk.2 h).1; simp [this] at hd1
    repeat (first|refine g_then ?_|refine g_nil ?_|refine g_region ?_|refine g_opS rfl ?_|refine g_inBlock ?_|refine g_skip ?_|refine g_condF ?_|refine g_add rfl (by omega) (by omega) ?_)
    exact g_next (j + 1,L,la1,lc1) ⟨by simp only; omega,hskip hno⟩ (by simp only; omega) (by repeat (first|exact trivial|refine ⟨rfl,?_⟩)) (.refl _)
   ·repeat (first|refine q_op rfl ?_|refine q_open ?_|refine q_nil ?_)
    have hp0 : 0 ≤ placeL bl b:=by simpa using hd1
    repeat (refine g_then ?_)
    refine g_cond (fun h3=>?_) (fun h3=>?_)
    ·have hyes : BackE bl b t:=hbk.1 ⟨hp0,by simpa using h3⟩
     repeat (first|refine g_op rfl ?_|refine g_region ?_|refine g_build1 rfl rfl fun _ _=>?_)
     rename_i bt _
     refine g_append rfl rfl (by omega) (by omega) fun a' c'=>?_
     rw [show L.flatMap pairC++[.int .i64 (b : Int),.int .i64 (t : Int)] = (L++[(b,t)]).flatMap pairC by simp [pairC],show L.length + 1 = (L++[(b,t)]).length by simp]
     repeat (first|refine g_then ?_|refine g_nil ?_|refine g_region ?_|refine g_opS rfl ?_|refine g_inBlock ?_|refine g_add rfl (by omega) (by omega) ?_)
     refine g_next (j + 1,L++[(b,t)],a',c') ⟨by simp only; omega,?_⟩ (by simp only; omega) (by repeat (first|exact trivial|refine ⟨rfl,?_⟩)) (.cons _ (.refl _))
     simp only
     rw [htk,List.filter_append,List.map_append,hL]
     simp [hyes]
    ·have hno : ¬ BackE bl b t:=fun h=>by have:=(hbk.2 h).2; simp [this] at h3
     repeat (first|refine g_then ?_|refine g_nil ?_|refine g_region ?_|refine g_opS rfl ?_|refine g_inBlock ?_|refine g_skip ?_|refine g_add rfl (by omega) (by omega) ?_)
     exact g_next (j + 1,L,la1,lc1) ⟨by simp only; omega,hskip hno⟩ (by simp only; omega) (by repeat (first|exact trivial|refine ⟨rfl,?_⟩)) (.refl _)
  ·have hge : j = S.length:=by have:=h2; simp at this; omega
   repeat (first|refine g_then ?_|refine g_nil ?_|refine g_region ?_|refine g_opS rfl ?_|refine g_inBlock ?_|refine g_add rfl (by omega) (by omega) ?_|refine g_exit ?_|refine g_thenExit ?_|refine g_exitHere ?_)
   rw [hge,List.take_length,hS,backRow_of hok,← backTo_succ] at hL
   subst hL
   exact g_next (b + 1,la1,lc1) (by simp only; omega) (by simp only; omega) (by repeat (first|exact trivial|refine ⟨rfl,?_⟩)) (.cons_cons _ (.cons _ (.refl _)))
 ·have hge : b = bl.length:=by have:=h1; simp at this; omega
  repeat (first|refine g_op rfl ?_|refine g_then ?_|refine g_nil ?_|refine g_region ?_|refine g_seq ?_|refine g_exit ?_|refine g_thenExit ?_|refine g_exitHere ?_|refine g_ret ?_)
  exact g_ret1 rfl fun w hw=>⟨(la,lc),by rw [hge]; rfl,by rw [hge] at hw; exact hw.sel [0] (by decide),trivial⟩
end Go.Proofs.YtdbljcahlpkgdaaGreatDoor
namespace Go.Proofs.YtdbljcahlpkgdaaGreatDoor
open Go Go.RowKit
attribute [local irreducible] wpListIn Code.wpIn Exit.then Exit.inBlock bodyPost wpQuiet wpAnyIn
set_option maxHeartbeats 4000000
theorem g_know {N : Nat} {ds : List Deferred} {S : Nat→Prop} {w0 : World} {L : List (Nat × Value)} {H : List Ent} {p : Act→World→Prop} (k : Nat) {e : Ent} (hk : H[k]? = some e) {φ : Prop} (hφ : ∀ w,e.ok w→φ) (h : φ→G N ds S w0 L H p) : G N ds S w0 L H p:=fun a w hS=>h (hφ w (hS.wd.get hk)) a w hS
end Go.Proofs.YtdbljcahlpkgdaaGreatDoor
namespace Go.Proofs.YtdbljcahlpkgdaaGreatDoor
open Go Go.RowKit
attribute [local irreducible] wpListIn Code.wpIn Exit.then Exit.inBlock bodyPost wpQuiet wpAnyIn wpAnyH bodyPostM
set_option maxHeartbeats 4000000
def PairV (_ : World) (p : Nat × Nat) (cs : List Value) : Prop:=cs = pairC p
theorem backL_len {bl : List LBlock} (hlen : bl.length ≤ 100) : (backL bl).length ≤ 10000:=by
 have:=backTo_len bl bl.length
 have h2 : bl.length * bl.length ≤ 100 * 100:=Nat.mul_le_mul hlen hlen
 unfold backL; omega
theorem backOfK (nm pa re : Value) (bl : List LBlock) (bs : Value) (hbsl : ∃ a n c,bs = .slice a n c) (w0 : World) (hbs : SlAt w0 bs 6 bl BlockV) (hlen : bl.length ≤ 100) (hok : GoodB bl) (hto : ∀ (b : Nat) (B : LBlock),bl[b]? = some B→B.to.Nodup) (hpos : 0 < bl.length) :
  RetK Tryz.prog 66 [.agg #[nm,pa,re,bs]] w0 2 (backL bl) PairV fun v=>v :=
 retK_of (backOf_c nm pa re bl bs hbsl w0 hbs hlen hok hto hpos) fun x _=>⟨x.1,x.2,rfl,fun w2 hw=>flat_sl hw (k:=0) rfl pairC_len (by have:=backL_len hlen; omega)⟩
theorem idx_le {x : Int} : ∀ {l : List Int} {i : Nat},l[i]? = some x→l.idxOf x ≤ i
 | [],i,h=>by simp at h
 | y::l,0,h=>by
  simp only [List.getElem?_cons_zero,Option.some.injEq] at h
  subst h
  simp
 | y::l,i + 1,h=>by
  rw [List.idxOf_cons]
  cases (y == x)
  ·have:=idx_le (l:=l) (i:=i) (by simpa using h)
   simpa using this
  ·simp
def placeI (l : List Int) (x : Int) : Int:=if x ∈ l then (l.idxOf x : Int) else -1
theorem placeI_c (v : Value) (l : List Int) (x : Int) (w0 : World) (hv : SlAt w0 v 1 l IntV) : RetV Tryz.prog 83 [v,.int .i64 x] w0 (.int .i64 (placeI l x)):=by
 obtain ⟨a,n,c,b,o,rfl,hn,hnc,hnb,hc,ha,hel⟩:=hv
 refine ret_enter Tryz.func83 rfl Tryz.ntmps83 rfl (Wd.nil NoS w0) ?_
 repeat (first|refine g_op rfl ?_|refine g_then ?_|refine g_nil ?_|refine g_region ?_|refine g_seq ?_|refine g_block ?_)
 refine g_loop (fun (i : Nat)=>i ≤ n∧∀ j y,j < i→l[j]? = some y→y ≠ x) (fun i=>[(5,.int .i64 i),(0,.slice a n c),(1,.int .i64 x)]) (fun _=>[]) (fun i=>n - i) 0 ⟨Nat.zero_le _,fun j y hj=>by omega⟩ (g_done (by repeat (first|exact trivial|refine ⟨rfl,?_⟩)) (by simp)) fun i ⟨hi,hall⟩=>?_
 repeat (first|refine g_op rfl ?_|refine g_then ?_|refine g_nil ?_|refine g_region ?_|refine g_seq ?_)
 refine g_cond (fun h1=>?_) (fun h1=>?_)
 ·have hlt : i < n:=by simpa using h1
  obtain ⟨t,ht⟩ : ∃ t,l[i]? = some t:=⟨_,List.getElem?_eq_getElem (by omega)⟩
  have had : AddrIs a b o:=⟨ha (ne_of_get ht)⟩
  have hli : LtIs i n:=⟨hlt⟩
  obtain ⟨cs,hcs,rfl,_⟩:=hel i _ ht
  have hci : CellsIs w0 b (o + i * 1) _:=⟨hcs⟩
  repeat (first|refine g_op rfl ?_|refine g_then ?_|refine g_nil ?_|refine g_region ?_|refine g_seq ?_|refine g_block ?_|refine g_skip ?_)
  refine g_cond (fun h2=>?_) (fun h2=>?_)
  ·have h5 : t = x:=by simpa using h2
   repeat (first|refine g_op rfl ?_|refine g_then ?_|refine g_nil ?_|refine g_region ?_|refine g_seq ?_|refine g_ret ?_|refine g_thenRet ?_|refine g_blockRet ?_)
   refine g_retV rfl ?_
   subst h5
   unfold placeI
   rw [if_pos (List.mem_of_getElem? ht)]
   congr 1
   have h3:=List.idxOf_lt_length_of_mem (List.mem_of_getElem? ht)
   have h4:=List.getElem_idxOf h3
   have : ¬ l.idxOf t < i:=fun hlt=>hall _ _ hlt (List.getElem?_eq_getElem h3) h4
   have h6:=idx_le ht
   omega
  ·have h5 : t ≠ x:=by simpa using h2
   repeat (first|refine g_op rfl ?_|refine g_then ?_|refine g_nil ?_|refine g_region ?_|refine g_opS rfl ?_|refine g_inBlock ?_|refine g_skip ?_|refine g_add rfl (by omega) (by omega) ?_)
   refine g_next (i + 1) ⟨hlt,fun j y hj hy=>?_⟩ (by omega) (by repeat (first|exact trivial|refine ⟨rfl,?_⟩)) (by simp)
   by_cases e : j = i
   ·subst e
    rw [ht] at hy
    exact fun e=>h5 (by rw [← e]; exact Option.some.inj hy)
   ·exact hall j y (by omega) hy
 ·have hge : i = n:=by have:=h1; simp at this; omega
  repeat (first|refine g_op rfl ?_|refine g_then ?_|refine g_nil ?_|refine g_region ?_|refine g_seq ?_|refine g_exit ?_|refine g_thenExit ?_|refine g_exitHere ?_|refine g_ret ?_)
  refine g_retV rfl ?_
  unfold placeI
  rw [if_neg fun h=>?_]
  obtain ⟨j,hj⟩:=List.getElem?_of_mem h
  exact absurd rfl (hall j x (by have:=(List.getElem?_eq_some_iff.1 hj).1; omega) hj)
theorem placeI_nat {l : List Nat} {x : Nat} : placeI (l.map fun x : Nat=>(x : Int)) (x : Int) = if x ∈ l then (l.idxOf x : Int) else -1:=by
 unfold placeI
 have e : ((x : Int) ∈ l.map fun x : Nat=>(x : Int)) ↔ x ∈ l:=mem_ints
 by_cases h : x ∈ l
 ·rw [if_pos h,if_pos (e.2 h)]
  congr 1
  have h1:=List.idxOf_lt_length_of_mem h
  have h2:=List.getElem_idxOf h1
  have h3:=idx_le (l:=l.map fun x : Nat=>(x : Int)) (x:=(x : Int)) (i:=l.idxOf x) (by rw [List.getElem?_map,List.getElem?_eq_getElem h1,h2]; rfl)
  have h4:=List.idxOf_lt_length_of_mem (e.2 h)
  have h5:=List.getElem_idxOf h4
  rw [List.getElem_map] at h5
  have h6 : l[(l.map fun x : Nat=>(x : Int)).idxOf (x : Int)]'(by simpa using h4) = x:=by omega
  have h7 : l.idxOf x ≤ (l.map fun x : Nat=>(x : Int)).idxOf (x : Int):=by
   have key : ∀ (m : List Nat) (i : Nat),m[i]? = some x→m.idxOf x ≤ i:=by
    intro m
    induction m with
    | nil=>intro i hi; simp at hi
    | cons y m ih =>
     intro i hi
     cases i with
     | zero=>simp at hi; subst hi; simp
     | succ i =>
      rw [List.idxOf_cons]
      cases (y == x)
      ·have:=ih i (by simpa using hi)
       simpa using this
      ·simp
   exact key l _ (List.getElem?_eq_some_iff.2 ⟨by simpa using h4,h6⟩)
  omega
 ·rw [if_neg h,if_neg (fun k=>h (e.1 k))]
theorem refBack_c (nm pa re : Value) (bl : List LBlock) (bs : Value) (hbsl : ∃ a n c,bs = .slice a n c) (w0 : World) (hbs : SlAt w0 bs 6 bl BlockV) (hlen : bl.length ≤ 100) (hok : GoodB bl) (hpos : 0 < bl.length) :
  Ret Tryz.prog 54 [.agg #[nm,pa,re,bs]] w0 fun u w'=>∃ x : Option Addr × Nat,u = .slice x.1 (backL bl).length x.2∧Wd NoS w0 [Ent.vec x.1 (backL bl).length x.2 97 2 ((backL bl).flatMap pairC)] w'∧True:=by
 classical
 obtain ⟨ba,n,bc,rfl⟩:=hbsl
 obtain ⟨hn,hnc,hnb,bb,bo,hba,hel⟩:=hbs.at
 have hl:=postL_len hpos
 have ho:=orderL_ord hok hpos
 have hin:=inIs (l:=(postL bl).reverse) fun y hy=>by have:=postL_lt hok hpos (List.mem_reverse.1 hy); omega
 refine ret_enter Tryz.func54 rfl Tryz.ntmps54 rfl (Wd.nil NoS w0) ?_
 repeat (first|refine g_op rfl ?_|refine g_then ?_|refine g_nil ?_|refine g_region ?_|refine g_seq ?_|refine g_box rfl fun _ _=>?_)
 rename_i p1 _
 refine g_callE (val:=fun x : Option Addr × Nat × (Nat→Prop)=>.slice x.1 (postL bl).length x.2.1) (E:=fun x=>[⟨x.2.2,fun w=>SlAt w (.slice x.1 (postL bl).length x.2.1) 1 ((orderL bl).map fun x : Nat=>(x : Int)) IntV⟩]) (φ:=fun _=>True) rfl (fun w hw =>
  (refOrder_c _ _ _ bl _ ⟨_,_,_,rfl⟩ w (hbs.keep keeps_block hw.chg) (by omega) hok hpos).mono fun v w' ⟨x,h1,h2,_⟩=>⟨(x.1,x.2,_),h1,Wd.ints (by rw [map_intN]; exact h2) (by unfold orderL; simp) (by omega) hin,trivial⟩) fun y _=>?_
 obtain ⟨oa,oc,op⟩:=y
 simp only [List.cons_append,List.nil_append]
 repeat (first|refine g_op rfl ?_|refine g_then ?_|refine g_nil ?_|refine g_region ?_|refine g_seq ?_|refine g_block ?_)
 refine g_nilVec 97 2 ?_
 refine g_loop (fun (x : Nat × Option Addr × Nat)=>x.1 ≤ n) (fun x=>[(5,.int .i64 x.1),(4,.slice x.2.1 (backTo bl x.1).length x.2.2),(3,.slice oa (postL bl).length oc),(1,.pointer (some ⟨p1,0,none⟩))]) (fun x=>[Ent.vec x.2.1 (backTo bl x.1).length x.2.2 97 2 ((backTo bl x.1).flatMap pairC),(⟨op,fun w=>SlAt w (.slice oa (postL bl).length oc) 1 ((orderL bl).map fun x : Nat=>(x : Int)) IntV⟩ : Ent),Ent.box p1 [nm,pa,re,.slice ba n bc] 35]) (fun x=>n - x.1) (0,none,0) (Nat.zero_le _) (g_done (by repeat (first|exact trivial|refine ⟨rfl,?_⟩)) (.refl _)) fun x hi=>?_
 obtain ⟨b,la,lc⟩:=x
 simp only at hi ⊢
 have hbl:=backTo_len bl b
 have hbb : b * bl.length ≤ 100 * 100:=Nat.mul_le_mul (by omega) (by omega)
 repeat (first|refine g_op rfl ?_|refine g_then ?_|refine g_nil ?_|refine g_region ?_|refine g_seq ?_)
 refine g_cond (fun h1=>?_) (fun h1=>?_)
 ·have hlt : b < n:=by simpa using h1
  obtain ⟨B,hB⟩ : ∃ B,bl[b]? = some B:=⟨_,List.getElem?_eq_getElem (by omega)⟩
  have had : AddrIs ba bb bo:=⟨hba (ne_of_get hB)⟩
  have hlb : LtIs b n:=⟨hlt⟩
  obtain ⟨cs,hcs,pv,lv,tv,rfl,_,_,_,_,htv⟩:=hel b B hB
  have htv0:=htv
  obtain ⟨ta,tn,tc,_,_,rfl,_⟩:=htv0
  have hci : CellsIs w0 bb (bo + b * 6) _:=⟨hcs⟩
  have htoOf:=toOf_get hB
  repeat (first|refine g_op rfl ?_|refine g_then ?_|refine g_nil ?_|refine g_region ?_|refine g_seq ?_|refine g_block ?_|refine g_skip ?_)
  refine g_loop (fun (x : Nat × List (Nat × Nat) × Option Addr × Nat)=>x.1 ≤ n∧x.2.1 = backTo bl b++(backRow bl b x.1).map fun t=>(b,t)) (fun x=>[(6,.int .i64 x.1),(4,.slice x.2.2.1 x.2.1.length x.2.2.2),(5,.int .i64 b),(3,.slice oa (postL bl).length oc),(1,.pointer (some ⟨p1,0,none⟩))])
   (fun x=>[Ent.vec x.2.2.1 x.2.1.length x.2.2.2 97 2 (x.2.1.flatMap pairC),(⟨op,fun w=>SlAt w (.slice oa (postL bl).length oc) 1 ((orderL bl).map fun x : Nat=>(x : Int)) IntV⟩ : Ent),Ent.box p1 [nm,pa,re,.slice ba n bc] 35]) (fun x=>n - x.1) (0,backTo bl b,la,lc) ⟨Nat.zero_le _,by simp [backRow]⟩ (g_done (by repeat (first|exact trivial|refine ⟨rfl,?_⟩)) (.refl _)) fun x ⟨hj,hL⟩=>?_
  obtain ⟨t,L,la1,lc1⟩:=x
  simp only at hj hL ⊢
  have hLl : L.length ≤ 10200:=by
   rw [hL,List.length_append,List.length_map]
   have h2:=backRow_len bl b t
   omega
  have hrs:=backRow_succ bl b t
  repeat (first|refine g_op rfl ?_|refine g_then ?_|refine g_nil ?_|refine g_region ?_|refine g_seq ?_)
  refine g_cond (fun h2=>?_) (fun h2=>?_)
  ·have htl : t < n:=by simpa using h2
   have hskip : ¬ BackE bl b t→L = backTo bl b++(backRow bl b (t + 1)).map fun t=>(b,t):=fun hno=>by
    rw [hrs,hL]; simp [hno]
   have hb1 : decide ((b : Int) ∈ (orderL bl).map fun x : Nat=>(x : Int)) = decide (b ∈ orderL bl):=by rw [decide_eq_decide,mem_ints]
   repeat (first|refine g_op rfl ?_|refine g_then ?_|refine g_region ?_|refine g_seq ?_|refine g_block ?_|refine g_skip ?_)
   refine g_callV rfl (fun w hw=>has_c _ ((orderL bl).map fun x : Nat=>(x : Int)) b w (hw.get (k:=1) rfl)) ?_
   rw [hb1]
   generalize hd1 : decide (b ∈ orderL bl) = d1
   cases d1
   ·have hno : ¬ BackE bl b t:=fun h=>by have:=(ho.mem b).2 h.1; simp [this] at hd1
    repeat (first|refine g_op rfl ?_|refine g_then ?_|refine g_nil ?_|refine g_region ?_|refine g_opS rfl ?_|refine g_pass rfl ?_|refine g_inBlock ?_|refine g_skip ?_|refine g_condF ?_|refine g_add rfl (by omega) (by omega) ?_)
    exact g_next (t + 1,L,la1,lc1) ⟨by simp only; omega,hskip hno⟩ (by simp only; omega) (by repeat (first|exact trivial|refine ⟨rfl,?_⟩)) (.refl _)
   have hbo : b ∈ orderL bl:=by simpa using hd1
   repeat (first|refine g_op rfl ?_|refine g_open ?_)
   refine g_callV rfl (fun w hw=>has_c _ B.to t w (htv.keep keeps_int hw.chg)) ?_
   generalize hd2 : decide ((t : Int) ∈ B.to) = d2
   cases d2
   ·have hno : ¬ BackE bl b t:=fun h=>by have:=h.2.1; unfold Edge at this; rw [htoOf] at this; simp [this] at hd2
    repeat (first|refine g_op rfl ?_|refine g_then ?_|refine g_nil ?_|refine g_region ?_|refine g_opS rfl ?_|refine g_pass rfl ?_|refine g_inBlock ?_|refine g_skip ?_|refine g_condF ?_|refine g_add rfl (by omega) (by omega) ?_)
    exact g_next (t + 1,L,la1,lc1) ⟨by simp only; omega,hskip hno⟩ (by simp only; omega) (by repeat (first|exact trivial|refine ⟨rfl,?_⟩)) (.refl _)
   have hte : Edge bl b t:=by unfold Edge; rw [htoOf]; simpa using hd2
   have hbk:=placeL_back hok hpos hte
   have hb0 : 0 ≤ placeL bl b:=by unfold placeL; rw [if_pos hbo]; omega
   repeat (first|refine g_op rfl ?_|refine g_open ?_)
   refine g_callV rfl (fun w hw=>placeI_c _ ((orderL bl).map fun x : Nat=>(x : Int)) t w (hw.get (k:=1) rfl)) ?_
   repeat (first|refine g_op rfl ?_|refine g_open ?_)
   refine g_callV rfl (fun w hw=>placeI_c _ ((orderL bl).map fun x : Nat=>(x : Int)) b w (hw.get (k:=1) rfl)) ?_
   rw [placeI_nat,placeI_nat,show (if t ∈ orderL bl then ((orderL bl).idxOf t : Int) else -1) = placeL bl t from rfl,show (if b ∈ orderL bl then ((orderL bl).idxOf b : Int) else -1) = placeL bl b from rfl]
   repeat (first|refine g_op rfl ?_|refine g_then ?_|refine g_nil ?_|refine g_open ?_)
   refine g_cond (fun h3=>?_) (fun h3=>?_)
   ·have hyes : BackE bl b t:=hbk.1 ⟨hb0,by simpa using h3⟩
    repeat (first|refine g_op rfl ?_|refine g_region ?_|refine g_build1 rfl rfl fun _ _=>?_)
    rename_i bt _
    refine g_append rfl rfl (by omega) (by omega) fun a' c'=>?_
    rw [show L.flatMap pairC++[.int .i64 (b : Int),.int .i64 (t : Int)] = (L++[(b,t)]).flatMap pairC by simp [pairC],show L.length + 1 = (L++[(b,t)]).length by simp]
    repeat (first|refine g_op rfl ?_|refine g_then ?_|refine g_nil ?_|refine g_region ?_|refine g_opS rfl ?_|refine g_inBlock ?_|refine g_add rfl (by omega) (by omega) ?_)
    refine g_next (t + 1,L++[(b,t)],a',c') ⟨by simp only; omega,?_⟩ (by simp only; omega) (by repeat (first|exact trivial|refine ⟨rfl,?_⟩)) (.cons _ (.refl _))
    simp only
    rw [hrs,hL]
    simp [hyes]
   ·have hno : ¬ BackE bl b t:=fun h=>by have:=(hbk.2 h).2; simp [this] at h3
    repeat (first|refine g_op rfl ?_|refine g_then ?_|refine g_nil ?_|refine g_region ?_|refine g_opS rfl ?_|refine g_inBlock ?_|refine g_skip ?_|refine g_add rfl (by omega) (by omega) ?_)
    exact g_next (t + 1,L,la1,lc1) ⟨by simp only; omega,hskip hno⟩ (by simp only; omega) (by repeat (first|exact trivial|refine ⟨rfl,?_⟩)) (.refl _)
  ·have hge : t = bl.length:=by have:=h2; simp at this; omega
   repeat (first|refine g_op rfl ?_|refine g_then ?_|refine g_nil ?_|refine g_region ?_|refine g_opS rfl ?_|refine g_inBlock ?_|refine g_add rfl (by omega) (by omega) ?_|refine g_exit ?_|refine g_thenExit ?_|refine g_exitHere ?_)
   rw [hge,← backTo_succ] at hL
   subst hL
   exact g_next (b + 1,la1,lc1) (by simp only; omega) (by simp only; omega) (by repeat (first|exact trivial|refine ⟨rfl,?_⟩)) (.refl _)
 ·have hge : b = bl.length:=by have:=h1; simp at this; omega
  repeat (first|refine g_op rfl ?_|refine g_then ?_|refine g_nil ?_|refine g_region ?_|refine g_seq ?_|refine g_exit ?_|refine g_thenExit ?_|refine g_exitHere ?_|refine g_ret ?_)
  exact g_ret1 rfl fun w hw=>⟨(la,lc),by rw [hge]; rfl,by rw [hge] at hw; exact hw.sel [0] (by decide),trivial⟩
theorem refBackK (nm pa re : Value) (bl : List LBlock) (bs : Value) (hbsl : ∃ a n c,bs = .slice a n c) (w0 : World) (hbs : SlAt w0 bs 6 bl BlockV) (hlen : bl.length ≤ 100) (hok : GoodB bl) (hpos : 0 < bl.length) :
  RetK Tryz.prog 54 [.agg #[nm,pa,re,bs]] w0 2 (backL bl) PairV fun v=>v :=
 retK_of (refBack_c nm pa re bl bs hbsl w0 hbs hlen hok hpos) fun x _=>⟨x.1,x.2,rfl,fun w2 hw=>flat_sl hw (k:=0) rfl pairC_len (by have:=backL_len hlen; omega)⟩
end Go.Proofs.YtdbljcahlpkgdaaGreatDoor
namespace Go.Proofs.YtdbljcahlpkgdaaGreatDoor
open Go Go.RowKit
attribute [local irreducible] wpListIn Code.wpIn Exit.then Exit.inBlock bodyPost wpQuiet wpAnyIn wpAnyH bodyPostM
set_option maxHeartbeats 8000000
section
variable {P : Program} {ro : Option Nat} {N : Nat} {ds : List Deferred} {S : Nat→Prop} {w0 w : World} {L : List (Nat × Value)} {H : List Ent} {ops : Array Oper} {rest : List Oper} {Q : Exit→Act→World→Prop}
theorem g_callAt {α : Type} {val : α→Value} {E : α→Ent} {φ : α→Prop} {d ty f : Nat} (k : Nat) {e : Ent} {args : List Operand} {vs : List Value} {tys : Array Nat} {pos : String} {aft : Array Go.Edge} [h : EnterOk P f] [hx : Evs L args vs] (hk : H[k]? = some e) (hd : okPut d N L = true)
  (hc : ∀ w,Wd S w0 ([e]++H.eraseIdx k) w→Ret P f vs w fun u w'=>∃ x,u = val x∧Wd (fps [e]) w [E x] w'∧φ x)
  (kk : ∀ x,φ x→G N ds S w0 ((d,val x)::L) (H.set k (E x)) (wpListIn (FW ro) 0 P ops Q rest)) : G N ds S w0 L H (wpListIn (FW ro) 0 P ops Q (⟨some d,.call { callee:=.value (.func f),args:=args.toArray,argTypes:=tys },ty,pos,aft,none⟩::rest)) :=
 g_permH (perm_pull hk) (g_callS (H1:=[e]) (H2:=H.eraseIdx k) (E:=fun x=>[E x]) hd hc fun x hx=>g_permH (perm_set hk (E x)) (kk x hx))
end
end Go.Proofs.YtdbljcahlpkgdaaGreatDoor

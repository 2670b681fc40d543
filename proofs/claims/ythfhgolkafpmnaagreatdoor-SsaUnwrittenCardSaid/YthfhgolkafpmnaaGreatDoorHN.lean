/- Texts joined: Pass Sim Agree SwapP Same Many TrimP Thin LiveL DoA OnceP DoB QuietB Given DoC DoD DoE Betw SplitP SplitQ SplitR SplitA SplitB SplitS SplitV SplitW. -/
import Derived.Test.YthfhgolkafpmnaaGreatDoorGB
import Derived.Test.YthfhgolkafpmnaaGreatDoorGC
import Derived.Test.YthfhgolkafpmnaaGreatDoorGD
import Derived.Test.YthfhgolkafpmnaaGreatDoorGF
import Derived.Test.YthfhgolkafpmnaaGreatDoorGG
import Derived.Test.YthfhgolkafpmnaaGreatDoorGH
import Derived.Test.YthfhgolkafpmnaaGreatDoorGM
import Derived.Test.YthfhgolkafpmnaaGreatDoorHA
import Derived.Test.YthfhgolkafpmnaaGreatDoorHF
namespace Go.Proofs.YthfhgolkafpmnaaGreatDoor
section
open Go Go.RowKit
structure zl(fs:List aZ)(X Y:aZ):Prop where
 name:Y.name=X.name
 params:Y.params=X.params
 aF:Y.params<=Y.aF/\Y.aF<=100
 many:1<=Y.blocks.length/\Y.blocks.length<=40
 size:fQ Y.blocks<=300
 body:qD fs Y
theorem Dm{α β:Type}{l m:List α}{g:α->β}(hl:m.length=l.length)(h:∀(i:Nat) x y,l[i]?=some x->m[i]?=some y->g y=g x):m.map g=l.map g:=by
 apply cf;intro i;rw[aK,aK]
 by_cases hi:i<l.length
 ·rw[aB hi,aB (show i<m.length by omega)]
  simp only[bz];rw[h i _ _ (aB hi) (aB ag)]
 ·rw[bM ag,bM ag]
theorem xJ{u v:a7}(h:iW u)(hg:v.globals=u.globals)(hl:v.funcs.length=u.funcs.length)(hf:∀(i:Nat) X Y,u.funcs[i]?=some X->v.funcs[i]?=some Y->zl u.funcs X Y):iW v:=by
 have Kh:v.funcs.map (·.name)=u.funcs.map (·.name):=Dm hl λi X Y hX hY=>(hf i X Y hX hY).name;have qJ:∀i:Nat,(v.funcs[i]?).map aZ.params=(u.funcs[i]?).map aZ.params:=λi=>by
  rw[<-aK,<-aK,Dm (g:=aZ.params) hl λi X Y hX hY=>(hf i X Y hX hY).params]
 have Gl:cZ v.funcs=cZ u.funcs:=by rw[nB,nB,Kh]
 refine⟨by rw[hg];exact h.ti,by rw[hl];exact h.funcs,by rw[hg];exact h.FV,λi hi=>?_,λZ hZ=>?_,by rw[Gl];exact h.main,?_⟩
 ·have yZ:i<u.funcs.length:=ag
  have h0:=h.head i yZ;unfold k_ at h0⊢;rw[List.map_take,Kh,<-List.map_take,hg];unfold jr at h0⊢;rw[aB yZ]at h0;rw[aB hi];have jq:=hf i _ _ (aB yZ) (aB hi);obtain⟨h1,h2,h3,h4,h5,h6⟩:=ui.1 h0;refine ui.2 ⟨by rw[jq.name];exact h1,by rw[jq.name];exact h2,by rw[jq.params];exact h3,jq.aF,?_,jq.size⟩;have:=jq.many;omega
 ·obtain⟨j,hj⟩:=br hZ
  have jE:=(aC.1 hj).1;have hb:=(hf j _ _ (aB (show j<u.funcs.length by omega)) hj).body;exact⟨hb.ends,hb.aL,λb C hC x hx=>by rw[GC hl qJ];exact hb.list b C hC x hx⟩
 ·rw[Gl]
  have:=h.none;have hp:=qJ (cZ u.funcs).toNat;unfold jr at this⊢;cases h1:u.funcs[(cZ u.funcs).toNat]?<;>cases h2:v.funcs[(cZ u.funcs).toNat]?<;>simp[h1,h2]at hp this⊢
  omega
theorem yQ{u:a7}(h:iW u):mC u:=by
 refine⟨h.funcs,λX hX=>?_⟩;obtain⟨j,hj⟩:=br hX;have h0:=h.head j (aC.1 hj).1;unfold k_ jr at h0;rw[hj]at h0;obtain⟨_,_,_,_,h5,h6⟩:=ui.1 h0;exact⟨ag,h6⟩
theorem zl.same{u:a7}(h:iW u){i:Nat}{X:aZ}(hX:u.funcs[i]?=some X):zl u.funcs X X:=by
 have h0:=h.head i (aC.1 hX).1;unfold k_ jr at h0;rw[hX]at h0;obtain⟨_,_,_,h4,h5,h6⟩:=ui.1 h0;exact⟨rfl,rfl,h4,ag,h6,h.body X (aA hX)⟩
def ZF(u:a7):Prop:=∀X∈u.funcs,∀B∈X.blocks,wm B
def ZA(u:a7):Prop:=∀g∈u.globals,∀x∈g.init,c9 x
def HM(v:a7):Nat->js->js->Prop
 |0,t,t'=>t=t'
 |k+1,t,t'=>∃t1,iE v t=.inl t1/\HM v k t1 t'
theorem AH{v:a7}:∀{k:Nat} {t t':js},HM v k t t'->∀m,mS v (k+m) t=mS v m t'
 |0,_,_,h,m=>by rw[show _=_ from h,dM]
 |k+1,t,t',⟨t1,h1,h2⟩,m=>by
  rw[show k+1+m=(k+m)+1 by omega,mS,h1];exact AH h2 m
theorem HM.one{v:a7}{t t':js}(h:iE v t=.inl t'):HM v 1 t t':=⟨t',h,rfl⟩
theorem Oa{u:a7}{s:js}{B:ar}{f:Fin}(h:k8 u s B=.inr f):f=s.stop 0 (cD s.bF B.on):=by
 unfold k8 at h
 split at h
 ·cases h
 split at h
 ·cases h
 split at h
 ·exact(Sum.inr.inj h).symm
 ·cases h
theorem PY{u:a7}{s:js}{x:en}{f:Fin}(h:j5 u s x=.inr f):∃c:Int,c≠1/\f=s.stop c 0:=by
 unfold j5 at h;simp only at h
 repeat' (split at h)
 all_goals first
  |(cases h;done)
  |exact⟨_,by decide,(Sum.inr.inj h).symm⟩
theorem sE{u:a7}{s s':js}(h:iE u s=.inl s'):s'.steps=s.steps+1:=by
 rw[gY]at h
 split at h
 ·exact Au h
 ·exact Bb h
theorem uE{u:a7}{s:js}{f:Fin}(h:iE u s=.inr f):f.steps=s.steps+1/\f.state≠1:=by
 rw[gY]at h
 split at h
 ·rw[Oa h];exact⟨rfl,show(0:Int)≠1 by decide⟩
 ·obtain⟨c,h1,h2⟩:=PY h
  rw[h2];exact⟨rfl,h1⟩
theorem vA{v:a7}:∀{k:Nat} {t t':js},HM v k t t'->t'.steps=t.steps+k
 |0,t,t',h=>by rw[show t=t' from h];rfl
 |k+1,t,t',⟨t1,h1,h2⟩=>by rw[vA h2,sE h1];omega
structure Alike(f g:Fin):Prop where
 state:g.state=f.state
 value:g.value=f.value
 out:g.out=f.out
def ZD(u v:a7)(lo hi:Nat)(R:js->js->Prop):Prop:=∀s t,R s t->
 (∀s',iE u s=.inl s'->∃k t',lo<=k/\k<=hi/\HM v k t t'/\R s' t')/\
 (∀f,iE u s=.inr f->∃k t' g,lo<=k+1/\k+1<=hi/\HM v k t t'/\iE v t'=.inr g/\Alike f g)
theorem KZ{u v:a7}{lo hi:Nat}{R:js->js->Prop}(h:ZD u v lo hi R):∀(n:Nat) (s t:js) (m:Nat),R s t->(mS u n s).state≠1->hi*n<=m->
  Alike (mS u n s) (mS v m t)/\∃i j,(mS u n s).steps=s.steps+i/\(mS v m t).steps=t.steps+j/\lo*i<=j/\j<=hi*i
 |0,s,t,m,_,h1,_=>absurd rfl h1
 |n+1,s,t,m,hR,h1,hm=>by
  rw[Nat.mul_add,fB]at hm;obtain⟨hg,hf⟩:=h s t hR;rw[mS]at h1⊢;cases he:iE u s with
  |inl s'=>
   rw[he]at h1;simp only at h1⊢;obtain⟨k,t',hlo,hhi,O6,hR'⟩:=hg s' he;obtain⟨q,rfl⟩:∃q,m=k+q:=⟨m-k,ag⟩;rw[AH O6];obtain⟨ha,i,j,e1,e2,e3,e4⟩:=KZ h n s' t' q hR' h1 ag;have h5:=sE he;have h6:=vA O6;refine⟨ha,i+1,j+k,ag,ag,?_,?_⟩
   ·rw[Nat.mul_add];omega
   ·rw[Nat.mul_add];omega
  |inr f=>
   simp only;obtain⟨k,t',g,hlo,hhi,O6,kr,ha⟩:=hf f he;obtain⟨q,rfl⟩:∃q,m=k+(q+1):=⟨m-k-1,ag⟩;rw[AH O6,mS,kr];simp only;have h5:=(uE he).1;have h6:=vA O6;have h7:=(uE kr).1;exact⟨ha,1,k+1,h5,ag,ag,ag⟩
inductive NV(FR:Int->Int->k7->k7->Prop):List k7->List k7->Int->Int->Prop
 |nil (d e:Int):NV FR [] [] d e
 |add {l m:List k7} {f g:k7} {d e:Int}:NV FR l m f.dst g.dst->FR d e f g->NV FR (l++[f]) (m++[g]) d e
theorem NV.len{FR:Int->Int->k7->k7->Prop}{l m:List k7}{d e:Int}(h:NV FR l m d e):m.length=l.length:=by
 induction h with
 |nil=>rfl
 |add _ _ ih=>simp[ih]
theorem NV.Wg{FR:Int->Int->k7->k7->Prop}{l' m:List k7}{d e:Int}(h:NV FR l' m d e):(l'=[]/\m=[])∨∃l f m' g,l'=l++[f]/\m=m'++[g]/\NV FR l m' f.dst g.dst/\FR d e f g:=by
 cases h with
 |nil=>exact .inl ⟨rfl,rfl⟩
 |add h1 h2=>exact .inr ⟨_,_,_,_,rfl,rfl,h1,h2⟩
structure V7(FR:Int->Int->k7->k7->Prop)(FT:k7->k7->Prop)(s t:js):Prop where
 mem:t.mem=s.mem
 cX:t.cX=s.cX
 out:t.out=s.out
 stk:NV FR s.rest t.rest s.bF.dst t.bF.dst
 bF:FT s.bF t.bF
theorem Eu{u v:a7}{s t:js}{x y:en}(C9:y.op=x.op)(oY:y.fn=x.fn)(ha:cD t.bF y.a=cD s.bF x.a)(hb:cD t.bF y.b=cD s.bF x.b)(tk:x.op=20->y.args.map (cD t.bF)=x.args.map (cD s.bF))
  (hm:t.mem=s.mem) (hi:t.cX=s.cX) (ho:t.out=s.out) (hl:t.rest.length=s.rest.length) (hdx:x.op=19∨x.op=22->x.dst<0) (hdy:x.op=19∨x.op=22->y.dst<0):
  (∃f g,j5 u s x=.inr f/\j5 v t y=.inr g/\Alike f g)∨
  (x.op=20/\j5 u s x=.inl (s_ u s x.fn.toNat x.dst (x.args.map (cD s.bF)))/\j5 v t y=.inl (s_ v t x.fn.toNat y.dst (x.args.map (cD s.bF))))∨
  (x.op≠20/\∃mem cX out n,j5 u s x=.inl {s with mem:=mem,cX:=cX,out:=out,bF:=s.bF.set x.dst n}/\j5 v t y=.inl {t with mem:=mem,cX:=cX,out:=out,bF:=t.bF.set y.dst n}):=by
 obtain⟨ag0,agZ,ag1,ss,sr,st,sc⟩:=s;obtain⟨YQ,aca,YR,ts,tr,tt,tc⟩:=t;simp only at ha hb tk hm hi ho hl;subst hm hi ho;have qe:∀(f:k7) (d n:Int),d<0->f.set d n=f:=λf d n h=>by
  unfold k7.set sC;rw[if_neg ag]
 unfold j5;simp only[C9,oY,ha,hb,hl]
 by_cases h1:x.op=18∨x.op=19
 ·simp only[if_pos h1]
  by_cases hw:(!within (cD st x.a) 0 ((YQ.length:Int)-1))=true
  ·simp only[hw,if_true]
   exact .inl ⟨_,_,rfl,rfl,rfl,rfl,rfl⟩
  ·simp only[hw]
   refine .inr (.inr ⟨ag,?_⟩)
   by_cases h9:x.op=19
   ·simp only[h9,if_true]
    refine⟨YQ.set (cD st x.a).toNat (cD st x.b),aca,YR,0,?_,?_⟩
    ·rw[qe _ _ _ (hdx (.inl h9))];rfl
    ·rw[qe _ _ _ (hdy (.inl h9))];rfl
   ·simp only[h9,if_false]
    exact⟨_,_,_,_,rfl,rfl⟩
 simp only[if_neg h1]
 by_cases h2:x.op=20
 ·simp only[if_pos h2,tk h2]
  by_cases hd:sr.length+1=30
  ·simp only[hd,if_true]
   exact .inl ⟨_,_,rfl,rfl,rfl,rfl,rfl⟩
  ·simp only[hd,if_false]
   exact .inr (.inl ⟨h2,by trivial,by trivial⟩)
 simp only[if_neg h2]
 by_cases h3:x.op=21
 ·simp only[if_pos h3]
  exact .inr (.inr ⟨ag,_,_,_,_,rfl,rfl⟩)
 simp only[if_neg h3]
 by_cases h4:x.op=22
 ·simp only[if_pos h4]
  by_cases hd:YR.length=200
  ·simp only[hd,if_true]
   exact .inl ⟨_,_,rfl,rfl,rfl,rfl,rfl⟩
  ·simp only[hd,if_false]
   refine .inr (.inr ⟨ag,YQ,aca,YR++[cD st x.a],0,?_,?_⟩)
   ·rw[qe _ _ _ (hdx (.inr h4))]
   ·rw[qe _ _ _ (hdy (.inr h4))]
 simp only[if_neg h4];cases pV x.op (cD st x.a) (cD st x.b)with
 |none=>exact .inl ⟨_,_,rfl,rfl,rfl,rfl,rfl⟩
 |some n=>exact .inr (.inr ⟨h2,_,_,_,_,rfl,rfl⟩)
theorem EO{u v:a7}{FR:Int->Int->k7->k7->Prop}{s t:js}{B C:ar}(h2:B.kind≠2)(h3:B.kind≠3)(hk:C.kind=B.kind)(Gp:cD t.bF C.on=cD s.bF B.on)(ho:t.out=s.out)(hs:NV FR s.rest t.rest s.bF.dst t.bF.dst):
  (∃f g,k8 u s B=.inr f/\k8 v t C=.inr g/\Alike f g)∨
  (∃l f m g,s.rest=l++[f]/\t.rest=m++[g]/\k8 u s B=.inl {s with rest:=l,bF:=f.set s.bF.dst (cD s.bF B.on)}/\k8 v t C=.inl {t with rest:=m,bF:=g.set t.bF.dst (cD s.bF B.on)}/\NV FR l m f.dst g.dst/\FR s.bF.dst t.bF.dst f g):=by
 unfold k8;rw[hk,Gp];simp only[if_neg h2,if_neg h3];rcases hs.Wg with⟨e1,e2⟩|⟨l,f,m,g,e1,e2,e3,e4⟩
 ·refine .inl ⟨s.stop 0 (cD s.bF B.on),t.stop 0 (cD s.bF B.on),by rw[e1];rfl,by rw[e2];rfl,rfl,rfl,ho⟩
 ·refine .inr ⟨l,f,m,g,e1,e2,?_,?_,e3,e4⟩
  ·rw[e1];simp
  ·rw[e2];simp
theorem Be{u v:a7}{s t:js}{B C:ar}(hB:B.kind=2∨B.kind=3)(hk:C.kind=B.kind)(hl:(B.to.length:Int)=B.kind-1)(Gp:cD t.bF C.on=cD s.bF B.on):
  ∃i,i<B.to.length/\k8 u s B=.inl (rj u s (B.to.getD i 0))/\k8 v t C=.inl (rj v t (C.to.getD i 0)):=by
 unfold k8;rw[hk,Gp];rcases hB with h|h
 ·simp only[if_pos h]
  exact⟨0,ag,rfl,rfl⟩
 ·simp only[if_neg (show¬B.kind=2 by omega),if_pos h]
  by_cases h0:cD s.bF B.on≠0
  ·simp only[if_pos h0]
   exact⟨0,ag,rfl,rfl⟩
  ·simp only[if_neg h0]
   exact⟨1,ag,rfl,rfl⟩
def vY(aF:List Int)(l:List (Nat×Int)):List Int:=l.foldl (λrs p=>rs.set p.1 p.2) aF
theorem rB(f:k7)(k:Nat)(ps:List eC):iD f k ps=vY f.aF (ps.map λp=>(p.dst.toNat,cD f (p.src.getD k gK))):=by
 unfold iD vY;rw[List.foldl_map]
theorem pj{fs:List aZ}{R:Int}{x:en}(h:dK fs R x=0):(x.a∈gI x∨x.a=gK)/\(x.b∈gI x∨x.b=gK)/\(x.op=20->x.args=gI x)/\(x.op=19∨x.op=22->x.dst<0):=by
 unfold dK at h
 split at h
 ·cases h
 rename_i C9
 split at h
 ·cases h
 rename_i hs;simp only[Bool.not_eq_true]at hs;clear h;have C9:1<=x.op/\x.op<=22:=by simp[within]at C9;omega
 have qu:∀v:cm,iC v=true->v=gK:=λv hv=>by
  obtain⟨vr,vn⟩:=v;simp only[iC,Bool.and_eq_true,beq_iff_eq,decide_eq_true_eq]at hv;obtain⟨rfl,rfl⟩:=hv
  rfl
 unfold pU at hs;simp only[Bool.or_eq_false_iff,Bool.and_eq_false_iff,Bool.not_eq_false',decide_eq_false_iff_not]at hs;obtain⟨⟨⟨h1,h2⟩,h3⟩,h4⟩:=hs;unfold shape at h1 h2 h3;unfold gI
 by_cases U2:x.op=20
 ·simp[U2]at h2 h3⊢
  exact⟨.inr (qu _ h2),.inr (qu _ h3)⟩
 by_cases ZU:x.op=21
 ·simp[ZU]at h2 h3⊢
  exact⟨qu _ h2,qu _ h3⟩
 rw[if_neg ZU,if_neg U2]
 by_cases e1:((x.op=1∨x.op=16)∨x.op=17)∨x.op=18
 ·rw[if_pos e1]at h1 h2 h3
  rw[if_neg ag,if_pos ag];simp at h3;exact⟨.inl aH,.inr (qu _ h3),λe=>absurd e U2,λe=>ag⟩
 rw[if_neg e1]at h1 h2 h3
 by_cases e2:2<=x.op/\x.op<=15
 ·rw[if_pos (.inl e2)]
  exact⟨.inl aH,.inl aH,λe=>absurd e U2,λe=>ag⟩
 rw[if_neg e2]at h1 h2 h3
 by_cases e3:x.op=19
 ·simp[e3]at h1⊢
  omega
 have e4:x.op=22:=ag;simp[e4]at h1 h3⊢;exact⟨.inr (qu _ h3),ag⟩
theorem vU{bl mK:List ar}(hl:mK.length=bl.length)(ht:∀i,dd mK i=dd bl i)(t:Nat):bf mK t=bf bl t:=by
 unfold bf;simp only[hl,ht]
theorem Ja{α:Type}(l:List α)(f g:α->α)(b:Nat):(l.modify b f).modify b g=l.modify b λx=>g (f x):=by
 apply cf;intro m;simp only[lG];cases l[m]? with
 |none=>rfl
 |some x=>
  simp only[Option.map_eq_map,bz]
  by_cases h1:b=m<;>simp[h1]
section
variable {u v:a7} {W:Int} {pos:Nat->Nat->Nat->Nat}
theorem Alike.refl(f:Fin):Alike f f:=⟨rfl,rfl,rfl⟩
theorem Alike.trans{f g h:Fin}(a:Alike f g)(b:Alike g h):Alike f h:=⟨b.state.trans a.state,b.value.trans a.value,b.out.trans a.out⟩
def kz(u v:a7):Prop:=∀(cX:List Int) (f m:Nat),(∀x∈cX,c9 x)->(cg u cX f).state≠1->f<=m->Alike (cg u cX f) (cg v cX m)/\(cg v cX m).steps<=(cg u cX f).steps
theorem xg(u:a7):∀(n m:Nat) (s:js),(mS u n s).state≠1->n<=m->mS u m s=mS u n s
 |0,_,_,h,_=>absurd rfl h
 |n+1,m,s,h,hm=>by
  obtain⟨m,rfl⟩:∃q,m=q+1:=⟨m-1,ag⟩;rw[mS]at h⊢;rw[mS];cases he:iE u s with
  |inl s'=>
   rw[he]at h;exact xg u n m s' h ag
  |inr f=>rfl
theorem kz.refl(u:a7):kz u u:=λcX f m _ h hm=>by
 have:cg u cX m=cg u cX f:=xg u f m _ h hm;rw[this];exact⟨.refl _,bH _⟩
theorem kz.trans{a b c:a7}(h:kz a b)(k:kz b c):kz a c:=λcX f m mO h1 hm=>by
 obtain⟨h2,h3⟩:=h cX f f mO h1 (bH _);obtain⟨h4,h5⟩:=k cX f m mO (by rw[h2.state];exact h1) hm;exact⟨h2.trans h4,dB h5 h3⟩
end
structure Whole(u:a7):Prop where
 ok:iW u
 ry:ZF u
 J4:ZA u
theorem Whole.fit{u:a7}(h:Whole u):iZ u:=Hy (yQ h.ok) (fz.2 h.ok) h.ry
theorem Whole.start{u:a7}(h:Whole u):ww u:=yR (fz.2 h.ok) h.J4
def qO(X:aZ)(bl:List ar):aZ:={X with blocks:=bl}
def pO(u:a7)(k:Nat)(bl:List ar):a7:={u with funcs:=u.funcs.modify k λX=>qO X bl}
theorem rD(u:a7)(k:Nat)(bl:List ar)(j:Nat):(pO u k bl).funcs[j]?=if k=j then(u.funcs[j]?).map (λX=>qO X bl)else u.funcs[j]?:=by
 unfold pO;simp only;rw[lG]
 by_cases e:k=j
 ·simp only[e,if_true];rfl
 ·simp only[e,if_false,id_map']
end
section
open Go Go.RowKit
attribute [local irreducible] wpListIn Code.wpIn Exit.then Exit.inBlock bodyPost wpQuiet wpAnyIn wpAnyH gX
set_option maxHeartbeats 4000000
section
variable {P:Program} {N:Nat} {ds:List Deferred} {S:Nat->Prop} {w0:World} {L L':List (Nat×Value)} {H H' Hr:List bN} {x y:Operand} {M:Act->World->Prop} {l:List Oper} {bE:Nat} {listed:Array Bool}
theorem o_{ty T b o off j n c e s m:Nat}(i k:Nat){xs vs:List Value}{pos:String}{aft:Array Go.Edge}[ho:dm l i ⟨none,.store T x y,ty,pos,aft,none⟩][h:d_ P T m][hx:Ev L x (.pointer (some ⟨b,off,none⟩))][hy:Ev L y (.agg vs.toArray)][hn:kx vs m][h1:sU vs]
  (hk:H[k]?=some (ai (some ⟨b,o,none⟩) n c e s xs)) (AT:off=o+j) (fW:j+m<=xs.length) (LP:Hr.Sublist (H.set k (ai (some ⟨b,o,none⟩) n c e s (xs.take j++vs++xs.drop (j+m)))))
  (kk:G N ds S w0 L (H.set k (ai (some ⟨b,o,none⟩) n c e s (xs.take j++vs++xs.drop (j+m)))) (wpAnyH P .any l.toArray (dy M) (Wd S w0 Hr) bE (listed.setIfInBounds i true))):G N ds S w0 L H (gX P l M (Wd S w0 Hr) bE listed i):=by
 refine QM i rfl λa w hS=>?_;subst AT;have uk:=hn.eq;obtain⟨w',hs,u_⟩:=hS.wd.EV (P:=P) hk j (vs:=vs) h1.all ag;rw[uk]at u_;refine⟨w',?_,u_.sub LP,kk _ _ ⟨hS.fr,u_⟩⟩;simp[execOp,hx.eq _ _ _ hS.fr,hy.eq _ _ _ hS.fr,Instr.storeAt,Instr.sureAddr,storeVar,h.sz,Value.cells,uk,hs]
end
end
section
open Go Go.RowKit
attribute [local irreducible] wpListIn Code.wpIn Exit.then Exit.inBlock bodyPost wpQuiet wpAnyIn wpAnyH bodyPostM gX
set_option maxHeartbeats 4000000
theorem al(bl:List ar):(dV bl:Int)=fQ bl:=by
 unfold dV fQ
 induction bl with
 |nil=>rfl
 |cons b bl ih=>simp only[bO,et,<-ih];omega
end
section
open Go Go.RowKit
attribute [local irreducible] wpListIn Code.wpIn Exit.then Exit.inBlock bodyPost wpQuiet wpAnyIn wpAnyH
set_option maxHeartbeats 8000000
def yE(b:aR):bN:=ai b.ta b.to.length b.tc 3 1 (b.to.map (.int .i64))
def phV(b:aR):bN:=ai b.pa b.ps.length b.pc 49 2 (b.ps.flatMap ci)
def uR(b:aR):List bN:=ai b.la b.xs.length b.lc 56 8 (b.xs.flatMap eE)::yE b::b.xs.map jo
theorem Fs(b:aR):(jb b).Perm (phV b::(b.ps.map e7++uR b)):=by
 unfold jb phV uR yE;exact List.Perm.cons _ (dH (l₁:=[_,_]) (l₂:=b.ps.map e7++b.xs.map jo)|>.trans (by
  rw[dE];exact List.Perm.append_left _ (dH (l₁:=b.xs.map jo) (l₂:=[_,_]))))
end
section
open Go Go.RowKit
def kj(bl:List ar)(t:Nat)(p:eC)(b:Nat):cm:=p.src.getD ((bf bl t).idxOf b) gK
theorem qq{bl:List ar}(hg:cL bl){b:Nat}{t:Int}(h:t∈dd bl b):0<=t/\t<bl.length/\b<bl.length:=by
 unfold dd at h
 split at h
 ·rename_i B hB
  have:=(hg B (aA hB)).2 t h;exact⟨this.1,this.2,(aC.1 hB).1⟩
 ·cases h
theorem lW{α β:Type}{f:α->β}:∀{l:List α},l.Nodup->(∀x∈l,∀y∈l,f x=f y->x=y)->(l.map f).Nodup
 |[],_,_=>by simp
 |a::l,h,hi=>by
  rw[mh]at h;rw[bO,mh];refine⟨λhm=>?_,lW h.2 λx hx y hy=>hi x (cJ _ hx) y (cJ _ hy)⟩;obtain⟨y,hy,e⟩:=aX.1 hm;have:=hi y (cJ _ hy) a (rS ..) e;subst this;exact h.1 hy
theorem jH(bl:List ar)(t:Nat):(bf bl t).Nodup:=List.Nodup.sublist mg rT
theorem Qg{l m:List cm}(hl:l.length=m.length)(h:∀i:Nat,i<l.length->l.getD i gK=m.getD i gK):l=m:=by
 refine List.ext_getElem hl λi h1 h2=>?_;have:=h i h1;rwa[cz,cz,aB h1,aB h2]at this
theorem Nf{bl:List ar}{t:Nat}{p:eC}(h:p.src.length=(bf bl t).length):(bf bl t).map (kj bl t p)=p.src:=by
 refine Qg (by rw[aG,h]) λi hi=>?_;rw[aG]at hi;rw[cz,aK,aB hi,bz,dF];unfold kj;rw[(jH bl t).idxOf_getElem i hi]
theorem Cx{α β:Type}(f:α->β)(l:List α)(i:Nat):(l.eraseIdx i).map f=(l.map f).eraseIdx i:=by rw[List.eraseIdx_eq_take_drop_succ,List.eraseIdx_eq_take_drop_succ,bB,List.map_take,List.map_drop]
theorem uD{R:Nat}{bl:List ar}{t b:Nat}{p:eC}(hp:p.src.length=(bf bl t).length)(hb:b∈bf bl t):kj bl t p b∈p.src:=by
 have h:=ju hb;unfold kj;rw[cz,aB ag,dF];exact jK _
end
section
open Go Go.RowKit
attribute [local irreducible] wpListIn Code.wpIn Exit.then Exit.inBlock bodyPost wpQuiet wpAnyIn wpAnyH bodyPostM gX
set_option maxHeartbeats 4000000
theorem aci{S:Nat->Prop}{w0 w:World}{H:List bN}{B:aR}(h:Wd S w0 H w)(hm:b_ B∈H)(hB:B.Bd):aM w (.slice B.ta B.to.length B.tc) 1 B.to fj:=by
 obtain⟨r,hr⟩:=Qp hm;have h1:=(h.perm hr).oA;refine h1.nC (k:=2) rfl rfl (by have:=hB.to.1;omega) λi x hx=>⟨[.int .i64 x],λj v hj=>?_,rfl,hB.to.2 x (aA hx)⟩
 match j,hj with
 |0,hj=>simpa[hx]using hj
end
section
open Go Go.RowKit
theorem MU(bl:List ar)(t:Nat):(bf bl t).Pairwise (·<·):=List.pairwise_lt_range.sublist mg
theorem G7(bl:List ar)(t:Nat):∀q∈bf bl t,q<bl.length:=λq hq=>cQ.1 (cI.1 hq).1
theorem Jm{f g:k7}{k k':Nat}{ps:List eC}{F:eC->eC}(hr:g.aF=f.aF)(hd:∀p∈ps,(F p).dst=p.dst)(hs:∀p∈ps,(F p).src.getD k' gK=p.src.getD k gK):iD g k' (ps.map F)=iD f k ps:=by
 rw[rB,rB,hr,eS];congr 1;refine fw λp hp=>?_;simp only[Function.comp_apply];rw[hd p hp,hs p hp];unfold cD;rw[hr]
structure NP(n:Nat)(R:Int)(B:ar):Prop where
 kind:1<=B.kind/\B.kind<=3
 len:(B.to.length:Int)=B.kind-1
 to:∀t∈B.to,1<=t/\t<=(n:Int)-1
 two:B.kind=3->B.to[0]?.getD 0≠B.to[1]?.getD 0
 one:B.kind=2->iC B.on=true
 on:dw R B.on=0
theorem lu{n:Nat}{R:Int}{B:ar}:j8 n R B=0↔NP n R B:=by
 unfold j8 uK;constructor
 ·intro h
  split at h
  ·cases h
  rename_i h1
  split at h
  ·cases h
  rename_i h2
  split at h
  ·cases h
  rename_i h3
  split at h
  ·cases h
  rename_i h4;simp only[within,Bool.not_eq_true',Bool.and_eq_false_iff,decide_eq_false_iff_not,not_or,Decidable.not_not]at h1;simp only[Bool.or_eq_true,Bool.and_eq_true,decide_eq_true_eq,Bool.not_eq_true',not_or,not_and,Bool.not_eq_false]at h4;refine⟨ag,by simpa using h2,λt ht=>?_,h4.1,h4.2,h⟩;simp only[oq,not_exists,not_and,within,Bool.not_eq_true',Bool.and_eq_false_iff,decide_eq_false_iff_not,not_or,Decidable.not_not]at h3;have:=h3 t ht;omega
 ·intro h
  rw[if_neg,if_neg,if_neg,if_neg]
  ·exact h.on
  ·simp only[Bool.or_eq_true,Bool.and_eq_true,decide_eq_true_eq,Bool.not_eq_true',not_or,not_and,Bool.not_eq_false]
   exact⟨h.two,h.one⟩
  ·simp only[oq,not_exists,not_and,within,Bool.not_eq_true',Bool.and_eq_false_iff,decide_eq_false_iff_not,not_or,Decidable.not_not]
   exact h.to
  ·simpa using h.len
  ·simp only[within,Bool.not_eq_true',Bool.and_eq_false_iff,decide_eq_false_iff_not,not_or,Decidable.not_not]
   exact h.kind
end
end Go.Proofs.YthfhgolkafpmnaaGreatDoor

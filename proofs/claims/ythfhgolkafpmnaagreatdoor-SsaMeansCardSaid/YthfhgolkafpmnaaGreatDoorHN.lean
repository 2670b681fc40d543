/- Texts joined: Pass Sim Agree SwapP Same Many TrimP Thin LiveL DoA OnceP DoB QuietB Given DoC DoD DoE Betw SplitP SplitQ SplitR SplitA SplitB SplitS SplitV SplitW. -/
import Derived.Test.YthfhgolkafpmnaaGreatDoorHF
namespace Go.Proofs.YthfhgolkafpmnaaGreatDoor
open Go.Value renaming int->U,slice->J,pointer->ar,string->G,bool->D,agg->au
open Go.IntKind renaming i64->O
open Option renaming some->Z,none->A
open Go renaming Value->V,World->C
open Go.Proofs.Tryz
open Go.Proofs.Tryz renaming prog->ae
open Go Go.RowKit
section
structure BA(fs:List aY)(X Y:aY):Prop where
 name:Y.name=X.name
 params:Y.params=X.params
 aB:Y.params<=Y.aB/\Y.aB<=100
 many:1<=Y.blocks.length/\Y.blocks.length<=40
 size:gy Y.blocks<=300
 body:sm fs Y
theorem FH{α β:Type}{l m:List α}{g:α->β}(hl:m.length=l.length)(h:∀(i:Nat) x y,l[i]?=Z x->m[i]?=Z y->g y=g x):m.map g=l.map g:=by
 apply ci;intro i;rw[aJ,aJ]
 by_cases hi:i<l.length
 ·rw[a_ hi,a_ (show i<m.length by omega)]
  simp only[bu];rw[h i _ _ (a_ hi) (a_ I)]
 ·rw[bO I,bO I]
theorem zY{u v:a8}(h:jE u)(hg:v.globals=u.globals)(hl:v.funcs.length=u.funcs.length)(hf:∀(i:Nat) X Y,u.funcs[i]?=Z X->v.funcs[i]?=Z Y->BA u.funcs X Y):jE v:=by
 have Ns:v.funcs.map (·.name)=u.funcs.map (·.name):=FH hl λi X Y hX hY=>(hf i X Y hX hY).name;have o_:∀i:Nat,(v.funcs[i]?).map aY.params=(u.funcs[i]?).map aY.params:=λi=>by
  rw[<-aJ,<-aJ,FH (g:=aY.params) hl λi X Y hX hY=>(hf i X Y hX hY).params]
 have I8:dh v.funcs=dh u.funcs:=by rw[pg,pg,Ns]
 refine⟨by rw[hg];exact h.vt,by rw[hl];exact h.funcs,by rw[hg];exact h.IE,λi hi=>?_,λaj9 hZ=>?_,by rw[I8];exact h.main,?_⟩
 ·have yY:i<u.funcs.length:=I
  have h0:=h.head i yY;unfold mm at h0⊢;rw[List.map_take,Ns,<-List.map_take,hg];unfold j4 at h0⊢;rw[a_ yY]at h0;rw[a_ hi];have ii:=hf i _ _ (a_ yY) (a_ hi);obtain⟨h1,h2,h3,h4,h5,h6⟩:=wh.1 h0;refine wh.2 ⟨by rw[ii.name];exact h1,by rw[ii.name];exact h2,by rw[ii.params];exact h3,ii.aB,?_,ii.size⟩;have:=ii.many;omega
 ·obtain⟨j,hj⟩:=bg hZ
  have jw:=(az.1 hj).1;have hb:=(hf j _ _ (a_ (show j<u.funcs.length by omega)) hj).body;exact⟨hb.ends,hb.aD,λb akh hC x hx=>by rw[Jn hl o_];exact hb.list b akh hC x hx⟩
 ·rw[I8]
  have:=h.none;have hp:=o_ (dh u.funcs).toNat;unfold j4 at this⊢;cases h1:u.funcs[(dh u.funcs).toNat]?<;>cases h2:v.funcs[(dh u.funcs).toNat]?<;>simp[h1,h2]at hp this⊢
  omega
theorem A_{u:a8}(h:jE u):nA u:=by
 refine⟨h.funcs,λX hX=>?_⟩;obtain⟨j,hj⟩:=bg hX;have h0:=h.head j (az.1 hj).1;unfold mm j4 at h0;rw[hj]at h0;obtain⟨_,_,_,_,h5,h6⟩:=wh.1 h0;exact⟨I,h6⟩
theorem BA.same{u:a8}(h:jE u){i:Nat}{X:aY}(hX:u.funcs[i]?=Z X):BA u.funcs X X:=by
 have h0:=h.head i (az.1 hX).1;unfold mm j4 at h0;rw[hX]at h0;obtain⟨_,_,_,h4,h5,h6⟩:=wh.1 h0;exact⟨rfl,rfl,h4,I,h6,h.body X (aq hX)⟩
def acs(u:a8):Prop:=∀X∈u.funcs,∀B∈X.blocks,yl B
def aco(u:a8):Prop:=∀g∈u.globals,∀x∈g.init,dk x
def Ky(v:a8):Nat->j7->j7->Prop
 |0,t,t'=>t=t'
 |k+1,t,t'=>∃t1,jr v t=.inl t1/\Ky v k t1 t'
theorem CU{v:a8}:∀{k:Nat} {t t':j7},Ky v k t t'->∀m,oG v (k+m) t=oG v m t'
 |0,_,_,h,m=>by rw[show _=_ from h,di]
 |k+1,t,t',⟨t1,h1,h2⟩,m=>by
  rw[show k+1+m=(k+m)+1 by omega,oG,h1];exact CU h2 m
theorem Ky.one{v:a8}{t t':j7}(h:jr v t=.inl t'):Ky v 1 t t':=⟨t',h,rfl⟩
theorem RE{u:a8}{s:j7}{B:E}{f:Fin}(h:mj u s B=.inr f):f=s.stop 0 (cK s.bJ B.on):=by
 unfold mj at h
 split at h
 ·cases h
 split at h
 ·cases h
 split at h
 ·exact(Sum.inr.inj h).symm
 ·cases h
theorem Tr{u:a8}{s:j7}{x:dJ}{f:Fin}(h:kY u s x=.inr f):∃c:Int,c≠1/\f=s.stop c 0:=by
 unfold kY at h;simp only at h
 repeat' (split at h)
 all_goals first
  |(cases h;done)
  |exact⟨_,by decide,(Sum.inr.inj h).symm⟩
theorem uG{u:a8}{s s':j7}(h:jr u s=.inl s'):s'.steps=s.steps+1:=by
 rw[iS]at h
 split at h
 ·exact CJ h
 ·exact Dq h
theorem wD{u:a8}{s:j7}{f:Fin}(h:jr u s=.inr f):f.steps=s.steps+1/\f.state≠1:=by
 rw[iS]at h
 split at h
 ·rw[RE h];exact⟨rfl,show(0:Int)≠1 by decide⟩
 ·obtain⟨c,h1,h2⟩:=Tr h
  rw[h2];exact⟨rfl,h1⟩
theorem xD{v:a8}:∀{k:Nat} {t t':j7},Ky v k t t'->t'.steps=t.steps+k
 |0,t,t',h=>by rw[show t=t' from h];rfl
 |k+1,t,t',⟨t1,h1,h2⟩=>by rw[xD h2,uG h1];omega
structure Alike(f g:Fin):Prop where
 state:g.state=f.state
 value:g.value=f.value
 out:g.out=f.out
def Sim(u v:a8)(lo hi:Nat)(R:j7->j7->Prop):Prop:=∀s t,R s t->
 (∀s',jr u s=.inl s'->∃k t',lo<=k/\k<=hi/\Ky v k t t'/\R s' t')/\
 (∀f,jr u s=.inr f->∃k t' g,lo<=k+1/\k+1<=hi/\Ky v k t t'/\jr v t'=.inr g/\Alike f g)
theorem Of{u v:a8}{lo hi:Nat}{R:j7->j7->Prop}(h:Sim u v lo hi R):∀(n:Nat) (s t:j7) (m:Nat),R s t->(oG u n s).state≠1->hi*n<=m->
  Alike (oG u n s) (oG v m t)/\∃i j,(oG u n s).steps=s.steps+i/\(oG v m t).steps=t.steps+j/\lo*i<=j/\j<=hi*i
 |0,s,t,m,_,h1,_=>absurd rfl h1
 |n+1,s,t,m,hR,h1,hm=>by
  rw[Nat.mul_add,f_]at hm;obtain⟨hg,hf⟩:=h s t hR;rw[oG]at h1⊢;cases he:jr u s with
  |inl s'=>
   rw[he]at h1;simp only at h1⊢;obtain⟨k,t',hlo,hhi,SA,hR'⟩:=hg s' he;obtain⟨q,rfl⟩:∃q,m=k+q:=⟨m-k,I⟩;rw[CU SA];obtain⟨ha,i,j,e1,e2,e3,e4⟩:=Of h n s' t' q hR' h1 I;have h5:=uG he;have h6:=xD SA;refine⟨ha,i+1,j+k,I,I,?_,?_⟩
   ·rw[Nat.mul_add];omega
   ·rw[Nat.mul_add];omega
  |inr f=>
   simp only;obtain⟨k,t',g,hlo,hhi,SA,lK,ha⟩:=hf f he;obtain⟨q,rfl⟩:∃q,m=k+(q+1):=⟨m-k-1,I⟩;rw[CU SA,oG,lK];simp only;have h5:=(wD he).1;have h6:=xD SA;have h7:=(wD lK).1;exact⟨ha,1,k+1,h5,I,I,I⟩
inductive Rq(FR:Int->Int->mf->mf->Prop):List mf->List mf->Int->Int->Prop
 |nil (d e:Int):Rq FR [] [] d e
 |add {l m:List mf} {f g:mf} {d e:Int}:Rq FR l m f.dst g.dst->FR d e f g->Rq FR (l++[f]) (m++[g]) d e
theorem Rq.len{FR:Int->Int->mf->mf->Prop}{l m:List mf}{d e:Int}(h:Rq FR l m d e):m.length=l.length:=by
 induction h with
 |nil=>rfl
 |add _ _ ih=>simp[ih]
theorem Rq.aak{FR:Int->Int->mf->mf->Prop}{l' m:List mf}{d e:Int}(h:Rq FR l' m d e):(l'=[]/\m=[])∨∃l f m' g,l'=l++[f]/\m=m'++[g]/\Rq FR l m' f.dst g.dst/\FR d e f g:=by
 cases h with
 |nil=>exact .inl ⟨rfl,rfl⟩
 |add h1 h2=>exact .inr ⟨_,_,_,_,rfl,rfl,h1,h2⟩
structure aad(FR:Int->Int->mf->mf->Prop)(FT:mf->mf->Prop)(s t:j7):Prop where
 mem:t.mem=s.mem
 dr:t.dr=s.dr
 out:t.out=s.out
 stk:Rq FR s.rest t.rest s.bJ.dst t.bJ.dst
 bJ:FT s.bJ t.bJ
theorem GZ{u v:a8}{s t:j7}{x y:dJ}(Fp:y.op=x.op)(qq:y.fn=x.fn)(ha:cK t.bJ y.a=cK s.bJ x.a)(hb:cK t.bJ y.b=cK s.bJ x.b)(ri:x.op=20->y.args.map (cK t.bJ)=x.args.map (cK s.bJ))
  (hm:t.mem=s.mem) (hi:t.dr=s.dr) (ho:t.out=s.out) (hl:t.rest.length=s.rest.length) (hdx:x.op=19∨x.op=22->x.dst<0) (hdy:x.op=19∨x.op=22->y.dst<0):
  (∃f g,kY u s x=.inr f/\kY v t y=.inr g/\Alike f g)∨
  (x.op=20/\kY u s x=.inl (vh u s x.fn.toNat x.dst (x.args.map (cK s.bJ)))/\kY v t y=.inl (vh v t x.fn.toNat y.dst (x.args.map (cK s.bJ))))∨
  (x.op≠20/\∃mem dr out n,kY u s x=.inl {s with mem:=mem,dr:=dr,out:=out,bJ:=s.bJ.set x.dst n}/\kY v t y=.inl {t with mem:=mem,dr:=dr,out:=out,bJ:=t.bJ.set y.dst n}):=by
 obtain⟨aj4,aj3,aj5,ss,sr,st,sc⟩:=s;obtain⟨aca,aeW,acb,ts,tr,tt,tc⟩:=t;simp only at ha hb ri hm hi ho hl;subst hm hi ho;have rS:∀(f:mf) (d n:Int),d<0->f.set d n=f:=λf d n h=>by
  unfold mf.set uD;rw[if_neg I]
 unfold kY;simp only[Fp,qq,ha,hb,hl]
 by_cases h1:x.op=18∨x.op=19
 ·simp only[if_pos h1]
  by_cases hw:(!within (cK st x.a) 0 ((aca.length:Int)-1))=true
  ·simp only[hw,if_true]
   exact .inl ⟨_,_,rfl,rfl,rfl,rfl,rfl⟩
  ·simp only[hw]
   refine .inr (.inr ⟨I,?_⟩)
   by_cases h9:x.op=19
   ·simp only[h9,if_true]
    refine⟨aca.set (cK st x.a).toNat (cK st x.b),aeW,acb,0,?_,?_⟩
    ·rw[rS _ _ _ (hdx (.inl h9))];rfl
    ·rw[rS _ _ _ (hdy (.inl h9))];rfl
   ·simp only[h9,if_false]
    exact⟨_,_,_,_,rfl,rfl⟩
 simp only[if_neg h1]
 by_cases h2:x.op=20
 ·simp only[if_pos h2,ri h2]
  by_cases hd:sr.length+1=30
  ·simp only[hd,if_true]
   exact .inl ⟨_,_,rfl,rfl,rfl,rfl,rfl⟩
  ·simp only[hd,if_false]
   exact .inr (.inl ⟨h2,by trivial,by trivial⟩)
 simp only[if_neg h2]
 by_cases h3:x.op=21
 ·simp only[if_pos h3]
  exact .inr (.inr ⟨I,_,_,_,_,rfl,rfl⟩)
 simp only[if_neg h3]
 by_cases h4:x.op=22
 ·simp only[if_pos h4]
  by_cases hd:acb.length=200
  ·simp only[hd,if_true]
   exact .inl ⟨_,_,rfl,rfl,rfl,rfl,rfl⟩
  ·simp only[hd,if_false]
   refine .inr (.inr ⟨I,aca,aeW,acb++[cK st x.a],0,?_,?_⟩)
   ·rw[rS _ _ _ (hdx (.inr h4))]
   ·rw[rS _ _ _ (hdy (.inr h4))]
 simp only[if_neg h4];cases rK x.op (cK st x.a) (cK st x.b)with
 |none=>exact .inl ⟨_,_,rfl,rfl,rfl,rfl,rfl⟩
 |some n=>exact .inr (.inr ⟨h2,_,_,_,_,rfl,rfl⟩)
theorem Hs{u v:a8}{FR:Int->Int->mf->mf->Prop}{s t:j7}{B akh:E}(h2:B.kind≠2)(h3:B.kind≠3)(hk:akh.kind=B.kind)(Ja:cK t.bJ akh.on=cK s.bJ B.on)(ho:t.out=s.out)(hs:Rq FR s.rest t.rest s.bJ.dst t.bJ.dst):
  (∃f g,mj u s B=.inr f/\mj v t akh=.inr g/\Alike f g)∨
  (∃l f m g,s.rest=l++[f]/\t.rest=m++[g]/\mj u s B=.inl {s with rest:=l,bJ:=f.set s.bJ.dst (cK s.bJ B.on)}/\mj v t akh=.inl {t with rest:=m,bJ:=g.set t.bJ.dst (cK s.bJ B.on)}/\Rq FR l m f.dst g.dst/\FR s.bJ.dst t.bJ.dst f g):=by
 unfold mj;rw[hk,Ja];simp only[if_neg h2,if_neg h3];rcases hs.aak with⟨e1,e2⟩|⟨l,f,m,g,e1,e2,e3,e4⟩
 ·refine .inl ⟨s.stop 0 (cK s.bJ B.on),t.stop 0 (cK s.bJ B.on),by rw[e1];rfl,by rw[e2];rfl,rfl,rfl,ho⟩
 ·refine .inr ⟨l,f,m,g,e1,e2,?_,?_,e3,e4⟩
  ·rw[e1];simp
  ·rw[e2];simp
theorem Dt{u v:a8}{s t:j7}{B akh:E}(hB:B.kind=2∨B.kind=3)(hk:akh.kind=B.kind)(hl:(B.to.length:Int)=B.kind-1)(Ja:cK t.bJ akh.on=cK s.bJ B.on):
  ∃i,i<B.to.length/\mj u s B=.inl (s_ u s (B.to.getD i 0))/\mj v t akh=.inl (s_ v t (akh.to.getD i 0)):=by
 unfold mj;rw[hk,Ja];rcases hB with h|h
 ·simp only[if_pos h]
  exact⟨0,I,rfl,rfl⟩
 ·simp only[if_neg (show¬B.kind=2 by omega),if_pos h]
  by_cases h0:cK s.bJ B.on≠0
  ·simp only[if_pos h0]
   exact⟨0,I,rfl,rfl⟩
  ·simp only[if_neg h0]
   exact⟨1,I,rfl,rfl⟩
def xX(aB:List Int)(l:List (Nat×Int)):List Int:=l.foldl (λrs p=>rs.set p.1 p.2) aB
def qu:List (Nat×Int)->Nat->Option Int
 |[],_=>A
 |p::l,r=>match qu l r with
  |some x=>Z x
  |none=>if p.1=r then Z p.2 else A
theorem rr(p:Nat×Int)(l:List (Nat×Int))(r:Nat):qu (p::l) r=match qu l r with|some x=>Z x|none=>if p.1=r then Z p.2 else A:=rfl
theorem MA(l:List (Nat×Int)):∀aB:List Int,(xX aB l).length=aB.length:=by
 induction l with
 |nil=>exact λ_=>rfl
 |cons p l ih=>exact λaB=>by unfold xX at ih⊢;rw[gj,ih,eL]
theorem xY(l:List (Nat×Int))(r:Nat):∀aB:List Int,(xX aB l)[r]?=(aB[r]?).map λx=>(qu l r).getD x:=by
 induction l with
 |nil=>exact λaB=>by simp[xX,qu]
 |cons p l ih=>
  intro aB;unfold xX at ih⊢;rw[gj,ih,ez];rw[rr];cases h:qu l r with
  |some x=>
   by_cases e:p.1=r
   ·by_cases hl:p.1<aB.length
    ·simp[e,e▸hl]
    ·simp[e,e▸hl]
   ·simp[e]
  |none=>
   by_cases e:p.1=r
   ·by_cases hl:p.1<aB.length
    ·simp[e,e▸hl]
    ·simp[e,e▸hl]
   ·simp[e]
theorem tp(f:mf)(k:Nat)(ps:List ep):jp f k ps=xX f.aB (ps.map λp=>(p.dst.toNat,cK f (p.src.getD k iu))):=by
 unfold jp xX;rw[List.foldl_map]
theorem ui{l:List (Nat×Int)}{r:Nat}:qu l r=A↔∀p∈l,p.1≠r:=by
 induction l with
 |nil=>simp[qu]
 |cons p l ih=>
  rw[rr];cases h:qu l r with
  |some x=>
   rw[h]at ih;simp only[reduceCtorEq,false_iff]at ih⊢;exact λhh=>ih λq hq=>hh q (cO _ hq)
  |none=>
   have ih:=ih.1 h;simp only
   split
   ·rename_i e
    simp only[reduceCtorEq,false_iff];exact λhh=>hh p aC e
   ·rename_i e
    simp only[true_iff];intro q hq;rcases bD.1 hq with rfl|hq
    ·exact e
    ·exact ih q hq
theorem Ax{l:List cg}{v:cg}{r:Nat}(hv:v∈l)(h1:v.z=true)(h2:v.n=r):k_ l r=true:=by
 unfold k_;exact mW.2 ⟨v,hv,by simp[h1,h2]⟩
section
variable {bl:List E} {b i:Nat} {B:E} {x:dJ}
theorem QR{t k:Nat}{p:ep}{r:Nat}(hp:p∈fD bl t)(hk:k=(aZ bl t).idxOf b)(h1:(p.src.getD k iu).z=true)(h2:(p.src.getD k iu).n=r):uH bl t b r=true:=by
 unfold uH;refine mW.2 ⟨p,hp,?_⟩;subst hk;rw[<-cB];exact Ax aC h1 h2
end
theorem qW{fs:List aY}{R:Int}{x:dJ}(h:eu fs R x=0):(x.a∈ff x∨x.a=iu)/\(x.b∈ff x∨x.b=iu)/\(x.op=20->x.args=ff x)/\(x.op=19∨x.op=22->x.dst<0):=by
 unfold eu at h
 split at h
 ·cases h
 rename_i Fp
 split at h
 ·cases h
 rename_i hs;simp only[Bool.not_eq_true]at hs;clear h;have Fp:1<=x.op/\x.op<=22:=by simp[within]at Fp;omega
 have oB:∀v:cg,jo v=true->v=iu:=λv hv=>by
  obtain⟨vr,vn⟩:=v;simp only[jo,Bool.and_eq_true,beq_iff_eq,decide_eq_true_eq]at hv;obtain⟨rfl,rfl⟩:=hv
  rfl
 unfold rJ at hs;simp only[Bool.or_eq_false_iff,Bool.and_eq_false_iff,Bool.not_eq_false',decide_eq_false_iff_not]at hs;obtain⟨⟨⟨h1,h2⟩,h3⟩,h4⟩:=hs;unfold shape at h1 h2 h3;unfold ff
 by_cases Y3:x.op=20
 ·simp[Y3]at h2 h3⊢
  exact⟨.inr (oB _ h2),.inr (oB _ h3)⟩
 by_cases e21:x.op=21
 ·simp[e21]at h2 h3⊢
  exact⟨oB _ h2,oB _ h3⟩
 rw[if_neg e21,if_neg Y3]
 by_cases e1:((x.op=1∨x.op=16)∨x.op=17)∨x.op=18
 ·rw[if_pos e1]at h1 h2 h3
  rw[if_neg I,if_pos I];simp at h3;exact⟨.inl aC,.inr (oB _ h3),λe=>absurd e Y3,λe=>I⟩
 rw[if_neg e1]at h1 h2 h3
 by_cases e2:2<=x.op/\x.op<=15
 ·rw[if_pos (.inl e2)]
  exact⟨.inl aC,.inl aC,λe=>absurd e Y3,λe=>I⟩
 rw[if_neg e2]at h1 h2 h3
 by_cases e3:x.op=19
 ·simp[e3]at h1⊢
  omega
 have e4:x.op=22:=I;simp[e4]at h1 h3⊢;exact⟨.inr (oB _ h3),I⟩
theorem xV{bl oy:List E}(hl:oy.length=bl.length)(ht:∀i,db oy i=db bl i)(t:Nat):aZ oy t=aZ bl t:=by
 unfold aZ;simp only[hl,ht]
end
section
set_option maxHeartbeats 8000000
attribute [local irreducible] wpListIn Code.wpIn Exit.then Exit.inBlock bodyPost wpQuiet wpAnyIn wpAnyH bodyPostM
theorem gM(a:Int):decide (a=a)=true:=by simp
theorem Ec(a b:V)(l:List cg)(w0:C)(ha:aG w0 a 2 l mi)(hb:aG w0 b 2 l mi):eP ae 139 [a,b] w0 (D true):=by
 obtain⟨aa,an,ac,ab,ao,rfl,rfl,_,_,_,IN,Ad⟩:=ha;obtain⟨ba,bn,bc,bb,bo,rfl,rfl,_,_,_,yh,EG⟩:=hb;refine aM func139 rfl ntmps139 rfl (Wd.nil cX w0) ?_;refine aU ?_;rw[gM];refine aH ?_;refine bL (λ(i:Nat)=>i<=l.length) (λi=>[(5,U O i),(0,J aa l.length ac),(1,J ba l.length bc)]) (λ_=>[]) (λi=>l.length-i) 0 (aT _) (aS ap aC) λi hi=>?_;refine aU ?_;refine aI (λh2=>?_) (λh2=>?_)
 ·have bS:i<l.length:=ax h2
  obtain⟨x,hx⟩:=bf l i bS;have oW:bU aa ab ao:=⟨IN (aL hx)⟩;have r5:bU ba bb bo:=⟨yh (aL hx)⟩;have lY:bY i l.length:=⟨bS⟩;obtain⟨_,fT,rfl,_⟩:=Ad i x hx;obtain⟨_,oY,rfl,_⟩:=EG i x hx;have n_:a6 w0 ab (ao+i*2) _:=⟨fT⟩;have VK:a6 w0 bb (bo+i*2) _:=⟨oY⟩;refine aH ?_;refine jj mixed aR ?_;refine iH ?_;rw[gM,beq_self_eq_true,Bool.and_self];refine aH ?_;rw[show(i:Int)+1=((i+1:Nat):Int) by omega];refine bj (i+1) bS I ap aK
 refine aE ?_;exact bP rfl rfl
theorem PJ(x:dJ)(va vb:V)(w0:C)(ha:aG w0 va 2 x.args mi)(hb:aG w0 vb 2 x.args mi):
  eP ae 140 [au #[U O x.op,U O x.dst,D x.a.z,U O x.a.n,D x.b.z,U O x.b.n,U O x.fn,va],au #[U O x.op,U O x.dst,D x.a.z,U O x.a.n,D x.b.z,U O x.b.n,U O x.fn,vb]] w0 (D true):=by
 have WU:=ha;have uZ:=hb;obtain⟨aa,an,ac,_,_,rfl,_⟩:=ha;obtain⟨ba,bn,bc,_,_,rfl,_⟩:=hb;refine aM func140 rfl ntmps140 rfl (Wd.nil cX w0) ?_
 repeat(first|refine aU ?_|refine dZ λ_ _=>?_)
 rw[gM];refine aE ?_;rw[gM];refine aE ?_;rw[gM,beq_self_eq_true,Bool.and_self];refine aE ?_;rw[gM,beq_self_eq_true,Bool.and_self];refine aE ?_;rw[gM];refine aE ?_;refine bB rfl (λw hw=>Ec _ _ x.args w (WU.bZ kq hw.ch) (uZ.bZ kq hw.ch)) ?_;refine aH ?_;exact bP rfl rfl
theorem H_(p l t p2 l2 t2:V)(B:E)(w0:C)(hp:aG w0 p 2 B.aD Cm)(hl:aG w0 l 8 B.list Cj)(ht:aG w0 t 1 B.to fI)(Lu:aG w0 p2 2 B.aD Cm)(HI:aG w0 l2 8 B.list Cj)(LD:aG w0 t2 1 B.to fI):
  eP ae 93 [au #[p,l,U O B.kind,D B.on.z,U O B.on.n,t],au #[p2,l2,U O B.kind,D B.on.z,U O B.on.n,t2]] w0 (D true):=by
 have Ks:=ht;have ahn:=LD;obtain⟨pa,pn,pc,pb,po,rfl,rfl,_,_,_,hpa,Lv⟩:=hp;obtain⟨qa,qn,qc,qb,qo,rfl,rfl,_,_,_,Dg,ag6⟩:=Lu;obtain⟨la,ln,lc,lb,lo,rfl,rfl,_,_,_,I6,Ak⟩:=hl;obtain⟨ma,mn,mc,mb,mo,rfl,rfl,_,_,_,Nr,Ls⟩:=HI;obtain⟨ta,tn,tc,_,_,rfl,_⟩:=ht;obtain⟨ua,un,uc,_,_,rfl,_⟩:=LD;refine aM func93 rfl ntmps93 rfl (Wd.nil cX w0) ?_
 repeat(first|refine aU ?_|refine dZ λ_ _=>?_)
 rename_i p2 _ p3 _;rw[gM,Bool.not_true];refine aE ?_;rw[gM,Bool.not_true];refine aH ?_;refine bL (λ(i:Nat)=>i<=B.aD.length) (λi=>[(5,U O i),aj 2 p2,aj 3 p3]) (λ_=>[K p3 [J qa B.aD.length qc,J ma B.list.length mc,U O B.kind,D B.on.z,U O B.on.n,J ua un uc] 46,K p2 [J pa B.aD.length pc,J la B.list.length lc,U O B.kind,D B.on.z,U O B.on.n,J ta tn tc] 46]) (λi=>B.aD.length-i) 0 (aT _) (aS ap aC) λi hi=>?_;refine aU ?_;refine aI (λh2=>?_) (λh2=>?_)
 ·have bS:i<B.aD.length:=ax h2
  obtain⟨x,hx⟩:=bf B.aD i bS;have oW:bU pa pb po:=⟨hpa (aL hx)⟩;have r5:bU qa qb qo:=⟨Dg (aL hx)⟩;have lY:bY i B.aD.length:=⟨bS⟩;obtain⟨_,fT,v1,rfl,_,ZU⟩:=Lv i x hx;obtain⟨_,oY,v2,rfl,_,tI⟩:=ag6 i x hx;have ahw:=ZU;have ahx:=tI;obtain⟨_,_,_,_,_,rfl,_⟩:=ZU;obtain⟨_,_,_,_,_,rfl,_⟩:=tI;have n_:a6 w0 pb (po+i*2) _:=⟨fT⟩;have VK:a6 w0 qb (qo+i*2) _:=⟨oY⟩;refine aH ?_;refine jj mixed aR ?_;refine iH ?_;rw[gM,Bool.not_true];refine iH ?_;refine pu rfl (λw hw=>Ec _ _ x.src w (ahw.bZ kq hw.ch) (ahx.bZ kq hw.ch)) ?_;refine iH ?_;refine aH ?_;rw[show(i:Int)+1=((i+1:Nat):Int) by omega];refine bj (i+1) bS I ap aK
 refine aE ?_;refine bL (λ(i:Nat)=>i<=B.list.length) (λi=>[(6,U O i),aj 2 p2,aj 3 p3]) (λ_=>[K p3 [J qa B.aD.length qc,J ma B.list.length mc,U O B.kind,D B.on.z,U O B.on.n,J ua un uc] 46,K p2 [J pa B.aD.length pc,J la B.list.length lc,U O B.kind,D B.on.z,U O B.on.n,J ta tn tc] 46]) (λi=>B.list.length-i) 0 (aT _) (aS ap aC) λi hi=>?_;refine aU ?_;refine aI (λh3=>?_) (λh3=>?_)
 ·have bS:i<B.list.length:=ax h3
  obtain⟨x,hx⟩:=bf B.list i bS;have oW:bU la lb lo:=⟨I6 (aL hx)⟩;have r5:bU ma mb mo:=⟨Nr (aL hx)⟩;have lY:bY i B.list.length:=⟨bS⟩;obtain⟨_,fT,v1,rfl,_,_,_,_,_,ZU⟩:=Ak i x hx;obtain⟨_,oY,v2,rfl,_,_,_,_,_,tI⟩:=Ls i x hx;have n_:a6 w0 lb (lo+i*8) _:=⟨fT⟩;have VK:a6 w0 mb (mo+i*8) _:=⟨oY⟩;refine aH ?_;refine jj mixed aR ?_;refine iH ?_;refine pu rfl (λw hw=>PJ x _ _ w (ZU.bZ kq hw.ch) (tI.bZ kq hw.ch)) ?_;refine iH ?_;refine aH ?_;rw[show(i:Int)+1=((i+1:Nat):Int) by omega];refine bj (i+1) bS I ap aK
 refine aE ?_;rw[gM];refine aE ?_;rw[gM,beq_self_eq_true,Bool.and_self];refine aE ?_;refine bB rfl (λw hw=>LN _ _ B.to B.to w (Ks.bZ dP hw.ch) (ahn.bZ dP hw.ch)) ?_;rw[show decide (B.to=B.to)=true by simp];refine aH ?_;exact bP rfl rfl
theorem K4(nm:ByteArray)(pa re:Int)(bl:List E)(v v2:V)(w0:C)(hv:aG w0 v 6 bl ed)(tI:aG w0 v2 6 bl ed):
  eP ae 57 [au #[G nm,U O pa,U O re,v],au #[G nm,U O pa,U O re,v2]] w0 (D true):=by
 obtain⟨la,ln,lc,lb,lo,rfl,rfl,_,_,_,I6,Ak⟩:=hv;obtain⟨ma,mn,mc,mb,mo,rfl,rfl,_,_,_,Nr,Ls⟩:=tI;refine aM func57 rfl ntmps57 rfl (Wd.nil cX w0) ?_
 repeat(first|refine aU ?_|refine dZ λ_ _=>?_)
 rename_i p2 _ p3 _;rw[show(!(nm.toList==nm.toList))=false by simp];refine aE ?_;rw[gM,Bool.not_true];refine aE ?_;rw[gM,Bool.not_true];refine aE ?_;rw[gM,Bool.not_true];refine aH ?_;refine bL (λ(i:Nat)=>i<=bl.length) (λi=>[(5,U O i),aj 2 p2,aj 3 p3]) (λ_=>[K p3 [G nm,U O pa,U O re,J ma bl.length mc] 35,K p2 [G nm,U O pa,U O re,J la bl.length lc] 35]) (λi=>bl.length-i) 0 (aT _) (aS ap aC) λi hi=>?_;refine aU ?_;refine aI (λh2=>?_) (λh2=>?_)
 ·have bS:i<bl.length:=ax h2
  obtain⟨x,hx⟩:=bf bl i bS;have oW:bU la lb lo:=⟨I6 (aL hx)⟩;have r5:bU ma mb mo:=⟨Nr (aL hx)⟩;have lY:bY i bl.length:=⟨bS⟩;obtain⟨_,fT,p1,l1,t1,rfl,_,_,Fi,VE,VF⟩:=Ak i x hx;obtain⟨_,oY,p4,l4,t4,rfl,_,_,h41,h42,h43⟩:=Ls i x hx;have n_:a6 w0 lb (lo+i*6) _:=⟨fT⟩;have VK:a6 w0 mb (mo+i*6) _:=⟨oY⟩;refine aH ?_;refine jj mixed aR ?_;refine iH ?_;refine pu rfl (λw hw=>H_ _ _ _ _ _ _ x w (Fi.bZ te hw.ch) (VE.bZ wm hw.ch) (VF.bZ dP hw.ch) (h41.bZ te hw.ch) (h42.bZ wm hw.ch) (h43.bZ dP hw.ch)) ?_;refine iH ?_;refine aH ?_;rw[show(i:Int)+1=((i+1:Nat):Int) by omega];refine bj (i+1) bS I ap aK
 refine aE ?_;exact bP rfl rfl
theorem EF(v v2:V)(gl:List jt)(w0:C)(hv:aG w0 v 3 gl fg)(tI:aG w0 v2 3 gl fg):
  eP ae 56 [v,v2] w0 (D true):=by
 obtain⟨la,ln,lc,lb,lo,rfl,rfl,_,_,_,I6,Ak⟩:=hv;obtain⟨ma,mn,mc,mb,mo,rfl,rfl,_,_,_,Nr,Ls⟩:=tI;refine aM func56 rfl ntmps56 rfl (Wd.nil cX w0) ?_;refine aU ?_;rw[gM];refine aH ?_;refine bL (λ(i:Nat)=>i<=gl.length) (λi=>[(5,U O i),(0,J la gl.length lc),(1,J ma gl.length mc)]) (λ_=>[]) (λi=>gl.length-i) 0 (aT _) (aS ap aC) λi hi=>?_;refine aU ?_;refine aI (λh2=>?_) (λh2=>?_)
 ·have bS:i<gl.length:=ax h2
  obtain⟨x,hx⟩:=bf gl i bS;have oW:bU la lb lo:=⟨I6 (aL hx)⟩;have r5:bU ma mb mo:=⟨Nr (aL hx)⟩;have lY:bY i gl.length:=⟨bS⟩;obtain⟨_,fT,v1,rfl,_,Fi⟩:=Ak i x hx;obtain⟨_,oY,v4,rfl,_,h41⟩:=Ls i x hx;have aff:=Fi;have afi:=h41;obtain⟨_,_,_,_,_,rfl,_⟩:=Fi;obtain⟨_,_,_,_,_,rfl,_⟩:=h41;have n_:a6 w0 lb (lo+i*3) _:=⟨fT⟩;have VK:a6 w0 mb (mo+i*3) _:=⟨oY⟩;refine aH ?_;refine jj mixed aR ?_;refine iH ?_;rw[show(!(x.name.toList==x.name.toList))=false by simp];refine iH ?_;rw[gM,Bool.not_true];refine iH ?_;refine pu rfl (λw hw=>LN _ _ x.init x.init w (aff.bZ dP hw.ch) (afi.bZ dP hw.ch)) ?_;rw[show decide (x.init=x.init)=true by simp];refine iH ?_;refine aH ?_;rw[show(i:Int)+1=((i+1:Nat):Int) by omega];refine bj (i+1) bS I ap aK
 refine aE ?_;exact bP rfl rfl
theorem Kj(g f g2 f2:V)(u:a8)(w0:C)(hg:aG w0 g 3 u.globals fg)(hf:aG w0 f 4 u.funcs gq)(Lm:aG w0 g2 3 u.globals fg)(hf2:aG w0 f2 4 u.funcs gq):
  eP ae 22 [au #[g,f],au #[g2,f2]] w0 (D true):=by
 have yX:=hg;have agi:=Lm;obtain⟨ga,gn,gc,_,_,rfl,_⟩:=hg;obtain⟨ha,hn,hc,_,_,rfl,_⟩:=Lm;obtain⟨la,ln,lc,lb,lo,rfl,rfl,_,_,_,I6,Ak⟩:=hf;obtain⟨ma,mn,mc,mb,mo,rfl,rfl,_,_,_,Nr,Ls⟩:=hf2;refine aM func22 rfl ntmps22 rfl (Wd.nil cX w0) ?_
 repeat(first|refine aU ?_|refine dZ λ_ _=>?_)
 rename_i p2 _ p3 _;refine bB rfl (λw hw=>EF _ _ u.globals w (yX.bZ dq hw.ch) (agi.bZ dq hw.ch)) ?_;refine aE ?_;rw[gM];refine aH ?_;refine bL (λ(i:Nat)=>i<=u.funcs.length) (λi=>[(5,U O i),aj 2 p2,aj 3 p3]) (λ_=>[K p3 [J ha hn hc,J ma u.funcs.length mc] 25,K p2 [J ga gn gc,J la u.funcs.length lc] 25]) (λi=>u.funcs.length-i) 0 (aT _) (aS ap aC) λi hi=>?_;refine aU ?_;refine aI (λh2=>?_) (λh2=>?_)
 ·have bS:i<u.funcs.length:=ax h2
  obtain⟨x,hx⟩:=bf u.funcs i bS;have oW:bU la lb lo:=⟨I6 (aL hx)⟩;have r5:bU ma mb mo:=⟨Nr (aL hx)⟩;have lY:bY i u.funcs.length:=⟨bS⟩;obtain⟨_,fT,v1,rfl,_,_,Fi⟩:=Ak i x hx;obtain⟨_,oY,v4,rfl,_,_,h41⟩:=Ls i x hx;have n_:a6 w0 lb (lo+i*4) _:=⟨fT⟩;have VK:a6 w0 mb (mo+i*4) _:=⟨oY⟩;refine aH ?_;refine jj mixed aR ?_;refine iH ?_;refine pu rfl (λw hw=>K4 _ _ _ x.blocks _ _ w (Fi.bZ dH hw.ch) (h41.bZ dH hw.ch)) ?_;refine iH ?_;refine aH ?_;rw[show(i:Int)+1=((i+1:Nat):Int) by omega];refine bj (i+1) bS I ap aK
 refine aE ?_;exact bP rfl rfl
theorem Ub(g f:V)(u:a8)(w0:C)(hg:aG w0 g 3 u.globals fg)(hf:aG w0 f 4 u.funcs gq):
  eP ae 12 [au #[g,f]] w0 (D (decide (u.globals.length=0)&&decide (u.funcs.length=0))):=by
 obtain⟨ga,gn,gc,_,_,rfl,rfl,_⟩:=hg;obtain⟨fa,fn,fc,_,_,rfl,rfl,_⟩:=hf;refine aM func12 rfl ntmps12 rfl (Wd.nil cX w0) ?_
 repeat(first|refine aU ?_|refine dZ λ_ _=>?_)
 by_cases h1:u.globals.length=0
 ·rw[show decide ((u.globals.length:Int)=0)=true by simp[h1],show decide (u.globals.length=0)=true by simp[h1]]
  refine aE ?_;refine bP rfl ?_;rw[Bool.true_and];congr 1;simp
 ·rw[show decide ((u.globals.length:Int)=0)=false by simp only[decide_eq_false_iff_not];omega,show decide (u.globals.length=0)=false by simp[h1]]
  refine iL ?_;exact bP rfl rfl
theorem NU(w0:C):eP ae 12 [au #[J A 0 0,J A 0 0]] w0 (D true):=by
 have h1:aG w0 (J A 0 0) 3 ([]:List jt) fg:=⟨A,0,0,0,0,rfl,rfl,I,I,I,by simp,by simp⟩;have h2:aG w0 (J A 0 0) 4 ([]:List aY) gq:=⟨A,0,0,0,0,rfl,rfl,I,I,I,by simp,by simp⟩;exact Ub _ _ ⟨[],[]⟩ w0 h1 h2
section
theorem L9{α:Type}(l:List α)(f g:α->α)(b:Nat):(l.modify b f).modify b g=l.modify b λx=>g (f x):=by
 apply ci;intro m;simp only[mM];cases l[m]? with
 |none=>rfl
 |some x=>
  simp only[Option.map_eq_map,bu]
  by_cases h1:b=m<;>simp[h1]
section
variable {u v:a8} {W:Int} {pos:Nat->Nat->Nat->Nat}
theorem Alike.refl(f:Fin):Alike f f:=⟨rfl,rfl,rfl⟩
theorem Alike.trans{f g h:Fin}(a:Alike f g)(b:Alike g h):Alike f h:=⟨b.state.trans a.state,b.value.trans a.value,b.out.trans a.out⟩
def lC(u v:a8):Prop:=∀(dr:List Int) (f m:Nat),(∀x∈dr,dk x)->(cJ u dr f).state≠1->f<=m->Alike (cJ u dr f) (cJ v dr m)/\(cJ v dr m).steps<=(cJ u dr f).steps
theorem zt(u:a8):∀(n m:Nat) (s:j7),(oG u n s).state≠1->n<=m->oG u m s=oG u n s
 |0,_,_,h,_=>absurd rfl h
 |n+1,m,s,h,hm=>by
  obtain⟨m,rfl⟩:∃q,m=q+1:=⟨m-1,I⟩;rw[oG]at h⊢;rw[oG];cases he:jr u s with
  |inl s'=>
   rw[he]at h;exact zt u n m s' h I
  |inr f=>rfl
theorem lC.refl(u:a8):lC u u:=λdr f m _ h hm=>by
 have:cJ u dr m=cJ u dr f:=zt u f m _ h hm;rw[this];exact⟨.refl _,bG _⟩
theorem lC.trans{a b c:a8}(h:lC a b)(k:lC b c):lC a c:=λdr f m oA h1 hm=>by
 obtain⟨h2,h3⟩:=h dr f f oA h1 (bG _);obtain⟨h4,h5⟩:=k dr f m oA (by rw[h2.state];exact h1) hm;exact⟨h2.trans h4,du h5 h3⟩
end
structure Whole(u:a8):Prop where
 ok:jE u
 tl:acs u
 M9:aco u
theorem Whole.fit{u:a8}(h:Whole u):jH u:=Ki (A_ h.ok) (fN.2 h.ok) h.tl
theorem Whole.start{u:a8}(h:Whole u):yt u:=Ba (fN.2 h.ok) h.M9
def sJ(X:aY)(bl:List E):aY:={X with blocks:=bl}
def rE(u:a8)(k:Nat)(bl:List E):a8:={u with funcs:=u.funcs.modify k λX=>sJ X bl}
theorem tx(u:a8)(k:Nat)(bl:List E)(j:Nat):(rE u k bl).funcs[j]?=if k=j then(u.funcs[j]?).map (λX=>sJ X bl)else u.funcs[j]?:=by
 unfold rE;simp only;rw[mM]
 by_cases e:k=j
 ·simp only[e,if_true];rfl
 ·simp only[e,if_false,id_map']
end
attribute [local irreducible] j5
section
section
variable {P:Program} {N:Nat} {ds:List Deferred} {S:Nat->Prop} {w0:C} {L L':List (Nat×V)} {H H' Hr:List bN} {x y:Operand} {akd:Act->C->Prop} {l:List Oper} {bH:Nat} {listed:Array Bool}
theorem qT{ty T b o off j n c e s m:Nat}(i k:Nat){xs vs:List V}{pos:String}{aft:Array Go.Edge}[ho:dF l i ⟨A,.store T x y,ty,pos,aft,A⟩][h:eD P T m][hx:Ev L x (ar (Z ⟨b,off,A⟩))][hy:Ev L y (au vs.toArray)][hn:lA vs m][h1:u4 vs]
  (hk:H[k]?=Z (M (Z ⟨b,o,A⟩) n c e s xs)) (Da:off=o+j) (gI:j+m<=xs.length) (O_:Hr.Sublist (H.set k (M (Z ⟨b,o,A⟩) n c e s (xs.take j++vs++xs.drop (j+m)))))
  (kk:aki N ds S w0 L (H.set k (M (Z ⟨b,o,A⟩) n c e s (xs.take j++vs++xs.drop (j+m)))) (wpAnyH P .any l.toArray (dK akd) (Wd S w0 Hr) bH (listed.setIfInBounds i true))):aki N ds S w0 L H (j5 P l akd (Wd S w0 Hr) bH listed i):=by
 refine Uj i rfl λa w hS=>?_;subst Da;have wl:=hn.eq;obtain⟨w',hs,tV⟩:=hS.wd.HA (P:=P) hk j (vs:=vs) h1.all I;rw[wl]at tV;refine⟨w',?_,tV.sub O_,kk _ _ ⟨hS.fr,tV⟩⟩;simp[execOp,hx.eq _ _ _ hS.fr,hy.eq _ _ _ hS.fr,Instr.storeAt,Instr.sureAddr,storeVar,h.sz,Value.cells,wl,hs]
end
end
theorem qR(bl:List E):(eB bl:Int)=gy bl:=by
 unfold eB gy
 induction bl with
 |nil=>rfl
 |cons b bl ih=>simp only[bT,eT,<-ih];omega
def AQ(b:aX):bN:=M b.ta b.to.length b.tc 3 1 (b.to.map (U O))
def phV(b:aX):bN:=M b.pa b.ps.length b.pc 49 2 (b.ps.flatMap cF)
def wR(b:aX):List bN:=M b.la b.xs.length b.lc 56 8 (b.xs.flatMap fe)::AQ b::b.xs.map j1
theorem H9(b:aX):(jM b).Perm (phV b::(b.ps.map fP++wR b)):=by
 unfold jM phV wR AQ;exact List.Perm.cons _ (cP (l₁:=[_,_]) (l₂:=b.ps.map fP++b.xs.map j1)|>.trans (by
  rw[dz];exact List.Perm.append_left _ (cP (l₁:=b.xs.map j1) (l₂:=[_,_]))))
def jq(bl:List E)(t:Nat)(p:ep)(b:Nat):cg:=p.src.getD ((aZ bl t).idxOf b) iu
theorem rY{bl:List E}(hg:cT bl){b:Nat}{t:Int}(h:t∈db bl b):0<=t/\t<bl.length/\b<bl.length:=by
 unfold db at h
 split at h
 ·rename_i B hB
  have:=(hg B (aq hB)).2 t h;exact⟨this.1,this.2,(az.1 hB).1⟩
 ·cases h
theorem nD{α β:Type}{f:α->β}:∀{l:List α},l.Nodup->(∀x∈l,∀y∈l,f x=f y->x=y)->(l.map f).Nodup
 |[],_,_=>by simp
 |a::l,h,hi=>by
  rw[mO]at h;rw[bT,mO];refine⟨λhm=>?_,nD h.2 λx hx y hy=>hi x (cO _ hx) y (cO _ hy)⟩;obtain⟨y,hy,e⟩:=aV.1 hm;have:=hi y (cO _ hy) a (tM ..) e;subst this;exact h.1 hy
theorem jV(bl:List E)(t:Nat):(aZ bl t).Nodup:=List.Nodup.sublist nV qE
theorem TN{l m:List cg}(hl:l.length=m.length)(h:∀i:Nat,i<l.length->l.getD i iu=m.getD i iu):l=m:=by
 refine List.ext_getElem hl λi h1 h2=>?_;have:=h i h1;rwa[cB,cB,a_ h1,a_ h2]at this
theorem QI{bl:List E}{t:Nat}{p:ep}(h:p.src.length=(aZ bl t).length):(aZ bl t).map (jq bl t p)=p.src:=by
 refine TN (by rw[aF,h]) λi hi=>?_;rw[aF]at hi;rw[cB,aJ,a_ hi,bu,dW];unfold jq;rw[(jV bl t).idxOf_getElem i hi]
theorem EM{α β:Type}(f:α->β)(l:List α)(i:Nat):(l.eraseIdx i).map f=(l.map f).eraseIdx i:=by rw[List.eraseIdx_eq_take_drop_succ,List.eraseIdx_eq_take_drop_succ,bz,List.map_take,List.map_drop]
theorem wC{R:Nat}{bl:List E}{t b:Nat}{p:ep}(hp:p.src.length=(aZ bl t).length)(hb:b∈aZ bl t):jq bl t p b∈p.src:=by
 have h:=ju hb;unfold jq;rw[cB,a_ I,dW];exact j9 _
theorem ae2{S:Nat->Prop}{w0 w:C}{H:List bN}{B:aX}(h:Wd S w0 H w)(hm:ck B∈H)(hB:B.Bd):aG w (J B.ta B.to.length B.tc) 1 B.to fI:=by
 obtain⟨r,hr⟩:=TW hm;have h1:=(h.perm hr).ql;refine h1.oH (k:=2) rfl rfl (by have:=hB.to.1;omega) λi x hx=>⟨[U O x],λj v hj=>?_,rfl,hB.to.2 x (aq hx)⟩
 match j,hj with
 |0,hj=>simpa[hx]using hj
structure mU(u:a8)(T:aY->aY)(i:Nat)(X:aY):Prop where
 at':u.funcs[i]?=Z X
 TK:gp (T X)=true
 before:∀(j:Nat) (Y:aY),j<i->u.funcs[j]?=Z Y->gp (T Y)=false
theorem mU.one{u:a8}{T:aY->aY}{i j:Nat}{X Y:aY}(h:mU u T i X)(k:mU u T j Y):i=j:=by
 rcases Nat.lt_trichotomy i j with h1|h1|h1
 ·exact absurd h.TK (by rw[k.before i X h1 h.at'];simp)
 ·exact h1
 ·exact absurd k.TK (by rw[h.before j Y h1 k.at'];simp)
theorem TL(u:a8)(T:aY->aY):(∃i X,mU u T i X)∨∀X∈u.funcs,gp (T X)=false:=by
 have key:∀n,(∃i X,mU u T i X)∨∀(j:Nat) (Y:aY),j<n->u.funcs[j]?=Z Y->gp (T Y)=false:=by
  intro n
  induction n with
  |zero=>exact .inr λj Y hj=>I
  |succ n ih=>
   rcases ih with ih|ih
   ·exact .inl ih
   ·cases hX:u.funcs[n]? with
    |none=>exact .inr λj Y hj hY=>ih j Y (by have:=(az.1 hY).1;have:=kD.1 hX;omega) hY
    |some X=>
     cases hL:gp (T X)with
     |true=>exact .inl ⟨n,X,hX,hL,ih⟩
     |false=>
      refine .inr λj Y hj hY=>?_
      by_cases e:j=n
      ·subst e
       rw[hX]at hY;obtain rfl:=a7 hY;exact hL
      ·exact ih j Y I hY
 rcases key u.funcs.length with h|h
 ·exact .inl h
 ·refine .inr λX hX=>?_
  obtain⟨j,hj⟩:=bg hX;exact h j X (az.1 hj).1 hj
theorem Qj(bl:List E)(t:Nat):(aZ bl t).Pairwise (·<·):=List.pairwise_lt_range.sublist nV
theorem JV(bl:List E)(t:Nat):∀q∈aZ bl t,q<bl.length:=λq hq=>cM.1 (cC.1 hq).1
theorem Mm{f g:mf}{k k':Nat}{ps:List ep}{F:ep->ep}(hr:g.aB=f.aB)(hd:∀p∈ps,(F p).dst=p.dst)(hs:∀p∈ps,(F p).src.getD k' iu=p.src.getD k iu):jp g k' (ps.map F)=jp f k ps:=by
 rw[tp,tp,hr,dE];congr 1;refine dD λp hp=>?_;simp only[Function.comp_apply];rw[hd p hp,hs p hp];unfold cK;rw[hr]
structure Ri(n:Nat)(R:Int)(B:E):Prop where
 kind:1<=B.kind/\B.kind<=3
 len:(B.to.length:Int)=B.kind-1
 to:∀t∈B.to,1<=t/\t<=(n:Int)-1
 two:B.kind=3->B.to[0]?.getD 0≠B.to[1]?.getD 0
 one:B.kind=2->jo B.on=true
 on:dV R B.on=0
theorem mB{n:Nat}{R:Int}{B:E}:k9 n R B=0↔Ri n R B:=by
 unfold k9 wI;constructor
 ·intro h
  split at h
  ·cases h
  rename_i h1
  split at h
  ·cases h
  rename_i h2
  split at h
  ·cases h
  rename_i h3
  split at h
  ·cases h
  rename_i h4;simp only[within,Bool.not_eq_true',Bool.and_eq_false_iff,decide_eq_false_iff_not,not_or,Decidable.not_not]at h1;simp only[Bool.or_eq_true,Bool.and_eq_true,decide_eq_true_eq,Bool.not_eq_true',not_or,not_and,Bool.not_eq_false]at h4;refine⟨I,ax h2,λt ht=>?_,h4.1,h4.2,h⟩;simp only[mW,not_exists,not_and,within,Bool.not_eq_true',Bool.and_eq_false_iff,decide_eq_false_iff_not,not_or,Decidable.not_not]at h3;have:=h3 t ht;omega
 ·intro h
  rw[if_neg,if_neg,if_neg,if_neg]
  ·exact h.on
  ·simp only[Bool.or_eq_true,Bool.and_eq_true,decide_eq_true_eq,Bool.not_eq_true',not_or,not_and,Bool.not_eq_false]
   exact⟨h.two,h.one⟩
  ·simp only[mW,not_exists,not_and,within,Bool.not_eq_true',Bool.and_eq_false_iff,decide_eq_false_iff_not,not_or,Decidable.not_not]
   exact h.to
  ·simpa using h.len
  ·simp only[within,Bool.not_eq_true',Bool.and_eq_false_iff,decide_eq_false_iff_not,not_or,Decidable.not_not]
   exact h.kind
theorem XH{l:List Nat}{a:Nat}(hn:l.Nodup)(h:∀x∈l,x=a):l.length<=1:=by
 match l,hn,h with
 |[],_,_=>simp
 |[_],_,_=>simp
 |x::y::l,hn,h=>
  have h1:=h x aC;have h2:=h y aC;rw[h1,h2]at hn;simp at hn
end
end Go.Proofs.YthfhgolkafpmnaaGreatDoor

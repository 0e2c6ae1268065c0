/- Own texts, packed: S1, S2, S3, S4, S5, S6, S7, K1, K2, K3, K4. -/
import Derived.Test.YtdlomlmijdifbaaGreatDoorGAg
/-! Lists that are told apart by a number of each member: sorted, and alike member by member of one number (what a stable sort keeps). Plain Lean; no program. -/
set_option linter.unusedVariables false
set_option linter.unusedSimpArgs false
namespace Go.V
section
variable {α : Type} (key : α → Int)
def dS(xs:List α):Prop:=xs.Pairwise (fun x y=>key x<=key y)
variable {key}
def ins(key:α->Int)(x:α):List α->List α
 | []=>[x]
 | y ::ys=>if key y<=key x then y ::ins key x ys else x ::y ::ys
def zY(key:α->Int)(xs:List α):List α:=xs.foldl (fun l x=>ins key x l) []
end
end Go.V
/-! What the steps of a stable sort by merging in place do to lists. Plain Lean; no program. -/
namespace Go.V
section
variable {α : Type} {key : α → Int}
theorem dS.head_le{S:List α}{y:α}(h:dS key (y ::S)):∀ x∈y ::S,key y<=key x:=by
 intro x hx;rcases List.mem_cons.1 hx with e | e
 ·rw[e];omega
 ·exact(List.pairwise_cons.1 h).1 x e
theorem dS.get{L:List α}(h:dS key L){i j:Nat}{x y:α}(DH:i<=j)(hx:L[i]?=some x)(hy:L[j]?=some y):key x<=key y:=by
 obtain⟨hi,rfl⟩:=List.getElem?_eq_some_iff.1 hx;obtain⟨hj,rfl⟩:=List.getElem?_eq_some_iff.1 hy;rcases Nat.lt_or_ge i j with Dp | Du
 ·exact(List.pairwise_iff_getElem.1 h) i j hi hj Dp
 ·have:i=j:=by omega
  subst this;omega
end
end Go.V
/-! Lengths of codes by coins and packages: lists alone. Plain Lean; no program. -/
namespace Go.V
abbrev aV:=Int×List Nat
def manyL(n:Int):Int:=mn (mx n 0) 1099511627776
def oL(i:Nat):List Int->List aV
 | []=>[]
 | n ::ns=>if n>0 then(manyL n,[i]) ::oL (i+1) ns else oL (i+1) ns
def tQ(xs:List Int):List aV:=zY Prod.fst (oL 0 xs)
def bN:List aV->List aV
 | a ::b ::r=>(a.1+b.1,a.2++b.2) ::bN r
 | _=>[]
def bP:List aV->List aV->List aV
 | cs,[]=>cs
 | cs,p ::ps=>cs.takeWhile (fun c=>decide (c.1<=p.1))++p ::bP (cs.dropWhile (fun c=>decide (c.1<=p.1))) ps
def kZ(cs l:List aV):List aV:=bP cs (bN l)
theorem mC{c p:aV}{cs ps:List aV}(h:c.1<=p.1):bP (c ::cs) (p ::ps)=c ::bP cs (p ::ps):=by
 simp[bP,h]
theorem mD{c p:aV}{cs ps:List aV}(h:¬ c.1<=p.1):bP (c ::cs) (p ::ps)=p ::bP (c ::cs) ps:=by
 simp[bP,h]
theorem uZ{p:aV}{ps:List aV}:bP [] (p ::ps)=p ::bP [] ps:=by simp[bP]
theorem eP:∀(l:List aV),(bN l).length=l.length / 2
 | []=>rfl
 | [_]=>by simp[bN]
 | a ::b ::r=>by
  have:=eP r;simp only[bN,List.length_cons,this];omega
theorem dX:∀(ps cs:List aV),(bP cs ps).length=cs.length+ps.length
 | [],cs=>by simp[bP]
 | p ::ps,cs=>by
  have ih:=dX ps (cs.dropWhile (fun c=>decide (c.1<=p.1)));have h:=congrArg List.length (List.takeWhile_append_dropWhile (p:=fun c:aV=>decide (c.1<=p.1)) (l:=cs));simp only[List.length_append]at h;simp only[bP,List.length_append,List.length_cons,ih];omega
theorem iL:∀ {ps cs:List aV} {x:aV},x∈bP cs ps->x∈cs∨x∈ps
 | [],cs,x,h=>.inl h
 | p ::ps,cs,x,h=>by
  simp only[bP,List.mem_append,List.mem_cons]at h;rcases h with h | h | h
  ·exact .inl (List.takeWhile_sublist _ |>.subset h)
  ·exact .inr (by simp[h])
  ·rcases iL h with e | e
   ·exact .inl (List.dropWhile_sublist _ |>.subset e)
   ·exact .inr (by simp[e])
def lT(first:List aV):Nat->List aV
 | 0=>first
 | k+1=>kZ first (lT first k)
theorem qP{Q:Nat->aV->Prop}(hQ:∀ k a b,Q k a->Q k b->Q (k+1) (a.1+b.1,a.2++b.2)){k:Nat}:∀ {l:List aV},(∀ x∈l,Q k x)->∀ x∈bN l,Q (k+1) x
 | [],_=>by simp[bN]
 | [_],_=>by simp[bN]
 | a ::b ::r,h=>by
  intro x hx;simp only[bN,List.mem_cons]at hx;rcases hx with rfl | hx
  ·exact hQ k a b (h a (by simp)) (h b (by simp))
  ·exact qP hQ (fun y hy=>h y (by simp[hy])) x hx
theorem zM{Q:Nat->aV->Prop}(hQ:∀ k a b,Q k a->Q k b->Q (k+1) (a.1+b.1,a.2++b.2)){first:List aV}(h0:∀ k,∀ x∈first,Q k x):∀ k,∀ x∈lT first k,Q k x
 | 0=>h0 0
 | k+1=>by
  intro x hx;rcases iL hx with e | e
  ·exact h0 _ x e
  ·exact qP hQ (zM hQ h0 k) x e
theorem oZ(first:List aV):∀ k,2*first.length<=(lT first k).length+(first.length+2^k-1) / 2^k
 | 0=>by simp[lT];omega
 | k+1=>by
  have ih:=oZ first k
  simp only[lT,kZ,dX,eP];have h1:(first.length+2^(k+1)-1) / 2^(k+1)=((first.length+2^(k+1)-1) / 2^k) / 2:=by
   rw[Nat.pow_succ,Nat.div_div_eq_div_mul]
  have h2:(first.length+2^(k+1)-1)=(first.length+2^k-1)+2^k:=by
   have:0<2^k:=Nat.two_pow_pos k;rw[Nat.pow_succ];omega
  have h3:(first.length+2^(k+1)-1) / 2^k=(first.length+2^k-1) / 2^k+1:=by
   rw[h2,Nat.add_div_right _ (Nat.two_pow_pos k)]
  rw[h1,h3];omega
def Di(xs:List Int)(m:Nat):List Nat :=
 if(tQ xs).length=1 then((tQ xs).flatMap Prod.snd) else((lT (tQ xs) (m-1)).take (2*(tQ xs).length-2)).flatMap Prod.snd
end Go.V
/-! Lengths of codes by coins and packages are the best ones: lists alone. Plain Lean; no program. -/
namespace Go.V
def aL:Nat->(Nat->Int)->Int
 | 0,_=>0
 | n+1,f=>aL n f+f n
theorem bT{f g:Nat->Int}:∀ {n:Nat},(∀ i,i<n->f i=g i)->aL n f=aL n g
 | 0,_=>rfl
 | n+1,h=>by
  have h1:=bT (n:=n) (fun i hi=>h i (by omega));have h2:=h n (by omega);simp only[aL];omega
theorem gP(f g:Nat->Int):∀ n,aL n (fun i=>f i+g i)=aL n f+aL n g
 | 0=>rfl
 | n+1=>by simp only[aL,gP f g n];omega
theorem kA:∀ n,aL n (fun _=>0)=0
 | 0=>rfl
 | n+1=>by simp only[aL,kA n];omega
theorem kQ{f g:Nat->Int}:∀ {n:Nat},(∀ i,i<n->f i<=g i)->aL n f<=aL n g
 | 0,_=>Int.le_refl _
 | n+1,h=>by
  have:=kQ (n:=n) (fun i hi=>h i (by omega));have:=h n (by omega);simp only[aL];omega
theorem fU(c:Int):∀ n:Nat,aL n (fun _=>c)=n*c
 | 0=>by simp[aL]
 | n+1=>by simp only[aL,fU c n];rw[show((n+1:Nat):Int)=(n:Int)+1 by omega,Int.add_mul,Int.one_mul]
theorem gO(f:Nat->Int){a:Nat}:∀ {n:Nat},a<=n->aL n (fun i=>if i<a then f i else 0)=aL a f
 | 0,h=>by
  have:a=0:=by omega
  subst this;rfl
 | n+1,h=>by
  by_cases e:a=n+1
  ·subst e;apply bT;intro i hi;simp[hi]
  ·have:=gO f (a:=a) (n:=n) (by omega);simp only[aL,this];rw[if_neg (by omega)];omega
theorem qH(c:Int)(f:Nat->Int):∀ n,aL n (fun i=>c*f i)=c*aL n f
 | 0=>by simp[aL]
 | n+1=>by simp only[aL,qH c f n,Int.mul_add]
def wt(l:List aV):Int:=(l.map Prod.fst).sum
def cI(first:List aV)(i:Nat):Int:=(first.getD i (0,[])).1
theorem lV(a b:List aV):wt (a++b)=wt a+wt b:=by simp[wt]
theorem eY(a:aV)(b:List aV):wt (a ::b)=a.1+wt b:=by simp[wt]
theorem lU:wt []=0:=rfl
theorem nG(first:List aV):∀ {a:Nat},a<=first.length->wt (first.take a)=aL a (cI first)
 | 0,_=>by simp[wt,aL]
 | a+1,h=>by
  have h':a<first.length:=by omega
  rw[List.take_succ_eq_append_getElem h',lV,nG first (by omega)];simp only[aL,eY,lU,cI];rw[List.getD_eq_getElem?_getD,List.getElem?_eq_getElem h'];simp
abbrev SC(l:List aV):Prop:=dS (Prod.fst:aV->Int) l
theorem eE:∀ ps,bP [] ps=ps
 | []=>rfl
 | p ::ps=>by rw[uZ,eE ps]
theorem gC:∀ {N:Nat} {cs ps:List aV},cs.length+ps.length<=N->SC cs->SC ps->SC (bP cs ps)
 | N,[],ps,_,_,h2=>by rw[eE];exact h2
 | N,c ::cs,[],_,h1,_=>by simpa[bP]using h1
 | 0,c ::cs,p ::ps,h,_,_=>by simp at h
 | N+1,c ::cs,p ::ps,h,h1,h2=>by
  simp only[List.length_cons]at h;by_cases DV:c.1<=p.1
  ·rw[mC DV];refine List.pairwise_cons.2 ⟨fun z hz=>?_,gC (N:=N) (by simp;omega) (List.pairwise_cons.1 h1).2 h2⟩;rcases iL hz with e | e
   ·exact(List.pairwise_cons.1 h1).1 z e
   ·have:=dS.head_le h2 z e;omega
  ·rw[mD DV];refine List.pairwise_cons.2 ⟨fun z hz=>?_,gC (N:=N) (by simp;omega) h1 (List.pairwise_cons.1 h2).2⟩;rcases iL hz with e | e
   ·have:=dS.head_le h1 z e;omega
   ·exact(List.pairwise_cons.1 h2).1 z e
theorem uS{m:Int}:∀ {l:List aV},(∀ x∈l,m<=x.1)->∀ x∈bN l,2*m<=x.1
 | [],_=>by simp[bN]
 | [_],_=>by simp[bN]
 | a ::b ::r,h=>by
  intro x hx;simp only[bN,List.mem_cons]at hx;rcases hx with rfl | hx
  ·have:=h a (by simp);have:=h b (by simp);show 2*m<=a.1+b.1;omega
  ·exact uS (fun y hy=>h y (by simp[hy])) x hx
theorem iJ:∀ {l:List aV},SC l->SC (bN l)
 | [],_=>by simp[bN,dS]
 | [_],_=>by simp[bN,dS]
 | a ::b ::r,h=>by
  have h1:=List.pairwise_cons.1 h;have h2:=List.pairwise_cons.1 h1.2;simp only[bN];refine List.pairwise_cons.2 ⟨fun z hz=>?_,iJ h2.2⟩;have:=uS (m:=b.1) h2.1 z hz;have:=h1.1 b (by simp);show a.1+b.1<=z.1;omega
theorem oY{first:List aV}(h:SC first):∀ k,SC (lT first k)
 | 0=>h
 | k+1=>gC (Nat.le_refl _) h (iJ (oY h k))
theorem fL:∀ {N a b:Nat} {cs ps:List aV},a+b<=N->SC cs->SC ps->a<=cs.length->b<=ps.length->wt ((bP cs ps).take (a+b))<=wt (cs.take a)+wt (ps.take b)
 | _,0,0,cs,ps,_,_,_,_,_=>by simp[wt]
 | 0,a+1,b,_,_,h,_,_,_,_=>by omega
 | 0,0,b+1,_,_,h,_,_,_,_=>by omega
 | N+1,a,b,[],ps,h,h1,h2,ha,hb=>by
  have:a=0:=by simpa using ha
  subst this;rw[eE];simp[wt]
 | N+1,a,b,c ::cs,[],h,h1,h2,ha,hb=>by
  have:b=0:=by simpa using hb
  subst this;simp[bP,wt]
 | N+1,a,b,c ::cs,p ::ps,h,h1,h2,ha,hb=>by
  have k1:=List.pairwise_cons.1 h1;have k2:=List.pairwise_cons.1 h2;by_cases h0:a+b=0
  ·have e1:a=0:=by omega
   have e2:b=0:=by omega
   subst e1;subst e2;simp[wt]
  by_cases DV:c.1<=p.1
  ·rw[mC DV];cases a with
   | succ a =>
    have ih:=fL (N:=N) (a:=a) (b:=b) (by omega) k1.2 h2 (by simpa using ha) hb;rw[show a+1+b=(a+b)+1 by omega,List.take_succ_cons,List.take_succ_cons,eY,eY];omega
   | zero =>
    cases b with
    | zero=>omega
    | succ b =>
     have ih:=fL (N:=N) (a:=0) (b:=b) (cs:=cs) (ps:=p ::ps) (by omega) k1.2 h2 (by omega) (by omega);have Fo:b<(p ::ps).length:=by omega
     have FY:p.1<=((p ::ps)[b]).1:=dS.head_le h2 _ (List.getElem_mem Fo);rw[show 0+(b+1)=(0+b)+1 by omega,List.take_succ_cons,eY,List.take_succ_eq_append_getElem Fo,lV,eY,lU];simp only[List.take_zero,lU]at ih ⊢;omega
  ·rw[mD DV];cases b with
   | succ b =>
    have ih:=fL (N:=N) (a:=a) (b:=b) (by omega) h1 k2.2 ha (by simpa using hb);rw[show a+(b+1)=(a+b)+1 by omega,List.take_succ_cons,List.take_succ_cons,eY,eY];omega
   | zero =>
    cases a with
    | zero=>omega
    | succ a =>
     have ih:=fL (N:=N) (a:=a) (b:=0) (cs:=c ::cs) (ps:=ps) (by omega) h1 k2.2 (by omega) (by omega);have IQ:a<(c ::cs).length:=by omega
     have FY:c.1<=((c ::cs)[a]).1:=dS.head_le h1 _ (List.getElem_mem IQ);rw[show a+1+0=a+1 by omega,List.take_succ_cons,eY,List.take_succ_eq_append_getElem IQ,lV,eY,lU];simp only[List.take_zero,lU,Nat.add_zero]at ih ⊢;omega
theorem kG:∀ {N k:Nat} {cs ps:List aV},k<=N->k<=cs.length+ps.length->SC cs->∃ a b,a+b=k/\a<=cs.length/\b<=ps.length/\((bP cs ps).take k).Perm (cs.take a++ps.take b)/\(∀ p∈ps.take b,∀ c∈cs.drop a,p.1<c.1)
 | _,0,cs,ps,_,_,_=>⟨0,0,rfl,by omega,by omega,by simp,by simp⟩
 | 0,k+1,_,_,h,_,_=>by omega
 | N+1,k+1,[],ps,h,hk,_=>⟨0,k+1,by omega,by omega,by simpa using hk,by rw[eE];simp,by simp⟩
 | N+1,k+1,c ::cs,[],h,hk,_=>⟨k+1,0,by omega,by simpa using hk,by omega,by simp[bP],by simp⟩
 | N+1,k+1,c ::cs,p ::ps,h,hk,h1=>by
  simp only[List.length_cons]at hk;by_cases DV:c.1<=p.1
  ·obtain⟨a,b,e1,e2,e3,e4,e5⟩:=kG (N:=N) (k:=k) (cs:=cs) (ps:=p ::ps) (by omega) (by simp;omega) (List.pairwise_cons.1 h1).2;refine⟨a+1,b,by omega,by simp;omega,e3,?_,by simpa using e5⟩;rw[mC DV];simpa using e4
  ·obtain⟨a,b,e1,e2,e3,e4,e5⟩:=kG (N:=N) (k:=k) (cs:=c ::cs) (ps:=ps) (by omega) (by simp;omega) h1;refine⟨a,b+1,by omega,e2,by simp;omega,?_,?_⟩
   ·rw[mD DV,List.take_succ_cons,List.take_succ_cons];exact(List.Perm.cons p e4).trans (List.perm_middle (a:=p) (l₁:=(c ::cs).take a) (l₂:=ps.take b)).symm
   ·intro q hq d hd;rcases List.mem_cons.1 (by simpa using hq)with e | e
    ·subst e;have:=dS.head_le h1 d (List.mem_of_mem_drop hd);omega
    ·exact e5 q e d hd
theorem oQ:∀ {b:Nat} {l:List aV},2*b<=l.length->wt ((bN l).take b)=wt (l.take (2*b))/\((bN l).take b).flatMap Prod.snd=(l.take (2*b)).flatMap Prod.snd
 | 0,l,_=>by simp[wt]
 | b+1,[],h=>by simp at h
 | b+1,[_],h=>by simp at h;omega
 | b+1,x ::y ::r,h=>by
  have ih:=oQ (b:=b) (l:=r) (by simp at h;omega);rw[show 2*(b+1)=(2*b+1)+1 by omega];simp only[bN,List.take_succ_cons,eY,List.flatMap_cons,ih.1,ih.2];constructor
  ·omega
  ·simp
theorem qQ:∀ {b:Nat} {l:List aV} {x:aV},2*b<=l.length->(∀ y∈l,0<=y.1)->x∈l.take (2*b)->∃ p∈(bN l).take b,x.1<=p.1
 | 0,l,x,_,_,h=>by simp at h
 | b+1,[],x,h,_,_=>by simp at h
 | b+1,[_],x,h,_,_=>by simp at h;omega
 | b+1,y ::z ::r,x,h,hp,hx=>by
  rw[show 2*(b+1)=(2*b+1)+1 by omega]at hx;simp only[List.take_succ_cons,List.mem_cons]at hx;have hy:=hp y (by simp);have hz:=hp z (by simp);rcases hx with rfl | rfl | hx
  ·exact⟨_,by simp only[bN,List.take_succ_cons];exact List.mem_cons_self,by show _<=_+_;omega⟩
  ·exact⟨_,by simp only[bN,List.take_succ_cons];exact List.mem_cons_self,by show _<=_+_;omega⟩
  ·obtain⟨p,h1,h2⟩:=qQ (b:=b) (l:=r) (by simp at h;omega) (fun y hy=>hp y (by simp[hy])) hx;exact⟨p,by simp only[bN,List.take_succ_cons];exact List.mem_cons_of_mem _ h1,h2⟩
end Go.V
/-! Lengths of codes by coins and packages: what is chosen fills all codes, and no choice counts less. Plain Lean; no program. -/
namespace Go.V
def tX(g:aV->Int)(l:List aV):Int:=(l.map g).sum
theorem nX(g:aV->Int)(a b:List aV):tX g (a++b)=tX g a+tX g b:=by simp[tX]
theorem fD(g:aV->Int)(a:aV)(b:List aV):tX g (a ::b)=g a+tX g b:=by simp[tX]
theorem Ch(g:aV->Int):tX g []=0:=rfl
theorem Bk(g:aV->Int){a b:List aV}(h:a.Perm b):tX g a=tX g b:=by
 induction h with
 | nil=>rfl
 | cons x _ ih=>rw[fD,fD,ih]
 | swap x y l=>rw[fD,fD,fD,fD];omega
 | trans _ _ h1 h2=>exact h1.trans h2
def gI(g:aV->Int)(first:List aV)(i:Nat):Int:=g (first.getD i (0,[]))
theorem nW(g:aV->Int)(first:List aV):∀ {a:Nat},a<=first.length->tX g (first.take a)=aL a (gI g first)
 | 0,_=>by simp[tX,aL]
 | a+1,h=>by
  have h':a<first.length:=by omega
  rw[List.take_succ_eq_append_getElem h',nX,nW g first (by omega)];simp only[aL,fD,Ch,gI];rw[List.getD_eq_getElem?_getD,List.getElem?_eq_getElem h'];simp
def Adds(g:aV->Int):Prop:=∀ a b:aV,g (a.1+b.1,a.2++b.2)=g a+g b
theorem qO{g:aV->Int}(hg:Adds g):∀ {b:Nat} {l:List aV},2*b<=l.length->tX g ((bN l).take b)=tX g (l.take (2*b))
 | 0,l,_=>by simp[tX]
 | b+1,[],h=>by simp at h
 | b+1,[_],h=>by simp at h;omega
 | b+1,x ::y ::r,h=>by
  have ih:=qO hg (b:=b) (l:=r) (by simp at h;omega);rw[show 2*(b+1)=(2*b+1)+1 by omega];simp only[bN,List.take_succ_cons,fD,ih,hg x y];omega
theorem Bx(k:Nat):(0:Int)<2^k:=by
 have h:=Nat.two_pow_pos k;obtain⟨q,hq⟩:∃ q:Nat,q=2^k:=⟨_,rfl⟩;have e:(2:Int)^k=(q:Int):=by rw[hq];simp
 rw[e];omega
theorem hJ(k:Nat):(2:Int)^(k+1)=2*2^k:=by rw[Int.pow_succ];omega
theorem CA{first:List aV}(hp:∀ x∈first,0<x.1):∀ k,∀ x∈lT first k,0<x.1 :=
 zM (Q:=fun _ x=>0<x.1) (fun k a b ha hb=>by show 0<a.1+b.1;omega) (fun k x hx=>hp x hx)
theorem yQ {first:List aV} (hs:SC first) (hp:∀ x∈first,0<x.1):∀(j k:Nat),k<=(lT first j).length →
    ∃ (x:Nat->Nat) (a:Nat),(∀ i,x i<=j+1)/\(∀ i,a<=i->x i=0)/\(∀ i,i<a->1<=x i)/\a<=first.length ∧
      (∀ c∈first.take a,c∈(lT first j).take k)/\(∀ i i',i<=i'->x i'<=x i) ∧
      aL first.length (fun i=>2^(j+1)-2^(j+1-x i))=2^j*(k:Int) ∧
      ∀ g,Adds g->tX g ((lT first j).take k)=aL first.length (fun i=>gI g first i*(x i:Int))
  | 0,k,hk=>by
    refine⟨fun i=>if i<k then 1 else 0,k,?_,?_,?_,hk,fun c hc=>hc,?_,?_,?_⟩
    · intro i;dsimp only;split <;>omega
    · intro i hi;dsimp only;rw[if_neg (by omega)]
    · intro i hi;dsimp only;rw[if_pos hi];omega
    · intro i i' h;dsimp only;split <;>split <;>omega
    · have:aL first.length (fun i=>(2:Int)^(0+1)-2^(0+1-(if i<k then 1 else 0)))=aL first.length (fun i=>if i<k then 1 else 0):=by
        apply bT;intro i hi;by_cases e:i<k <;>simp[e]
      have Eo:k<=first.length:=hk;rw[this,gO (fun _=>1) Eo,fU];simp
    · intro g hg;show tX g (first.take k)=_;have Eo:k<=first.length:=hk;rw[nW g first Eo,← gO (gI g first) Eo];apply bT;intro i hi;by_cases e:i<k <;>simp[e]
  | j + 1,k,hk=>by
    have Ip:=CA hp j;have Eo:k<=first.length+(bN (lT first j)).length:=by
      have:=hk;simp only[lT,kZ,dX]at this;exact this
    obtain⟨a,b,e1,e2,e3,e4,e5⟩:=kG (N:=k) (k:=k) (cs:=first) (ps:=bN (lT first j)) (Nat.le_refl _) Eo hs;have HI:2*b<=(lT first j).length:=by rw[eP]at e3;omega
    obtain⟨x',a',x1,x2,x3,x4,x5,x6,x7,x8⟩:=yQ hs hp j (2*b) HI;have Lc:a'<=a:=by
      rcases Nat.lt_or_ge a a' with Dp | Du
      · exfalso;have hi:a<first.length:=by omega
        have hm:first[a]∈first.take a':=List.mem_take_iff_getElem.2 ⟨a,by omega,rfl⟩
        obtain⟨p,q1,q2⟩:=qQ HI (fun y hy=>Int.le_of_lt (Ip y hy)) (x5 _ hm);have hd:first[a]∈first.drop a:=by rw[List.drop_eq_getElem_cons hi];exact List.mem_cons_self
        have:=e5 p q1 _ hd;omega
      · exact Du
    refine⟨fun i=>(if i<a then 1 else 0)+x' i,a,?_,?_,?_,e2,?_,?_,?_,?_⟩
    · intro i;have:=x1 i;dsimp only;split <;>omega
    · intro i hi;have:=x2 i (by omega);dsimp only;rw[if_neg (by omega)];omega
    · intro i hi;dsimp only;rw[if_pos hi];omega
    · intro c hc;exact e4.symm.subset (List.mem_append_left _ hc)
    · intro i i' h;have:=x6 i i' h;dsimp only;split <;>split <;>omega
    · have:aL first.length (fun i=>(2:Int)^(j+1+1)-2^(j+1+1-((if i<a then 1 else 0)+x' i))) =
          aL first.length (fun i=>(if i<a then(2:Int)^(j+1) else 0)+(2^(j+1)-2^(j+1-x' i))):=by
        apply bT;intro i hi;have h1:=x1 i;split
        · rw[show j+1+1-(1+x' i)=j+1-x' i by omega,hJ (j+1)];omega
        · have:=x2 i (by omega);rw[this];simp
      rw[this,gP,gO (fun _=>(2:Int)^(j+1)) e2,fU,x7,hJ j,← e1];rw[Int.natCast_add,Int.natCast_mul,Int.mul_add,Int.mul_comm (a:Int),Int.mul_left_comm,Int.mul_assoc 2 (2^j) (b:Int)];rfl
    · intro g hg;show tX g ((bP first (bN (lT first j))).take k)=_;rw[Bk g e4,nX,qO hg HI,x8 g hg,nW g first e2,← gO (gI g first) e2,← gP];apply bT;intro i hi;by_cases e:i<a
      · simp[e,Int.mul_add]
      · simp[e]
theorem mF{N:Nat}{c:Nat->Int}(hc:∀ i i',i<=i'->i'<N->c i<=c i')(p:Nat->Bool):∀ n,n<=N->∃ b,b<=n/\aL n (fun i=>if p i then 1 else 0)=(b:Int)/\aL b c<=aL n (fun i=>if p i then c i else 0)
 | 0,_=>⟨0,by omega,rfl,Int.le_refl _⟩
 | n+1,hn=>by
  obtain⟨b,h1,h2,h3⟩:=mF hc p n (by omega);by_cases hp:p n=true
  ·refine⟨b+1,by omega,?_,?_⟩
   ·simp only[aL,h2,hp,if_true];omega
   ·have:=hc b n h1 (by omega);simp only[aL,hp,if_true];omega
  ·refine⟨b,by omega,?_,?_⟩
   ·simp only[aL,h2,hp];simp
   ·simp only[aL,hp];simpa using h3
theorem nZ{N:Nat}{c:Nat->Int}(hc:∀ i,i<N->0<=c i){a b:Nat}(h:a<=b)(hb:b<=N):aL a c<=aL b c:=by
  induction b with
  | zero => have:a=0:=by omega
            subst this;exact Int.le_refl _
  | succ b ih =>
    by_cases e:a=b+1
    · subst e;exact Int.le_refl _
    · have:=ih (by omega) (by omega);have:=hc b (by omega);simp only[aL];omega
theorem Af{first:List aV}(hs:SC first):∀ i i',i<=i'->i'<first.length->cI first i<=cI first i':=by
 intro i i' h h';have hi:i<first.length:=by omega
 have:=dS.get hs h (List.getElem?_eq_getElem hi) (List.getElem?_eq_getElem h');simpa[cI,List.getD_eq_getElem?_getD,hi,h']using this
theorem yS{first:List aV}(hp:∀ x∈first,0<x.1):∀ i,i<first.length->0<cI first i:=by
 intro i hi;have:=hp _ (List.getElem_mem hi);simpa[cI,List.getD_eq_getElem?_getD,hi]using this
theorem Dj {first:List aV} (hs:SC first) (hp:∀ x∈first,0<x.1):∀(j k:Nat)(y:Nat->Nat),(∀ i,i<first.length->y i<=j+1)->k<=(lT first j).length →
    2^j*(k:Int)<=aL first.length (fun i=>2^(j+1)-2^(j+1-y i))->wt ((lT first j).take k)<=aL first.length (fun i=>cI first i*(y i:Int))
  | 0,k,y,hy,hk,h=>by
    obtain⟨b,b1,b2,b3⟩:=mF (Af hs) (fun i=>decide (1<=y i)) first.length (Nat.le_refl _);have h1:aL first.length (fun i=>(2:Int)^(0+1)-2^(0+1-y i))=aL first.length (fun i=>if decide (1<=y i) then 1 else 0):=by
      apply bT;intro i hi;have:=hy i hi;by_cases e:1<=y i
      · have:y i=1:=by omega
        simp[this]
      · have:y i=0:=by omega
        simp[this]
    have h2:aL first.length (fun i=>if decide (1<=y i) then cI first i else 0)=aL first.length (fun i=>cI first i*(y i:Int)):=by
      apply bT;intro i hi;have:=hy i hi;by_cases e:1<=y i
      · have:y i=1:=by omega
        simp[this]
      · have:y i=0:=by omega
        simp[this]
    rw[h1,b2]at h;have Hq:k<=b:=by simp at h;omega
    show wt (first.take k)<=_;rw[nG first hk,← h2];exact Int.le_trans (nZ (fun i hi=>Int.le_of_lt (yS hp i hi)) Hq b1) b3
  | j + 1, k, y,hy,hk,h=>by
    obtain⟨b,b1,b2,b3⟩:=mF (Af hs) (fun i=>decide (1<=y i)) first.length (Nat.le_refl _);have hS:=oY hs j;have IS:=iJ hS;have Eo:k<=first.length+(bN (lT first j)).length:=by
      have:=hk;simp only[lT,kZ,dX]at this;exact this
    have key:aL first.length (fun i=>cI first i*(y i:Int))=aL first.length (fun i=>if decide (1<=y i) then cI first i else 0)+aL first.length (fun i=>cI first i*((y i-1:Nat):Int)):=by
      rw[← gP];apply bT;intro i hi;by_cases e:1<=y i
      · have e2:(y i:Int)=1+((y i-1:Nat):Int):=by omega
        simp only[e,decide_true,if_true];rw[e2,Int.mul_add];simp
      · have:y i=0:=by omega
        simp[this]
    have hw:aL first.length (fun i=>(2:Int)^(j+1+1)-2^(j+1+1-y i))=2^(j+1)*(b:Int)+aL first.length (fun i=>2^(j+1)-2^(j+1-(y i-1))):=by
      rw[← b2,← qH,← gP];apply bT;intro i hi;have:=hy i hi;by_cases e:1<=y i
      · simp only[e,decide_true,if_true];rw[show j+1+1-y i=j+1-(y i-1) by omega,hJ (j+1)];omega
      · have:y i=0:=by omega
        simp[this]
    have Ib:0<=aL first.length (fun i=>(2:Int)^(j+1)-2^(j+1-(y i-1))):=by
      have:=kQ (n:=first.length) (f:=fun _=>(0:Int)) (g:=fun i=>(2:Int)^(j+1)-2^(j+1-(y i-1))) (fun i hi=>by
        have h1:2^(j+1-(y i-1))<=2^(j+1):=Nat.pow_le_pow_right (n:=2) (by omega) (by omega);have e1:((2^(j+1-(y i-1)):Nat):Int)=2^(j+1-(y i-1)):=by simp
        have e2:((2^(j+1):Nat):Int)=2^(j+1):=by simp
        rw[← e1,← e2];omega)
      rw[kA]at this;exact this
    show wt ((bP first (bN (lT first j))).take k)<=_;rw[key];have IE:0<=aL first.length (fun i=>cI first i*((y i-1:Nat):Int)):=by
      have:=kQ (n:=first.length) (f:=fun _=>(0:Int)) (g:=fun i=>cI first i*((y i-1:Nat):Int)) (fun i hi=>Int.mul_nonneg (Int.le_of_lt (yS hp i hi)) (by omega));rw[kA]at this;exact this
    by_cases Hq:k<=b
    · have hm:=fL (N:=k) (a:=k) (b:=0) (cs:=first) (ps:=bN (lT first j)) (by omega) hs IS (by omega) (by omega);rw[Nat.add_zero,List.take_zero,lU,nG first (by omega)]at hm;have:=nZ (c:=cI first) (fun i hi=>Int.le_of_lt (yS hp i hi)) Hq b1;omega
    · obtain⟨q,hq⟩:∃ q,k=b+q:=⟨k-b,by omega⟩;subst hq;have h2:2^j*((2*q:Nat):Int)<=aL first.length (fun i=>2^(j+1)-2^(j+1-(y i-1))):=by
        rw[hw]at h;have e1:(2:Int)^(j+1)*((b+q:Nat):Int)=2^(j+1)*(b:Int)+2^(j+1)*(q:Int):=by rw[Int.natCast_add,Int.mul_add]
        have e2:(2:Int)^j*((2*q:Nat):Int)=2^(j+1)*(q:Int):=by
          rw[hJ j,Int.natCast_mul,Int.mul_comm 2 ((2:Int)^j),Int.mul_assoc];rfl
        omega
      have Io :q<=(bN (lT first j)).length:=by
        have:=hk;simp only[lT,kZ,dX]at this
        -- as wide as all that there is
        have Dr:aL first.length (fun i=>(2:Int)^(j+1)-2^(j+1-(y i-1)))<=(first.length:Int)*(2^(j+1)-1):=by
          rw[← fU];apply kQ;intro i hi;have:=Bx (j+1-(y i-1));omega
        have hl:=oZ first j
        rw[eP];rcases Nat.lt_or_ge ((lT first j).length / 2) q with Dp | Du
        · exfalso;have h3:(lT first j).length+1<=2*q:=by omega
          -- 2q ≤ 2n - n/2^j
          have h4:(2:Int)^j*((2*q:Nat):Int)<=(first.length:Int)*(2^(j+1)-1):=Int.le_trans h2 Dr;have h5:2^j*(2*q)+first.length<=first.length*(2*2^j):=by
            have e1:((2^j:Nat):Int)=2^j:=by simp
            have e2:(first.length:Int)*(2^(j+1)-1)=(first.length:Int)*(2*2^j)-first.length:=by rw[hJ,Int.mul_sub];simp
            rw[e2]at h4;have e3:((2^j*(2*q):Nat):Int)=2^j*((2*q:Nat):Int):=by rw[Int.natCast_mul];simp
            have e4:((first.length*(2*2^j):Nat):Int)=(first.length:Int)*(2*2^j):=by rw[Int.natCast_mul];simp
            apply Int.ofNat_le.1;rw[Int.natCast_add,e3,e4];generalize (2:Int)^j*((2*q:Nat):Int)=z1 at *;generalize (first.length:Int)*(2*2^j)=z2 at *;omega
          have FQ:=Nat.two_pow_pos j;have e:first.length*(2*2^j)=2^j*(2*first.length):=by rw[Nat.mul_comm 2 (2^j),Nat.mul_left_comm,Nat.mul_comm first.length 2]
          have KG:2*q<=2*first.length:=by
            rcases Nat.lt_or_ge (2*first.length) (2*q)with hl | hg
            · exfalso;have:=Nat.mul_le_mul_left (2^j) (Nat.le_of_lt hl);have h8:=Nat.mul_lt_mul_of_pos_left hl FQ;rw[e]at h5;generalize 2^j*(2*q)=z1 at *;generalize 2^j*(2*first.length)=z2 at *;omega
            · exact hg
          have h6:first.length+2^j-1<2^j*(2*first.length-2*q+1):=by
            obtain⟨d,hd⟩:∃ d,2*first.length=2*q+d:=⟨2*first.length-2*q,by omega⟩;rw[e,hd,Nat.mul_add]at h5;rw[show 2*first.length-2*q+1=d+1 by omega,Nat.mul_add,Nat.mul_one];omega
          have h7:(first.length+2^j-1) / 2^j<2*first.length-2*q+1:=(Nat.div_lt_iff_lt_mul FQ).2 (by rw[Nat.mul_comm];exact h6);omega
        · exact Du
      have Jb:2*q<=(lT first j).length:=by rw[eP]at Io;omega
      have ih:=Dj hs hp j (2*q) (fun i=>y i-1) (fun i hi=>by have:=hy i hi;omega) Jb h2;have hm:=fL (N:=b+q) (a:=b) (b:=q) (cs:=first) (ps:=bN (lT first j)) (by omega) hs IS b1 Io;rw[(oQ Jb).1,nG first b1]at hm;omega
end Go.V
/-! Lengths of codes, symbol by symbol: all codes are used, none is too long, none is better. Plain Lean; no program. -/
namespace Go.V
end Go.V
/-! The laws of lengths of codes, of lists: all is used, the best, a greatest length more, all alike, so many times as great. Plain Lean; no program. -/
namespace Go.V
def Dc(x:Int):Int:=if 1<=x/\x<=15 then 2^(15-x).toNat else 0
def Db(xs:List Int):Int:=(xs.map Dc).sum
end Go.V
/-! Codes of symbols out of lengths: lists alone. Plain Lean; no program. -/
namespace Go.V
def ln(ls:List Int)(s:Nat):Int:=ls.getD s 0
def posL(ls:List Int):List Nat:=(List.range ls.length).filter (fun s=>decide (0<ln ls s))
def C5(ls:List Int):Bool:=decide (ls.length<=256) && (ls.all (fun x=>decide (0<=x/\x<=15)) && ((decide ((posL ls).length=1) && ls.all (fun x=>decide (x<=1))) || decide (Db ls=32768)))
def ordL(ls:List Int):List Nat:=zY (ln ls) (posL ls)
def stepC(ls:List Int)(st:Int×Int×List Int)(s:Nat):Int×Int×List Int :=
 let nx:=st.1*2^(ln ls s-st.2.1).toNat
 (nx+1,ln ls s,st.2.2.set s nx)
def foldC(ls:List Int)(l:List Nat):Int×Int×List Int:=l.foldl (stepC ls) (0,0,List.replicate ls.length 0)
def Dg(ls:List Int):List Int:=if C5 ls then(foldC ls (ordL ls)).2.2 else []
def cd(ls:List Int)(s:Nat):Int:=(Dg ls).getD s 0
end Go.V
/-! Bits in bytes: lists alone. Plain Lean; no program. -/
namespace Go.V
end Go.V
/-! Codes of symbols: how both texts come to them. Plain Lean; no program. -/
namespace Go.V
end Go.V
/-! Symbols out of bits. Plain Lean; no program. -/
namespace Go.V
end Go.V

/- Own texts, packed: S1, S2, S3, S4, S5, S6, S7, K1, K2, K3, K4. -/
import Derived.Test.YtdlomlmijdifbaaGreatDoorGAg
/-! Lists that are told apart by a number of each member: sorted, and alike member by member of one number (what a stable sort keeps). Plain Lean; no program. -/
set_option linter.unusedVariables false
set_option linter.unusedSimpArgs false
namespace Go.V
section
variable {α : Type} (key : α → Int)
def dT(xs:List α):Prop:=xs.Pairwise (fun x y=>key x<=key y)
variable {key}
def ins(key:α->Int)(x:α):List α->List α
 | []=>[x]
 | y ::ys=>if key y<=key x then y ::ins key x ys else x ::y ::ys
def AM(key:α->Int)(xs:List α):List α:=xs.foldl (fun l x=>ins key x l) []
end
end Go.V
/-! What the steps of a stable sort by merging in place do to lists. Plain Lean; no program. -/
namespace Go.V
section
variable {α : Type} {key : α → Int}
theorem dT.head_le{S:List α}{y:α}(h:dT key (y ::S)):∀ x∈y ::S,key y<=key x:=by
 intro x hx;rcases List.mem_cons.1 hx with e | e
 ·rw[e];omega
 ·exact(List.pairwise_cons.1 h).1 x e
theorem dT.get{L:List α}(h:dT key L){i j:Nat}{x y:α}(Eb:i<=j)(hx:L[i]?=some x)(hy:L[j]?=some y):key x<=key y:=by
 obtain⟨hi,rfl⟩:=List.getElem?_eq_some_iff.1 hx;obtain⟨hj,rfl⟩:=List.getElem?_eq_some_iff.1 hy;rcases Nat.lt_or_ge i j with DL | DR
 ·exact(List.pairwise_iff_getElem.1 h) i j hi hj DL
 ·have:i=j:=by omega
  subst this;omega
end
end Go.V
/-! Lengths of codes by coins and packages: lists alone. Plain Lean; no program. -/
namespace Go.V
abbrev aX:=Int×List Nat
def manyL(n:Int):Int:=mn (mx n 0) 1099511627776
def pH(i:Nat):List Int->List aX
 | []=>[]
 | n ::ns=>if n>0 then(manyL n,[i]) ::pH (i+1) ns else pH (i+1) ns
def uQ(xs:List Int):List aX:=AM Prod.fst (pH 0 xs)
def bS:List aX->List aX
 | a ::b ::r=>(a.1+b.1,a.2++b.2) ::bS r
 | _=>[]
def bV:List aX->List aX->List aX
 | cs,[]=>cs
 | cs,p ::ps=>cs.takeWhile (fun c=>decide (c.1<=p.1))++p ::bV (cs.dropWhile (fun c=>decide (c.1<=p.1))) ps
def lP(cs l:List aX):List aX:=bV cs (bS l)
theorem mT{c p:aX}{cs ps:List aX}(h:c.1<=p.1):bV (c ::cs) (p ::ps)=c ::bV cs (p ::ps):=by
 simp[bV,h]
theorem mU{c p:aX}{cs ps:List aX}(h:¬ c.1<=p.1):bV (c ::cs) (p ::ps)=p ::bV (c ::cs) ps:=by
 simp[bV,h]
theorem wD{p:aX}{ps:List aX}:bV [] (p ::ps)=p ::bV [] ps:=by simp[bV]
theorem eS:∀(l:List aX),(bS l).length=l.length / 2
 | []=>rfl
 | [_]=>by simp[bS]
 | a ::b ::r=>by
  have:=eS r;simp only[bS,List.length_cons,this];omega
theorem eD:∀(ps cs:List aX),(bV cs ps).length=cs.length+ps.length
 | [],cs=>by simp[bV]
 | p ::ps,cs=>by
  have ih:=eD ps (cs.dropWhile (fun c=>decide (c.1<=p.1)));have h:=congrArg List.length (List.takeWhile_append_dropWhile (p:=fun c:aX=>decide (c.1<=p.1)) (l:=cs));simp only[List.length_append]at h;simp only[bV,List.length_append,List.length_cons,ih];omega
theorem iX:∀ {ps cs:List aX} {x:aX},x∈bV cs ps->x∈cs∨x∈ps
 | [],cs,x,h=>.inl h
 | p ::ps,cs,x,h=>by
  simp only[bV,List.mem_append,List.mem_cons]at h;rcases h with h | h | h
  ·exact .inl (List.takeWhile_sublist _ |>.subset h)
  ·exact .inr (by simp[h])
  ·rcases iX h with e | e
   ·exact .inl (List.dropWhile_sublist _ |>.subset e)
   ·exact .inr (by simp[e])
def mG(first:List aX):Nat->List aX
 | 0=>first
 | k+1=>lP first (mG first k)
theorem rY{Q:Nat->aX->Prop}(hQ:∀ k a b,Q k a->Q k b->Q (k+1) (a.1+b.1,a.2++b.2)){k:Nat}:∀ {l:List aX},(∀ x∈l,Q k x)->∀ x∈bS l,Q (k+1) x
 | [],_=>by simp[bS]
 | [_],_=>by simp[bS]
 | a ::b ::r,h=>by
  intro x hx;simp only[bS,List.mem_cons]at hx;rcases hx with rfl | hx
  ·exact hQ k a b (h a (by simp)) (h b (by simp))
  ·exact rY hQ (fun y hy=>h y (by simp[hy])) x hx
theorem AF{Q:Nat->aX->Prop}(hQ:∀ k a b,Q k a->Q k b->Q (k+1) (a.1+b.1,a.2++b.2)){first:List aX}(h0:∀ k,∀ x∈first,Q k x):∀ k,∀ x∈mG first k,Q k x
 | 0=>h0 0
 | k+1=>by
  intro x hx;rcases iX hx with e | e
  ·exact h0 _ x e
  ·exact rY hQ (AF hQ h0 k) x e
theorem pV(first:List aX):∀ k,2*first.length<=(mG first k).length+(first.length+2^k-1) / 2^k
 | 0=>by simp[mG];omega
 | k+1=>by
  have ih:=pV first k
  simp only[mG,lP,eD,eS];have h1:(first.length+2^(k+1)-1) / 2^(k+1)=((first.length+2^(k+1)-1) / 2^k) / 2:=by
   rw[Nat.pow_succ,Nat.div_div_eq_div_mul]
  have h2:(first.length+2^(k+1)-1)=(first.length+2^k-1)+2^k:=by
   have:0<2^k:=Nat.two_pow_pos k;rw[Nat.pow_succ];omega
  have h3:(first.length+2^(k+1)-1) / 2^k=(first.length+2^k-1) / 2^k+1:=by
   rw[h2,Nat.add_div_right _ (Nat.two_pow_pos k)]
  rw[h1,h3];omega
def DF(xs:List Int)(m:Nat):List Nat :=
 if(uQ xs).length=1 then((uQ xs).flatMap Prod.snd) else((mG (uQ xs) (m-1)).take (2*(uQ xs).length-2)).flatMap Prod.snd
end Go.V
/-! Lengths of codes by coins and packages are the best ones: lists alone. Plain Lean; no program. -/
namespace Go.V
def aR:Nat->(Nat->Int)->Int
 | 0,_=>0
 | n+1,f=>aR n f+f n
theorem cC{f g:Nat->Int}:∀ {n:Nat},(∀ i,i<n->f i=g i)->aR n f=aR n g
 | 0,_=>rfl
 | n+1,h=>by
  have h1:=cC (n:=n) (fun i hi=>h i (by omega));have h2:=h n (by omega);simp only[aR];omega
theorem iA(f g:Nat->Int):∀ n,aR n (fun i=>f i+g i)=aR n f+aR n g
 | 0=>rfl
 | n+1=>by simp only[aR,iA f g n];omega
theorem kN:∀ n,aR n (fun _=>0)=0
 | 0=>rfl
 | n+1=>by simp only[aR,kN n];omega
theorem lF{f g:Nat->Int}:∀ {n:Nat},(∀ i,i<n->f i<=g i)->aR n f<=aR n g
 | 0,_=>Int.le_refl _
 | n+1,h=>by
  have:=lF (n:=n) (fun i hi=>h i (by omega));have:=h n (by omega);simp only[aR];omega
theorem gH(c:Int):∀ n:Nat,aR n (fun _=>c)=n*c
 | 0=>by simp[aR]
 | n+1=>by simp only[aR,gH c n];rw[show((n+1:Nat):Int)=(n:Int)+1 by omega,Int.add_mul,Int.one_mul]
theorem hZ(f:Nat->Int){a:Nat}:∀ {n:Nat},a<=n->aR n (fun i=>if i<a then f i else 0)=aR a f
 | 0,h=>by
  have:a=0:=by omega
  subst this;rfl
 | n+1,h=>by
  by_cases e:a=n+1
  ·subst e;apply cC;intro i hi;simp[hi]
  ·have:=hZ f (a:=a) (n:=n) (by omega);simp only[aR,this];rw[if_neg (by omega)];omega
theorem rO(c:Int)(f:Nat->Int):∀ n,aR n (fun i=>c*f i)=c*aR n f
 | 0=>by simp[aR]
 | n+1=>by simp only[aR,rO c f n,Int.mul_add]
def wt(l:List aX):Int:=(l.map Prod.fst).sum
def cI(first:List aX)(i:Nat):Int:=(first.getD i (0,[])).1
theorem mI(a b:List aX):wt (a++b)=wt a+wt b:=by simp[wt]
theorem fG(a:aX)(b:List aX):wt (a ::b)=a.1+wt b:=by simp[wt]
theorem mH:wt []=0:=rfl
theorem nZ(first:List aX):∀ {a:Nat},a<=first.length->wt (first.take a)=aR a (cI first)
 | 0,_=>by simp[wt,aR]
 | a+1,h=>by
  have h':a<first.length:=by omega
  rw[List.take_succ_eq_append_getElem h',mI,nZ first (by omega)];simp only[aR,fG,mH,cI];rw[List.getD_eq_getElem?_getD,List.getElem?_eq_getElem h'];simp
abbrev SC(l:List aX):Prop:=dT (Prod.fst:aX->Int) l
theorem eF:∀ ps,bV [] ps=ps
 | []=>rfl
 | p ::ps=>by rw[wD,eF ps]
theorem gR:∀ {N:Nat} {cs ps:List aX},cs.length+ps.length<=N->SC cs->SC ps->SC (bV cs ps)
 | N,[],ps,_,_,h2=>by rw[eF];exact h2
 | N,c ::cs,[],_,h1,_=>by simpa[bV]using h1
 | 0,c ::cs,p ::ps,h,_,_=>by simp at h
 | N+1,c ::cs,p ::ps,h,h1,h2=>by
  simp only[List.length_cons]at h;by_cases Ev:c.1<=p.1
  ·rw[mT Ev];refine List.pairwise_cons.2 ⟨fun z hz=>?_,gR (N:=N) (by simp;omega) (List.pairwise_cons.1 h1).2 h2⟩;rcases iX hz with e | e
   ·exact(List.pairwise_cons.1 h1).1 z e
   ·have:=dT.head_le h2 z e;omega
  ·rw[mU Ev];refine List.pairwise_cons.2 ⟨fun z hz=>?_,gR (N:=N) (by simp;omega) h1 (List.pairwise_cons.1 h2).2⟩;rcases iX hz with e | e
   ·have:=dT.head_le h1 z e;omega
   ·exact(List.pairwise_cons.1 h2).1 z e
theorem vX{m:Int}:∀ {l:List aX},(∀ x∈l,m<=x.1)->∀ x∈bS l,2*m<=x.1
 | [],_=>by simp[bS]
 | [_],_=>by simp[bS]
 | a ::b ::r,h=>by
  intro x hx;simp only[bS,List.mem_cons]at hx;rcases hx with rfl | hx
  ·have:=h a (by simp);have:=h b (by simp);show 2*m<=a.1+b.1;omega
  ·exact vX (fun y hy=>h y (by simp[hy])) x hx
theorem iW:∀ {l:List aX},SC l->SC (bS l)
 | [],_=>by simp[bS,dT]
 | [_],_=>by simp[bS,dT]
 | a ::b ::r,h=>by
  have h1:=List.pairwise_cons.1 h;have h2:=List.pairwise_cons.1 h1.2;simp only[bS];refine List.pairwise_cons.2 ⟨fun z hz=>?_,iW h2.2⟩;have:=vX (m:=b.1) h2.1 z hz;have:=h1.1 b (by simp);show a.1+b.1<=z.1;omega
theorem pU{first:List aX}(h:SC first):∀ k,SC (mG first k)
 | 0=>h
 | k+1=>gR (Nat.le_refl _) h (iW (pU h k))
theorem fR:∀ {N a b:Nat} {cs ps:List aX},a+b<=N->SC cs->SC ps->a<=cs.length->b<=ps.length->wt ((bV cs ps).take (a+b))<=wt (cs.take a)+wt (ps.take b)
 | _,0,0,cs,ps,_,_,_,_,_=>by simp[wt]
 | 0,a+1,b,_,_,h,_,_,_,_=>by omega
 | 0,0,b+1,_,_,h,_,_,_,_=>by omega
 | N+1,a,b,[],ps,h,h1,h2,ha,hb=>by
  have:a=0:=by simpa using ha
  subst this;rw[eF];simp[wt]
 | N+1,a,b,c ::cs,[],h,h1,h2,ha,hb=>by
  have:b=0:=by simpa using hb
  subst this;simp[bV,wt]
 | N+1,a,b,c ::cs,p ::ps,h,h1,h2,ha,hb=>by
  have k1:=List.pairwise_cons.1 h1;have k2:=List.pairwise_cons.1 h2;by_cases h0:a+b=0
  ·have e1:a=0:=by omega
   have e2:b=0:=by omega
   subst e1;subst e2;simp[wt]
  by_cases Ev:c.1<=p.1
  ·rw[mT Ev];cases a with
   | succ a =>
    have ih:=fR (N:=N) (a:=a) (b:=b) (by omega) k1.2 h2 (by simpa using ha) hb;rw[show a+1+b=(a+b)+1 by omega,List.take_succ_cons,List.take_succ_cons,fG,fG];omega
   | zero =>
    cases b with
    | zero=>omega
    | succ b =>
     have ih:=fR (N:=N) (a:=0) (b:=b) (cs:=cs) (ps:=p ::ps) (by omega) k1.2 h2 (by omega) (by omega);have FQ:b<(p ::ps).length:=by omega
     have GG:p.1<=((p ::ps)[b]).1:=dT.head_le h2 _ (List.getElem_mem FQ);rw[show 0+(b+1)=(0+b)+1 by omega,List.take_succ_cons,fG,List.take_succ_eq_append_getElem FQ,mI,fG,mH];simp only[List.take_zero,mH]at ih ⊢;omega
  ·rw[mU Ev];cases b with
   | succ b =>
    have ih:=fR (N:=N) (a:=a) (b:=b) (by omega) h1 k2.2 ha (by simpa using hb);rw[show a+(b+1)=(a+b)+1 by omega,List.take_succ_cons,List.take_succ_cons,fG,fG];omega
   | zero =>
    cases a with
    | zero=>omega
    | succ a =>
     have ih:=fR (N:=N) (a:=a) (b:=0) (cs:=c ::cs) (ps:=ps) (by omega) h1 k2.2 (by omega) (by omega);have JO:a<(c ::cs).length:=by omega
     have GG:c.1<=((c ::cs)[a]).1:=dT.head_le h1 _ (List.getElem_mem JO);rw[show a+1+0=a+1 by omega,List.take_succ_cons,fG,List.take_succ_eq_append_getElem JO,mI,fG,mH];simp only[List.take_zero,mH,Nat.add_zero]at ih ⊢;omega
theorem kT:∀ {N k:Nat} {cs ps:List aX},k<=N->k<=cs.length+ps.length->SC cs->∃ a b,a+b=k/\a<=cs.length/\b<=ps.length/\((bV cs ps).take k).Perm (cs.take a++ps.take b)/\(∀ p∈ps.take b,∀ c∈cs.drop a,p.1<c.1)
 | _,0,cs,ps,_,_,_=>⟨0,0,rfl,by omega,by omega,by simp,by simp⟩
 | 0,k+1,_,_,h,_,_=>by omega
 | N+1,k+1,[],ps,h,hk,_=>⟨0,k+1,by omega,by omega,by simpa using hk,by rw[eF];simp,by simp⟩
 | N+1,k+1,c ::cs,[],h,hk,_=>⟨k+1,0,by omega,by simpa using hk,by omega,by simp[bV],by simp⟩
 | N+1,k+1,c ::cs,p ::ps,h,hk,h1=>by
  simp only[List.length_cons]at hk;by_cases Ev:c.1<=p.1
  ·obtain⟨a,b,e1,e2,e3,e4,e5⟩:=kT (N:=N) (k:=k) (cs:=cs) (ps:=p ::ps) (by omega) (by simp;omega) (List.pairwise_cons.1 h1).2;refine⟨a+1,b,by omega,by simp;omega,e3,?_,by simpa using e5⟩;rw[mT Ev];simpa using e4
  ·obtain⟨a,b,e1,e2,e3,e4,e5⟩:=kT (N:=N) (k:=k) (cs:=c ::cs) (ps:=ps) (by omega) (by simp;omega) h1;refine⟨a,b+1,by omega,e2,by simp;omega,?_,?_⟩
   ·rw[mU Ev,List.take_succ_cons,List.take_succ_cons];exact(List.Perm.cons p e4).trans (List.perm_middle (a:=p) (l₁:=(c ::cs).take a) (l₂:=ps.take b)).symm
   ·intro q hq d hd;rcases List.mem_cons.1 (by simpa using hq)with e | e
    ·subst e;have:=dT.head_le h1 d (List.mem_of_mem_drop hd);omega
    ·exact e5 q e d hd
theorem pN:∀ {b:Nat} {l:List aX},2*b<=l.length->wt ((bS l).take b)=wt (l.take (2*b))/\((bS l).take b).flatMap Prod.snd=(l.take (2*b)).flatMap Prod.snd
 | 0,l,_=>by simp[wt]
 | b+1,[],h=>by simp at h
 | b+1,[_],h=>by simp at h;omega
 | b+1,x ::y ::r,h=>by
  have ih:=pN (b:=b) (l:=r) (by simp at h;omega);rw[show 2*(b+1)=(2*b+1)+1 by omega];simp only[bS,List.take_succ_cons,fG,List.flatMap_cons,ih.1,ih.2];constructor
  ·omega
  ·simp
theorem sA:∀ {b:Nat} {l:List aX} {x:aX},2*b<=l.length->(∀ y∈l,0<=y.1)->x∈l.take (2*b)->∃ p∈(bS l).take b,x.1<=p.1
 | 0,l,x,_,_,h=>by simp at h
 | b+1,[],x,h,_,_=>by simp at h
 | b+1,[_],x,h,_,_=>by simp at h;omega
 | b+1,y ::z ::r,x,h,hp,hx=>by
  rw[show 2*(b+1)=(2*b+1)+1 by omega]at hx;simp only[List.take_succ_cons,List.mem_cons]at hx;have hy:=hp y (by simp);have hz:=hp z (by simp);rcases hx with rfl | rfl | hx
  ·exact⟨_,by simp only[bS,List.take_succ_cons];exact List.mem_cons_self,by show _<=_+_;omega⟩
  ·exact⟨_,by simp only[bS,List.take_succ_cons];exact List.mem_cons_self,by show _<=_+_;omega⟩
  ·obtain⟨p,h1,h2⟩:=sA (b:=b) (l:=r) (by simp at h;omega) (fun y hy=>hp y (by simp[hy])) hx;exact⟨p,by simp only[bS,List.take_succ_cons];exact List.mem_cons_of_mem _ h1,h2⟩
end Go.V
/-! Lengths of codes by coins and packages: what is chosen fills all codes, and no choice counts less. Plain Lean; no program. -/
namespace Go.V
def uW(g:aX->Int)(l:List aX):Int:=(l.map g).sum
theorem oU(g:aX->Int)(a b:List aX):uW g (a++b)=uW g a+uW g b:=by simp[uW]
theorem fJ(g:aX->Int)(a:aX)(b:List aX):uW g (a ::b)=g a+uW g b:=by simp[uW]
theorem CE(g:aX->Int):uW g []=0:=rfl
theorem BJ(g:aX->Int){a b:List aX}(h:a.Perm b):uW g a=uW g b:=by
 induction h with
 | nil=>rfl
 | cons x _ ih=>rw[fJ,fJ,ih]
 | swap x y l=>rw[fJ,fJ,fJ,fJ];omega
 | trans _ _ h1 h2=>exact h1.trans h2
def gI(g:aX->Int)(first:List aX)(i:Nat):Int:=g (first.getD i (0,[]))
theorem oS(g:aX->Int)(first:List aX):∀ {a:Nat},a<=first.length->uW g (first.take a)=aR a (gI g first)
 | 0,_=>by simp[uW,aR]
 | a+1,h=>by
  have h':a<first.length:=by omega
  rw[List.take_succ_eq_append_getElem h',oU,oS g first (by omega)];simp only[aR,fJ,CE,gI];rw[List.getD_eq_getElem?_getD,List.getElem?_eq_getElem h'];simp
def Adds(g:aX->Int):Prop:=∀ a b:aX,g (a.1+b.1,a.2++b.2)=g a+g b
theorem rV{g:aX->Int}(hg:Adds g):∀ {b:Nat} {l:List aX},2*b<=l.length->uW g ((bS l).take b)=uW g (l.take (2*b))
 | 0,l,_=>by simp[uW]
 | b+1,[],h=>by simp at h
 | b+1,[_],h=>by simp at h;omega
 | b+1,x ::y ::r,h=>by
  have ih:=rV hg (b:=b) (l:=r) (by simp at h;omega);rw[show 2*(b+1)=(2*b+1)+1 by omega];simp only[bS,List.take_succ_cons,fJ,ih,hg x y];omega
theorem BU(k:Nat):(0:Int)<2^k:=by
 have h:=Nat.two_pow_pos k;obtain⟨q,hq⟩:∃ q:Nat,q=2^k:=⟨_,rfl⟩;have e:(2:Int)^k=(q:Int):=by rw[hq];simp
 rw[e];omega
theorem iG(k:Nat):(2:Int)^(k+1)=2*2^k:=by rw[Int.pow_succ];omega
theorem CT{first:List aX}(hp:∀ x∈first,0<x.1):∀ k,∀ x∈mG first k,0<x.1 :=
 AF (Q:=fun _ x=>0<x.1) (fun k a b ha hb=>by show 0<a.1+b.1;omega) (fun k x hx=>hp x hx)
theorem Af {first:List aX} (hs:SC first) (hp:∀ x∈first,0<x.1):∀(j k:Nat),k<=(mG first j).length →
    ∃ (x:Nat->Nat) (a:Nat),(∀ i,x i<=j+1)/\(∀ i,a<=i->x i=0)/\(∀ i,i<a->1<=x i)/\a<=first.length ∧
      (∀ c∈first.take a,c∈(mG first j).take k)/\(∀ i i',i<=i'->x i'<=x i) ∧
      aR first.length (fun i=>2^(j+1)-2^(j+1-x i))=2^j*(k:Int) ∧
      ∀ g,Adds g->uW g ((mG first j).take k)=aR first.length (fun i=>gI g first i*(x i:Int))
  | 0,k,hk=>by
    refine⟨fun i=>if i<k then 1 else 0,k,?_,?_,?_,hk,fun c hc=>hc,?_,?_,?_⟩
    · intro i;dsimp only;split <;>omega
    · intro i hi;dsimp only;rw[if_neg (by omega)]
    · intro i hi;dsimp only;rw[if_pos hi];omega
    · intro i i' h;dsimp only;split <;>split <;>omega
    · have:aR first.length (fun i=>(2:Int)^(0+1)-2^(0+1-(if i<k then 1 else 0)))=aR first.length (fun i=>if i<k then 1 else 0):=by
        apply cC;intro i hi;by_cases e:i<k <;>simp[e]
      have EX:k<=first.length:=hk;rw[this,hZ (fun _=>1) EX,gH];simp
    · intro g hg;show uW g (first.take k)=_;have EX:k<=first.length:=hk;rw[oS g first EX,← hZ (gI g first) EX];apply cC;intro i hi;by_cases e:i<k <;>simp[e]
  | j + 1,k,hk=>by
    have Hn:=CT hp j;have EX:k<=first.length+(bS (mG first j)).length:=by
      have:=hk;simp only[mG,lP,eD]at this;exact this
    obtain⟨a,b,e1,e2,e3,e4,e5⟩:=kT (N:=k) (k:=k) (cs:=first) (ps:=bS (mG first j)) (Nat.le_refl _) EX hs;have IN:2*b<=(mG first j).length:=by rw[eS]at e3;omega
    obtain⟨x',a',x1,x2,x3,x4,x5,x6,x7,x8⟩:=Af hs hp j (2*b) IN;have L3:a'<=a:=by
      rcases Nat.lt_or_ge a a' with DL | DR
      · exfalso;have hi:a<first.length:=by omega
        have hm:first[a]∈first.take a':=List.mem_take_iff_getElem.2 ⟨a,by omega,rfl⟩
        obtain⟨p,q1,q2⟩:=sA IN (fun y hy=>Int.le_of_lt (Hn y hy)) (x5 _ hm);have hd:first[a]∈first.drop a:=by rw[List.drop_eq_getElem_cons hi];exact List.mem_cons_self
        have:=e5 p q1 _ hd;omega
      · exact DR
    refine⟨fun i=>(if i<a then 1 else 0)+x' i,a,?_,?_,?_,e2,?_,?_,?_,?_⟩
    · intro i;have:=x1 i;dsimp only;split <;>omega
    · intro i hi;have:=x2 i (by omega);dsimp only;rw[if_neg (by omega)];omega
    · intro i hi;dsimp only;rw[if_pos hi];omega
    · intro c hc;exact e4.symm.subset (List.mem_append_left _ hc)
    · intro i i' h;have:=x6 i i' h;dsimp only;split <;>split <;>omega
    · have:aR first.length (fun i=>(2:Int)^(j+1+1)-2^(j+1+1-((if i<a then 1 else 0)+x' i))) =
          aR first.length (fun i=>(if i<a then(2:Int)^(j+1) else 0)+(2^(j+1)-2^(j+1-x' i))):=by
        apply cC;intro i hi;have h1:=x1 i;split
        · rw[show j+1+1-(1+x' i)=j+1-x' i by omega,iG (j+1)];omega
        · have:=x2 i (by omega);rw[this];simp
      rw[this,iA,hZ (fun _=>(2:Int)^(j+1)) e2,gH,x7,iG j,← e1];rw[Int.natCast_add,Int.natCast_mul,Int.mul_add,Int.mul_comm (a:Int),Int.mul_left_comm,Int.mul_assoc 2 (2^j) (b:Int)];rfl
    · intro g hg;show uW g ((bV first (bS (mG first j))).take k)=_;rw[BJ g e4,oU,rV hg IN,x8 g hg,oS g first e2,← hZ (gI g first) e2,← iA];apply cC;intro i hi;by_cases e:i<a
      · simp[e,Int.mul_add]
      · simp[e]
theorem mW{N:Nat}{c:Nat->Int}(hc:∀ i i',i<=i'->i'<N->c i<=c i')(p:Nat->Bool):∀ n,n<=N->∃ b,b<=n/\aR n (fun i=>if p i then 1 else 0)=(b:Int)/\aR b c<=aR n (fun i=>if p i then c i else 0)
 | 0,_=>⟨0,by omega,rfl,Int.le_refl _⟩
 | n+1,hn=>by
  obtain⟨b,h1,h2,h3⟩:=mW hc p n (by omega);by_cases hp:p n=true
  ·refine⟨b+1,by omega,?_,?_⟩
   ·simp only[aR,h2,hp,if_true];omega
   ·have:=hc b n h1 (by omega);simp only[aR,hp,if_true];omega
  ·refine⟨b,by omega,?_,?_⟩
   ·simp only[aR,h2,hp];simp
   ·simp only[aR,hp];simpa using h3
theorem oY{N:Nat}{c:Nat->Int}(hc:∀ i,i<N->0<=c i){a b:Nat}(h:a<=b)(hb:b<=N):aR a c<=aR b c:=by
  induction b with
  | zero => have:a=0:=by omega
            subst this;exact Int.le_refl _
  | succ b ih =>
    by_cases e:a=b+1
    · subst e;exact Int.le_refl _
    · have:=ih (by omega) (by omega);have:=hc b (by omega);simp only[aR];omega
theorem AS{first:List aX}(hs:SC first):∀ i i',i<=i'->i'<first.length->cI first i<=cI first i':=by
 intro i i' h h';have hi:i<first.length:=by omega
 have:=dT.get hs h (List.getElem?_eq_getElem hi) (List.getElem?_eq_getElem h');simpa[cI,List.getD_eq_getElem?_getD,hi,h']using this
theorem Ai{first:List aX}(hp:∀ x∈first,0<x.1):∀ i,i<first.length->0<cI first i:=by
 intro i hi;have:=hp _ (List.getElem_mem hi);simpa[cI,List.getD_eq_getElem?_getD,hi]using this
theorem DG {first:List aX} (hs:SC first) (hp:∀ x∈first,0<x.1):∀(j k:Nat)(y:Nat->Nat),(∀ i,i<first.length->y i<=j+1)->k<=(mG first j).length →
    2^j*(k:Int)<=aR first.length (fun i=>2^(j+1)-2^(j+1-y i))->wt ((mG first j).take k)<=aR first.length (fun i=>cI first i*(y i:Int))
  | 0,k,y,hy,hk,h=>by
    obtain⟨b,b1,b2,b3⟩:=mW (AS hs) (fun i=>decide (1<=y i)) first.length (Nat.le_refl _);have h1:aR first.length (fun i=>(2:Int)^(0+1)-2^(0+1-y i))=aR first.length (fun i=>if decide (1<=y i) then 1 else 0):=by
      apply cC;intro i hi;have:=hy i hi;by_cases e:1<=y i
      · have:y i=1:=by omega
        simp[this]
      · have:y i=0:=by omega
        simp[this]
    have h2:aR first.length (fun i=>if decide (1<=y i) then cI first i else 0)=aR first.length (fun i=>cI first i*(y i:Int)):=by
      apply cC;intro i hi;have:=hy i hi;by_cases e:1<=y i
      · have:y i=1:=by omega
        simp[this]
      · have:y i=0:=by omega
        simp[this]
    rw[h1,b2]at h;have Iq:k<=b:=by simp at h;omega
    show wt (first.take k)<=_;rw[nZ first hk,← h2];exact Int.le_trans (oY (fun i hi=>Int.le_of_lt (Ai hp i hi)) Iq b1) b3
  | j + 1, k, y,hy,hk,h=>by
    obtain⟨b,b1,b2,b3⟩:=mW (AS hs) (fun i=>decide (1<=y i)) first.length (Nat.le_refl _);have hS:=pU hs j;have JQ:=iW hS;have EX:k<=first.length+(bS (mG first j)).length:=by
      have:=hk;simp only[mG,lP,eD]at this;exact this
    have key:aR first.length (fun i=>cI first i*(y i:Int))=aR first.length (fun i=>if decide (1<=y i) then cI first i else 0)+aR first.length (fun i=>cI first i*((y i-1:Nat):Int)):=by
      rw[← iA];apply cC;intro i hi;by_cases e:1<=y i
      · have e2:(y i:Int)=1+((y i-1:Nat):Int):=by omega
        simp only[e,decide_true,if_true];rw[e2,Int.mul_add];simp
      · have:y i=0:=by omega
        simp[this]
    have hw:aR first.length (fun i=>(2:Int)^(j+1+1)-2^(j+1+1-y i))=2^(j+1)*(b:Int)+aR first.length (fun i=>2^(j+1)-2^(j+1-(y i-1))):=by
      rw[← b2,← rO,← iA];apply cC;intro i hi;have:=hy i hi;by_cases e:1<=y i
      · simp only[e,decide_true,if_true];rw[show j+1+1-y i=j+1-(y i-1) by omega,iG (j+1)];omega
      · have:y i=0:=by omega
        simp[this]
    have Jf:0<=aR first.length (fun i=>(2:Int)^(j+1)-2^(j+1-(y i-1))):=by
      have:=lF (n:=first.length) (f:=fun _=>(0:Int)) (g:=fun i=>(2:Int)^(j+1)-2^(j+1-(y i-1))) (fun i hi=>by
        have h1:2^(j+1-(y i-1))<=2^(j+1):=Nat.pow_le_pow_right (n:=2) (by omega) (by omega);have e1:((2^(j+1-(y i-1)):Nat):Int)=2^(j+1-(y i-1)):=by simp
        have e2:((2^(j+1):Nat):Int)=2^(j+1):=by simp
        rw[← e1,← e2];omega)
      rw[kN]at this;exact this
    show wt ((bV first (bS (mG first j))).take k)<=_;rw[key];have JB:0<=aR first.length (fun i=>cI first i*((y i-1:Nat):Int)):=by
      have:=lF (n:=first.length) (f:=fun _=>(0:Int)) (g:=fun i=>cI first i*((y i-1:Nat):Int)) (fun i hi=>Int.mul_nonneg (Int.le_of_lt (Ai hp i hi)) (by omega));rw[kN]at this;exact this
    by_cases Iq:k<=b
    · have hm:=fR (N:=k) (a:=k) (b:=0) (cs:=first) (ps:=bS (mG first j)) (by omega) hs JQ (by omega) (by omega);rw[Nat.add_zero,List.take_zero,mH,nZ first (by omega)]at hm;have:=oY (c:=cI first) (fun i hi=>Int.le_of_lt (Ai hp i hi)) Iq b1;omega
    · obtain⟨q,hq⟩:∃ q,k=b+q:=⟨k-b,by omega⟩;subst hq;have h2:2^j*((2*q:Nat):Int)<=aR first.length (fun i=>2^(j+1)-2^(j+1-(y i-1))):=by
        rw[hw]at h;have e1:(2:Int)^(j+1)*((b+q:Nat):Int)=2^(j+1)*(b:Int)+2^(j+1)*(q:Int):=by rw[Int.natCast_add,Int.mul_add]
        have e2:(2:Int)^j*((2*q:Nat):Int)=2^(j+1)*(q:Int):=by
          rw[iG j,Int.natCast_mul,Int.mul_comm 2 ((2:Int)^j),Int.mul_assoc];rfl
        omega
      have Jp :q<=(bS (mG first j)).length:=by
        have:=hk;simp only[mG,lP,eD]at this
        -- as wide as all that there is
        have DQ:aR first.length (fun i=>(2:Int)^(j+1)-2^(j+1-(y i-1)))<=(first.length:Int)*(2^(j+1)-1):=by
          rw[← gH];apply lF;intro i hi;have:=BU (j+1-(y i-1));omega
        have hl:=pV first j
        rw[eS];rcases Nat.lt_or_ge ((mG first j).length / 2) q with DL | DR
        · exfalso;have h3:(mG first j).length+1<=2*q:=by omega
          -- 2q ≤ 2n - n/2^j
          have h4:(2:Int)^j*((2*q:Nat):Int)<=(first.length:Int)*(2^(j+1)-1):=Int.le_trans h2 DQ;have h5:2^j*(2*q)+first.length<=first.length*(2*2^j):=by
            have e1:((2^j:Nat):Int)=2^j:=by simp
            have e2:(first.length:Int)*(2^(j+1)-1)=(first.length:Int)*(2*2^j)-first.length:=by rw[iG,Int.mul_sub];simp
            rw[e2]at h4;have e3:((2^j*(2*q):Nat):Int)=2^j*((2*q:Nat):Int):=by rw[Int.natCast_mul];simp
            have e4:((first.length*(2*2^j):Nat):Int)=(first.length:Int)*(2*2^j):=by rw[Int.natCast_mul];simp
            apply Int.ofNat_le.1;rw[Int.natCast_add,e3,e4];generalize (2:Int)^j*((2*q:Nat):Int)=z1 at *;generalize (first.length:Int)*(2*2^j)=z2 at *;omega
          have Gw:=Nat.two_pow_pos j;have e:first.length*(2*2^j)=2^j*(2*first.length):=by rw[Nat.mul_comm 2 (2^j),Nat.mul_left_comm,Nat.mul_comm first.length 2]
          have LG:2*q<=2*first.length:=by
            rcases Nat.lt_or_ge (2*first.length) (2*q)with hl | hg
            · exfalso;have:=Nat.mul_le_mul_left (2^j) (Nat.le_of_lt hl);have h8:=Nat.mul_lt_mul_of_pos_left hl Gw;rw[e]at h5;generalize 2^j*(2*q)=z1 at *;generalize 2^j*(2*first.length)=z2 at *;omega
            · exact hg
          have h6:first.length+2^j-1<2^j*(2*first.length-2*q+1):=by
            obtain⟨d,hd⟩:∃ d,2*first.length=2*q+d:=⟨2*first.length-2*q,by omega⟩;rw[e,hd,Nat.mul_add]at h5;rw[show 2*first.length-2*q+1=d+1 by omega,Nat.mul_add,Nat.mul_one];omega
          have h7:(first.length+2^j-1) / 2^j<2*first.length-2*q+1:=(Nat.div_lt_iff_lt_mul Gw).2 (by rw[Nat.mul_comm];exact h6);omega
        · exact DR
      have J2:2*q<=(mG first j).length:=by rw[eS]at Jp;omega
      have ih:=DG hs hp j (2*q) (fun i=>y i-1) (fun i hi=>by have:=hy i hi;omega) J2 h2;have hm:=fR (N:=b+q) (a:=b) (b:=q) (cs:=first) (ps:=bS (mG first j)) (by omega) hs JQ b1 Jp;rw[(pN J2).1,nZ first b1]at hm;omega
end Go.V
/-! Lengths of codes, symbol by symbol: all codes are used, none is too long, none is better. Plain Lean; no program. -/
namespace Go.V
end Go.V
/-! The laws of lengths of codes, of lists: all is used, the best, a greatest length more, all alike, so many times as great. Plain Lean; no program. -/
namespace Go.V
def DA(x:Int):Int:=if 1<=x/\x<=15 then 2^(15-x).toNat else 0
def Dz(xs:List Int):Int:=(xs.map DA).sum
end Go.V
/-! Codes of symbols out of lengths: lists alone. Plain Lean; no program. -/
namespace Go.V
def ln(ls:List Int)(s:Nat):Int:=ls.getD s 0
def posL(ls:List Int):List Nat:=(List.range ls.length).filter (fun s=>decide (0<ln ls s))
def Du(ls:List Int):Bool:=decide (ls.length<=256) && (ls.all (fun x=>decide (0<=x/\x<=15)) && ((decide ((posL ls).length=1) && ls.all (fun x=>decide (x<=1))) || decide (Dz ls=32768)))
def ordL(ls:List Int):List Nat:=AM (ln ls) (posL ls)
def stepC(ls:List Int)(st:Int×Int×List Int)(s:Nat):Int×Int×List Int :=
 let nx:=st.1*2^(ln ls s-st.2.1).toNat
 (nx+1,ln ls s,st.2.2.set s nx)
def foldC(ls:List Int)(l:List Nat):Int×Int×List Int:=l.foldl (stepC ls) (0,0,List.replicate ls.length 0)
def DE(ls:List Int):List Int:=if Du ls then(foldC ls (ordL ls)).2.2 else []
def cd(ls:List Int)(s:Nat):Int:=(DE ls).getD s 0
end Go.V
/-! Bits in bytes: lists alone. Plain Lean; no program. -/
namespace Go.V
end Go.V
/-! Codes of symbols: how both texts come to them. Plain Lean; no program. -/
namespace Go.V
end Go.V
/-! Symbols out of bits. Plain Lean; no program. -/
namespace Go.V
end Go.V

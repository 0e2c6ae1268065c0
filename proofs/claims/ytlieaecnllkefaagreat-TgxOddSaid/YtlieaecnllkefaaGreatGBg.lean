/- Own texts, packed: S1, S2, S3, S4, S5, S6, S7, K1, K2, K3, K4. -/
import Derived.Test.YtlieaecnllkefaaGreatGAg
/-! Lists that are told apart by a number of each member: sorted, and alike member by member of one number (what a stable sort keeps). Plain Lean; no program. -/
set_option linter.unusedVariables false
set_option linter.unusedSimpArgs false
namespace Go.V
section
variable {α : Type} (key : α → Int)
def aR(xs ys:List α):Prop:=∀ k:Int,xs.filter (fun x=>key x ==k)=ys.filter (fun x=>key x ==k)
def aJ(xs:List α):Prop:=xs.Pairwise (fun x y=>key x<=key y)
variable {key}
theorem aR.refl(xs:List α):aR key xs xs:=fun _=>rfl
theorem aR.symm{xs ys:List α}(h:aR key xs ys):aR key ys xs:=fun k=>(h k).symm
theorem aR.trans{xs ys zs:List α}(h:aR key xs ys)(h':aR key ys zs):aR key xs zs:=fun k=>(h k).trans (h' k)
theorem aR.append{xs ys xs' ys':List α}(h:aR key xs ys)(h':aR key xs' ys'):aR key (xs++xs') (ys++ys'):=fun k=>by
 rw[List.filter_append,List.filter_append,h k,h' k]
theorem aR.mem{xs ys:List α}(h:aR key xs ys){x:α}(hx:x∈xs):x∈ys:=by
 have:x∈xs.filter (fun y=>key y ==key x):=by simp[hx]
 rw[h]at this;exact(List.mem_filter.1 this).1
theorem aR.nil{ys:List α}(h:aR key [] ys):ys=[]:=by
 cases ys with
 | nil=>rfl
 | cons y ys=>exact absurd (h.symm.mem (x:=y) (by simp)) (by simp)
theorem aR.length:∀ {xs ys:List α},aR key xs ys->xs.length=ys.length:=by
 intro xs
 induction xs with
 | nil=>intro ys h;rw[h.nil]
 | cons x xs ih =>
  intro ys h;have hx:x∈ys.filter (fun y=>key y ==key x):=by rw[← h];simp
  have h1:=h (key x);simp only[List.filter_cons,beq_self_eq_true,if_true]at h1;obtain⟨A,B,e1,e2,e3⟩:=List.filter_eq_cons_iff.1 h1.symm;have hA:A.filter (fun y=>key y ==key x)=[]:=by
   rw[List.filter_eq_nil_iff];exact e2
  have h2:aR key xs (A++B):=by
   intro k;have h3:=h k;rw[e1]at h3;simp only[List.filter_cons,List.filter_append]at h3 ⊢;by_cases hk:key x ==k
   ·have Gi:key x=k:=by simpa using hk
    subst Gi;simp only[beq_self_eq_true,if_true]at h3;rw[hA]at h3 ⊢;simpa using h3
   ·simp only[hk]at h3;simpa using h3
  rw[e1];have:=ih h2;simp only[List.length_cons,List.length_append]at this ⊢;omega
theorem aR.swap{xs ys:List α}(h:∀ x∈xs,∀ y∈ys,key x≠key y):aR key (xs++ys) (ys++xs):=by
  intro k;rw[List.filter_append,List.filter_append];by_cases hx:∃ x∈xs,key x=k
  · obtain⟨x,hx,rfl⟩:=hx;have:ys.filter (fun y=>key y ==key x)=[]:=by
      rw[List.filter_eq_nil_iff];intro y hy;have:=h x hx y hy;simp;omega
    rw[this];simp
  · have:xs.filter (fun y=>key y ==k)=[]:=by
      rw[List.filter_eq_nil_iff];intro y hy;simp;intro e;exact hx ⟨y,hy,e⟩
    rw[this];simp
theorem aJ.unique:∀ {xs ys:List α},aJ key xs->aJ key ys->aR key xs ys->xs=ys:=by
 intro xs
 induction xs with
 | nil=>intro ys _ _ h;exact h.nil.symm
 | cons x xs ih =>
  intro ys h1 h2 h;cases ys with
  | nil=>exact absurd h.symm.nil (by simp)
  | cons y ys =>
   have hx:key y<=key x:=by
    rcases List.mem_cons.1 (h.mem (x:=x) (by simp))with e | e
    ·rw[e];omega
    ·exact(List.pairwise_cons.1 h2).1 x e
   have hy:key x<=key y:=by
    rcases List.mem_cons.1 (h.symm.mem (x:=y) (by simp))with e | e
    ·rw[e];omega
    ·exact(List.pairwise_cons.1 h1).1 y e
   have e:key x=key y:=by omega
   have hk:=h (key x);simp only[List.filter_cons,beq_self_eq_true,if_true,← e]at hk;have Jy:x=y:=(List.cons.inj hk).1;subst Jy;rw[ih (List.pairwise_cons.1 h1).2 (List.pairwise_cons.1 h2).2];intro k;have hk:=h k;simp only[List.filter_cons]at hk;split at hk
   ·exact(List.cons.inj hk).2
   ·exact hk
theorem aJ.append{xs ys:List α}(h1:aJ key xs)(h2:aJ key ys)(h:∀ x∈xs,∀ y∈ys,key x<=key y):aJ key (xs++ys) :=
 List.pairwise_append.2 ⟨h1,h2,h⟩
theorem aJ.left{xs ys:List α}(h:aJ key (xs++ys)):aJ key xs:=(List.pairwise_append.1 h).1
theorem aJ.right{xs ys:List α}(h:aJ key (xs++ys)):aJ key ys:=(List.pairwise_append.1 h).2.1
theorem aJ.across{xs ys:List α}(h:aJ key (xs++ys)):∀ x∈xs,∀ y∈ys,key x<=key y:=(List.pairwise_append.1 h).2.2
def sS(key:α->Int)(x:α):List α->List α
 | []=>[x]
 | y ::ys=>if key y<=key x then y ::sS key x ys else x ::y ::ys
def dj(key:α->Int)(xs:List α):List α:=xs.foldl (fun l x=>sS key x l) []
theorem p7(x:α):∀ {l:List α},aJ key l->aR key (sS key x l) (l++[x])
 | [],_=>aR.refl _
 | y ::ys,h=>by
  unfold sS;split
  ·exact(aR.refl [y]).append (p7 x (List.pairwise_cons.1 h).2)
  ·rename_i FP;have FP:key x<key y:=by omega
   show aR key ([x]++(y ::ys)) (y ::ys++[x]);apply aR.swap;intro a ha b hb;have ha:a=x:=by simpa using ha
   subst ha;rcases List.mem_cons.1 hb with e | e
   ·rw[e];omega
   ·have:=(List.pairwise_cons.1 h).1 b e;omega
theorem pj(x:α):∀ {l:List α},aJ key l->aJ key (sS key x l)
 | [],_=>by simp[sS,aJ]
 | y ::ys,h=>by
  unfold sS;have h':=List.pairwise_cons.1 h;split
  ·rename_i Ga;refine List.pairwise_cons.2 ⟨fun z hz=>?_,pj x h'.2⟩;rcases List.mem_append.1 ((p7 x h'.2).mem hz)with e | e
   ·exact h'.1 z e
   ·have:z=x:=by simpa using e
    rw[this];exact Ga
  ·rename_i FP;refine List.pairwise_cons.2 ⟨fun z hz=>?_,h⟩;rcases List.mem_cons.1 hz with e | e
   ·rw[e];omega
   ·have:=h'.1 z e;omega
theorem m6:∀(xs l:List α),aJ key l->aJ key (xs.foldl (fun l x=>sS key x l) l)/\aR key (xs.foldl (fun l x=>sS key x l) l) (l++xs)
 | [],l,h=>by simpa using⟨h,aR.refl l⟩
 | x ::xs,l,h=>by
  have ih:=m6 xs (sS key x l) (pj x h);refine⟨ih.1,ih.2.trans ?_⟩;have:=(p7 x h).append (aR.refl xs);simpa using this
theorem iG(xs:List α):aJ key (dj key xs):=(m6 xs [] (by simp[aJ])).1
theorem iH(xs:List α):aR key (dj key xs) xs:=by simpa[dj]using(m6 (key:=key) xs [] (by simp[aJ])).2
theorem pk{xs ys:List α}(h1:aJ key ys)(h2:aR key ys xs):ys=dj key xs:=aJ.unique h1 (iG xs) (h2.trans (iH xs).symm)
end
end Go.V
/-! What the steps of a stable sort by merging in place do to lists. Plain Lean; no program. -/
namespace Go.V
section
variable {α : Type} {key : α → Int}
theorem BH {S1 S2:List α} {x:α} (h:aJ key (S1++S2)) (h2:∀ z∈S2,key x<key z) (h1:S1=[]∨∃ S y,S1=S++[y]/\key y<=key x) :
    aJ key (S1++x ::S2)/\aR key (S1++x ::S2) (S1++S2++[x]):=by
  refine⟨h.left.append (List.pairwise_cons.2 ⟨fun z hz=>by have:=h2 z hz;omega,h.right⟩) ?_,?_⟩
  · intro z hz u hu;rcases h1 with rfl | ⟨S,y,rfl,hy⟩
    · simp at hz
    · have WW:key z<=key y:=by
        rcases List.mem_append.1 hz with e | e
        · exact h.left.across z e y (by simp)
        · have:z=y:=by simpa using e
          rw[this];omega
      rcases List.mem_cons.1 hu with e | e
      · rw[e];omega
      · have:=h2 u e;omega
  · rw[List.append_assoc];refine(aR.refl S1).append ?_;show aR key ([x]++S2) (S2++[x]);apply aR.swap;intro a ha b hb;have:a=x:=by simpa using ha
    subst this;have:=h2 b hb;omega
theorem vX{Y1 Y3:List α}{x:α}(h:aJ key (Y1++Y3))(h1:∀ y∈Y1,key y<key x)(h3:∀ y∈Y3,key x<=key y):
    aJ key (Y1++[x]++Y3)/\aR key (Y1++[x]++Y3) ([x]++(Y1++Y3)):=by
  refine⟨(h.left.append (by simp[aJ]) ?_).append h.right ?_,?_⟩
  · intro a ha b hb;have:b=x:=by simpa using hb
    subst this;have:=h1 a ha;omega
  · intro a ha b hb;rcases List.mem_append.1 ha with e | e
    · exact h.across a e b hb
    · have:a=x:=by simpa using e
      subst this;exact h3 b hb
  · rw[← List.append_assoc];refine aR.append ?_ (aR.refl _);apply aR.swap;intro a ha b hb;have:b=x:=by simpa using hb
    subst this;have:=h1 a ha;omega
theorem yq{X1 X3:List α}{y:α}(h:aJ key (X1++X3))(h1:∀ x∈X1,key x<=key y)(h3:∀ x∈X3,key y<key x):
    aJ key (X1++[y]++X3)/\aR key (X1++[y]++X3) (X1++X3++[y]):=by
  refine⟨(h.left.append (by simp[aJ]) ?_).append h.right ?_,?_⟩
  · intro a ha b hb;have:b=y:=by simpa using hb
    subst this;exact h1 a ha
  · intro a ha b hb;rcases List.mem_append.1 ha with e | e
    · exact h.across a e b hb
    · have:a=y:=by simpa using e
      subst this;have:=h3 b hb;omega
  · rw[List.append_assoc,List.append_assoc];refine(aR.refl _).append ?_;apply aR.swap;intro a ha b hb;have:a=y:=by simpa using ha
    subst this;have:=h3 b hb;omega
theorem aJ.head_le{S:List α}{y:α}(h:aJ key (y ::S)):∀ x∈y ::S,key y<=key x:=by
 intro x hx;rcases List.mem_cons.1 hx with e | e
 ·rw[e];omega
 ·exact(List.pairwise_cons.1 h).1 x e
theorem xZ{X1 X2 Y1 Y2 Z1 Z2:List α}(hX:aJ key (X1++X2))(hY:aJ key (Y1++Y2))(h1:∀ x∈X1,∀ y∈Y2,key x<=key y)(h2:∀ y∈Y1,∀ x∈X2,key y<key x)
    (Wc:aJ key Z1) (Wb:aJ key Z2) (s1:aR key Z1 (X1++Y1)) (s2:aR key Z2 (X2++Y2)) :
    aJ key (Z1++Z2)/\aR key (Z1++Z2) (X1++X2++(Y1++Y2)):=by
  refine⟨Wc.append Wb ?_,(s1.append s2).trans ?_⟩
  · intro a ha b hb;rcases List.mem_append.1 (s1.mem ha)with e | e <;>rcases List.mem_append.1 (s2.mem hb)with f | f
    · exact hX.across a e b f
    · exact h1 a e b f
    · have:=h2 a e b f;omega
    · exact hY.across a e b f
  · have:aR key (X1++((Y1++X2)++Y2)) (X1++((X2++Y1)++Y2)):=by
      refine(aR.refl _).append (aR.append ?_ (aR.refl _));apply aR.swap;intro a ha b hb;have:=h2 a ha b hb;omega
    simpa using this
theorem nr{L:List α}{k:Nat}(h:k<L.length):∃ P y Q,L=P++y ::Q/\P.length=k/\L[k]?=some y:=by
 refine⟨L.take k,L[k],L.drop (k+1),?_,by simp;omega,by simp⟩;simp
theorem aJ.get{L:List α}(h:aJ key L){i j:Nat}{x y:α}(GJ:i<=j)(hx:L[i]?=some x)(hy:L[j]?=some y):key x<=key y:=by
 obtain⟨hi,rfl⟩:=List.getElem?_eq_some_iff.1 hx;obtain⟨hj,rfl⟩:=List.getElem?_eq_some_iff.1 hy;rcases Nat.lt_or_ge i j with FP | FU
 ·exact(List.pairwise_iff_getElem.1 h) i j hi hj FP
 ·have:i=j:=by omega
  subst this;omega
theorem tb{L:List α}{k:Nat}{x:α}(h:x∈L.take k):∃ i,i<k/\L[i]?=some x:=by
 obtain⟨i,hi,rfl⟩:=List.mem_iff_getElem.1 h;have J0:=hi;rw[List.length_take]at J0;refine⟨i,by omega,?_⟩;rw[List.getElem_take];exact List.getElem?_eq_getElem _
theorem td{L:List α}{k:Nat}{x:α}(h:x∈L.drop k):∃ i,k<=i/\L[i]?=some x:=by
 obtain⟨i,hi,rfl⟩:=List.mem_iff_getElem.1 h;rw[List.getElem_drop];exact⟨k+i,by omega,List.getElem?_eq_getElem _⟩
inductive zG (key:α->Int) (s:Nat):List α->Prop
 | last {Z}:Z.length<=s->aJ key Z->zG key s Z
 | cons {Z1 Z2}:Z1.length=s->aJ key Z1->zG key s Z2->zG key s (Z1++Z2)
inductive xQ (key:α->Int) (s:Nat):List α->Prop
 | nil:xQ key s []
 | snoc {U Z}:xQ key s U->Z.length=s->aJ key Z->xQ key s (U++Z)
theorem xQ.blk{s:Nat}{U V:List α}(h:xQ key s U)(hv:zG key s V):zG key s (U++V):=by
 induction h generalizing V with
 | nil=>exact hv
 | snoc h1 h2 h3 ih =>
  rw[List.append_assoc];exact ih (.cons h2 h3 hv)
theorem zG.small{s:Nat}{Z:List α}(h:zG key s Z)(hs:0<s)(hl:Z.length<=s):aJ key Z:=by
 cases h with
 | last h1 h2=>exact h2
 | cons h1 h2 h3 =>
  rename_i Z1 Z2;have:Z2=[]:=List.eq_nil_of_length_eq_zero (by simp at hl;omega);subst this;simpa using h2
theorem zG.cut{s:Nat}{Z:List α}(h:zG key s Z)(hl:s<Z.length):∃ Z1 Z2,Z=Z1++Z2/\Z1.length=s/\aJ key Z1/\zG key s Z2:=by
 cases h with
 | last h1 h2=>omega
 | cons h1 h2 h3=>exact⟨_,_,rfl,h1,h2,h3⟩
theorem zG.cut2{s:Nat}{Z:List α}(h:zG key s Z)(hs:0<s)(hl:s+s<=Z.length):∃ Z1 Z2 Z3,Z=Z1++Z2++Z3/\Z1.length=s/\Z2.length=s/\aJ key Z1/\aJ key Z2/\zG key s Z3:=by
 obtain⟨Z1,Z',rfl,h1,h2,h3⟩:=h.cut (by omega);cases h3 with
 | last h4 h5 =>
  refine⟨Z1,Z',[],by simp,h1,by simp at hl;omega,h2,h5,.last (by simp) (by simp[aJ])⟩
 | cons h4 h5 h6 =>
  rename_i Z2 Z3;exact⟨Z1,Z2,Z3,by simp,h1,h4,h2,h5,h6⟩
end
end Go.V
/-! Lengths of codes by coins and packages: lists alone. Plain Lean; no program. -/
namespace Go.V
abbrev bU:=Int×List Nat
def cN(n:Int):Int:=mn (mx n 0) 1099511627776
theorem qP{n:Int}(h:n>0):0<cN n/\cN n<=1099511627776:=by
 unfold cN mx mn;split <;>split <;>omega
def aV(i:Nat):List Int->List bU
 | []=>[]
 | n ::ns=>if n>0 then(cN n,[i]) ::aV (i+1) ns else aV (i+1) ns
def aK(xs:List Int):List bU:=dj Prod.fst (aV 0 xs)
theorem gl(ys:List Int):∀(xs:List Int)(i:Nat),aV i (xs++ys)=aV i xs++aV (i+xs.length) ys
 | [],i=>by simp[aV]
 | x ::xs,i=>by
  have ih:=gl ys xs (i+1);simp only[List.cons_append,aV,ih,List.length_cons,show i+1+xs.length=i+(xs.length+1) by omega];split <;>simp
theorem jE:∀(xs:List Int)(i:Nat)(x:bU),x∈aV i xs->0<x.1/\x.1<=1099511627776/\∃ s,x.2=[s]/\i<=s/\s<i+xs.length
 | [],i,x,h=>by simp[aV]at h
 | n ::ns,i,x,h=>by
  have ih:=jE ns (i+1) x;have more:(x∈aV (i+1) ns)->0<x.1/\x.1<=1099511627776/\∃ s,x.2=[s]/\i<=s/\s<i+(n ::ns).length:=by
   intro h;obtain⟨h1,h2,s,h3,h4,h5⟩:=ih h;exact⟨h1,h2,s,h3,by omega,by simp;omega⟩
  unfold aV at h;split at h
  ·rename_i hn;rcases List.mem_cons.1 h with e | e
   ·subst e;exact⟨(qP hn).1,(qP hn).2,i,rfl,by omega,by simp⟩
   ·exact more e
  ·exact more h
theorem j8{xs:List Int}{x:bU}(h:x∈aK xs):0<x.1/\x.1<=1099511627776/\∃ s,x.2=[s]/\s<xs.length:=by
 obtain⟨h1,h2,s,h3,_,h5⟩:=jE xs 0 x ((iH (aV 0 xs)).mem h);exact⟨h1,h2,s,h3,by omega⟩
theorem mG:∀(xs:List Int)(i:Nat),(aV i xs).length<=xs.length
 | [],i=>by simp[aV]
 | n ::ns,i=>by
  have ih:=mG ns (i+1);unfold aV;split <;>simp <;>omega
theorem gk(xs:List Int):(aK xs).length<=xs.length:=by
 have h:=(iH (key:=Prod.fst) (aV 0 xs)).length;have:=mG xs 0;show(dj _ _).length<=_;omega
def df:List bU->List bU
 | a ::b ::r=>(a.1+b.1,a.2++b.2) ::df r
 | _=>[]
def cO:List bU->List bU->List bU
 | cs,[]=>cs
 | cs,p ::ps=>cs.takeWhile (fun c=>decide (c.1<=p.1))++p ::cO (cs.dropWhile (fun c=>decide (c.1<=p.1))) ps
def eH(cs l:List bU):List bU:=cO cs (df l)
theorem kZ{c p:bU}{cs ps:List bU}(h:c.1<=p.1):cO (c ::cs) (p ::ps)=c ::cO cs (p ::ps):=by
 simp[cO,h]
theorem k8{c p:bU}{cs ps:List bU}(h:¬ c.1<=p.1):cO (c ::cs) (p ::ps)=p ::cO (c ::cs) ps:=by
 simp[cO,h]
theorem mW{p:bU}{ps:List bU}:cO [] (p ::ps)=p ::cO [] ps:=by simp[cO]
theorem fO:∀(l:List bU),(df l).length=l.length / 2
 | []=>rfl
 | [_]=>by simp[df]
 | a ::b ::r=>by
  have:=fO r;simp only[df,List.length_cons,this];omega
theorem fq:∀(ps cs:List bU),(cO cs ps).length=cs.length+ps.length
 | [],cs=>by simp[cO]
 | p ::ps,cs=>by
  have ih:=fq ps (cs.dropWhile (fun c=>decide (c.1<=p.1)));have h:=congrArg List.length (List.takeWhile_append_dropWhile (p:=fun c:bU=>decide (c.1<=p.1)) (l:=cs));simp only[List.length_append]at h;simp only[cO,List.length_append,List.length_cons,ih];omega
theorem mb:∀ {ps cs:List bU} {x:bU},x∈cO cs ps->x∈cs∨x∈ps
 | [],cs,x,h=>.inl h
 | p ::ps,cs,x,h=>by
  simp only[cO,List.mem_append,List.mem_cons]at h;rcases h with h | h | h
  ·exact .inl (List.takeWhile_sublist _ |>.subset h)
  ·exact .inr (by simp[h])
  ·rcases mb h with e | e
   ·exact .inl (List.dropWhile_sublist _ |>.subset e)
   ·exact .inr (by simp[e])
def je(first:List bU):Nat->List bU
 | 0=>first
 | k+1=>eH first (je first k)
theorem we{Q:Nat->bU->Prop}(hQ:∀ k a b,Q k a->Q k b->Q (k+1) (a.1+b.1,a.2++b.2)){k:Nat}:∀ {l:List bU},(∀ x∈l,Q k x)->∀ x∈df l,Q (k+1) x
 | [],_=>by simp[df]
 | [_],_=>by simp[df]
 | a ::b ::r,h=>by
  intro x hx;simp only[df,List.mem_cons]at hx;rcases hx with rfl | hx
  ·exact hQ k a b (h a (by simp)) (h b (by simp))
  ·exact we hQ (fun y hy=>h y (by simp[hy])) x hx
theorem xp{Q:Nat->bU->Prop}(hQ:∀ k a b,Q k a->Q k b->Q (k+1) (a.1+b.1,a.2++b.2)){first:List bU}(h0:∀ k,∀ x∈first,Q k x):∀ k,∀ x∈je first k,Q k x
 | 0=>h0 0
 | k+1=>by
  intro x hx;rcases mb hx with e | e
  ·exact h0 _ x e
  ·exact we hQ (xp hQ h0 k) x e
theorem pg(first:List bU):∀ k,2*first.length<=(je first k).length+(first.length+2^k-1) / 2^k
 | 0=>by simp[je];omega
 | k+1=>by
  have ih:=pg first k
  simp only[je,eH,fq,fO];have h1:(first.length+2^(k+1)-1) / 2^(k+1)=((first.length+2^(k+1)-1) / 2^k) / 2:=by
   rw[Nat.pow_succ,Nat.div_div_eq_div_mul]
  have h2:(first.length+2^(k+1)-1)=(first.length+2^k-1)+2^k:=by
   have:0<2^k:=Nat.two_pow_pos k;rw[Nat.pow_succ];omega
  have h3:(first.length+2^(k+1)-1) / 2^k=(first.length+2^k-1) / 2^k+1:=by
   rw[h2,Nat.add_div_right _ (Nat.two_pow_pos k)]
  rw[h1,h3];omega
theorem uy{first:List bU}{m:Nat}(hm:1<=m)(h:first.length<=2^m):2*first.length-2<=(je first (m-1)).length:=by
 have h1:=pg first (m-1)
 have h2:(first.length+2^(m-1)-1) / 2^(m-1)<=2:=by
  have hp:0<2^(m-1):=Nat.two_pow_pos _;have h3:2^m=2*2^(m-1):=by
   have:m=(m-1)+1:=by omega
   rw[this,Nat.pow_succ];simp;omega
  rw[← Nat.lt_succ_iff,Nat.div_lt_iff_lt_mul hp];omega
 omega
def q9(xs:List Int)(s:Nat):List Int:=xs.set s (xs.getD s 0+1)
def ek(ss:List Nat)(xs:List Int):List Int:=ss.foldl q9 xs
theorem sE(xs:List Int)(s:Nat):(q9 xs s).length=xs.length:=by simp[q9]
theorem dv:∀(ss:List Nat)(xs:List Int),(ek ss xs).length=xs.length
 | [],xs=>rfl
 | s ::ss,xs=>by
  show(ek ss (q9 xs s)).length=_;rw[dv,sE]
theorem ik(s t:List Nat)(xs:List Int):ek (s++t) xs=ek t (ek s xs):=by simp[ek]
theorem AX{xs:List Int}{s:Nat}{B:Int}(h:∀ v∈xs,0<=v/\v<=B)(hB:0<=B):∀ v∈q9 xs s,0<=v/\v<=B+1:=by
 intro v hv;have hd:0<=xs.getD s 0/\xs.getD s 0<=B:=by
  rw[List.getD_eq_getElem?_getD];cases he:xs[s]? with
  | none=>simp;exact hB
  | some u=>simpa using h u (List.mem_of_getElem? he)
 rcases List.mem_or_eq_of_mem_set hv with e | e
 ·have:=h v e;omega
 ·omega
theorem gK:∀ (ss:List Nat) {xs:List Int} {B:Int},(∀ v∈xs,0<=v/\v<=B)->0<=B->∀ v∈ek ss xs,0<=v/\v<=B+ss.length
 | [],xs,B,h,hB=>by simpa[ek]using h
 | s ::ss,xs,B,h,hB=>by
  have:=gK ss (AX (s:=s) h hB) (by omega);intro v hv;have:=this v hv;simp only[List.length_cons];omega
def cw(most:Int):Nat:=(mn (mx most 1) 15).toNat
def bX(xs:List Int)(m:Nat):List Nat :=
 if(aK xs).length=1 then((aK xs).flatMap Prod.snd) else((je (aK xs) (m-1)).take (2*(aK xs).length-2)).flatMap Prod.snd
def dq(xs:List Int)(most:Int):List Int :=
 if xs.length>256 then [] else if(aK xs).length>2^cw most then [] else ek (bX xs (cw most)) (List.replicate xs.length 0)
end Go.V
/-! Lengths of codes by coins and packages are the best ones: lists alone. Plain Lean; no program. -/
namespace Go.V
def aQ:Nat->(Nat->Int)->Int
 | 0,_=>0
 | n+1,f=>aQ n f+f n
theorem bP{f g:Nat->Int}:∀ {n:Nat},(∀ i,i<n->f i=g i)->aQ n f=aQ n g
 | 0,_=>rfl
 | n+1,h=>by
  have h1:=bP (n:=n) (fun i hi=>h i (by omega));have h2:=h n (by omega);simp only[aQ];omega
theorem fM(f g:Nat->Int):∀ n,aQ n (fun i=>f i+g i)=aQ n f+aQ n g
 | 0=>rfl
 | n+1=>by simp only[aQ,fM f g n];omega
theorem iX:∀ n,aQ n (fun _=>0)=0
 | 0=>rfl
 | n+1=>by simp only[aQ,iX n];omega
theorem jk{f g:Nat->Int}:∀ {n:Nat},(∀ i,i<n->f i<=g i)->aQ n f<=aQ n g
 | 0,_=>Int.le_refl _
 | n+1,h=>by
  have:=jk (n:=n) (fun i hi=>h i (by omega));have:=h n (by omega);simp only[aQ];omega
theorem gQ(c:Int):∀ n:Nat,aQ n (fun _=>c)=n*c
 | 0=>by simp[aQ]
 | n+1=>by simp only[aQ,gQ c n];rw[show((n+1:Nat):Int)=(n:Int)+1 by omega,Int.add_mul,Int.one_mul]
theorem kP(f:Nat->Int){a:Nat}:∀ {n:Nat},a<=n->aQ n (fun i=>if i<a then f i else 0)=aQ a f
 | 0,h=>by
  have:a=0:=by omega
  subst this;rfl
 | n+1,h=>by
  by_cases e:a=n+1
  ·subst e;apply bP;intro i hi;simp[hi]
  ·have:=kP f (a:=a) (n:=n) (by omega);simp only[aQ,this];rw[if_neg (by omega)];omega
theorem qK(c:Int)(f:Nat->Int):∀ n,aQ n (fun i=>c*f i)=c*aQ n f
 | 0=>by simp[aQ]
 | n+1=>by simp only[aQ,qK c f n,Int.mul_add]
def wt(l:List bU):Int:=(l.map Prod.fst).sum
def cI(first:List bU)(i:Nat):Int:=(first.getD i (0,[])).1
theorem qB(a b:List bU):wt (a++b)=wt a+wt b:=by simp[wt]
theorem jb(a:bU)(b:List bU):wt (a ::b)=a.1+wt b:=by simp[wt]
theorem qA:wt []=0:=rfl
theorem sY(first:List bU):∀ {a:Nat},a<=first.length->wt (first.take a)=aQ a (cI first)
 | 0,_=>by simp[wt,aQ]
 | a+1,h=>by
  have h':a<first.length:=by omega
  rw[List.take_succ_eq_append_getElem h',qB,sY first (by omega)];simp only[aQ,jb,qA,cI];rw[List.getD_eq_getElem?_getD,List.getElem?_eq_getElem h'];simp
abbrev SC(l:List bU):Prop:=aJ (Prod.fst:bU->Int) l
theorem gm:∀ ps,cO [] ps=ps
 | []=>rfl
 | p ::ps=>by rw[mW,gm ps]
theorem kF:∀ {N:Nat} {cs ps:List bU},cs.length+ps.length<=N->SC cs->SC ps->SC (cO cs ps)
 | N,[],ps,_,_,h2=>by rw[gm];exact h2
 | N,c ::cs,[],_,h1,_=>by simpa[cO]using h1
 | 0,c ::cs,p ::ps,h,_,_=>by simp at h
 | N+1,c ::cs,p ::ps,h,h1,h2=>by
  simp only[List.length_cons]at h;by_cases Ga:c.1<=p.1
  ·rw[kZ Ga];refine List.pairwise_cons.2 ⟨fun z hz=>?_,kF (N:=N) (by simp;omega) (List.pairwise_cons.1 h1).2 h2⟩;rcases mb hz with e | e
   ·exact(List.pairwise_cons.1 h1).1 z e
   ·have:=aJ.head_le h2 z e;omega
  ·rw[k8 Ga];refine List.pairwise_cons.2 ⟨fun z hz=>?_,kF (N:=N) (by simp;omega) h1 (List.pairwise_cons.1 h2).2⟩;rcases mb hz with e | e
   ·have:=aJ.head_le h1 z e;omega
   ·exact(List.pairwise_cons.1 h2).1 z e
theorem yy{m:Int}:∀ {l:List bU},(∀ x∈l,m<=x.1)->∀ x∈df l,2*m<=x.1
 | [],_=>by simp[df]
 | [_],_=>by simp[df]
 | a ::b ::r,h=>by
  intro x hx;simp only[df,List.mem_cons]at hx;rcases hx with rfl | hx
  ·have:=h a (by simp);have:=h b (by simp);show 2*m<=a.1+b.1;omega
  ·exact yy (fun y hy=>h y (by simp[hy])) x hx
theorem l6:∀ {l:List bU},SC l->SC (df l)
 | [],_=>by simp[df,aJ]
 | [_],_=>by simp[df,aJ]
 | a ::b ::r,h=>by
  have h1:=List.pairwise_cons.1 h;have h2:=List.pairwise_cons.1 h1.2;simp only[df];refine List.pairwise_cons.2 ⟨fun z hz=>?_,l6 h2.2⟩;have:=yy (m:=b.1) h2.1 z hz;have:=h1.1 b (by simp);show a.1+b.1<=z.1;omega
theorem ux{first:List bU}(h:SC first):∀ k,SC (je first k)
 | 0=>h
 | k+1=>kF (Nat.le_refl _) h (l6 (ux h k))
theorem jN:∀ {N a b:Nat} {cs ps:List bU},a+b<=N->SC cs->SC ps->a<=cs.length->b<=ps.length->wt ((cO cs ps).take (a+b))<=wt (cs.take a)+wt (ps.take b)
 | _,0,0,cs,ps,_,_,_,_,_=>by simp[wt]
 | 0,a+1,b,_,_,h,_,_,_,_=>by omega
 | 0,0,b+1,_,_,h,_,_,_,_=>by omega
 | N+1,a,b,[],ps,h,h1,h2,ha,hb=>by
  have:a=0:=by simpa using ha
  subst this;rw[gm];simp[wt]
 | N+1,a,b,c ::cs,[],h,h1,h2,ha,hb=>by
  have:b=0:=by simpa using hb
  subst this;simp[cO,wt]
 | N+1,a,b,c ::cs,p ::ps,h,h1,h2,ha,hb=>by
  have k1:=List.pairwise_cons.1 h1;have k2:=List.pairwise_cons.1 h2;by_cases h0:a+b=0
  ·have e1:a=0:=by omega
   have e2:b=0:=by omega
   subst e1;subst e2;simp[wt]
  by_cases Ga:c.1<=p.1
  ·rw[kZ Ga];cases a with
   | succ a =>
    have ih:=jN (N:=N) (a:=a) (b:=b) (by omega) k1.2 h2 (by simpa using ha) hb;rw[show a+1+b=(a+b)+1 by omega,List.take_succ_cons,List.take_succ_cons,jb,jb];omega
   | zero =>
    cases b with
    | zero=>omega
    | succ b =>
     have ih:=jN (N:=N) (a:=0) (b:=b) (cs:=cs) (ps:=p ::ps) (by omega) k1.2 h2 (by omega) (by omega);have Hv:b<(p ::ps).length:=by omega
     have Ho:p.1<=((p ::ps)[b]).1:=aJ.head_le h2 _ (List.getElem_mem Hv);rw[show 0+(b+1)=(0+b)+1 by omega,List.take_succ_cons,jb,List.take_succ_eq_append_getElem Hv,qB,jb,qA];simp only[List.take_zero,qA]at ih ⊢;omega
  ·rw[k8 Ga];cases b with
   | succ b =>
    have ih:=jN (N:=N) (a:=a) (b:=b) (by omega) h1 k2.2 ha (by simpa using hb);rw[show a+(b+1)=(a+b)+1 by omega,List.take_succ_cons,List.take_succ_cons,jb,jb];omega
   | zero =>
    cases a with
    | zero=>omega
    | succ a =>
     have ih:=jN (N:=N) (a:=a) (b:=0) (cs:=c ::cs) (ps:=ps) (by omega) h1 k2.2 (by omega) (by omega);have Tj:a<(c ::cs).length:=by omega
     have Ho:c.1<=((c ::cs)[a]).1:=aJ.head_le h1 _ (List.getElem_mem Tj);rw[show a+1+0=a+1 by omega,List.take_succ_cons,jb,List.take_succ_eq_append_getElem Tj,qB,jb,qA];simp only[List.take_zero,qA,Nat.add_zero]at ih ⊢;omega
theorem pb:∀ {N k:Nat} {cs ps:List bU},k<=N->k<=cs.length+ps.length->SC cs->∃ a b,a+b=k/\a<=cs.length/\b<=ps.length/\((cO cs ps).take k).Perm (cs.take a++ps.take b)/\(∀ p∈ps.take b,∀ c∈cs.drop a,p.1<c.1)
 | _,0,cs,ps,_,_,_=>⟨0,0,rfl,by omega,by omega,by simp,by simp⟩
 | 0,k+1,_,_,h,_,_=>by omega
 | N+1,k+1,[],ps,h,hk,_=>⟨0,k+1,by omega,by omega,by simpa using hk,by rw[gm];simp,by simp⟩
 | N+1,k+1,c ::cs,[],h,hk,_=>⟨k+1,0,by omega,by simpa using hk,by omega,by simp[cO],by simp⟩
 | N+1,k+1,c ::cs,p ::ps,h,hk,h1=>by
  simp only[List.length_cons]at hk;by_cases Ga:c.1<=p.1
  ·obtain⟨a,b,e1,e2,e3,e4,e5⟩:=pb (N:=N) (k:=k) (cs:=cs) (ps:=p ::ps) (by omega) (by simp;omega) (List.pairwise_cons.1 h1).2;refine⟨a+1,b,by omega,by simp;omega,e3,?_,by simpa using e5⟩;rw[kZ Ga];simpa using e4
  ·obtain⟨a,b,e1,e2,e3,e4,e5⟩:=pb (N:=N) (k:=k) (cs:=c ::cs) (ps:=ps) (by omega) (by simp;omega) h1;refine⟨a,b+1,by omega,e2,by simp;omega,?_,?_⟩
   ·rw[k8 Ga,List.take_succ_cons,List.take_succ_cons];exact(List.Perm.cons p e4).trans (List.perm_middle (a:=p) (l₁:=(c ::cs).take a) (l₂:=ps.take b)).symm
   ·intro q hq d hd;rcases List.mem_cons.1 (by simpa using hq)with e | e
    ·subst e;have:=aJ.head_le h1 d (List.mem_of_mem_drop hd);omega
    ·exact e5 q e d hd
theorem ul:∀ {b:Nat} {l:List bU},2*b<=l.length->wt ((df l).take b)=wt (l.take (2*b))/\((df l).take b).flatMap Prod.snd=(l.take (2*b)).flatMap Prod.snd
 | 0,l,_=>by simp[wt]
 | b+1,[],h=>by simp at h
 | b+1,[_],h=>by simp at h;omega
 | b+1,x ::y ::r,h=>by
  have ih:=ul (b:=b) (l:=r) (by simp at h;omega);rw[show 2*(b+1)=(2*b+1)+1 by omega];simp only[df,List.take_succ_cons,jb,List.flatMap_cons,ih.1,ih.2];constructor
  ·omega
  ·simp
theorem wg:∀ {b:Nat} {l:List bU} {x:bU},2*b<=l.length->(∀ y∈l,0<=y.1)->x∈l.take (2*b)->∃ p∈(df l).take b,x.1<=p.1
 | 0,l,x,_,_,h=>by simp at h
 | b+1,[],x,h,_,_=>by simp at h
 | b+1,[_],x,h,_,_=>by simp at h;omega
 | b+1,y ::z ::r,x,h,hp,hx=>by
  rw[show 2*(b+1)=(2*b+1)+1 by omega]at hx;simp only[List.take_succ_cons,List.mem_cons]at hx;have hy:=hp y (by simp);have hz:=hp z (by simp);rcases hx with rfl | rfl | hx
  ·exact⟨_,by simp only[df,List.take_succ_cons];exact List.mem_cons_self,by show _<=_+_;omega⟩
  ·exact⟨_,by simp only[df,List.take_succ_cons];exact List.mem_cons_self,by show _<=_+_;omega⟩
  ·obtain⟨p,h1,h2⟩:=wg (b:=b) (l:=r) (by simp at h;omega) (fun y hy=>hp y (by simp[hy])) hx;exact⟨p,by simp only[df,List.take_succ_cons];exact List.mem_cons_of_mem _ h1,h2⟩
end Go.V
/-! Lengths of codes by coins and packages: what is chosen fills all codes, and no choice counts less. Plain Lean; no program. -/
namespace Go.V
def sP(g:bU->Int)(l:List bU):Int:=(l.map g).sum
theorem ov(g:bU->Int)(a b:List bU):sP g (a++b)=sP g a+sP g b:=by simp[sP]
theorem iw(g:bU->Int)(a:bU)(b:List bU):sP g (a ::b)=g a+sP g b:=by simp[sP]
theorem Ek(g:bU->Int):sP g []=0:=rfl
theorem xW(g:bU->Int){a b:List bU}(h:a.Perm b):sP g a=sP g b:=by
 induction h with
 | nil=>rfl
 | cons x _ ih=>rw[iw,iw,ih]
 | swap x y l=>rw[iw,iw,iw,iw];omega
 | trans _ _ h1 h2=>exact h1.trans h2
def gI(g:bU->Int)(first:List bU)(i:Nat):Int:=g (first.getD i (0,[]))
theorem pO(g:bU->Int)(first:List bU):∀ {a:Nat},a<=first.length->sP g (first.take a)=aQ a (gI g first)
 | 0,_=>by simp[sP,aQ]
 | a+1,h=>by
  have h':a<first.length:=by omega
  rw[List.take_succ_eq_append_getElem h',ov,pO g first (by omega)];simp only[aQ,iw,Ek,gI];rw[List.getD_eq_getElem?_getD,List.getElem?_eq_getElem h'];simp
def FN(g:bU->Int):Prop:=∀ a b:bU,g (a.1+b.1,a.2++b.2)=g a+g b
theorem wc{g:bU->Int}(hg:FN g):∀ {b:Nat} {l:List bU},2*b<=l.length->sP g ((df l).take b)=sP g (l.take (2*b))
 | 0,l,_=>by simp[sP]
 | b+1,[],h=>by simp at h
 | b+1,[_],h=>by simp at h;omega
 | b+1,x ::y ::r,h=>by
  have ih:=wc hg (b:=b) (l:=r) (by simp at h;omega);rw[show 2*(b+1)=(2*b+1)+1 by omega];simp only[df,List.take_succ_cons,iw,ih,hg x y];omega
theorem eu(k:Nat):(0:Int)<2^k:=by
 have h:=Nat.two_pow_pos k;obtain⟨q,hq⟩:∃ q:Nat,q=2^k:=⟨_,rfl⟩;have e:(2:Int)^k=(q:Int):=by rw[hq];simp
 rw[e];omega
theorem pow_succ'(k:Nat):(2:Int)^(k+1)=2*2^k:=by rw[Int.pow_succ];omega
theorem EH{first:List bU}(hp:∀ x∈first,0<x.1):∀ k,∀ x∈je first k,0<x.1 :=
 xp (Q:=fun _ x=>0<x.1) (fun k a b ha hb=>by show 0<a.1+b.1;omega) (fun k x hx=>hp x hx)
theorem u6 {first:List bU} (hs:SC first) (hp:∀ x∈first,0<x.1):∀(j k:Nat),k<=(je first j).length →
    ∃ (x:Nat->Nat) (a:Nat),(∀ i,x i<=j+1)/\(∀ i,a<=i->x i=0)/\(∀ i,i<a->1<=x i)/\a<=first.length ∧
      (∀ c∈first.take a,c∈(je first j).take k)/\(∀ i i',i<=i'->x i'<=x i) ∧
      aQ first.length (fun i=>2^(j+1)-2^(j+1-x i))=2^j*(k:Int) ∧
      ∀ g,FN g->sP g ((je first j).take k)=aQ first.length (fun i=>gI g first i*(x i:Int))
  | 0,k,hk=>by
    refine⟨fun i=>if i<k then 1 else 0,k,?_,?_,?_,hk,fun c hc=>hc,?_,?_,?_⟩
    · intro i;dsimp only;split <;>omega
    · intro i hi;dsimp only;rw[if_neg (by omega)]
    · intro i hi;dsimp only;rw[if_pos hi];omega
    · intro i i' h;dsimp only;split <;>split <;>omega
    · have:aQ first.length (fun i=>(2:Int)^(0+1)-2^(0+1-(if i<k then 1 else 0)))=aQ first.length (fun i=>if i<k then 1 else 0):=by
        apply bP;intro i hi;by_cases e:i<k <;>simp[e]
      have Gi:k<=first.length:=hk;rw[this,kP (fun _=>1) Gi,gQ];simp
    · intro g hg;show sP g (first.take k)=_;have Gi:k<=first.length:=hk;rw[pO g first Gi,← kP (gI g first) Gi];apply bP;intro i hi;by_cases e:i<k <;>simp[e]
  | j + 1,k,hk=>by
    have JP:=EH hp j;have Gi:k<=first.length+(df (je first j)).length:=by
      have:=hk;simp only[je,eH,fq]at this;exact this
    obtain⟨a,b,e1,e2,e3,e4,e5⟩:=pb (N:=k) (k:=k) (cs:=first) (ps:=df (je first j)) (Nat.le_refl _) Gi hs;have R8:2*b<=(je first j).length:=by rw[fO]at e3;omega
    obtain⟨x',a',x1,x2,x3,x4,x5,x6,x7,x8⟩:=u6 hs hp j (2*b) R8;have Xz:a'<=a:=by
      rcases Nat.lt_or_ge a a' with FP | FU
      · exfalso;have hi:a<first.length:=by omega
        have hm:first[a]∈first.take a':=List.mem_take_iff_getElem.2 ⟨a,by omega,rfl⟩
        obtain⟨p,q1,q2⟩:=wg R8 (fun y hy=>Int.le_of_lt (JP y hy)) (x5 _ hm);have hd:first[a]∈first.drop a:=by rw[List.drop_eq_getElem_cons hi];exact List.mem_cons_self
        have:=e5 p q1 _ hd;omega
      · exact FU
    refine⟨fun i=>(if i<a then 1 else 0)+x' i,a,?_,?_,?_,e2,?_,?_,?_,?_⟩
    · intro i;have:=x1 i;dsimp only;split <;>omega
    · intro i hi;have:=x2 i (by omega);dsimp only;rw[if_neg (by omega)];omega
    · intro i hi;dsimp only;rw[if_pos hi];omega
    · intro c hc;exact e4.symm.subset (List.mem_append_left _ hc)
    · intro i i' h;have:=x6 i i' h;dsimp only;split <;>split <;>omega
    · have:aQ first.length (fun i=>(2:Int)^(j+1+1)-2^(j+1+1-((if i<a then 1 else 0)+x' i))) =
          aQ first.length (fun i=>(if i<a then(2:Int)^(j+1) else 0)+(2^(j+1)-2^(j+1-x' i))):=by
        apply bP;intro i hi;have h1:=x1 i;split
        · rw[show j+1+1-(1+x' i)=j+1-x' i by omega,pow_succ' (j+1)];omega
        · have:=x2 i (by omega);rw[this];simp
      rw[this,fM,kP (fun _=>(2:Int)^(j+1)) e2,gQ,x7,pow_succ' j,← e1];rw[Int.natCast_add,Int.natCast_mul,Int.mul_add,Int.mul_comm (a:Int),Int.mul_left_comm,Int.mul_assoc 2 (2^j) (b:Int)];rfl
    · intro g hg;show sP g ((cO first (df (je first j))).take k)=_;rw[xW g e4,ov,wc hg R8,x8 g hg,pO g first e2,← kP (gI g first) e2,← fM];apply bP;intro i hi;by_cases e:i<a
      · simp[e,Int.mul_add]
      · simp[e]
theorem qS{N:Nat}{c:Nat->Int}(hc:∀ i i',i<=i'->i'<N->c i<=c i')(p:Nat->Bool):∀ n,n<=N->∃ b,b<=n/\aQ n (fun i=>if p i then 1 else 0)=(b:Int)/\aQ b c<=aQ n (fun i=>if p i then c i else 0)
 | 0,_=>⟨0,by omega,rfl,Int.le_refl _⟩
 | n+1,hn=>by
  obtain⟨b,h1,h2,h3⟩:=qS hc p n (by omega);by_cases hp:p n=true
  ·refine⟨b+1,by omega,?_,?_⟩
   ·simp only[aQ,h2,hp,if_true];omega
   ·have:=hc b n h1 (by omega);simp only[aQ,hp,if_true];omega
  ·refine⟨b,by omega,?_,?_⟩
   ·simp only[aQ,h2,hp];simp
   ·simp only[aQ,hp];simpa using h3
theorem tO{N:Nat}{c:Nat->Int}(hc:∀ i,i<N->0<=c i){a b:Nat}(h:a<=b)(hb:b<=N):aQ a c<=aQ b c:=by
  induction b with
  | zero => have:a=0:=by omega
            subst this;exact Int.le_refl _
  | succ b ih =>
    by_cases e:a=b+1
    · subst e;exact Int.le_refl _
    · have:=ih (by omega) (by omega);have:=hc b (by omega);simp only[aQ];omega
theorem BN{first:List bU}(hs:SC first):∀ i i',i<=i'->i'<first.length->cI first i<=cI first i':=by
 intro i i' h h';have hi:i<first.length:=by omega
 have:=aJ.get hs h (List.getElem?_eq_getElem hi) (List.getElem?_eq_getElem h');simpa[cI,List.getD_eq_getElem?_getD,hi,h']using this
theorem AV{first:List bU}(hp:∀ x∈first,0<x.1):∀ i,i<first.length->0<cI first i:=by
 intro i hi;have:=hp _ (List.getElem_mem hi);simpa[cI,List.getD_eq_getElem?_getD,hi]using this
theorem EZ {first:List bU} (hs:SC first) (hp:∀ x∈first,0<x.1):∀(j k:Nat)(y:Nat->Nat),(∀ i,i<first.length->y i<=j+1)->k<=(je first j).length →
    2^j*(k:Int)<=aQ first.length (fun i=>2^(j+1)-2^(j+1-y i))->wt ((je first j).take k)<=aQ first.length (fun i=>cI first i*(y i:Int))
  | 0,k,y,hy,hk,h=>by
    obtain⟨b,b1,b2,b3⟩:=qS (BN hs) (fun i=>decide (1<=y i)) first.length (Nat.le_refl _);have h1:aQ first.length (fun i=>(2:Int)^(0+1)-2^(0+1-y i))=aQ first.length (fun i=>if decide (1<=y i) then 1 else 0):=by
      apply bP;intro i hi;have:=hy i hi;by_cases e:1<=y i
      · have:y i=1:=by omega
        simp[this]
      · have:y i=0:=by omega
        simp[this]
    have h2:aQ first.length (fun i=>if decide (1<=y i) then cI first i else 0)=aQ first.length (fun i=>cI first i*(y i:Int)):=by
      apply bP;intro i hi;have:=hy i hi;by_cases e:1<=y i
      · have:y i=1:=by omega
        simp[this]
      · have:y i=0:=by omega
        simp[this]
    rw[h1,b2]at h;have QX:k<=b:=by simp at h;omega
    show wt (first.take k)<=_;rw[sY first hk,← h2];exact Int.le_trans (tO (fun i hi=>Int.le_of_lt (AV hp i hi)) QX b1) b3
  | j + 1, k, y,hy,hk,h=>by
    obtain⟨b,b1,b2,b3⟩:=qS (BN hs) (fun i=>decide (1<=y i)) first.length (Nat.le_refl _);have hS:=ux hs j;have Tn:=l6 hS;have Gi:k<=first.length+(df (je first j)).length:=by
      have:=hk;simp only[je,eH,fq]at this;exact this
    have key:aQ first.length (fun i=>cI first i*(y i:Int))=aQ first.length (fun i=>if decide (1<=y i) then cI first i else 0)+aQ first.length (fun i=>cI first i*((y i-1:Nat):Int)):=by
      rw[← fM];apply bP;intro i hi;by_cases e:1<=y i
      · have e2:(y i:Int)=1+((y i-1:Nat):Int):=by omega
        simp only[e,decide_true,if_true];rw[e2,Int.mul_add];simp
      · have:y i=0:=by omega
        simp[this]
    have hw:aQ first.length (fun i=>(2:Int)^(j+1+1)-2^(j+1+1-y i))=2^(j+1)*(b:Int)+aQ first.length (fun i=>2^(j+1)-2^(j+1-(y i-1))):=by
      rw[← b2,← qK,← fM];apply bP;intro i hi;have:=hy i hi;by_cases e:1<=y i
      · simp only[e,decide_true,if_true];rw[show j+1+1-y i=j+1-(y i-1) by omega,pow_succ' (j+1)];omega
      · have:y i=0:=by omega
        simp[this]
    have Sm:0<=aQ first.length (fun i=>(2:Int)^(j+1)-2^(j+1-(y i-1))):=by
      have:=jk (n:=first.length) (f:=fun _=>(0:Int)) (g:=fun i=>(2:Int)^(j+1)-2^(j+1-(y i-1))) (fun i hi=>by
        have h1:2^(j+1-(y i-1))<=2^(j+1):=Nat.pow_le_pow_right (n:=2) (by omega) (by omega);have e1:((2^(j+1-(y i-1)):Nat):Int)=2^(j+1-(y i-1)):=by simp
        have e2:((2^(j+1):Nat):Int)=2^(j+1):=by simp
        rw[← e1,← e2];omega)
      rw[iX]at this;exact this
    show wt ((cO first (df (je first j))).take k)<=_;rw[key];have S8:0<=aQ first.length (fun i=>cI first i*((y i-1:Nat):Int)):=by
      have:=jk (n:=first.length) (f:=fun _=>(0:Int)) (g:=fun i=>cI first i*((y i-1:Nat):Int)) (fun i hi=>Int.mul_nonneg (Int.le_of_lt (AV hp i hi)) (by omega));rw[iX]at this;exact this
    by_cases QX:k<=b
    · have hm:=jN (N:=k) (a:=k) (b:=0) (cs:=first) (ps:=df (je first j)) (by omega) hs Tn (by omega) (by omega);rw[Nat.add_zero,List.take_zero,qA,sY first (by omega)]at hm;have:=tO (c:=cI first) (fun i hi=>Int.le_of_lt (AV hp i hi)) QX b1;omega
    · obtain⟨q,hq⟩:∃ q,k=b+q:=⟨k-b,by omega⟩;subst hq;have h2:2^j*((2*q:Nat):Int)<=aQ first.length (fun i=>2^(j+1)-2^(j+1-(y i-1))):=by
        rw[hw]at h;have e1:(2:Int)^(j+1)*((b+q:Nat):Int)=2^(j+1)*(b:Int)+2^(j+1)*(q:Int):=by rw[Int.natCast_add,Int.mul_add]
        have e2:(2:Int)^j*((2*q:Nat):Int)=2^(j+1)*(q:Int):=by
          rw[pow_succ' j,Int.natCast_mul,Int.mul_comm 2 ((2:Int)^j),Int.mul_assoc];rfl
        omega
      have Lo :q<=(df (je first j)).length:=by
        have:=hk;simp only[je,eH,fq]at this
        -- as wide as all that there is
        have FZ:aQ first.length (fun i=>(2:Int)^(j+1)-2^(j+1-(y i-1)))<=(first.length:Int)*(2^(j+1)-1):=by
          rw[← gQ];apply jk;intro i hi;have:=eu (j+1-(y i-1));omega
        have hl:=pg first j
        rw[fO];rcases Nat.lt_or_ge ((je first j).length / 2) q with FP | FU
        · exfalso;have h3:(je first j).length+1<=2*q:=by omega
          -- 2q ≤ 2n - n/2^j
          have h4:(2:Int)^j*((2*q:Nat):Int)<=(first.length:Int)*(2^(j+1)-1):=Int.le_trans h2 FZ;have h5:2^j*(2*q)+first.length<=first.length*(2*2^j):=by
            have e1:((2^j:Nat):Int)=2^j:=by simp
            have e2:(first.length:Int)*(2^(j+1)-1)=(first.length:Int)*(2*2^j)-first.length:=by rw[pow_succ',Int.mul_sub];simp
            rw[e2]at h4;have e3:((2^j*(2*q):Nat):Int)=2^j*((2*q:Nat):Int):=by rw[Int.natCast_mul];simp
            have e4:((first.length*(2*2^j):Nat):Int)=(first.length:Int)*(2*2^j):=by rw[Int.natCast_mul];simp
            apply Int.ofNat_le.1;rw[Int.natCast_add,e3,e4];generalize (2:Int)^j*((2*q:Nat):Int)=z1 at *;generalize (first.length:Int)*(2*2^j)=z2 at *;omega
          have Lr:=Nat.two_pow_pos j;have e:first.length*(2*2^j)=2^j*(2*first.length):=by rw[Nat.mul_comm 2 (2^j),Nat.mul_left_comm,Nat.mul_comm first.length 2]
          have Su:2*q<=2*first.length:=by
            rcases Nat.lt_or_ge (2*first.length) (2*q)with hl | hg
            · exfalso;have:=Nat.mul_le_mul_left (2^j) (Nat.le_of_lt hl);have h8:=Nat.mul_lt_mul_of_pos_left hl Lr;rw[e]at h5;generalize 2^j*(2*q)=z1 at *;generalize 2^j*(2*first.length)=z2 at *;omega
            · exact hg
          have h6:first.length+2^j-1<2^j*(2*first.length-2*q+1):=by
            obtain⟨d,hd⟩:∃ d,2*first.length=2*q+d:=⟨2*first.length-2*q,by omega⟩;rw[e,hd,Nat.mul_add]at h5;rw[show 2*first.length-2*q+1=d+1 by omega,Nat.mul_add,Nat.mul_one];omega
          have h7:(first.length+2^j-1) / 2^j<2*first.length-2*q+1:=(Nat.div_lt_iff_lt_mul Lr).2 (by rw[Nat.mul_comm];exact h6);omega
        · exact FU
      have TK:2*q<=(je first j).length:=by rw[fO]at Lo;omega
      have ih:=EZ hs hp j (2*q) (fun i=>y i-1) (fun i hi=>by have:=hy i hi;omega) TK h2;have hm:=jN (N:=b+q) (a:=b) (b:=q) (cs:=first) (ps:=df (je first j)) (by omega) hs Tn b1 Lo;rw[(ul TK).1,sY first b1]at hm;omega
end Go.V
/-! Lengths of codes, symbol by symbol: all codes are used, none is too long, none is better. Plain Lean; no program. -/
namespace Go.V
theorem yN{α:Type}(key:α->Int)(x:α):∀ l:List α,(sS key x l).Perm (x ::l)
 | []=>by simp[sS]
 | y ::ys=>by
  unfold sS;split
  ·exact((yN key x ys).cons y).trans (List.Perm.swap x y ys)
  ·exact List.Perm.refl _
theorem iI{α:Type}(key:α->Int)(xs:List α):(dj key xs).Perm xs:=by
 have:∀(xs l:List α),(xs.foldl (fun l x=>sS key x l) l).Perm (l++xs):=by
  intro xs
  induction xs with
  | nil=>intro l;simp
  | cons x xs ih =>
   intro l;refine(ih _).trans ?_;have h1:(sS key x l++xs).Perm ((x ::l)++xs):=(yN key x l).append_right xs;exact h1.trans (List.perm_middle (a:=x) (l₁:=l) (l₂:=xs)).symm
 simpa[dj]using this xs []
def sy(c:bU):Nat:=c.2.headD 0
def PS(xs:List Int)(f:Nat->Int):Int:=aQ xs.length (fun s=>if 0<xs.getD s 0 then f s else 0)
theorem Bl(g:bU->Int)(xs:List Int):∀ k,k<=xs.length->sP g (aV 0 (xs.take k))=aQ k (fun s=>if 0<xs.getD s 0 then g (cN (xs.getD s 0),[s]) else 0)
 | 0,_=>by simp[aV,sP,aQ]
 | k+1,h=>by
  have h':k<xs.length:=by omega
  have hd:xs.getD k 0=xs[k]:=by simp[List.getD_eq_getElem?_getD,h']
  rw[List.take_succ_eq_append_getElem h',gl,ov,Bl g xs k (by omega)];have hl:(xs.take k).length=k:=by simp;omega
  simp only[aQ,hd,hl,Nat.zero_add,aV];split <;>simp[sP]
theorem B7(g:bU->Int)(xs:List Int):sP g (aK xs)=PS xs (fun s=>g (cN (xs.getD s 0),[s])):=by
 have h:=Bl g xs xs.length (Nat.le_refl _);rw[List.take_length]at h;rw[PS,← h];exact xW g (iI _ _)
theorem kO(g:bU->Int)(xs:List Int):aQ (aK xs).length (gI g (aK xs))=PS xs (fun s=>g (cN (xs.getD s 0),[s])):=by
 rw[← B7,← pO g _ (Nat.le_refl _),List.take_length]
theorem mS:∀(xs:List Int)(i:Nat),(aV i xs).Pairwise (fun a b=>sy a<sy b)
 | [],i=>by simp[aV]
 | n ::ns,i=>by
  unfold aV;split
  ·refine List.pairwise_cons.2 ⟨fun z hz=>?_,mS ns (i+1)⟩;obtain⟨_,_,s,h3,h4,_⟩:=jE ns (i+1) z hz;simp[sy,h3];omega
  ·exact mS ns (i+1)
theorem zb(xs:List Int):((aK xs).map sy).Nodup:=by
 have h1:((aV 0 xs).map sy).Nodup:=by
  rw[List.Nodup,List.pairwise_map];exact(mS xs 0).imp (fun h=>by omega)
 exact((iI Prod.fst (aV 0 xs)).map sy).nodup_iff.2 h1
theorem CJ{xs:List Int}{i j:Nat}(hi:i<(aK xs).length)(hj:j<(aK xs).length)(h:sy (aK xs)[i]=sy (aK xs)[j]):i=j:=by
 have:=zb xs;rw[List.Nodup,List.pairwise_iff_getElem]at this;rcases Nat.lt_trichotomy i j with FP | he | GV
 ·exact absurd (by rw[List.getElem_map,List.getElem_map];exact h) (this i j (by simpa using hi) (by simpa using hj) FP)
 ·exact he
 ·exact absurd (by rw[List.getElem_map,List.getElem_map];exact h.symm) (this j i (by simpa using hj) (by simpa using hi) GV)
theorem nv{xs:List Int}{c:bU}(h:c∈aK xs):c.2=[sy c]/\sy c<xs.length:=by
 obtain⟨_,_,s,h3,h4⟩:=j8 h;simp[sy,h3,h4]
theorem mz{xs:List Int}{c:bU}(h:c∈aK xs):0<xs.getD (sy c) 0/\c.1=cN (xs.getD (sy c) 0):=by
 have h0:c∈aV 0 xs:=(iI Prod.fst (aV 0 xs)).subset h;have:∀(ys:List Int)(i:Nat),c∈aV i ys->0<ys.getD (sy c-i) 0/\c.1=cN (ys.getD (sy c-i) 0):=by
  intro ys
  induction ys with
  | nil=>intro i h;simp[aV]at h
  | cons n ns ih =>
   intro i h;have more:c∈aV (i+1) ns->0<(n ::ns).getD (sy c-i) 0/\c.1=cN ((n ::ns).getD (sy c-i) 0):=by
    intro h;obtain⟨_,_,s,h3,h4,_⟩:=jE ns (i+1) c h;have hs:sy c=s:=by simp[sy,h3]
    have:=ih (i+1) h;have e:sy c-i=(sy c-(i+1))+1:=by omega
    rw[e];simpa using this
   unfold aV at h;split at h
   ·rename_i hn;rcases List.mem_cons.1 h with e | e
    ·subst e;simp[sy];exact hn
    ·exact more e
   ·exact more h
 simpa using this xs 0 h0
theorem gP(f:Nat->Int){i:Nat}:∀ {n:Nat},i<n->aQ n (fun j=>if j=i then f j else 0)=f i
 | 0,h=>by omega
 | n+1,h=>by
  by_cases e:i=n
  ·subst e;have:aQ i (fun j=>if j=i then f j else 0)=aQ i (fun _=>0):=bP (fun j hj=>by rw[if_neg (by omega)]);simp only[aQ,this,iX];simp
  ·have:=gP f (i:=i) (n:=n) (by omega);simp only[aQ,this];rw[if_neg (by omega)];omega
theorem u4(s:Nat):∀ l:List bU,((l.flatMap Prod.snd).count s:Int)=sP (fun c=>(c.2.count s:Int)) l
 | []=>by simp[sP]
 | c ::l=>by
  have:=u4 s l;simp only[List.flatMap_cons,List.count_append,iw];omega
theorem kD{f:Nat->Int}:∀ {n:Nat},(∀ i,i<n->0<f i)->∀ i,i<n->f i<=aQ n f/\(2<=n->f i<aQ n f)
 | 0,_,i,hi=>by omega
 | n+1,h,i,hi=>by
  have hn:=h n (by omega);have Iy:0<=aQ n f:=by
   have:=jk (n:=n) (f:=fun _=>(0:Int)) (g:=f) (fun i hi=>Int.le_of_lt (h i (by omega)));rw[iX]at this;exact this
  by_cases e:i=n
  ·subst e;refine⟨by simp only[aQ];omega,fun h2=>?_⟩;have:=(kD (f:=f) (n:=i) (fun j hj=>h j (by omega)) 0 (by omega)).1;have:=h 0 (by omega);simp only[aQ];omega
  ·have ih:=kD (f:=f) (n:=n) (fun j hj=>h j (by omega)) i (by omega);refine⟨by simp only[aQ];omega,fun _=>by simp only[aQ];omega⟩
theorem qp {xs:List Int} {m:Nat} (hm:1<=m) (h2:2<=(aK xs).length) (hn:(aK xs).length<=2^m) :
    (∀ s,¬ 0<xs.getD s 0->(bX xs m).count s=0)/\(∀ s,0<xs.getD s 0->1<=(bX xs m).count s/\(bX xs m).count s<=m) ∧
    PS xs (fun s=>2^(m-(bX xs m).count s))=2^m ∧
    (∀ y:Nat->Nat,(∀ s,0<xs.getD s 0->y s<=m)->PS xs (fun s=>2^(m-y s))<=2^m->PS xs (fun s=>cN (xs.getD s 0)*((bX xs m).count s:Int))<=PS xs (fun s=>cN (xs.getD s 0)*(y s:Int))):=by
  have hs:SC (aK xs):=iG _;have hp:∀ x∈aK xs,0<x.1:=fun x hx=>(j8 hx).1;have hk:=uy hm hn;have Na:bX xs m=((je (aK xs) (m-1)).take (2*(aK xs).length-2)).flatMap Prod.snd:=by unfold bX;rw[if_neg (by omega)]
  obtain⟨x,a,x1,x2,x3,x4,x5,x6,x7,x8⟩:=u6 hs hp (m-1) _ hk;have em:m-1+1=m:=by omega
  rw[em]at x1 x7;generalize hN:(aK xs).length=N at *
  -- NX often each symbol is bX
  have HL:∀ s,FN (fun c=>(c.2.count s:Int)):=fun s a b=>by simp
  have Hj:∀ s,((bX xs m).count s:Int)=aQ N (fun i=>gI (fun c=>(c.2.count s:Int)) (aK xs) i*(x i:Int)):=by
    intro s;rw[Na,u4,x8 _ (HL s)]
  have I0:∀ i,(h:i<N)->(aK xs).getD i (0,[])=(aK xs)[i]'(by omega):=by
    intro i h;have h':i<(aK xs).length:=by omega
    simp[List.getD_eq_getElem?_getD,h']
  have hx:∀ i,i<N->((bX xs m).count (sy ((aK xs).getD i (0,[]))):Int)=(x i:Int):=by
    intro i hi;rw[Hj];rw[← gP (fun j=>(x j:Int)) hi];apply bP;intro j hj;have G2:j<(aK xs).length:=by omega
    have J0:i<(aK xs).length:=by omega
    have c1:=nv (List.getElem_mem G2);simp only[gI];rw[I0 i hi,I0 j hj,c1.1];by_cases e:j=i
    · subst e;simp
    · have:sy (aK xs)[j]≠sy (aK xs)[i]:=fun h=>e (CJ G2 J0 h);simp[e,this]
  have QV:aQ N (fun i=>(2:Int)^(m-x i))=2^m:=by
    have e1:aQ N (fun i=>(2:Int)^m-2^(m-x i))+aQ N (fun i=>(2:Int)^(m-x i))=aQ N (fun _=>(2:Int)^m):=by
      rw[← fM];apply bP;intro i hi;omega
    rw[x7,gQ]at e1;have e2:(2:Int)^m=2*2^(m-1):=by rw[← pow_succ',em]
    have e3:(2:Int)^(m-1)*((2*N-2:Nat):Int)+2^m=N*2^m:=by
      obtain⟨d,hd⟩:∃ d:Nat,N=d+1:=⟨N-1,by omega⟩;subst hd;rw[e2,show 2*(d+1)-2=2*d by omega];generalize (2:Int)^(m-1)=z;rw[Int.natCast_mul,Int.natCast_add,Int.add_mul];rw[Int.mul_left_comm,Int.mul_left_comm (d:Int) 2 z,Int.mul_comm z (d:Int)];simp
    omega
  have LN:∀ i,i<N->1<=x i:=by
    intro i hi;rcases Nat.eq_zero_or_pos (x i)with h0 | h0
    · exfalso;have:=(kD (f:=fun i=>(2:Int)^(m-x i)) (n:=N) (fun j hj=>eu _) i hi).2 h2;rw[QV,h0]at this;simp at this
    · exact h0
  have Jd : ∀ s,0<xs.getD s 0->∃ i,i<N/\sy ((aK xs).getD i (0,[]))=s:=by
    intro s G7;have Xb:s<xs.length:=by
      rcases Nat.lt_or_ge s xs.length with h | h
      · exact h
      · simp[List.getD_eq_getElem?_getD,h]at G7
    have Gl :(cN (xs.getD s 0),[s])∈aV 0 xs:=by
      have:∀(ys:List Int)(i j:Nat),0<ys.getD j 0->(cN (ys.getD j 0),[i+j])∈aV i ys:=by
        intro ys
        induction ys with
        | nil=>intro i j h;simp at h
        | cons n ns ih =>
          intro i j h;cases j with
          | zero=>simp at h;simp[aV,h]
          | succ j =>
            have:=ih (i+1) j (by simpa using h);unfold aV;have e:i+1+j=i+(j+1):=by omega
            rw[e]at this;split
            · exact List.mem_cons_of_mem _ (by simpa using this)
            · simpa using this
      simpa using this xs 0 s G7
    have Ot:(cN (xs.getD s 0),[s])∈aK xs:=(iI Prod.fst (aV 0 xs)).symm.subset Gl;obtain⟨i,hi,he⟩:=List.mem_iff_getElem.1 Ot;refine⟨i,by omega,?_⟩;rw[I0 i (by omega),he];rfl
  have FT:∀ s,0<xs.getD s 0->1<=(bX xs m).count s/\(bX xs m).count s<=m:=by
    intro s G7;obtain⟨i,hi,rfl⟩:=Jd s G7;have:=hx i hi;have:=LN i hi;have:=x1 i;omega
  refine⟨?_,FT,?_,?_⟩
  · intro s G7;have h:((bX xs m).count s:Int)=0:=by
      rw[Hj];rw[show(0:Int)=aQ N (fun _=>0) from(iX N).symm];apply bP;intro j hj;have G2:j<(aK xs).length:=by omega
      have c1:=nv (List.getElem_mem G2);have c2:=mz (List.getElem_mem G2);simp only[gI];rw[I0 j hj,c1.1];have:sy (aK xs)[j]≠s:=fun e=>G7 (by rw[← e];exact c2.1);simp[this]
    omega
  · have h:=kO (fun c=>(2:Int)^(m-(bX xs m).count (sy c))) xs;rw[hN]at h;have e:PS xs (fun s=>(2:Int)^(m-(bX xs m).count s))=PS xs (fun s=>(2:Int)^(m-(bX xs m).count (sy (cN (xs.getD s 0),[s])))):=rfl;rw[e,← h,← QV];apply bP;intro i hi;have:=hx i hi;have:(bX xs m).count (sy ((aK xs).getD i (0,[])))=x i:=by omega
    simp only[gI,this]
  · intro y hy Ia;have h1:=kO (fun c=>c.1*((bX xs m).count (sy c):Int)) xs;have Kt:=kO (fun c=>c.1*(y (sy c):Int)) xs;have h3:=kO (fun c=>(2:Int)^(m-y (sy c))) xs;rw[hN]at h1 Kt h3;have e1:PS xs (fun s=>cN (xs.getD s 0)*((bX xs m).count s:Int))=PS xs (fun s=>(cN (xs.getD s 0),[s]).1*((bX xs m).count (sy (cN (xs.getD s 0),[s])):Int)):=rfl;have e2:PS xs (fun s=>cN (xs.getD s 0)*(y s:Int))=PS xs (fun s=>(cN (xs.getD s 0),[s]).1*(y (sy (cN (xs.getD s 0),[s])):Int)):=rfl;have e3:PS xs (fun s=>(2:Int)^(m-y s))=PS xs (fun s=>(2:Int)^(m-y (sy (cN (xs.getD s 0),[s])))):=rfl;rw[e3,← h3]at Ia;rw[e1,← h1,e2,← Kt]
    -- the u6 that y is
    have LM:∀ i,i<(aK xs).length->y (sy ((aK xs).getD i (0,[])))<=m-1+1:=by
      intro i hi;rw[em];apply hy;rw[I0 i (by omega)];exact(mz (List.getElem_mem hi)).1
    have hb:=EZ hs hp (m-1) _ (fun i=>y (sy ((aK xs).getD i (0,[])))) LM hk ?_
    · rw[hN]at hb;have hw:wt ((je (aK xs) (m-1)).take (2*N-2))=sP Prod.fst ((je (aK xs) (m-1)).take (2*N-2)):=rfl;rw[hw,x8 Prod.fst (fun a b=>rfl)]at hb;have e4:aQ N (gI (fun c=>c.1*((bX xs m).count (sy c):Int)) (aK xs))=aQ N (fun i=>gI Prod.fst (aK xs) i*(x i:Int)):=by
        apply bP;intro i hi;simp only[gI];rw[hx i hi]
      rw[e4];exact hb
    · rw[em,hN];have e5:aQ N (fun i=>(2:Int)^m-2^(m-y (sy ((aK xs).getD i (0,[])))))+aQ N (gI (fun c=>(2:Int)^(m-y (sy c))) (aK xs))=aQ N (fun _=>(2:Int)^m):=by
        rw[← fM];apply bP;intro i hi;simp only[gI];omega
      have e6:aQ N (fun i=>(2:Int)^m-2^(m-x i))+aQ N (fun i=>(2:Int)^(m-x i))=aQ N (fun _=>(2:Int)^m):=by
        rw[← fM];apply bP;intro i hi;omega
      rw[QV,x7]at e6;omega
end Go.V
/-! The laws of lengths of codes, of lists: all is used, the best, a greatest length more, all alike, so many times as great. Plain Lean; no program. -/
namespace Go.V
theorem DP(xs:List Int)(t s:Nat)(hs:s<xs.length):(q9 xs t).getD s 0=xs.getD s 0+(if t=s then 1 else 0):=by
 unfold q9;simp only[List.getD_eq_getElem?_getD,List.getElem?_set];by_cases e:t=s
 ·subst e;simp[hs]
 ·simp[e]
theorem vf:∀(ss:List Nat)(xs:List Int)(s:Nat),s<xs.length->(ek ss xs).getD s 0=xs.getD s 0+(ss.count s:Int)
 | [],xs,s,_=>by simp[ek]
 | t ::ss,xs,s,h=>by
  have:=vf ss (q9 xs t) s (by rw[sE];exact h);show(ek ss (q9 xs t)).getD s 0=_;rw[this,DP xs t s h,List.count_cons];by_cases e:t=s
  ·simp[e];omega
  ·simp[e]
theorem yG{xs:List Int}{most:Int}(h:xs.length<=256)(hn:(aK xs).length<=2^cw most):dq xs most=ek (bX xs (cw most)) (List.replicate xs.length 0):=by
 unfold dq;rw[if_neg (by omega),if_neg (by omega)]
theorem mg{xs:List Int}{most:Int}(h:xs.length<=256)(hn:(aK xs).length<=2^cw most):(dq xs most).length=xs.length:=by
 rw[yG h hn,dv];simp
theorem qR{xs:List Int}{most:Int}(h:xs.length<=256)(hn:(aK xs).length<=2^cw most){s:Nat}(hs:s<xs.length):(dq xs most).getD s 0=((bX xs (cw most)).count s:Int):=by
 rw[yG h hn,vf _ _ _ (by simpa using hs)];simp[List.getD_eq_getElem?_getD,hs]
theorem xo:∀ k,je [] k=[]
 | 0=>rfl
 | k+1=>by simp[je,eH,xo k,df,cO]
theorem kz(xs:List Int):((aK xs).length:Int)=PS xs (fun _=>1):=by
 rw[← kO (fun _=>1) xs];have:aQ (aK xs).length (gI (fun _=>1) (aK xs))=aQ (aK xs).length (fun _=>1):=rfl;rw[this,gQ];omega
theorem FL(xs:List Int)(c:Int)(f:Nat->Int):PS xs (fun s=>c*f s)=c*PS xs f:=by
 unfold PS;rw[← qK];apply bP;intro s hs;split <;>simp
theorem za {xs:List Int} {m:Nat} (hm:1<=m) (hn:(aK xs).length<=2^m) :
    (∀ s,s<xs.length->¬ 0<xs.getD s 0->(bX xs m).count s=0)/\(∀ s,s<xs.length->0<xs.getD s 0->1<=(bX xs m).count s/\(bX xs m).count s<=m):=by
  by_cases h2:2<=(aK xs).length
  · obtain⟨h3,h4,_⟩:=qp hm h2 hn;exact⟨fun s _=>h3 s,fun s _=>h4 s⟩
  by_cases h1:(aK xs).length=1
  · obtain⟨c,hc⟩:=List.length_eq_one_iff.1 h1;have Na:bX xs m=[sy c]:=by
      unfold bX;rw[if_pos h1,hc];have:=(nv (xs:=xs) (c:=c) (by rw[hc];simp)).1;simpa using this
    have Lq:=mz (xs:=xs) (c:=c) (by rw[hc];simp);have NZ : ∀ s,s<xs.length->0<xs.getD s 0->s=sy c:=by
      intro s hs hp;by_cases e:s=sy c
      · exact e
      · exfalso;have Mn:=kz xs;rw[h1]at Mn;have FP:sy c<xs.length:=(nv (xs:=xs) (c:=c) (by rw[hc];simp)).2;have h3:=gP (fun _=>(1:Int)) hs;have h4:=gP (fun _=>(1:Int)) FP;have h5:aQ xs.length (fun j=>if j=s then(1:Int) else 0)+aQ xs.length (fun j=>if j=sy c then(1:Int) else 0)<=PS xs (fun _=>1):=by
          rw[← fM];apply jk;intro i hi;by_cases e1:i=s
          · subst e1;simp only[hp,e,if_true,if_false];omega
          · by_cases e2:i=sy c
            · subst e2;have:=Lq.1;simp only[e1,if_false,this,if_true];omega
            · simp only[e1,e2,if_false];split <;>omega
        rw[h3,h4]at h5;omega
    rw[Na];refine⟨fun s hs h0=>?_,fun s hs h0=>?_⟩
    · rw[List.count_singleton];have:¬ sy c=s:=fun e=>h0 (by rw[← e];exact Lq.1);simp[this]
    · have:=NZ s hs h0;subst this;simp;omega
  · have h0:(aK xs)=[]:=List.eq_nil_of_length_eq_zero (by omega);have Na:bX xs m=[]:=by unfold bX;rw[h0];simp[xo]
    have Mn:=kz xs;rw[h0]at Mn;rw[Na];refine⟨fun s _ _=>by simp,fun s hs hp=>?_⟩;exfalso;have h3:=gP (fun _=>(1:Int)) hs;have h5:aQ xs.length (fun j=>if j=s then(1:Int) else 0)<=PS xs (fun _=>1):=by
      apply jk;intro i hi;by_cases e1:i=s
      · subst e1;simp only[hp,if_true];omega
      · simp only[e1,if_false];split <;>omega
    rw[h3]at h5;simp at Mn;omega
theorem BB{xs:List Int}{most:Int}(h:xs.length<=256)(hn:(aK xs).length<=2^cw most)(hm:1<=cw most){s:Nat}(hs:s<xs.length):
    0<=(dq xs most).getD s 0/\(dq xs most).getD s 0<=cw most/\(0<(dq xs most).getD s 0↔0<xs.getD s 0):=by
  rw[qR h hn hs];obtain⟨h1,h2⟩:=za hm hn;by_cases e:0<xs.getD s 0
  · have:=h2 s hs e;exact⟨by omega,by omega,by constructor <;>intro _ <;>omega⟩
  · have:=h1 s hs e;exact⟨by omega,by omega,by constructor <;>intro _ <;>omega⟩
def ew(x:Int):Int:=if 1<=x/\x<=15 then 2^(15-x).toNat else 0
def d8(xs:List Int):Int:=(xs.map ew).sum
theorem wM(f:Int->Int):∀ xs:List Int,(xs.map f).sum=aQ xs.length (fun s=>f (xs.getD s 0))
 | xs=>by
  have:∀ k,k<=xs.length->((xs.take k).map f).sum=aQ k (fun s=>f (xs.getD s 0)):=by
   intro k
   induction k with
   | zero=>intro _;simp[aQ]
   | succ k ih =>
    intro h;have h':k<xs.length:=by omega
    rw[List.take_succ_eq_append_getElem h',List.map_append,List.sum_append,ih (by omega)];simp[aQ,List.getD_eq_getElem?_getD,h']
  have:=this xs.length (Nat.le_refl _)
  rwa [List.take_length]at this
theorem Ak{x:Int}(h:¬ 0<x):cN x=0:=by unfold cN mx mn;split <;>split <;>omega
theorem Dp{xs:List Int}{most:Int}(h:xs.length<=256)(h2:2<=(aK xs).length)(hn:(aK xs).length<=2^cw most)(hm:1<=cw most)(PQ:cw most<=15):d8 (dq xs most)=32768:=by
 obtain⟨f1,f2,f3,_⟩:=qp hm h2 hn;rw[d8,wM,mg h hn];have e:aQ xs.length (fun s=>ew ((dq xs most).getD s 0))=PS xs (fun s=>2^(15-cw most)*2^(cw most-(bX xs (cw most)).count s)):=by
  apply bP;intro s hs;rw[qR h hn hs];by_cases e:0<xs.getD s 0
  ·have:=f2 s e;simp only[e,if_true,ew];rw[if_pos (by omega),← Int.pow_add];congr 1;omega
  ·simp only[e,if_false,f1 s e,ew];rw[if_neg (by omega)]
 rw[e,FL,f3,← Int.pow_add,show 15-cw most+cw most=15 by omega];rfl
end Go.V
/-! Codes of symbols out of lengths: lists alone. Plain Lean; no program. -/
namespace Go.V
theorem ya{α:Type}{P:List α->Prop}(h0:P [])(h1:∀ l x,P l->P (l++[x]))(l:List α):P l:=by
 have h:∀ r:List α,P r.reverse:=by
  intro r
  induction r with
  | nil=>exact h0
  | cons x r ih=>rw[List.reverse_cons];exact h1 _ _ ih
 have:=h l.reverse
 rwa [List.reverse_reverse]at this
def ln(ls:List Int)(s:Nat):Int:=ls.getD s 0
def jv(ls:List Int):List Nat:=(List.range ls.length).filter (fun s=>decide (0<ln ls s))
def cz(ls:List Int):Bool:=decide (ls.length<=256) && (ls.all (fun x=>decide (0<=x/\x<=15)) && ((decide ((jv ls).length=1) && ls.all (fun x=>decide (x<=1))) || decide (d8 ls=32768)))
def ez(ls:List Int):List Nat:=dj (ln ls) (jv ls)
def Bn(ls:List Int)(st:Int×Int×List Int)(s:Nat):Int×Int×List Int :=
 let nx:=st.1*2^(ln ls s-st.2.1).toNat
 (nx+1,ln ls s,st.2.2.set s nx)
def cy(ls:List Int)(l:List Nat):Int×Int×List Int:=l.foldl (Bn ls) (0,0,List.replicate ls.length 0)
def fw(ls:List Int):List Int:=if cz ls then(cy ls (ez ls)).2.2 else []
def wS(ls:List Int)(l:List Nat):Int:=(l.map fun s=>(2:Int)^(15-ln ls s).toNat).sum
theorem CX(ls:List Int):wS ls []=0:=rfl
theorem qE(ls:List Int)(a b:List Nat):wS ls (a++b)=wS ls a+wS ls b:=by simp[wS]
theorem ir(ls:List Int)(a:Nat)(b:List Nat):wS ls (a ::b)=2^(15-ln ls a).toNat+wS ls b:=by simp[wS]
theorem qD(ls:List Int)(l:List Nat):0<=wS ls l:=by
 induction l with
 | nil=>simp[wS]
 | cons a l ih=>rw[ir];have:=eu (15-ln ls a).toNat;omega
theorem Bk(ls:List Int){a b:List Nat}(h:a.Perm b):wS ls a=wS ls b:=by
 induction h with
 | nil=>rfl
 | cons x _ ih=>rw[ir,ir,ih]
 | swap x y l=>rw[ir,ir,ir,ir];omega
 | trans _ _ h1 h2=>exact h1.trans h2
theorem uh{ls:List Int}{s:Nat}:s∈jv ls↔s<ls.length/\0<ln ls s:=by simp[jv]
theorem z8(ls:List Int):(jv ls).Nodup:=List.nodup_range.sublist List.filter_sublist
theorem jM(ls:List Int):(ez ls).Perm (jv ls):=iI _ _
theorem iE{ls:List Int}{s:Nat}:s∈ez ls↔s<ls.length/\0<ln ls s:=by rw[(jM ls).mem_iff,uh]
theorem oS(ls:List Int):(ez ls).Nodup:=(jM ls).nodup_iff.2 (z8 ls)
theorem ku(ls:List Int):aJ (ln ls) (ez ls):=iG _
theorem Bz{ls:List Int}{s:Nat}(h:ls.length<=s):ln ls s=0:=by simp[ln,List.getD_eq_getElem?_getD,List.getElem?_eq_none h]
theorem mc{ls:List Int}{s:Nat}(h:s<ls.length):ln ls s=ls[s]:=by simp[ln,List.getD_eq_getElem?_getD,h]
structure Fo(ls:List Int)(l:List Nat)(st:Int×Int×List Int):Prop where
 next:st.1*2^(15-st.2.1).toNat=wS ls l
 low:0<=st.1
 last:0<=st.2.1/\st.2.1<=15
 ge:∀ s∈l,ln ls s<=st.2.1
 len:st.2.2.length=ls.length
 out:∀ A s B,l=A++s ::B->st.2.2.getD s 0*2^(15-ln ls s).toNat=wS ls A
 none:∀ s,s ∉ l->st.2.2.getD s 0=0
 end_:l=[]∨∃ A s,l=A++[s]/\st.2.1=ln ls s
theorem qL{n l x:Int}(hl:0<=l/\l<=15)(hx:l<=x/\x<=15):n*2^(x-l).toNat*2^(15-x).toNat=n*2^(15-l).toNat:=by
 rw[Int.mul_assoc,← Int.pow_add];congr 2;omega
theorem uQ(ls:List Int)(l:List Nat)(s:Nat):cy ls (l++[s])=Bn ls (cy ls l) s:=by simp[cy]
theorem Fm(ls:List Int):∀ l:List Nat,aJ (ln ls) l->l.Nodup->(∀ s∈l,s<ls.length/\0<ln ls s/\ln ls s<=15)->Fo ls l (cy ls l):=by
 refine ya ?_ ?_
 ·intro _ _ _;refine⟨by simp[cy,wS],by simp[cy],by simp[cy],by simp,by simp[cy],?_,?_,.inl rfl⟩
  ·intro A s B h;simp at h
  ·intro s _;simp only[cy,List.foldl_nil,List.getD_eq_getElem?_getD,List.getElem?_replicate];split <;>rfl
 ·intro l s ih hs hn hb;have hc:=ih hs.left (List.nodup_append.1 hn).1 (fun t ht=>hb t (List.mem_append_left _ ht));obtain⟨b1,b2,b3⟩:=hb s (by simp);have Ga:(cy ls l).2.1<=ln ls s:=by
   rcases hc.end_ with rfl | ⟨A,t,rfl,e⟩
   ·show(0:Int)<=_;omega
   ·rw[e];exact hs.across t (by simp) s (by simp)
  have hx:=qL (n:=(cy ls l).1) hc.last ⟨Ga,b3⟩;have QF:0<=(cy ls l).1*2^(ln ls s-(cy ls l).2.1).toNat:=Int.mul_nonneg hc.low (Int.le_of_lt (eu _));have PE:s ∉ l:=by
   intro h;have:=(List.nodup_append.1 hn).2.2 s h s (by simp);exact this rfl
  rw[uQ];refine⟨?_,?_,?_,?_,?_,?_,?_,.inr ⟨l,s,rfl,rfl⟩⟩
  ·show(_+1)*_=_;rw[Int.add_mul,qE,← hc.next,← hx];simp[Bn,wS]
  ·show 0<=_+1;omega
  ·show 0<=ln ls s/\ln ls s<=15;omega
  ·intro t ht;show ln ls t<=ln ls s;rcases List.mem_append.1 ht with h | h
   ·exact hs.across t h s (by simp)
   ·have:t=s:=by simpa using h
    rw[this];omega
  ·simp[Bn,hc.len]
  ·intro A t B h;show((cy ls l).2.2.set s _).getD t 0*_=_;rcases List.eq_nil_or_concat B with rfl | ⟨B',u,rfl⟩
   ·obtain⟨rfl,h2⟩:=List.append_inj' h rfl;have:s=t:=by simpa using h2
    subst this;rw[List.getD_eq_getElem?_getD,List.getElem?_set_self (by rw[hc.len];exact b1)];simp only[Option.getD_some];rw[hx,hc.next]
   ·rw[List.concat_eq_append,← List.cons_append,← List.append_assoc]at h;obtain⟨h1,h2⟩:=List.append_inj' h rfl;have FS:s≠t:=by
     rintro rfl;exact PE (by rw[h1];simp)
    rw[List.getD_eq_getElem?_getD,List.getElem?_set_ne FS,← List.getD_eq_getElem?_getD];exact hc.out A t B' h1
  ·intro t ht;simp only[List.mem_append,List.mem_singleton,not_or]at ht;show((cy ls l).2.2.set s _).getD t 0=0;rw[List.getD_eq_getElem?_getD,List.getElem?_set_ne (fun e=>ht.2 e.symm),← List.getD_eq_getElem?_getD];exact hc.none t ht.1
theorem er{ls:List Int}(h:cz ls=true):ls.length<=256/\(∀ s,0<=ln ls s/\ln ls s<=15)/\(((jv ls).length=1/\∀ s,ln ls s<=1)∨d8 ls=32768):=by
 simp only[cz,Bool.and_eq_true,Bool.or_eq_true,decide_eq_true_eq,List.all_eq_true]at h;obtain⟨h1,h2,h3⟩:=h;have get:∀ {Q:Int->Prop},Q 0->(∀ x∈ls,Q x)->∀ s,Q (ln ls s):=by
  intro Q h0 hQ s;by_cases hs:s<ls.length
  ·rw[mc hs];exact hQ _ (List.getElem_mem hs)
  ·rw[Bz (by omega)];exact h0
 refine⟨h1,get (Q:=fun x=>0<=x/\x<=15) (by omega) h2,h3.imp (fun⟨a,b⟩=>⟨a,get (Q:=fun x=>x<=1) (by omega) b⟩) id⟩
theorem BU(ls:List Int)(l:List Nat):wS ls (l.filter (fun s=>decide (0<ln ls s)))=(l.map fun s=>if 0<ln ls s then(2:Int)^(15-ln ls s).toNat else 0).sum:=by
 induction l with
 | nil=>rfl
 | cons a l ih =>
  by_cases h:0<ln ls a
  ·simp[List.filter_cons,h,ir,ih]
  ·simp[List.filter_cons,h,ih]
theorem mN(f:Int->Int)(ls:List Int):((List.range ls.length).map fun s=>f (ln ls s))=ls.map f:=by
 apply List.ext_getElem
 ·simp
 ·intro i h1 h2;have:i<ls.length:=by simpa using h2
  simp[mc this]
theorem zK{ls:List Int}(hb:∀ s,0<=ln ls s/\ln ls s<=15):wS ls (ez ls)=d8 ls:=by
 rw[Bk ls (jM ls),jv,BU,d8,← mN ew ls];congr 1;apply List.map_congr_left;intro s _;have:=hb s;unfold ew;by_cases h:0<ln ls s
 ·rw[if_pos h,if_pos ⟨by omega,this.2⟩]
 ·rw[if_neg h,if_neg (by omega)]
theorem eI{ls:List Int}(h:cz ls=true):Fo ls (ez ls) (cy ls (ez ls))/\fw ls=(cy ls (ez ls)).2.2:=by
 obtain⟨h1,h2,h3⟩:=er h;exact⟨Fm ls _ (ku ls) (oS ls) (fun s hs=>⟨(iE.1 hs).1,(iE.1 hs).2,(h2 s).2⟩),by simp[fw,h]⟩
theorem fv{ls:List Int}(h:cz ls=true):(fw ls).length=ls.length:=by
 rw[(eI h).2];exact(eI h).1.len
def cd(ls:List Int)(s:Nat):Int:=(fw ls).getD s 0
theorem EX{ls:List Int}(h:cz ls=true){s:Nat}(hs:¬ 0<ln ls s):cd ls s=0:=by
 rw[cd,(eI h).2];exact(eI h).1.none s (fun e=>hs (iE.1 e).2)
theorem zk{ls:List Int}(h:cz ls=true){A B:List Nat}{s:Nat}(he:ez ls=A++s ::B):cd ls s*2^(15-ln ls s).toNat=wS ls A:=by
 rw[cd,(eI h).2];exact(eI h).1.out A s B he
theorem lC{ls:List Int}(h:cz ls=true)(s:Nat):0<=cd ls s:=by
 by_cases hs:s<ls.length/\0<ln ls s
 ·obtain⟨A,B,he⟩:=List.append_of_mem (iE.2 hs);have h1:=zk h he;have h2:=qD ls A;have h3:=eu (15-ln ls s).toNat;rw[← h1]at h2;exact Int.le_of_mul_le_mul_right (by simpa using h2) h3
 ·rw[EX h]
  ·omega
  ·intro h0;apply hs;refine⟨?_,h0⟩;by_cases hl:s<ls.length
   ·exact hl
   ·rw[Bz (by omega)]at h0;omega
theorem yI{ls:List Int}(h:cz ls=true):d8 ls<=32768:=by
 obtain⟨h1,h2,h3 | h3⟩:=er h
 ·rw[← zK h2,Bk ls (jM ls)];obtain⟨a,ha⟩:=List.length_eq_one_iff.1 h3.1;rw[ha,ir,CX];have hp:a∈jv ls:=by rw[ha];simp
  have:=(uh.1 hp).2;have:=h3.2 a;have e:ln ls a=1:=by omega
  rw[e];decide
 ·omega
theorem zj{ls:List Int}(h:cz ls=true){s:Nat}(hs:s<ls.length/\0<ln ls s):cd ls s+1<=2^(ln ls s).toNat:=by
 obtain⟨h1,h2,_⟩:=er h;obtain⟨A,B,he⟩:=List.append_of_mem (iE.2 hs);have e1:=zk h he;have e2:=yI h;rw[← zK h2,he,qE,ir]at e2;have e3:=qD ls B;have hp:=eu (15-ln ls s).toNat;have hx:=h2 s;have e4:(cd ls s+1)*2^(15-ln ls s).toNat<=2^(ln ls s).toNat*2^(15-ln ls s).toNat:=by
  rw[Int.add_mul,e1,← Int.pow_add,show(ln ls s).toNat+(15-ln ls s).toNat=15 by omega];have:(2:Int)^15=32768:=by decide
  omega
 exact Int.le_of_mul_le_mul_right e4 hp
theorem DL{ls:List Int}(h:cz ls=true){A B:List Nat}{s t:Nat}(he:ez ls=A++s ::B)(ht:t∈B):(cd ls s+1)*2^(ln ls t-ln ls s).toNat<=cd ls t:=by
 obtain⟨h1,h2,_⟩:=er h;obtain⟨C,D,hB⟩:=List.append_of_mem ht;have e1:=zk h he;have e2:=zk (A:=A++s ::C) (B:=D) (s:=t) h (by rw[he,hB];simp);have Ga:ln ls s<=ln ls t:=by
  have:=ku ls;rw[he]at this;exact(List.pairwise_cons.1 (List.pairwise_append.1 this).2.1).1 t ht
 rw[qE,ir]at e2;have e3:=qD ls C;have hs:=h2 s;have ht:=h2 t;have e4:(cd ls s+1)*2^(ln ls t-ln ls s).toNat*2^(15-ln ls t).toNat<=cd ls t*2^(15-ln ls t).toNat:=by
  rw[qL hs ⟨Ga,ht.2⟩,Int.add_mul,e1,e2];omega
 exact Int.le_of_mul_le_mul_right e4 (eu _)
theorem Ft{l:List Nat}(hn:l.Nodup){s t:Nat}(hs:s∈l)(ht:t∈l)(FS:s≠t):(∃ A B,l=A++s ::B/\t∈B)∨(∃ A B,l=A++t ::B/\s∈B):=by
 obtain⟨A,B,rfl⟩:=List.append_of_mem hs;rcases List.mem_append.1 ht with h | h
 ·obtain⟨C,D,rfl⟩:=List.append_of_mem h;exact .inr ⟨C,D++s ::B,by simp,by simp⟩
 ·rcases List.mem_cons.1 h with e | e
  ·exact absurd e.symm FS
  ·exact .inl ⟨A,B,rfl,e⟩
theorem Ad{ls:List Int}{s t:Nat}(hs:s<ls.length/\0<ln ls s)(ht:t<ls.length/\0<ln ls t)(h:ln ls s<ln ls t∨(ln ls s=ln ls t/\s<t)):∃ A B,ez ls=A++s ::B/\t∈B:=by
 have FS:s≠t:=by rintro rfl;omega
 rcases Ft (oS ls) (iE.2 hs) (iE.2 ht) FS with h1 | ⟨A,B,he,hB⟩
 ·exact h1
 ·exfalso;have Hl:=ku ls;rw[he]at Hl;have Ga:ln ls t<=ln ls s:=(List.pairwise_cons.1 (List.pairwise_append.1 Hl).2.1).1 s hB;have Ha:ln ls s=ln ls t:=by omega
  have hk:=iH (key:=ln ls) (jv ls) (ln ls s);have FP:((jv ls).filter (fun x=>ln ls x ==ln ls s)).Pairwise (·<·):=(List.pairwise_lt_range.sublist List.filter_sublist).sublist List.filter_sublist;rw[← hk]at FP;have e:(dj (ln ls) (jv ls))=A++t ::B:=he;rw[e,List.filter_append,List.filter_cons]at FP;rw[if_pos (by simp[Ha])]at FP;have:=(List.pairwise_cons.1 (List.pairwise_append.1 FP).2.1).1 s (List.mem_filter.2 ⟨hB,by simp⟩);omega
theorem xM{ls:List Int}(h:cz ls=true){s t:Nat}(hs:s<ls.length/\0<ln ls s)(ht:t<ls.length/\0<ln ls t)(FP:ln ls s<ln ls t∨(ln ls s=ln ls t/\s<t)):cd ls s+1<=cd ls t / 2^(ln ls t-ln ls s).toNat:=by
 obtain⟨A,B,he,hB⟩:=Ad hs ht FP;exact(Int.le_ediv_iff_mul_le (eu _)).2 (DL h he hB)
theorem DM{ls:List Int}(h:cz ls=true){s t:Nat}(hs:s<ls.length/\0<ln ls s)(ht:t<ls.length/\0<ln ls t)(hl:ln ls s=ln ls t)(hc:cd ls s=cd ls t):s=t:=by
 rcases Nat.lt_trichotomy s t with e | e | e
 ·have:=xM h hs ht (.inr ⟨hl,e⟩);rw[hl]at this;simp at this;omega
 ·exact e
 ·have:=xM h ht hs (.inr ⟨hl.symm,e⟩);rw[hl]at this;simp at this;omega
end Go.V
/-! Bits in bytes: lists alone. Plain Lean; no program. -/
namespace Go.V
def fy(b:Bool):Int:=if b then 1 else 0
theorem fS(b:Bool):0<=fy b/\fy b<=1:=by cases b <;>decide
def eZ(v:Int)(i:Nat):Bool:=decide (v / 2^i % 2=1)
def cK(v:Int):Nat->List Bool
 | 0=>[]
 | n+1=>eZ v n ::cK v n
theorem ef(v:Int):∀ n,(cK v n).length=n
 | 0=>rfl
 | n+1=>by simp[cK,ef v n]
def cJ(bs:List Bool)(j:Nat):Int :=
 fy (bs.getD (8*j) false)+2*fy (bs.getD (8*j+1) false)+4*fy (bs.getD (8*j+2) false)+8*fy (bs.getD (8*j+3) false)+16*fy (bs.getD (8*j+4) false)+32*fy (bs.getD (8*j+5) false)+64*fy (bs.getD (8*j+6) false)+128*fy (bs.getD (8*j+7) false)
def dN(bs:List Bool):List Int:=(List.range ((bs.length+7) / 8)).map (cJ bs)
def fb(l:List Int)(i:Nat):Bool:=eZ (l.getD (i / 8) 0) (i % 8)
def aX(l:List Int):List Bool:=(List.range (8*l.length)).map (fb l)
theorem bM(bs:List Bool):(dN bs).length=(bs.length+7) / 8:=by simp[dN]
theorem eo(l:List Int):(aX l).length=8*l.length:=by simp[aX]
theorem jL(bs:List Bool)(j:Nat):0<=cJ bs j/\cJ bs j<=255:=by
 have:=fun i=>fS (bs.getD i false);have h0:=this (8*j);have h1:=this (8*j+1);have h2:=this (8*j+2);have h3:=this (8*j+3);have h4:=this (8*j+4);have h5:=this (8*j+5);have h6:=this (8*j+6);have h7:=this (8*j+7);unfold cJ;omega
theorem rV(bs:List Bool):∀ x∈dN bs,0<=x/\x<=255:=by
 intro x hx;obtain⟨j,_,rfl⟩:=List.mem_map.1 hx;exact jL bs j
theorem ww(bs:List Bool)(b:Bool)(i:Nat):(bs++[b]).getD i false=if i=bs.length then b else bs.getD i false:=by
 simp only[List.getD_eq_getElem?_getD];split
 ·subst_vars;simp
 ·rename_i h;by_cases h2:i<bs.length
  ·rw[List.getElem?_append_left h2]
  ·rw[List.getElem?_eq_none (by simp;omega),List.getElem?_eq_none (by omega)]
theorem dQ(bs:List Bool){i:Nat}(h:bs.length<=i):bs.getD i false=false:=by
 simp[List.getD_eq_getElem?_getD,List.getElem?_eq_none h]
theorem nw(bs:List Bool)(b:Bool)(j:Nat):cJ (bs++[b]) j=if j=bs.length / 8 then cJ bs j+fy b*2^(bs.length % 8) else cJ bs j:=by
 split
 ·rename_i h;have hb:∀ k,bs.length % 8<=k->bs.getD (8*j+k) false=false:=fun k hk=>dQ bs (by omega);have hs:∀ k,(bs++[b]).getD (8*j+k) false=if k=bs.length % 8 then b else bs.getD (8*j+k) false:=by
   intro k;rw[ww];congr 1;apply propext;constructor <;>intro h <;>omega
  have h0:=hs 0;have h1:=hs 1;have h2:=hs 2;have h3:=hs 3;have h4:=hs 4;have h5:=hs 5;have h6:=hs 6;have h7:=hs 7;have hm:bs.length % 8<8:=Nat.mod_lt _ (by decide);generalize bs.length % 8=m at *;unfold cJ;rw[Nat.add_zero]at h0;rw[h0,h1,h2,h3,h4,h5,h6,h7];have z:=hb m (Nat.le_refl _);have zero:fy false=0:=rfl
  match m,hm,z with
  | 0,_,z=>rw[Nat.add_zero]at z;rw[z];simp[zero];omega
  | 1,_,z=>rw[z];simp[zero];omega
  | 2,_,z=>rw[z];simp[zero];omega
  | 3,_,z=>rw[z];simp[zero];omega
  | 4,_,z=>rw[z];simp[zero];omega
  | 5,_,z=>rw[z];simp[zero];omega
  | 6,_,z=>rw[z];simp[zero];omega
  | 7,_,z=>rw[z];simp[zero];omega
 ·rename_i h;have hs:∀ k,k<8->(bs++[b]).getD (8*j+k) false=bs.getD (8*j+k) false:=by
   intro k hk;rw[ww,if_neg (by omega)]
  unfold cJ;have h0:=hs 0 (by decide);rw[Nat.add_zero]at h0;rw[h0,hs 1 (by decide),hs 2 (by decide),hs 3 (by decide),hs 4 (by decide),hs 5 (by decide),hs 6 (by decide),hs 7 (by decide)]
theorem ny{bs:List Bool}{j:Nat}(h:bs.length<=8*j):cJ bs j=0:=by
 unfold cJ;rw[dQ bs (by omega),dQ bs (by omega),dQ bs (by omega),dQ bs (by omega),dQ bs (by omega),dQ bs (by omega),dQ bs (by omega),dQ bs (by omega)];rfl
theorem kV{bs:List Bool}{j:Nat}(h:j<(bs.length+7) / 8):(dN bs)[j]?=some (cJ bs j):=by
 simp[dN,h]
theorem Ac(bs:List Bool)(j:Nat):(dN bs).getD j 0=cJ bs j:=by
 rw[List.getD_eq_getElem?_getD];by_cases h:j<(bs.length+7) / 8
 ·rw[kV h];rfl
 ·rw[List.getElem?_eq_none (by rw[bM];omega),ny (by omega)];rfl
theorem Ab(bs:List Bool)(b:Bool):dN (bs++[b])=(if bs.length % 8=0 then dN bs++[0] else dN bs).set (bs.length / 8) (cJ bs (bs.length / 8)+fy b*2^(bs.length % 8)):=by
 apply List.ext_getElem?;intro j;by_cases hj:j<(bs.length+1+7) / 8
 ·rw[kV (by simpa using hj),nw,List.getElem?_set];have hl:(if bs.length % 8=0 then dN bs++[0] else dN bs).length=(bs.length+1+7) / 8:=by
   split <;>simp[bM] <;>omega
  rw[hl];by_cases he:bs.length / 8=j
  ·rw[if_pos he.symm,if_pos he,if_pos (by omega),he]
  ·rw[if_neg he,if_neg (by omega)];have FP:j<(bs.length+7) / 8:=by omega
   split
   ·rw[List.getElem?_append_left (by rw[bM];exact FP),kV FP]
   ·rw[kV FP]
 ·rw[List.getElem?_eq_none (by rw[bM];simp;omega),List.getElem?_eq_none];rw[List.length_set];split <;>simp[bM] <;>omega
theorem CM(v0 v1 v2 v3 v4 v5 v6 v7:Bool)(k:Nat)(hk:k<8):eZ (fy v0+2*fy v1+4*fy v2+8*fy v3+16*fy v4+32*fy v5+64*fy v6+128*fy v7) k=[v0,v1,v2,v3,v4,v5,v6,v7].getD k false:=by
 match k,hk with
 | 0,_=>cases v0 <;>cases v1 <;>cases v2 <;>cases v3 <;>cases v4 <;>cases v5 <;>cases v6 <;>cases v7 <;>decide
 | 1,_=>cases v0 <;>cases v1 <;>cases v2 <;>cases v3 <;>cases v4 <;>cases v5 <;>cases v6 <;>cases v7 <;>decide
 | 2,_=>cases v0 <;>cases v1 <;>cases v2 <;>cases v3 <;>cases v4 <;>cases v5 <;>cases v6 <;>cases v7 <;>decide
 | 3,_=>cases v0 <;>cases v1 <;>cases v2 <;>cases v3 <;>cases v4 <;>cases v5 <;>cases v6 <;>cases v7 <;>decide
 | 4,_=>cases v0 <;>cases v1 <;>cases v2 <;>cases v3 <;>cases v4 <;>cases v5 <;>cases v6 <;>cases v7 <;>decide
 | 5,_=>cases v0 <;>cases v1 <;>cases v2 <;>cases v3 <;>cases v4 <;>cases v5 <;>cases v6 <;>cases v7 <;>decide
 | 6,_=>cases v0 <;>cases v1 <;>cases v2 <;>cases v3 <;>cases v4 <;>cases v5 <;>cases v6 <;>cases v7 <;>decide
 | 7,_=>cases v0 <;>cases v1 <;>cases v2 <;>cases v3 <;>cases v4 <;>cases v5 <;>cases v6 <;>cases v7 <;>decide
theorem Bc(bs:List Bool)(i:Nat):fb (dN bs) i=bs.getD i false:=by
 have hm:i % 8<8:=Nat.mod_lt _ (by decide);rw[fb,Ac,cJ,CM _ _ _ _ _ _ _ _ _ hm];have hi:i=8*(i / 8)+i % 8:=by omega
 generalize i % 8=k at *;generalize i / 8=j at *;subst hi
 match k,hm with
 | 0,_=>rfl
 | 1,_=>rfl
 | 2,_=>rfl
 | 3,_=>rfl
 | 4,_=>rfl
 | 5,_=>rfl
 | 6,_=>rfl
 | 7,_=>rfl
theorem gM(bs:List Bool):aX (dN bs)=bs++List.replicate (8*((bs.length+7) / 8)-bs.length) false:=by
  apply List.ext_getElem?;intro i;by_cases hi:i<8*((bs.length+7) / 8)
  · have h1:(aX (dN bs))[i]?=some (bs.getD i false):=by
      simp[aX,bM,hi,Bc]
    rw[h1];by_cases h2:i<bs.length
    · rw[List.getElem?_append_left h2,List.getD_eq_getElem?_getD,List.getElem?_eq_getElem h2];rfl
    · rw[List.getElem?_append_right (by omega),dQ bs (by omega),List.getElem?_replicate,if_pos (by omega)]
  · rw[List.getElem?_eq_none (by rw[eo,bM];omega),List.getElem?_eq_none (by simp;omega)]
end Go.V
/-! Codes of symbols: how both texts come to them. Plain Lean; no program. -/
namespace Go.V
def cZ(ls:List Int):Nat:=(ls.filter fun x=>decide (0<x)).length
theorem Db(ls:List Int):(List.range ls.length).map (ln ls)=ls:=by
 have:=mN id ls;simpa using this
theorem Dd(ls:List Int):(jv ls).length=cZ ls:=by
 unfold cZ
 conv=>rhs;rw[← Db ls]
 rw[List.filter_map,List.length_map];rfl
theorem lS{ls:List Int}{x:Int}(hx:x∈ls)(h:x<0∨15<x):cz ls=false:=by
 unfold cz;have:ls.all (fun x=>decide (0<=x/\x<=15))=false:=by
  rw[List.all_eq_false];exact⟨x,hx,by simp;omega⟩
 rw[this];simp
theorem tW{ls:List Int}(h:∀ x∈ls,0<=x/\x<=15):cz ls=(decide (ls.length<=256) && ((decide (cZ ls=1) && ls.all (fun x=>decide (x<=1))) || decide (d8 ls=32768))):=by
 unfold cz;have:ls.all (fun x=>decide (0<=x/\x<=15))=true:=by
  rw[List.all_eq_true];intro x hx;simpa using h x hx
 rw[this,Dd];simp
theorem ED{ls:List Int}(hn:cZ ls=1):ls.contains 1=ls.all (fun x=>decide (x<=1)):=by
 unfold cZ at hn;obtain⟨y,hy⟩:=List.length_eq_one_iff.1 hn;have hm:∀ x,x∈ls->0<x->x=y:=by
  intro x hx h0;have:x∈ls.filter (fun x=>decide (0<x)):=List.mem_filter.2 ⟨hx,by simpa using h0⟩;rw[hy]at this;simpa using this
 have Nw:y∈ls/\0<y:=by
  have:y∈ls.filter (fun x=>decide (0<x)):=by rw[hy];simp
  simpa using List.mem_filter.1 this
 rw[Bool.eq_iff_iff,List.contains_iff_mem,List.all_eq_true];constructor
 ·intro h x hx;have h1:=hm 1 h (by omega);by_cases h0:0<x
  ·have:=hm x hx h0;simp;omega
  ·simp;omega
 ·intro h;have:=h y Nw.1;have e:y=1:=by simp at this;omega
  rw[← e];exact Nw.1
theorem v8(ls:List Int)(x:Int):cZ (ls++[x])=cZ ls+(if 0<x then 1 else 0):=by
 unfold cZ;rw[List.filter_append,List.length_append];congr 1;split <;>simp_all
theorem kr(ls:List Int):cZ ls<=ls.length:=List.length_filter_le _ _
theorem wE{ls:List Int}(h:cz ls=true){A B:List Nat}{s:Nat}(he:ez ls=A++s ::B):
    0<=(cy ls A).2.1/\(cy ls A).2.1<=ln ls s/\((cy ls A).2.1=0->(cy ls A).1=0)/\(cy ls A).1*2^(ln ls s-(cy ls A).2.1).toNat=cd ls s/\0<=cd ls s/\cd ls s<=32767/\s<ls.length/\0<ln ls s/\ln ls s<=15 ∧
    (cy ls A).2.2.length=ls.length/\cy ls (A++[s])=(cd ls s+1,ln ls s,(cy ls A).2.2.set s (cd ls s)):=by
  obtain⟨h1,h2,h3⟩:=er h;have hs:=ku ls;have hn:=oS ls;rw[he]at hs hn;have hb:∀ t∈A++s ::B,t<ls.length/\0<ln ls t/\ln ls t<=15:=by
    intro t ht;rw[← he]at ht;exact⟨(iE.1 ht).1,(iE.1 ht).2,(h2 t).2⟩
  have hA:=Fm ls A hs.left (List.nodup_append.1 hn).1 (fun t ht=>hb t (List.mem_append_left _ ht));obtain⟨b1,b2,b3⟩:=hb s (by simp);have Ga:(cy ls A).2.1<=ln ls s:=by
    rcases hA.end_ with rfl | ⟨A',t,rfl,e⟩
    · show(0:Int)<=_;omega
    · rw[e];exact hs.across t (by simp) s (by simp)
  have hx:=qL (n:=(cy ls A).1) hA.last ⟨Ga,b3⟩;have Mm:=zk h he;have hv:(cy ls A).1*2^(ln ls s-(cy ls A).2.1).toNat=cd ls s:=by
    have:(cy ls A).1*2^(ln ls s-(cy ls A).2.1).toNat*2^(15-ln ls s).toNat=cd ls s*2^(15-ln ls s).toNat:=by
      rw[hx,hA.next,Mm]
    exact Int.eq_of_mul_eq_mul_right (Int.ne_of_gt (eu _)) this
  have FP:=zj h ⟨b1,b2⟩;have hp:(2:Int)^(ln ls s).toNat<=2^15:=by
    have e1:((2^(ln ls s).toNat:Nat):Int)=2^(ln ls s).toNat:=by simp
    have:=Nat.pow_le_pow_right (n:=2) (by omega) (show(ln ls s).toNat<=15 by omega);omega
  refine⟨hA.last.1,Ga,?_,hv,lC h s,by omega,b1,b2,b3,hA.len,?_⟩
  · intro e;rcases hA.end_ with rfl | ⟨A',t,rfl,e'⟩
    · rfl
    · have:=hb t (by simp);omega
  · rw[uQ];show(_+1,ln ls s,_)=_;rw[hv]
def pe(ls:List Int)(k m:Nat):List Nat:=(List.range k).filter fun s=>decide (ln ls s=(m:Int))
def gf(ls:List Int)(m:Nat):List Nat:=(List.range m).flatMap fun i=>pe ls ls.length (i+1)
theorem lg(ls:List Int)(m:Nat):gf ls (m+1)=gf ls m++pe ls ls.length (m+1):=by simp[gf,List.range_succ,List.flatMap_append]
theorem uu(ls:List Int)(k m:Nat):pe ls (k+1) m=pe ls k m++(if ln ls k=(m:Int) then [k] else []):=by
 simp only[pe,List.range_succ,List.filter_append];congr 1;split <;>simp_all
theorem pY{ls:List Int}{k m s:Nat}:s∈pe ls k m↔s<k/\ln ls s=(m:Int):=by simp[pe]
theorem Dk{ls:List Int}{m s:Nat}:s∈gf ls m↔s<ls.length/\0<ln ls s/\ln ls s<=m:=by
 simp only[gf,List.mem_flatMap,List.mem_range,pY];constructor
 ·rintro⟨i,h1,h2,h3⟩;omega
 ·rintro⟨h1,h2,h3⟩;exact⟨(ln ls s).toNat-1,by omega,h1,by omega⟩
theorem se(ls:List Int):∀ m,aJ (ln ls) (gf ls m)
 | 0=>by simp[gf,aJ]
 | m+1=>by
  rw[lg];refine aJ.append (se ls m) ?_ ?_
  ·refine List.pairwise_iff_getElem.2 fun i j hi hj _=>?_;rw[(pY.1 (List.getElem_mem hi)).2,(pY.1 (List.getElem_mem hj)).2];omega
  ·intro a ha b hb;have:=(Dk.1 ha).2.2;rw[(pY.1 hb).2];omega
theorem sf (ls:List Int) (k:Int):∀ m,(gf ls m).filter (fun s=>ln ls s ==k)=if 0<k/\k<=m then(List.range ls.length).filter (fun s=>ln ls s ==k) else []
  | 0=>by
    have:¬ (0<k/\k<=((0:Nat):Int)):=by omega
    rw[if_neg this];simp[gf]
  | m + 1=>by
    rw[lg,List.filter_append,sf ls k m];by_cases h1:k=((m+1:Nat):Int)
    · rw[if_neg (by omega),if_pos (by omega),List.nil_append,pe,List.filter_filter];congr 1;funext s;rw[h1];by_cases h:ln ls s=((m+1:Nat):Int) <;>simp[h]
    · have:(pe ls ls.length (m+1)).filter (fun s=>ln ls s ==k)=[]:=by
        rw[List.filter_eq_nil_iff];intro s hs;have:=(pY.1 hs).2;simp;omega
      rw[this,List.append_nil];by_cases h2:0<k/\k<=(m:Int)
      · rw[if_pos h2,if_pos (by omega)]
      · rw[if_neg h2,if_neg (by omega)]
theorem wl{ls:List Int}(h:cz ls=true):ez ls=gf ls 15:=by
 obtain⟨h1,h2,h3⟩:=er h
 symm
 refine pk (se ls 15) fun k=>?_;rw[sf,jv,List.filter_filter];split
 ·rename_i hk;congr 1;funext s;by_cases e:ln ls s=k
  ·simp[e];omega
  ·simp[e]
 ·rename_i hk
  symm
  rw[List.filter_eq_nil_iff];intro s _;have:=h2 s;simp;omega
theorem wo{ls:List Int}{s m:Nat}(h:ln ls s=(m:Int)):∀ {k:Nat},s<k->∃ B,pe ls k m=pe ls s m++s ::B
 | 0,hk=>by omega
 | k+1,hk=>by
  rw[uu];by_cases e:s=k
  ·subst e;exact⟨[],by rw[if_pos h]⟩
  ·obtain⟨B,hB⟩:=wo h (show s<k by omega);rw[hB];exact⟨B++if ln ls k=(m:Int) then [k] else [],by simp⟩
theorem ut(ls:List Int){m:Nat}:∀ {k:Nat},m<=k->∃ B,gf ls k=gf ls m++B
 | 0,hk=>⟨[],by simp[show m=0 by omega]⟩
 | k+1,hk=>by
  by_cases e:m=k+1
  ·subst e;exact⟨[],by simp⟩
  ·obtain⟨B,hB⟩:=ut ls (show m<=k by omega);rw[lg,hB];exact⟨B++pe ls ls.length (k+1),by simp⟩
theorem Fy{ls:List Int}(h:cz ls=true){s m:Nat}(hm:m<15)(hs:s<ls.length)(hl:ln ls s=((m+1:Nat):Int)):∃ B,ez ls=(gf ls m++pe ls s (m+1))++s ::B:=by
 rw[wl h];obtain⟨B,hB⟩:=ut ls (show m+1<=15 by omega);obtain⟨C,hC⟩:=wo hl hs;rw[hB,lg,hC];exact⟨C++B,by simp⟩
end Go.V
/-! Symbols out of bits. Plain Lean; no program. -/
namespace Go.V
def iv(ls:List Int)(s:Int):Bool:=decide (0<=s/\s<(ls.length:Int)/\ln ls s.toNat≠0)
def kB(ls:List Int)(s:Int):List Bool:=if iv ls s then cK (cd ls s.toNat) (ln ls s.toNat).toNat else []
def iL(ls:List Int)(n:Nat)(v:Int):Option Nat:=(List.range ls.length).find? fun s=>decide (ln ls s=(n:Int)/\cd ls s=v)
def jz(ls:List Int):Nat->Nat->Int->List Bool->Option (Nat×Nat)
 | 0,_,_,_=>none
 | _+1,_,_,[]=>none
 | k+1,n,v,b ::bs=>match iL ls (n+1) (2*v+fy b)with
  | some s=>some (s,n+1)
  | none=>jz ls k (n+1) (2*v+fy b) bs
theorem jH{ls:List Int}(h:cz ls=true){n s:Nat}{v:Int}(hn:0<n):iL ls n v=some s↔s<ls.length/\ln ls s=(n:Int)/\cd ls s=v:=by
 constructor
 ·intro e;have h1:=List.find?_some e;have h2:=List.mem_of_find?_eq_some e;simp only[decide_eq_true_eq]at h1;exact⟨by simpa using h2,h1⟩
 ·rintro⟨h1,h2,h3⟩;cases e:iL ls n v with
  | none =>
   have:=List.find?_eq_none.1 e s (by simpa using h1);simp[h2,h3]at this
  | some t =>
   have h4:=List.find?_some e;have h5:=List.mem_of_find?_eq_some e;simp only[decide_eq_true_eq]at h4;have:t=s:=DM h ⟨by simpa using h5,by omega⟩ ⟨h1,by omega⟩ (by omega) (by omega);rw[this]
theorem Ba(v:Int)(n:Nat)(h:0<=v):v / 2^n=2*(v / 2^(n+1))+fy (eZ v n):=by
 have hp:=eu n;have h1:v / 2^(n+1)=v / 2^n / 2:=by
  rw[pow_succ',Int.mul_comm,Int.ediv_ediv_of_nonneg (Int.le_of_lt hp)]
 rw[h1];unfold eZ fy;have:=Int.emod_nonneg (v / 2^n) (show(2:Int)≠0 by omega);have:=Int.emod_lt_of_pos (v / 2^n) (show(0:Int)<2 by omega);have:=Int.mul_ediv_add_emod (v / 2^n) 2;by_cases e:v / 2^n % 2=1
 ·simp[e];omega
 ·have e2:v / 2^n % 2=0:=by omega
  simp[e2];omega
theorem nM {ls:List Int} (h:cz ls=true) {s:Nat} (hs:s<ls.length/\0<ln ls s) (rest:List Bool):jz ls 15 0 0 (cK (cd ls s) (ln ls s).toNat++rest)=some (s,(ln ls s).toNat):=by
  obtain⟨_,HF,_⟩:=er h;have hb:=HF s;have hc:=zj h hs;have GM:=lC h s
  -- with r bits left, the value so far
  have step :∀(r n:Nat),r+n=(ln ls s).toNat->0<r->jz ls (15-n) n (cd ls s / 2^r) (cK (cd ls s) r++rest)=some (s,(ln ls s).toNat):=by
    intro r
    induction r with
    | zero=>intro n _ h0;omega
    | succ r ih =>
      intro n hn _;obtain⟨k,hk⟩:∃ k,15-n=k+1:=⟨15-n-1,by omega⟩;rw[hk];show(match iL ls (n+1) (2*(cd ls s / 2^(r+1))+fy (eZ (cd ls s) r))with
        | some s=>some (s,n+1)
        | none=>jz ls k (n+1) (2*(cd ls s / 2^(r+1))+fy (eZ (cd ls s) r)) (cK (cd ls s) r++rest))=_
      rw[← Ba _ _ GM];by_cases hr:r=0
      · subst hr;have e:iL ls (n+1) (cd ls s / 2^0)=some s:=(jH h (by omega)).2 ⟨hs.1,by omega,by simp⟩;rw[e];show some (s,n+1)=_;rw[show n+1=(ln ls s).toNat by omega]
      · have e:iL ls (n+1) (cd ls s / 2^r)=none:=by
          cases e:iL ls (n+1) (cd ls s / 2^r)with
          | none=>rfl
          | some t =>
            exfalso;obtain⟨t1,t2,t3⟩:=(jH h (by omega)).1 e;have:=xM h (s:=t) (t:=s) ⟨t1,by omega⟩ hs (.inl (by omega));have e2:(ln ls s-ln ls t).toNat=r:=by omega
            rw[e2]at this;omega
        rw[e];show jz ls k (n+1) _ _=_;have:=ih (n+1) (by omega) (by omega)
        rwa [show 15-(n+1)=k by omega]at this
  have h0:=step (ln ls s).toNat 0 (by omega) (by omega);have hz:cd ls s / 2^(ln ls s).toNat=0:=Int.ediv_eq_zero_of_lt GM (by omega);rw[hz]at h0;exact h0
theorem vO(ls:List Int):∀(k n:Nat)(v:Int)(bs:List Bool)(s m:Nat),jz ls k n v bs=some (s,m)->n<m/\m<=n+bs.length/\m<=n+k/\s<ls.length
 | 0,n,v,bs,s,m,h=>by simp[jz]at h
 | k+1,n,v,[],s,m,h=>by simp[jz]at h
 | k+1,n,v,b ::bs,s,m,h=>by
  unfold jz at h;split at h
  ·rename_i t ht;cases h;have:=List.mem_of_find?_eq_some ht;simp at this;simp;omega
  ·have:=vO ls k (n+1) _ bs s m h;simp;omega
end Go.V

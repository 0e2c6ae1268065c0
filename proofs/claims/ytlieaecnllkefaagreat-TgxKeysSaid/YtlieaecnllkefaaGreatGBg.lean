/- Own texts, packed: S1, S2, S3, S4, S5, S6, S7, S8, S9, K1, K2, K3, K4. -/
import Derived.Test.YtlieaecnllkefaaGreatGAg
/-! Lists that are told apart by a number of each member: sorted, and alike member by member of one number (what a stable sort keeps). Plain Lean; no program. -/
set_option linter.unusedVariables false
set_option linter.unusedSimpArgs false
namespace Go.V
section
variable {α : Type} (key : α → Int)
def aT(xs ys:List α):Prop:=∀ k:Int,xs.filter (fun x=>key x ==k)=ys.filter (fun x=>key x ==k)
def aJ(xs:List α):Prop:=xs.Pairwise (fun x y=>key x<=key y)
variable {key}
theorem aT.refl(xs:List α):aT key xs xs:=fun _=>rfl
theorem aT.symm{xs ys:List α}(h:aT key xs ys):aT key ys xs:=fun k=>(h k).symm
theorem aT.trans{xs ys zs:List α}(h:aT key xs ys)(h':aT key ys zs):aT key xs zs:=fun k=>(h k).trans (h' k)
theorem aT.append{xs ys xs' ys':List α}(h:aT key xs ys)(h':aT key xs' ys'):aT key (xs++xs') (ys++ys'):=fun k=>by
 rw[List.filter_append,List.filter_append,h k,h' k]
theorem aT.mem{xs ys:List α}(h:aT key xs ys){x:α}(hx:x∈xs):x∈ys:=by
 have:x∈xs.filter (fun y=>key y ==key x):=by simp[hx]
 rw[h]at this;exact(List.mem_filter.1 this).1
theorem aT.nil{ys:List α}(h:aT key [] ys):ys=[]:=by
 cases ys with
 | nil=>rfl
 | cons y ys=>exact absurd (h.symm.mem (x:=y) (by simp)) (by simp)
theorem aT.length:∀ {xs ys:List α},aT key xs ys->xs.length=ys.length:=by
 intro xs
 induction xs with
 | nil=>intro ys h;rw[h.nil]
 | cons x xs ih =>
  intro ys h;have hx:x∈ys.filter (fun y=>key y ==key x):=by rw[← h];simp
  have h1:=h (key x);simp only[List.filter_cons,beq_self_eq_true,if_true]at h1;obtain⟨A,B,e1,e2,e3⟩:=List.filter_eq_cons_iff.1 h1.symm;have hA:A.filter (fun y=>key y ==key x)=[]:=by
   rw[List.filter_eq_nil_iff];exact e2
  have h2:aT key xs (A++B):=by
   intro k;have h3:=h k;rw[e1]at h3;simp only[List.filter_cons,List.filter_append]at h3 ⊢;by_cases hk:key x ==k
   ·have Gc:key x=k:=by simpa using hk
    subst Gc;simp only[beq_self_eq_true,if_true]at h3;rw[hA]at h3 ⊢;simpa using h3
   ·simp only[hk]at h3;simpa using h3
  rw[e1];have:=ih h2;simp only[List.length_cons,List.length_append]at this ⊢;omega
theorem aT.swap{xs ys:List α}(h:∀ x∈xs,∀ y∈ys,key x≠key y):aT key (xs++ys) (ys++xs):=by
  intro k;rw[List.filter_append,List.filter_append];by_cases hx:∃ x∈xs,key x=k
  · obtain⟨x,hx,rfl⟩:=hx;have:ys.filter (fun y=>key y ==key x)=[]:=by
      rw[List.filter_eq_nil_iff];intro y hy;have:=h x hx y hy;simp;omega
    rw[this];simp
  · have:xs.filter (fun y=>key y ==k)=[]:=by
      rw[List.filter_eq_nil_iff];intro y hy;simp;intro e;exact hx ⟨y,hy,e⟩
    rw[this];simp
theorem aJ.unique:∀ {xs ys:List α},aJ key xs->aJ key ys->aT key xs ys->xs=ys:=by
 intro xs
 induction xs with
 | nil=>intro ys _ _ h;exact h.nil.symm
 | cons x xs ih =>
  intro ys h1 h2 h;cases ys with
  | nil=>exact absurd h.symm.nil (by simp)
  | cons y ys =>
   have hx:key y<=key x:=by
    rcases List.mem_cons.1 (h.mem (x:=x) (by simp))with e | e
    ·rw[e];omega
    ·exact(List.pairwise_cons.1 h2).1 x e
   have hy:key x<=key y:=by
    rcases List.mem_cons.1 (h.symm.mem (x:=y) (by simp))with e | e
    ·rw[e];omega
    ·exact(List.pairwise_cons.1 h1).1 y e
   have e:key x=key y:=by omega
   have hk:=h (key x);simp only[List.filter_cons,beq_self_eq_true,if_true,← e]at hk;have Jy:x=y:=(List.cons.inj hk).1;subst Jy;rw[ih (List.pairwise_cons.1 h1).2 (List.pairwise_cons.1 h2).2];intro k;have hk:=h k;simp only[List.filter_cons]at hk;split at hk
   ·exact(List.cons.inj hk).2
   ·exact hk
theorem aJ.append{xs ys:List α}(h1:aJ key xs)(h2:aJ key ys)(h:∀ x∈xs,∀ y∈ys,key x<=key y):aJ key (xs++ys) :=
 List.pairwise_append.2 ⟨h1,h2,h⟩
theorem aJ.left{xs ys:List α}(h:aJ key (xs++ys)):aJ key xs:=(List.pairwise_append.1 h).1
theorem aJ.right{xs ys:List α}(h:aJ key (xs++ys)):aJ key ys:=(List.pairwise_append.1 h).2.1
theorem aJ.across{xs ys:List α}(h:aJ key (xs++ys)):∀ x∈xs,∀ y∈ys,key x<=key y:=(List.pairwise_append.1 h).2.2
def sD(key:α->Int)(x:α):List α->List α
 | []=>[x]
 | y ::ys=>if key y<=key x then y ::sD key x ys else x ::y ::ys
def dk(key:α->Int)(xs:List α):List α:=xs.foldl (fun l x=>sD key x l) []
theorem pT(x:α):∀ {l:List α},aJ key l->aT key (sD key x l) (l++[x])
 | [],_=>aT.refl _
 | y ::ys,h=>by
  unfold sD;split
  ·exact(aT.refl [y]).append (pT x (List.pairwise_cons.1 h).2)
  ·rename_i FE;have FE:key x<key y:=by omega
   show aT key ([x]++(y ::ys)) (y ::ys++[x]);apply aT.swap;intro a ha b hb;have ha:a=x:=by simpa using ha
   subst ha;rcases List.mem_cons.1 hb with e | e
   ·rw[e];omega
   ·have:=(List.pairwise_cons.1 h).1 b e;omega
theorem ph(x:α):∀ {l:List α},aJ key l->aJ key (sD key x l)
 | [],_=>by simp[sD,aJ]
 | y ::ys,h=>by
  unfold sD;have h':=List.pairwise_cons.1 h;split
  ·rename_i FW;refine List.pairwise_cons.2 ⟨fun z hz=>?_,ph x h'.2⟩;rcases List.mem_append.1 ((pT x h'.2).mem hz)with e | e
   ·exact h'.1 z e
   ·have:z=x:=by simpa using e
    rw[this];exact FW
  ·rename_i FE;refine List.pairwise_cons.2 ⟨fun z hz=>?_,h⟩;rcases List.mem_cons.1 hz with e | e
   ·rw[e];omega
   ·have:=h'.1 z e;omega
theorem mZ:∀(xs l:List α),aJ key l->aJ key (xs.foldl (fun l x=>sD key x l) l)/\aT key (xs.foldl (fun l x=>sD key x l) l) (l++xs)
 | [],l,h=>by simpa using⟨h,aT.refl l⟩
 | x ::xs,l,h=>by
  have ih:=mZ xs (sD key x l) (ph x h);refine⟨ih.1,ih.2.trans ?_⟩;have:=(pT x h).append (aT.refl xs);simpa using this
theorem iv(xs:List α):aJ key (dk key xs):=(mZ xs [] (by simp[aJ])).1
theorem iw(xs:List α):aT key (dk key xs) xs:=by simpa[dk]using(mZ (key:=key) xs [] (by simp[aJ])).2
theorem pi{xs ys:List α}(h1:aJ key ys)(h2:aT key ys xs):ys=dk key xs:=aJ.unique h1 (iv xs) (h2.trans (iw xs).symm)
end
end Go.V
/-! What the steps of a stable sort by merging in place do to lists. Plain Lean; no program. -/
namespace Go.V
section
variable {α : Type} {key : α → Int}
theorem Bt {S1 S2:List α} {x:α} (h:aJ key (S1++S2)) (h2:∀ z∈S2,key x<key z) (h1:S1=[]∨∃ S y,S1=S++[y]/\key y<=key x) :
    aJ key (S1++x ::S2)/\aT key (S1++x ::S2) (S1++S2++[x]):=by
  refine⟨h.left.append (List.pairwise_cons.2 ⟨fun z hz=>by have:=h2 z hz;omega,h.right⟩) ?_,?_⟩
  · intro z hz u hu;rcases h1 with rfl | ⟨S,y,rfl,hy⟩
    · simp at hz
    · have WX:key z<=key y:=by
        rcases List.mem_append.1 hz with e | e
        · exact h.left.across z e y (by simp)
        · have:z=y:=by simpa using e
          rw[this];omega
      rcases List.mem_cons.1 hu with e | e
      · rw[e];omega
      · have:=h2 u e;omega
  · rw[List.append_assoc];refine(aT.refl S1).append ?_;show aT key ([x]++S2) (S2++[x]);apply aT.swap;intro a ha b hb;have:a=x:=by simpa using ha
    subst this;have:=h2 b hb;omega
theorem vL{Y1 Y3:List α}{x:α}(h:aJ key (Y1++Y3))(h1:∀ y∈Y1,key y<key x)(h3:∀ y∈Y3,key x<=key y):
    aJ key (Y1++[x]++Y3)/\aT key (Y1++[x]++Y3) ([x]++(Y1++Y3)):=by
  refine⟨(h.left.append (by simp[aJ]) ?_).append h.right ?_,?_⟩
  · intro a ha b hb;have:b=x:=by simpa using hb
    subst this;have:=h1 a ha;omega
  · intro a ha b hb;rcases List.mem_append.1 ha with e | e
    · exact h.across a e b hb
    · have:a=x:=by simpa using e
      subst this;exact h3 b hb
  · rw[← List.append_assoc];refine aT.append ?_ (aT.refl _);apply aT.swap;intro a ha b hb;have:b=x:=by simpa using hb
    subst this;have:=h1 a ha;omega
theorem xZ{X1 X3:List α}{y:α}(h:aJ key (X1++X3))(h1:∀ x∈X1,key x<=key y)(h3:∀ x∈X3,key y<key x):
    aJ key (X1++[y]++X3)/\aT key (X1++[y]++X3) (X1++X3++[y]):=by
  refine⟨(h.left.append (by simp[aJ]) ?_).append h.right ?_,?_⟩
  · intro a ha b hb;have:b=y:=by simpa using hb
    subst this;exact h1 a ha
  · intro a ha b hb;rcases List.mem_append.1 ha with e | e
    · exact h.across a e b hb
    · have:a=y:=by simpa using e
      subst this;have:=h3 b hb;omega
  · rw[List.append_assoc,List.append_assoc];refine(aT.refl _).append ?_;apply aT.swap;intro a ha b hb;have:a=y:=by simpa using ha
    subst this;have:=h3 b hb;omega
theorem aJ.head_le{S:List α}{y:α}(h:aJ key (y ::S)):∀ x∈y ::S,key y<=key x:=by
 intro x hx;rcases List.mem_cons.1 hx with e | e
 ·rw[e];omega
 ·exact(List.pairwise_cons.1 h).1 x e
theorem xK{X1 X2 Y1 Y2 Z1 Z2:List α}(hX:aJ key (X1++X2))(hY:aJ key (Y1++Y2))(h1:∀ x∈X1,∀ y∈Y2,key x<=key y)(h2:∀ y∈Y1,∀ x∈X2,key y<key x)
    (Wg:aJ key Z1) (Wf:aJ key Z2) (s1:aT key Z1 (X1++Y1)) (s2:aT key Z2 (X2++Y2)) :
    aJ key (Z1++Z2)/\aT key (Z1++Z2) (X1++X2++(Y1++Y2)):=by
  refine⟨Wg.append Wf ?_,(s1.append s2).trans ?_⟩
  · intro a ha b hb;rcases List.mem_append.1 (s1.mem ha)with e | e <;>rcases List.mem_append.1 (s2.mem hb)with f | f
    · exact hX.across a e b f
    · exact h1 a e b f
    · have:=h2 a e b f;omega
    · exact hY.across a e b f
  · have:aT key (X1++((Y1++X2)++Y2)) (X1++((X2++Y1)++Y2)):=by
      refine(aT.refl _).append (aT.append ?_ (aT.refl _));apply aT.swap;intro a ha b hb;have:=h2 a ha b hb;omega
    simpa using this
theorem nl{L:List α}{k:Nat}(h:k<L.length):∃ P y Q,L=P++y ::Q/\P.length=k/\L[k]?=some y:=by
 refine⟨L.take k,L[k],L.drop (k+1),?_,by simp;omega,by simp⟩;simp
theorem aJ.get{L:List α}(h:aJ key L){i j:Nat}{x y:α}(Gx:i<=j)(hx:L[i]?=some x)(hy:L[j]?=some y):key x<=key y:=by
 obtain⟨hi,rfl⟩:=List.getElem?_eq_some_iff.1 hx;obtain⟨hj,rfl⟩:=List.getElem?_eq_some_iff.1 hy;rcases Nat.lt_or_ge i j with FE | FJ
 ·exact(List.pairwise_iff_getElem.1 h) i j hi hj FE
 ·have:i=j:=by omega
  subst this;omega
theorem sQ{L:List α}{k:Nat}{x:α}(h:x∈L.take k):∃ i,i<k/\L[i]?=some x:=by
 obtain⟨i,hi,rfl⟩:=List.mem_iff_getElem.1 h;have KI:=hi;rw[List.length_take]at KI;refine⟨i,by omega,?_⟩;rw[List.getElem_take];exact List.getElem?_eq_getElem _
theorem sR{L:List α}{k:Nat}{x:α}(h:x∈L.drop k):∃ i,k<=i/\L[i]?=some x:=by
 obtain⟨i,hi,rfl⟩:=List.mem_iff_getElem.1 h;rw[List.getElem_drop];exact⟨k+i,by omega,List.getElem?_eq_getElem _⟩
inductive zm (key:α->Int) (s:Nat):List α->Prop
 | last {Z}:Z.length<=s->aJ key Z->zm key s Z
 | cons {Z1 Z2}:Z1.length=s->aJ key Z1->zm key s Z2->zm key s (Z1++Z2)
inductive xB (key:α->Int) (s:Nat):List α->Prop
 | nil:xB key s []
 | snoc {U Z}:xB key s U->Z.length=s->aJ key Z->xB key s (U++Z)
theorem xB.blk{s:Nat}{U V:List α}(h:xB key s U)(hv:zm key s V):zm key s (U++V):=by
 induction h generalizing V with
 | nil=>exact hv
 | snoc h1 h2 h3 ih =>
  rw[List.append_assoc];exact ih (.cons h2 h3 hv)
theorem zm.small{s:Nat}{Z:List α}(h:zm key s Z)(hs:0<s)(hl:Z.length<=s):aJ key Z:=by
 cases h with
 | last h1 h2=>exact h2
 | cons h1 h2 h3 =>
  rename_i Z1 Z2;have:Z2=[]:=List.eq_nil_of_length_eq_zero (by simp at hl;omega);subst this;simpa using h2
theorem zm.cut{s:Nat}{Z:List α}(h:zm key s Z)(hl:s<Z.length):∃ Z1 Z2,Z=Z1++Z2/\Z1.length=s/\aJ key Z1/\zm key s Z2:=by
 cases h with
 | last h1 h2=>omega
 | cons h1 h2 h3=>exact⟨_,_,rfl,h1,h2,h3⟩
theorem zm.cut2{s:Nat}{Z:List α}(h:zm key s Z)(hs:0<s)(hl:s+s<=Z.length):∃ Z1 Z2 Z3,Z=Z1++Z2++Z3/\Z1.length=s/\Z2.length=s/\aJ key Z1/\aJ key Z2/\zm key s Z3:=by
 obtain⟨Z1,Z',rfl,h1,h2,h3⟩:=h.cut (by omega);cases h3 with
 | last h4 h5 =>
  refine⟨Z1,Z',[],by simp,h1,by simp at hl;omega,h2,h5,.last (by simp) (by simp[aJ])⟩
 | cons h4 h5 h6 =>
  rename_i Z2 Z3;exact⟨Z1,Z2,Z3,by simp,h1,h4,h2,h5,h6⟩
end
end Go.V
/-! Lengths of codes by coins and packages: lists alone. Plain Lean; no program. -/
namespace Go.V
abbrev bS:=Int×List Nat
def cO(n:Int):Int:=mn (mx n 0) 1099511627776
theorem qE{n:Int}(h:n>0):0<cO n/\cO n<=1099511627776:=by
 unfold cO mx mn;split <;>split <;>omega
def aU(i:Nat):List Int->List bS
 | []=>[]
 | n ::ns=>if n>0 then(cO n,[i]) ::aU (i+1) ns else aU (i+1) ns
def aL(xs:List Int):List bS:=dk Prod.fst (aU 0 xs)
theorem gk(ys:List Int):∀(xs:List Int)(i:Nat),aU i (xs++ys)=aU i xs++aU (i+xs.length) ys
 | [],i=>by simp[aU]
 | x ::xs,i=>by
  have ih:=gk ys xs (i+1);simp only[List.cons_append,aU,ih,List.length_cons,show i+1+xs.length=i+(xs.length+1) by omega];split <;>simp
theorem js:∀(xs:List Int)(i:Nat)(x:bS),x∈aU i xs->0<x.1/\x.1<=1099511627776/\∃ s,x.2=[s]/\i<=s/\s<i+xs.length
 | [],i,x,h=>by simp[aU]at h
 | n ::ns,i,x,h=>by
  have ih:=js ns (i+1) x;have more:(x∈aU (i+1) ns)->0<x.1/\x.1<=1099511627776/\∃ s,x.2=[s]/\i<=s/\s<i+(n ::ns).length:=by
   intro h;obtain⟨h1,h2,s,h3,h4,h5⟩:=ih h;exact⟨h1,h2,s,h3,by omega,by simp;omega⟩
  unfold aU at h;split at h
  ·rename_i hn;rcases List.mem_cons.1 h with e | e
   ·subst e;exact⟨(qE hn).1,(qE hn).2,i,rfl,by omega,by simp⟩
   ·exact more e
  ·exact more h
theorem jP{xs:List Int}{x:bS}(h:x∈aL xs):0<x.1/\x.1<=1099511627776/\∃ s,x.2=[s]/\s<xs.length:=by
 obtain⟨h1,h2,s,h3,_,h5⟩:=js xs 0 x ((iw (aU 0 xs)).mem h);exact⟨h1,h2,s,h3,by omega⟩
theorem mw:∀(xs:List Int)(i:Nat),(aU i xs).length<=xs.length
 | [],i=>by simp[aU]
 | n ::ns,i=>by
  have ih:=mw ns (i+1);unfold aU;split <;>simp <;>omega
theorem gj(xs:List Int):(aL xs).length<=xs.length:=by
 have h:=(iw (key:=Prod.fst) (aU 0 xs)).length;have:=mw xs 0;show(dk _ _).length<=_;omega
def dh:List bS->List bS
 | a ::b ::r=>(a.1+b.1,a.2++b.2) ::dh r
 | _=>[]
def cR:List bS->List bS->List bS
 | cs,[]=>cs
 | cs,p ::ps=>cs.takeWhile (fun c=>decide (c.1<=p.1))++p ::cR (cs.dropWhile (fun c=>decide (c.1<=p.1))) ps
def eL(cs l:List bS):List bS:=cR cs (dh l)
theorem kL{c p:bS}{cs ps:List bS}(h:c.1<=p.1):cR (c ::cs) (p ::ps)=c ::cR cs (p ::ps):=by
 simp[cR,h]
theorem kM{c p:bS}{cs ps:List bS}(h:¬ c.1<=p.1):cR (c ::cs) (p ::ps)=p ::cR (c ::cs) ps:=by
 simp[cR,h]
theorem mU{p:bS}{ps:List bS}:cR [] (p ::ps)=p ::cR [] ps:=by simp[cR]
theorem fQ:∀(l:List bS),(dh l).length=l.length / 2
 | []=>rfl
 | [_]=>by simp[dh]
 | a ::b ::r=>by
  have:=fQ r;simp only[dh,List.length_cons,this];omega
theorem fw:∀(ps cs:List bS),(cR cs ps).length=cs.length+ps.length
 | [],cs=>by simp[cR]
 | p ::ps,cs=>by
  have ih:=fw ps (cs.dropWhile (fun c=>decide (c.1<=p.1)));have h:=congrArg List.length (List.takeWhile_append_dropWhile (p:=fun c:bS=>decide (c.1<=p.1)) (l:=cs));simp only[List.length_append]at h;simp only[cR,List.length_append,List.length_cons,ih];omega
theorem lJ:∀ {ps cs:List bS} {x:bS},x∈cR cs ps->x∈cs∨x∈ps
 | [],cs,x,h=>.inl h
 | p ::ps,cs,x,h=>by
  simp only[cR,List.mem_append,List.mem_cons]at h;rcases h with h | h | h
  ·exact .inl (List.takeWhile_sublist _ |>.subset h)
  ·exact .inr (by simp[h])
  ·rcases lJ h with e | e
   ·exact .inl (List.dropWhile_sublist _ |>.subset e)
   ·exact .inr (by simp[e])
def i7(first:List bS):Nat->List bS
 | 0=>first
 | k+1=>eL first (i7 first k)
theorem vR{Q:Nat->bS->Prop}(hQ:∀ k a b,Q k a->Q k b->Q (k+1) (a.1+b.1,a.2++b.2)){k:Nat}:∀ {l:List bS},(∀ x∈l,Q k x)->∀ x∈dh l,Q (k+1) x
 | [],_=>by simp[dh]
 | [_],_=>by simp[dh]
 | a ::b ::r,h=>by
  intro x hx;simp only[dh,List.mem_cons]at hx;rcases hx with rfl | hx
  ·exact hQ k a b (h a (by simp)) (h b (by simp))
  ·exact vR hQ (fun y hy=>h y (by simp[hy])) x hx
theorem wV{Q:Nat->bS->Prop}(hQ:∀ k a b,Q k a->Q k b->Q (k+1) (a.1+b.1,a.2++b.2)){first:List bS}(h0:∀ k,∀ x∈first,Q k x):∀ k,∀ x∈i7 first k,Q k x
 | 0=>h0 0
 | k+1=>by
  intro x hx;rcases lJ hx with e | e
  ·exact h0 _ x e
  ·exact vR hQ (wV hQ h0 k) x e
theorem pb(first:List bS):∀ k,2*first.length<=(i7 first k).length+(first.length+2^k-1) / 2^k
 | 0=>by simp[i7];omega
 | k+1=>by
  have ih:=pb first k
  simp only[i7,eL,fw,fQ];have h1:(first.length+2^(k+1)-1) / 2^(k+1)=((first.length+2^(k+1)-1) / 2^k) / 2:=by
   rw[Nat.pow_succ,Nat.div_div_eq_div_mul]
  have h2:(first.length+2^(k+1)-1)=(first.length+2^k-1)+2^k:=by
   have:0<2^k:=Nat.two_pow_pos k;rw[Nat.pow_succ];omega
  have h3:(first.length+2^(k+1)-1) / 2^k=(first.length+2^k-1) / 2^k+1:=by
   rw[h2,Nat.add_div_right _ (Nat.two_pow_pos k)]
  rw[h1,h3];omega
theorem ui{first:List bS}{m:Nat}(hm:1<=m)(h:first.length<=2^m):2*first.length-2<=(i7 first (m-1)).length:=by
 have h1:=pb first (m-1)
 have h2:(first.length+2^(m-1)-1) / 2^(m-1)<=2:=by
  have hp:0<2^(m-1):=Nat.two_pow_pos _;have h3:2^m=2*2^(m-1):=by
   have:m=(m-1)+1:=by omega
   rw[this,Nat.pow_succ];simp;omega
  rw[← Nat.lt_succ_iff,Nat.div_lt_iff_lt_mul hp];omega
 omega
def qR(xs:List Int)(s:Nat):List Int:=xs.set s (xs.getD s 0+1)
def eo(ss:List Nat)(xs:List Int):List Int:=ss.foldl qR xs
theorem sh(xs:List Int)(s:Nat):(qR xs s).length=xs.length:=by simp[qR]
theorem dB:∀(ss:List Nat)(xs:List Int),(eo ss xs).length=xs.length
 | [],xs=>rfl
 | s ::ss,xs=>by
  show(eo ss (qR xs s)).length=_;rw[dB,sh]
theorem gU(s t:List Nat)(xs:List Int):eo (s++t) xs=eo t (eo s xs):=by simp[eo]
theorem AF{xs:List Int}{s:Nat}{B:Int}(h:∀ v∈xs,0<=v/\v<=B)(hB:0<=B):∀ v∈qR xs s,0<=v/\v<=B+1:=by
 intro v hv;have hd:0<=xs.getD s 0/\xs.getD s 0<=B:=by
  rw[List.getD_eq_getElem?_getD];cases he:xs[s]? with
  | none=>simp;exact hB
  | some u=>simpa using h u (List.mem_of_getElem? he)
 rcases List.mem_or_eq_of_mem_set hv with e | e
 ·have:=h v e;omega
 ·omega
theorem gx:∀ (ss:List Nat) {xs:List Int} {B:Int},(∀ v∈xs,0<=v/\v<=B)->0<=B->∀ v∈eo ss xs,0<=v/\v<=B+ss.length
 | [],xs,B,h,hB=>by simpa[eo]using h
 | s ::ss,xs,B,h,hB=>by
  have:=gx ss (AF (s:=s) h hB) (by omega);intro v hv;have:=this v hv;simp only[List.length_cons];omega
def cv(most:Int):Nat:=(mn (mx most 1) 15).toNat
def bU(xs:List Int)(m:Nat):List Nat :=
 if(aL xs).length=1 then((aL xs).flatMap Prod.snd) else((i7 (aL xs) (m-1)).take (2*(aL xs).length-2)).flatMap Prod.snd
def dv(xs:List Int)(most:Int):List Int :=
 if xs.length>256 then [] else if(aL xs).length>2^cv most then [] else eo (bU xs (cv most)) (List.replicate xs.length 0)
end Go.V
/-! Lengths of codes by coins and packages are the best ones: lists alone. Plain Lean; no program. -/
namespace Go.V
def aR:Nat->(Nat->Int)->Int
 | 0,_=>0
 | n+1,f=>aR n f+f n
theorem bP{f g:Nat->Int}:∀ {n:Nat},(∀ i,i<n->f i=g i)->aR n f=aR n g
 | 0,_=>rfl
 | n+1,h=>by
  have h1:=bP (n:=n) (fun i hi=>h i (by omega));have h2:=h n (by omega);simp only[aR];omega
theorem fK(f g:Nat->Int):∀ n,aR n (fun i=>f i+g i)=aR n f+aR n g
 | 0=>rfl
 | n+1=>by simp only[aR,fK f g n];omega
theorem iQ:∀ n,aR n (fun _=>0)=0
 | 0=>rfl
 | n+1=>by simp only[aR,iQ n];omega
theorem jd{f g:Nat->Int}:∀ {n:Nat},(∀ i,i<n->f i<=g i)->aR n f<=aR n g
 | 0,_=>Int.le_refl _
 | n+1,h=>by
  have:=jd (n:=n) (fun i hi=>h i (by omega));have:=h n (by omega);simp only[aR];omega
theorem gz(c:Int):∀ n:Nat,aR n (fun _=>c)=n*c
 | 0=>by simp[aR]
 | n+1=>by simp only[aR,gz c n];rw[show((n+1:Nat):Int)=(n:Int)+1 by omega,Int.add_mul,Int.one_mul]
theorem kz(f:Nat->Int){a:Nat}:∀ {n:Nat},a<=n->aR n (fun i=>if i<a then f i else 0)=aR a f
 | 0,h=>by
  have:a=0:=by omega
  subst this;rfl
 | n+1,h=>by
  by_cases e:a=n+1
  ·subst e;apply bP;intro i hi;simp[hi]
  ·have:=kz f (a:=a) (n:=n) (by omega);simp only[aR,this];rw[if_neg (by omega)];omega
theorem qA(c:Int)(f:Nat->Int):∀ n,aR n (fun i=>c*f i)=c*aR n f
 | 0=>by simp[aR]
 | n+1=>by simp only[aR,qA c f n,Int.mul_add]
def wt(l:List bS):Int:=(l.map Prod.fst).sum
def cI(first:List bS)(i:Nat):Int:=(first.getD i (0,[])).1
theorem qr(a b:List bS):wt (a++b)=wt a+wt b:=by simp[wt]
theorem iZ(a:bS)(b:List bS):wt (a ::b)=a.1+wt b:=by simp[wt]
theorem qq:wt []=0:=rfl
theorem sJ(first:List bS):∀ {a:Nat},a<=first.length->wt (first.take a)=aR a (cI first)
 | 0,_=>by simp[wt,aR]
 | a+1,h=>by
  have h':a<first.length:=by omega
  rw[List.take_succ_eq_append_getElem h',qr,sJ first (by omega)];simp only[aR,iZ,qq,cI];rw[List.getD_eq_getElem?_getD,List.getElem?_eq_getElem h'];simp
abbrev SC(l:List bS):Prop:=aJ (Prod.fst:bS->Int) l
theorem gl:∀ ps,cR [] ps=ps
 | []=>rfl
 | p ::ps=>by rw[mU,gl ps]
theorem kg:∀ {N:Nat} {cs ps:List bS},cs.length+ps.length<=N->SC cs->SC ps->SC (cR cs ps)
 | N,[],ps,_,_,h2=>by rw[gl];exact h2
 | N,c ::cs,[],_,h1,_=>by simpa[cR]using h1
 | 0,c ::cs,p ::ps,h,_,_=>by simp at h
 | N+1,c ::cs,p ::ps,h,h1,h2=>by
  simp only[List.length_cons]at h;by_cases FW:c.1<=p.1
  ·rw[kL FW];refine List.pairwise_cons.2 ⟨fun z hz=>?_,kg (N:=N) (by simp;omega) (List.pairwise_cons.1 h1).2 h2⟩;rcases lJ hz with e | e
   ·exact(List.pairwise_cons.1 h1).1 z e
   ·have:=aJ.head_le h2 z e;omega
  ·rw[kM FW];refine List.pairwise_cons.2 ⟨fun z hz=>?_,kg (N:=N) (by simp;omega) h1 (List.pairwise_cons.1 h2).2⟩;rcases lJ hz with e | e
   ·have:=aJ.head_le h1 z e;omega
   ·exact(List.pairwise_cons.1 h2).1 z e
theorem yd{m:Int}:∀ {l:List bS},(∀ x∈l,m<=x.1)->∀ x∈dh l,2*m<=x.1
 | [],_=>by simp[dh]
 | [_],_=>by simp[dh]
 | a ::b ::r,h=>by
  intro x hx;simp only[dh,List.mem_cons]at hx;rcases hx with rfl | hx
  ·have:=h a (by simp);have:=h b (by simp);show 2*m<=a.1+b.1;omega
  ·exact yd (fun y hy=>h y (by simp[hy])) x hx
theorem lF:∀ {l:List bS},SC l->SC (dh l)
 | [],_=>by simp[dh,aJ]
 | [_],_=>by simp[dh,aJ]
 | a ::b ::r,h=>by
  have h1:=List.pairwise_cons.1 h;have h2:=List.pairwise_cons.1 h1.2;simp only[dh];refine List.pairwise_cons.2 ⟨fun z hz=>?_,lF h2.2⟩;have:=yd (m:=b.1) h2.1 z hz;have:=h1.1 b (by simp);show a.1+b.1<=z.1;omega
theorem uh{first:List bS}(h:SC first):∀ k,SC (i7 first k)
 | 0=>h
 | k+1=>kg (Nat.le_refl _) h (lF (uh h k))
theorem jC:∀ {N a b:Nat} {cs ps:List bS},a+b<=N->SC cs->SC ps->a<=cs.length->b<=ps.length->wt ((cR cs ps).take (a+b))<=wt (cs.take a)+wt (ps.take b)
 | _,0,0,cs,ps,_,_,_,_,_=>by simp[wt]
 | 0,a+1,b,_,_,h,_,_,_,_=>by omega
 | 0,0,b+1,_,_,h,_,_,_,_=>by omega
 | N+1,a,b,[],ps,h,h1,h2,ha,hb=>by
  have:a=0:=by simpa using ha
  subst this;rw[gl];simp[wt]
 | N+1,a,b,c ::cs,[],h,h1,h2,ha,hb=>by
  have:b=0:=by simpa using hb
  subst this;simp[cR,wt]
 | N+1,a,b,c ::cs,p ::ps,h,h1,h2,ha,hb=>by
  have k1:=List.pairwise_cons.1 h1;have k2:=List.pairwise_cons.1 h2;by_cases h0:a+b=0
  ·have e1:a=0:=by omega
   have e2:b=0:=by omega
   subst e1;subst e2;simp[wt]
  by_cases FW:c.1<=p.1
  ·rw[kL FW];cases a with
   | succ a =>
    have ih:=jC (N:=N) (a:=a) (b:=b) (by omega) k1.2 h2 (by simpa using ha) hb;rw[show a+1+b=(a+b)+1 by omega,List.take_succ_cons,List.take_succ_cons,iZ,iZ];omega
   | zero =>
    cases b with
    | zero=>omega
    | succ b =>
     have ih:=jC (N:=N) (a:=0) (b:=b) (cs:=cs) (ps:=p ::ps) (by omega) k1.2 h2 (by omega) (by omega);have GP:b<(p ::ps).length:=by omega
     have HL:p.1<=((p ::ps)[b]).1:=aJ.head_le h2 _ (List.getElem_mem GP);rw[show 0+(b+1)=(0+b)+1 by omega,List.take_succ_cons,iZ,List.take_succ_eq_append_getElem GP,qr,iZ,qq];simp only[List.take_zero,qq]at ih ⊢;omega
  ·rw[kM FW];cases b with
   | succ b =>
    have ih:=jC (N:=N) (a:=a) (b:=b) (by omega) h1 k2.2 ha (by simpa using hb);rw[show a+(b+1)=(a+b)+1 by omega,List.take_succ_cons,List.take_succ_cons,iZ,iZ];omega
   | zero =>
    cases a with
    | zero=>omega
    | succ a =>
     have ih:=jC (N:=N) (a:=a) (b:=0) (cs:=c ::cs) (ps:=ps) (by omega) h1 k2.2 (by omega) (by omega);have Tl:a<(c ::cs).length:=by omega
     have HL:c.1<=((c ::cs)[a]).1:=aJ.head_le h1 _ (List.getElem_mem Tl);rw[show a+1+0=a+1 by omega,List.take_succ_cons,iZ,List.take_succ_eq_append_getElem Tl,qr,iZ,qq];simp only[List.take_zero,qq,Nat.add_zero]at ih ⊢;omega
theorem oU:∀ {N k:Nat} {cs ps:List bS},k<=N->k<=cs.length+ps.length->SC cs->∃ a b,a+b=k/\a<=cs.length/\b<=ps.length/\((cR cs ps).take k).Perm (cs.take a++ps.take b)/\(∀ p∈ps.take b,∀ c∈cs.drop a,p.1<c.1)
 | _,0,cs,ps,_,_,_=>⟨0,0,rfl,by omega,by omega,by simp,by simp⟩
 | 0,k+1,_,_,h,_,_=>by omega
 | N+1,k+1,[],ps,h,hk,_=>⟨0,k+1,by omega,by omega,by simpa using hk,by rw[gl];simp,by simp⟩
 | N+1,k+1,c ::cs,[],h,hk,_=>⟨k+1,0,by omega,by simpa using hk,by omega,by simp[cR],by simp⟩
 | N+1,k+1,c ::cs,p ::ps,h,hk,h1=>by
  simp only[List.length_cons]at hk;by_cases FW:c.1<=p.1
  ·obtain⟨a,b,e1,e2,e3,e4,e5⟩:=oU (N:=N) (k:=k) (cs:=cs) (ps:=p ::ps) (by omega) (by simp;omega) (List.pairwise_cons.1 h1).2;refine⟨a+1,b,by omega,by simp;omega,e3,?_,by simpa using e5⟩;rw[kL FW];simpa using e4
  ·obtain⟨a,b,e1,e2,e3,e4,e5⟩:=oU (N:=N) (k:=k) (cs:=c ::cs) (ps:=ps) (by omega) (by simp;omega) h1;refine⟨a,b+1,by omega,e2,by simp;omega,?_,?_⟩
   ·rw[kM FW,List.take_succ_cons,List.take_succ_cons];exact(List.Perm.cons p e4).trans (List.perm_middle (a:=p) (l₁:=(c ::cs).take a) (l₂:=ps.take b)).symm
   ·intro q hq d hd;rcases List.mem_cons.1 (by simpa using hq)with e | e
    ·subst e;have:=aJ.head_le h1 d (List.mem_of_mem_drop hd);omega
    ·exact e5 q e d hd
theorem tX:∀ {b:Nat} {l:List bS},2*b<=l.length->wt ((dh l).take b)=wt (l.take (2*b))/\((dh l).take b).flatMap Prod.snd=(l.take (2*b)).flatMap Prod.snd
 | 0,l,_=>by simp[wt]
 | b+1,[],h=>by simp at h
 | b+1,[_],h=>by simp at h;omega
 | b+1,x ::y ::r,h=>by
  have ih:=tX (b:=b) (l:=r) (by simp at h;omega);rw[show 2*(b+1)=(2*b+1)+1 by omega];simp only[dh,List.take_succ_cons,iZ,List.flatMap_cons,ih.1,ih.2];constructor
  ·omega
  ·simp
theorem vS:∀ {b:Nat} {l:List bS} {x:bS},2*b<=l.length->(∀ y∈l,0<=y.1)->x∈l.take (2*b)->∃ p∈(dh l).take b,x.1<=p.1
 | 0,l,x,_,_,h=>by simp at h
 | b+1,[],x,h,_,_=>by simp at h
 | b+1,[_],x,h,_,_=>by simp at h;omega
 | b+1,y ::z ::r,x,h,hp,hx=>by
  rw[show 2*(b+1)=(2*b+1)+1 by omega]at hx;simp only[List.take_succ_cons,List.mem_cons]at hx;have hy:=hp y (by simp);have hz:=hp z (by simp);rcases hx with rfl | rfl | hx
  ·exact⟨_,by simp only[dh,List.take_succ_cons];exact List.mem_cons_self,by show _<=_+_;omega⟩
  ·exact⟨_,by simp only[dh,List.take_succ_cons];exact List.mem_cons_self,by show _<=_+_;omega⟩
  ·obtain⟨p,h1,h2⟩:=vS (b:=b) (l:=r) (by simp at h;omega) (fun y hy=>hp y (by simp[hy])) hx;exact⟨p,by simp only[dh,List.take_succ_cons];exact List.mem_cons_of_mem _ h1,h2⟩
end Go.V
/-! Lengths of codes by coins and packages: what is chosen fills all codes, and no choice counts less. Plain Lean; no program. -/
namespace Go.V
def sA(g:bS->Int)(l:List bS):Int:=(l.map g).sum
theorem ov(g:bS->Int)(a b:List bS):sA g (a++b)=sA g a+sA g b:=by simp[sA]
theorem ik(g:bS->Int)(a:bS)(b:List bS):sA g (a ::b)=g a+sA g b:=by simp[sA]
theorem Ed(g:bS->Int):sA g []=0:=rfl
theorem xI(g:bS->Int){a b:List bS}(h:a.Perm b):sA g a=sA g b:=by
 induction h with
 | nil=>rfl
 | cons x _ ih=>rw[ik,ik,ih]
 | swap x y l=>rw[ik,ik,ik,ik];omega
 | trans _ _ h1 h2=>exact h1.trans h2
def gI(g:bS->Int)(first:List bS)(i:Nat):Int:=g (first.getD i (0,[]))
theorem pG(g:bS->Int)(first:List bS):∀ {a:Nat},a<=first.length->sA g (first.take a)=aR a (gI g first)
 | 0,_=>by simp[sA,aR]
 | a+1,h=>by
  have h':a<first.length:=by omega
  rw[List.take_succ_eq_append_getElem h',ov,pG g first (by omega)];simp only[aR,ik,Ed,gI];rw[List.getD_eq_getElem?_getD,List.getElem?_eq_getElem h'];simp
def FC(g:bS->Int):Prop:=∀ a b:bS,g (a.1+b.1,a.2++b.2)=g a+g b
theorem vQ{g:bS->Int}(hg:FC g):∀ {b:Nat} {l:List bS},2*b<=l.length->sA g ((dh l).take b)=sA g (l.take (2*b))
 | 0,l,_=>by simp[sA]
 | b+1,[],h=>by simp at h
 | b+1,[_],h=>by simp at h;omega
 | b+1,x ::y ::r,h=>by
  have ih:=vQ hg (b:=b) (l:=r) (by simp at h;omega);rw[show 2*(b+1)=(2*b+1)+1 by omega];simp only[dh,List.take_succ_cons,ik,ih,hg x y];omega
theorem ew(k:Nat):(0:Int)<2^k:=by
 have h:=Nat.two_pow_pos k;obtain⟨q,hq⟩:∃ q:Nat,q=2^k:=⟨_,rfl⟩;have e:(2:Int)^k=(q:Int):=by rw[hq];simp
 rw[e];omega
theorem pow_succ'(k:Nat):(2:Int)^(k+1)=2*2^k:=by rw[Int.pow_succ];omega
theorem EA{first:List bS}(hp:∀ x∈first,0<x.1):∀ k,∀ x∈i7 first k,0<x.1 :=
 wV (Q:=fun _ x=>0<x.1) (fun k a b ha hb=>by show 0<a.1+b.1;omega) (fun k x hx=>hp x hx)
theorem uL {first:List bS} (hs:SC first) (hp:∀ x∈first,0<x.1):∀(j k:Nat),k<=(i7 first j).length →
    ∃ (x:Nat->Nat) (a:Nat),(∀ i,x i<=j+1)/\(∀ i,a<=i->x i=0)/\(∀ i,i<a->1<=x i)/\a<=first.length ∧
      (∀ c∈first.take a,c∈(i7 first j).take k)/\(∀ i i',i<=i'->x i'<=x i) ∧
      aR first.length (fun i=>2^(j+1)-2^(j+1-x i))=2^j*(k:Int) ∧
      ∀ g,FC g->sA g ((i7 first j).take k)=aR first.length (fun i=>gI g first i*(x i:Int))
  | 0,k,hk=>by
    refine⟨fun i=>if i<k then 1 else 0,k,?_,?_,?_,hk,fun c hc=>hc,?_,?_,?_⟩
    · intro i;dsimp only;split <;>omega
    · intro i hi;dsimp only;rw[if_neg (by omega)]
    · intro i hi;dsimp only;rw[if_pos hi];omega
    · intro i i' h;dsimp only;split <;>split <;>omega
    · have:aR first.length (fun i=>(2:Int)^(0+1)-2^(0+1-(if i<k then 1 else 0)))=aR first.length (fun i=>if i<k then 1 else 0):=by
        apply bP;intro i hi;by_cases e:i<k <;>simp[e]
      have Gc:k<=first.length:=hk;rw[this,kz (fun _=>1) Gc,gz];simp
    · intro g hg;show sA g (first.take k)=_;have Gc:k<=first.length:=hk;rw[pG g first Gc,← kz (gI g first) Gc];apply bP;intro i hi;by_cases e:i<k <;>simp[e]
  | j + 1,k,hk=>by
    have JM:=EA hp j;have Gc:k<=first.length+(dh (i7 first j)).length:=by
      have:=hk;simp only[i7,eL,fw]at this;exact this
    obtain⟨a,b,e1,e2,e3,e4,e5⟩:=oU (N:=k) (k:=k) (cs:=first) (ps:=dh (i7 first j)) (Nat.le_refl _) Gc hs;have RY:2*b<=(i7 first j).length:=by rw[fQ]at e3;omega
    obtain⟨x',a',x1,x2,x3,x4,x5,x6,x7,x8⟩:=uL hs hp j (2*b) RY;have Xz:a'<=a:=by
      rcases Nat.lt_or_ge a a' with FE | FJ
      · exfalso;have hi:a<first.length:=by omega
        have hm:first[a]∈first.take a':=List.mem_take_iff_getElem.2 ⟨a,by omega,rfl⟩
        obtain⟨p,q1,q2⟩:=vS RY (fun y hy=>Int.le_of_lt (JM y hy)) (x5 _ hm);have hd:first[a]∈first.drop a:=by rw[List.drop_eq_getElem_cons hi];exact List.mem_cons_self
        have:=e5 p q1 _ hd;omega
      · exact FJ
    refine⟨fun i=>(if i<a then 1 else 0)+x' i,a,?_,?_,?_,e2,?_,?_,?_,?_⟩
    · intro i;have:=x1 i;dsimp only;split <;>omega
    · intro i hi;have:=x2 i (by omega);dsimp only;rw[if_neg (by omega)];omega
    · intro i hi;dsimp only;rw[if_pos hi];omega
    · intro c hc;exact e4.symm.subset (List.mem_append_left _ hc)
    · intro i i' h;have:=x6 i i' h;dsimp only;split <;>split <;>omega
    · have:aR first.length (fun i=>(2:Int)^(j+1+1)-2^(j+1+1-((if i<a then 1 else 0)+x' i))) =
          aR first.length (fun i=>(if i<a then(2:Int)^(j+1) else 0)+(2^(j+1)-2^(j+1-x' i))):=by
        apply bP;intro i hi;have h1:=x1 i;split
        · rw[show j+1+1-(1+x' i)=j+1-x' i by omega,pow_succ' (j+1)];omega
        · have:=x2 i (by omega);rw[this];simp
      rw[this,fK,kz (fun _=>(2:Int)^(j+1)) e2,gz,x7,pow_succ' j,← e1];rw[Int.natCast_add,Int.natCast_mul,Int.mul_add,Int.mul_comm (a:Int),Int.mul_left_comm,Int.mul_assoc 2 (2^j) (b:Int)];rfl
    · intro g hg;show sA g ((cR first (dh (i7 first j))).take k)=_;rw[xI g e4,ov,vQ hg RY,x8 g hg,pG g first e2,← kz (gI g first) e2,← fK];apply bP;intro i hi;by_cases e:i<a
      · simp[e,Int.mul_add]
      · simp[e]
theorem qH{N:Nat}{c:Nat->Int}(hc:∀ i i',i<=i'->i'<N->c i<=c i')(p:Nat->Bool):∀ n,n<=N->∃ b,b<=n/\aR n (fun i=>if p i then 1 else 0)=(b:Int)/\aR b c<=aR n (fun i=>if p i then c i else 0)
 | 0,_=>⟨0,by omega,rfl,Int.le_refl _⟩
 | n+1,hn=>by
  obtain⟨b,h1,h2,h3⟩:=qH hc p n (by omega);by_cases hp:p n=true
  ·refine⟨b+1,by omega,?_,?_⟩
   ·simp only[aR,h2,hp,if_true];omega
   ·have:=hc b n h1 (by omega);simp only[aR,hp,if_true];omega
  ·refine⟨b,by omega,?_,?_⟩
   ·simp only[aR,h2,hp];simp
   ·simp only[aR,hp];simpa using h3
theorem tw{N:Nat}{c:Nat->Int}(hc:∀ i,i<N->0<=c i){a b:Nat}(h:a<=b)(hb:b<=N):aR a c<=aR b c:=by
  induction b with
  | zero => have:a=0:=by omega
            subst this;exact Int.le_refl _
  | succ b ih =>
    by_cases e:a=b+1
    · subst e;exact Int.le_refl _
    · have:=ih (by omega) (by omega);have:=hc b (by omega);simp only[aR];omega
theorem BB{first:List bS}(hs:SC first):∀ i i',i<=i'->i'<first.length->cI first i<=cI first i':=by
 intro i i' h h';have hi:i<first.length:=by omega
 have:=aJ.get hs h (List.getElem?_eq_getElem hi) (List.getElem?_eq_getElem h');simpa[cI,List.getD_eq_getElem?_getD,hi,h']using this
theorem AD{first:List bS}(hp:∀ x∈first,0<x.1):∀ i,i<first.length->0<cI first i:=by
 intro i hi;have:=hp _ (List.getElem_mem hi);simpa[cI,List.getD_eq_getElem?_getD,hi]using this
theorem EQ {first:List bS} (hs:SC first) (hp:∀ x∈first,0<x.1):∀(j k:Nat)(y:Nat->Nat),(∀ i,i<first.length->y i<=j+1)->k<=(i7 first j).length →
    2^j*(k:Int)<=aR first.length (fun i=>2^(j+1)-2^(j+1-y i))->wt ((i7 first j).take k)<=aR first.length (fun i=>cI first i*(y i:Int))
  | 0,k,y,hy,hk,h=>by
    obtain⟨b,b1,b2,b3⟩:=qH (BB hs) (fun i=>decide (1<=y i)) first.length (Nat.le_refl _);have h1:aR first.length (fun i=>(2:Int)^(0+1)-2^(0+1-y i))=aR first.length (fun i=>if decide (1<=y i) then 1 else 0):=by
      apply bP;intro i hi;have:=hy i hi;by_cases e:1<=y i
      · have:y i=1:=by omega
        simp[this]
      · have:y i=0:=by omega
        simp[this]
    have h2:aR first.length (fun i=>if decide (1<=y i) then cI first i else 0)=aR first.length (fun i=>cI first i*(y i:Int)):=by
      apply bP;intro i hi;have:=hy i hi;by_cases e:1<=y i
      · have:y i=1:=by omega
        simp[this]
      · have:y i=0:=by omega
        simp[this]
    rw[h1,b2]at h;have QN:k<=b:=by simp at h;omega
    show wt (first.take k)<=_;rw[sJ first hk,← h2];exact Int.le_trans (tw (fun i hi=>Int.le_of_lt (AD hp i hi)) QN b1) b3
  | j + 1, k, y,hy,hk,h=>by
    obtain⟨b,b1,b2,b3⟩:=qH (BB hs) (fun i=>decide (1<=y i)) first.length (Nat.le_refl _);have hS:=uh hs j;have Tq:=lF hS;have Gc:k<=first.length+(dh (i7 first j)).length:=by
      have:=hk;simp only[i7,eL,fw]at this;exact this
    have key:aR first.length (fun i=>cI first i*(y i:Int))=aR first.length (fun i=>if decide (1<=y i) then cI first i else 0)+aR first.length (fun i=>cI first i*((y i-1:Nat):Int)):=by
      rw[← fK];apply bP;intro i hi;by_cases e:1<=y i
      · have e2:(y i:Int)=1+((y i-1:Nat):Int):=by omega
        simp only[e,decide_true,if_true];rw[e2,Int.mul_add];simp
      · have:y i=0:=by omega
        simp[this]
    have hw:aR first.length (fun i=>(2:Int)^(j+1+1)-2^(j+1+1-y i))=2^(j+1)*(b:Int)+aR first.length (fun i=>2^(j+1)-2^(j+1-(y i-1))):=by
      rw[← b2,← qA,← fK];apply bP;intro i hi;have:=hy i hi;by_cases e:1<=y i
      · simp only[e,decide_true,if_true];rw[show j+1+1-y i=j+1-(y i-1) by omega,pow_succ' (j+1)];omega
      · have:y i=0:=by omega
        simp[this]
    have Sg:0<=aR first.length (fun i=>(2:Int)^(j+1)-2^(j+1-(y i-1))):=by
      have:=jd (n:=first.length) (f:=fun _=>(0:Int)) (g:=fun i=>(2:Int)^(j+1)-2^(j+1-(y i-1))) (fun i hi=>by
        have h1:2^(j+1-(y i-1))<=2^(j+1):=Nat.pow_le_pow_right (n:=2) (by omega) (by omega);have e1:((2^(j+1-(y i-1)):Nat):Int)=2^(j+1-(y i-1)):=by simp
        have e2:((2^(j+1):Nat):Int)=2^(j+1):=by simp
        rw[← e1,← e2];omega)
      rw[iQ]at this;exact this
    show wt ((cR first (dh (i7 first j))).take k)<=_;rw[key];have Ta:0<=aR first.length (fun i=>cI first i*((y i-1:Nat):Int)):=by
      have:=jd (n:=first.length) (f:=fun _=>(0:Int)) (g:=fun i=>cI first i*((y i-1:Nat):Int)) (fun i hi=>Int.mul_nonneg (Int.le_of_lt (AD hp i hi)) (by omega));rw[iQ]at this;exact this
    by_cases QN:k<=b
    · have hm:=jC (N:=k) (a:=k) (b:=0) (cs:=first) (ps:=dh (i7 first j)) (by omega) hs Tq (by omega) (by omega);rw[Nat.add_zero,List.take_zero,qq,sJ first (by omega)]at hm;have:=tw (c:=cI first) (fun i hi=>Int.le_of_lt (AD hp i hi)) QN b1;omega
    · obtain⟨q,hq⟩:∃ q,k=b+q:=⟨k-b,by omega⟩;subst hq;have h2:2^j*((2*q:Nat):Int)<=aR first.length (fun i=>2^(j+1)-2^(j+1-(y i-1))):=by
        rw[hw]at h;have e1:(2:Int)^(j+1)*((b+q:Nat):Int)=2^(j+1)*(b:Int)+2^(j+1)*(q:Int):=by rw[Int.natCast_add,Int.mul_add]
        have e2:(2:Int)^j*((2*q:Nat):Int)=2^(j+1)*(q:Int):=by
          rw[pow_succ' j,Int.natCast_mul,Int.mul_comm 2 ((2:Int)^j),Int.mul_assoc];rfl
        omega
      have Lg :q<=(dh (i7 first j)).length:=by
        have:=hk;simp only[i7,eL,fw]at this
        -- as wide as all that there is
        have FQ:aR first.length (fun i=>(2:Int)^(j+1)-2^(j+1-(y i-1)))<=(first.length:Int)*(2^(j+1)-1):=by
          rw[← gz];apply jd;intro i hi;have:=ew (j+1-(y i-1));omega
        have hl:=pb first j
        rw[fQ];rcases Nat.lt_or_ge ((i7 first j).length / 2) q with FE | FJ
        · exfalso;have h3:(i7 first j).length+1<=2*q:=by omega
          -- 2q ≤ 2n - n/2^j
          have h4:(2:Int)^j*((2*q:Nat):Int)<=(first.length:Int)*(2^(j+1)-1):=Int.le_trans h2 FQ;have h5:2^j*(2*q)+first.length<=first.length*(2*2^j):=by
            have e1:((2^j:Nat):Int)=2^j:=by simp
            have e2:(first.length:Int)*(2^(j+1)-1)=(first.length:Int)*(2*2^j)-first.length:=by rw[pow_succ',Int.mul_sub];simp
            rw[e2]at h4;have e3:((2^j*(2*q):Nat):Int)=2^j*((2*q:Nat):Int):=by rw[Int.natCast_mul];simp
            have e4:((first.length*(2*2^j):Nat):Int)=(first.length:Int)*(2*2^j):=by rw[Int.natCast_mul];simp
            apply Int.ofNat_le.1;rw[Int.natCast_add,e3,e4];generalize (2:Int)^j*((2*q:Nat):Int)=z1 at *;generalize (first.length:Int)*(2*2^j)=z2 at *;omega
          have LQ:=Nat.two_pow_pos j;have e:first.length*(2*2^j)=2^j*(2*first.length):=by rw[Nat.mul_comm 2 (2^j),Nat.mul_left_comm,Nat.mul_comm first.length 2]
          have Ss:2*q<=2*first.length:=by
            rcases Nat.lt_or_ge (2*first.length) (2*q)with hl | hg
            · exfalso;have:=Nat.mul_le_mul_left (2^j) (Nat.le_of_lt hl);have h8:=Nat.mul_lt_mul_of_pos_left hl LQ;rw[e]at h5;generalize 2^j*(2*q)=z1 at *;generalize 2^j*(2*first.length)=z2 at *;omega
            · exact hg
          have h6:first.length+2^j-1<2^j*(2*first.length-2*q+1):=by
            obtain⟨d,hd⟩:∃ d,2*first.length=2*q+d:=⟨2*first.length-2*q,by omega⟩;rw[e,hd,Nat.mul_add]at h5;rw[show 2*first.length-2*q+1=d+1 by omega,Nat.mul_add,Nat.mul_one];omega
          have h7:(first.length+2^j-1) / 2^j<2*first.length-2*q+1:=(Nat.div_lt_iff_lt_mul LQ).2 (by rw[Nat.mul_comm];exact h6);omega
        · exact FJ
      have TL:2*q<=(i7 first j).length:=by rw[fQ]at Lg;omega
      have ih:=EQ hs hp j (2*q) (fun i=>y i-1) (fun i hi=>by have:=hy i hi;omega) TL h2;have hm:=jC (N:=b+q) (a:=b) (b:=q) (cs:=first) (ps:=dh (i7 first j)) (by omega) hs Tq b1 Lg;rw[(tX TL).1,sJ first b1]at hm;omega
end Go.V
/-! Lengths of codes, symbol by symbol: all codes are used, none is too long, none is better. Plain Lean; no program. -/
namespace Go.V
theorem yx{α:Type}(key:α->Int)(x:α):∀ l:List α,(sD key x l).Perm (x ::l)
 | []=>by simp[sD]
 | y ::ys=>by
  unfold sD;split
  ·exact((yx key x ys).cons y).trans (List.Perm.swap x y ys)
  ·exact List.Perm.refl _
theorem iy{α:Type}(key:α->Int)(xs:List α):(dk key xs).Perm xs:=by
 have:∀(xs l:List α),(xs.foldl (fun l x=>sD key x l) l).Perm (l++xs):=by
  intro xs
  induction xs with
  | nil=>intro l;simp
  | cons x xs ih =>
   intro l;refine(ih _).trans ?_;have h1:(sD key x l++xs).Perm ((x ::l)++xs):=(yx key x l).append_right xs;exact h1.trans (List.perm_middle (a:=x) (l₁:=l) (l₂:=xs)).symm
 simpa[dk]using this xs []
def sy(c:bS):Nat:=c.2.headD 0
def PS(xs:List Int)(f:Nat->Int):Int:=aR xs.length (fun s=>if 0<xs.getD s 0 then f s else 0)
theorem AV(g:bS->Int)(xs:List Int):∀ k,k<=xs.length->sA g (aU 0 (xs.take k))=aR k (fun s=>if 0<xs.getD s 0 then g (cO (xs.getD s 0),[s]) else 0)
 | 0,_=>by simp[aU,sA,aR]
 | k+1,h=>by
  have h':k<xs.length:=by omega
  have hd:xs.getD k 0=xs[k]:=by simp[List.getD_eq_getElem?_getD,h']
  rw[List.take_succ_eq_append_getElem h',gk,ov,AV g xs k (by omega)];have hl:(xs.take k).length=k:=by simp;omega
  simp only[aR,hd,hl,Nat.zero_add,aU];split <;>simp[sA]
theorem BR(g:bS->Int)(xs:List Int):sA g (aL xs)=PS xs (fun s=>g (cO (xs.getD s 0),[s])):=by
 have h:=AV g xs xs.length (Nat.le_refl _);rw[List.take_length]at h;rw[PS,← h];exact xI g (iy _ _)
theorem kw(g:bS->Int)(xs:List Int):aR (aL xs).length (gI g (aL xs))=PS xs (fun s=>g (cO (xs.getD s 0),[s])):=by
 rw[← BR,← pG g _ (Nat.le_refl _),List.take_length]
theorem mP:∀(xs:List Int)(i:Nat),(aU i xs).Pairwise (fun a b=>sy a<sy b)
 | [],i=>by simp[aU]
 | n ::ns,i=>by
  unfold aU;split
  ·refine List.pairwise_cons.2 ⟨fun z hz=>?_,mP ns (i+1)⟩;obtain⟨_,_,s,h3,h4,_⟩:=js ns (i+1) z hz;simp[sy,h3];omega
  ·exact mP ns (i+1)
theorem yU(xs:List Int):((aL xs).map sy).Nodup:=by
 have h1:((aU 0 xs).map sy).Nodup:=by
  rw[List.Nodup,List.pairwise_map];exact(mP xs 0).imp (fun h=>by omega)
 exact((iy Prod.fst (aU 0 xs)).map sy).nodup_iff.2 h1
theorem Cy{xs:List Int}{i j:Nat}(hi:i<(aL xs).length)(hj:j<(aL xs).length)(h:sy (aL xs)[i]=sy (aL xs)[j]):i=j:=by
 have:=yU xs;rw[List.Nodup,List.pairwise_iff_getElem]at this;rcases Nat.lt_trichotomy i j with FE | he | GM
 ·exact absurd (by rw[List.getElem_map,List.getElem_map];exact h) (this i j (by simpa using hi) (by simpa using hj) FE)
 ·exact he
 ·exact absurd (by rw[List.getElem_map,List.getElem_map];exact h.symm) (this j i (by simpa using hj) (by simpa using hi) GM)
theorem nq{xs:List Int}{c:bS}(h:c∈aL xs):c.2=[sy c]/\sy c<xs.length:=by
 obtain⟨_,_,s,h3,h4⟩:=jP h;simp[sy,h3,h4]
theorem mh{xs:List Int}{c:bS}(h:c∈aL xs):0<xs.getD (sy c) 0/\c.1=cO (xs.getD (sy c) 0):=by
 have h0:c∈aU 0 xs:=(iy Prod.fst (aU 0 xs)).subset h;have:∀(ys:List Int)(i:Nat),c∈aU i ys->0<ys.getD (sy c-i) 0/\c.1=cO (ys.getD (sy c-i) 0):=by
  intro ys
  induction ys with
  | nil=>intro i h;simp[aU]at h
  | cons n ns ih =>
   intro i h;have more:c∈aU (i+1) ns->0<(n ::ns).getD (sy c-i) 0/\c.1=cO ((n ::ns).getD (sy c-i) 0):=by
    intro h;obtain⟨_,_,s,h3,h4,_⟩:=js ns (i+1) c h;have hs:sy c=s:=by simp[sy,h3]
    have:=ih (i+1) h;have e:sy c-i=(sy c-(i+1))+1:=by omega
    rw[e];simpa using this
   unfold aU at h;split at h
   ·rename_i hn;rcases List.mem_cons.1 h with e | e
    ·subst e;simp[sy];exact hn
    ·exact more e
   ·exact more h
 simpa using this xs 0 h0
theorem gy(f:Nat->Int){i:Nat}:∀ {n:Nat},i<n->aR n (fun j=>if j=i then f j else 0)=f i
 | 0,h=>by omega
 | n+1,h=>by
  by_cases e:i=n
  ·subst e;have:aR i (fun j=>if j=i then f j else 0)=aR i (fun _=>0):=bP (fun j hj=>by rw[if_neg (by omega)]);simp only[aR,this,iQ];simp
  ·have:=gy f (i:=i) (n:=n) (by omega);simp only[aR,this];rw[if_neg (by omega)];omega
theorem uJ(s:Nat):∀ l:List bS,((l.flatMap Prod.snd).count s:Int)=sA (fun c=>(c.2.count s:Int)) l
 | []=>by simp[sA]
 | c ::l=>by
  have:=uJ s l;simp only[List.flatMap_cons,List.count_append,ik];omega
theorem kf{f:Nat->Int}:∀ {n:Nat},(∀ i,i<n->0<f i)->∀ i,i<n->f i<=aR n f/\(2<=n->f i<aR n f)
 | 0,_,i,hi=>by omega
 | n+1,h,i,hi=>by
  have hn:=h n (by omega);have Iu:0<=aR n f:=by
   have:=jd (n:=n) (f:=fun _=>(0:Int)) (g:=f) (fun i hi=>Int.le_of_lt (h i (by omega)));rw[iQ]at this;exact this
  by_cases e:i=n
  ·subst e;refine⟨by simp only[aR];omega,fun h2=>?_⟩;have:=(kf (f:=f) (n:=i) (fun j hj=>h j (by omega)) 0 (by omega)).1;have:=h 0 (by omega);simp only[aR];omega
  ·have ih:=kf (f:=f) (n:=n) (fun j hj=>h j (by omega)) i (by omega);refine⟨by simp only[aR];omega,fun _=>by simp only[aR];omega⟩
theorem qb {xs:List Int} {m:Nat} (hm:1<=m) (h2:2<=(aL xs).length) (hn:(aL xs).length<=2^m) :
    (∀ s,¬ 0<xs.getD s 0->(bU xs m).count s=0)/\(∀ s,0<xs.getD s 0->1<=(bU xs m).count s/\(bU xs m).count s<=m) ∧
    PS xs (fun s=>2^(m-(bU xs m).count s))=2^m ∧
    (∀ y:Nat->Nat,(∀ s,0<xs.getD s 0->y s<=m)->PS xs (fun s=>2^(m-y s))<=2^m->PS xs (fun s=>cO (xs.getD s 0)*((bU xs m).count s:Int))<=PS xs (fun s=>cO (xs.getD s 0)*(y s:Int))):=by
  have hs:SC (aL xs):=iv _;have hp:∀ x∈aL xs,0<x.1:=fun x hx=>(jP hx).1;have hk:=ui hm hn;have Nb:bU xs m=((i7 (aL xs) (m-1)).take (2*(aL xs).length-2)).flatMap Prod.snd:=by unfold bU;rw[if_neg (by omega)]
  obtain⟨x,a,x1,x2,x3,x4,x5,x6,x7,x8⟩:=uL hs hp (m-1) _ hk;have em:m-1+1=m:=by omega
  rw[em]at x1 x7;generalize hN:(aL xs).length=N at *
  -- NV often each symbol is bU
  have Hd:∀ s,FC (fun c=>(c.2.count s:Int)):=fun s a b=>by simp
  have GN:∀ s,((bU xs m).count s:Int)=aR N (fun i=>gI (fun c=>(c.2.count s:Int)) (aL xs) i*(x i:Int)):=by
    intro s;rw[Nb,uJ,x8 _ (Hd s)]
  have I1:∀ i,(h:i<N)->(aL xs).getD i (0,[])=(aL xs)[i]'(by omega):=by
    intro i h;have h':i<(aL xs).length:=by omega
    simp[List.getD_eq_getElem?_getD,h']
  have hx:∀ i,i<N->((bU xs m).count (sy ((aL xs).getD i (0,[]))):Int)=(x i:Int):=by
    intro i hi;rw[GN];rw[← gy (fun j=>(x j:Int)) hi];apply bP;intro j hj;have GL:j<(aL xs).length:=by omega
    have KI:i<(aL xs).length:=by omega
    have c1:=nq (List.getElem_mem GL);simp only[gI];rw[I1 i hi,I1 j hj,c1.1];by_cases e:j=i
    · subst e;simp
    · have:sy (aL xs)[j]≠sy (aL xs)[i]:=fun h=>e (Cy GL KI h);simp[e,this]
  have QL:aR N (fun i=>(2:Int)^(m-x i))=2^m:=by
    have e1:aR N (fun i=>(2:Int)^m-2^(m-x i))+aR N (fun i=>(2:Int)^(m-x i))=aR N (fun _=>(2:Int)^m):=by
      rw[← fK];apply bP;intro i hi;omega
    rw[x7,gz]at e1;have e2:(2:Int)^m=2*2^(m-1):=by rw[← pow_succ',em]
    have e3:(2:Int)^(m-1)*((2*N-2:Nat):Int)+2^m=N*2^m:=by
      obtain⟨d,hd⟩:∃ d:Nat,N=d+1:=⟨N-1,by omega⟩;subst hd;rw[e2,show 2*(d+1)-2=2*d by omega];generalize (2:Int)^(m-1)=z;rw[Int.natCast_mul,Int.natCast_add,Int.add_mul];rw[Int.mul_left_comm,Int.mul_left_comm (d:Int) 2 z,Int.mul_comm z (d:Int)];simp
    omega
  have Lz:∀ i,i<N->1<=x i:=by
    intro i hi;rcases Nat.eq_zero_or_pos (x i)with h0 | h0
    · exfalso;have:=(kf (f:=fun i=>(2:Int)^(m-x i)) (n:=N) (fun j hj=>ew _) i hi).2 h2;rw[QL,h0]at this;simp at this
    · exact h0
  have Jb : ∀ s,0<xs.getD s 0->∃ i,i<N/\sy ((aL xs).getD i (0,[]))=s:=by
    intro s GY;have Xe:s<xs.length:=by
      rcases Nat.lt_or_ge s xs.length with h | h
      · exact h
      · simp[List.getD_eq_getElem?_getD,h]at GY
    have Gf :(cO (xs.getD s 0),[s])∈aU 0 xs:=by
      have:∀(ys:List Int)(i j:Nat),0<ys.getD j 0->(cO (ys.getD j 0),[i+j])∈aU i ys:=by
        intro ys
        induction ys with
        | nil=>intro i j h;simp at h
        | cons n ns ih =>
          intro i j h;cases j with
          | zero=>simp at h;simp[aU,h]
          | succ j =>
            have:=ih (i+1) j (by simpa using h);unfold aU;have e:i+1+j=i+(j+1):=by omega
            rw[e]at this;split
            · exact List.mem_cons_of_mem _ (by simpa using this)
            · simpa using this
      simpa using this xs 0 s GY
    have Ol:(cO (xs.getD s 0),[s])∈aL xs:=(iy Prod.fst (aU 0 xs)).symm.subset Gf;obtain⟨i,hi,he⟩:=List.mem_iff_getElem.1 Ol;refine⟨i,by omega,?_⟩;rw[I1 i (by omega),he];rfl
  have FI:∀ s,0<xs.getD s 0->1<=(bU xs m).count s/\(bU xs m).count s<=m:=by
    intro s GY;obtain⟨i,hi,rfl⟩:=Jb s GY;have:=hx i hi;have:=Lz i hi;have:=x1 i;omega
  refine⟨?_,FI,?_,?_⟩
  · intro s GY;have h:((bU xs m).count s:Int)=0:=by
      rw[GN];rw[show(0:Int)=aR N (fun _=>0) from(iQ N).symm];apply bP;intro j hj;have GL:j<(aL xs).length:=by omega
      have c1:=nq (List.getElem_mem GL);have c2:=mh (List.getElem_mem GL);simp only[gI];rw[I1 j hj,c1.1];have:sy (aL xs)[j]≠s:=fun e=>GY (by rw[← e];exact c2.1);simp[this]
    omega
  · have h:=kw (fun c=>(2:Int)^(m-(bU xs m).count (sy c))) xs;rw[hN]at h;have e:PS xs (fun s=>(2:Int)^(m-(bU xs m).count s))=PS xs (fun s=>(2:Int)^(m-(bU xs m).count (sy (cO (xs.getD s 0),[s])))):=rfl;rw[e,← h,← QL];apply bP;intro i hi;have:=hx i hi;have:(bU xs m).count (sy ((aL xs).getD i (0,[])))=x i:=by omega
    simp only[gI,this]
  · intro y hy HN;have h1:=kw (fun c=>c.1*((bU xs m).count (sy c):Int)) xs;have Ks:=kw (fun c=>c.1*(y (sy c):Int)) xs;have h3:=kw (fun c=>(2:Int)^(m-y (sy c))) xs;rw[hN]at h1 Ks h3;have e1:PS xs (fun s=>cO (xs.getD s 0)*((bU xs m).count s:Int))=PS xs (fun s=>(cO (xs.getD s 0),[s]).1*((bU xs m).count (sy (cO (xs.getD s 0),[s])):Int)):=rfl;have e2:PS xs (fun s=>cO (xs.getD s 0)*(y s:Int))=PS xs (fun s=>(cO (xs.getD s 0),[s]).1*(y (sy (cO (xs.getD s 0),[s])):Int)):=rfl;have e3:PS xs (fun s=>(2:Int)^(m-y s))=PS xs (fun s=>(2:Int)^(m-y (sy (cO (xs.getD s 0),[s])))):=rfl;rw[e3,← h3]at HN;rw[e1,← h1,e2,← Ks]
    -- the uL that y is
    have Ly:∀ i,i<(aL xs).length->y (sy ((aL xs).getD i (0,[])))<=m-1+1:=by
      intro i hi;rw[em];apply hy;rw[I1 i (by omega)];exact(mh (List.getElem_mem hi)).1
    have hb:=EQ hs hp (m-1) _ (fun i=>y (sy ((aL xs).getD i (0,[])))) Ly hk ?_
    · rw[hN]at hb;have hw:wt ((i7 (aL xs) (m-1)).take (2*N-2))=sA Prod.fst ((i7 (aL xs) (m-1)).take (2*N-2)):=rfl;rw[hw,x8 Prod.fst (fun a b=>rfl)]at hb;have e4:aR N (gI (fun c=>c.1*((bU xs m).count (sy c):Int)) (aL xs))=aR N (fun i=>gI Prod.fst (aL xs) i*(x i:Int)):=by
        apply bP;intro i hi;simp only[gI];rw[hx i hi]
      rw[e4];exact hb
    · rw[em,hN];have e5:aR N (fun i=>(2:Int)^m-2^(m-y (sy ((aL xs).getD i (0,[])))))+aR N (gI (fun c=>(2:Int)^(m-y (sy c))) (aL xs))=aR N (fun _=>(2:Int)^m):=by
        rw[← fK];apply bP;intro i hi;simp only[gI];omega
      have e6:aR N (fun i=>(2:Int)^m-2^(m-x i))+aR N (fun i=>(2:Int)^(m-x i))=aR N (fun _=>(2:Int)^m):=by
        rw[← fK];apply bP;intro i hi;omega
      rw[QL,x7]at e6;omega
end Go.V
/-! The laws of lengths of codes, of lists: all is used, the best, a greatest length more, all alike, so many times as great. Plain Lean; no program. -/
namespace Go.V
theorem DJ(xs:List Int)(t s:Nat)(hs:s<xs.length):(qR xs t).getD s 0=xs.getD s 0+(if t=s then 1 else 0):=by
 unfold qR;simp only[List.getD_eq_getElem?_getD,List.getElem?_set];by_cases e:t=s
 ·subst e;simp[hs]
 ·simp[e]
theorem uT:∀(ss:List Nat)(xs:List Int)(s:Nat),s<xs.length->(eo ss xs).getD s 0=xs.getD s 0+(ss.count s:Int)
 | [],xs,s,_=>by simp[eo]
 | t ::ss,xs,s,h=>by
  have:=uT ss (qR xs t) s (by rw[sh];exact h);show(eo ss (qR xs t)).getD s 0=_;rw[this,DJ xs t s h,List.count_cons];by_cases e:t=s
  ·simp[e];omega
  ·simp[e]
theorem yo{xs:List Int}{most:Int}(h:xs.length<=256)(hn:(aL xs).length<=2^cv most):dv xs most=eo (bU xs (cv most)) (List.replicate xs.length 0):=by
 unfold dv;rw[if_neg (by omega),if_neg (by omega)]
theorem lL{xs:List Int}{most:Int}(h:xs.length<=256)(hn:(aL xs).length<=2^cv most):(dv xs most).length=xs.length:=by
 rw[yo h hn,dB];simp
theorem qG{xs:List Int}{most:Int}(h:xs.length<=256)(hn:(aL xs).length<=2^cv most){s:Nat}(hs:s<xs.length):(dv xs most).getD s 0=((bU xs (cv most)).count s:Int):=by
 rw[yo h hn,uT _ _ _ (by simpa using hs)];simp[List.getD_eq_getElem?_getD,hs]
theorem wU:∀ k,i7 [] k=[]
 | 0=>rfl
 | k+1=>by simp[i7,eL,wU k,dh,cR]
theorem kb(xs:List Int):((aL xs).length:Int)=PS xs (fun _=>1):=by
 rw[← kw (fun _=>1) xs];have:aR (aL xs).length (gI (fun _=>1) (aL xs))=aR (aL xs).length (fun _=>1):=rfl;rw[this,gz];omega
theorem FA(xs:List Int)(c:Int)(f:Nat->Int):PS xs (fun s=>c*f s)=c*PS xs f:=by
 unfold PS;rw[← qA];apply bP;intro s hs;split <;>simp
theorem yS {xs:List Int} {m:Nat} (hm:1<=m) (hn:(aL xs).length<=2^m) :
    (∀ s,s<xs.length->¬ 0<xs.getD s 0->(bU xs m).count s=0)/\(∀ s,s<xs.length->0<xs.getD s 0->1<=(bU xs m).count s/\(bU xs m).count s<=m):=by
  by_cases h2:2<=(aL xs).length
  · obtain⟨h3,h4,_⟩:=qb hm h2 hn;exact⟨fun s _=>h3 s,fun s _=>h4 s⟩
  by_cases h1:(aL xs).length=1
  · obtain⟨c,hc⟩:=List.length_eq_one_iff.1 h1;have Nb:bU xs m=[sy c]:=by
      unfold bU;rw[if_pos h1,hc];have:=(nq (xs:=xs) (c:=c) (by rw[hc];simp)).1;simpa using this
    have Li:=mh (xs:=xs) (c:=c) (by rw[hc];simp);have NW : ∀ s,s<xs.length->0<xs.getD s 0->s=sy c:=by
      intro s hs hp;by_cases e:s=sy c
      · exact e
      · exfalso;have Mk:=kb xs;rw[h1]at Mk;have FE:sy c<xs.length:=(nq (xs:=xs) (c:=c) (by rw[hc];simp)).2;have h3:=gy (fun _=>(1:Int)) hs;have h4:=gy (fun _=>(1:Int)) FE;have h5:aR xs.length (fun j=>if j=s then(1:Int) else 0)+aR xs.length (fun j=>if j=sy c then(1:Int) else 0)<=PS xs (fun _=>1):=by
          rw[← fK];apply jd;intro i hi;by_cases e1:i=s
          · subst e1;simp only[hp,e,if_true,if_false];omega
          · by_cases e2:i=sy c
            · subst e2;have:=Li.1;simp only[e1,if_false,this,if_true];omega
            · simp only[e1,e2,if_false];split <;>omega
        rw[h3,h4]at h5;omega
    rw[Nb];refine⟨fun s hs h0=>?_,fun s hs h0=>?_⟩
    · rw[List.count_singleton];have:¬ sy c=s:=fun e=>h0 (by rw[← e];exact Li.1);simp[this]
    · have:=NW s hs h0;subst this;simp;omega
  · have h0:(aL xs)=[]:=List.eq_nil_of_length_eq_zero (by omega);have Nb:bU xs m=[]:=by unfold bU;rw[h0];simp[wU]
    have Mk:=kb xs;rw[h0]at Mk;rw[Nb];refine⟨fun s _ _=>by simp,fun s hs hp=>?_⟩;exfalso;have h3:=gy (fun _=>(1:Int)) hs;have h5:aR xs.length (fun j=>if j=s then(1:Int) else 0)<=PS xs (fun _=>1):=by
      apply jd;intro i hi;by_cases e1:i=s
      · subst e1;simp only[hp,if_true];omega
      · simp only[e1,if_false];split <;>omega
    rw[h3]at h5;simp at Mk;omega
theorem Bm{xs:List Int}{most:Int}(h:xs.length<=256)(hn:(aL xs).length<=2^cv most)(hm:1<=cv most){s:Nat}(hs:s<xs.length):
    0<=(dv xs most).getD s 0/\(dv xs most).getD s 0<=cv most/\(0<(dv xs most).getD s 0↔0<xs.getD s 0):=by
  rw[qG h hn hs];obtain⟨h1,h2⟩:=yS hm hn;by_cases e:0<xs.getD s 0
  · have:=h2 s hs e;exact⟨by omega,by omega,by constructor <;>intro _ <;>omega⟩
  · have:=h1 s hs e;exact⟨by omega,by omega,by constructor <;>intro _ <;>omega⟩
def ey(x:Int):Int:=if 1<=x/\x<=15 then 2^(15-x).toNat else 0
def d9(xs:List Int):Int:=(xs.map ey).sum
theorem wx(f:Int->Int):∀ xs:List Int,(xs.map f).sum=aR xs.length (fun s=>f (xs.getD s 0))
 | xs=>by
  have:∀ k,k<=xs.length->((xs.take k).map f).sum=aR k (fun s=>f (xs.getD s 0)):=by
   intro k
   induction k with
   | zero=>intro _;simp[aR]
   | succ k ih =>
    intro h;have h':k<xs.length:=by omega
    rw[List.take_succ_eq_append_getElem h',List.map_append,List.sum_append,ih (by omega)];simp[aR,List.getD_eq_getElem?_getD,h']
  have:=this xs.length (Nat.le_refl _)
  rwa [List.take_length]at this
theorem zU{x:Int}(h:¬ 0<x):cO x=0:=by unfold cO mx mn;split <;>split <;>omega
theorem Df{xs:List Int}{most:Int}(h:xs.length<=256)(h2:2<=(aL xs).length)(hn:(aL xs).length<=2^cv most)(hm:1<=cv most)(Oq:cv most<=15):d9 (dv xs most)=32768:=by
 obtain⟨f1,f2,f3,_⟩:=qb hm h2 hn;rw[d9,wx,lL h hn];have e:aR xs.length (fun s=>ey ((dv xs most).getD s 0))=PS xs (fun s=>2^(15-cv most)*2^(cv most-(bU xs (cv most)).count s)):=by
  apply bP;intro s hs;rw[qG h hn hs];by_cases e:0<xs.getD s 0
  ·have:=f2 s e;simp only[e,if_true,ey];rw[if_pos (by omega),← Int.pow_add];congr 1;omega
  ·simp only[e,if_false,f1 s e,ey];rw[if_neg (by omega)]
 rw[e,FA,f3,← Int.pow_add,show 15-cv most+cv most=15 by omega];rfl
end Go.V
/-! Lengths of codes: all counts one; counts so many times as great. Plain Lean; no program. -/
namespace Go.V
end Go.V
/-! Lengths of codes: two that change places; all of one length. Plain Lean; no program. -/
namespace Go.V
end Go.V
/-! Codes of symbols out of lengths: lists alone. Plain Lean; no program. -/
namespace Go.V
theorem xN{α:Type}{P:List α->Prop}(h0:P [])(h1:∀ l x,P l->P (l++[x]))(l:List α):P l:=by
 have h:∀ r:List α,P r.reverse:=by
  intro r
  induction r with
  | nil=>exact h0
  | cons x r ih=>rw[List.reverse_cons];exact h1 _ _ ih
 have:=h l.reverse
 rwa [List.reverse_reverse]at this
def ln(ls:List Int)(s:Nat):Int:=ls.getD s 0
def jp(ls:List Int):List Nat:=(List.range ls.length).filter (fun s=>decide (0<ln ls s))
def bY(ls:List Int):Bool:=decide (ls.length<=256) && (ls.all (fun x=>decide (0<=x/\x<=15)) && ((decide ((jp ls).length=1) && ls.all (fun x=>decide (x<=1))) || decide (d9 ls=32768)))
def eD(ls:List Int):List Nat:=dk (ln ls) (jp ls)
def AY(ls:List Int)(st:Int×Int×List Int)(s:Nat):Int×Int×List Int :=
 let nx:=st.1*2^(ln ls s-st.2.1).toNat
 (nx+1,ln ls s,st.2.2.set s nx)
def cw(ls:List Int)(l:List Nat):Int×Int×List Int:=l.foldl (AY ls) (0,0,List.replicate ls.length 0)
def eF(ls:List Int):List Int:=if bY ls then(cw ls (eD ls)).2.2 else []
def wS(ls:List Int)(l:List Nat):Int:=(l.map fun s=>(2:Int)^(15-ln ls s).toNat).sum
theorem CN(ls:List Int):wS ls []=0:=rfl
theorem qu(ls:List Int)(a b:List Nat):wS ls (a++b)=wS ls a+wS ls b:=by simp[wS]
theorem ig(ls:List Int)(a:Nat)(b:List Nat):wS ls (a ::b)=2^(15-ln ls a).toNat+wS ls b:=by simp[wS]
theorem qt(ls:List Int)(l:List Nat):0<=wS ls l:=by
 induction l with
 | nil=>simp[wS]
 | cons a l ih=>rw[ig];have:=ew (15-ln ls a).toNat;omega
theorem AU(ls:List Int){a b:List Nat}(h:a.Perm b):wS ls a=wS ls b:=by
 induction h with
 | nil=>rfl
 | cons x _ ih=>rw[ig,ig,ih]
 | swap x y l=>rw[ig,ig,ig,ig];omega
 | trans _ _ h1 h2=>exact h1.trans h2
theorem tT{ls:List Int}{s:Nat}:s∈jp ls↔s<ls.length/\0<ln ls s:=by simp[jp]
theorem zK(ls:List Int):(jp ls).Nodup:=List.nodup_range.sublist List.filter_sublist
theorem jB(ls:List Int):(eD ls).Perm (jp ls):=iy _ _
theorem im{ls:List Int}{s:Nat}:s∈eD ls↔s<ls.length/\0<ln ls s:=by rw[(jB ls).mem_iff,tT]
theorem oP(ls:List Int):(eD ls).Nodup:=(jB ls).nodup_iff.2 (zK ls)
theorem j6(ls:List Int):aJ (ln ls) (eD ls):=iv _
theorem Bk{ls:List Int}{s:Nat}(h:ls.length<=s):ln ls s=0:=by simp[ln,List.getD_eq_getElem?_getD,List.getElem?_eq_none h]
theorem kh{ls:List Int}{s:Nat}(h:s<ls.length):ln ls s=ls[s]:=by simp[ln,List.getD_eq_getElem?_getD,h]
structure Ff(ls:List Int)(l:List Nat)(st:Int×Int×List Int):Prop where
 next:st.1*2^(15-st.2.1).toNat=wS ls l
 low:0<=st.1
 last:0<=st.2.1/\st.2.1<=15
 ge:∀ s∈l,ln ls s<=st.2.1
 len:st.2.2.length=ls.length
 out:∀ A s B,l=A++s ::B->st.2.2.getD s 0*2^(15-ln ls s).toNat=wS ls A
 none:∀ s,s ∉ l->st.2.2.getD s 0=0
 end_:l=[]∨∃ A s,l=A++[s]/\st.2.1=ln ls s
theorem qB{n l x:Int}(hl:0<=l/\l<=15)(hx:l<=x/\x<=15):n*2^(x-l).toNat*2^(15-x).toNat=n*2^(15-l).toNat:=by
 rw[Int.mul_assoc,← Int.pow_add];congr 2;omega
theorem ux(ls:List Int)(l:List Nat)(s:Nat):cw ls (l++[s])=AY ls (cw ls l) s:=by simp[cw]
theorem Fd(ls:List Int):∀ l:List Nat,aJ (ln ls) l->l.Nodup->(∀ s∈l,s<ls.length/\0<ln ls s/\ln ls s<=15)->Ff ls l (cw ls l):=by
 refine xN ?_ ?_
 ·intro _ _ _;refine⟨by simp[cw,wS],by simp[cw],by simp[cw],by simp,by simp[cw],?_,?_,.inl rfl⟩
  ·intro A s B h;simp at h
  ·intro s _;simp only[cw,List.foldl_nil,List.getD_eq_getElem?_getD,List.getElem?_replicate];split <;>rfl
 ·intro l s ih hs hn hb;have hc:=ih hs.left (List.nodup_append.1 hn).1 (fun t ht=>hb t (List.mem_append_left _ ht));obtain⟨b1,b2,b3⟩:=hb s (by simp);have FW:(cw ls l).2.1<=ln ls s:=by
   rcases hc.end_ with rfl | ⟨A,t,rfl,e⟩
   ·show(0:Int)<=_;omega
   ·rw[e];exact hs.across t (by simp) s (by simp)
  have hx:=qB (n:=(cw ls l).1) hc.last ⟨FW,b3⟩;have Qt:0<=(cw ls l).1*2^(ln ls s-(cw ls l).2.1).toNat:=Int.mul_nonneg hc.low (Int.le_of_lt (ew _));have Pw:s ∉ l:=by
   intro h;have:=(List.nodup_append.1 hn).2.2 s h s (by simp);exact this rfl
  rw[ux];refine⟨?_,?_,?_,?_,?_,?_,?_,.inr ⟨l,s,rfl,rfl⟩⟩
  ·show(_+1)*_=_;rw[Int.add_mul,qu,← hc.next,← hx];simp[AY,wS]
  ·show 0<=_+1;omega
  ·show 0<=ln ls s/\ln ls s<=15;omega
  ·intro t ht;show ln ls t<=ln ls s;rcases List.mem_append.1 ht with h | h
   ·exact hs.across t h s (by simp)
   ·have:t=s:=by simpa using h
    rw[this];omega
  ·simp[AY,hc.len]
  ·intro A t B h;show((cw ls l).2.2.set s _).getD t 0*_=_;rcases List.eq_nil_or_concat B with rfl | ⟨B',u,rfl⟩
   ·obtain⟨rfl,h2⟩:=List.append_inj' h rfl;have:s=t:=by simpa using h2
    subst this;rw[List.getD_eq_getElem?_getD,List.getElem?_set_self (by rw[hc.len];exact b1)];simp only[Option.getD_some];rw[hx,hc.next]
   ·rw[List.concat_eq_append,← List.cons_append,← List.append_assoc]at h;obtain⟨h1,h2⟩:=List.append_inj' h rfl;have FG:s≠t:=by
     rintro rfl;exact Pw (by rw[h1];simp)
    rw[List.getD_eq_getElem?_getD,List.getElem?_set_ne FG,← List.getD_eq_getElem?_getD];exact hc.out A t B' h1
  ·intro t ht;simp only[List.mem_append,List.mem_singleton,not_or]at ht;show((cw ls l).2.2.set s _).getD t 0=0;rw[List.getD_eq_getElem?_getD,List.getElem?_set_ne (fun e=>ht.2 e.symm),← List.getD_eq_getElem?_getD];exact hc.none t ht.1
theorem dZ{ls:List Int}(h:bY ls=true):ls.length<=256/\(∀ s,0<=ln ls s/\ln ls s<=15)/\(((jp ls).length=1/\∀ s,ln ls s<=1)∨d9 ls=32768):=by
 simp only[bY,Bool.and_eq_true,Bool.or_eq_true,decide_eq_true_eq,List.all_eq_true]at h;obtain⟨h1,h2,h3⟩:=h;have get:∀ {Q:Int->Prop},Q 0->(∀ x∈ls,Q x)->∀ s,Q (ln ls s):=by
  intro Q h0 hQ s;by_cases hs:s<ls.length
  ·rw[kh hs];exact hQ _ (List.getElem_mem hs)
  ·rw[Bk (by omega)];exact h0
 refine⟨h1,get (Q:=fun x=>0<=x/\x<=15) (by omega) h2,h3.imp (fun⟨a,b⟩=>⟨a,get (Q:=fun x=>x<=1) (by omega) b⟩) id⟩
theorem BK(ls:List Int)(l:List Nat):wS ls (l.filter (fun s=>decide (0<ln ls s)))=(l.map fun s=>if 0<ln ls s then(2:Int)^(15-ln ls s).toNat else 0).sum:=by
 induction l with
 | nil=>rfl
 | cons a l ih =>
  by_cases h:0<ln ls a
  ·simp[List.filter_cons,h,ig,ih]
  ·simp[List.filter_cons,h,ih]
theorem mF(f:Int->Int)(ls:List Int):((List.range ls.length).map fun s=>f (ln ls s))=ls.map f:=by
 apply List.ext_getElem
 ·simp
 ·intro i h1 h2;have:i<ls.length:=by simpa using h2
  simp[kh this]
theorem zr{ls:List Int}(hb:∀ s,0<=ln ls s/\ln ls s<=15):wS ls (eD ls)=d9 ls:=by
 rw[AU ls (jB ls),jp,BK,d9,← mF ey ls];congr 1;apply List.map_congr_left;intro s _;have:=hb s;unfold ey;by_cases h:0<ln ls s
 ·rw[if_pos h,if_pos ⟨by omega,this.2⟩]
 ·rw[if_neg h,if_neg (by omega)]
theorem eO{ls:List Int}(h:bY ls=true):Ff ls (eD ls) (cw ls (eD ls))/\eF ls=(cw ls (eD ls)).2.2:=by
 obtain⟨h1,h2,h3⟩:=dZ h;exact⟨Fd ls _ (j6 ls) (oP ls) (fun s hs=>⟨(im.1 hs).1,(im.1 hs).2,(h2 s).2⟩),by simp[eF,h]⟩
theorem eg{ls:List Int}(h:bY ls=true):(eF ls).length=ls.length:=by
 rw[(eO h).2];exact(eO h).1.len
def cd(ls:List Int)(s:Nat):Int:=(eF ls).getD s 0
theorem EP{ls:List Int}(h:bY ls=true){s:Nat}(hs:¬ 0<ln ls s):cd ls s=0:=by
 rw[cd,(eO h).2];exact(eO h).1.none s (fun e=>hs (im.1 e).2)
theorem y5{ls:List Int}(h:bY ls=true){A B:List Nat}{s:Nat}(he:eD ls=A++s ::B):cd ls s*2^(15-ln ls s).toNat=wS ls A:=by
 rw[cd,(eO h).2];exact(eO h).1.out A s B he
theorem kY{ls:List Int}(h:bY ls=true)(s:Nat):0<=cd ls s:=by
 by_cases hs:s<ls.length/\0<ln ls s
 ·obtain⟨A,B,he⟩:=List.append_of_mem (im.2 hs);have h1:=y5 h he;have h2:=qt ls A;have h3:=ew (15-ln ls s).toNat;rw[← h1]at h2;exact Int.le_of_mul_le_mul_right (by simpa using h2) h3
 ·rw[EP h]
  ·omega
  ·intro h0;apply hs;refine⟨?_,h0⟩;by_cases hl:s<ls.length
   ·exact hl
   ·rw[Bk (by omega)]at h0;omega
theorem yr{ls:List Int}(h:bY ls=true):d9 ls<=32768:=by
 obtain⟨h1,h2,h3 | h3⟩:=dZ h
 ·rw[← zr h2,AU ls (jB ls)];obtain⟨a,ha⟩:=List.length_eq_one_iff.1 h3.1;rw[ha,ig,CN];have hp:a∈jp ls:=by rw[ha];simp
  have:=(tT.1 hp).2;have:=h3.2 a;have e:ln ls a=1:=by omega
  rw[e];decide
 ·omega
theorem y0{ls:List Int}(h:bY ls=true){s:Nat}(hs:s<ls.length/\0<ln ls s):cd ls s+1<=2^(ln ls s).toNat:=by
 obtain⟨h1,h2,_⟩:=dZ h;obtain⟨A,B,he⟩:=List.append_of_mem (im.2 hs);have e1:=y5 h he;have e2:=yr h;rw[← zr h2,he,qu,ig]at e2;have e3:=qt ls B;have hp:=ew (15-ln ls s).toNat;have hx:=h2 s;have e4:(cd ls s+1)*2^(15-ln ls s).toNat<=2^(ln ls s).toNat*2^(15-ln ls s).toNat:=by
  rw[Int.add_mul,e1,← Int.pow_add,show(ln ls s).toNat+(15-ln ls s).toNat=15 by omega];have:(2:Int)^15=32768:=by decide
  omega
 exact Int.le_of_mul_le_mul_right e4 hp
theorem DE{ls:List Int}(h:bY ls=true){A B:List Nat}{s t:Nat}(he:eD ls=A++s ::B)(ht:t∈B):(cd ls s+1)*2^(ln ls t-ln ls s).toNat<=cd ls t:=by
 obtain⟨h1,h2,_⟩:=dZ h;obtain⟨C,D,hB⟩:=List.append_of_mem ht;have e1:=y5 h he;have e2:=y5 (A:=A++s ::C) (B:=D) (s:=t) h (by rw[he,hB];simp);have FW:ln ls s<=ln ls t:=by
  have:=j6 ls;rw[he]at this;exact(List.pairwise_cons.1 (List.pairwise_append.1 this).2.1).1 t ht
 rw[qu,ig]at e2;have e3:=qt ls C;have hs:=h2 s;have ht:=h2 t;have e4:(cd ls s+1)*2^(ln ls t-ln ls s).toNat*2^(15-ln ls t).toNat<=cd ls t*2^(15-ln ls t).toNat:=by
  rw[qB hs ⟨FW,ht.2⟩,Int.add_mul,e1,e2];omega
 exact Int.le_of_mul_le_mul_right e4 (ew _)
theorem Fj{l:List Nat}(hn:l.Nodup){s t:Nat}(hs:s∈l)(ht:t∈l)(FG:s≠t):(∃ A B,l=A++s ::B/\t∈B)∨(∃ A B,l=A++t ::B/\s∈B):=by
 obtain⟨A,B,rfl⟩:=List.append_of_mem hs;rcases List.mem_append.1 ht with h | h
 ·obtain⟨C,D,rfl⟩:=List.append_of_mem h;exact .inr ⟨C,D++s ::B,by simp,by simp⟩
 ·rcases List.mem_cons.1 h with e | e
  ·exact absurd e.symm FG
  ·exact .inl ⟨A,B,rfl,e⟩
theorem zP{ls:List Int}{s t:Nat}(hs:s<ls.length/\0<ln ls s)(ht:t<ls.length/\0<ln ls t)(h:ln ls s<ln ls t∨(ln ls s=ln ls t/\s<t)):∃ A B,eD ls=A++s ::B/\t∈B:=by
 have FG:s≠t:=by rintro rfl;omega
 rcases Fj (oP ls) (im.2 hs) (im.2 ht) FG with h1 | ⟨A,B,he,hB⟩
 ·exact h1
 ·exfalso;have Hg:=j6 ls;rw[he]at Hg;have FW:ln ls t<=ln ls s:=(List.pairwise_cons.1 (List.pairwise_append.1 Hg).2.1).1 s hB;have GZ:ln ls s=ln ls t:=by omega
  have hk:=iw (key:=ln ls) (jp ls) (ln ls s);have FE:((jp ls).filter (fun x=>ln ls x ==ln ls s)).Pairwise (·<·):=(List.pairwise_lt_range.sublist List.filter_sublist).sublist List.filter_sublist;rw[← hk]at FE;have e:(dk (ln ls) (jp ls))=A++t ::B:=he;rw[e,List.filter_append,List.filter_cons]at FE;rw[if_pos (by simp[GZ])]at FE;have:=(List.pairwise_cons.1 (List.pairwise_append.1 FE).2.1).1 s (List.mem_filter.2 ⟨hB,by simp⟩);omega
theorem xw{ls:List Int}(h:bY ls=true){s t:Nat}(hs:s<ls.length/\0<ln ls s)(ht:t<ls.length/\0<ln ls t)(FE:ln ls s<ln ls t∨(ln ls s=ln ls t/\s<t)):cd ls s+1<=cd ls t / 2^(ln ls t-ln ls s).toNat:=by
 obtain⟨A,B,he,hB⟩:=zP hs ht FE;exact(Int.le_ediv_iff_mul_le (ew _)).2 (DE h he hB)
theorem DF{ls:List Int}(h:bY ls=true){s t:Nat}(hs:s<ls.length/\0<ln ls s)(ht:t<ls.length/\0<ln ls t)(hl:ln ls s=ln ls t)(hc:cd ls s=cd ls t):s=t:=by
 rcases Nat.lt_trichotomy s t with e | e | e
 ·have:=xw h hs ht (.inr ⟨hl,e⟩);rw[hl]at this;simp at this;omega
 ·exact e
 ·have:=xw h ht hs (.inr ⟨hl.symm,e⟩);rw[hl]at this;simp at this;omega
end Go.V
/-! Bits in bytes: lists alone. Plain Lean; no program. -/
namespace Go.V
def eS(b:Bool):Int:=if b then 1 else 0
theorem ff(b:Bool):0<=eS b/\eS b<=1:=by cases b <;>decide
def eV(v:Int)(i:Nat):Bool:=decide (v / 2^i % 2=1)
def cF(v:Int):Nat->List Bool
 | 0=>[]
 | n+1=>eV v n ::cF v n
theorem dS(v:Int):∀ n,(cF v n).length=n
 | 0=>rfl
 | n+1=>by simp[cF,dS v n]
def cM(bs:List Bool)(j:Nat):Int :=
 eS (bs.getD (8*j) false)+2*eS (bs.getD (8*j+1) false)+4*eS (bs.getD (8*j+2) false)+8*eS (bs.getD (8*j+3) false)+16*eS (bs.getD (8*j+4) false)+32*eS (bs.getD (8*j+5) false)+64*eS (bs.getD (8*j+6) false)+128*eS (bs.getD (8*j+7) false)
def dM(bs:List Bool):List Int:=(List.range ((bs.length+7) / 8)).map (cM bs)
def dD(l:List Int)(i:Nat):Bool:=eV (l.getD (i / 8) 0) (i % 8)
def aM(l:List Int):List Bool:=(List.range (8*l.length)).map (dD l)
theorem bM(bs:List Bool):(dM bs).length=(bs.length+7) / 8:=by simp[dM]
theorem cQ(l:List Int):(aM l).length=8*l.length:=by simp[aM]
theorem jw(bs:List Bool)(j:Nat):0<=cM bs j/\cM bs j<=255:=by
 have:=fun i=>ff (bs.getD i false);have h0:=this (8*j);have h1:=this (8*j+1);have h2:=this (8*j+2);have h3:=this (8*j+3);have h4:=this (8*j+4);have h5:=this (8*j+5);have h6:=this (8*j+6);have h7:=this (8*j+7);unfold cM;omega
theorem ru(bs:List Bool):∀ x∈dM bs,0<=x/\x<=255:=by
 intro x hx;obtain⟨j,_,rfl⟩:=List.mem_map.1 hx;exact jw bs j
theorem v8(bs:List Bool)(b:Bool)(i:Nat):(bs++[b]).getD i false=if i=bs.length then b else bs.getD i false:=by
 simp only[List.getD_eq_getElem?_getD];split
 ·subst_vars;simp
 ·rename_i h;by_cases h2:i<bs.length
  ·rw[List.getElem?_append_left h2]
  ·rw[List.getElem?_eq_none (by simp;omega),List.getElem?_eq_none (by omega)]
theorem dT(bs:List Bool){i:Nat}(h:bs.length<=i):bs.getD i false=false:=by
 simp[List.getD_eq_getElem?_getD,List.getElem?_eq_none h]
theorem nr(bs:List Bool)(b:Bool)(j:Nat):cM (bs++[b]) j=if j=bs.length / 8 then cM bs j+eS b*2^(bs.length % 8) else cM bs j:=by
 split
 ·rename_i h;have hb:∀ k,bs.length % 8<=k->bs.getD (8*j+k) false=false:=fun k hk=>dT bs (by omega);have hs:∀ k,(bs++[b]).getD (8*j+k) false=if k=bs.length % 8 then b else bs.getD (8*j+k) false:=by
   intro k;rw[v8];congr 1;apply propext;constructor <;>intro h <;>omega
  have h0:=hs 0;have h1:=hs 1;have h2:=hs 2;have h3:=hs 3;have h4:=hs 4;have h5:=hs 5;have h6:=hs 6;have h7:=hs 7;have hm:bs.length % 8<8:=Nat.mod_lt _ (by decide);generalize bs.length % 8=m at *;unfold cM;rw[Nat.add_zero]at h0;rw[h0,h1,h2,h3,h4,h5,h6,h7];have z:=hb m (Nat.le_refl _);have zero:eS false=0:=rfl
  match m,hm,z with
  | 0,_,z=>rw[Nat.add_zero]at z;rw[z];simp[zero];omega
  | 1,_,z=>rw[z];simp[zero];omega
  | 2,_,z=>rw[z];simp[zero];omega
  | 3,_,z=>rw[z];simp[zero];omega
  | 4,_,z=>rw[z];simp[zero];omega
  | 5,_,z=>rw[z];simp[zero];omega
  | 6,_,z=>rw[z];simp[zero];omega
  | 7,_,z=>rw[z];simp[zero];omega
 ·rename_i h;have hs:∀ k,k<8->(bs++[b]).getD (8*j+k) false=bs.getD (8*j+k) false:=by
   intro k hk;rw[v8,if_neg (by omega)]
  unfold cM;have h0:=hs 0 (by decide);rw[Nat.add_zero]at h0;rw[h0,hs 1 (by decide),hs 2 (by decide),hs 3 (by decide),hs 4 (by decide),hs 5 (by decide),hs 6 (by decide),hs 7 (by decide)]
theorem nt{bs:List Bool}{j:Nat}(h:bs.length<=8*j):cM bs j=0:=by
 unfold cM;rw[dT bs (by omega),dT bs (by omega),dT bs (by omega),dT bs (by omega),dT bs (by omega),dT bs (by omega),dT bs (by omega),dT bs (by omega)];rfl
theorem kI{bs:List Bool}{j:Nat}(h:j<(bs.length+7) / 8):(dM bs)[j]?=some (cM bs j):=by
 simp[dM,h]
theorem zO(bs:List Bool)(j:Nat):(dM bs).getD j 0=cM bs j:=by
 rw[List.getD_eq_getElem?_getD];by_cases h:j<(bs.length+7) / 8
 ·rw[kI h];rfl
 ·rw[List.getElem?_eq_none (by rw[bM];omega),nt (by omega)];rfl
theorem zN(bs:List Bool)(b:Bool):dM (bs++[b])=(if bs.length % 8=0 then dM bs++[0] else dM bs).set (bs.length / 8) (cM bs (bs.length / 8)+eS b*2^(bs.length % 8)):=by
 apply List.ext_getElem?;intro j;by_cases hj:j<(bs.length+1+7) / 8
 ·rw[kI (by simpa using hj),nr,List.getElem?_set];have hl:(if bs.length % 8=0 then dM bs++[0] else dM bs).length=(bs.length+1+7) / 8:=by
   split <;>simp[bM] <;>omega
  rw[hl];by_cases he:bs.length / 8=j
  ·rw[if_pos he.symm,if_pos he,if_pos (by omega),he]
  ·rw[if_neg he,if_neg (by omega)];have FE:j<(bs.length+7) / 8:=by omega
   split
   ·rw[List.getElem?_append_left (by rw[bM];exact FE),kI FE]
   ·rw[kI FE]
 ·rw[List.getElem?_eq_none (by rw[bM];simp;omega),List.getElem?_eq_none];rw[List.length_set];split <;>simp[bM] <;>omega
theorem CC(v0 v1 v2 v3 v4 v5 v6 v7:Bool)(k:Nat)(hk:k<8):eV (eS v0+2*eS v1+4*eS v2+8*eS v3+16*eS v4+32*eS v5+64*eS v6+128*eS v7) k=[v0,v1,v2,v3,v4,v5,v6,v7].getD k false:=by
 match k,hk with
 | 0,_=>cases v0 <;>cases v1 <;>cases v2 <;>cases v3 <;>cases v4 <;>cases v5 <;>cases v6 <;>cases v7 <;>decide
 | 1,_=>cases v0 <;>cases v1 <;>cases v2 <;>cases v3 <;>cases v4 <;>cases v5 <;>cases v6 <;>cases v7 <;>decide
 | 2,_=>cases v0 <;>cases v1 <;>cases v2 <;>cases v3 <;>cases v4 <;>cases v5 <;>cases v6 <;>cases v7 <;>decide
 | 3,_=>cases v0 <;>cases v1 <;>cases v2 <;>cases v3 <;>cases v4 <;>cases v5 <;>cases v6 <;>cases v7 <;>decide
 | 4,_=>cases v0 <;>cases v1 <;>cases v2 <;>cases v3 <;>cases v4 <;>cases v5 <;>cases v6 <;>cases v7 <;>decide
 | 5,_=>cases v0 <;>cases v1 <;>cases v2 <;>cases v3 <;>cases v4 <;>cases v5 <;>cases v6 <;>cases v7 <;>decide
 | 6,_=>cases v0 <;>cases v1 <;>cases v2 <;>cases v3 <;>cases v4 <;>cases v5 <;>cases v6 <;>cases v7 <;>decide
 | 7,_=>cases v0 <;>cases v1 <;>cases v2 <;>cases v3 <;>cases v4 <;>cases v5 <;>cases v6 <;>cases v7 <;>decide
theorem AJ(bs:List Bool)(i:Nat):dD (dM bs) i=bs.getD i false:=by
 have hm:i % 8<8:=Nat.mod_lt _ (by decide);rw[dD,zO,cM,CC _ _ _ _ _ _ _ _ _ hm];have hi:i=8*(i / 8)+i % 8:=by omega
 generalize i % 8=k at *;generalize i / 8=j at *;subst hi
 match k,hm with
 | 0,_=>rfl
 | 1,_=>rfl
 | 2,_=>rfl
 | 3,_=>rfl
 | 4,_=>rfl
 | 5,_=>rfl
 | 6,_=>rfl
 | 7,_=>rfl
theorem fj(bs:List Bool):aM (dM bs)=bs++List.replicate (8*((bs.length+7) / 8)-bs.length) false:=by
  apply List.ext_getElem?;intro i;by_cases hi:i<8*((bs.length+7) / 8)
  · have h1:(aM (dM bs))[i]?=some (bs.getD i false):=by
      simp[aM,bM,hi,AJ]
    rw[h1];by_cases h2:i<bs.length
    · rw[List.getElem?_append_left h2,List.getD_eq_getElem?_getD,List.getElem?_eq_getElem h2];rfl
    · rw[List.getElem?_append_right (by omega),dT bs (by omega),List.getElem?_replicate,if_pos (by omega)]
  · rw[List.getElem?_eq_none (by rw[cQ,bM];omega),List.getElem?_eq_none (by simp;omega)]
end Go.V
/-! Codes of symbols: how both texts come to them. Plain Lean; no program. -/
namespace Go.V
def cH(ls:List Int):Nat:=(ls.filter fun x=>decide (0<x)).length
theorem C1(ls:List Int):(List.range ls.length).map (ln ls)=ls:=by
 have:=mF id ls;simpa using this
theorem C2(ls:List Int):(jp ls).length=cH ls:=by
 unfold cH
 conv=>rhs;rw[← C1 ls]
 rw[List.filter_map,List.length_map];rfl
theorem lB{ls:List Int}{x:Int}(hx:x∈ls)(h:x<0∨15<x):bY ls=false:=by
 unfold bY;have:ls.all (fun x=>decide (0<=x/\x<=15))=false:=by
  rw[List.all_eq_false];exact⟨x,hx,by simp;omega⟩
 rw[this];simp
theorem tI{ls:List Int}(h:∀ x∈ls,0<=x/\x<=15):bY ls=(decide (ls.length<=256) && ((decide (cH ls=1) && ls.all (fun x=>decide (x<=1))) || decide (d9 ls=32768))):=by
 unfold bY;have:ls.all (fun x=>decide (0<=x/\x<=15))=true:=by
  rw[List.all_eq_true];intro x hx;simpa using h x hx
 rw[this,C2];simp
theorem Ew{ls:List Int}(hn:cH ls=1):ls.contains 1=ls.all (fun x=>decide (x<=1)):=by
 unfold cH at hn;obtain⟨y,hy⟩:=List.length_eq_one_iff.1 hn;have hm:∀ x,x∈ls->0<x->x=y:=by
  intro x hx h0;have:x∈ls.filter (fun x=>decide (0<x)):=List.mem_filter.2 ⟨hx,by simpa using h0⟩;rw[hy]at this;simpa using this
 have Nt:y∈ls/\0<y:=by
  have:y∈ls.filter (fun x=>decide (0<x)):=by rw[hy];simp
  simpa using List.mem_filter.1 this
 rw[Bool.eq_iff_iff,List.contains_iff_mem,List.all_eq_true];constructor
 ·intro h x hx;have h1:=hm 1 h (by omega);by_cases h0:0<x
  ·have:=hm x hx h0;simp;omega
  ·simp;omega
 ·intro h;have:=h y Nt.1;have e:y=1:=by simp at this;omega
  rw[← e];exact Nt.1
theorem vO(ls:List Int)(x:Int):cH (ls++[x])=cH ls+(if 0<x then 1 else 0):=by
 unfold cH;rw[List.filter_append,List.length_append];congr 1;split <;>simp_all
theorem jt(ls:List Int):cH ls<=ls.length:=List.length_filter_le _ _
theorem wg{ls:List Int}(h:bY ls=true){A B:List Nat}{s:Nat}(he:eD ls=A++s ::B):
    0<=(cw ls A).2.1/\(cw ls A).2.1<=ln ls s/\((cw ls A).2.1=0->(cw ls A).1=0)/\(cw ls A).1*2^(ln ls s-(cw ls A).2.1).toNat=cd ls s/\0<=cd ls s/\cd ls s<=32767/\s<ls.length/\0<ln ls s/\ln ls s<=15 ∧
    (cw ls A).2.2.length=ls.length/\cw ls (A++[s])=(cd ls s+1,ln ls s,(cw ls A).2.2.set s (cd ls s)):=by
  obtain⟨h1,h2,h3⟩:=dZ h;have hs:=j6 ls;have hn:=oP ls;rw[he]at hs hn;have hb:∀ t∈A++s ::B,t<ls.length/\0<ln ls t/\ln ls t<=15:=by
    intro t ht;rw[← he]at ht;exact⟨(im.1 ht).1,(im.1 ht).2,(h2 t).2⟩
  have hA:=Fd ls A hs.left (List.nodup_append.1 hn).1 (fun t ht=>hb t (List.mem_append_left _ ht));obtain⟨b1,b2,b3⟩:=hb s (by simp);have FW:(cw ls A).2.1<=ln ls s:=by
    rcases hA.end_ with rfl | ⟨A',t,rfl,e⟩
    · show(0:Int)<=_;omega
    · rw[e];exact hs.across t (by simp) s (by simp)
  have hx:=qB (n:=(cw ls A).1) hA.last ⟨FW,b3⟩;have J3:=y5 h he;have hv:(cw ls A).1*2^(ln ls s-(cw ls A).2.1).toNat=cd ls s:=by
    have:(cw ls A).1*2^(ln ls s-(cw ls A).2.1).toNat*2^(15-ln ls s).toNat=cd ls s*2^(15-ln ls s).toNat:=by
      rw[hx,hA.next,J3]
    exact Int.eq_of_mul_eq_mul_right (Int.ne_of_gt (ew _)) this
  have FE:=y0 h ⟨b1,b2⟩;have hp:(2:Int)^(ln ls s).toNat<=2^15:=by
    have e1:((2^(ln ls s).toNat:Nat):Int)=2^(ln ls s).toNat:=by simp
    have:=Nat.pow_le_pow_right (n:=2) (by omega) (show(ln ls s).toNat<=15 by omega);omega
  refine⟨hA.last.1,FW,?_,hv,kY h s,by omega,b1,b2,b3,hA.len,?_⟩
  · intro e;rcases hA.end_ with rfl | ⟨A',t,rfl,e'⟩
    · rfl
    · have:=hb t (by simp);omega
  · rw[ux];show(_+1,ln ls s,_)=_;rw[hv]
def o0(ls:List Int)(k m:Nat):List Nat:=(List.range k).filter fun s=>decide (ln ls s=(m:Int))
def f9(ls:List Int)(m:Nat):List Nat:=(List.range m).flatMap fun i=>o0 ls ls.length (i+1)
theorem kN(ls:List Int)(m:Nat):f9 ls (m+1)=f9 ls m++o0 ls ls.length (m+1):=by simp[f9,List.range_succ,List.flatMap_append]
theorem uf(ls:List Int)(k m:Nat):o0 ls (k+1) m=o0 ls k m++(if ln ls k=(m:Int) then [k] else []):=by
 simp only[o0,List.range_succ,List.filter_append];congr 1;split <;>simp_all
theorem pR{ls:List Int}{k m s:Nat}:s∈o0 ls k m↔s<k/\ln ls s=(m:Int):=by simp[o0]
theorem Dc{ls:List Int}{m s:Nat}:s∈f9 ls m↔s<ls.length/\0<ln ls s/\ln ls s<=m:=by
 simp only[f9,List.mem_flatMap,List.mem_range,pR];constructor
 ·rintro⟨i,h1,h2,h3⟩;omega
 ·rintro⟨h1,h2,h3⟩;exact⟨(ln ls s).toNat-1,by omega,h1,by omega⟩
theorem rx(ls:List Int):∀ m,aJ (ln ls) (f9 ls m)
 | 0=>by simp[f9,aJ]
 | m+1=>by
  rw[kN];refine aJ.append (rx ls m) ?_ ?_
  ·refine List.pairwise_iff_getElem.2 fun i j hi hj _=>?_;rw[(pR.1 (List.getElem_mem hi)).2,(pR.1 (List.getElem_mem hj)).2];omega
  ·intro a ha b hb;have:=(Dc.1 ha).2.2;rw[(pR.1 hb).2];omega
theorem ry (ls:List Int) (k:Int):∀ m,(f9 ls m).filter (fun s=>ln ls s ==k)=if 0<k/\k<=m then(List.range ls.length).filter (fun s=>ln ls s ==k) else []
  | 0=>by
    have:¬ (0<k/\k<=((0:Nat):Int)):=by omega
    rw[if_neg this];simp[f9]
  | m + 1=>by
    rw[kN,List.filter_append,ry ls k m];by_cases h1:k=((m+1:Nat):Int)
    · rw[if_neg (by omega),if_pos (by omega),List.nil_append,o0,List.filter_filter];congr 1;funext s;rw[h1];by_cases h:ln ls s=((m+1:Nat):Int) <;>simp[h]
    · have:(o0 ls ls.length (m+1)).filter (fun s=>ln ls s ==k)=[]:=by
        rw[List.filter_eq_nil_iff];intro s hs;have:=(pR.1 hs).2;simp;omega
      rw[this,List.append_nil];by_cases h2:0<k/\k<=(m:Int)
      · rw[if_pos h2,if_pos (by omega)]
      · rw[if_neg h2,if_neg (by omega)]
theorem vU{ls:List Int}(h:bY ls=true):eD ls=f9 ls 15:=by
 obtain⟨h1,h2,h3⟩:=dZ h
 symm
 refine pi (rx ls 15) fun k=>?_;rw[ry,jp,List.filter_filter];split
 ·rename_i hk;congr 1;funext s;by_cases e:ln ls s=k
  ·simp[e];omega
  ·simp[e]
 ·rename_i hk
  symm
  rw[List.filter_eq_nil_iff];intro s _;have:=h2 s;simp;omega
theorem vX{ls:List Int}{s m:Nat}(h:ln ls s=(m:Int)):∀ {k:Nat},s<k->∃ B,o0 ls k m=o0 ls s m++s ::B
 | 0,hk=>by omega
 | k+1,hk=>by
  rw[uf];by_cases e:s=k
  ·subst e;exact⟨[],by rw[if_pos h]⟩
  ·obtain⟨B,hB⟩:=vX h (show s<k by omega);rw[hB];exact⟨B++if ln ls k=(m:Int) then [k] else [],by simp⟩
theorem ue(ls:List Int){m:Nat}:∀ {k:Nat},m<=k->∃ B,f9 ls k=f9 ls m++B
 | 0,hk=>⟨[],by simp[show m=0 by omega]⟩
 | k+1,hk=>by
  by_cases e:m=k+1
  ·subst e;exact⟨[],by simp⟩
  ·obtain⟨B,hB⟩:=ue ls (show m<=k by omega);rw[kN,hB];exact⟨B++o0 ls ls.length (k+1),by simp⟩
theorem Fo{ls:List Int}(h:bY ls=true){s m:Nat}(hm:m<15)(hs:s<ls.length)(hl:ln ls s=((m+1:Nat):Int)):∃ B,eD ls=(f9 ls m++o0 ls s (m+1))++s ::B:=by
 rw[vU h];obtain⟨B,hB⟩:=ue ls (show m+1<=15 by omega);obtain⟨C,hC⟩:=vX hl hs;rw[hB,kN,hC];exact⟨C++B,by simp⟩
end Go.V
/-! Symbols out of bits. Plain Lean; no program. -/
namespace Go.V
def ii(ls:List Int)(s:Int):Bool:=decide (0<=s/\s<(ls.length:Int)/\ln ls s.toNat≠0)
def kc(ls:List Int)(s:Int):List Bool:=if ii ls s then cF (cd ls s.toNat) (ln ls s.toNat).toNat else []
def fo(ls:List Int)(n:Nat)(v:Int):Option Nat:=(List.range ls.length).find? fun s=>decide (ln ls s=(n:Int)/\cd ls s=v)
def fS(ls:List Int):Nat->Nat->Int->List Bool->Option (Nat×Nat)
 | 0,_,_,_=>none
 | _+1,_,_,[]=>none
 | k+1,n,v,b ::bs=>match fo ls (n+1) (2*v+eS b)with
  | some s=>some (s,n+1)
  | none=>fS ls k (n+1) (2*v+eS b) bs
theorem iA{ls:List Int}(h:bY ls=true){n s:Nat}{v:Int}(hn:0<n):fo ls n v=some s↔s<ls.length/\ln ls s=(n:Int)/\cd ls s=v:=by
 constructor
 ·intro e;have h1:=List.find?_some e;have h2:=List.mem_of_find?_eq_some e;simp only[decide_eq_true_eq]at h1;exact⟨by simpa using h2,h1⟩
 ·rintro⟨h1,h2,h3⟩;cases e:fo ls n v with
  | none =>
   have:=List.find?_eq_none.1 e s (by simpa using h1);simp[h2,h3]at this
  | some t =>
   have h4:=List.find?_some e;have h5:=List.mem_of_find?_eq_some e;simp only[decide_eq_true_eq]at h4;have:t=s:=DF h ⟨by simpa using h5,by omega⟩ ⟨h1,by omega⟩ (by omega) (by omega);rw[this]
theorem AI(v:Int)(n:Nat)(h:0<=v):v / 2^n=2*(v / 2^(n+1))+eS (eV v n):=by
 have hp:=ew n;have h1:v / 2^(n+1)=v / 2^n / 2:=by
  rw[pow_succ',Int.mul_comm,Int.ediv_ediv_of_nonneg (Int.le_of_lt hp)]
 rw[h1];unfold eV eS;have:=Int.emod_nonneg (v / 2^n) (show(2:Int)≠0 by omega);have:=Int.emod_lt_of_pos (v / 2^n) (show(0:Int)<2 by omega);have:=Int.mul_ediv_add_emod (v / 2^n) 2;by_cases e:v / 2^n % 2=1
 ·simp[e];omega
 ·have e2:v / 2^n % 2=0:=by omega
  simp[e2];omega
theorem jA {ls:List Int} (h:bY ls=true) {s:Nat} (hs:s<ls.length/\0<ln ls s) (rest:List Bool):fS ls 15 0 0 (cF (cd ls s) (ln ls s).toNat++rest)=some (s,(ln ls s).toNat):=by
  obtain⟨_,Hv,_⟩:=dZ h;have hb:=Hv s;have hc:=y0 h hs;have Gz:=kY h s
  -- with r bits left, the value so far
  have step :∀(r n:Nat),r+n=(ln ls s).toNat->0<r->fS ls (15-n) n (cd ls s / 2^r) (cF (cd ls s) r++rest)=some (s,(ln ls s).toNat):=by
    intro r
    induction r with
    | zero=>intro n _ h0;omega
    | succ r ih =>
      intro n hn _;obtain⟨k,hk⟩:∃ k,15-n=k+1:=⟨15-n-1,by omega⟩;rw[hk];show(match fo ls (n+1) (2*(cd ls s / 2^(r+1))+eS (eV (cd ls s) r))with
        | some s=>some (s,n+1)
        | none=>fS ls k (n+1) (2*(cd ls s / 2^(r+1))+eS (eV (cd ls s) r)) (cF (cd ls s) r++rest))=_
      rw[← AI _ _ Gz];by_cases hr:r=0
      · subst hr;have e:fo ls (n+1) (cd ls s / 2^0)=some s:=(iA h (by omega)).2 ⟨hs.1,by omega,by simp⟩;rw[e];show some (s,n+1)=_;rw[show n+1=(ln ls s).toNat by omega]
      · have e:fo ls (n+1) (cd ls s / 2^r)=none:=by
          cases e:fo ls (n+1) (cd ls s / 2^r)with
          | none=>rfl
          | some t =>
            exfalso;obtain⟨t1,t2,t3⟩:=(iA h (by omega)).1 e;have:=xw h (s:=t) (t:=s) ⟨t1,by omega⟩ hs (.inl (by omega));have e2:(ln ls s-ln ls t).toNat=r:=by omega
            rw[e2]at this;omega
        rw[e];show fS ls k (n+1) _ _=_;have:=ih (n+1) (by omega) (by omega)
        rwa [show 15-(n+1)=k by omega]at this
  have h0:=step (ln ls s).toNat 0 (by omega) (by omega);have hz:cd ls s / 2^(ln ls s).toNat=0:=Int.ediv_eq_zero_of_lt Gz (by omega);rw[hz]at h0;exact h0
theorem qz(ls:List Int):∀(k n:Nat)(v:Int)(bs:List Bool)(s m:Nat),fS ls k n v bs=some (s,m)->n<m/\m<=n+bs.length/\m<=n+k/\s<ls.length
 | 0,n,v,bs,s,m,h=>by simp[fS]at h
 | k+1,n,v,[],s,m,h=>by simp[fS]at h
 | k+1,n,v,b ::bs,s,m,h=>by
  unfold fS at h;split at h
  ·rename_i t ht;cases h;have:=List.mem_of_find?_eq_some ht;simp at this;simp;omega
  ·have:=qz ls k (n+1) _ bs s m h;simp;omega
end Go.V

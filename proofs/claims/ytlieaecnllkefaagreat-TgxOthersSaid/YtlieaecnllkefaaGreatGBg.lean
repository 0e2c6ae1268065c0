/- Own texts, packed: S1, S2, S3, S4, S5, S6, S7, K1, K2, K3, K4. -/
import Derived.Test.YtlieaecnllkefaaGreatGAg
/-! Lists that are told apart by a number of each member: sorted, and alike member by member of one number (what a stable sort keeps). Plain Lean; no program. -/
set_option linter.unusedVariables false
set_option linter.unusedSimpArgs false
namespace Go.V
section
variable {α : Type} (key : α → Int)
def aQ(xs ys:List α):Prop:=∀ k:Int,xs.filter (fun x=>key x ==k)=ys.filter (fun x=>key x ==k)
def aJ(xs:List α):Prop:=xs.Pairwise (fun x y=>key x<=key y)
variable {key}
theorem aQ.refl(xs:List α):aQ key xs xs:=fun _=>rfl
theorem aQ.symm{xs ys:List α}(h:aQ key xs ys):aQ key ys xs:=fun k=>(h k).symm
theorem aQ.trans{xs ys zs:List α}(h:aQ key xs ys)(h':aQ key ys zs):aQ key xs zs:=fun k=>(h k).trans (h' k)
theorem aQ.append{xs ys xs' ys':List α}(h:aQ key xs ys)(h':aQ key xs' ys'):aQ key (xs++xs') (ys++ys'):=fun k=>by
 rw[List.filter_append,List.filter_append,h k,h' k]
theorem aQ.mem{xs ys:List α}(h:aQ key xs ys){x:α}(hx:x∈xs):x∈ys:=by
 have:x∈xs.filter (fun y=>key y ==key x):=by simp[hx]
 rw[h]at this;exact(List.mem_filter.1 this).1
theorem aQ.nil{ys:List α}(h:aQ key [] ys):ys=[]:=by
 cases ys with
 | nil=>rfl
 | cons y ys=>exact absurd (h.symm.mem (x:=y) (by simp)) (by simp)
theorem aQ.length:∀ {xs ys:List α},aQ key xs ys->xs.length=ys.length:=by
 intro xs
 induction xs with
 | nil=>intro ys h;rw[h.nil]
 | cons x xs ih =>
  intro ys h;have hx:x∈ys.filter (fun y=>key y ==key x):=by rw[← h];simp
  have h1:=h (key x);simp only[List.filter_cons,beq_self_eq_true,if_true]at h1;obtain⟨A,B,e1,e2,e3⟩:=List.filter_eq_cons_iff.1 h1.symm;have hA:A.filter (fun y=>key y ==key x)=[]:=by
   rw[List.filter_eq_nil_iff];exact e2
  have h2:aQ key xs (A++B):=by
   intro k;have h3:=h k;rw[e1]at h3;simp only[List.filter_cons,List.filter_append]at h3 ⊢;by_cases hk:key x ==k
   ·have D8:key x=k:=by simpa using hk
    subst D8;simp only[beq_self_eq_true,if_true]at h3;rw[hA]at h3 ⊢;simpa using h3
   ·simp only[hk]at h3;simpa using h3
  rw[e1];have:=ih h2;simp only[List.length_cons,List.length_append]at this ⊢;omega
theorem aQ.swap{xs ys:List α}(h:∀ x∈xs,∀ y∈ys,key x≠key y):aQ key (xs++ys) (ys++xs):=by
  intro k;rw[List.filter_append,List.filter_append];by_cases hx:∃ x∈xs,key x=k
  · obtain⟨x,hx,rfl⟩:=hx;have:ys.filter (fun y=>key y ==key x)=[]:=by
      rw[List.filter_eq_nil_iff];intro y hy;have:=h x hx y hy;simp;omega
    rw[this];simp
  · have:xs.filter (fun y=>key y ==k)=[]:=by
      rw[List.filter_eq_nil_iff];intro y hy;simp;intro e;exact hx ⟨y,hy,e⟩
    rw[this];simp
theorem aJ.unique:∀ {xs ys:List α},aJ key xs->aJ key ys->aQ key xs ys->xs=ys:=by
 intro xs
 induction xs with
 | nil=>intro ys _ _ h;exact h.nil.symm
 | cons x xs ih =>
  intro ys h1 h2 h;cases ys with
  | nil=>exact absurd h.symm.nil (by simp)
  | cons y ys =>
   have hx:key y<=key x:=by
    rcases List.mem_cons.1 (h.mem (x:=x) (by simp))with e | e
    ·rw[e];omega
    ·exact(List.pairwise_cons.1 h2).1 x e
   have hy:key x<=key y:=by
    rcases List.mem_cons.1 (h.symm.mem (x:=y) (by simp))with e | e
    ·rw[e];omega
    ·exact(List.pairwise_cons.1 h1).1 y e
   have e:key x=key y:=by omega
   have hk:=h (key x);simp only[List.filter_cons,beq_self_eq_true,if_true,← e]at hk;have Gf:x=y:=(List.cons.inj hk).1;subst Gf;rw[ih (List.pairwise_cons.1 h1).2 (List.pairwise_cons.1 h2).2];intro k;have hk:=h k;simp only[List.filter_cons]at hk;split at hk
   ·exact(List.cons.inj hk).2
   ·exact hk
theorem aJ.append{xs ys:List α}(h1:aJ key xs)(h2:aJ key ys)(h:∀ x∈xs,∀ y∈ys,key x<=key y):aJ key (xs++ys) :=
 List.pairwise_append.2 ⟨h1,h2,h⟩
theorem aJ.left{xs ys:List α}(h:aJ key (xs++ys)):aJ key xs:=(List.pairwise_append.1 h).1
theorem aJ.right{xs ys:List α}(h:aJ key (xs++ys)):aJ key ys:=(List.pairwise_append.1 h).2.1
theorem aJ.across{xs ys:List α}(h:aJ key (xs++ys)):∀ x∈xs,∀ y∈ys,key x<=key y:=(List.pairwise_append.1 h).2.2
def ue(key:α->Int)(x:α):List α->List α
 | []=>[x]
 | y ::ys=>if key y<=key x then y ::ue key x ys else x ::y ::ys
def cV(key:α->Int)(xs:List α):List α:=xs.foldl (fun l x=>ue key x l) []
theorem nP(x:α):∀ {l:List α},aJ key l->aQ key (ue key x l) (l++[x])
 | [],_=>aQ.refl _
 | y ::ys,h=>by
  unfold ue;split
  ·exact(aQ.refl [y]).append (nP x (List.pairwise_cons.1 h).2)
  ·rename_i DF;have DF:key x<key y:=by omega
   show aQ key ([x]++(y ::ys)) (y ::ys++[x]);apply aQ.swap;intro a ha b hb;have ha:a=x:=by simpa using ha
   subst ha;rcases List.mem_cons.1 hb with e | e
   ·rw[e];omega
   ·have:=(List.pairwise_cons.1 h).1 b e;omega
theorem na(x:α):∀ {l:List α},aJ key l->aJ key (ue key x l)
 | [],_=>by simp[ue,aJ]
 | y ::ys,h=>by
  unfold ue;have h':=List.pairwise_cons.1 h;split
  ·rename_i DQ;refine List.pairwise_cons.2 ⟨fun z hz=>?_,na x h'.2⟩;rcases List.mem_append.1 ((nP x h'.2).mem hz)with e | e
   ·exact h'.1 z e
   ·have:z=x:=by simpa using e
    rw[this];exact DQ
  ·rename_i DF;refine List.pairwise_cons.2 ⟨fun z hz=>?_,h⟩;rcases List.mem_cons.1 hz with e | e
   ·rw[e];omega
   ·have:=h'.1 z e;omega
theorem lC:∀(xs l:List α),aJ key l->aJ key (xs.foldl (fun l x=>ue key x l) l)/\aQ key (xs.foldl (fun l x=>ue key x l) l) (l++xs)
 | [],l,h=>by simpa using⟨h,aQ.refl l⟩
 | x ::xs,l,h=>by
  have ih:=lC xs (ue key x l) (na x h);refine⟨ih.1,ih.2.trans ?_⟩;have:=(nP x h).append (aQ.refl xs);simpa using this
theorem i7(xs:List α):aJ key (cV key xs):=(lC xs [] (by simp[aJ])).1
theorem gb(xs:List α):aQ key (cV key xs) xs:=by simpa[cV]using(lC (key:=key) xs [] (by simp[aJ])).2
theorem rz{xs ys:List α}(h1:aJ key ys)(h2:aQ key ys xs):ys=cV key xs:=aJ.unique h1 (i7 xs) (h2.trans (gb xs).symm)
end
end Go.V
/-! What the steps of a stable sort by merging in place do to lists. Plain Lean; no program. -/
namespace Go.V
section
variable {α : Type} {key : α → Int}
theorem zp {S1 S2:List α} {x:α} (h:aJ key (S1++S2)) (h2:∀ z∈S2,key x<key z) (h1:S1=[]∨∃ S y,S1=S++[y]/\key y<=key x) :
    aJ key (S1++x ::S2)/\aQ key (S1++x ::S2) (S1++S2++[x]):=by
  refine⟨h.left.append (List.pairwise_cons.2 ⟨fun z hz=>by have:=h2 z hz;omega,h.right⟩) ?_,?_⟩
  · intro z hz u hu;rcases h1 with rfl | ⟨S,y,rfl,hy⟩
    · simp at hz
    · have SR:key z<=key y:=by
        rcases List.mem_append.1 hz with e | e
        · exact h.left.across z e y (by simp)
        · have:z=y:=by simpa using e
          rw[this];omega
      rcases List.mem_cons.1 hu with e | e
      · rw[e];omega
      · have:=h2 u e;omega
  · rw[List.append_assoc];refine(aQ.refl S1).append ?_;show aQ key ([x]++S2) (S2++[x]);apply aQ.swap;intro a ha b hb;have:a=x:=by simpa using ha
    subst this;have:=h2 b hb;omega
theorem tR{Y1 Y3:List α}{x:α}(h:aJ key (Y1++Y3))(h1:∀ y∈Y1,key y<key x)(h3:∀ y∈Y3,key x<=key y):
    aJ key (Y1++[x]++Y3)/\aQ key (Y1++[x]++Y3) ([x]++(Y1++Y3)):=by
  refine⟨(h.left.append (by simp[aJ]) ?_).append h.right ?_,?_⟩
  · intro a ha b hb;have:b=x:=by simpa using hb
    subst this;have:=h1 a ha;omega
  · intro a ha b hb;rcases List.mem_append.1 ha with e | e
    · exact h.across a e b hb
    · have:a=x:=by simpa using e
      subst this;exact h3 b hb
  · rw[← List.append_assoc];refine aQ.append ?_ (aQ.refl _);apply aQ.swap;intro a ha b hb;have:b=x:=by simpa using hb
    subst this;have:=h1 a ha;omega
theorem vN{X1 X3:List α}{y:α}(h:aJ key (X1++X3))(h1:∀ x∈X1,key x<=key y)(h3:∀ x∈X3,key y<key x):
    aJ key (X1++[y]++X3)/\aQ key (X1++[y]++X3) (X1++X3++[y]):=by
  refine⟨(h.left.append (by simp[aJ]) ?_).append h.right ?_,?_⟩
  · intro a ha b hb;have:b=y:=by simpa using hb
    subst this;exact h1 a ha
  · intro a ha b hb;rcases List.mem_append.1 ha with e | e
    · exact h.across a e b hb
    · have:a=y:=by simpa using e
      subst this;have:=h3 b hb;omega
  · rw[List.append_assoc,List.append_assoc];refine(aQ.refl _).append ?_;apply aQ.swap;intro a ha b hb;have:a=y:=by simpa using ha
    subst this;have:=h3 b hb;omega
theorem aJ.head_le{S:List α}{y:α}(h:aJ key (y ::S)):∀ x∈y ::S,key y<=key x:=by
 intro x hx;rcases List.mem_cons.1 hx with e | e
 ·rw[e];omega
 ·exact(List.pairwise_cons.1 h).1 x e
theorem vD{X1 X2 Y1 Y2 Z1 Z2:List α}(hX:aJ key (X1++X2))(hY:aJ key (Y1++Y2))(h1:∀ x∈X1,∀ y∈Y2,key x<=key y)(h2:∀ y∈Y1,∀ x∈X2,key y<key x)
    (R8:aJ key Z1) (R7:aJ key Z2) (s1:aQ key Z1 (X1++Y1)) (s2:aQ key Z2 (X2++Y2)) :
    aJ key (Z1++Z2)/\aQ key (Z1++Z2) (X1++X2++(Y1++Y2)):=by
  refine⟨R8.append R7 ?_,(s1.append s2).trans ?_⟩
  · intro a ha b hb;rcases List.mem_append.1 (s1.mem ha)with e | e <;>rcases List.mem_append.1 (s2.mem hb)with f | f
    · exact hX.across a e b f
    · exact h1 a e b f
    · have:=h2 a e b f;omega
    · exact hY.across a e b f
  · have:aQ key (X1++((Y1++X2)++Y2)) (X1++((X2++Y1)++Y2)):=by
      refine(aQ.refl _).append (aQ.append ?_ (aQ.refl _));apply aQ.swap;intro a ha b hb;have:=h2 a ha b hb;omega
    simpa using this
theorem lO{L:List α}{k:Nat}(h:k<L.length):∃ P y Q,L=P++y ::Q/\P.length=k/\L[k]?=some y:=by
 refine⟨L.take k,L[k],L.drop (k+1),?_,by simp;omega,by simp⟩;simp
theorem aJ.get{L:List α}(h:aJ key L){i j:Nat}{x y:α}(El:i<=j)(hx:L[i]?=some x)(hy:L[j]?=some y):key x<=key y:=by
 obtain⟨hi,rfl⟩:=List.getElem?_eq_some_iff.1 hx;obtain⟨hj,rfl⟩:=List.getElem?_eq_some_iff.1 hy;rcases Nat.lt_or_ge i j with DF | DK
 ·exact(List.pairwise_iff_getElem.1 h) i j hi hj DF
 ·have:i=j:=by omega
  subst this;omega
theorem qy{L:List α}{k:Nat}{x:α}(h:x∈L.take k):∃ i,i<k/\L[i]?=some x:=by
 obtain⟨i,hi,rfl⟩:=List.mem_iff_getElem.1 h;have GY:=hi;rw[List.length_take]at GY;refine⟨i,by omega,?_⟩;rw[List.getElem_take];exact List.getElem?_eq_getElem _
theorem qz{L:List α}{k:Nat}{x:α}(h:x∈L.drop k):∃ i,k<=i/\L[i]?=some x:=by
 obtain⟨i,hi,rfl⟩:=List.mem_iff_getElem.1 h;rw[List.getElem_drop];exact⟨k+i,by omega,List.getElem?_eq_getElem _⟩
inductive xy (key:α->Int) (s:Nat):List α->Prop
 | last {Z}:Z.length<=s->aJ key Z->xy key s Z
 | cons {Z1 Z2}:Z1.length=s->aJ key Z1->xy key s Z2->xy key s (Z1++Z2)
inductive vw (key:α->Int) (s:Nat):List α->Prop
 | nil:vw key s []
 | snoc {U Z}:vw key s U->Z.length=s->aJ key Z->vw key s (U++Z)
theorem vw.blk{s:Nat}{U V:List α}(h:vw key s U)(hv:xy key s V):xy key s (U++V):=by
 induction h generalizing V with
 | nil=>exact hv
 | snoc h1 h2 h3 ih =>
  rw[List.append_assoc];exact ih (.cons h2 h3 hv)
theorem xy.small{s:Nat}{Z:List α}(h:xy key s Z)(hs:0<s)(hl:Z.length<=s):aJ key Z:=by
 cases h with
 | last h1 h2=>exact h2
 | cons h1 h2 h3 =>
  rename_i Z1 Z2;have:Z2=[]:=List.eq_nil_of_length_eq_zero (by simp at hl;omega);subst this;simpa using h2
theorem xy.cut{s:Nat}{Z:List α}(h:xy key s Z)(hl:s<Z.length):∃ Z1 Z2,Z=Z1++Z2/\Z1.length=s/\aJ key Z1/\xy key s Z2:=by
 cases h with
 | last h1 h2=>omega
 | cons h1 h2 h3=>exact⟨_,_,rfl,h1,h2,h3⟩
theorem xy.cut2{s:Nat}{Z:List α}(h:xy key s Z)(hs:0<s)(hl:s+s<=Z.length):∃ Z1 Z2 Z3,Z=Z1++Z2++Z3/\Z1.length=s/\Z2.length=s/\aJ key Z1/\aJ key Z2/\xy key s Z3:=by
 obtain⟨Z1,Z',rfl,h1,h2,h3⟩:=h.cut (by omega);cases h3 with
 | last h4 h5 =>
  refine⟨Z1,Z',[],by simp,h1,by simp at hl;omega,h2,h5,.last (by simp) (by simp[aJ])⟩
 | cons h4 h5 h6 =>
  rename_i Z2 Z3;exact⟨Z1,Z2,Z3,by simp,h1,h4,h2,h5,h6⟩
end
end Go.V
/-! Lengths of codes by coins and packages: lists alone. Plain Lean; no program. -/
namespace Go.V
abbrev aZ:=Int×List Nat
def dM(n:Int):Int:=mn (mx n 0) 1099511627776
theorem t9{n:Int}(h:n>0):0<dM n/\dM n<=1099511627776:=by
 unfold dM mx mn;split <;>split <;>omega
def aT(i:Nat):List Int->List aZ
 | []=>[]
 | n ::ns=>if n>0 then(dM n,[i]) ::aT (i+1) ns else aT (i+1) ns
def aM(xs:List Int):List aZ:=cV Prod.fst (aT 0 xs)
theorem iF(ys:List Int):∀(xs:List Int)(i:Nat),aT i (xs++ys)=aT i xs++aT (i+xs.length) ys
 | [],i=>by simp[aT]
 | x ::xs,i=>by
  have ih:=iF ys xs (i+1);simp only[List.cons_append,aT,ih,List.length_cons,show i+1+xs.length=i+(xs.length+1) by omega];split <;>simp
theorem iN:∀(xs:List Int)(i:Nat)(x:aZ),x∈aT i xs->0<x.1/\x.1<=1099511627776/\∃ s,x.2=[s]/\i<=s/\s<i+xs.length
 | [],i,x,h=>by simp[aT]at h
 | n ::ns,i,x,h=>by
  have ih:=iN ns (i+1) x;have more:(x∈aT (i+1) ns)->0<x.1/\x.1<=1099511627776/\∃ s,x.2=[s]/\i<=s/\s<i+(n ::ns).length:=by
   intro h;obtain⟨h1,h2,s,h3,h4,h5⟩:=ih h;exact⟨h1,h2,s,h3,by omega,by simp;omega⟩
  unfold aT at h;split at h
  ·rename_i hn;rcases List.mem_cons.1 h with e | e
   ·subst e;exact⟨(t9 hn).1,(t9 hn).2,i,rfl,by omega,by simp⟩
   ·exact more e
  ·exact more h
theorem kC{xs:List Int}{x:aZ}(h:x∈aM xs):0<x.1/\x.1<=1099511627776/\∃ s,x.2=[s]/\s<xs.length:=by
 obtain⟨h1,h2,s,h3,_,h5⟩:=iN xs 0 x ((gb (aT 0 xs)).mem h);exact⟨h1,h2,s,h3,by omega⟩
theorem kN:∀(xs:List Int)(i:Nat),(aT i xs).length<=xs.length
 | [],i=>by simp[aT]
 | n ::ns,i=>by
  have ih:=kN ns (i+1);unfold aT;split <;>simp <;>omega
theorem jz(xs:List Int):(aM xs).length<=xs.length:=by
 have h:=(gb (key:=Prod.fst) (aT 0 xs)).length;have:=kN xs 0;show(cV _ _).length<=_;omega
def cO:List aZ->List aZ
 | a ::b ::r=>(a.1+b.1,a.2++b.2) ::cO r
 | _=>[]
def cJ:List aZ->List aZ->List aZ
 | cs,[]=>cs
 | cs,p ::ps=>cs.takeWhile (fun c=>decide (c.1<=p.1))++p ::cJ (cs.dropWhile (fun c=>decide (c.1<=p.1))) ps
def fx(cs l:List aZ):List aZ:=cJ cs (cO l)
theorem mi{c p:aZ}{cs ps:List aZ}(h:c.1<=p.1):cJ (c ::cs) (p ::ps)=c ::cJ cs (p ::ps):=by
 simp[cJ,h]
theorem mj{c p:aZ}{cs ps:List aZ}(h:¬ c.1<=p.1):cJ (c ::cs) (p ::ps)=p ::cJ (c ::cs) ps:=by
 simp[cJ,h]
theorem pL{p:aZ}{ps:List aZ}:cJ [] (p ::ps)=p ::cJ [] ps:=by simp[cJ]
theorem fe:∀(l:List aZ),(cO l).length=l.length / 2
 | []=>rfl
 | [_]=>by simp[cO]
 | a ::b ::r=>by
  have:=fe r;simp only[cO,List.length_cons,this];omega
theorem eI:∀(ps cs:List aZ),(cJ cs ps).length=cs.length+ps.length
 | [],cs=>by simp[cJ]
 | p ::ps,cs=>by
  have ih:=eI ps (cs.dropWhile (fun c=>decide (c.1<=p.1)));have h:=congrArg List.length (List.takeWhile_append_dropWhile (p:=fun c:aZ=>decide (c.1<=p.1)) (l:=cs));simp only[List.length_append]at h;simp only[cJ,List.length_append,List.length_cons,ih];omega
theorem kl:∀ {ps cs:List aZ} {x:aZ},x∈cJ cs ps->x∈cs∨x∈ps
 | [],cs,x,h=>.inl h
 | p ::ps,cs,x,h=>by
  simp only[cJ,List.mem_append,List.mem_cons]at h;rcases h with h | h | h
  ·exact .inl (List.takeWhile_sublist _ |>.subset h)
  ·exact .inr (by simp[h])
  ·rcases kl h with e | e
   ·exact .inl (List.dropWhile_sublist _ |>.subset e)
   ·exact .inr (by simp[e])
def jh(first:List aZ):Nat->List aZ
 | 0=>first
 | k+1=>fx first (jh first k)
theorem tV{Q:Nat->aZ->Prop}(hQ:∀ k a b,Q k a->Q k b->Q (k+1) (a.1+b.1,a.2++b.2)){k:Nat}:∀ {l:List aZ},(∀ x∈l,Q k x)->∀ x∈cO l,Q (k+1) x
 | [],_=>by simp[cO]
 | [_],_=>by simp[cO]
 | a ::b ::r,h=>by
  intro x hx;simp only[cO,List.mem_cons]at hx;rcases hx with rfl | hx
  ·exact hQ k a b (h a (by simp)) (h b (by simp))
  ·exact tV hQ (fun y hy=>h y (by simp[hy])) x hx
theorem uW{Q:Nat->aZ->Prop}(hQ:∀ k a b,Q k a->Q k b->Q (k+1) (a.1+b.1,a.2++b.2)){first:List aZ}(h0:∀ k,∀ x∈first,Q k x):∀ k,∀ x∈jh first k,Q k x
 | 0=>h0 0
 | k+1=>by
  intro x hx;rcases kl hx with e | e
  ·exact h0 _ x e
  ·exact tV hQ (uW hQ h0 k) x e
theorem m0(first:List aZ):∀ k,2*first.length<=(jh first k).length+(first.length+2^k-1) / 2^k
 | 0=>by simp[jh];omega
 | k+1=>by
  have ih:=m0 first k
  simp only[jh,fx,eI,fe];have h1:(first.length+2^(k+1)-1) / 2^(k+1)=((first.length+2^(k+1)-1) / 2^k) / 2:=by
   rw[Nat.pow_succ,Nat.div_div_eq_div_mul]
  have h2:(first.length+2^(k+1)-1)=(first.length+2^k-1)+2^k:=by
   have:0<2^k:=Nat.two_pow_pos k;rw[Nat.pow_succ];omega
  have h3:(first.length+2^(k+1)-1) / 2^k=(first.length+2^k-1) / 2^k+1:=by
   rw[h2,Nat.add_div_right _ (Nat.two_pow_pos k)]
  rw[h1,h3];omega
theorem v9{first:List aZ}{m:Nat}(hm:1<=m)(h:first.length<=2^m):2*first.length-2<=(jh first (m-1)).length:=by
 have h1:=m0 first (m-1)
 have h2:(first.length+2^(m-1)-1) / 2^(m-1)<=2:=by
  have hp:0<2^(m-1):=Nat.two_pow_pos _;have h3:2^m=2*2^(m-1):=by
   have:m=(m-1)+1:=by omega
   rw[this,Nat.pow_succ];simp;omega
  rw[← Nat.lt_succ_iff,Nat.div_lt_iff_lt_mul hp];omega
 omega
def sr(xs:List Int)(s:Nat):List Int:=xs.set s (xs.getD s 0+1)
def fR(ss:List Nat)(xs:List Int):List Int:=ss.foldl sr xs
theorem qa(xs:List Int)(s:Nat):(sr xs s).length=xs.length:=by simp[sr]
theorem eo:∀(ss:List Nat)(xs:List Int),(fR ss xs).length=xs.length
 | [],xs=>rfl
 | s ::ss,xs=>by
  show(fR ss (sr xs s)).length=_;rw[eo,qa]
theorem lS(s t:List Nat)(xs:List Int):fR (s++t) xs=fR t (fR s xs):=by simp[fR]
theorem yM{xs:List Int}{s:Nat}{B:Int}(h:∀ v∈xs,0<=v/\v<=B)(hB:0<=B):∀ v∈sr xs s,0<=v/\v<=B+1:=by
 intro v hv;have hd:0<=xs.getD s 0/\xs.getD s 0<=B:=by
  rw[List.getD_eq_getElem?_getD];cases he:xs[s]? with
  | none=>simp;exact hB
  | some u=>simpa using h u (List.mem_of_getElem? he)
 rcases List.mem_or_eq_of_mem_set hv with e | e
 ·have:=h v e;omega
 ·omega
theorem kL:∀ (ss:List Nat) {xs:List Int} {B:Int},(∀ v∈xs,0<=v/\v<=B)->0<=B->∀ v∈fR ss xs,0<=v/\v<=B+ss.length
 | [],xs,B,h,hB=>by simpa[fR]using h
 | s ::ss,xs,B,h,hB=>by
  have:=kL ss (yM (s:=s) h hB) (by omega);intro v hv;have:=this v hv;simp only[List.length_cons];omega
def cH(most:Int):Nat:=(mn (mx most 1) 15).toNat
def bU(xs:List Int)(m:Nat):List Nat :=
 if(aM xs).length=1 then((aM xs).flatMap Prod.snd) else((jh (aM xs) (m-1)).take (2*(aM xs).length-2)).flatMap Prod.snd
def dL(xs:List Int)(most:Int):List Int :=
 if xs.length>256 then [] else if(aM xs).length>2^cH most then [] else fR (bU xs (cH most)) (List.replicate xs.length 0)
end Go.V
/-! Lengths of codes by coins and packages are the best ones: lists alone. Plain Lean; no program. -/
namespace Go.V
def aO:Nat->(Nat->Int)->Int
 | 0,_=>0
 | n+1,f=>aO n f+f n
theorem aY{f g:Nat->Int}:∀ {n:Nat},(∀ i,i<n->f i=g i)->aO n f=aO n g
 | 0,_=>rfl
 | n+1,h=>by
  have h1:=aY (n:=n) (fun i hi=>h i (by omega));have h2:=h n (by omega);simp only[aO];omega
theorem fb(f g:Nat->Int):∀ n,aO n (fun i=>f i+g i)=aO n f+aO n g
 | 0=>rfl
 | n+1=>by simp only[aO,fb f g n];omega
theorem gP:∀ n,aO n (fun _=>0)=0
 | 0=>rfl
 | n+1=>by simp only[aO,gP n];omega
theorem ir{f g:Nat->Int}:∀ {n:Nat},(∀ i,i<n->f i<=g i)->aO n f<=aO n g
 | 0,_=>Int.le_refl _
 | n+1,h=>by
  have:=ir (n:=n) (fun i hi=>h i (by omega));have:=h n (by omega);simp only[aO];omega
theorem fH(c:Int):∀ n:Nat,aO n (fun _=>c)=n*c
 | 0=>by simp[aO]
 | n+1=>by simp only[aO,fH c n];rw[show((n+1:Nat):Int)=(n:Int)+1 by omega,Int.add_mul,Int.one_mul]
theorem jI(f:Nat->Int){a:Nat}:∀ {n:Nat},a<=n->aO n (fun i=>if i<a then f i else 0)=aO a f
 | 0,h=>by
  have:a=0:=by omega
  subst this;rfl
 | n+1,h=>by
  by_cases e:a=n+1
  ·subst e;apply aY;intro i hi;simp[hi]
  ·have:=jI f (a:=a) (n:=n) (by omega);simp only[aO,this];rw[if_neg (by omega)];omega
theorem oK(c:Int)(f:Nat->Int):∀ n,aO n (fun i=>c*f i)=c*aO n f
 | 0=>by simp[aO]
 | n+1=>by simp only[aO,oK c f n,Int.mul_add]
def wt(l:List aZ):Int:=(l.map Prod.fst).sum
def cI(first:List aZ)(i:Nat):Int:=(first.getD i (0,[])).1
theorem oq(a b:List aZ):wt (a++b)=wt a+wt b:=by simp[wt]
theorem ig(a:aZ)(b:List aZ):wt (a ::b)=a.1+wt b:=by simp[wt]
theorem om:wt []=0:=rfl
theorem qu(first:List aZ):∀ {a:Nat},a<=first.length->wt (first.take a)=aO a (cI first)
 | 0,_=>by simp[wt,aO]
 | a+1,h=>by
  have h':a<first.length:=by omega
  rw[List.take_succ_eq_append_getElem h',oq,qu first (by omega)];simp only[aO,ig,om,cI];rw[List.getD_eq_getElem?_getD,List.getElem?_eq_getElem h'];simp
abbrev SC(l:List aZ):Prop:=aJ (Prod.fst:aZ->Int) l
theorem fy:∀ ps,cJ [] ps=ps
 | []=>rfl
 | p ::ps=>by rw[pL,fy ps]
theorem jw:∀ {N:Nat} {cs ps:List aZ},cs.length+ps.length<=N->SC cs->SC ps->SC (cJ cs ps)
 | N,[],ps,_,_,h2=>by rw[fy];exact h2
 | N,c ::cs,[],_,h1,_=>by simpa[cJ]using h1
 | 0,c ::cs,p ::ps,h,_,_=>by simp at h
 | N+1,c ::cs,p ::ps,h,h1,h2=>by
  simp only[List.length_cons]at h;by_cases DQ:c.1<=p.1
  ·rw[mi DQ];refine List.pairwise_cons.2 ⟨fun z hz=>?_,jw (N:=N) (by simp;omega) (List.pairwise_cons.1 h1).2 h2⟩;rcases kl hz with e | e
   ·exact(List.pairwise_cons.1 h1).1 z e
   ·have:=aJ.head_le h2 z e;omega
  ·rw[mj DQ];refine List.pairwise_cons.2 ⟨fun z hz=>?_,jw (N:=N) (by simp;omega) h1 (List.pairwise_cons.1 h2).2⟩;rcases kl hz with e | e
   ·have:=aJ.head_le h1 z e;omega
   ·exact(List.pairwise_cons.1 h2).1 z e
theorem vU{m:Int}:∀ {l:List aZ},(∀ x∈l,m<=x.1)->∀ x∈cO l,2*m<=x.1
 | [],_=>by simp[cO]
 | [_],_=>by simp[cO]
 | a ::b ::r,h=>by
  intro x hx;simp only[cO,List.mem_cons]at hx;rcases hx with rfl | hx
  ·have:=h a (by simp);have:=h b (by simp);show 2*m<=a.1+b.1;omega
  ·exact vU (fun y hy=>h y (by simp[hy])) x hx
theorem kg:∀ {l:List aZ},SC l->SC (cO l)
 | [],_=>by simp[cO,aJ]
 | [_],_=>by simp[cO,aJ]
 | a ::b ::r,h=>by
  have h1:=List.pairwise_cons.1 h;have h2:=List.pairwise_cons.1 h1.2;simp only[cO];refine List.pairwise_cons.2 ⟨fun z hz=>?_,kg h2.2⟩;have:=vU (m:=b.1) h2.1 z hz;have:=h1.1 b (by simp);show a.1+b.1<=z.1;omega
theorem rq{first:List aZ}(h:SC first):∀ k,SC (jh first k)
 | 0=>h
 | k+1=>jw (Nat.le_refl _) h (kg (rq h k))
theorem iS:∀ {N a b:Nat} {cs ps:List aZ},a+b<=N->SC cs->SC ps->a<=cs.length->b<=ps.length->wt ((cJ cs ps).take (a+b))<=wt (cs.take a)+wt (ps.take b)
 | _,0,0,cs,ps,_,_,_,_,_=>by simp[wt]
 | 0,a+1,b,_,_,h,_,_,_,_=>by omega
 | 0,0,b+1,_,_,h,_,_,_,_=>by omega
 | N+1,a,b,[],ps,h,h1,h2,ha,hb=>by
  have:a=0:=by simpa using ha
  subst this;rw[fy];simp[wt]
 | N+1,a,b,c ::cs,[],h,h1,h2,ha,hb=>by
  have:b=0:=by simpa using hb
  subst this;simp[cJ,wt]
 | N+1,a,b,c ::cs,p ::ps,h,h1,h2,ha,hb=>by
  have k1:=List.pairwise_cons.1 h1;have k2:=List.pairwise_cons.1 h2;by_cases h0:a+b=0
  ·have e1:a=0:=by omega
   have e2:b=0:=by omega
   subst e1;subst e2;simp[wt]
  by_cases DQ:c.1<=p.1
  ·rw[mi DQ];cases a with
   | succ a =>
    have ih:=iS (N:=N) (a:=a) (b:=b) (by omega) k1.2 h2 (by simpa using ha) hb;rw[show a+1+b=(a+b)+1 by omega,List.take_succ_cons,List.take_succ_cons,ig,ig];omega
   | zero =>
    cases b with
    | zero=>omega
    | succ b =>
     have ih:=iS (N:=N) (a:=0) (b:=b) (cs:=cs) (ps:=p ::ps) (by omega) k1.2 h2 (by omega) (by omega);have E6:b<(p ::ps).length:=by omega
     have Fo:p.1<=((p ::ps)[b]).1:=aJ.head_le h2 _ (List.getElem_mem E6);rw[show 0+(b+1)=(0+b)+1 by omega,List.take_succ_cons,ig,List.take_succ_eq_append_getElem E6,oq,ig,om];simp only[List.take_zero,om]at ih ⊢;omega
  ·rw[mj DQ];cases b with
   | succ b =>
    have ih:=iS (N:=N) (a:=a) (b:=b) (by omega) h1 k2.2 ha (by simpa using hb);rw[show a+(b+1)=(a+b)+1 by omega,List.take_succ_cons,List.take_succ_cons,ig,ig];omega
   | zero =>
    cases a with
    | zero=>omega
    | succ a =>
     have ih:=iS (N:=N) (a:=a) (b:=0) (cs:=c ::cs) (ps:=ps) (by omega) h1 k2.2 (by omega) (by omega);have PA:a<(c ::cs).length:=by omega
     have Fo:c.1<=((c ::cs)[a]).1:=aJ.head_le h1 _ (List.getElem_mem PA);rw[show a+1+0=a+1 by omega,List.take_succ_cons,ig,List.take_succ_eq_append_getElem PA,oq,ig,om];simp only[List.take_zero,om,Nat.add_zero]at ih ⊢;omega
theorem mZ:∀ {N k:Nat} {cs ps:List aZ},k<=N->k<=cs.length+ps.length->SC cs->∃ a b,a+b=k/\a<=cs.length/\b<=ps.length/\((cJ cs ps).take k).Perm (cs.take a++ps.take b)/\(∀ p∈ps.take b,∀ c∈cs.drop a,p.1<c.1)
 | _,0,cs,ps,_,_,_=>⟨0,0,rfl,by omega,by omega,by simp,by simp⟩
 | 0,k+1,_,_,h,_,_=>by omega
 | N+1,k+1,[],ps,h,hk,_=>⟨0,k+1,by omega,by omega,by simpa using hk,by rw[fy];simp,by simp⟩
 | N+1,k+1,c ::cs,[],h,hk,_=>⟨k+1,0,by omega,by simpa using hk,by omega,by simp[cJ],by simp⟩
 | N+1,k+1,c ::cs,p ::ps,h,hk,h1=>by
  simp only[List.length_cons]at hk;by_cases DQ:c.1<=p.1
  ·obtain⟨a,b,e1,e2,e3,e4,e5⟩:=mZ (N:=N) (k:=k) (cs:=cs) (ps:=p ::ps) (by omega) (by simp;omega) (List.pairwise_cons.1 h1).2;refine⟨a+1,b,by omega,by simp;omega,e3,?_,by simpa using e5⟩;rw[mi DQ];simpa using e4
  ·obtain⟨a,b,e1,e2,e3,e4,e5⟩:=mZ (N:=N) (k:=k) (cs:=c ::cs) (ps:=ps) (by omega) (by simp;omega) h1;refine⟨a,b+1,by omega,e2,by simp;omega,?_,?_⟩
   ·rw[mj DQ,List.take_succ_cons,List.take_succ_cons];exact(List.Perm.cons p e4).trans (List.perm_middle (a:=p) (l₁:=(c ::cs).take a) (l₂:=ps.take b)).symm
   ·intro q hq d hd;rcases List.mem_cons.1 (by simpa using hq)with e | e
    ·subst e;have:=aJ.head_le h1 d (List.mem_of_mem_drop hd);omega
    ·exact e5 q e d hd
theorem rf:∀ {b:Nat} {l:List aZ},2*b<=l.length->wt ((cO l).take b)=wt (l.take (2*b))/\((cO l).take b).flatMap Prod.snd=(l.take (2*b)).flatMap Prod.snd
 | 0,l,_=>by simp[wt]
 | b+1,[],h=>by simp at h
 | b+1,[_],h=>by simp at h;omega
 | b+1,x ::y ::r,h=>by
  have ih:=rf (b:=b) (l:=r) (by simp at h;omega);rw[show 2*(b+1)=(2*b+1)+1 by omega];simp only[cO,List.take_succ_cons,ig,List.flatMap_cons,ih.1,ih.2];constructor
  ·omega
  ·simp
theorem tW:∀ {b:Nat} {l:List aZ} {x:aZ},2*b<=l.length->(∀ y∈l,0<=y.1)->x∈l.take (2*b)->∃ p∈(cO l).take b,x.1<=p.1
 | 0,l,x,_,_,h=>by simp at h
 | b+1,[],x,h,_,_=>by simp at h
 | b+1,[_],x,h,_,_=>by simp at h;omega
 | b+1,y ::z ::r,x,h,hp,hx=>by
  rw[show 2*(b+1)=(2*b+1)+1 by omega]at hx;simp only[List.take_succ_cons,List.mem_cons]at hx;have hy:=hp y (by simp);have hz:=hp z (by simp);rcases hx with rfl | rfl | hx
  ·exact⟨_,by simp only[cO,List.take_succ_cons];exact List.mem_cons_self,by show _<=_+_;omega⟩
  ·exact⟨_,by simp only[cO,List.take_succ_cons];exact List.mem_cons_self,by show _<=_+_;omega⟩
  ·obtain⟨p,h1,h2⟩:=tW (b:=b) (l:=r) (by simp at h;omega) (fun y hy=>hp y (by simp[hy])) hx;exact⟨p,by simp only[cO,List.take_succ_cons];exact List.mem_cons_of_mem _ h1,h2⟩
end Go.V
/-! Lengths of codes by coins and packages: what is chosen fills all codes, and no choice counts less. Plain Lean; no program. -/
namespace Go.V
def qk(g:aZ->Int)(l:List aZ):Int:=(l.map g).sum
theorem mQ(g:aZ->Int)(a b:List aZ):qk g (a++b)=qk g a+qk g b:=by simp[qk]
theorem fU(g:aZ->Int)(a:aZ)(b:List aZ):qk g (a ::b)=g a+qk g b:=by simp[qk]
theorem Ck(g:aZ->Int):qk g []=0:=rfl
theorem vB(g:aZ->Int){a b:List aZ}(h:a.Perm b):qk g a=qk g b:=by
 induction h with
 | nil=>rfl
 | cons x _ ih=>rw[fU,fU,ih]
 | swap x y l=>rw[fU,fU,fU,fU];omega
 | trans _ _ h1 h2=>exact h1.trans h2
def gI(g:aZ->Int)(first:List aZ)(i:Nat):Int:=g (first.getD i (0,[]))
theorem nC(g:aZ->Int)(first:List aZ):∀ {a:Nat},a<=first.length->qk g (first.take a)=aO a (gI g first)
 | 0,_=>by simp[qk,aO]
 | a+1,h=>by
  have h':a<first.length:=by omega
  rw[List.take_succ_eq_append_getElem h',mQ,nC g first (by omega)];simp only[aO,fU,Ck,gI];rw[List.getD_eq_getElem?_getD,List.getElem?_eq_getElem h'];simp
def DD(g:aZ->Int):Prop:=∀ a b:aZ,g (a.1+b.1,a.2++b.2)=g a+g b
theorem tU{g:aZ->Int}(hg:DD g):∀ {b:Nat} {l:List aZ},2*b<=l.length->qk g ((cO l).take b)=qk g (l.take (2*b))
 | 0,l,_=>by simp[qk]
 | b+1,[],h=>by simp at h
 | b+1,[_],h=>by simp at h;omega
 | b+1,x ::y ::r,h=>by
  have ih:=tU hg (b:=b) (l:=r) (by simp at h;omega);rw[show 2*(b+1)=(2*b+1)+1 by omega];simp only[cO,List.take_succ_cons,fU,ih,hg x y];omega
theorem dS(k:Nat):(0:Int)<2^k:=by
 have h:=Nat.two_pow_pos k;obtain⟨q,hq⟩:∃ q:Nat,q=2^k:=⟨_,rfl⟩;have e:(2:Int)^k=(q:Int):=by rw[hq];simp
 rw[e];omega
theorem pow_succ'(k:Nat):(2:Int)^(k+1)=2*2^k:=by rw[Int.pow_succ];omega
theorem CI{first:List aZ}(hp:∀ x∈first,0<x.1):∀ k,∀ x∈jh first k,0<x.1 :=
 uW (Q:=fun _ x=>0<x.1) (fun k a b ha hb=>by show 0<a.1+b.1;omega) (fun k x hx=>hp x hx)
theorem sp {first:List aZ} (hs:SC first) (hp:∀ x∈first,0<x.1):∀(j k:Nat),k<=(jh first j).length →
    ∃ (x:Nat->Nat) (a:Nat),(∀ i,x i<=j+1)/\(∀ i,a<=i->x i=0)/\(∀ i,i<a->1<=x i)/\a<=first.length ∧
      (∀ c∈first.take a,c∈(jh first j).take k)/\(∀ i i',i<=i'->x i'<=x i) ∧
      aO first.length (fun i=>2^(j+1)-2^(j+1-x i))=2^j*(k:Int) ∧
      ∀ g,DD g->qk g ((jh first j).take k)=aO first.length (fun i=>gI g first i*(x i:Int))
  | 0,k,hk=>by
    refine⟨fun i=>if i<k then 1 else 0,k,?_,?_,?_,hk,fun c hc=>hc,?_,?_,?_⟩
    · intro i;dsimp only;split <;>omega
    · intro i hi;dsimp only;rw[if_neg (by omega)]
    · intro i hi;dsimp only;rw[if_pos hi];omega
    · intro i i' h;dsimp only;split <;>split <;>omega
    · have:aO first.length (fun i=>(2:Int)^(0+1)-2^(0+1-(if i<k then 1 else 0)))=aO first.length (fun i=>if i<k then 1 else 0):=by
        apply aY;intro i hi;by_cases e:i<k <;>simp[e]
      have D8:k<=first.length:=hk;rw[this,jI (fun _=>1) D8,fH];simp
    · intro g hg;show qk g (first.take k)=_;have D8:k<=first.length:=hk;rw[nC g first D8,← jI (gI g first) D8];apply aY;intro i hi;by_cases e:i<k <;>simp[e]
  | j + 1,k,hk=>by
    have Kq:=CI hp j;have D8:k<=first.length+(cO (jh first j)).length:=by
      have:=hk;simp only[jh,fx,eI]at this;exact this
    obtain⟨a,b,e1,e2,e3,e4,e5⟩:=mZ (N:=k) (k:=k) (cs:=first) (ps:=cO (jh first j)) (Nat.le_refl _) D8 hs;have Ou:2*b<=(jh first j).length:=by rw[fe]at e3;omega
    obtain⟨x',a',x1,x2,x3,x4,x5,x6,x7,x8⟩:=sp hs hp j (2*b) Ou;have TB:a'<=a:=by
      rcases Nat.lt_or_ge a a' with DF | DK
      · exfalso;have hi:a<first.length:=by omega
        have hm:first[a]∈first.take a':=List.mem_take_iff_getElem.2 ⟨a,by omega,rfl⟩
        obtain⟨p,q1,q2⟩:=tW Ou (fun y hy=>Int.le_of_lt (Kq y hy)) (x5 _ hm);have hd:first[a]∈first.drop a:=by rw[List.drop_eq_getElem_cons hi];exact List.mem_cons_self
        have:=e5 p q1 _ hd;omega
      · exact DK
    refine⟨fun i=>(if i<a then 1 else 0)+x' i,a,?_,?_,?_,e2,?_,?_,?_,?_⟩
    · intro i;have:=x1 i;dsimp only;split <;>omega
    · intro i hi;have:=x2 i (by omega);dsimp only;rw[if_neg (by omega)];omega
    · intro i hi;dsimp only;rw[if_pos hi];omega
    · intro c hc;exact e4.symm.subset (List.mem_append_left _ hc)
    · intro i i' h;have:=x6 i i' h;dsimp only;split <;>split <;>omega
    · have:aO first.length (fun i=>(2:Int)^(j+1+1)-2^(j+1+1-((if i<a then 1 else 0)+x' i))) =
          aO first.length (fun i=>(if i<a then(2:Int)^(j+1) else 0)+(2^(j+1)-2^(j+1-x' i))):=by
        apply aY;intro i hi;have h1:=x1 i;split
        · rw[show j+1+1-(1+x' i)=j+1-x' i by omega,pow_succ' (j+1)];omega
        · have:=x2 i (by omega);rw[this];simp
      rw[this,fb,jI (fun _=>(2:Int)^(j+1)) e2,fH,x7,pow_succ' j,← e1];rw[Int.natCast_add,Int.natCast_mul,Int.mul_add,Int.mul_comm (a:Int),Int.mul_left_comm,Int.mul_assoc 2 (2^j) (b:Int)];rfl
    · intro g hg;show qk g ((cJ first (cO (jh first j))).take k)=_;rw[vB g e4,mQ,tU hg Ou,x8 g hg,nC g first e2,← jI (gI g first) e2,← fb];apply aY;intro i hi;by_cases e:i<a
      · simp[e,Int.mul_add]
      · simp[e]
theorem o0{N:Nat}{c:Nat->Int}(hc:∀ i i',i<=i'->i'<N->c i<=c i')(p:Nat->Bool):∀ n,n<=N->∃ b,b<=n/\aO n (fun i=>if p i then 1 else 0)=(b:Int)/\aO b c<=aO n (fun i=>if p i then c i else 0)
 | 0,_=>⟨0,by omega,rfl,Int.le_refl _⟩
 | n+1,hn=>by
  obtain⟨b,h1,h2,h3⟩:=o0 hc p n (by omega);by_cases hp:p n=true
  ·refine⟨b+1,by omega,?_,?_⟩
   ·simp only[aO,h2,hp,if_true];omega
   ·have:=hc b n h1 (by omega);simp only[aO,hp,if_true];omega
  ·refine⟨b,by omega,?_,?_⟩
   ·simp only[aO,h2,hp];simp
   ·simp only[aO,hp];simpa using h3
theorem qO{N:Nat}{c:Nat->Int}(hc:∀ i,i<N->0<=c i){a b:Nat}(h:a<=b)(hb:b<=N):aO a c<=aO b c:=by
  induction b with
  | zero => have:a=0:=by omega
            subst this;exact Int.le_refl _
  | succ b ih =>
    by_cases e:a=b+1
    · subst e;exact Int.le_refl _
    · have:=ih (by omega) (by omega);have:=hc b (by omega);simp only[aO];omega
theorem zB{first:List aZ}(hs:SC first):∀ i i',i<=i'->i'<first.length->cI first i<=cI first i':=by
 intro i i' h h';have hi:i<first.length:=by omega
 have:=aJ.get hs h (List.getElem?_eq_getElem hi) (List.getElem?_eq_getElem h');simpa[cI,List.getD_eq_getElem?_getD,hi,h']using this
theorem yK{first:List aZ}(hp:∀ x∈first,0<x.1):∀ i,i<first.length->0<cI first i:=by
 intro i hi;have:=hp _ (List.getElem_mem hi);simpa[cI,List.getD_eq_getElem?_getD,hi]using this
theorem CX {first:List aZ} (hs:SC first) (hp:∀ x∈first,0<x.1):∀(j k:Nat)(y:Nat->Nat),(∀ i,i<first.length->y i<=j+1)->k<=(jh first j).length →
    2^j*(k:Int)<=aO first.length (fun i=>2^(j+1)-2^(j+1-y i))->wt ((jh first j).take k)<=aO first.length (fun i=>cI first i*(y i:Int))
  | 0,k,y,hy,hk,h=>by
    obtain⟨b,b1,b2,b3⟩:=o0 (zB hs) (fun i=>decide (1<=y i)) first.length (Nat.le_refl _);have h1:aO first.length (fun i=>(2:Int)^(0+1)-2^(0+1-y i))=aO first.length (fun i=>if decide (1<=y i) then 1 else 0):=by
      apply aY;intro i hi;have:=hy i hi;by_cases e:1<=y i
      · have:y i=1:=by omega
        simp[this]
      · have:y i=0:=by omega
        simp[this]
    have h2:aO first.length (fun i=>if decide (1<=y i) then cI first i else 0)=aO first.length (fun i=>cI first i*(y i:Int)):=by
      apply aY;intro i hi;have:=hy i hi;by_cases e:1<=y i
      · have:y i=1:=by omega
        simp[this]
      · have:y i=0:=by omega
        simp[this]
    rw[h1,b2]at h;have Nj:k<=b:=by simp at h;omega
    show wt (first.take k)<=_;rw[qu first hk,← h2];exact Int.le_trans (qO (fun i hi=>Int.le_of_lt (yK hp i hi)) Nj b1) b3
  | j + 1, k, y,hy,hk,h=>by
    obtain⟨b,b1,b2,b3⟩:=o0 (zB hs) (fun i=>decide (1<=y i)) first.length (Nat.le_refl _);have hS:=rq hs j;have PG:=kg hS;have D8:k<=first.length+(cO (jh first j)).length:=by
      have:=hk;simp only[jh,fx,eI]at this;exact this
    have key:aO first.length (fun i=>cI first i*(y i:Int))=aO first.length (fun i=>if decide (1<=y i) then cI first i else 0)+aO first.length (fun i=>cI first i*((y i-1:Nat):Int)):=by
      rw[← fb];apply aY;intro i hi;by_cases e:1<=y i
      · have e2:(y i:Int)=1+((y i-1:Nat):Int):=by omega
        simp only[e,decide_true,if_true];rw[e2,Int.mul_add];simp
      · have:y i=0:=by omega
        simp[this]
    have hw:aO first.length (fun i=>(2:Int)^(j+1+1)-2^(j+1+1-y i))=2^(j+1)*(b:Int)+aO first.length (fun i=>2^(j+1)-2^(j+1-(y i-1))):=by
      rw[← b2,← oK,← fb];apply aY;intro i hi;have:=hy i hi;by_cases e:1<=y i
      · simp only[e,decide_true,if_true];rw[show j+1+1-y i=j+1-(y i-1) by omega,pow_succ' (j+1)];omega
      · have:y i=0:=by omega
        simp[this]
    have OI:0<=aO first.length (fun i=>(2:Int)^(j+1)-2^(j+1-(y i-1))):=by
      have:=ir (n:=first.length) (f:=fun _=>(0:Int)) (g:=fun i=>(2:Int)^(j+1)-2^(j+1-(y i-1))) (fun i hi=>by
        have h1:2^(j+1-(y i-1))<=2^(j+1):=Nat.pow_le_pow_right (n:=2) (by omega) (by omega);have e1:((2^(j+1-(y i-1)):Nat):Int)=2^(j+1-(y i-1)):=by simp
        have e2:((2^(j+1):Nat):Int)=2^(j+1):=by simp
        rw[← e1,← e2];omega)
      rw[gP]at this;exact this
    show wt ((cJ first (cO (jh first j))).take k)<=_;rw[key];have Pq:0<=aO first.length (fun i=>cI first i*((y i-1:Nat):Int)):=by
      have:=ir (n:=first.length) (f:=fun _=>(0:Int)) (g:=fun i=>cI first i*((y i-1:Nat):Int)) (fun i hi=>Int.mul_nonneg (Int.le_of_lt (yK hp i hi)) (by omega));rw[gP]at this;exact this
    by_cases Nj:k<=b
    · have hm:=iS (N:=k) (a:=k) (b:=0) (cs:=first) (ps:=cO (jh first j)) (by omega) hs PG (by omega) (by omega);rw[Nat.add_zero,List.take_zero,om,qu first (by omega)]at hm;have:=qO (c:=cI first) (fun i hi=>Int.le_of_lt (yK hp i hi)) Nj b1;omega
    · obtain⟨q,hq⟩:∃ q,k=b+q:=⟨k-b,by omega⟩;subst hq;have h2:2^j*((2*q:Nat):Int)<=aO first.length (fun i=>2^(j+1)-2^(j+1-(y i-1))):=by
        rw[hw]at h;have e1:(2:Int)^(j+1)*((b+q:Nat):Int)=2^(j+1)*(b:Int)+2^(j+1)*(q:Int):=by rw[Int.natCast_add,Int.mul_add]
        have e2:(2:Int)^j*((2*q:Nat):Int)=2^(j+1)*(q:Int):=by
          rw[pow_succ' j,Int.natCast_mul,Int.mul_comm 2 ((2:Int)^j),Int.mul_assoc];rfl
        omega
      have Ic :q<=(cO (jh first j)).length:=by
        have:=hk;simp only[jh,fx,eI]at this
        -- as wide as all that there is
        have DN:aO first.length (fun i=>(2:Int)^(j+1)-2^(j+1-(y i-1)))<=(first.length:Int)*(2^(j+1)-1):=by
          rw[← fH];apply ir;intro i hi;have:=dS (j+1-(y i-1));omega
        have hl:=m0 first j
        rw[fe];rcases Nat.lt_or_ge ((jh first j).length / 2) q with DF | DK
        · exfalso;have h3:(jh first j).length+1<=2*q:=by omega
          -- 2q ≤ 2n - n/2^j
          have h4:(2:Int)^j*((2*q:Nat):Int)<=(first.length:Int)*(2^(j+1)-1):=Int.le_trans h2 DN;have h5:2^j*(2*q)+first.length<=first.length*(2*2^j):=by
            have e1:((2^j:Nat):Int)=2^j:=by simp
            have e2:(first.length:Int)*(2^(j+1)-1)=(first.length:Int)*(2*2^j)-first.length:=by rw[pow_succ',Int.mul_sub];simp
            rw[e2]at h4;have e3:((2^j*(2*q):Nat):Int)=2^j*((2*q:Nat):Int):=by rw[Int.natCast_mul];simp
            have e4:((first.length*(2*2^j):Nat):Int)=(first.length:Int)*(2*2^j):=by rw[Int.natCast_mul];simp
            apply Int.ofNat_le.1;rw[Int.natCast_add,e3,e4];generalize (2:Int)^j*((2*q:Nat):Int)=z1 at *;generalize (first.length:Int)*(2*2^j)=z2 at *;omega
          have JC:=Nat.two_pow_pos j;have e:first.length*(2*2^j)=2^j*(2*first.length):=by rw[Nat.mul_comm 2 (2^j),Nat.mul_left_comm,Nat.mul_comm first.length 2]
          have OT:2*q<=2*first.length:=by
            rcases Nat.lt_or_ge (2*first.length) (2*q)with hl | hg
            · exfalso;have:=Nat.mul_le_mul_left (2^j) (Nat.le_of_lt hl);have h8:=Nat.mul_lt_mul_of_pos_left hl JC;rw[e]at h5;generalize 2^j*(2*q)=z1 at *;generalize 2^j*(2*first.length)=z2 at *;omega
            · exact hg
          have h6:first.length+2^j-1<2^j*(2*first.length-2*q+1):=by
            obtain⟨d,hd⟩:∃ d,2*first.length=2*q+d:=⟨2*first.length-2*q,by omega⟩;rw[e,hd,Nat.mul_add]at h5;rw[show 2*first.length-2*q+1=d+1 by omega,Nat.mul_add,Nat.mul_one];omega
          have h7:(first.length+2^j-1) / 2^j<2*first.length-2*q+1:=(Nat.div_lt_iff_lt_mul JC).2 (by rw[Nat.mul_comm];exact h6);omega
        · exact DK
      have PZ:2*q<=(jh first j).length:=by rw[fe]at Ic;omega
      have ih:=CX hs hp j (2*q) (fun i=>y i-1) (fun i hi=>by have:=hy i hi;omega) PZ h2;have hm:=iS (N:=b+q) (a:=b) (b:=q) (cs:=first) (ps:=cO (jh first j)) (by omega) hs PG b1 Ic;rw[(rf PZ).1,qu first b1]at hm;omega
end Go.V
/-! Lengths of codes, symbol by symbol: all codes are used, none is too long, none is better. Plain Lean; no program. -/
namespace Go.V
theorem wu{α:Type}(key:α->Int)(x:α):∀ l:List α,(ue key x l).Perm (x ::l)
 | []=>by simp[ue]
 | y ::ys=>by
  unfold ue;split
  ·exact((wu key x ys).cons y).trans (List.Perm.swap x y ys)
  ·exact List.Perm.refl _
theorem gf{α:Type}(key:α->Int)(xs:List α):(cV key xs).Perm xs:=by
 have:∀(xs l:List α),(xs.foldl (fun l x=>ue key x l) l).Perm (l++xs):=by
  intro xs
  induction xs with
  | nil=>intro l;simp
  | cons x xs ih =>
   intro l;refine(ih _).trans ?_;have h1:(ue key x l++xs).Perm ((x ::l)++xs):=(wu key x l).append_right xs;exact h1.trans (List.perm_middle (a:=x) (l₁:=l) (l₂:=xs)).symm
 simpa[cV]using this xs []
def sy(c:aZ):Nat:=c.2.headD 0
def PS(xs:List Int)(f:Nat->Int):Int:=aO xs.length (fun s=>if 0<xs.getD s 0 then f s else 0)
theorem yX(g:aZ->Int)(xs:List Int):∀ k,k<=xs.length->qk g (aT 0 (xs.take k))=aO k (fun s=>if 0<xs.getD s 0 then g (dM (xs.getD s 0),[s]) else 0)
 | 0,_=>by simp[aT,qk,aO]
 | k+1,h=>by
  have h':k<xs.length:=by omega
  have hd:xs.getD k 0=xs[k]:=by simp[List.getD_eq_getElem?_getD,h']
  rw[List.take_succ_eq_append_getElem h',iF,mQ,yX g xs k (by omega)];have hl:(xs.take k).length=k:=by simp;omega
  simp only[aO,hd,hl,Nat.zero_add,aT];split <;>simp[qk]
theorem zP(g:aZ->Int)(xs:List Int):qk g (aM xs)=PS xs (fun s=>g (dM (xs.getD s 0),[s])):=by
 have h:=yX g xs xs.length (Nat.le_refl _);rw[List.take_length]at h;rw[PS,← h];exact vB g (gf _ _)
theorem jH(g:aZ->Int)(xs:List Int):aO (aM xs).length (gI g (aM xs))=PS xs (fun s=>g (dM (xs.getD s 0),[s])):=by
 rw[← zP,← nC g _ (Nat.le_refl _),List.take_length]
theorem kZ:∀(xs:List Int)(i:Nat),(aT i xs).Pairwise (fun a b=>sy a<sy b)
 | [],i=>by simp[aT]
 | n ::ns,i=>by
  unfold aT;split
  ·refine List.pairwise_cons.2 ⟨fun z hz=>?_,kZ ns (i+1)⟩;obtain⟨_,_,s,h3,h4,_⟩:=iN ns (i+1) z hz;simp[sy,h3];omega
  ·exact kZ ns (i+1)
theorem wV(xs:List Int):((aM xs).map sy).Nodup:=by
 have h1:((aT 0 xs).map sy).Nodup:=by
  rw[List.Nodup,List.pairwise_map];exact(kZ xs 0).imp (fun h=>by omega)
 exact((gf Prod.fst (aT 0 xs)).map sy).nodup_iff.2 h1
theorem AG{xs:List Int}{i j:Nat}(hi:i<(aM xs).length)(hj:j<(aM xs).length)(h:sy (aM xs)[i]=sy (aM xs)[j]):i=j:=by
 have:=wV xs;rw[List.Nodup,List.pairwise_iff_getElem]at this;rcases Nat.lt_trichotomy i j with DF | he | ET
 ·exact absurd (by rw[List.getElem_map,List.getElem_map];exact h) (this i j (by simpa using hi) (by simpa using hj) DF)
 ·exact he
 ·exact absurd (by rw[List.getElem_map,List.getElem_map];exact h.symm) (this j i (by simpa using hj) (by simpa using hi) ET)
theorem lQ{xs:List Int}{c:aZ}(h:c∈aM xs):c.2=[sy c]/\sy c<xs.length:=by
 obtain⟨_,_,s,h3,h4⟩:=kC h;simp[sy,h3,h4]
theorem kD{xs:List Int}{c:aZ}(h:c∈aM xs):0<xs.getD (sy c) 0/\c.1=dM (xs.getD (sy c) 0):=by
 have h0:c∈aT 0 xs:=(gf Prod.fst (aT 0 xs)).subset h;have:∀(ys:List Int)(i:Nat),c∈aT i ys->0<ys.getD (sy c-i) 0/\c.1=dM (ys.getD (sy c-i) 0):=by
  intro ys
  induction ys with
  | nil=>intro i h;simp[aT]at h
  | cons n ns ih =>
   intro i h;have more:c∈aT (i+1) ns->0<(n ::ns).getD (sy c-i) 0/\c.1=dM ((n ::ns).getD (sy c-i) 0):=by
    intro h;obtain⟨_,_,s,h3,h4,_⟩:=iN ns (i+1) c h;have hs:sy c=s:=by simp[sy,h3]
    have:=ih (i+1) h;have e:sy c-i=(sy c-(i+1))+1:=by omega
    rw[e];simpa using this
   unfold aT at h;split at h
   ·rename_i hn;rcases List.mem_cons.1 h with e | e
    ·subst e;simp[sy];exact hn
    ·exact more e
   ·exact more h
 simpa using this xs 0 h0
theorem fG(f:Nat->Int){i:Nat}:∀ {n:Nat},i<n->aO n (fun j=>if j=i then f j else 0)=f i
 | 0,h=>by omega
 | n+1,h=>by
  by_cases e:i=n
  ·subst e;have:aO i (fun j=>if j=i then f j else 0)=aO i (fun _=>0):=aY (fun j hj=>by rw[if_neg (by omega)]);simp only[aO,this,gP];simp
  ·have:=fG f (i:=i) (n:=n) (by omega);simp only[aO,this];rw[if_neg (by omega)];omega
theorem sm(s:Nat):∀ l:List aZ,((l.flatMap Prod.snd).count s:Int)=qk (fun c=>(c.2.count s:Int)) l
 | []=>by simp[qk]
 | c ::l=>by
  have:=sm s l;simp only[List.flatMap_cons,List.count_append,fU];omega
theorem jv{f:Nat->Int}:∀ {n:Nat},(∀ i,i<n->0<f i)->∀ i,i<n->f i<=aO n f/\(2<=n->f i<aO n f)
 | 0,_,i,hi=>by omega
 | n+1,h,i,hi=>by
  have hn:=h n (by omega);have HE:0<=aO n f:=by
   have:=ir (n:=n) (f:=fun _=>(0:Int)) (g:=f) (fun i hi=>Int.le_of_lt (h i (by omega)));rw[gP]at this;exact this
  by_cases e:i=n
  ·subst e;refine⟨by simp only[aO];omega,fun h2=>?_⟩;have:=(jv (f:=f) (n:=i) (fun j hj=>h j (by omega)) 0 (by omega)).1;have:=h 0 (by omega);simp only[aO];omega
  ·have ih:=jv (f:=f) (n:=n) (fun j hj=>h j (by omega)) i (by omega);refine⟨by simp only[aO];omega,fun _=>by simp only[aO];omega⟩
theorem nX {xs:List Int} {m:Nat} (hm:1<=m) (h2:2<=(aM xs).length) (hn:(aM xs).length<=2^m) :
    (∀ s,¬ 0<xs.getD s 0->(bU xs m).count s=0)/\(∀ s,0<xs.getD s 0->1<=(bU xs m).count s/\(bU xs m).count s<=m) ∧
    PS xs (fun s=>2^(m-(bU xs m).count s))=2^m ∧
    (∀ y:Nat->Nat,(∀ s,0<xs.getD s 0->y s<=m)->PS xs (fun s=>2^(m-y s))<=2^m->PS xs (fun s=>dM (xs.getD s 0)*((bU xs m).count s:Int))<=PS xs (fun s=>dM (xs.getD s 0)*(y s:Int))):=by
  have hs:SC (aM xs):=i7 _;have hp:∀ x∈aM xs,0<x.1:=fun x hx=>(kC hx).1;have hk:=v9 hm hn;have JN:bU xs m=((jh (aM xs) (m-1)).take (2*(aM xs).length-2)).flatMap Prod.snd:=by unfold bU;rw[if_neg (by omega)]
  obtain⟨x,a,x1,x2,x3,x4,x5,x6,x7,x8⟩:=sp hs hp (m-1) _ hk;have em:m-1+1=m:=by omega
  rw[em]at x1 x7;generalize hN:(aM xs).length=N at *
  -- Kt often each symbol is bU
  have FL:∀ s,DD (fun c=>(c.2.count s:Int)):=fun s a b=>by simp
  have EU:∀ s,((bU xs m).count s:Int)=aO N (fun i=>gI (fun c=>(c.2.count s:Int)) (aM xs) i*(x i:Int)):=by
    intro s;rw[JN,sm,x8 _ (FL s)]
  have F9:∀ i,(h:i<N)->(aM xs).getD i (0,[])=(aM xs)[i]'(by omega):=by
    intro i h;have h':i<(aM xs).length:=by omega
    simp[List.getD_eq_getElem?_getD,h']
  have hx:∀ i,i<N->((bU xs m).count (sy ((aM xs).getD i (0,[]))):Int)=(x i:Int):=by
    intro i hi;rw[EU];rw[← fG (fun j=>(x j:Int)) hi];apply aY;intro j hj;have EM:j<(aM xs).length:=by omega
    have GY:i<(aM xs).length:=by omega
    have c1:=lQ (List.getElem_mem EM);simp only[gI];rw[F9 i hi,F9 j hj,c1.1];by_cases e:j=i
    · subst e;simp
    · have:sy (aM xs)[j]≠sy (aM xs)[i]:=fun h=>e (AG EM GY h);simp[e,this]
  have Nh:aO N (fun i=>(2:Int)^(m-x i))=2^m:=by
    have e1:aO N (fun i=>(2:Int)^m-2^(m-x i))+aO N (fun i=>(2:Int)^(m-x i))=aO N (fun _=>(2:Int)^m):=by
      rw[← fb];apply aY;intro i hi;omega
    rw[x7,fH]at e1;have e2:(2:Int)^m=2*2^(m-1):=by rw[← pow_succ',em]
    have e3:(2:Int)^(m-1)*((2*N-2:Nat):Int)+2^m=N*2^m:=by
      obtain⟨d,hd⟩:∃ d:Nat,N=d+1:=⟨N-1,by omega⟩;subst hd;rw[e2,show 2*(d+1)-2=2*d by omega];generalize (2:Int)^(m-1)=z;rw[Int.natCast_mul,Int.natCast_add,Int.add_mul];rw[Int.mul_left_comm,Int.mul_left_comm (d:Int) 2 z,Int.mul_comm z (d:Int)];simp
    omega
  have ID:∀ i,i<N->1<=x i:=by
    intro i hi;rcases Nat.eq_zero_or_pos (x i)with h0 | h0
    · exfalso;have:=(jv (f:=fun i=>(2:Int)^(m-x i)) (n:=N) (fun j hj=>dS _) i hi).2 h2;rw[Nh,h0]at this;simp at this
    · exact h0
  have Gk : ∀ s,0<xs.getD s 0->∃ i,i<N/\sy ((aM xs).getD i (0,[]))=s:=by
    intro s EF;have SY:s<xs.length:=by
      rcases Nat.lt_or_ge s xs.length with h | h
      · exact h
      · simp[List.getD_eq_getElem?_getD,h]at EF
    have DU :(dM (xs.getD s 0),[s])∈aT 0 xs:=by
      have:∀(ys:List Int)(i j:Nat),0<ys.getD j 0->(dM (ys.getD j 0),[i+j])∈aT i ys:=by
        intro ys
        induction ys with
        | nil=>intro i j h;simp at h
        | cons n ns ih =>
          intro i j h;cases j with
          | zero=>simp at h;simp[aT,h]
          | succ j =>
            have:=ih (i+1) j (by simpa using h);unfold aT;have e:i+1+j=i+(j+1):=by omega
            rw[e]at this;split
            · exact List.mem_cons_of_mem _ (by simpa using this)
            · simpa using this
      simpa using this xs 0 s EF
    have KI:(dM (xs.getD s 0),[s])∈aM xs:=(gf Prod.fst (aT 0 xs)).symm.subset DU;obtain⟨i,hi,he⟩:=List.mem_iff_getElem.1 KI;refine⟨i,by omega,?_⟩;rw[F9 i (by omega),he];rfl
  have DH:∀ s,0<xs.getD s 0->1<=(bU xs m).count s/\(bU xs m).count s<=m:=by
    intro s EF;obtain⟨i,hi,rfl⟩:=Gk s EF;have:=hx i hi;have:=ID i hi;have:=x1 i;omega
  refine⟨?_,DH,?_,?_⟩
  · intro s EF;have h:((bU xs m).count s:Int)=0:=by
      rw[EU];rw[show(0:Int)=aO N (fun _=>0) from(gP N).symm];apply aY;intro j hj;have EM:j<(aM xs).length:=by omega
      have c1:=lQ (List.getElem_mem EM);have c2:=kD (List.getElem_mem EM);simp only[gI];rw[F9 j hj,c1.1];have:sy (aM xs)[j]≠s:=fun e=>EF (by rw[← e];exact c2.1);simp[this]
    omega
  · have h:=jH (fun c=>(2:Int)^(m-(bU xs m).count (sy c))) xs;rw[hN]at h;have e:PS xs (fun s=>(2:Int)^(m-(bU xs m).count s))=PS xs (fun s=>(2:Int)^(m-(bU xs m).count (sy (dM (xs.getD s 0),[s])))):=rfl;rw[e,← h,← Nh];apply aY;intro i hi;have:=hx i hi;have:(bU xs m).count (sy ((aM xs).getD i (0,[])))=x i:=by omega
    simp only[gI,this]
  · intro y hy Fy;have h1:=jH (fun c=>c.1*((bU xs m).count (sy c):Int)) xs;have Ht:=jH (fun c=>c.1*(y (sy c):Int)) xs;have h3:=jH (fun c=>(2:Int)^(m-y (sy c))) xs;rw[hN]at h1 Ht h3;have e1:PS xs (fun s=>dM (xs.getD s 0)*((bU xs m).count s:Int))=PS xs (fun s=>(dM (xs.getD s 0),[s]).1*((bU xs m).count (sy (dM (xs.getD s 0),[s])):Int)):=rfl;have e2:PS xs (fun s=>dM (xs.getD s 0)*(y s:Int))=PS xs (fun s=>(dM (xs.getD s 0),[s]).1*(y (sy (dM (xs.getD s 0),[s])):Int)):=rfl;have e3:PS xs (fun s=>(2:Int)^(m-y s))=PS xs (fun s=>(2:Int)^(m-y (sy (dM (xs.getD s 0),[s])))):=rfl;rw[e3,← h3]at Fy;rw[e1,← h1,e2,← Ht]
    -- the sp that y is
    have IC:∀ i,i<(aM xs).length->y (sy ((aM xs).getD i (0,[])))<=m-1+1:=by
      intro i hi;rw[em];apply hy;rw[F9 i (by omega)];exact(kD (List.getElem_mem hi)).1
    have hb:=CX hs hp (m-1) _ (fun i=>y (sy ((aM xs).getD i (0,[])))) IC hk ?_
    · rw[hN]at hb;have hw:wt ((jh (aM xs) (m-1)).take (2*N-2))=qk Prod.fst ((jh (aM xs) (m-1)).take (2*N-2)):=rfl;rw[hw,x8 Prod.fst (fun a b=>rfl)]at hb;have e4:aO N (gI (fun c=>c.1*((bU xs m).count (sy c):Int)) (aM xs))=aO N (fun i=>gI Prod.fst (aM xs) i*(x i:Int)):=by
        apply aY;intro i hi;simp only[gI];rw[hx i hi]
      rw[e4];exact hb
    · rw[em,hN];have e5:aO N (fun i=>(2:Int)^m-2^(m-y (sy ((aM xs).getD i (0,[])))))+aO N (gI (fun c=>(2:Int)^(m-y (sy c))) (aM xs))=aO N (fun _=>(2:Int)^m):=by
        rw[← fb];apply aY;intro i hi;simp only[gI];omega
      have e6:aO N (fun i=>(2:Int)^m-2^(m-x i))+aO N (fun i=>(2:Int)^(m-x i))=aO N (fun _=>(2:Int)^m):=by
        rw[← fb];apply aY;intro i hi;omega
      rw[Nh,x7]at e6;omega
end Go.V
/-! The laws of lengths of codes, of lists: all is used, the best, a greatest length more, all alike, so many times as great. Plain Lean; no program. -/
namespace Go.V
theorem BW(xs:List Int)(t s:Nat)(hs:s<xs.length):(sr xs t).getD s 0=xs.getD s 0+(if t=s then 1 else 0):=by
 unfold sr;simp only[List.getD_eq_getElem?_getD,List.getElem?_set];by_cases e:t=s
 ·subst e;simp[hs]
 ·simp[e]
theorem sE:∀(ss:List Nat)(xs:List Int)(s:Nat),s<xs.length->(fR ss xs).getD s 0=xs.getD s 0+(ss.count s:Int)
 | [],xs,s,_=>by simp[fR]
 | t ::ss,xs,s,h=>by
  have:=sE ss (sr xs t) s (by rw[qa];exact h);show(fR ss (sr xs t)).getD s 0=_;rw[this,BW xs t s h,List.count_cons];by_cases e:t=s
  ·simp[e];omega
  ·simp[e]
theorem we{xs:List Int}{most:Int}(h:xs.length<=256)(hn:(aM xs).length<=2^cH most):dL xs most=fR (bU xs (cH most)) (List.replicate xs.length 0):=by
 unfold dL;rw[if_neg (by omega),if_neg (by omega)]
theorem km{xs:List Int}{most:Int}(h:xs.length<=256)(hn:(aM xs).length<=2^cH most):(dL xs most).length=xs.length:=by
 rw[we h hn,eo];simp
theorem oV{xs:List Int}{most:Int}(h:xs.length<=256)(hn:(aM xs).length<=2^cH most){s:Nat}(hs:s<xs.length):(dL xs most).getD s 0=((bU xs (cH most)).count s:Int):=by
 rw[we h hn,sE _ _ _ (by simpa using hs)];simp[List.getD_eq_getElem?_getD,hs]
theorem zh:∀ k,jh [] k=[]
 | 0=>rfl
 | k+1=>by simp[jh,fx,zh k,cO,cJ]
theorem jr(xs:List Int):((aM xs).length:Int)=PS xs (fun _=>1):=by
 rw[← jH (fun _=>1) xs];have:aO (aM xs).length (gI (fun _=>1) (aM xs))=aO (aM xs).length (fun _=>1):=rfl;rw[this,fH];omega
theorem DB(xs:List Int)(c:Int)(f:Nat->Int):PS xs (fun s=>c*f s)=c*PS xs f:=by
 unfold PS;rw[← oK];apply aY;intro s hs;split <;>simp
theorem wT {xs:List Int} {m:Nat} (hm:1<=m) (hn:(aM xs).length<=2^m) :
    (∀ s,s<xs.length->¬ 0<xs.getD s 0->(bU xs m).count s=0)/\(∀ s,s<xs.length->0<xs.getD s 0->1<=(bU xs m).count s/\(bU xs m).count s<=m):=by
  by_cases h2:2<=(aM xs).length
  · obtain⟨h3,h4,_⟩:=nX hm h2 hn;exact⟨fun s _=>h3 s,fun s _=>h4 s⟩
  by_cases h1:(aM xs).length=1
  · obtain⟨c,hc⟩:=List.length_eq_one_iff.1 h1;have JN:bU xs m=[sy c]:=by
      unfold bU;rw[if_pos h1,hc];have:=(lQ (xs:=xs) (c:=c) (by rw[hc];simp)).1;simpa using this
    have Ig:=kD (xs:=xs) (c:=c) (by rw[hc];simp);have Ku : ∀ s,s<xs.length->0<xs.getD s 0->s=sy c:=by
      intro s hs hp;by_cases e:s=sy c
      · exact e
      · exfalso;have Ja:=jr xs;rw[h1]at Ja;have DF:sy c<xs.length:=(lQ (xs:=xs) (c:=c) (by rw[hc];simp)).2;have h3:=fG (fun _=>(1:Int)) hs;have h4:=fG (fun _=>(1:Int)) DF;have h5:aO xs.length (fun j=>if j=s then(1:Int) else 0)+aO xs.length (fun j=>if j=sy c then(1:Int) else 0)<=PS xs (fun _=>1):=by
          rw[← fb];apply ir;intro i hi;by_cases e1:i=s
          · subst e1;simp only[hp,e,if_true,if_false];omega
          · by_cases e2:i=sy c
            · subst e2;have:=Ig.1;simp only[e1,if_false,this,if_true];omega
            · simp only[e1,e2,if_false];split <;>omega
        rw[h3,h4]at h5;omega
    rw[JN];refine⟨fun s hs h0=>?_,fun s hs h0=>?_⟩
    · rw[List.count_singleton];have:¬ sy c=s:=fun e=>h0 (by rw[← e];exact Ig.1);simp[this]
    · have:=Ku s hs h0;subst this;simp;omega
  · have h0:(aM xs)=[]:=List.eq_nil_of_length_eq_zero (by omega);have JN:bU xs m=[]:=by unfold bU;rw[h0];simp[zh]
    have Ja:=jr xs;rw[h0]at Ja;rw[JN];refine⟨fun s _ _=>by simp,fun s hs hp=>?_⟩;exfalso;have h3:=fG (fun _=>(1:Int)) hs;have h5:aO xs.length (fun j=>if j=s then(1:Int) else 0)<=PS xs (fun _=>1):=by
      apply ir;intro i hi;by_cases e1:i=s
      · subst e1;simp only[hp,if_true];omega
      · simp only[e1,if_false];split <;>omega
    rw[h3]at h5;simp at Ja;omega
theorem zi{xs:List Int}{most:Int}(h:xs.length<=256)(hn:(aM xs).length<=2^cH most)(hm:1<=cH most){s:Nat}(hs:s<xs.length):
    0<=(dL xs most).getD s 0/\(dL xs most).getD s 0<=cH most/\(0<(dL xs most).getD s 0↔0<xs.getD s 0):=by
  rw[oV h hn hs];obtain⟨h1,h2⟩:=wT hm hn;by_cases e:0<xs.getD s 0
  · have:=h2 s hs e;exact⟨by omega,by omega,by constructor <;>intro _ <;>omega⟩
  · have:=h1 s hs e;exact⟨by omega,by omega,by constructor <;>intro _ <;>omega⟩
def fk(x:Int):Int:=if 1<=x/\x<=15 then 2^(15-x).toNat else 0
def eJ(xs:List Int):Int:=(xs.map fk).sum
theorem uB(f:Int->Int):∀ xs:List Int,(xs.map f).sum=aO xs.length (fun s=>f (xs.getD s 0))
 | xs=>by
  have:∀ k,k<=xs.length->((xs.take k).map f).sum=aO k (fun s=>f (xs.getD s 0)):=by
   intro k
   induction k with
   | zero=>intro _;simp[aO]
   | succ k ih =>
    intro h;have h':k<xs.length:=by omega
    rw[List.take_succ_eq_append_getElem h',List.map_append,List.sum_append,ih (by omega)];simp[aO,List.getD_eq_getElem?_getD,h']
  have:=this xs.length (Nat.le_refl _)
  rwa [List.take_length]at this
theorem Bz{xs:List Int}{most:Int}(h:xs.length<=256)(h2:2<=(aM xs).length)(hn:(aM xs).length<=2^cH most)(hm:1<=cH most)(L9:cH most<=15):eJ (dL xs most)=32768:=by
 obtain⟨f1,f2,f3,_⟩:=nX hm h2 hn;rw[eJ,uB,km h hn];have e:aO xs.length (fun s=>fk ((dL xs most).getD s 0))=PS xs (fun s=>2^(15-cH most)*2^(cH most-(bU xs (cH most)).count s)):=by
  apply aY;intro s hs;rw[oV h hn hs];by_cases e:0<xs.getD s 0
  ·have:=f2 s e;simp only[e,if_true,fk];rw[if_pos (by omega),← Int.pow_add];congr 1;omega
  ·simp only[e,if_false,f1 s e,fk];rw[if_neg (by omega)]
 rw[e,DB,f3,← Int.pow_add,show 15-cH most+cH most=15 by omega];rfl
end Go.V
/-! Codes of symbols out of lengths: lists alone. Plain Lean; no program. -/
namespace Go.V
theorem vG{α:Type}{P:List α->Prop}(h0:P [])(h1:∀ l x,P l->P (l++[x]))(l:List α):P l:=by
 have h:∀ r:List α,P r.reverse:=by
  intro r
  induction r with
  | nil=>exact h0
  | cons x r ih=>rw[List.reverse_cons];exact h1 _ _ ih
 have:=h l.reverse
 rwa [List.reverse_reverse]at this
def ln(ls:List Int)(s:Nat):Int:=ls.getD s 0
def i6(ls:List Int):List Nat:=(List.range ls.length).filter (fun s=>decide (0<ln ls s))
def ct(ls:List Int):Bool:=decide (ls.length<=256) && (ls.all (fun x=>decide (0<=x/\x<=15)) && ((decide ((i6 ls).length=1) && ls.all (fun x=>decide (x<=1))) || decide (eJ ls=32768)))
def d6(ls:List Int):List Nat:=cV (ln ls) (i6 ls)
def yZ(ls:List Int)(st:Int×Int×List Int)(s:Nat):Int×Int×List Int :=
 let nx:=st.1*2^(ln ls s-st.2.1).toNat
 (nx+1,ln ls s,st.2.2.set s nx)
def cQ(ls:List Int)(l:List Nat):Int×Int×List Int:=l.foldl (yZ ls) (0,0,List.replicate ls.length 0)
def jd(ls:List Int):List Int:=if ct ls then(cQ ls (d6 ls)).2.2 else []
def wS(ls:List Int)(l:List Nat):Int:=(l.map fun s=>(2:Int)^(15-ln ls s).toNat).sum
theorem AW(ls:List Int):wS ls []=0:=rfl
theorem ov(ls:List Int)(a b:List Nat):wS ls (a++b)=wS ls a+wS ls b:=by simp[wS]
theorem fS(ls:List Int)(a:Nat)(b:List Nat):wS ls (a ::b)=2^(15-ln ls a).toNat+wS ls b:=by simp[wS]
theorem ou(ls:List Int)(l:List Nat):0<=wS ls l:=by
 induction l with
 | nil=>simp[wS]
 | cons a l ih=>rw[fS];have:=dS (15-ln ls a).toNat;omega
theorem yW(ls:List Int){a b:List Nat}(h:a.Perm b):wS ls a=wS ls b:=by
 induction h with
 | nil=>rfl
 | cons x _ ih=>rw[fS,fS,ih]
 | swap x y l=>rw[fS,fS,fS,fS];omega
 | trans _ _ h1 h2=>exact h1.trans h2
theorem qZ{ls:List Int}{s:Nat}:s∈i6 ls↔s<ls.length/\0<ln ls s:=by simp[i6]
theorem xU(ls:List Int):(i6 ls).Nodup:=List.nodup_range.sublist List.filter_sublist
theorem iR(ls:List Int):(d6 ls).Perm (i6 ls):=gf _ _
theorem fX{ls:List Int}{s:Nat}:s∈d6 ls↔s<ls.length/\0<ln ls s:=by rw[(iR ls).mem_iff,qZ]
theorem mX(ls:List Int):(d6 ls).Nodup:=(iR ls).nodup_iff.2 (xU ls)
theorem jo(ls:List Int):aJ (ln ls) (d6 ls):=i7 _
theorem zf{ls:List Int}{s:Nat}(h:ls.length<=s):ln ls s=0:=by simp[ln,List.getD_eq_getElem?_getD,List.getElem?_eq_none h]
theorem lu{ls:List Int}{s:Nat}(h:s<ls.length):ln ls s=ls[s]:=by simp[ln,List.getD_eq_getElem?_getD,h]
structure Df(ls:List Int)(l:List Nat)(st:Int×Int×List Int):Prop where
 next:st.1*2^(15-st.2.1).toNat=wS ls l
 low:0<=st.1
 last:0<=st.2.1/\st.2.1<=15
 ge:∀ s∈l,ln ls s<=st.2.1
 len:st.2.2.length=ls.length
 out:∀ A s B,l=A++s ::B->st.2.2.getD s 0*2^(15-ln ls s).toNat=wS ls A
 none:∀ s,s ∉ l->st.2.2.getD s 0=0
 end_:l=[]∨∃ A s,l=A++[s]/\st.2.1=ln ls s
theorem oL{n l x:Int}(hl:0<=l/\l<=15)(hx:l<=x/\x<=15):n*2^(x-l).toNat*2^(15-x).toNat=n*2^(15-l).toNat:=by
 rw[Int.mul_assoc,← Int.pow_add];congr 2;omega
theorem rT(ls:List Int)(l:List Nat)(s:Nat):cQ ls (l++[s])=yZ ls (cQ ls l) s:=by simp[cQ]
theorem Dd(ls:List Int):∀ l:List Nat,aJ (ln ls) l->l.Nodup->(∀ s∈l,s<ls.length/\0<ln ls s/\ln ls s<=15)->Df ls l (cQ ls l):=by
 refine vG ?_ ?_
 ·intro _ _ _;refine⟨by simp[cQ,wS],by simp[cQ],by simp[cQ],by simp,by simp[cQ],?_,?_,.inl rfl⟩
  ·intro A s B h;simp at h
  ·intro s _;simp only[cQ,List.foldl_nil,List.getD_eq_getElem?_getD,List.getElem?_replicate];split <;>rfl
 ·intro l s ih hs hn hb;have hc:=ih hs.left (List.nodup_append.1 hn).1 (fun t ht=>hb t (List.mem_append_left _ ht));obtain⟨b1,b2,b3⟩:=hb s (by simp);have DQ:(cQ ls l).2.1<=ln ls s:=by
   rcases hc.end_ with rfl | ⟨A,t,rfl,e⟩
   ·show(0:Int)<=_;omega
   ·rw[e];exact hs.across t (by simp) s (by simp)
  have hx:=oL (n:=(cQ ls l).1) hc.last ⟨DQ,b3⟩;have MU:0<=(cQ ls l).1*2^(ln ls s-(cQ ls l).2.1).toNat:=Int.mul_nonneg hc.low (Int.le_of_lt (dS _));have MH:s ∉ l:=by
   intro h;have:=(List.nodup_append.1 hn).2.2 s h s (by simp);exact this rfl
  rw[rT];refine⟨?_,?_,?_,?_,?_,?_,?_,.inr ⟨l,s,rfl,rfl⟩⟩
  ·show(_+1)*_=_;rw[Int.add_mul,ov,← hc.next,← hx];simp[yZ,wS]
  ·show 0<=_+1;omega
  ·show 0<=ln ls s/\ln ls s<=15;omega
  ·intro t ht;show ln ls t<=ln ls s;rcases List.mem_append.1 ht with h | h
   ·exact hs.across t h s (by simp)
   ·have:t=s:=by simpa using h
    rw[this];omega
  ·simp[yZ,hc.len]
  ·intro A t B h;show((cQ ls l).2.2.set s _).getD t 0*_=_;rcases List.eq_nil_or_concat B with rfl | ⟨B',u,rfl⟩
   ·obtain⟨rfl,h2⟩:=List.append_inj' h rfl;have:s=t:=by simpa using h2
    subst this;rw[List.getD_eq_getElem?_getD,List.getElem?_set_self (by rw[hc.len];exact b1)];simp only[Option.getD_some];rw[hx,hc.next]
   ·rw[List.concat_eq_append,← List.cons_append,← List.append_assoc]at h;obtain⟨h1,h2⟩:=List.append_inj' h rfl;have DJ:s≠t:=by
     rintro rfl;exact MH (by rw[h1];simp)
    rw[List.getD_eq_getElem?_getD,List.getElem?_set_ne DJ,← List.getD_eq_getElem?_getD];exact hc.out A t B' h1
  ·intro t ht;simp only[List.mem_append,List.mem_singleton,not_or]at ht;show((cQ ls l).2.2.set s _).getD t 0=0;rw[List.getD_eq_getElem?_getD,List.getElem?_set_ne (fun e=>ht.2 e.symm),← List.getD_eq_getElem?_getD];exact hc.none t ht.1
theorem eF{ls:List Int}(h:ct ls=true):ls.length<=256/\(∀ s,0<=ln ls s/\ln ls s<=15)/\(((i6 ls).length=1/\∀ s,ln ls s<=1)∨eJ ls=32768):=by
 simp only[ct,Bool.and_eq_true,Bool.or_eq_true,decide_eq_true_eq,List.all_eq_true]at h;obtain⟨h1,h2,h3⟩:=h;have get:∀ {Q:Int->Prop},Q 0->(∀ x∈ls,Q x)->∀ s,Q (ln ls s):=by
  intro Q h0 hQ s;by_cases hs:s<ls.length
  ·rw[lu hs];exact hQ _ (List.getElem_mem hs)
  ·rw[zf (by omega)];exact h0
 refine⟨h1,get (Q:=fun x=>0<=x/\x<=15) (by omega) h2,h3.imp (fun⟨a,b⟩=>⟨a,get (Q:=fun x=>x<=1) (by omega) b⟩) id⟩
theorem zH(ls:List Int)(l:List Nat):wS ls (l.filter (fun s=>decide (0<ln ls s)))=(l.map fun s=>if 0<ln ls s then(2:Int)^(15-ln ls s).toNat else 0).sum:=by
 induction l with
 | nil=>rfl
 | cons a l ih =>
  by_cases h:0<ln ls a
  ·simp[List.filter_cons,h,fS,ih]
  ·simp[List.filter_cons,h,ih]
theorem kU(f:Int->Int)(ls:List Int):((List.range ls.length).map fun s=>f (ln ls s))=ls.map f:=by
 apply List.ext_getElem
 ·simp
 ·intro i h1 h2;have:i<ls.length:=by simpa using h2
  simp[lu this]
theorem xD{ls:List Int}(hb:∀ s,0<=ln ls s/\ln ls s<=15):wS ls (d6 ls)=eJ ls:=by
 rw[yW ls (iR ls),i6,zH,eJ,← kU fk ls];congr 1;apply List.map_congr_left;intro s _;have:=hb s;unfold fk;by_cases h:0<ln ls s
 ·rw[if_pos h,if_pos ⟨by omega,this.2⟩]
 ·rw[if_neg h,if_neg (by omega)]
theorem eD{ls:List Int}(h:ct ls=true):Df ls (d6 ls) (cQ ls (d6 ls))/\jd ls=(cQ ls (d6 ls)).2.2:=by
 obtain⟨h1,h2,h3⟩:=eF h;exact⟨Dd ls _ (jo ls) (mX ls) (fun s hs=>⟨(fX.1 hs).1,(fX.1 hs).2,(h2 s).2⟩),by simp[jd,h]⟩
theorem im{ls:List Int}(h:ct ls=true):(jd ls).length=ls.length:=by
 rw[(eD h).2];exact(eD h).1.len
def cd(ls:List Int)(s:Nat):Int:=(jd ls).getD s 0
theorem CU{ls:List Int}(h:ct ls=true){s:Nat}(hs:¬ 0<ln ls s):cd ls s=0:=by
 rw[cd,(eD h).2];exact(eD h).1.none s (fun e=>hs (fX.1 e).2)
theorem wZ{ls:List Int}(h:ct ls=true){A B:List Nat}{s:Nat}(he:d6 ls=A++s ::B):cd ls s*2^(15-ln ls s).toNat=wS ls A:=by
 rw[cd,(eD h).2];exact(eD h).1.out A s B he
theorem mz{ls:List Int}(h:ct ls=true)(s:Nat):0<=cd ls s:=by
 by_cases hs:s<ls.length/\0<ln ls s
 ·obtain⟨A,B,he⟩:=List.append_of_mem (fX.2 hs);have h1:=wZ h he;have h2:=ou ls A;have h3:=dS (15-ln ls s).toNat;rw[← h1]at h2;exact Int.le_of_mul_le_mul_right (by simpa using h2) h3
 ·rw[CU h]
  ·omega
  ·intro h0;apply hs;refine⟨?_,h0⟩;by_cases hl:s<ls.length
   ·exact hl
   ·rw[zf (by omega)]at h0;omega
theorem wh{ls:List Int}(h:ct ls=true):eJ ls<=32768:=by
 obtain⟨h1,h2,h3 | h3⟩:=eF h
 ·rw[← xD h2,yW ls (iR ls)];obtain⟨a,ha⟩:=List.length_eq_one_iff.1 h3.1;rw[ha,fS,AW];have hp:a∈i6 ls:=by rw[ha];simp
  have:=(qZ.1 hp).2;have:=h3.2 a;have e:ln ls a=1:=by omega
  rw[e];decide
 ·omega
theorem zA{ls:List Int}(h:ct ls=true){s:Nat}(hs:s<ls.length/\0<ln ls s):cd ls s+1<=2^(ln ls s).toNat:=by
 obtain⟨h1,h2,_⟩:=eF h;obtain⟨A,B,he⟩:=List.append_of_mem (fX.2 hs);have e1:=wZ h he;have e2:=wh h;rw[← xD h2,he,ov,fS]at e2;have e3:=ou ls B;have hp:=dS (15-ln ls s).toNat;have hx:=h2 s;have e4:(cd ls s+1)*2^(15-ln ls s).toNat<=2^(ln ls s).toNat*2^(15-ln ls s).toNat:=by
  rw[Int.add_mul,e1,← Int.pow_add,show(ln ls s).toNat+(15-ln ls s).toNat=15 by omega];have:(2:Int)^15=32768:=by decide
  omega
 exact Int.le_of_mul_le_mul_right e4 hp
theorem BS{ls:List Int}(h:ct ls=true){A B:List Nat}{s t:Nat}(he:d6 ls=A++s ::B)(ht:t∈B):(cd ls s+1)*2^(ln ls t-ln ls s).toNat<=cd ls t:=by
 obtain⟨h1,h2,_⟩:=eF h;obtain⟨C,D,hB⟩:=List.append_of_mem ht;have e1:=wZ h he;have e2:=wZ (A:=A++s ::C) (B:=D) (s:=t) h (by rw[he,hB];simp);have DQ:ln ls s<=ln ls t:=by
  have:=jo ls;rw[he]at this;exact(List.pairwise_cons.1 (List.pairwise_append.1 this).2.1).1 t ht
 rw[ov,fS]at e2;have e3:=ou ls C;have hs:=h2 s;have ht:=h2 t;have e4:(cd ls s+1)*2^(ln ls t-ln ls s).toNat*2^(15-ln ls t).toNat<=cd ls t*2^(15-ln ls t).toNat:=by
  rw[oL hs ⟨DQ,ht.2⟩,Int.add_mul,e1,e2];omega
 exact Int.le_of_mul_le_mul_right e4 (dS _)
theorem Dj{l:List Nat}(hn:l.Nodup){s t:Nat}(hs:s∈l)(ht:t∈l)(DJ:s≠t):(∃ A B,l=A++s ::B/\t∈B)∨(∃ A B,l=A++t ::B/\s∈B):=by
 obtain⟨A,B,rfl⟩:=List.append_of_mem hs;rcases List.mem_append.1 ht with h | h
 ·obtain⟨C,D,rfl⟩:=List.append_of_mem h;exact .inr ⟨C,D++s ::B,by simp,by simp⟩
 ·rcases List.mem_cons.1 h with e | e
  ·exact absurd e.symm DJ
  ·exact .inl ⟨A,B,rfl,e⟩
theorem xZ{ls:List Int}{s t:Nat}(hs:s<ls.length/\0<ln ls s)(ht:t<ls.length/\0<ln ls t)(h:ln ls s<ln ls t∨(ln ls s=ln ls t/\s<t)):∃ A B,d6 ls=A++s ::B/\t∈B:=by
 have DJ:s≠t:=by rintro rfl;omega
 rcases Dj (mX ls) (fX.2 hs) (fX.2 ht) DJ with h1 | ⟨A,B,he,hB⟩
 ·exact h1
 ·exfalso;have Fj:=jo ls;rw[he]at Fj;have DQ:ln ls t<=ln ls s:=(List.pairwise_cons.1 (List.pairwise_append.1 Fj).2.1).1 s hB;have Ga:ln ls s=ln ls t:=by omega
  have hk:=gb (key:=ln ls) (i6 ls) (ln ls s);have DF:((i6 ls).filter (fun x=>ln ls x ==ln ls s)).Pairwise (·<·):=(List.pairwise_lt_range.sublist List.filter_sublist).sublist List.filter_sublist;rw[← hk]at DF;have e:(cV (ln ls) (i6 ls))=A++t ::B:=he;rw[e,List.filter_append,List.filter_cons]at DF;rw[if_pos (by simp[Ga])]at DF;have:=(List.pairwise_cons.1 (List.pairwise_append.1 DF).2.1).1 s (List.mem_filter.2 ⟨hB,by simp⟩);omega
theorem vo{ls:List Int}(h:ct ls=true){s t:Nat}(hs:s<ls.length/\0<ln ls s)(ht:t<ls.length/\0<ln ls t)(DF:ln ls s<ln ls t∨(ln ls s=ln ls t/\s<t)):cd ls s+1<=cd ls t / 2^(ln ls t-ln ls s).toNat:=by
 obtain⟨A,B,he,hB⟩:=xZ hs ht DF;exact(Int.le_ediv_iff_mul_le (dS _)).2 (BS h he hB)
theorem BT{ls:List Int}(h:ct ls=true){s t:Nat}(hs:s<ls.length/\0<ln ls s)(ht:t<ls.length/\0<ln ls t)(hl:ln ls s=ln ls t)(hc:cd ls s=cd ls t):s=t:=by
 rcases Nat.lt_trichotomy s t with e | e | e
 ·have:=vo h hs ht (.inr ⟨hl,e⟩);rw[hl]at this;simp at this;omega
 ·exact e
 ·have:=vo h ht hs (.inr ⟨hl.symm,e⟩);rw[hl]at this;simp at this;omega
end Go.V
/-! Bits in bytes: lists alone. Plain Lean; no program. -/
namespace Go.V
def fq(b:Bool):Int:=if b then 1 else 0
theorem fL(b:Bool):0<=fq b/\fq b<=1:=by cases b <;>decide
def fo(v:Int)(i:Nat):Bool:=decide (v / 2^i % 2=1)
def cX(v:Int):Nat->List Bool
 | 0=>[]
 | n+1=>fo v n ::cX v n
theorem dX(v:Int):∀ n,(cX v n).length=n
 | 0=>rfl
 | n+1=>by simp[cX,dX v n]
def dB(bs:List Bool)(j:Nat):Int :=
 fq (bs.getD (8*j) false)+2*fq (bs.getD (8*j+1) false)+4*fq (bs.getD (8*j+2) false)+8*fq (bs.getD (8*j+3) false)+16*fq (bs.getD (8*j+4) false)+32*fq (bs.getD (8*j+5) false)+64*fq (bs.getD (8*j+6) false)+128*fq (bs.getD (8*j+7) false)
def dD(bs:List Bool):List Int:=(List.range ((bs.length+7) / 8)).map (dB bs)
def ef(l:List Int)(i:Nat):Bool:=fo (l.getD (i / 8) 0) (i % 8)
def aS(l:List Int):List Bool:=(List.range (8*l.length)).map (ef l)
theorem bK(bs:List Bool):(dD bs).length=(bs.length+7) / 8:=by simp[dD]
theorem dK(l:List Int):(aS l).length=8*l.length:=by simp[aS]
theorem kE(bs:List Bool)(j:Nat):0<=dB bs j/\dB bs j<=255:=by
 have:=fun i=>fL (bs.getD i false);have h0:=this (8*j);have h1:=this (8*j+1);have h2:=this (8*j+2);have h3:=this (8*j+3);have h4:=this (8*j+4);have h5:=this (8*j+5);have h6:=this (8*j+6);have h7:=this (8*j+7);unfold dB;omega
theorem pJ(bs:List Bool):∀ x∈dD bs,0<=x/\x<=255:=by
 intro x hx;obtain⟨j,_,rfl⟩:=List.mem_map.1 hx;exact kE bs j
theorem uh(bs:List Bool)(b:Bool)(i:Nat):(bs++[b]).getD i false=if i=bs.length then b else bs.getD i false:=by
 simp only[List.getD_eq_getElem?_getD];split
 ·subst_vars;simp
 ·rename_i h;by_cases h2:i<bs.length
  ·rw[List.getElem?_append_left h2]
  ·rw[List.getElem?_eq_none (by simp;omega),List.getElem?_eq_none (by omega)]
theorem du(bs:List Bool){i:Nat}(h:bs.length<=i):bs.getD i false=false:=by
 simp[List.getD_eq_getElem?_getD,List.getElem?_eq_none h]
theorem pZ(bs:List Bool)(b:Bool)(j:Nat):dB (bs++[b]) j=if j=bs.length / 8 then dB bs j+fq b*2^(bs.length % 8) else dB bs j:=by
 split
 ·rename_i h;have hb:∀ k,bs.length % 8<=k->bs.getD (8*j+k) false=false:=fun k hk=>du bs (by omega);have hs:∀ k,(bs++[b]).getD (8*j+k) false=if k=bs.length % 8 then b else bs.getD (8*j+k) false:=by
   intro k;rw[uh];congr 1;apply propext;constructor <;>intro h <;>omega
  have h0:=hs 0;have h1:=hs 1;have h2:=hs 2;have h3:=hs 3;have h4:=hs 4;have h5:=hs 5;have h6:=hs 6;have h7:=hs 7;have hm:bs.length % 8<8:=Nat.mod_lt _ (by decide);generalize bs.length % 8=m at *;unfold dB;rw[Nat.add_zero]at h0;rw[h0,h1,h2,h3,h4,h5,h6,h7];have z:=hb m (Nat.le_refl _);have zero:fq false=0:=rfl
  match m,hm,z with
  | 0,_,z=>rw[Nat.add_zero]at z;rw[z];simp[zero];omega
  | 1,_,z=>rw[z];simp[zero];omega
  | 2,_,z=>rw[z];simp[zero];omega
  | 3,_,z=>rw[z];simp[zero];omega
  | 4,_,z=>rw[z];simp[zero];omega
  | 5,_,z=>rw[z];simp[zero];omega
  | 6,_,z=>rw[z];simp[zero];omega
  | 7,_,z=>rw[z];simp[zero];omega
 ·rename_i h;have hs:∀ k,k<8->(bs++[b]).getD (8*j+k) false=bs.getD (8*j+k) false:=by
   intro k hk;rw[uh,if_neg (by omega)]
  unfold dB;have h0:=hs 0 (by decide);rw[Nat.add_zero]at h0;rw[h0,hs 1 (by decide),hs 2 (by decide),hs 3 (by decide),hs 4 (by decide),hs 5 (by decide),hs 6 (by decide),hs 7 (by decide)]
theorem p9{bs:List Bool}{j:Nat}(h:bs.length<=8*j):dB bs j=0:=by
 unfold dB;rw[du bs (by omega),du bs (by omega),du bs (by omega),du bs (by omega),du bs (by omega),du bs (by omega),du bs (by omega),du bs (by omega)];rfl
theorem jO{bs:List Bool}{j:Nat}(h:j<(bs.length+7) / 8):(dD bs)[j]?=some (dB bs j):=by
 simp[dD,h]
theorem xY(bs:List Bool)(j:Nat):(dD bs).getD j 0=dB bs j:=by
 rw[List.getD_eq_getElem?_getD];by_cases h:j<(bs.length+7) / 8
 ·rw[jO h];rfl
 ·rw[List.getElem?_eq_none (by rw[bK];omega),p9 (by omega)];rfl
theorem xX(bs:List Bool)(b:Bool):dD (bs++[b])=(if bs.length % 8=0 then dD bs++[0] else dD bs).set (bs.length / 8) (dB bs (bs.length / 8)+fq b*2^(bs.length % 8)):=by
 apply List.ext_getElem?;intro j;by_cases hj:j<(bs.length+1+7) / 8
 ·rw[jO (by simpa using hj),pZ,List.getElem?_set];have hl:(if bs.length % 8=0 then dD bs++[0] else dD bs).length=(bs.length+1+7) / 8:=by
   split <;>simp[bK] <;>omega
  rw[hl];by_cases he:bs.length / 8=j
  ·rw[if_pos he.symm,if_pos he,if_pos (by omega),he]
  ·rw[if_neg he,if_neg (by omega)];have DF:j<(bs.length+7) / 8:=by omega
   split
   ·rw[List.getElem?_append_left (by rw[bK];exact DF),jO DF]
   ·rw[jO DF]
 ·rw[List.getElem?_eq_none (by rw[bK];simp;omega),List.getElem?_eq_none];rw[List.length_set];split <;>simp[bK] <;>omega
theorem AL(v0 v1 v2 v3 v4 v5 v6 v7:Bool)(k:Nat)(hk:k<8):fo (fq v0+2*fq v1+4*fq v2+8*fq v3+16*fq v4+32*fq v5+64*fq v6+128*fq v7) k=[v0,v1,v2,v3,v4,v5,v6,v7].getD k false:=by
 match k,hk with
 | 0,_=>cases v0 <;>cases v1 <;>cases v2 <;>cases v3 <;>cases v4 <;>cases v5 <;>cases v6 <;>cases v7 <;>decide
 | 1,_=>cases v0 <;>cases v1 <;>cases v2 <;>cases v3 <;>cases v4 <;>cases v5 <;>cases v6 <;>cases v7 <;>decide
 | 2,_=>cases v0 <;>cases v1 <;>cases v2 <;>cases v3 <;>cases v4 <;>cases v5 <;>cases v6 <;>cases v7 <;>decide
 | 3,_=>cases v0 <;>cases v1 <;>cases v2 <;>cases v3 <;>cases v4 <;>cases v5 <;>cases v6 <;>cases v7 <;>decide
 | 4,_=>cases v0 <;>cases v1 <;>cases v2 <;>cases v3 <;>cases v4 <;>cases v5 <;>cases v6 <;>cases v7 <;>decide
 | 5,_=>cases v0 <;>cases v1 <;>cases v2 <;>cases v3 <;>cases v4 <;>cases v5 <;>cases v6 <;>cases v7 <;>decide
 | 6,_=>cases v0 <;>cases v1 <;>cases v2 <;>cases v3 <;>cases v4 <;>cases v5 <;>cases v6 <;>cases v7 <;>decide
 | 7,_=>cases v0 <;>cases v1 <;>cases v2 <;>cases v3 <;>cases v4 <;>cases v5 <;>cases v6 <;>cases v7 <;>decide
theorem yP(bs:List Bool)(i:Nat):ef (dD bs) i=bs.getD i false:=by
 have hm:i % 8<8:=Nat.mod_lt _ (by decide);rw[ef,xY,dB,AL _ _ _ _ _ _ _ _ _ hm];have hi:i=8*(i / 8)+i % 8:=by omega
 generalize i % 8=k at *;generalize i / 8=j at *;subst hi
 match k,hm with
 | 0,_=>rfl
 | 1,_=>rfl
 | 2,_=>rfl
 | 3,_=>rfl
 | 4,_=>rfl
 | 5,_=>rfl
 | 6,_=>rfl
 | 7,_=>rfl
theorem fF(bs:List Bool):aS (dD bs)=bs++List.replicate (8*((bs.length+7) / 8)-bs.length) false:=by
  apply List.ext_getElem?;intro i;by_cases hi:i<8*((bs.length+7) / 8)
  · have h1:(aS (dD bs))[i]?=some (bs.getD i false):=by
      simp[aS,bK,hi,yP]
    rw[h1];by_cases h2:i<bs.length
    · rw[List.getElem?_append_left h2,List.getD_eq_getElem?_getD,List.getElem?_eq_getElem h2];rfl
    · rw[List.getElem?_append_right (by omega),du bs (by omega),List.getElem?_replicate,if_pos (by omega)]
  · rw[List.getElem?_eq_none (by rw[dK,bK];omega),List.getElem?_eq_none (by simp;omega)]
end Go.V
/-! Codes of symbols: how both texts come to them. Plain Lean; no program. -/
namespace Go.V
def dp(ls:List Int):Nat:=(ls.filter fun x=>decide (0<x)).length
theorem Bl(ls:List Int):(List.range ls.length).map (ln ls)=ls:=by
 have:=kU id ls;simpa using this
theorem Bn(ls:List Int):(i6 ls).length=dp ls:=by
 unfold dp
 conv=>rhs;rw[← Bl ls]
 rw[List.filter_map,List.length_map];rfl
theorem qV{ls:List Int}{x:Int}(hx:x∈ls)(h:x<0∨15<x):ct ls=false:=by
 unfold ct;have:ls.all (fun x=>decide (0<=x/\x<=15))=false:=by
  rw[List.all_eq_false];exact⟨x,hx,by simp;omega⟩
 rw[this];simp
theorem xP{ls:List Int}(h:∀ x∈ls,0<=x/\x<=15):ct ls=(decide (ls.length<=256) && ((decide (dp ls=1) && ls.all (fun x=>decide (x<=1))) || decide (eJ ls=32768))):=by
 unfold ct;have:ls.all (fun x=>decide (0<=x/\x<=15))=true:=by
  rw[List.all_eq_true];intro x hx;simpa using h x hx
 rw[this,Bn];simp
theorem CD{ls:List Int}(hn:dp ls=1):ls.contains 1=ls.all (fun x=>decide (x<=1)):=by
 unfold dp at hn;obtain⟨y,hy⟩:=List.length_eq_one_iff.1 hn;have hm:∀ x,x∈ls->0<x->x=y:=by
  intro x hx h0;have:x∈ls.filter (fun x=>decide (0<x)):=List.mem_filter.2 ⟨hx,by simpa using h0⟩;rw[hy]at this;simpa using this
 have J0:y∈ls/\0<y:=by
  have:y∈ls.filter (fun x=>decide (0<x)):=by rw[hy];simp
  simpa using List.mem_filter.1 this
 rw[Bool.eq_iff_iff,List.contains_iff_mem,List.all_eq_true];constructor
 ·intro h x hx;have h1:=hm 1 h (by omega);by_cases h0:0<x
  ·have:=hm x hx h0;simp;omega
  ·simp;omega
 ·intro h;have:=h y J0.1;have e:y=1:=by simp at this;omega
  rw[← e];exact J0.1
theorem z8(ls:List Int)(x:Int):dp (ls++[x])=dp ls+(if 0<x then 1 else 0):=by
 unfold dp;rw[List.filter_append,List.length_append];congr 1;split <;>simp_all
theorem mg(ls:List Int):dp ls<=ls.length:=List.length_filter_le _ _
theorem AH{ls:List Int}(h:ct ls=true){A B:List Nat}{s:Nat}(he:d6 ls=A++s ::B):
    0<=(cQ ls A).2.1/\(cQ ls A).2.1<=ln ls s/\((cQ ls A).2.1=0->(cQ ls A).1=0)/\(cQ ls A).1*2^(ln ls s-(cQ ls A).2.1).toNat=cd ls s/\0<=cd ls s/\cd ls s<=32767/\s<ls.length/\0<ln ls s/\ln ls s<=15 ∧
    (cQ ls A).2.2.length=ls.length/\cQ ls (A++[s])=(cd ls s+1,ln ls s,(cQ ls A).2.2.set s (cd ls s)):=by
  obtain⟨h1,h2,h3⟩:=eF h;have hs:=jo ls;have hn:=mX ls;rw[he]at hs hn;have hb:∀ t∈A++s ::B,t<ls.length/\0<ln ls t/\ln ls t<=15:=by
    intro t ht;rw[← he]at ht;exact⟨(fX.1 ht).1,(fX.1 ht).2,(h2 t).2⟩
  have hA:=Dd ls A hs.left (List.nodup_append.1 hn).1 (fun t ht=>hb t (List.mem_append_left _ ht));obtain⟨b1,b2,b3⟩:=hb s (by simp);have DQ:(cQ ls A).2.1<=ln ls s:=by
    rcases hA.end_ with rfl | ⟨A',t,rfl,e⟩
    · show(0:Int)<=_;omega
    · rw[e];exact hs.across t (by simp) s (by simp)
  have hx:=oL (n:=(cQ ls A).1) hA.last ⟨DQ,b3⟩;have I9:=wZ h he;have hv:(cQ ls A).1*2^(ln ls s-(cQ ls A).2.1).toNat=cd ls s:=by
    have:(cQ ls A).1*2^(ln ls s-(cQ ls A).2.1).toNat*2^(15-ln ls s).toNat=cd ls s*2^(15-ln ls s).toNat:=by
      rw[hx,hA.next,I9]
    exact Int.eq_of_mul_eq_mul_right (Int.ne_of_gt (dS _)) this
  have DF:=zA h ⟨b1,b2⟩;have hp:(2:Int)^(ln ls s).toNat<=2^15:=by
    have e1:((2^(ln ls s).toNat:Nat):Int)=2^(ln ls s).toNat:=by simp
    have:=Nat.pow_le_pow_right (n:=2) (by omega) (show(ln ls s).toNat<=15 by omega);omega
  refine⟨hA.last.1,DQ,?_,hv,mz h s,by omega,b1,b2,b3,hA.len,?_⟩
  · intro e;rcases hA.end_ with rfl | ⟨A',t,rfl,e'⟩
    · rfl
    · have:=hb t (by simp);omega
  · rw[rT];show(_+1,ln ls s,_)=_;rw[hv]
end Go.V
/-! Symbols out of bits. Plain Lean; no program. -/
namespace Go.V
def fT(ls:List Int)(s:Int):Bool:=decide (0<=s/\s<(ls.length:Int)/\ln ls s.toNat≠0)
def jt(ls:List Int)(s:Int):List Bool:=if fT ls s then cX (cd ls s.toNat) (ln ls s.toNat).toNat else []
def gi(ls:List Int)(n:Nat)(v:Int):Option Nat:=(List.range ls.length).find? fun s=>decide (ln ls s=(n:Int)/\cd ls s=v)
def iJ(ls:List Int):Nat->Nat->Int->List Bool->Option (Nat×Nat)
 | 0,_,_,_=>none
 | _+1,_,_,[]=>none
 | k+1,n,v,b ::bs=>match gi ls (n+1) (2*v+fq b)with
  | some s=>some (s,n+1)
  | none=>iJ ls k (n+1) (2*v+fq b) bs
theorem iO{ls:List Int}(h:ct ls=true){n s:Nat}{v:Int}(hn:0<n):gi ls n v=some s↔s<ls.length/\ln ls s=(n:Int)/\cd ls s=v:=by
 constructor
 ·intro e;have h1:=List.find?_some e;have h2:=List.mem_of_find?_eq_some e;simp only[decide_eq_true_eq]at h1;exact⟨by simpa using h2,h1⟩
 ·rintro⟨h1,h2,h3⟩;cases e:gi ls n v with
  | none =>
   have:=List.find?_eq_none.1 e s (by simpa using h1);simp[h2,h3]at this
  | some t =>
   have h4:=List.find?_some e;have h5:=List.mem_of_find?_eq_some e;simp only[decide_eq_true_eq]at h4;have:t=s:=BT h ⟨by simpa using h5,by omega⟩ ⟨h1,by omega⟩ (by omega) (by omega);rw[this]
theorem yO(v:Int)(n:Nat)(h:0<=v):v / 2^n=2*(v / 2^(n+1))+fq (fo v n):=by
 have hp:=dS n;have h1:v / 2^(n+1)=v / 2^n / 2:=by
  rw[pow_succ',Int.mul_comm,Int.ediv_ediv_of_nonneg (Int.le_of_lt hp)]
 rw[h1];unfold fo fq;have:=Int.emod_nonneg (v / 2^n) (show(2:Int)≠0 by omega);have:=Int.emod_lt_of_pos (v / 2^n) (show(0:Int)<2 by omega);have:=Int.mul_ediv_add_emod (v / 2^n) 2;by_cases e:v / 2^n % 2=1
 ·simp[e];omega
 ·have e2:v / 2^n % 2=0:=by omega
  simp[e2];omega
theorem l8 {ls:List Int} (h:ct ls=true) {s:Nat} (hs:s<ls.length/\0<ln ls s) (rest:List Bool):iJ ls 15 0 0 (cX (cd ls s) (ln ls s).toNat++rest)=some (s,(ln ls s).toNat):=by
  obtain⟨_,FD,_⟩:=eF h;have hb:=FD s;have hc:=zA h hs;have Er:=mz h s
  -- with r bits left, the value so far
  have step :∀(r n:Nat),r+n=(ln ls s).toNat->0<r->iJ ls (15-n) n (cd ls s / 2^r) (cX (cd ls s) r++rest)=some (s,(ln ls s).toNat):=by
    intro r
    induction r with
    | zero=>intro n _ h0;omega
    | succ r ih =>
      intro n hn _;obtain⟨k,hk⟩:∃ k,15-n=k+1:=⟨15-n-1,by omega⟩;rw[hk];show(match gi ls (n+1) (2*(cd ls s / 2^(r+1))+fq (fo (cd ls s) r))with
        | some s=>some (s,n+1)
        | none=>iJ ls k (n+1) (2*(cd ls s / 2^(r+1))+fq (fo (cd ls s) r)) (cX (cd ls s) r++rest))=_
      rw[← yO _ _ Er];by_cases hr:r=0
      · subst hr;have e:gi ls (n+1) (cd ls s / 2^0)=some s:=(iO h (by omega)).2 ⟨hs.1,by omega,by simp⟩;rw[e];show some (s,n+1)=_;rw[show n+1=(ln ls s).toNat by omega]
      · have e:gi ls (n+1) (cd ls s / 2^r)=none:=by
          cases e:gi ls (n+1) (cd ls s / 2^r)with
          | none=>rfl
          | some t =>
            exfalso;obtain⟨t1,t2,t3⟩:=(iO h (by omega)).1 e;have:=vo h (s:=t) (t:=s) ⟨t1,by omega⟩ hs (.inl (by omega));have e2:(ln ls s-ln ls t).toNat=r:=by omega
            rw[e2]at this;omega
        rw[e];show iJ ls k (n+1) _ _=_;have:=ih (n+1) (by omega) (by omega)
        rwa [show 15-(n+1)=k by omega]at this
  have h0:=step (ln ls s).toNat 0 (by omega) (by omega);have hz:cd ls s / 2^(ln ls s).toNat=0:=Int.ediv_eq_zero_of_lt Er (by omega);rw[hz]at h0;exact h0
theorem tE(ls:List Int):∀(k n:Nat)(v:Int)(bs:List Bool)(s m:Nat),iJ ls k n v bs=some (s,m)->n<m/\m<=n+bs.length/\m<=n+k/\s<ls.length
 | 0,n,v,bs,s,m,h=>by simp[iJ]at h
 | k+1,n,v,[],s,m,h=>by simp[iJ]at h
 | k+1,n,v,b ::bs,s,m,h=>by
  unfold iJ at h;split at h
  ·rename_i t ht;cases h;have:=List.mem_of_find?_eq_some ht;simp at this;simp;omega
  ·have:=tE ls k (n+1) _ bs s m h;simp;omega
end Go.V

/- Own texts, packed: S1, S2, S3, S4, S5, S6, S7, S8, S9, K1, K2, K3, K4. -/
import Derived.Test.YtlieaecnllkefaaGreatGAg
/-! Lists that are told apart by a number of each member: sorted, and alike member by member of one number (what a stable sort keeps). Plain Lean; no program. -/
namespace Go.V
set_option linter.unusedVariables false
section
variable {α : Type} (key : α → Int)
def bh(xs ys:List α):Prop:=∀ k:Int,xs.filter (fun x=>key x ==k)=ys.filter (fun x=>key x ==k)
def ao(xs:List α):Prop:=xs.Pairwise (fun x y=>key x<=key y)
variable {key}
theorem bh.refl(xs:List α):bh key xs xs:=fun _=>rfl
theorem bh.symm{xs ys:List α}(h:bh key xs ys):bh key ys xs:=fun k=>(h k).symm
theorem bh.trans{xs ys zs:List α}(h:bh key xs ys)(h':bh key ys zs):bh key xs zs:=fun k=>(h k).trans (h' k)
theorem bh.append{xs ys xs' ys':List α}(h:bh key xs ys)(h':bh key xs' ys'):bh key (xs++xs') (ys++ys'):=fun k=>by
 rw[List.filter_append,List.filter_append,h k,h' k]
theorem bh.mem{xs ys:List α}(h:bh key xs ys){x:α}(hx:x∈xs):x∈ys:=by
 have:x∈xs.filter (fun y=>key y ==key x):=by simp[hx]
 rw[h]at this
 exact(List.mem_filter.1 this).1
theorem bh.nil{ys:List α}(h:bh key [] ys):ys=[]:=by
 cases ys with
 | nil=>rfl
 | cons y ys=>exact absurd (h.symm.mem (x:=y) (by simp)) (by simp)
theorem bh.length:∀ {xs ys:List α},bh key xs ys->xs.length=ys.length:=by
 intro xs
 induction xs with
 | nil=>intro ys h;rw[h.nil]
 | cons x xs ih =>
  intro ys h
  have hx:x∈ys.filter (fun y=>key y ==key x):=by rw[← h];simp
  have h1:=h (key x)
  simp only[List.filter_cons,beq_self_eq_true,if_true]at h1
  obtain⟨A,B,e1,e2,e3⟩:=List.filter_eq_cons_iff.1 h1.symm
  have hA:A.filter (fun y=>key y ==key x)=[]:=by
   rw[List.filter_eq_nil_iff];exact e2
  have h2:bh key xs (A++B):=by
   intro k
   have h3:=h k
   rw[e1]at h3
   simp only[List.filter_cons,List.filter_append]at h3 ⊢
   by_cases hk:key x ==k
   ·have hk':key x=k:=by simpa using hk
    subst hk'
    simp only[beq_self_eq_true,if_true]at h3
    rw[hA]at h3 ⊢
    simpa using h3
   ·simp only[hk]at h3
    simpa using h3
  rw[e1]
  have:=ih h2
  simp only[List.length_cons,List.length_append]at this ⊢
  omega
theorem bh.swap{xs ys:List α}(h:∀ x∈xs,∀ y∈ys,key x≠key y):bh key (xs++ys) (ys++xs):=by
  intro k
  rw[List.filter_append,List.filter_append]
  by_cases hx:∃ x∈xs,key x=k
  · obtain⟨x,hx,rfl⟩:=hx
    have:ys.filter (fun y=>key y ==key x)=[]:=by
      rw[List.filter_eq_nil_iff];intro y hy;have:=h x hx y hy;simp;omega
    rw[this];simp
  · have:xs.filter (fun y=>key y ==k)=[]:=by
      rw[List.filter_eq_nil_iff];intro y hy;simp;intro e;exact hx ⟨y,hy,e⟩
    rw[this];simp
theorem ao.unique:∀ {xs ys:List α},ao key xs->ao key ys->bh key xs ys->xs=ys:=by
 intro xs
 induction xs with
 | nil=>intro ys _ _ h;exact h.nil.symm
 | cons x xs ih =>
  intro ys h1 h2 h
  cases ys with
  | nil=>exact absurd h.symm.nil (by simp)
  | cons y ys =>
   have hx:key y<=key x:=by
    rcases List.mem_cons.1 (h.mem (x:=x) (by simp))with e | e
    ·rw[e];omega
    ·exact(List.pairwise_cons.1 h2).1 x e
   have hy:key x<=key y:=by
    rcases List.mem_cons.1 (h.symm.mem (x:=y) (by simp))with e | e
    ·rw[e];omega
    ·exact(List.pairwise_cons.1 h1).1 y e
   have e:key x=key y:=by omega
   have hk:=h (key x)
   simp only[List.filter_cons,beq_self_eq_true,if_true,← e]at hk
   have hxy:x=y:=(List.cons.inj hk).1
   subst hxy
   rw[ih (List.pairwise_cons.1 h1).2 (List.pairwise_cons.1 h2).2]
   intro k
   have hk:=h k
   simp only[List.filter_cons]at hk
   split at hk
   ·exact(List.cons.inj hk).2
   ·exact hk
theorem ao.append{xs ys:List α}(h1:ao key xs)(h2:ao key ys)(h:∀ x∈xs,∀ y∈ys,key x<=key y):ao key (xs++ys) :=
 List.pairwise_append.2 ⟨h1,h2,h⟩
theorem ao.left{xs ys:List α}(h:ao key (xs++ys)):ao key xs:=(List.pairwise_append.1 h).1
theorem ao.right{xs ys:List α}(h:ao key (xs++ys)):ao key ys:=(List.pairwise_append.1 h).2.1
theorem ao.across{xs ys:List α}(h:ao key (xs++ys)):∀ x∈xs,∀ y∈ys,key x<=key y:=(List.pairwise_append.1 h).2.2
def ins(key:α->Int)(x:α):List α->List α
 | []=>[x]
 | y ::ys=>if key y<=key x then y ::ins key x ys else x ::y ::ys
def cz(key:α->Int)(xs:List α):List α:=xs.foldl (fun l x=>ins key x l) []
theorem yy(x:α):∀ {l:List α},ao key l->bh key (ins key x l) (l++[x])
 | [],_=>bh.refl _
 | y ::ys,h=>by
  unfold ins
  split
  ·exact(bh.refl [y]).append (yy x (List.pairwise_cons.1 h).2)
  ·rename_i hlt
   have hlt:key x<key y:=by omega
   show bh key ([x]++(y ::ys)) (y ::ys++[x])
   apply bh.swap
   intro a ha b hb
   have ha:a=x:=by simpa using ha
   subst ha
   rcases List.mem_cons.1 hb with e | e
   ·rw[e];omega
   ·have:=(List.pairwise_cons.1 h).1 b e;omega
theorem wy(x:α):∀ {l:List α},ao key l->ao key (ins key x l)
 | [],_=>by simp[ins,ao]
 | y ::ys,h=>by
  unfold ins
  have h':=List.pairwise_cons.1 h
  split
  ·rename_i hle
   refine List.pairwise_cons.2 ⟨fun z hz=>?_,wy x h'.2⟩
   rcases List.mem_append.1 ((yy x h'.2).mem hz)with e | e
   ·exact h'.1 z e
   ·have:z=x:=by simpa using e
    rw[this];exact hle
  ·rename_i hlt
   refine List.pairwise_cons.2 ⟨fun z hz=>?_,h⟩
   rcases List.mem_cons.1 hz with e | e
   ·rw[e];omega
   ·have:=h'.1 z e;omega
theorem sp:∀(xs l:List α),ao key l->ao key (xs.foldl (fun l x=>ins key x l) l)/\bh key (xs.foldl (fun l x=>ins key x l) l) (l++xs)
 | [],l,h=>by simpa using⟨h,bh.refl l⟩
 | x ::xs,l,h=>by
  have ih:=sp xs (ins key x l) (wy x h)
  refine⟨ih.1,ih.2.trans ?_⟩
  have:=(yy x h).append (bh.refl xs)
  simpa using this
theorem mb(xs:List α):ao key (cz key xs):=(sp xs [] (by simp[ao])).1
theorem ji(xs:List α):bh key (cz key xs) xs:=by simpa[cz]using(sp (key:=key) xs [] (by simp[ao])).2
theorem qb6{xs ys:List α}(h1:ao key ys)(h2:bh key ys xs):ys=cz key xs:=ao.unique h1 (mb xs) (h2.trans (ji xs).symm)
end
end Go.V
/-! What the steps of a stable sort by merging in place do to lists. Plain Lean; no program. -/
namespace Go.V
set_option linter.unusedVariables false
section
variable {α : Type} {key : α → Int}
theorem qme {S1 S2:List α} {x:α} (h:ao key (S1++S2)) (h2:∀ z∈S2,key x<key z) (h1:S1=[]∨∃ S y,S1=S++[y]/\key y<=key x) :
    ao key (S1++x ::S2)/\bh key (S1++x ::S2) (S1++S2++[x]):=by
  refine⟨h.left.append (List.pairwise_cons.2 ⟨fun z hz=>by have:=h2 z hz;omega,h.right⟩) ?_,?_⟩
  · intro z hz u hu
    rcases h1 with rfl | ⟨S,y,rfl,hy⟩
    · simp at hz
    · have hzy:key z<=key y:=by
        rcases List.mem_append.1 hz with e | e
        · exact h.left.across z e y (by simp)
        · have:z=y:=by simpa using e
          rw[this];omega
      rcases List.mem_cons.1 hu with e | e
      · rw[e];omega
      · have:=h2 u e;omega
  · rw[List.append_assoc]
    refine(bh.refl S1).append ?_
    show bh key ([x]++S2) (S2++[x])
    apply bh.swap
    intro a ha b hb
    have:a=x:=by simpa using ha
    subst this
    have:=h2 b hb
    omega
theorem qeo{Y1 Y3:List α}{x:α}(h:ao key (Y1++Y3))(h1:∀ y∈Y1,key y<key x)(h3:∀ y∈Y3,key x<=key y):
    ao key (Y1++[x]++Y3)/\bh key (Y1++[x]++Y3) ([x]++(Y1++Y3)):=by
  refine⟨(h.left.append (by simp[ao]) ?_).append h.right ?_,?_⟩
  · intro a ha b hb
    have:b=x:=by simpa using hb
    subst this
    have:=h1 a ha;omega
  · intro a ha b hb
    rcases List.mem_append.1 ha with e | e
    · exact h.across a e b hb
    · have:a=x:=by simpa using e
      subst this
      exact h3 b hb
  · rw[← List.append_assoc]
    refine bh.append ?_ (bh.refl _)
    apply bh.swap
    intro a ha b hb
    have:b=x:=by simpa using hb
    subst this
    have:=h1 a ha;omega
theorem qhu{X1 X3:List α}{y:α}(h:ao key (X1++X3))(h1:∀ x∈X1,key x<=key y)(h3:∀ x∈X3,key y<key x):
    ao key (X1++[y]++X3)/\bh key (X1++[y]++X3) (X1++X3++[y]):=by
  refine⟨(h.left.append (by simp[ao]) ?_).append h.right ?_,?_⟩
  · intro a ha b hb
    have:b=y:=by simpa using hb
    subst this
    exact h1 a ha
  · intro a ha b hb
    rcases List.mem_append.1 ha with e | e
    · exact h.across a e b hb
    · have:a=y:=by simpa using e
      subst this
      have:=h3 b hb;omega
  · rw[List.append_assoc,List.append_assoc]
    refine(bh.refl _).append ?_
    apply bh.swap
    intro a ha b hb
    have:a=y:=by simpa using ha
    subst this
    have:=h3 b hb;omega
theorem ao.head_le{S:List α}{y:α}(h:ao key (y ::S)):∀ x∈y ::S,key y<=key x:=by
 intro x hx
 rcases List.mem_cons.1 hx with e | e
 ·rw[e];omega
 ·exact(List.pairwise_cons.1 h).1 x e
theorem qho{X1 X2 Y1 Y2 Z1 Z2:List α}(hX:ao key (X1++X2))(hY:ao key (Y1++Y2))(h1:∀ x∈X1,∀ y∈Y2,key x<=key y)(h2:∀ y∈Y1,∀ x∈X2,key y<key x)
    (hZ1:ao key Z1) (hZ2:ao key Z2) (s1:bh key Z1 (X1++Y1)) (s2:bh key Z2 (X2++Y2)) :
    ao key (Z1++Z2)/\bh key (Z1++Z2) (X1++X2++(Y1++Y2)):=by
  refine⟨hZ1.append hZ2 ?_,(s1.append s2).trans ?_⟩
  · intro a ha b hb
    rcases List.mem_append.1 (s1.mem ha)with e | e <;>rcases List.mem_append.1 (s2.mem hb)with f | f
    · exact hX.across a e b f
    · exact h1 a e b f
    · have:=h2 a e b f;omega
    · exact hY.across a e b f
  · have:bh key (X1++((Y1++X2)++Y2)) (X1++((X2++Y1)++Y2)):=by
      refine(bh.refl _).append (bh.append ?_ (bh.refl _))
      apply bh.swap
      intro a ha b hb
      have:=h2 a ha b hb;omega
    simpa using this
theorem yb{L:List α}{k:Nat}(h:k<L.length):∃ P y Q,L=P++y ::Q/\P.length=k/\L[k]?=some y:=by
 refine⟨L.take k,L[k],L.drop (k+1),?_,by simp;omega,by simp⟩
 simp
theorem ao.get{L:List α}(h:ao key L){i j:Nat}{x y:α}(hij:i<=j)(hx:L[i]?=some x)(hy:L[j]?=some y):key x<=key y:=by
 obtain⟨hi,rfl⟩:=List.getElem?_eq_some_iff.1 hx
 obtain⟨hj,rfl⟩:=List.getElem?_eq_some_iff.1 hy
 rcases Nat.lt_or_ge i j with hlt | hge
 ·exact(List.pairwise_iff_getElem.1 h) i j hi hj hlt
 ·have:i=j:=by omega
  subst this;omega
theorem qdg{L:List α}{k:Nat}{x:α}(h:x∈L.take k):∃ i,i<k/\L[i]?=some x:=by
 obtain⟨i,hi,rfl⟩:=List.mem_iff_getElem.1 h
 have hi':=hi
 rw[List.length_take]at hi'
 refine⟨i,by omega,?_⟩
 rw[List.getElem_take]
 exact List.getElem?_eq_getElem _
theorem qdh{L:List α}{k:Nat}{x:α}(h:x∈L.drop k):∃ i,k<=i/\L[i]?=some x:=by
 obtain⟨i,hi,rfl⟩:=List.mem_iff_getElem.1 h
 rw[List.getElem_drop]
 exact⟨k+i,by omega,List.getElem?_eq_getElem _⟩
inductive Blk (key:α->Int) (s:Nat):List α->Prop
 | last {Z}:Z.length<=s->ao key Z->Blk key s Z
 | cons {Z1 Z2}:Z1.length=s->ao key Z1->Blk key s Z2->Blk key s (Z1++Z2)
inductive qov (key:α->Int) (s:Nat):List α->Prop
 | nil:qov key s []
 | snoc {U Z}:qov key s U->Z.length=s->ao key Z->qov key s (U++Z)
theorem qov.blk{s:Nat}{U V:List α}(h:qov key s U)(hv:Blk key s V):Blk key s (U++V):=by
 induction h generalizing V with
 | nil=>exact hv
 | snoc h1 h2 h3 ih =>
  rw[List.append_assoc]
  exact ih (.cons h2 h3 hv)
theorem Blk.small{s:Nat}{Z:List α}(h:Blk key s Z)(hs:0<s)(hl:Z.length<=s):ao key Z:=by
 cases h with
 | last h1 h2=>exact h2
 | cons h1 h2 h3 =>
  rename_i Z1 Z2
  have:Z2=[]:=List.eq_nil_of_length_eq_zero (by simp at hl;omega)
  subst this
  simpa using h2
theorem Blk.cut{s:Nat}{Z:List α}(h:Blk key s Z)(hl:s<Z.length):∃ Z1 Z2,Z=Z1++Z2/\Z1.length=s/\ao key Z1/\Blk key s Z2:=by
 cases h with
 | last h1 h2=>omega
 | cons h1 h2 h3=>exact⟨_,_,rfl,h1,h2,h3⟩
theorem Blk.cut2{s:Nat}{Z:List α}(h:Blk key s Z)(hs:0<s)(hl:s+s<=Z.length):∃ Z1 Z2 Z3,Z=Z1++Z2++Z3/\Z1.length=s/\Z2.length=s/\ao key Z1/\ao key Z2/\Blk key s Z3:=by
 obtain⟨Z1,Z',rfl,h1,h2,h3⟩:=h.cut (by omega)
 cases h3 with
 | last h4 h5 =>
  refine⟨Z1,Z',[],by simp,h1,by simp at hl;omega,h2,h5,.last (by simp) (by simp[ao])⟩
 | cons h4 h5 h6 =>
  rename_i Z2 Z3
  exact⟨Z1,Z2,Z3,by simp,h1,h4,h2,h5,h6⟩
end
end Go.V
/-! Lengths of codes by coins and packages: lists alone. Plain Lean; no program. -/
namespace Go.V
set_option linter.unusedVariables false
abbrev dj:=Int×List Nat
def gz(n:Int):Int:=mn (mx n 0) 1099511627776
theorem qe2{n:Int}(h:n>0):0<gz n/\gz n<=1099511627776:=by
 unfold gz mx mn;split <;>split <;>omega
def ay(i:Nat):List Int->List dj
 | []=>[]
 | n ::ns=>if n>0 then(gz n,[i]) ::ay (i+1) ns else ay (i+1) ns
def av(xs:List Int):List dj:=cz Prod.fst (ay 0 xs)
theorem kl(ys:List Int):∀(xs:List Int)(i:Nat),ay i (xs++ys)=ay i xs++ay (i+xs.length) ys
 | [],i=>by simp[ay]
 | x ::xs,i=>by
  have ih:=kl ys xs (i+1)
  simp only[List.cons_append,ay,ih,List.length_cons,show i+1+xs.length=i+(xs.length+1) by omega]
  split <;>simp
theorem lu:∀(xs:List Int)(i:Nat)(x:dj),x∈ay i xs->0<x.1/\x.1<=1099511627776/\∃ s,x.2=[s]/\i<=s/\s<i+xs.length
 | [],i,x,h=>by simp[ay]at h
 | n ::ns,i,x,h=>by
  have ih:=lu ns (i+1) x
  have more:(x∈ay (i+1) ns)->0<x.1/\x.1<=1099511627776/\∃ s,x.2=[s]/\i<=s/\s<i+(n ::ns).length:=by
   intro h
   obtain⟨h1,h2,s,h3,h4,h5⟩:=ih h
   exact⟨h1,h2,s,h3,by omega,by simp;omega⟩
  unfold ay at h
  split at h
  ·rename_i hn
   rcases List.mem_cons.1 h with e | e
   ·subst e
    exact⟨(qe2 hn).1,(qe2 hn).2,i,rfl,by omega,by simp⟩
   ·exact more e
  ·exact more h
theorem qy{xs:List Int}{x:dj}(h:x∈av xs):0<x.1/\x.1<=1099511627776/\∃ s,x.2=[s]/\s<xs.length:=by
 obtain⟨h1,h2,s,h3,_,h5⟩:=lu xs 0 x ((ji (ay 0 xs)).mem h)
 exact⟨h1,h2,s,h3,by omega⟩
theorem ot:∀(xs:List Int)(i:Nat),(ay i xs).length<=xs.length
 | [],i=>by simp[ay]
 | n ::ns,i=>by
  have ih:=ot ns (i+1)
  unfold ay
  split <;>simp <;>omega
theorem np(xs:List Int):(av xs).length<=xs.length:=by
 have h:=(ji (key:=Prod.fst) (ay 0 xs)).length
 have:=ot xs 0
 show(cz _ _).length<=_
 omega
def ef:List dj->List dj
 | a ::b ::r=>(a.1+b.1,a.2++b.2) ::ef r
 | _=>[]
def db:List dj->List dj->List dj
 | cs,[]=>cs
 | cs,p ::ps=>cs.takeWhile (fun c=>decide (c.1<=p.1))++p ::db (cs.dropWhile (fun c=>decide (c.1<=p.1))) ps
def jq(cs l:List dj):List dj:=db cs (ef l)
theorem ux{c p:dj}{cs ps:List dj}(h:c.1<=p.1):db (c ::cs) (p ::ps)=c ::db cs (p ::ps):=by
 simp[db,h]
theorem uy{c p:dj}{cs ps:List dj}(h:¬ c.1<=p.1):db (c ::cs) (p ::ps)=p ::db (c ::cs) ps:=by
 simp[db,h]
theorem qae{p:dj}{ps:List dj}:db [] (p ::ps)=p ::db [] ps:=by simp[db]
theorem gp:∀(l:List dj),(ef l).length=l.length / 2
 | []=>rfl
 | [_]=>by simp[ef]
 | a ::b ::r=>by
  have:=gp r
  simp only[ef,List.length_cons,this];omega
theorem fw:∀(ps cs:List dj),(db cs ps).length=cs.length+ps.length
 | [],cs=>by simp[db]
 | p ::ps,cs=>by
  have ih:=fw ps (cs.dropWhile (fun c=>decide (c.1<=p.1)))
  have h:=congrArg List.length (List.takeWhile_append_dropWhile (p:=fun c:dj=>decide (c.1<=p.1)) (l:=cs))
  simp only[List.length_append]at h
  simp only[db,List.length_append,List.length_cons,ih]
  omega
theorem qt:∀ {ps cs:List dj} {x:dj},x∈db cs ps->x∈cs∨x∈ps
 | [],cs,x,h=>.inl h
 | p ::ps,cs,x,h=>by
  simp only[db,List.mem_append,List.mem_cons]at h
  rcases h with h | h | h
  ·exact .inl (List.takeWhile_sublist _ |>.subset h)
  ·exact .inr (by simp[h])
  ·rcases qt h with e | e
   ·exact .inl (List.dropWhile_sublist _ |>.subset e)
   ·exact .inr (by simp[e])
def lev(first:List dj):Nat->List dj
 | 0=>first
 | k+1=>jq first (lev first k)
theorem qev{Q:Nat->dj->Prop}(hQ:∀ k a b,Q k a->Q k b->Q (k+1) (a.1+b.1,a.2++b.2)){k:Nat}:∀ {l:List dj},(∀ x∈l,Q k x)->∀ x∈ef l,Q (k+1) x
 | [],_=>by simp[ef]
 | [_],_=>by simp[ef]
 | a ::b ::r,h=>by
  intro x hx
  simp only[ef,List.mem_cons]at hx
  rcases hx with rfl | hx
  ·exact hQ k a b (h a (by simp)) (h b (by simp))
  ·exact qev hQ (fun y hy=>h y (by simp[hy])) x hx
theorem qgg{Q:Nat->dj->Prop}(hQ:∀ k a b,Q k a->Q k b->Q (k+1) (a.1+b.1,a.2++b.2)){first:List dj}(h0:∀ k,∀ x∈first,Q k x):∀ k,∀ x∈lev first k,Q k x
 | 0=>h0 0
 | k+1=>by
  intro x hx
  rcases qt hx with e | e
  ·exact h0 _ x e
  ·exact qev hQ (qgg hQ h0 k) x e
theorem ws(first:List dj):∀ k,2*first.length<=(lev first k).length+(first.length+2^k-1) / 2^k
 | 0=>by simp[lev];omega
 | k+1=>by
  have ih:=ws first k
  simp only[lev,jq,fw,gp]
  have h1:(first.length+2^(k+1)-1) / 2^(k+1)=((first.length+2^(k+1)-1) / 2^k) / 2:=by
   rw[Nat.pow_succ,Nat.div_div_eq_div_mul]
  have h2:(first.length+2^(k+1)-1)=(first.length+2^k-1)+2^k:=by
   have:0<2^k:=Nat.two_pow_pos k
   rw[Nat.pow_succ];omega
  have h3:(first.length+2^(k+1)-1) / 2^k=(first.length+2^k-1) / 2^k+1:=by
   rw[h2,Nat.add_div_right _ (Nat.two_pow_pos k)]
  rw[h1,h3]
  omega
theorem qib{first:List dj}{m:Nat}(hm:1<=m)(h:first.length<=2^m):2*first.length-2<=(lev first (m-1)).length:=by
 have h1:=ws first (m-1)
 have h2:(first.length+2^(m-1)-1) / 2^(m-1)<=2:=by
  have hp:0<2^(m-1):=Nat.two_pow_pos _
  have h3:2^m=2*2^(m-1):=by
   have:m=(m-1)+1:=by omega
   rw[this,Nat.pow_succ];simp;omega
  rw[← Nat.lt_succ_iff,Nat.div_lt_iff_lt_mul hp]
  omega
 omega
def qm6(xs:List Int)(s:Nat):List Int:=xs.set s (xs.getD s 0+1)
def ue(ss:List Nat)(xs:List Int):List Int:=ss.foldl qm6 xs
theorem qa0(xs:List Int)(s:Nat):(qm6 xs s).length=xs.length:=by simp[qm6]
theorem fq:∀(ss:List Nat)(xs:List Int),(ue ss xs).length=xs.length
 | [],xs=>rfl
 | s ::ss,xs=>by
  show(ue ss (qm6 xs s)).length=_
  rw[fq,qa0]
theorem t9(s t:List Nat)(xs:List Int):ue (s++t) xs=ue t (ue s xs):=by simp[ue]
theorem qkh{xs:List Int}{s:Nat}{B:Int}(h:∀ v∈xs,0<=v/\v<=B)(hB:0<=B):∀ v∈qm6 xs s,0<=v/\v<=B+1:=by
 intro v hv
 have hd:0<=xs.getD s 0/\xs.getD s 0<=B:=by
  rw[List.getD_eq_getElem?_getD]
  cases he:xs[s]? with
  | none=>simp;exact hB
  | some u=>simpa using h u (List.mem_of_getElem? he)
 rcases List.mem_or_eq_of_mem_set hv with e | e
 ·have:=h v e;omega
 ·omega
theorem q9:∀ (ss:List Nat) {xs:List Int} {B:Int},(∀ v∈xs,0<=v/\v<=B)->0<=B->∀ v∈ue ss xs,0<=v/\v<=B+ss.length
 | [],xs,B,h,hB=>by simpa[ue]using h
 | s ::ss,xs,B,h,hB=>by
  have:=q9 ss (qkh (s:=s) h hB) (by omega)
  intro v hv
  have:=this v hv
  simp only[List.length_cons]
  omega
def dx(most:Int):Nat:=(mn (mx most 1) 15).toNat
def cg(xs:List Int)(m:Nat):List Nat :=
 if(av xs).length=1 then((av xs).flatMap Prod.snd) else((lev (av xs) (m-1)).take (2*(av xs).length-2)).flatMap Prod.snd
def gl(xs:List Int)(most:Int):List Int :=
 if xs.length>256 then [] else if(av xs).length>2^dx most then [] else ue (cg xs (dx most)) (List.replicate xs.length 0)
end Go.V
/-! Lengths of codes by coins and packages are the best ones: lists alone. Plain Lean; no program. -/
namespace Go.V
set_option linter.unusedVariables false
set_option linter.unusedSimpArgs false
def az:Nat->(Nat->Int)->Int
 | 0,_=>0
 | n+1,f=>az n f+f n
theorem bi{f g:Nat->Int}:∀ {n:Nat},(∀ i,i<n->f i=g i)->az n f=az n g
 | 0,_=>rfl
 | n+1,h=>by
  have h1:=bi (n:=n) (fun i hi=>h i (by omega))
  have h2:=h n (by omega)
  simp only[az];omega
theorem ik(f g:Nat->Int):∀ n,az n (fun i=>f i+g i)=az n f+az n g
 | 0=>rfl
 | n+1=>by simp only[az,ik f g n];omega
theorem kc:∀ n,az n (fun _=>0)=0
 | 0=>rfl
 | n+1=>by simp only[az,kc n];omega
theorem lr{f g:Nat->Int}:∀ {n:Nat},(∀ i,i<n->f i<=g i)->az n f<=az n g
 | 0,_=>Int.le_refl _
 | n+1,h=>by
  have:=lr (n:=n) (fun i hi=>h i (by omega))
  have:=h n (by omega)
  simp only[az];omega
theorem i9(c:Int):∀ n:Nat,az n (fun _=>c)=n*c
 | 0=>by simp[az]
 | n+1=>by simp only[az,i9 c n];rw[show((n+1:Nat):Int)=(n:Int)+1 by omega,Int.add_mul,Int.one_mul]
theorem od(f:Nat->Int){a:Nat}:∀ {n:Nat},a<=n->az n (fun i=>if i<a then f i else 0)=az a f
 | 0,h=>by
  have:a=0:=by omega
  subst this;rfl
 | n+1,h=>by
  by_cases e:a=n+1
  ·subst e
   apply bi
   intro i hi;simp[hi]
  ·have:=od f (a:=a) (n:=n) (by omega)
   simp only[az,this]
   rw[if_neg (by omega)];omega
theorem zr(c:Int)(f:Nat->Int):∀ n,az n (fun i=>c*f i)=c*az n f
 | 0=>by simp[az]
 | n+1=>by simp only[az,zr c f n,Int.mul_add]
def wt(l:List dj):Int:=(l.map Prod.fst).sum
def cI(first:List dj)(i:Nat):Int:=(first.getD i (0,[])).1
theorem zb(a b:List dj):wt (a++b)=wt a+wt b:=by simp[wt]
theorem l6(a:dj)(b:List dj):wt (a ::b)=a.1+wt b:=by simp[wt]
theorem qbi:wt []=0:=rfl
theorem qcr(first:List dj):∀ {a:Nat},a<=first.length->wt (first.take a)=az a (cI first)
 | 0,_=>by simp[wt,az]
 | a+1,h=>by
  have h':a<first.length:=by omega
  rw[List.take_succ_eq_append_getElem h',zb,qcr first (by omega)]
  simp only[az,l6,qbi,cI]
  rw[List.getD_eq_getElem?_getD,List.getElem?_eq_getElem h']
  simp
abbrev SC(l:List dj):Prop:=ao (Prod.fst:dj->Int) l
theorem im:∀ ps,db [] ps=ps
 | []=>rfl
 | p ::ps=>by rw[qae,im ps]
theorem na:∀ {N:Nat} {cs ps:List dj},cs.length+ps.length<=N->SC cs->SC ps->SC (db cs ps)
 | N,[],ps,_,_,h2=>by rw[im];exact h2
 | N,c ::cs,[],_,h1,_=>by simpa[db]using h1
 | 0,c ::cs,p ::ps,h,_,_=>by simp at h
 | N+1,c ::cs,p ::ps,h,h1,h2=>by
  simp only[List.length_cons]at h
  by_cases hle:c.1<=p.1
  ·rw[ux hle]
   refine List.pairwise_cons.2 ⟨fun z hz=>?_,na (N:=N) (by simp;omega) (List.pairwise_cons.1 h1).2 h2⟩
   rcases qt hz with e | e
   ·exact(List.pairwise_cons.1 h1).1 z e
   ·have:=ao.head_le h2 z e;omega
  ·rw[uy hle]
   refine List.pairwise_cons.2 ⟨fun z hz=>?_,na (N:=N) (by simp;omega) h1 (List.pairwise_cons.1 h2).2⟩
   rcases qt hz with e | e
   ·have:=ao.head_le h1 z e;omega
   ·exact(List.pairwise_cons.1 h2).1 z e
theorem qh4{m:Int}:∀ {l:List dj},(∀ x∈l,m<=x.1)->∀ x∈ef l,2*m<=x.1
 | [],_=>by simp[ef]
 | [_],_=>by simp[ef]
 | a ::b ::r,h=>by
  intro x hx
  simp only[ef,List.mem_cons]at hx
  rcases hx with rfl | hx
  ·have:=h a (by simp);have:=h b (by simp);show 2*m<=a.1+b.1;omega
  ·exact qh4 (fun y hy=>h y (by simp[hy])) x hx
theorem ow:∀ {l:List dj},SC l->SC (ef l)
 | [],_=>by simp[ef,ao]
 | [_],_=>by simp[ef,ao]
 | a ::b ::r,h=>by
  have h1:=List.pairwise_cons.1 h
  have h2:=List.pairwise_cons.1 h1.2
  simp only[ef]
  refine List.pairwise_cons.2 ⟨fun z hz=>?_,ow h2.2⟩
  have:=qh4 (m:=b.1) h2.1 z hz
  have:=h1.1 b (by simp)
  show a.1+b.1<=z.1
  omega
theorem qb3{first:List dj}(h:SC first):∀ k,SC (lev first k)
 | 0=>h
 | k+1=>na (Nat.le_refl _) h (ow (qb3 h k))
theorem ml:∀ {N a b:Nat} {cs ps:List dj},a+b<=N->SC cs->SC ps->a<=cs.length->b<=ps.length->wt ((db cs ps).take (a+b))<=wt (cs.take a)+wt (ps.take b)
 | _,0,0,cs,ps,_,_,_,_,_=>by simp[wt]
 | 0,a+1,b,_,_,h,_,_,_,_=>by omega
 | 0,0,b+1,_,_,h,_,_,_,_=>by omega
 | N+1,a,b,[],ps,h,h1,h2,ha,hb=>by
  have:a=0:=by simpa using ha
  subst this
  rw[im];simp[wt]
 | N+1,a,b,c ::cs,[],h,h1,h2,ha,hb=>by
  have:b=0:=by simpa using hb
  subst this
  simp[db,wt]
 | N+1,a,b,c ::cs,p ::ps,h,h1,h2,ha,hb=>by
  have k1:=List.pairwise_cons.1 h1
  have k2:=List.pairwise_cons.1 h2
  by_cases h0:a+b=0
  ·have e1:a=0:=by omega
   have e2:b=0:=by omega
   subst e1;subst e2;simp[wt]
  by_cases hle:c.1<=p.1
  ·rw[ux hle]
   cases a with
   | succ a =>
    have ih:=ml (N:=N) (a:=a) (b:=b) (by omega) k1.2 h2 (by simpa using ha) hb
    rw[show a+1+b=(a+b)+1 by omega,List.take_succ_cons,List.take_succ_cons,l6,l6]
    omega
   | zero =>
    cases b with
    | zero=>omega
    | succ b =>
     have ih:=ml (N:=N) (a:=0) (b:=b) (cs:=cs) (ps:=p ::ps) (by omega) k1.2 h2 (by omega) (by omega)
     have hb':b<(p ::ps).length:=by omega
     have hlast:p.1<=((p ::ps)[b]).1:=ao.head_le h2 _ (List.getElem_mem hb')
     rw[show 0+(b+1)=(0+b)+1 by omega,List.take_succ_cons,l6,List.take_succ_eq_append_getElem hb',zb,l6,qbi]
     simp only[List.take_zero,qbi]at ih ⊢
     omega
  ·rw[uy hle]
   cases b with
   | succ b =>
    have ih:=ml (N:=N) (a:=a) (b:=b) (by omega) h1 k2.2 ha (by simpa using hb)
    rw[show a+(b+1)=(a+b)+1 by omega,List.take_succ_cons,List.take_succ_cons,l6,l6]
    omega
   | zero =>
    cases a with
    | zero=>omega
    | succ a =>
     have ih:=ml (N:=N) (a:=a) (b:=0) (cs:=c ::cs) (ps:=ps) (by omega) h1 k2.2 (by omega) (by omega)
     have ha':a<(c ::cs).length:=by omega
     have hlast:c.1<=((c ::cs)[a]).1:=ao.head_le h1 _ (List.getElem_mem ha')
     rw[show a+1+0=a+1 by omega,List.take_succ_cons,l6,List.take_succ_eq_append_getElem ha',zb,l6,qbi]
     simp only[List.take_zero,qbi,Nat.add_zero]at ih ⊢
     omega
theorem wo:∀ {N k:Nat} {cs ps:List dj},k<=N->k<=cs.length+ps.length->SC cs->∃ a b,a+b=k/\a<=cs.length/\b<=ps.length/\((db cs ps).take k).Perm (cs.take a++ps.take b)/\(∀ p∈ps.take b,∀ c∈cs.drop a,p.1<c.1)
 | _,0,cs,ps,_,_,_=>⟨0,0,rfl,by omega,by omega,by simp,by simp⟩
 | 0,k+1,_,_,h,_,_=>by omega
 | N+1,k+1,[],ps,h,hk,_=>⟨0,k+1,by omega,by omega,by simpa using hk,by rw[im];simp,by simp⟩
 | N+1,k+1,c ::cs,[],h,hk,_=>⟨k+1,0,by omega,by simpa using hk,by omega,by simp[db],by simp⟩
 | N+1,k+1,c ::cs,p ::ps,h,hk,h1=>by
  simp only[List.length_cons]at hk
  by_cases hle:c.1<=p.1
  ·obtain⟨a,b,e1,e2,e3,e4,e5⟩:=wo (N:=N) (k:=k) (cs:=cs) (ps:=p ::ps) (by omega) (by simp;omega) (List.pairwise_cons.1 h1).2
   refine⟨a+1,b,by omega,by simp;omega,e3,?_,by simpa using e5⟩
   rw[ux hle]
   simpa using e4
  ·obtain⟨a,b,e1,e2,e3,e4,e5⟩:=wo (N:=N) (k:=k) (cs:=c ::cs) (ps:=ps) (by omega) (by simp;omega) h1
   refine⟨a,b+1,by omega,e2,by simp;omega,?_,?_⟩
   ·rw[uy hle,List.take_succ_cons,List.take_succ_cons]
    exact(List.Perm.cons p e4).trans (List.perm_middle (a:=p) (l₁:=(c ::cs).take a) (l₂:=ps.take b)).symm
   ·intro q hq d hd
    rcases List.mem_cons.1 (by simpa using hq)with e | e
    ·subst e
     have:=ao.head_le h1 d (List.mem_of_mem_drop hd)
     omega
    ·exact e5 q e d hd
theorem qbx:∀ {b:Nat} {l:List dj},2*b<=l.length->wt ((ef l).take b)=wt (l.take (2*b))/\((ef l).take b).flatMap Prod.snd=(l.take (2*b)).flatMap Prod.snd
 | 0,l,_=>by simp[wt]
 | b+1,[],h=>by simp at h
 | b+1,[_],h=>by simp at h;omega
 | b+1,x ::y ::r,h=>by
  have ih:=qbx (b:=b) (l:=r) (by simp at h;omega)
  rw[show 2*(b+1)=(2*b+1)+1 by omega]
  simp only[ef,List.take_succ_cons,l6,List.flatMap_cons,ih.1,ih.2]
  constructor
  ·omega
  ·simp
theorem qew:∀ {b:Nat} {l:List dj} {x:dj},2*b<=l.length->(∀ y∈l,0<=y.1)->x∈l.take (2*b)->∃ p∈(ef l).take b,x.1<=p.1
 | 0,l,x,_,_,h=>by simp at h
 | b+1,[],x,h,_,_=>by simp at h
 | b+1,[_],x,h,_,_=>by simp at h;omega
 | b+1,y ::z ::r,x,h,hp,hx=>by
  rw[show 2*(b+1)=(2*b+1)+1 by omega]at hx
  simp only[List.take_succ_cons,List.mem_cons]at hx
  have hy:=hp y (by simp)
  have hz:=hp z (by simp)
  rcases hx with rfl | rfl | hx
  ·exact⟨_,by simp only[ef,List.take_succ_cons];exact List.mem_cons_self,by show _<=_+_;omega⟩
  ·exact⟨_,by simp only[ef,List.take_succ_cons];exact List.mem_cons_self,by show _<=_+_;omega⟩
  ·obtain⟨p,h1,h2⟩:=qew (b:=b) (l:=r) (by simp at h;omega) (fun y hy=>hp y (by simp[hy])) hx
   exact⟨p,by simp only[ef,List.take_succ_cons];exact List.mem_cons_of_mem _ h1,h2⟩
end Go.V
/-! Lengths of codes by coins and packages: what is chosen fills all codes, and no choice counts less. Plain Lean; no program. -/
namespace Go.V
set_option linter.unusedVariables false
set_option linter.unusedSimpArgs false
def tot(g:dj->Int)(l:List dj):Int:=(l.map g).sum
theorem vx(g:dj->Int)(a b:List dj):tot g (a++b)=tot g a+tot g b:=by simp[tot]
theorem jx(g:dj->Int)(a:dj)(b:List dj):tot g (a ::b)=g a+tot g b:=by simp[tot]
theorem qpq(g:dj->Int):tot g []=0:=rfl
theorem qhk(g:dj->Int){a b:List dj}(h:a.Perm b):tot g a=tot g b:=by
 induction h with
 | nil=>rfl
 | cons x _ ih=>rw[jx,jx,ih]
 | swap x y l=>rw[jx,jx,jx,jx];omega
 | trans _ _ h1 h2=>exact h1.trans h2
def gI(g:dj->Int)(first:List dj)(i:Nat):Int:=g (first.getD i (0,[]))
theorem yp(g:dj->Int)(first:List dj):∀ {a:Nat},a<=first.length->tot g (first.take a)=az a (gI g first)
 | 0,_=>by simp[tot,az]
 | a+1,h=>by
  have h':a<first.length:=by omega
  rw[List.take_succ_eq_append_getElem h',vx,yp g first (by omega)]
  simp only[az,jx,qpq,gI]
  rw[List.getD_eq_getElem?_getD,List.getElem?_eq_getElem h']
  simp
def Adds(g:dj->Int):Prop:=∀ a b:dj,g (a.1+b.1,a.2++b.2)=g a+g b
theorem qeu{g:dj->Int}(hg:Adds g):∀ {b:Nat} {l:List dj},2*b<=l.length->tot g ((ef l).take b)=tot g (l.take (2*b))
 | 0,l,_=>by simp[tot]
 | b+1,[],h=>by simp at h
 | b+1,[_],h=>by simp at h;omega
 | b+1,x ::y ::r,h=>by
  have ih:=qeu hg (b:=b) (l:=r) (by simp at h;omega)
  rw[show 2*(b+1)=(2*b+1)+1 by omega]
  simp only[ef,List.take_succ_cons,jx,ih,hg x y]
  omega
theorem fg(k:Nat):(0:Int)<2^k:=by
 have h:=Nat.two_pow_pos k
 obtain⟨q,hq⟩:∃ q:Nat,q=2^k:=⟨_,rfl⟩
 have e:(2:Int)^k=(q:Int):=by rw[hq];simp
 rw[e];omega
theorem pow_succ'(k:Nat):(2:Int)^(k+1)=2*2^k:=by rw[Int.pow_succ];omega
theorem qqf{first:List dj}(hp:∀ x∈first,0<x.1):∀ k,∀ x∈lev first k,0<x.1 :=
 qgg (Q:=fun _ x=>0<x.1) (fun k a b ha hb=>by show 0<a.1+b.1;omega) (fun k x hx=>hp x hx)
theorem qfq {first:List dj} (hs:SC first) (hp:∀ x∈first,0<x.1):∀(j k:Nat),k<=(lev first j).length →
    ∃ (x:Nat->Nat) (a:Nat),(∀ i,x i<=j+1)/\(∀ i,a<=i->x i=0)/\(∀ i,i<a->1<=x i)/\a<=first.length ∧
      (∀ c∈first.take a,c∈(lev first j).take k)/\(∀ i i',i<=i'->x i'<=x i) ∧
      az first.length (fun i=>2^(j+1)-2^(j+1-x i))=2^j*(k:Int) ∧
      ∀ g,Adds g->tot g ((lev first j).take k)=az first.length (fun i=>gI g first i*(x i:Int))
  | 0,k,hk=>by
    refine⟨fun i=>if i<k then 1 else 0,k,?_,?_,?_,hk,fun c hc=>hc,?_,?_,?_⟩
    · intro i;dsimp only;split <;>omega
    · intro i hi;dsimp only;rw[if_neg (by omega)]
    · intro i hi;dsimp only;rw[if_pos hi];omega
    · intro i i' h;dsimp only;split <;>split <;>omega
    · have:az first.length (fun i=>(2:Int)^(0+1)-2^(0+1-(if i<k then 1 else 0)))=az first.length (fun i=>if i<k then 1 else 0):=by
        apply bi;intro i hi;by_cases e:i<k <;>simp[e]
      have hk':k<=first.length:=hk
      rw[this,od (fun _=>1) hk',i9];simp
    · intro g hg
      show tot g (first.take k)=_
      have hk':k<=first.length:=hk
      rw[yp g first hk',← od (gI g first) hk']
      apply bi;intro i hi;by_cases e:i<k <;>simp[e]
  | j + 1,k,hk=>by
    have hpl:=qqf hp j
    have hk':k<=first.length+(ef (lev first j)).length:=by
      have:=hk
      simp only[lev,jq,fw]at this
      exact this
    obtain⟨a,b,e1,e2,e3,e4,e5⟩:=wo (N:=k) (k:=k) (cs:=first) (ps:=ef (lev first j)) (Nat.le_refl _) hk' hs
    have h2b:2*b<=(lev first j).length:=by rw[gp]at e3;omega
    obtain⟨x',a',x1,x2,x3,x4,x5,x6,x7,x8⟩:=qfq hs hp j (2*b) h2b
    have haa:a'<=a:=by
      rcases Nat.lt_or_ge a a' with hlt | hge
      · exfalso
        have hi:a<first.length:=by omega
        have hm:first[a]∈first.take a':=List.mem_take_iff_getElem.2 ⟨a,by omega,rfl⟩
        obtain⟨p,q1,q2⟩:=qew h2b (fun y hy=>Int.le_of_lt (hpl y hy)) (x5 _ hm)
        have hd:first[a]∈first.drop a:=by rw[List.drop_eq_getElem_cons hi];exact List.mem_cons_self
        have:=e5 p q1 _ hd
        omega
      · exact hge
    refine⟨fun i=>(if i<a then 1 else 0)+x' i,a,?_,?_,?_,e2,?_,?_,?_,?_⟩
    · intro i;have:=x1 i;dsimp only;split <;>omega
    · intro i hi;have:=x2 i (by omega);dsimp only;rw[if_neg (by omega)];omega
    · intro i hi;dsimp only;rw[if_pos hi];omega
    · intro c hc
      exact e4.symm.subset (List.mem_append_left _ hc)
    · intro i i' h
      have:=x6 i i' h
      dsimp only;split <;>split <;>omega
    · have:az first.length (fun i=>(2:Int)^(j+1+1)-2^(j+1+1-((if i<a then 1 else 0)+x' i))) =
          az first.length (fun i=>(if i<a then(2:Int)^(j+1) else 0)+(2^(j+1)-2^(j+1-x' i))):=by
        apply bi
        intro i hi
        have h1:=x1 i
        split
        · rw[show j+1+1-(1+x' i)=j+1-x' i by omega,pow_succ' (j+1)];omega
        · have:=x2 i (by omega)
          rw[this];simp
      rw[this,ik,od (fun _=>(2:Int)^(j+1)) e2,i9,x7,pow_succ' j,← e1]
      rw[Int.natCast_add,Int.natCast_mul,Int.mul_add,Int.mul_comm (a:Int),Int.mul_left_comm,Int.mul_assoc 2 (2^j) (b:Int)]
      rfl
    · intro g hg
      show tot g ((db first (ef (lev first j))).take k)=_
      rw[qhk g e4,vx,qeu hg h2b,x8 g hg,yp g first e2,← od (gI g first) e2,← ik]
      apply bi
      intro i hi
      by_cases e:i<a
      · simp[e,Int.mul_add]
      · simp[e]
theorem qai{N:Nat}{c:Nat->Int}(hc:∀ i i',i<=i'->i'<N->c i<=c i')(p:Nat->Bool):∀ n,n<=N->∃ b,b<=n/\az n (fun i=>if p i then 1 else 0)=(b:Int)/\az b c<=az n (fun i=>if p i then c i else 0)
 | 0,_=>⟨0,by omega,rfl,Int.le_refl _⟩
 | n+1,hn=>by
  obtain⟨b,h1,h2,h3⟩:=qai hc p n (by omega)
  by_cases hp:p n=true
  ·refine⟨b+1,by omega,?_,?_⟩
   ·simp only[az,h2,hp,if_true];omega
   ·have:=hc b n h1 (by omega)
    simp only[az,hp,if_true];omega
  ·refine⟨b,by omega,?_,?_⟩
   ·simp only[az,h2,hp];simp
   ·simp only[az,hp];simpa using h3
theorem qbp {N:Nat} {c:Nat->Int} (hc:∀ i,i<N->0<=c i) {a b:Nat} (h:a<=b) (hb:b<=N):az a c<=az b c:=by
  induction b with
  | zero => have:a=0:=by omega
            subst this;exact Int.le_refl _
  | succ b ih =>
    by_cases e:a=b+1
    · subst e;exact Int.le_refl _
    · have:=ih (by omega) (by omega)
      have:=hc b (by omega)
      simp only[az];omega
theorem qm1{first:List dj}(hs:SC first):∀ i i',i<=i'->i'<first.length->cI first i<=cI first i':=by
 intro i i' h h'
 have hi:i<first.length:=by omega
 have:=ao.get hs h (List.getElem?_eq_getElem hi) (List.getElem?_eq_getElem h')
 simpa[cI,List.getD_eq_getElem?_getD,hi,h']using this
theorem qm0{first:List dj}(hp:∀ x∈first,0<x.1):∀ i,i<first.length->0<cI first i:=by
 intro i hi
 have:=hp _ (List.getElem_mem hi)
 simpa[cI,List.getD_eq_getElem?_getD,hi]using this
theorem best {first:List dj} (hs:SC first) (hp:∀ x∈first,0<x.1):∀(j k:Nat)(y:Nat->Nat),(∀ i,i<first.length->y i<=j+1)->k<=(lev first j).length →
    2^j*(k:Int)<=az first.length (fun i=>2^(j+1)-2^(j+1-y i))->wt ((lev first j).take k)<=az first.length (fun i=>cI first i*(y i:Int))
  | 0,k,y,hy,hk,h=>by
    obtain⟨b,b1,b2,b3⟩:=qai (qm1 hs) (fun i=>decide (1<=y i)) first.length (Nat.le_refl _)
    have h1:az first.length (fun i=>(2:Int)^(0+1)-2^(0+1-y i))=az first.length (fun i=>if decide (1<=y i) then 1 else 0):=by
      apply bi;intro i hi
      have:=hy i hi
      by_cases e:1<=y i
      · have:y i=1:=by omega
        simp[this]
      · have:y i=0:=by omega
        simp[this]
    have h2:az first.length (fun i=>if decide (1<=y i) then cI first i else 0)=az first.length (fun i=>cI first i*(y i:Int)):=by
      apply bi;intro i hi
      have:=hy i hi
      by_cases e:1<=y i
      · have:y i=1:=by omega
        simp[this]
      · have:y i=0:=by omega
        simp[this]
    rw[h1,b2]at h
    have hkb:k<=b:=by simp at h;omega
    show wt (first.take k)<=_
    rw[qcr first hk,← h2]
    exact Int.le_trans (qbp (fun i hi=>Int.le_of_lt (qm0 hp i hi)) hkb b1) b3
  | j + 1, k, y,hy,hk,h=>by
    obtain⟨b,b1,b2,b3⟩:=qai (qm1 hs) (fun i=>decide (1<=y i)) first.length (Nat.le_refl _)
    have hS:=qb3 hs j
    have hPS:=ow hS
    have hk':k<=first.length+(ef (lev first j)).length:=by
      have:=hk
      simp only[lev,jq,fw]at this
      exact this
    have key:az first.length (fun i=>cI first i*(y i:Int))=az first.length (fun i=>if decide (1<=y i) then cI first i else 0)+az first.length (fun i=>cI first i*((y i-1:Nat):Int)):=by
      rw[← ik]
      apply bi;intro i hi
      by_cases e:1<=y i
      · have e2:(y i:Int)=1+((y i-1:Nat):Int):=by omega
        simp only[e,decide_true,if_true]
        rw[e2,Int.mul_add];simp
      · have:y i=0:=by omega
        simp[this]
    have hw:az first.length (fun i=>(2:Int)^(j+1+1)-2^(j+1+1-y i))=2^(j+1)*(b:Int)+az first.length (fun i=>2^(j+1)-2^(j+1-(y i-1))):=by
      rw[← b2,← zr,← ik]
      apply bi;intro i hi
      have:=hy i hi
      by_cases e:1<=y i
      · simp only[e,decide_true,if_true]
        rw[show j+1+1-y i=j+1-(y i-1) by omega,pow_succ' (j+1)];omega
      · have:y i=0:=by omega
        simp[this]
    have hwpos:0<=az first.length (fun i=>(2:Int)^(j+1)-2^(j+1-(y i-1))):=by
      have:=lr (n:=first.length) (f:=fun _=>(0:Int)) (g:=fun i=>(2:Int)^(j+1)-2^(j+1-(y i-1))) (fun i hi=>by
        have h1:2^(j+1-(y i-1))<=2^(j+1):=Nat.pow_le_pow_right (n:=2) (by omega) (by omega)
        have e1:((2^(j+1-(y i-1)):Nat):Int)=2^(j+1-(y i-1)):=by simp
        have e2:((2^(j+1):Nat):Int)=2^(j+1):=by simp
        rw[← e1,← e2];omega)
      rw[kc]at this;exact this
    show wt ((db first (ef (lev first j))).take k)<=_
    rw[key]
    have hdeep:0<=az first.length (fun i=>cI first i*((y i-1:Nat):Int)):=by
      have:=lr (n:=first.length) (f:=fun _=>(0:Int)) (g:=fun i=>cI first i*((y i-1:Nat):Int)) (fun i hi=>Int.mul_nonneg (Int.le_of_lt (qm0 hp i hi)) (by omega))
      rw[kc]at this;exact this
    by_cases hkb:k<=b
    · have hm:=ml (N:=k) (a:=k) (b:=0) (cs:=first) (ps:=ef (lev first j)) (by omega) hs hPS (by omega) (by omega)
      rw[Nat.add_zero,List.take_zero,qbi,qcr first (by omega)]at hm
      have:=qbp (c:=cI first) (fun i hi=>Int.le_of_lt (qm0 hp i hi)) hkb b1
      omega
    · obtain⟨q,hq⟩:∃ q,k=b+q:=⟨k-b,by omega⟩
      subst hq
      have h2:2^j*((2*q:Nat):Int)<=az first.length (fun i=>2^(j+1)-2^(j+1-(y i-1))):=by
        rw[hw]at h
        have e1:(2:Int)^(j+1)*((b+q:Nat):Int)=2^(j+1)*(b:Int)+2^(j+1)*(q:Int):=by rw[Int.natCast_add,Int.mul_add]
        have e2:(2:Int)^j*((2*q:Nat):Int)=2^(j+1)*(q:Int):=by
          rw[pow_succ' j,Int.natCast_mul,Int.mul_comm 2 ((2:Int)^j),Int.mul_assoc];rfl
        omega
      have hqb:q<=(ef (lev first j)).length:=by
        have:=hk
        simp only[lev,jq,fw]at this
        -- as wide as all that there is
        have hall:az first.length (fun i=>(2:Int)^(j+1)-2^(j+1-(y i-1)))<=(first.length:Int)*(2^(j+1)-1):=by
          rw[← i9]
          apply lr;intro i hi
          have:=fg (j+1-(y i-1));omega
        have hl:=ws first j
        rw[gp]
        rcases Nat.lt_or_ge ((lev first j).length / 2) q with hlt | hge
        · exfalso
          have h3:(lev first j).length+1<=2*q:=by omega
          -- 2q ≤ 2n - n/2^j
          have h4:(2:Int)^j*((2*q:Nat):Int)<=(first.length:Int)*(2^(j+1)-1):=Int.le_trans h2 hall
          have h5:2^j*(2*q)+first.length<=first.length*(2*2^j):=by
            have e1:((2^j:Nat):Int)=2^j:=by simp
            have e2:(first.length:Int)*(2^(j+1)-1)=(first.length:Int)*(2*2^j)-first.length:=by rw[pow_succ',Int.mul_sub];simp
            rw[e2]at h4
            have e3:((2^j*(2*q):Nat):Int)=2^j*((2*q:Nat):Int):=by rw[Int.natCast_mul];simp
            have e4:((first.length*(2*2^j):Nat):Int)=(first.length:Int)*(2*2^j):=by rw[Int.natCast_mul];simp
            apply Int.ofNat_le.1
            rw[Int.natCast_add,e3,e4]
            generalize (2:Int)^j*((2*q:Nat):Int)=z1 at *
            generalize (first.length:Int)*(2*2^j)=z2 at *
            omega
          have hpp:=Nat.two_pow_pos j
          have e:first.length*(2*2^j)=2^j*(2*first.length):=by rw[Nat.mul_comm 2 (2^j),Nat.mul_left_comm,Nat.mul_comm first.length 2]
          have hqn:2*q<=2*first.length:=by
            rcases Nat.lt_or_ge (2*first.length) (2*q)with hl | hg
            · exfalso
              have:=Nat.mul_le_mul_left (2^j) (Nat.le_of_lt hl)
              have h8:=Nat.mul_lt_mul_of_pos_left hl hpp
              rw[e]at h5
              generalize 2^j*(2*q)=z1 at *
              generalize 2^j*(2*first.length)=z2 at *
              omega
            · exact hg
          have h6:first.length+2^j-1<2^j*(2*first.length-2*q+1):=by
            obtain⟨d,hd⟩:∃ d,2*first.length=2*q+d:=⟨2*first.length-2*q,by omega⟩
            rw[e,hd,Nat.mul_add]at h5
            rw[show 2*first.length-2*q+1=d+1 by omega,Nat.mul_add,Nat.mul_one]
            omega
          have h7:(first.length+2^j-1) / 2^j<2*first.length-2*q+1:=(Nat.div_lt_iff_lt_mul hpp).2 (by rw[Nat.mul_comm];exact h6)
          omega
        · exact hge
      have h2q:2*q<=(lev first j).length:=by rw[gp]at hqb;omega
      have ih:=best hs hp j (2*q) (fun i=>y i-1) (fun i hi=>by have:=hy i hi;omega) h2q h2
      have hm:=ml (N:=b+q) (a:=b) (b:=q) (cs:=first) (ps:=ef (lev first j)) (by omega) hs hPS b1 hqb
      rw[(qbx h2q).1,qcr first b1]at hm
      omega
end Go.V
/-! Lengths of codes, symbol by symbol: all codes are used, none is too long, none is better. Plain Lean; no program. -/
namespace Go.V
set_option linter.unusedVariables false
set_option linter.unusedSimpArgs false
theorem qif{α:Type}(key:α->Int)(x:α):∀ l:List α,(ins key x l).Perm (x ::l)
 | []=>by simp[ins]
 | y ::ys=>by
  unfold ins
  split
  ·exact((qif key x ys).cons y).trans (List.Perm.swap x y ys)
  ·exact List.Perm.refl _
theorem jj{α:Type}(key:α->Int)(xs:List α):(cz key xs).Perm xs:=by
 have:∀(xs l:List α),(xs.foldl (fun l x=>ins key x l) l).Perm (l++xs):=by
  intro xs
  induction xs with
  | nil=>intro l;simp
  | cons x xs ih =>
   intro l
   refine(ih _).trans ?_
   have h1:(ins key x l++xs).Perm ((x ::l)++xs):=(qif key x l).append_right xs
   exact h1.trans (List.perm_middle (a:=x) (l₁:=l) (l₂:=xs)).symm
 simpa[cz]using this xs []
def sy(c:dj):Nat:=c.2.headD 0
def PS(xs:List Int)(f:Nat->Int):Int:=az xs.length (fun s=>if 0<xs.getD s 0 then f s else 0)
theorem qk4(g:dj->Int)(xs:List Int):∀ k,k<=xs.length->tot g (ay 0 (xs.take k))=az k (fun s=>if 0<xs.getD s 0 then g (gz (xs.getD s 0),[s]) else 0)
 | 0,_=>by simp[ay,tot,az]
 | k+1,h=>by
  have h':k<xs.length:=by omega
  have hd:xs.getD k 0=xs[k]:=by simp[List.getD_eq_getElem?_getD,h']
  rw[List.take_succ_eq_append_getElem h',kl,vx,qk4 g xs k (by omega)]
  have hl:(xs.take k).length=k:=by simp;omega
  simp only[az,hd,hl,Nat.zero_add,ay]
  split <;>simp[tot]
theorem qk5(g:dj->Int)(xs:List Int):tot g (av xs)=PS xs (fun s=>g (gz (xs.getD s 0),[s])):=by
 have h:=qk4 g xs xs.length (Nat.le_refl _)
 rw[List.take_length]at h
 rw[PS,← h]
 exact qhk g (jj _ _)
theorem oa(g:dj->Int)(xs:List Int):az (av xs).length (gI g (av xs))=PS xs (fun s=>g (gz (xs.getD s 0),[s])):=by
 rw[← qk5,← yp g _ (Nat.le_refl _),List.take_length]
theorem sf:∀(xs:List Int)(i:Nat),(ay i xs).Pairwise (fun a b=>sy a<sy b)
 | [],i=>by simp[ay]
 | n ::ns,i=>by
  unfold ay
  split
  ·refine List.pairwise_cons.2 ⟨fun z hz=>?_,sf ns (i+1)⟩
   obtain⟨_,_,s,h3,h4,_⟩:=lu ns (i+1) z hz
   simp[sy,h3];omega
  ·exact sf ns (i+1)
theorem qg4(xs:List Int):((av xs).map sy).Nodup:=by
 have h1:((ay 0 xs).map sy).Nodup:=by
  rw[List.Nodup,List.pairwise_map]
  exact(sf xs 0).imp (fun h=>by omega)
 exact((jj Prod.fst (ay 0 xs)).map sy).nodup_iff.2 h1
theorem qmx{xs:List Int}{i j:Nat}(hi:i<(av xs).length)(hj:j<(av xs).length)(h:sy (av xs)[i]=sy (av xs)[j]):i=j:=by
 have:=qg4 xs
 rw[List.Nodup,List.pairwise_iff_getElem]at this
 rcases Nat.lt_trichotomy i j with hlt | he | hgt
 ·exact absurd (by rw[List.getElem_map,List.getElem_map];exact h) (this i j (by simpa using hi) (by simpa using hj) hlt)
 ·exact he
 ·exact absurd (by rw[List.getElem_map,List.getElem_map];exact h.symm) (this j i (by simpa using hj) (by simpa using hi) hgt)
theorem vj{xs:List Int}{c:dj}(h:c∈av xs):c.2=[sy c]/\sy c<xs.length:=by
 obtain⟨_,_,s,h3,h4⟩:=qy h
 simp[sy,h3,h4]
theorem pw{xs:List Int}{c:dj}(h:c∈av xs):0<xs.getD (sy c) 0/\c.1=gz (xs.getD (sy c) 0):=by
 have h0:c∈ay 0 xs:=(jj Prod.fst (ay 0 xs)).subset h
 have:∀(ys:List Int)(i:Nat),c∈ay i ys->0<ys.getD (sy c-i) 0/\c.1=gz (ys.getD (sy c-i) 0):=by
  intro ys
  induction ys with
  | nil=>intro i h;simp[ay]at h
  | cons n ns ih =>
   intro i h
   have more:c∈ay (i+1) ns->0<(n ::ns).getD (sy c-i) 0/\c.1=gz ((n ::ns).getD (sy c-i) 0):=by
    intro h
    obtain⟨_,_,s,h3,h4,_⟩:=lu ns (i+1) c h
    have hs:sy c=s:=by simp[sy,h3]
    have:=ih (i+1) h
    have e:sy c-i=(sy c-(i+1))+1:=by omega
    rw[e];simpa using this
   unfold ay at h
   split at h
   ·rename_i hn
    rcases List.mem_cons.1 h with e | e
    ·subst e;simp[sy];exact hn
    ·exact more e
   ·exact more h
 simpa using this xs 0 h0
theorem i7(f:Nat->Int){i:Nat}:∀ {n:Nat},i<n->az n (fun j=>if j=i then f j else 0)=f i
 | 0,h=>by omega
 | n+1,h=>by
  by_cases e:i=n
  ·subst e
   have:az i (fun j=>if j=i then f j else 0)=az i (fun _=>0):=bi (fun j hj=>by rw[if_neg (by omega)])
   simp only[az,this,kc];simp
  ·have:=i7 f (i:=i) (n:=n) (by omega)
   simp only[az,this];rw[if_neg (by omega)];omega
theorem qck(s:Nat):∀ l:List dj,((l.flatMap Prod.snd).count s:Int)=tot (fun c=>(c.2.count s:Int)) l
 | []=>by simp[tot]
 | c ::l=>by
  have:=qck s l
  simp only[List.flatMap_cons,List.count_append,jx];omega
theorem mz{f:Nat->Int}:∀ {n:Nat},(∀ i,i<n->0<f i)->∀ i,i<n->f i<=az n f/\(2<=n->f i<az n f)
 | 0,_,i,hi=>by omega
 | n+1,h,i,hi=>by
  have hn:=h n (by omega)
  have hnn:0<=az n f:=by
   have:=lr (n:=n) (f:=fun _=>(0:Int)) (g:=f) (fun i hi=>Int.le_of_lt (h i (by omega)))
   rw[kc]at this;exact this
  by_cases e:i=n
  ·subst e
   refine⟨by simp only[az];omega,fun h2=>?_⟩
   have:=(mz (f:=f) (n:=i) (fun j hj=>h j (by omega)) 0 (by omega)).1
   have:=h 0 (by omega)
   simp only[az];omega
  ·have ih:=mz (f:=f) (n:=n) (fun j hj=>h j (by omega)) i (by omega)
   refine⟨by simp only[az];omega,fun _=>by simp only[az];omega⟩
theorem ye {xs:List Int} {m:Nat} (hm:1<=m) (h2:2<=(av xs).length) (hn:(av xs).length<=2^m) :
    (∀ s,¬ 0<xs.getD s 0->(cg xs m).count s=0)/\(∀ s,0<xs.getD s 0->1<=(cg xs m).count s/\(cg xs m).count s<=m) ∧
    PS xs (fun s=>2^(m-(cg xs m).count s))=2^m ∧
    (∀ y:Nat->Nat,(∀ s,0<xs.getD s 0->y s<=m)->PS xs (fun s=>2^(m-y s))<=2^m->PS xs (fun s=>gz (xs.getD s 0)*((cg xs m).count s:Int))<=PS xs (fun s=>gz (xs.getD s 0)*(y s:Int))):=by
  have hs:SC (av xs):=mb _
  have hp:∀ x∈av xs,0<x.1:=fun x hx=>(qy hx).1
  have hk:=qib hm hn
  have hch:cg xs m=((lev (av xs) (m-1)).take (2*(av xs).length-2)).flatMap Prod.snd:=by unfold cg;rw[if_neg (by omega)]
  obtain⟨x,a,x1,x2,x3,x4,x5,x6,x7,x8⟩:=qfq hs hp (m-1) _ hk
  have em:m-1+1=m:=by omega
  rw[em]at x1 x7
  generalize hN:(av xs).length=N at *
  -- how often each symbol is cg
  have hadd:∀ s,Adds (fun c=>(c.2.count s:Int)):=fun s a b=>by simp
  have hcount:∀ s,((cg xs m).count s:Int)=az N (fun i=>gI (fun c=>(c.2.count s:Int)) (av xs) i*(x i:Int)):=by
    intro s
    rw[hch,qck,x8 _ (hadd s)]
  have hget:∀ i,(h:i<N)->(av xs).getD i (0,[])=(av xs)[i]'(by omega):=by
    intro i h
    have h':i<(av xs).length:=by omega
    simp[List.getD_eq_getElem?_getD,h']
  have hx:∀ i,i<N->((cg xs m).count (sy ((av xs).getD i (0,[]))):Int)=(x i:Int):=by
    intro i hi
    rw[hcount]
    rw[← i7 (fun j=>(x j:Int)) hi]
    apply bi
    intro j hj
    have hj':j<(av xs).length:=by omega
    have hi':i<(av xs).length:=by omega
    have c1:=vj (List.getElem_mem hj')
    simp only[gI]
    rw[hget i hi,hget j hj,c1.1]
    by_cases e:j=i
    · subst e;simp
    · have:sy (av xs)[j]≠sy (av xs)[i]:=fun h=>e (qmx hj' hi' h)
      simp[e,this]
  have hkr:az N (fun i=>(2:Int)^(m-x i))=2^m:=by
    have e1:az N (fun i=>(2:Int)^m-2^(m-x i))+az N (fun i=>(2:Int)^(m-x i))=az N (fun _=>(2:Int)^m):=by
      rw[← ik];apply bi;intro i hi;omega
    rw[x7,i9]at e1
    have e2:(2:Int)^m=2*2^(m-1):=by rw[← pow_succ',em]
    have e3:(2:Int)^(m-1)*((2*N-2:Nat):Int)+2^m=N*2^m:=by
      obtain⟨d,hd⟩:∃ d:Nat,N=d+1:=⟨N-1,by omega⟩
      subst hd
      rw[e2,show 2*(d+1)-2=2*d by omega]
      generalize (2:Int)^(m-1)=z
      rw[Int.natCast_mul,Int.natCast_add,Int.add_mul]
      rw[Int.mul_left_comm,Int.mul_left_comm (d:Int) 2 z,Int.mul_comm z (d:Int)]
      simp
    omega
  have hx1:∀ i,i<N->1<=x i:=by
    intro i hi
    rcases Nat.eq_zero_or_pos (x i)with h0 | h0
    · exfalso
      have:=(mz (f:=fun i=>(2:Int)^(m-x i)) (n:=N) (fun j hj=>fg _) i hi).2 h2
      rw[hkr,h0]at this
      simp at this
    · exact h0
  have hfind:∀ s,0<xs.getD s 0->∃ i,i<N/\sy ((av xs).getD i (0,[]))=s:=by
    intro s hs0
    have hsN:s<xs.length:=by
      rcases Nat.lt_or_ge s xs.length with h | h
      · exact h
      · simp[List.getD_eq_getElem?_getD,h]at hs0
    have hmem:(gz (xs.getD s 0),[s])∈ay 0 xs:=by
      have:∀(ys:List Int)(i j:Nat),0<ys.getD j 0->(gz (ys.getD j 0),[i+j])∈ay i ys:=by
        intro ys
        induction ys with
        | nil=>intro i j h;simp at h
        | cons n ns ih =>
          intro i j h
          cases j with
          | zero=>simp at h;simp[ay,h]
          | succ j =>
            have:=ih (i+1) j (by simpa using h)
            unfold ay
            have e:i+1+j=i+(j+1):=by omega
            rw[e]at this
            split
            · exact List.mem_cons_of_mem _ (by simpa using this)
            · simpa using this
      simpa using this xs 0 s hs0
    have hmem':(gz (xs.getD s 0),[s])∈av xs:=(jj Prod.fst (ay 0 xs)).symm.subset hmem
    obtain⟨i,hi,he⟩:=List.mem_iff_getElem.1 hmem'
    refine⟨i,by omega,?_⟩
    rw[hget i (by omega),he];rfl
  have hlen:∀ s,0<xs.getD s 0->1<=(cg xs m).count s/\(cg xs m).count s<=m:=by
    intro s hs0
    obtain⟨i,hi,rfl⟩:=hfind s hs0
    have:=hx i hi
    have:=hx1 i hi
    have:=x1 i
    omega
  refine⟨?_,hlen,?_,?_⟩
  · intro s hs0
    have h:((cg xs m).count s:Int)=0:=by
      rw[hcount]
      rw[show(0:Int)=az N (fun _=>0) from(kc N).symm]
      apply bi
      intro j hj
      have hj':j<(av xs).length:=by omega
      have c1:=vj (List.getElem_mem hj')
      have c2:=pw (List.getElem_mem hj')
      simp only[gI]
      rw[hget j hj,c1.1]
      have:sy (av xs)[j]≠s:=fun e=>hs0 (by rw[← e];exact c2.1)
      simp[this]
    omega
  · have h:=oa (fun c=>(2:Int)^(m-(cg xs m).count (sy c))) xs
    rw[hN]at h
    have e:PS xs (fun s=>(2:Int)^(m-(cg xs m).count s))=PS xs (fun s=>(2:Int)^(m-(cg xs m).count (sy (gz (xs.getD s 0),[s])))):=rfl
    rw[e,← h,← hkr]
    apply bi
    intro i hi
    have:=hx i hi
    have:(cg xs m).count (sy ((av xs).getD i (0,[])))=x i:=by omega
    simp only[gI,this]
  · intro y hy hk2
    have h1:=oa (fun c=>c.1*((cg xs m).count (sy c):Int)) xs
    have h2':=oa (fun c=>c.1*(y (sy c):Int)) xs
    have h3:=oa (fun c=>(2:Int)^(m-y (sy c))) xs
    rw[hN]at h1 h2' h3
    have e1:PS xs (fun s=>gz (xs.getD s 0)*((cg xs m).count s:Int))=PS xs (fun s=>(gz (xs.getD s 0),[s]).1*((cg xs m).count (sy (gz (xs.getD s 0),[s])):Int)):=rfl
    have e2:PS xs (fun s=>gz (xs.getD s 0)*(y s:Int))=PS xs (fun s=>(gz (xs.getD s 0),[s]).1*(y (sy (gz (xs.getD s 0),[s])):Int)):=rfl
    have e3:PS xs (fun s=>(2:Int)^(m-y s))=PS xs (fun s=>(2:Int)^(m-y (sy (gz (xs.getD s 0),[s])))):=rfl
    rw[e3,← h3]at hk2
    rw[e1,← h1,e2,← h2']
    -- the qfq that y is
    have hyi:∀ i,i<(av xs).length->y (sy ((av xs).getD i (0,[])))<=m-1+1:=by
      intro i hi
      rw[em]
      apply hy
      rw[hget i (by omega)]
      exact(pw (List.getElem_mem hi)).1
    have hb:=best hs hp (m-1) _ (fun i=>y (sy ((av xs).getD i (0,[])))) hyi hk ?_
    · rw[hN]at hb
      have hw:wt ((lev (av xs) (m-1)).take (2*N-2))=tot Prod.fst ((lev (av xs) (m-1)).take (2*N-2)):=rfl
      rw[hw,x8 Prod.fst (fun a b=>rfl)]at hb
      have e4:az N (gI (fun c=>c.1*((cg xs m).count (sy c):Int)) (av xs))=az N (fun i=>gI Prod.fst (av xs) i*(x i:Int)):=by
        apply bi;intro i hi
        simp only[gI];rw[hx i hi]
      rw[e4]
      exact hb
    · rw[em,hN]
      have e5:az N (fun i=>(2:Int)^m-2^(m-y (sy ((av xs).getD i (0,[])))))+az N (gI (fun c=>(2:Int)^(m-y (sy c))) (av xs))=az N (fun _=>(2:Int)^m):=by
        rw[← ik];apply bi;intro i hi;simp only[gI];omega
      have e6:az N (fun i=>(2:Int)^m-2^(m-x i))+az N (fun i=>(2:Int)^(m-x i))=az N (fun _=>(2:Int)^m):=by
        rw[← ik];apply bi;intro i hi;omega
      rw[hkr,x7]at e6
      omega
end Go.V
/-! The laws of lengths of codes, of lists: all is used, the best, a greatest length more, all alike, so many times as great. Plain Lean; no program. -/
namespace Go.V
set_option linter.unusedVariables false
set_option linter.unusedSimpArgs false
theorem qoo(xs:List Int)(t s:Nat)(hs:s<xs.length):(qm6 xs t).getD s 0=xs.getD s 0+(if t=s then 1 else 0):=by
 unfold qm6
 simp only[List.getD_eq_getElem?_getD,List.getElem?_set]
 by_cases e:t=s
 ·subst e;simp[hs]
 ·simp[e]
theorem qdy:∀(ss:List Nat)(xs:List Int)(s:Nat),s<xs.length->(ue ss xs).getD s 0=xs.getD s 0+(ss.count s:Int)
 | [],xs,s,_=>by simp[ue]
 | t ::ss,xs,s,h=>by
  have:=qdy ss (qm6 xs t) s (by rw[qa0];exact h)
  show(ue ss (qm6 xs t)).getD s 0=_
  rw[this,qoo xs t s h,List.count_cons]
  by_cases e:t=s
  ·simp[e];omega
  ·simp[e]
theorem qic{xs:List Int}{most:Int}(h:xs.length<=256)(hn:(av xs).length<=2^dx most):gl xs most=ue (cg xs (dx most)) (List.replicate xs.length 0):=by
 unfold gl;rw[if_neg (by omega),if_neg (by omega)]
theorem ph{xs:List Int}{most:Int}(h:xs.length<=256)(hn:(av xs).length<=2^dx most):(gl xs most).length=xs.length:=by
 rw[qic h hn,fq];simp
theorem qah{xs:List Int}{most:Int}(h:xs.length<=256)(hn:(av xs).length<=2^dx most){s:Nat}(hs:s<xs.length):(gl xs most).getD s 0=((cg xs (dx most)).count s:Int):=by
 rw[qic h hn,qdy _ _ _ (by simpa using hs)]
 simp[List.getD_eq_getElem?_getD,hs]
theorem qly:∀ k,lev [] k=[]
 | 0=>rfl
 | k+1=>by simp[lev,jq,qly k,ef,db]
theorem nl(xs:List Int):((av xs).length:Int)=PS xs (fun _=>1):=by
 rw[← oa (fun _=>1) xs]
 have:az (av xs).length (gI (fun _=>1) (av xs))=az (av xs).length (fun _=>1):=rfl
 rw[this,i9];omega
theorem PS_mul(xs:List Int)(c:Int)(f:Nat->Int):PS xs (fun s=>c*f s)=c*PS xs f:=by
 unfold PS;rw[← zr];apply bi;intro s hs;split <;>simp
theorem qg2 {xs:List Int} {m:Nat} (hm:1<=m) (hn:(av xs).length<=2^m) :
    (∀ s,s<xs.length->¬ 0<xs.getD s 0->(cg xs m).count s=0)/\(∀ s,s<xs.length->0<xs.getD s 0->1<=(cg xs m).count s/\(cg xs m).count s<=m):=by
  by_cases h2:2<=(av xs).length
  · obtain⟨h3,h4,_⟩:=ye hm h2 hn
    exact⟨fun s _=>h3 s,fun s _=>h4 s⟩
  by_cases h1:(av xs).length=1
  · obtain⟨c,hc⟩:=List.length_eq_one_iff.1 h1
    have hch:cg xs m=[sy c]:=by
      unfold cg
      rw[if_pos h1,hc]
      have:=(vj (xs:=xs) (c:=c) (by rw[hc];simp)).1
      simpa using this
    have hpres:=pw (xs:=xs) (c:=c) (by rw[hc];simp)
    have honly:∀ s,s<xs.length->0<xs.getD s 0->s=sy c:=by
      intro s hs hp
      by_cases e:s=sy c
      · exact e
      · exfalso
        have hcc:=nl xs
        rw[h1]at hcc
        have hlt:sy c<xs.length:=(vj (xs:=xs) (c:=c) (by rw[hc];simp)).2
        have h3:=i7 (fun _=>(1:Int)) hs
        have h4:=i7 (fun _=>(1:Int)) hlt
        have h5:az xs.length (fun j=>if j=s then(1:Int) else 0)+az xs.length (fun j=>if j=sy c then(1:Int) else 0)<=PS xs (fun _=>1):=by
          rw[← ik]
          apply lr;intro i hi
          by_cases e1:i=s
          · subst e1;simp only[hp,e,if_true,if_false];omega
          · by_cases e2:i=sy c
            · subst e2
              have:=hpres.1
              simp only[e1,if_false,this,if_true];omega
            · simp only[e1,e2,if_false];split <;>omega
        rw[h3,h4]at h5
        omega
    rw[hch]
    refine⟨fun s hs h0=>?_,fun s hs h0=>?_⟩
    · rw[List.count_singleton]
      have:¬ sy c=s:=fun e=>h0 (by rw[← e];exact hpres.1)
      simp[this]
    · have:=honly s hs h0
      subst this
      simp;omega
  · have h0:(av xs)=[]:=List.eq_nil_of_length_eq_zero (by omega)
    have hch:cg xs m=[]:=by unfold cg;rw[h0];simp[qly]
    have hcc:=nl xs
    rw[h0]at hcc
    rw[hch]
    refine⟨fun s _ _=>by simp,fun s hs hp=>?_⟩
    exfalso
    have h3:=i7 (fun _=>(1:Int)) hs
    have h5:az xs.length (fun j=>if j=s then(1:Int) else 0)<=PS xs (fun _=>1):=by
      apply lr;intro i hi
      by_cases e1:i=s
      · subst e1;simp only[hp,if_true];omega
      · simp only[e1,if_false];split <;>omega
    rw[h3]at h5
    simp at hcc;omega
theorem qlz{xs:List Int}{most:Int}(h:xs.length<=256)(hn:(av xs).length<=2^dx most)(hm:1<=dx most){s:Nat}(hs:s<xs.length):
    0<=(gl xs most).getD s 0/\(gl xs most).getD s 0<=dx most/\(0<(gl xs most).getD s 0↔0<xs.getD s 0):=by
  rw[qah h hn hs]
  obtain⟨h1,h2⟩:=qg2 hm hn
  by_cases e:0<xs.getD s 0
  · have:=h2 s hs e
    exact⟨by omega,by omega,by constructor <;>intro _ <;>omega⟩
  · have:=h1 s hs e
    exact⟨by omega,by omega,by constructor <;>intro _ <;>omega⟩
def ju(x:Int):Int:=if 1<=x/\x<=15 then 2^(15-x).toNat else 0
def i4(xs:List Int):Int:=(xs.map ju).sum
theorem qeb(f:Int->Int):∀ xs:List Int,(xs.map f).sum=az xs.length (fun s=>f (xs.getD s 0))
 | xs=>by
  have:∀ k,k<=xs.length->((xs.take k).map f).sum=az k (fun s=>f (xs.getD s 0)):=by
   intro k
   induction k with
   | zero=>intro _;simp[az]
   | succ k ih =>
    intro h
    have h':k<xs.length:=by omega
    rw[List.take_succ_eq_append_getElem h',List.map_append,List.sum_append,ih (by omega)]
    simp[az,List.getD_eq_getElem?_getD,h']
  have:=this xs.length (Nat.le_refl _)
  rwa [List.take_length]at this
theorem qn6{xs:List Int}{most:Int}(h:xs.length<=256)(h2:2<=(av xs).length)(hn:(av xs).length<=2^dx most)(hm:1<=dx most)(hm':dx most<=15):i4 (gl xs most)=32768:=by
 obtain⟨f1,f2,f3,_⟩:=ye hm h2 hn
 rw[i4,qeb,ph h hn]
 have e:az xs.length (fun s=>ju ((gl xs most).getD s 0))=PS xs (fun s=>2^(15-dx most)*2^(dx most-(cg xs (dx most)).count s)):=by
  apply bi;intro s hs
  rw[qah h hn hs]
  by_cases e:0<xs.getD s 0
  ·have:=f2 s e
   simp only[e,if_true,ju]
   rw[if_pos (by omega),← Int.pow_add]
   congr 1;omega
  ·simp only[e,if_false,f1 s e,ju]
   rw[if_neg (by omega)]
 rw[e,PS_mul,f3,← Int.pow_add,show 15-dx most+dx most=15 by omega]
 rfl
end Go.V
/-! Lengths of codes: all counts one; counts so many times as great. Plain Lean; no program. -/
namespace Go.V
set_option linter.unusedVariables false
set_option linter.unusedSimpArgs false
end Go.V
/-! Lengths of codes: two that change places; all of one length. Plain Lean; no program. -/
namespace Go.V
set_option linter.unusedVariables false
set_option linter.unusedSimpArgs false
end Go.V
/-! Codes of symbols out of lengths: lists alone. Plain Lean; no program. -/
namespace Go.V
set_option linter.unusedVariables false
set_option linter.unusedSimpArgs false
theorem qhp{α:Type}{P:List α->Prop}(h0:P [])(h1:∀ l x,P l->P (l++[x]))(l:List α):P l:=by
 have h:∀ r:List α,P r.reverse:=by
  intro r
  induction r with
  | nil=>exact h0
  | cons x r ih=>rw[List.reverse_cons];exact h1 _ _ ih
 have:=h l.reverse
 rwa [List.reverse_reverse]at this
def ln(ls:List Int)(s:Nat):Int:=ls.getD s 0
def z4(ls:List Int):List Nat:=(List.range ls.length).filter (fun s=>decide (0<ln ls s))
def cl(ls:List Int):Bool:=decide (ls.length<=256) && (ls.all (fun x=>decide (0<=x/\x<=15)) && ((decide ((z4 ls).length=1) && ls.all (fun x=>decide (x<=1))) || decide (i4 ls=32768)))
def md(ls:List Int):List Nat:=cz (ln ls) (z4 ls)
def qnr(ls:List Int)(st:Int×Int×List Int)(s:Nat):Int×Int×List Int :=
 let nx:=st.1*2^(ln ls s-st.2.1).toNat
 (nx+1,ln ls s,st.2.2.set s nx)
def eh(ls:List Int)(l:List Nat):Int×Int×List Int:=l.foldl (qnr ls) (0,0,List.replicate ls.length 0)
def px(ls:List Int):List Int:=if cl ls then(eh ls (md ls)).2.2 else []
def wS(ls:List Int)(l:List Nat):Int:=(l.map fun s=>(2:Int)^(15-ln ls s).toNat).sum
theorem qoz(ls:List Int):wS ls []=0:=rfl
theorem zj(ls:List Int)(a b:List Nat):wS ls (a++b)=wS ls a+wS ls b:=by simp[wS]
theorem kh(ls:List Int)(a:Nat)(b:List Nat):wS ls (a ::b)=2^(15-ln ls a).toNat+wS ls b:=by simp[wS]
theorem zi(ls:List Int)(l:List Nat):0<=wS ls l:=by
 induction l with
 | nil=>simp[wS]
 | cons a l ih=>rw[kh];have:=fg (15-ln ls a).toNat;omega
theorem qku(ls:List Int){a b:List Nat}(h:a.Perm b):wS ls a=wS ls b:=by
 induction h with
 | nil=>rfl
 | cons x _ ih=>rw[kh,kh,ih]
 | swap x y l=>rw[kh,kh,kh,kh];omega
 | trans _ _ h1 h2=>exact h1.trans h2
theorem qc8{ls:List Int}{s:Nat}:s∈z4 ls↔s<ls.length/\0<ln ls s:=by simp[z4]
theorem qji(ls:List Int):(z4 ls).Nodup:=List.nodup_range.sublist List.filter_sublist
theorem mj(ls:List Int):(md ls).Perm (z4 ls):=jj _ _
theorem jz{ls:List Int}{s:Nat}:s∈md ls↔s<ls.length/\0<ln ls s:=by rw[(mj ls).mem_iff,qc8]
theorem wn(ls:List Int):(md ls).Nodup:=(mj ls).nodup_iff.2 (qji ls)
theorem m9(ls:List Int):ao (ln ls) (md ls):=mb _
theorem qlx{ls:List Int}{s:Nat}(h:ls.length<=s):ln ls s=0:=by simp[ln,List.getD_eq_getElem?_getD,List.getElem?_eq_none h]
theorem xy{ls:List Int}{s:Nat}(h:s<ls.length):ln ls s=ls[s]:=by simp[ln,List.getD_eq_getElem?_getD,h]
structure Coded(ls:List Int)(l:List Nat)(st:Int×Int×List Int):Prop where
 next:st.1*2^(15-st.2.1).toNat=wS ls l
 low:0<=st.1
 last:0<=st.2.1/\st.2.1<=15
 ge:∀ s∈l,ln ls s<=st.2.1
 len:st.2.2.length=ls.length
 out:∀ A s B,l=A++s ::B->st.2.2.getD s 0*2^(15-ln ls s).toNat=wS ls A
 none:∀ s,s ∉ l->st.2.2.getD s 0=0
 end_:l=[]∨∃ A s,l=A++[s]/\st.2.1=ln ls s
theorem zt{n l x:Int}(hl:0<=l/\l<=15)(hx:l<=x/\x<=15):n*2^(x-l).toNat*2^(15-x).toNat=n*2^(15-l).toNat:=by
 rw[Int.mul_assoc,← Int.pow_add];congr 2;omega
theorem qb8(ls:List Int)(l:List Nat)(s:Nat):eh ls (l++[s])=qnr ls (eh ls l) s:=by simp[eh]
theorem coded(ls:List Int):∀ l:List Nat,ao (ln ls) l->l.Nodup->(∀ s∈l,s<ls.length/\0<ln ls s/\ln ls s<=15)->Coded ls l (eh ls l):=by
 refine qhp ?_ ?_
 ·intro _ _ _
  refine⟨by simp[eh,wS],by simp[eh],by simp[eh],by simp,by simp[eh],?_,?_,.inl rfl⟩
  ·intro A s B h;simp at h
  ·intro s _;simp only[eh,List.foldl_nil,List.getD_eq_getElem?_getD,List.getElem?_replicate];split <;>rfl
 ·intro l s ih hs hn hb
  have hc:=ih hs.left (List.nodup_append.1 hn).1 (fun t ht=>hb t (List.mem_append_left _ ht))
  obtain⟨b1,b2,b3⟩:=hb s (by simp)
  have hle:(eh ls l).2.1<=ln ls s:=by
   rcases hc.end_ with rfl | ⟨A,t,rfl,e⟩
   ·show(0:Int)<=_;omega
   ·rw[e];exact hs.across t (by simp) s (by simp)
  have hx:=zt (n:=(eh ls l).1) hc.last ⟨hle,b3⟩
  have hnx:0<=(eh ls l).1*2^(ln ls s-(eh ls l).2.1).toNat:=Int.mul_nonneg hc.low (Int.le_of_lt (fg _))
  have hsl:s ∉ l:=by
   intro h
   have:=(List.nodup_append.1 hn).2.2 s h s (by simp)
   exact this rfl
  rw[qb8]
  refine⟨?_,?_,?_,?_,?_,?_,?_,.inr ⟨l,s,rfl,rfl⟩⟩
  ·show(_+1)*_=_
   rw[Int.add_mul,zj,← hc.next,← hx]
   simp[qnr,wS]
  ·show 0<=_+1
   omega
  ·show 0<=ln ls s/\ln ls s<=15
   omega
  ·intro t ht
   show ln ls t<=ln ls s
   rcases List.mem_append.1 ht with h | h
   ·exact hs.across t h s (by simp)
   ·have:t=s:=by simpa using h
    rw[this];omega
  ·simp[qnr,hc.len]
  ·intro A t B h
   show((eh ls l).2.2.set s _).getD t 0*_=_
   rcases List.eq_nil_or_concat B with rfl | ⟨B',u,rfl⟩
   ·obtain⟨rfl,h2⟩:=List.append_inj' h rfl
    have:s=t:=by simpa using h2
    subst this
    rw[List.getD_eq_getElem?_getD,List.getElem?_set_self (by rw[hc.len];exact b1)]
    simp only[Option.getD_some]
    rw[hx,hc.next]
   ·rw[List.concat_eq_append,← List.cons_append,← List.append_assoc]at h
    obtain⟨h1,h2⟩:=List.append_inj' h rfl
    have hne:s≠t:=by
     rintro rfl
     exact hsl (by rw[h1];simp)
    rw[List.getD_eq_getElem?_getD,List.getElem?_set_ne hne,← List.getD_eq_getElem?_getD]
    exact hc.out A t B' h1
  ·intro t ht
   simp only[List.mem_append,List.mem_singleton,not_or]at ht
   show((eh ls l).2.2.set s _).getD t 0=0
   rw[List.getD_eq_getElem?_getD,List.getElem?_set_ne (fun e=>ht.2 e.symm),← List.getD_eq_getElem?_getD]
   exact hc.none t ht.1
theorem gg{ls:List Int}(h:cl ls=true):ls.length<=256/\(∀ s,0<=ln ls s/\ln ls s<=15)/\(((z4 ls).length=1/\∀ s,ln ls s<=1)∨i4 ls=32768):=by
 simp only[cl,Bool.and_eq_true,Bool.or_eq_true,decide_eq_true_eq,List.all_eq_true]at h
 obtain⟨h1,h2,h3⟩:=h
 have get:∀ {Q:Int->Prop},Q 0->(∀ x∈ls,Q x)->∀ s,Q (ln ls s):=by
  intro Q h0 hQ s
  by_cases hs:s<ls.length
  ·rw[xy hs];exact hQ _ (List.getElem_mem hs)
  ·rw[qlx (by omega)];exact h0
 refine⟨h1,get (Q:=fun x=>0<=x/\x<=15) (by omega) h2,h3.imp (fun⟨a,b⟩=>⟨a,get (Q:=fun x=>x<=1) (by omega) b⟩) id⟩
theorem qkw(ls:List Int)(l:List Nat):wS ls (l.filter (fun s=>decide (0<ln ls s)))=(l.map fun s=>if 0<ln ls s then(2:Int)^(15-ln ls s).toNat else 0).sum:=by
 induction l with
 | nil=>rfl
 | cons a l ih =>
  by_cases h:0<ln ls a
  ·simp[List.filter_cons,h,kh,ih]
  ·simp[List.filter_cons,h,ih]
theorem rp(f:Int->Int)(ls:List Int):((List.range ls.length).map fun s=>f (ln ls s))=ls.map f:=by
 apply List.ext_getElem
 ·simp
 ·intro i h1 h2
  have:i<ls.length:=by simpa using h2
  simp[xy this]
theorem qkv{ls:List Int}(hb:∀ s,0<=ln ls s/\ln ls s<=15):wS ls (md ls)=i4 ls:=by
 rw[qku ls (mj ls),z4,qkw,i4,← rp ju ls]
 congr 1
 apply List.map_congr_left
 intro s _
 have:=hb s
 unfold ju
 by_cases h:0<ln ls s
 ·rw[if_pos h,if_pos ⟨by omega,this.2⟩]
 ·rw[if_neg h,if_neg (by omega)]
theorem fo{ls:List Int}(h:cl ls=true):Coded ls (md ls) (eh ls (md ls))/\px ls=(eh ls (md ls)).2.2:=by
 obtain⟨h1,h2,h3⟩:=gg h
 exact⟨coded ls _ (m9 ls) (wn ls) (fun s hs=>⟨(jz.1 hs).1,(jz.1 hs).2,(h2 s).2⟩),by simp[px,h]⟩
theorem j8{ls:List Int}(h:cl ls=true):(px ls).length=ls.length:=by
 rw[(fo h).2];exact(fo h).1.len
def cd(ls:List Int)(s:Nat):Int:=(px ls).getD s 0
theorem qqr{ls:List Int}(h:cl ls=true){s:Nat}(hs:¬ 0<ln ls s):cd ls s=0:=by
 rw[cd,(fo h).2]
 exact(fo h).1.none s (fun e=>hs (jz.1 e).2)
theorem qmz{ls:List Int}(h:cl ls=true){A B:List Nat}{s:Nat}(he:md ls=A++s ::B):cd ls s*2^(15-ln ls s).toNat=wS ls A:=by
 rw[cd,(fo h).2]
 exact(fo h).1.out A s B he
theorem vl{ls:List Int}(h:cl ls=true)(s:Nat):0<=cd ls s:=by
 by_cases hs:s<ls.length/\0<ln ls s
 ·obtain⟨A,B,he⟩:=List.append_of_mem (jz.2 hs)
  have h1:=qmz h he
  have h2:=zi ls A
  have h3:=fg (15-ln ls s).toNat
  rw[← h1]at h2
  exact Int.le_of_mul_le_mul_right (by simpa using h2) h3
 ·rw[qqr h]
  ·omega
  ·intro h0
   apply hs
   refine⟨?_,h0⟩
   by_cases hl:s<ls.length
   ·exact hl
   ·rw[qlx (by omega)]at h0;omega
theorem qgj{ls:List Int}(h:cl ls=true):i4 ls<=32768:=by
 obtain⟨h1,h2,h3 | h3⟩:=gg h
 ·rw[← qkv h2,qku ls (mj ls)]
  obtain⟨a,ha⟩:=List.length_eq_one_iff.1 h3.1
  rw[ha,kh,qoz]
  have hp:a∈z4 ls:=by rw[ha];simp
  have:=(qc8.1 hp).2
  have:=h3.2 a
  have e:ln ls a=1:=by omega
  rw[e];decide
 ·omega
theorem qol{ls:List Int}(h:cl ls=true){s:Nat}(hs:s<ls.length/\0<ln ls s):cd ls s+1<=2^(ln ls s).toNat:=by
 obtain⟨h1,h2,_⟩:=gg h
 obtain⟨A,B,he⟩:=List.append_of_mem (jz.2 hs)
 have e1:=qmz h he
 have e2:=qgj h
 rw[← qkv h2,he,zj,kh]at e2
 have e3:=zi ls B
 have hp:=fg (15-ln ls s).toNat
 have hx:=h2 s
 have e4:(cd ls s+1)*2^(15-ln ls s).toNat<=2^(ln ls s).toNat*2^(15-ln ls s).toNat:=by
  rw[Int.add_mul,e1,← Int.pow_add,show(ln ls s).toNat+(15-ln ls s).toNat=15 by omega]
  have:(2:Int)^15=32768:=by decide
  omega
 exact Int.le_of_mul_le_mul_right e4 hp
theorem qok{ls:List Int}(h:cl ls=true){A B:List Nat}{s t:Nat}(he:md ls=A++s ::B)(ht:t∈B):(cd ls s+1)*2^(ln ls t-ln ls s).toNat<=cd ls t:=by
 obtain⟨h1,h2,_⟩:=gg h
 obtain⟨C,D,hB⟩:=List.append_of_mem ht
 have e1:=qmz h he
 have e2:=qmz (A:=A++s ::C) (B:=D) (s:=t) h (by rw[he,hB];simp)
 have hle:ln ls s<=ln ls t:=by
  have:=m9 ls
  rw[he]at this
  exact(List.pairwise_cons.1 (List.pairwise_append.1 this).2.1).1 t ht
 rw[zj,kh]at e2
 have e3:=zi ls C
 have hs:=h2 s
 have ht:=h2 t
 have e4:(cd ls s+1)*2^(ln ls t-ln ls s).toNat*2^(15-ln ls t).toNat<=cd ls t*2^(15-ln ls t).toNat:=by
  rw[zt hs ⟨hle,ht.2⟩,Int.add_mul,e1,e2];omega
 exact Int.le_of_mul_le_mul_right e4 (fg _)
theorem two_in{l:List Nat}(hn:l.Nodup){s t:Nat}(hs:s∈l)(ht:t∈l)(hne:s≠t):(∃ A B,l=A++s ::B/\t∈B)∨(∃ A B,l=A++t ::B/\s∈B):=by
 obtain⟨A,B,rfl⟩:=List.append_of_mem hs
 rcases List.mem_append.1 ht with h | h
 ·obtain⟨C,D,rfl⟩:=List.append_of_mem h
  exact .inr ⟨C,D++s ::B,by simp,by simp⟩
 ·rcases List.mem_cons.1 h with e | e
  ·exact absurd e.symm hne
  ·exact .inl ⟨A,B,rfl,e⟩
theorem qjn{ls:List Int}{s t:Nat}(hs:s<ls.length/\0<ln ls s)(ht:t<ls.length/\0<ln ls t)(h:ln ls s<ln ls t∨(ln ls s=ln ls t/\s<t)):∃ A B,md ls=A++s ::B/\t∈B:=by
 have hne:s≠t:=by rintro rfl;omega
 rcases two_in (wn ls) (jz.2 hs) (jz.2 ht) hne with h1 | ⟨A,B,he,hB⟩
 ·exact h1
 ·exfalso
  have hso:=m9 ls
  rw[he]at hso
  have hle:ln ls t<=ln ls s:=(List.pairwise_cons.1 (List.pairwise_append.1 hso).2.1).1 s hB
  have heq:ln ls s=ln ls t:=by omega
  have hk:=ji (key:=ln ls) (z4 ls) (ln ls s)
  have hlt:((z4 ls).filter (fun x=>ln ls x ==ln ls s)).Pairwise (·<·):=(List.pairwise_lt_range.sublist List.filter_sublist).sublist List.filter_sublist
  rw[← hk]at hlt
  have e:(cz (ln ls) (z4 ls))=A++t ::B:=he
  rw[e,List.filter_append,List.filter_cons]at hlt
  rw[if_pos (by simp[heq])]at hlt
  have:=(List.pairwise_cons.1 (List.pairwise_append.1 hlt).2.1).1 s (List.mem_filter.2 ⟨hB,by simp⟩)
  omega
theorem qg8{ls:List Int}(h:cl ls=true){s t:Nat}(hs:s<ls.length/\0<ln ls s)(ht:t<ls.length/\0<ln ls t)(hlt:ln ls s<ln ls t∨(ln ls s=ln ls t/\s<t)):cd ls s+1<=cd ls t / 2^(ln ls t-ln ls s).toNat:=by
 obtain⟨A,B,he,hB⟩:=qjn hs ht hlt
 exact(Int.le_ediv_iff_mul_le (fg _)).2 (qok h he hB)
theorem qpa{ls:List Int}(h:cl ls=true){s t:Nat}(hs:s<ls.length/\0<ln ls s)(ht:t<ls.length/\0<ln ls t)(hl:ln ls s=ln ls t)(hc:cd ls s=cd ls t):s=t:=by
 rcases Nat.lt_trichotomy s t with e | e | e
 ·have:=qg8 h hs ht (.inr ⟨hl,e⟩)
  rw[hl]at this;simp at this;omega
 ·exact e
 ·have:=qg8 h ht hs (.inr ⟨hl.symm,e⟩)
  rw[hl]at this;simp at this;omega
end Go.V
/-! Bits in bytes: lists alone. Plain Lean; no program. -/
namespace Go.V
set_option linter.unusedVariables false
set_option linter.unusedSimpArgs false
def b2i(b:Bool):Int:=if b then 1 else 0
theorem jn(b:Bool):0<=b2i b/\b2i b<=1:=by cases b <;>decide
def rh(v:Int)(i:Nat):Bool:=decide (v / 2^i % 2=1)
def dl(v:Int):Nat->List Bool
 | 0=>[]
 | n+1=>rh v n ::dl v n
theorem er(v:Int):∀ n,(dl v n).length=n
 | 0=>rfl
 | n+1=>by simp[dl,er v n]
def fi(bs:List Bool)(j:Nat):Int :=
 b2i (bs.getD (8*j) false)+2*b2i (bs.getD (8*j+1) false)+4*b2i (bs.getD (8*j+2) false)+8*b2i (bs.getD (8*j+3) false)+16*b2i (bs.getD (8*j+4) false)+32*b2i (bs.getD (8*j+5) false)+64*b2i (bs.getD (8*j+6) false)+128*b2i (bs.getD (8*j+7) false)
def fz(bs:List Bool):List Int:=(List.range ((bs.length+7) / 8)).map (fi bs)
def jd(l:List Int)(i:Nat):Bool:=rh (l.getD (i / 8) 0) (i % 8)
def bg(l:List Int):List Bool:=(List.range (8*l.length)).map (jd l)
theorem bo(bs:List Bool):(fz bs).length=(bs.length+7) / 8:=by simp[fz]
theorem dw(l:List Int):(bg l).length=8*l.length:=by simp[bg]
theorem pz(bs:List Bool)(j:Nat):0<=fi bs j/\fi bs j<=255:=by
 have:=fun i=>jn (bs.getD i false)
 have h0:=this (8*j);have h1:=this (8*j+1);have h2:=this (8*j+2);have h3:=this (8*j+3)
 have h4:=this (8*j+4);have h5:=this (8*j+5);have h6:=this (8*j+6);have h7:=this (8*j+7)
 unfold fi
 omega
theorem z9(bs:List Bool):∀ x∈fz bs,0<=x/\x<=255:=by
 intro x hx
 obtain⟨j,_,rfl⟩:=List.mem_map.1 hx
 exact pz bs j
theorem qfc(bs:List Bool)(b:Bool)(i:Nat):(bs++[b]).getD i false=if i=bs.length then b else bs.getD i false:=by
 simp only[List.getD_eq_getElem?_getD]
 split
 ·subst_vars;simp
 ·rename_i h
  by_cases h2:i<bs.length
  ·rw[List.getElem?_append_left h2]
  ·rw[List.getElem?_eq_none (by simp;omega),List.getElem?_eq_none (by omega)]
theorem dk(bs:List Bool){i:Nat}(h:bs.length<=i):bs.getD i false=false:=by
 simp[List.getD_eq_getElem?_getD,List.getElem?_eq_none h]
theorem qay(bs:List Bool)(b:Bool)(j:Nat):fi (bs++[b]) j=if j=bs.length / 8 then fi bs j+b2i b*2^(bs.length % 8) else fi bs j:=by
 split
 ·rename_i h
  have hb:∀ k,bs.length % 8<=k->bs.getD (8*j+k) false=false:=fun k hk=>dk bs (by omega)
  have hs:∀ k,(bs++[b]).getD (8*j+k) false=if k=bs.length % 8 then b else bs.getD (8*j+k) false:=by
   intro k
   rw[qfc]
   congr 1
   apply propext
   constructor <;>intro h <;>omega
  have h0:=hs 0;have h1:=hs 1;have h2:=hs 2;have h3:=hs 3;have h4:=hs 4;have h5:=hs 5;have h6:=hs 6;have h7:=hs 7
  have hm:bs.length % 8<8:=Nat.mod_lt _ (by decide)
  generalize bs.length % 8=m at *
  unfold fi
  rw[Nat.add_zero]at h0
  rw[h0,h1,h2,h3,h4,h5,h6,h7]
  have z:=hb m (Nat.le_refl _)
  have zero:b2i false=0:=rfl
  match m,hm,z with
  | 0,_,z=>rw[Nat.add_zero]at z;rw[z];simp[zero];omega
  | 1,_,z=>rw[z];simp[zero];omega
  | 2,_,z=>rw[z];simp[zero];omega
  | 3,_,z=>rw[z];simp[zero];omega
  | 4,_,z=>rw[z];simp[zero];omega
  | 5,_,z=>rw[z];simp[zero];omega
  | 6,_,z=>rw[z];simp[zero];omega
  | 7,_,z=>rw[z];simp[zero];omega
 ·rename_i h
  have hs:∀ k,k<8->(bs++[b]).getD (8*j+k) false=bs.getD (8*j+k) false:=by
   intro k hk
   rw[qfc,if_neg (by omega)]
  unfold fi
  have h0:=hs 0 (by decide)
  rw[Nat.add_zero]at h0
  rw[h0,hs 1 (by decide),hs 2 (by decide),hs 3 (by decide),hs 4 (by decide),hs 5 (by decide),hs 6 (by decide),hs 7 (by decide)]
theorem qaz{bs:List Bool}{j:Nat}(h:bs.length<=8*j):fi bs j=0:=by
 unfold fi
 rw[dk bs (by omega),dk bs (by omega),dk bs (by omega),dk bs (by omega),dk bs (by omega),dk bs (by omega),dk bs (by omega),dk bs (by omega)]
 rfl
theorem oz{bs:List Bool}{j:Nat}(h:j<(bs.length+7) / 8):(fz bs)[j]?=some (fi bs j):=by
 simp[fz,h]
theorem qjm(bs:List Bool)(j:Nat):(fz bs).getD j 0=fi bs j:=by
 rw[List.getD_eq_getElem?_getD]
 by_cases h:j<(bs.length+7) / 8
 ·rw[oz h];rfl
 ·rw[List.getElem?_eq_none (by rw[bo];omega),qaz (by omega)];rfl
theorem qjl(bs:List Bool)(b:Bool):fz (bs++[b])=(if bs.length % 8=0 then fz bs++[0] else fz bs).set (bs.length / 8) (fi bs (bs.length / 8)+b2i b*2^(bs.length % 8)):=by
 apply List.ext_getElem?
 intro j
 by_cases hj:j<(bs.length+1+7) / 8
 ·rw[oz (by simpa using hj),qay,List.getElem?_set]
  have hl:(if bs.length % 8=0 then fz bs++[0] else fz bs).length=(bs.length+1+7) / 8:=by
   split <;>simp[bo] <;>omega
  rw[hl]
  by_cases he:bs.length / 8=j
  ·rw[if_pos he.symm,if_pos he,if_pos (by omega),he]
  ·rw[if_neg he,if_neg (by omega)]
   have hlt:j<(bs.length+7) / 8:=by omega
   split
   ·rw[List.getElem?_append_left (by rw[bo];exact hlt),oz hlt]
   ·rw[oz hlt]
 ·rw[List.getElem?_eq_none (by rw[bo];simp;omega),List.getElem?_eq_none]
  rw[List.length_set]
  split <;>simp[bo] <;>omega
theorem qm7(v0 v1 v2 v3 v4 v5 v6 v7:Bool)(k:Nat)(hk:k<8):rh (b2i v0+2*b2i v1+4*b2i v2+8*b2i v3+16*b2i v4+32*b2i v5+64*b2i v6+128*b2i v7) k=[v0,v1,v2,v3,v4,v5,v6,v7].getD k false:=by
 match k,hk with
 | 0,_=>cases v0 <;>cases v1 <;>cases v2 <;>cases v3 <;>cases v4 <;>cases v5 <;>cases v6 <;>cases v7 <;>decide
 | 1,_=>cases v0 <;>cases v1 <;>cases v2 <;>cases v3 <;>cases v4 <;>cases v5 <;>cases v6 <;>cases v7 <;>decide
 | 2,_=>cases v0 <;>cases v1 <;>cases v2 <;>cases v3 <;>cases v4 <;>cases v5 <;>cases v6 <;>cases v7 <;>decide
 | 3,_=>cases v0 <;>cases v1 <;>cases v2 <;>cases v3 <;>cases v4 <;>cases v5 <;>cases v6 <;>cases v7 <;>decide
 | 4,_=>cases v0 <;>cases v1 <;>cases v2 <;>cases v3 <;>cases v4 <;>cases v5 <;>cases v6 <;>cases v7 <;>decide
 | 5,_=>cases v0 <;>cases v1 <;>cases v2 <;>cases v3 <;>cases v4 <;>cases v5 <;>cases v6 <;>cases v7 <;>decide
 | 6,_=>cases v0 <;>cases v1 <;>cases v2 <;>cases v3 <;>cases v4 <;>cases v5 <;>cases v6 <;>cases v7 <;>decide
 | 7,_=>cases v0 <;>cases v1 <;>cases v2 <;>cases v3 <;>cases v4 <;>cases v5 <;>cases v6 <;>cases v7 <;>decide
theorem qkk(bs:List Bool)(i:Nat):jd (fz bs) i=bs.getD i false:=by
 have hm:i % 8<8:=Nat.mod_lt _ (by decide)
 rw[jd,qjm,fi,qm7 _ _ _ _ _ _ _ _ _ hm]
 have hi:i=8*(i / 8)+i % 8:=by omega
 generalize i % 8=k at *
 generalize i / 8=j at *
 subst hi
 match k,hm with
 | 0,_=>rfl
 | 1,_=>rfl
 | 2,_=>rfl
 | 3,_=>rfl
 | 4,_=>rfl
 | 5,_=>rfl
 | 6,_=>rfl
 | 7,_=>rfl
theorem i6(bs:List Bool):bg (fz bs)=bs++List.replicate (8*((bs.length+7) / 8)-bs.length) false:=by
  apply List.ext_getElem?
  intro i
  by_cases hi:i<8*((bs.length+7) / 8)
  · have h1:(bg (fz bs))[i]?=some (bs.getD i false):=by
      simp[bg,bo,hi,qkk]
    rw[h1]
    by_cases h2:i<bs.length
    · rw[List.getElem?_append_left h2,List.getD_eq_getElem?_getD,List.getElem?_eq_getElem h2];rfl
    · rw[List.getElem?_append_right (by omega),dk bs (by omega),List.getElem?_replicate,if_pos (by omega)]
  · rw[List.getElem?_eq_none (by rw[dw,bo];omega),List.getElem?_eq_none (by simp;omega)]
end Go.V
/-! Codes of symbols: how both texts come to them. Plain Lean; no program. -/
namespace Go.V
set_option linter.unusedVariables false
set_option linter.unusedSimpArgs false
def jf(ls:List Int):Nat:=(ls.filter fun x=>decide (0<x)).length
theorem qnv(ls:List Int):(List.range ls.length).map (ln ls)=ls:=by
 have:=rp id ls
 simpa using this
theorem qnx(ls:List Int):(z4 ls).length=jf ls:=by
 unfold jf
 conv=>rhs;rw[← qnv ls]
 rw[List.filter_map,List.length_map]
 rfl
theorem qbu{ls:List Int}{x:Int}(hx:x∈ls)(h:x<0∨15<x):cl ls=false:=by
 unfold cl
 have:ls.all (fun x=>decide (0<=x/\x<=15))=false:=by
  rw[List.all_eq_false]
  exact⟨x,hx,by simp;omega⟩
 rw[this]
 simp
theorem qjd{ls:List Int}(h:∀ x∈ls,0<=x/\x<=15):cl ls=(decide (ls.length<=256) && ((decide (jf ls=1) && ls.all (fun x=>decide (x<=1))) || decide (i4 ls=32768))):=by
 unfold cl
 have:ls.all (fun x=>decide (0<=x/\x<=15))=true:=by
  rw[List.all_eq_true]
  intro x hx;simpa using h x hx
 rw[this,qnx]
 simp
theorem qp9{ls:List Int}(hn:jf ls=1):ls.contains 1=ls.all (fun x=>decide (x<=1)):=by
 unfold jf at hn
 obtain⟨y,hy⟩:=List.length_eq_one_iff.1 hn
 have hm:∀ x,x∈ls->0<x->x=y:=by
  intro x hx h0
  have:x∈ls.filter (fun x=>decide (0<x)):=List.mem_filter.2 ⟨hx,by simpa using h0⟩
  rw[hy]at this
  simpa using this
 have hyin:y∈ls/\0<y:=by
  have:y∈ls.filter (fun x=>decide (0<x)):=by rw[hy];simp
  simpa using List.mem_filter.1 this
 rw[Bool.eq_iff_iff,List.contains_iff_mem,List.all_eq_true]
 constructor
 ·intro h x hx
  have h1:=hm 1 h (by omega)
  by_cases h0:0<x
  ·have:=hm x hx h0
   simp;omega
  ·simp;omega
 ·intro h
  have:=h y hyin.1
  have e:y=1:=by simp at this;omega
  rw[← e];exact hyin.1
theorem qlo(ls:List Int)(x:Int):jf (ls++[x])=jf ls+(if 0<x then 1 else 0):=by
 unfold jf
 rw[List.filter_append,List.length_append]
 congr 1
 split <;>simp_all
theorem wl(ls:List Int):jf ls<=ls.length:=List.length_filter_le _ _
theorem qmy{ls:List Int}(h:cl ls=true){A B:List Nat}{s:Nat}(he:md ls=A++s ::B):
    0<=(eh ls A).2.1/\(eh ls A).2.1<=ln ls s/\((eh ls A).2.1=0->(eh ls A).1=0)/\(eh ls A).1*2^(ln ls s-(eh ls A).2.1).toNat=cd ls s/\0<=cd ls s/\cd ls s<=32767/\s<ls.length/\0<ln ls s/\ln ls s<=15 ∧
    (eh ls A).2.2.length=ls.length/\eh ls (A++[s])=(cd ls s+1,ln ls s,(eh ls A).2.2.set s (cd ls s)):=by
  obtain⟨h1,h2,h3⟩:=gg h
  have hs:=m9 ls
  have hn:=wn ls
  rw[he]at hs hn
  have hb:∀ t∈A++s ::B,t<ls.length/\0<ln ls t/\ln ls t<=15:=by
    intro t ht
    rw[← he]at ht
    exact⟨(jz.1 ht).1,(jz.1 ht).2,(h2 t).2⟩
  have hA:=coded ls A hs.left (List.nodup_append.1 hn).1 (fun t ht=>hb t (List.mem_append_left _ ht))
  obtain⟨b1,b2,b3⟩:=hb s (by simp)
  have hle:(eh ls A).2.1<=ln ls s:=by
    rcases hA.end_ with rfl | ⟨A',t,rfl,e⟩
    · show(0:Int)<=_;omega
    · rw[e];exact hs.across t (by simp) s (by simp)
  have hx:=zt (n:=(eh ls A).1) hA.last ⟨hle,b3⟩
  have hcd:=qmz h he
  have hv:(eh ls A).1*2^(ln ls s-(eh ls A).2.1).toNat=cd ls s:=by
    have:(eh ls A).1*2^(ln ls s-(eh ls A).2.1).toNat*2^(15-ln ls s).toNat=cd ls s*2^(15-ln ls s).toNat:=by
      rw[hx,hA.next,hcd]
    exact Int.eq_of_mul_eq_mul_right (Int.ne_of_gt (fg _)) this
  have hlt:=qol h ⟨b1,b2⟩
  have hp:(2:Int)^(ln ls s).toNat<=2^15:=by
    have e1:((2^(ln ls s).toNat:Nat):Int)=2^(ln ls s).toNat:=by simp
    have:=Nat.pow_le_pow_right (n:=2) (by omega) (show(ln ls s).toNat<=15 by omega)
    omega
  refine⟨hA.last.1,hle,?_,hv,vl h s,by omega,b1,b2,b3,hA.len,?_⟩
  · intro e
    rcases hA.end_ with rfl | ⟨A',t,rfl,e'⟩
    · rfl
    · have:=hb t (by simp)
      omega
  · rw[qb8]
    show(_+1,ln ls s,_)=_
    rw[hv]
end Go.V
/-! Symbols out of bits. Plain Lean; no program. -/
namespace Go.V
set_option linter.unusedVariables false
set_option linter.unusedSimpArgs false
def lq(ls:List Int)(s:Int):Bool:=decide (0<=s/\s<(ls.length:Int)/\ln ls s.toNat≠0)
def qd(ls:List Int)(s:Int):List Bool:=if lq ls s then dl (cd ls s.toNat) (ln ls s.toNat).toNat else []
def ku(ls:List Int)(n:Nat)(v:Int):Option Nat:=(List.range ls.length).find? fun s=>decide (ln ls s=(n:Int)/\cd ls s=v)
def re(ls:List Int):Nat->Nat->Int->List Bool->Option (Nat×Nat)
 | 0,_,_,_=>none
 | _+1,_,_,[]=>none
 | k+1,n,v,b ::bs=>match ku ls (n+1) (2*v+b2i b)with
  | some s=>some (s,n+1)
  | none=>re ls k (n+1) (2*v+b2i b) bs
theorem lx{ls:List Int}(h:cl ls=true){n s:Nat}{v:Int}(hn:0<n):ku ls n v=some s↔s<ls.length/\ln ls s=(n:Int)/\cd ls s=v:=by
 constructor
 ·intro e
  have h1:=List.find?_some e
  have h2:=List.mem_of_find?_eq_some e
  simp only[decide_eq_true_eq]at h1
  exact⟨by simpa using h2,h1⟩
 ·rintro⟨h1,h2,h3⟩
  cases e:ku ls n v with
  | none =>
   have:=List.find?_eq_none.1 e s (by simpa using h1)
   simp[h2,h3]at this
  | some t =>
   have h4:=List.find?_some e
   have h5:=List.mem_of_find?_eq_some e
   simp only[decide_eq_true_eq]at h4
   have:t=s:=qpa h ⟨by simpa using h5,by omega⟩ ⟨h1,by omega⟩ (by omega) (by omega)
   rw[this]
theorem qkj(v:Int)(n:Nat)(h:0<=v):v / 2^n=2*(v / 2^(n+1))+b2i (rh v n):=by
 have hp:=fg n
 have h1:v / 2^(n+1)=v / 2^n / 2:=by
  rw[pow_succ',Int.mul_comm,Int.ediv_ediv_of_nonneg (Int.le_of_lt hp)]
 rw[h1]
 unfold rh b2i
 have:=Int.emod_nonneg (v / 2^n) (show(2:Int)≠0 by omega)
 have:=Int.emod_lt_of_pos (v / 2^n) (show(0:Int)<2 by omega)
 have:=Int.mul_ediv_add_emod (v / 2^n) 2
 by_cases e:v / 2^n % 2=1
 ·simp[e];omega
 ·have e2:v / 2^n % 2=0:=by omega
  simp[e2];omega
theorem uj {ls:List Int} (h:cl ls=true) {s:Nat} (hs:s<ls.length/\0<ln ls s) (rest:List Bool):re ls 15 0 0 (dl (cd ls s) (ln ls s).toNat++rest)=some (s,(ln ls s).toNat):=by
  obtain⟨_,hrng,_⟩:=gg h
  have hb:=hrng s
  have hc:=qol h hs
  have hc0:=vl h s
  -- with r bits left, the value so far
  have step :∀(r n:Nat),r+n=(ln ls s).toNat->0<r->re ls (15-n) n (cd ls s / 2^r) (dl (cd ls s) r++rest)=some (s,(ln ls s).toNat):=by
    intro r
    induction r with
    | zero=>intro n _ h0;omega
    | succ r ih =>
      intro n hn _
      obtain⟨k,hk⟩:∃ k,15-n=k+1:=⟨15-n-1,by omega⟩
      rw[hk]
      show(match ku ls (n+1) (2*(cd ls s / 2^(r+1))+b2i (rh (cd ls s) r))with
        | some s=>some (s,n+1)
        | none=>re ls k (n+1) (2*(cd ls s / 2^(r+1))+b2i (rh (cd ls s) r)) (dl (cd ls s) r++rest))=_
      rw[← qkj _ _ hc0]
      by_cases hr:r=0
      · subst hr
        have e:ku ls (n+1) (cd ls s / 2^0)=some s:=(lx h (by omega)).2 ⟨hs.1,by omega,by simp⟩
        rw[e]
        show some (s,n+1)=_
        rw[show n+1=(ln ls s).toNat by omega]
      · have e:ku ls (n+1) (cd ls s / 2^r)=none:=by
          cases e:ku ls (n+1) (cd ls s / 2^r)with
          | none=>rfl
          | some t =>
            exfalso
            obtain⟨t1,t2,t3⟩:=(lx h (by omega)).1 e
            have:=qg8 h (s:=t) (t:=s) ⟨t1,by omega⟩ hs (.inl (by omega))
            have e2:(ln ls s-ln ls t).toNat=r:=by omega
            rw[e2]at this
            omega
        rw[e]
        show re ls k (n+1) _ _=_
        have:=ih (n+1) (by omega) (by omega)
        rwa [show 15-(n+1)=k by omega]at this
  have h0:=step (ln ls s).toNat 0 (by omega) (by omega)
  have hz:cd ls s / 2^(ln ls s).toNat=0:=Int.ediv_eq_zero_of_lt hc0 (by omega)
  rw[hz]at h0
  exact h0
theorem qd8(ls:List Int):∀(k n:Nat)(v:Int)(bs:List Bool)(s m:Nat),re ls k n v bs=some (s,m)->n<m/\m<=n+bs.length/\m<=n+k/\s<ls.length
 | 0,n,v,bs,s,m,h=>by simp[re]at h
 | k+1,n,v,[],s,m,h=>by simp[re]at h
 | k+1,n,v,b ::bs,s,m,h=>by
  unfold re at h
  split at h
  ·rename_i t ht
   cases h
   have:=List.mem_of_find?_eq_some ht
   simp at this
   simp;omega
  ·have:=qd8 ls k (n+1) _ bs s m h
   simp;omega
end Go.V

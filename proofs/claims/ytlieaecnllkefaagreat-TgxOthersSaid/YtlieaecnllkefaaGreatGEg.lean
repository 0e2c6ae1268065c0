/- Own texts, packed: C1I, C2I, C3I, C4I. -/
import Derived.Test.YtlieaecnllkefaaGreatGXg
import Derived.Test.YtlieaecnllkefaaGreatGCg
import Derived.Test.YtlieaecnllkefaaGreatGBg
set_option linter.unusedVariables false
set_option linter.unusedSimpArgs false
set_option maxHeartbeats 2000000
namespace Go.Proofs.YtlieaecnllkefaaGreat
open Go Go.V
theorem mT(lenv:Addr){w:World}{g cap:Nat}{A X M Y B:List Int}{n:Nat}{a b c:Int}
    (DI:cC w g 3 cap ((A++X++M++Y++B).map (Value.int .i64))) (Gf:X.length=Y.length) (hn:n=(A++X++M++Y++B).length) (Eh:n<=2^62)
    (ha:a=A.length) (hb:b=A.length+X.length+M.length) (hc:c=X.length) :
    Calls P 198 #[.slice (some ⟨g,0,none⟩) n cap,.int .i64 a,.int .i64 b,.int .i64 c,.func (.func 183) #[] #[.pointer (some lenv)]] w fun ev w' =>
      ev=.returned (.tuple #[])/\cC w' g 3 cap ((A++Y++M++X++B).map (Value.int .i64))/\w.grownBy w' (some g):=by
  apply vc198;dsimp only[VC198,rt,Wt,Br,Rd,Ix,iq];have DH:n=A.length+X.length+M.length+Y.length+B.length:=by simp[hn];omega
  refine⟨fun m i w'=>∃ X1 X2 Y1 Y2,X=X1++X2/\Y=Y1++Y2/\X1.length=Y1.length/\i=X1.length/\m=X2.length ∧
    cC w' g 3 cap ((A++Y1++X2++M++X1++Y2++B).map (Value.int .i64))/\w.grownBy w' (some g),⟨X.length,[],X,[],Y,rfl,rfl,rfl,rfl,rfl,by simpa using DI,aD _ _⟩,?_⟩
  rintro m i w' ⟨X1,X2,Y1,Y2,rfl,rfl,hl,rfl,rfl,ho,hg⟩;have Gi:X2.length=Y2.length:=by simp at Gf;omega
  simp only[List.length_append]at DH hb hc;refine⟨fun DF=>?_,fun DK=>?_⟩
  · cases X2 with
    | nil=>simp at hc;omega
    | cons x X2 =>
    cases Y2 with
    | nil=>simp at Gi
    | cons y Y2 =>
    simp only[List.length_cons]at DH hb hc Gi;have e1:(A++Y1++(x ::X2)++M++X1++(y ::Y2)++B).map (Value.int .i64)=((A++Y1++(x ::X2)++M++X1).map (Value.int .i64))++(Value.int .i64) y ::((Y2++B).map (Value.int .i64)):=by simp
    have e2:(A++Y1++(x ::X2)++M++X1++(y ::Y2)++B).map (Value.int .i64)=((A++Y1).map (Value.int .i64))++(Value.int .i64) x ::((X2++M++X1++(y ::Y2)++B).map (Value.int .i64)):=by simp
    have j1:(b+(X1.length:Int)).toNat=((A++Y1++(x ::X2)++M++X1).map (Value.int .i64)).length:=by simp;omega
    have j2:(a+(X1.length:Int)).toNat=((A++Y1).map (Value.int .i64)).length:=by simp;omega
    have o1:=(ho.drew.set_mid e2 j2 (v:=(Value.int .i64) y) rfl);have e3:((A++Y1).map (Value.int .i64))++(Value.int .i64) y ::((X2++M++X1++(y ::Y2)++B).map (Value.int .i64))=((A++Y1++(y ::X2)++M++X1).map (Value.int .i64))++(Value.int .i64) y ::((Y2++B).map (Value.int .i64)):=by simp
    have j3:(b+(X1.length:Int)).toNat=((A++Y1++(y ::X2)++M++X1).map (Value.int .i64)).length:=by simp;omega
    have o2:=(o1.set_mid e3 j3 (v:=(Value.int .i64) x) rfl);simp only[aG];refine⟨by omega,by omega,by omega,_,rfl,by omega,by omega,y,ho.drew.cell_mid e1 j1,by omega,_,rfl,by omega,by omega,x,ho.drew.cell_mid e2 j2,_,rfl,by omega,by omega,
      ⟨_,ho.drew.cell_mid e2 j2⟩,ho.drew.notFrozen (aL _ _),_,rfl,by omega,by omega,⟨_,o1.cell_mid e3 j3⟩,o1.notFrozen (aL _ _),by omega,X2.length,by simp,X1++[x],X2,Y1++[y],Y2,by simp,by simp,by simp[hl],by simp,rfl,?_,?_⟩
    · refine cast ?_ o2;congr 1;simp
    · exact bZ (bZ (aI hg) (aL _ _) _) (aL _ _) _
  · cases X2 with
    | cons x X2=>simp only[List.length_cons]at hc;omega
    | nil =>
    cases Y2 with
    | cons y Y2=>simp at Gi
    | nil =>
    refine⟨rfl,?_,hg⟩;refine cast ?_ ho;congr 1;simp
theorem CB(lenv:Addr){w:World}{g cap:Nat}{A X Y B:List Int}{n:Nat}{a m b:Int}
    (DI:cC w g 3 cap ((A++X++Y++B).map (Value.int .i64))) (hx:0<X.length) (hy:0<Y.length) (hn:n=(A++X++Y++B).length) (Eh:n<=2^62)
    (ha:a=A.length) (hm:m=A.length+X.length) (hb:b=A.length+X.length+Y.length) :
    Calls P 196 #[.slice (some ⟨g,0,none⟩) n cap,.int .i64 a,.int .i64 m,.int .i64 b,.func (.func 183) #[] #[.pointer (some lenv)]] w fun ev w' =>
      ev=.returned (.tuple #[])/\cC w' g 3 cap ((A++Y++X++B).map (Value.int .i64))/\w.grownBy w' (some g):=by
  apply vc196;dsimp only[VC196,fP,rt,Br,cU,iq];have DH:n=A.length+X.length+Y.length+B.length:=by simp[hn];omega
  simp only[aG];refine⟨by omega,by omega,fun k i j w'=>∃ A' X' Y' B',A++Y++X++B=A'++Y'++X'++B'/\0<X'.length/\0<Y'.length/\A'.length+X'.length=A.length+X.length/\n=A'.length+X'.length+Y'.length+B'.length/\i=X'.length/\j=Y'.length/\k=X'.length+Y'.length ∧
    cC w' g 3 cap ((A'++X'++Y'++B').map (Value.int .i64))/\w.grownBy w' (some g),⟨X.length+Y.length,A,X,Y,B,rfl,hx,hy,rfl,by omega,by omega,by omega,rfl,DI,aD _ _⟩,?_⟩
  rintro k i j w' ⟨A',X',Y',B',he,Eo,EV,Px,ER,rfl,rfl,rfl,ho,hg⟩;refine⟨fun DJ=>⟨fun ET=>?_,fun DQ=>?_⟩,fun Ga=>?_⟩
  · refine⟨by omega,?_⟩;have hX:X'=X'.take Y'.length++X'.drop Y'.length:=(List.take_append_drop _ _).symm;have l1:(X'.take Y'.length).length=Y'.length:=by simp;omega
    have l2:(X'.drop Y'.length).length=X'.length-Y'.length:=by simp
    generalize X'.take Y'.length=X1 at hX l1;generalize X'.drop Y'.length=X2 at hX l2;subst hX;simp only[List.length_append]at *;refine(mT lenv (A:=A') (X:=X1) (M:=X2) (Y:=Y') (B:=B') (by simpa using ho) l1 (by simp;omega) Eh (by omega) (by omega) (by omega)).mono fun ev w'' hh=>?_;obtain⟨h1,h2,h3⟩:=hh;refine⟨h1,by omega,_,?_,A'++Y',X2,X1,B',by simpa using he,by omega,by omega,by simp;omega,by simp;omega,by omega,by omega,rfl,by simpa using h2,aB hg h3⟩;omega
  · refine⟨by omega,by omega,by omega,?_⟩;have hY:Y'=Y'.take (Y'.length-X'.length)++Y'.drop (Y'.length-X'.length):=(List.take_append_drop _ _).symm;have l1:(Y'.take (Y'.length-X'.length)).length=Y'.length-X'.length:=by simp
    have l2:(Y'.drop (Y'.length-X'.length)).length=X'.length:=by simp;omega
    generalize Y'.take (Y'.length-X'.length)=Y1 at hY l1;generalize Y'.drop (Y'.length-X'.length)=Y2 at hY l2;subst hY;simp only[List.length_append]at *;refine(mT lenv (A:=A') (X:=X') (M:=Y1) (Y:=Y2) (B:=B') (by simpa using ho) l2.symm (by simp;omega) Eh (by omega) (by omega) (by omega)).mono fun ev w'' hh=>?_;obtain⟨h1,h2,h3⟩:=hh;refine⟨h1,by omega,_,?_,A',Y2,Y1,X'++B',by simpa using he,by omega,by omega,by omega,by simp;omega,by omega,by omega,rfl,by simpa using h2,aB hg h3⟩;omega
  · refine⟨by omega,?_⟩;have Gf:X'.length=Y'.length:=by omega
    refine(mT lenv (A:=A') (X:=X') (M:=[]) (Y:=Y') (B:=B') (by simpa using ho) Gf (by simp;omega) Eh (by omega) (by simp;omega) (by omega)).mono fun ev w'' hh=>?_;obtain⟨h1,h2,h3⟩:=hh;refine⟨h1,trivial,?_,aB hg h3⟩;rw[he];simpa using h2
def jf(lenv:Addr)(w0:World)(g:Nat)(key:Int->Int)(L:List Int):Prop :=
 ∀ w',w0.grownBy w' (some g)->∀ x∈L,∀ y∈L,Calls P 183 (#[(Value.int .i64) x,(Value.int .i64) y]++#[.pointer (some lenv)]) w' fun ev w''=>∃ c:Int,ev=.returned (.int .i64 c)/\(c<0↔key x<key y)/\w'.grownBy w'' none
theorem jf.grown{lenv:Addr}{w0 w1:World}{g:Nat}{key:Int->Int}{L:List Int}(h:jf lenv w0 g key L)(hg:w0.grownBy w1 (some g)):jf lenv w1 g key L :=
 fun w' hw=>h w' (aB hg hw)
theorem jf.sub{lenv:Addr}{w0:World}{g:Nat}{key:Int->Int}{L L':List Int}(h:jf lenv w0 g key L)(hs:∀ x∈L',x∈L):jf lenv w0 g key L' :=
 fun w' hw x hx y hy=>h w' hw x (hs x hx) y (hs y hy)
theorem rx (lenv:Addr) {w:World} {g cap:Nat} {key:Int->Int} {A X B:List Int} {n:Nat} {a b:Int}
    (DI:cC w g 3 cap ((A++X++B).map (Value.int .i64))) (hc:jf lenv w g key X) (hn:n=(A++X++B).length) (Eh:n<=2^62)
    (ha:a=A.length) (hb:b=A.length+X.length) :
    Calls P 193 #[.slice (some ⟨g,0,none⟩) n cap,.int .i64 a,.int .i64 b,.func (.func 183) #[] #[.pointer (some lenv)]] w fun ev w' =>
      ev=.returned (.tuple #[])/\(∃ Z,aJ key Z/\aQ key Z X/\cC w' g 3 cap ((A++Z++B).map (Value.int .i64)))/\w.grownBy w' (some g):=by
  apply vc193;dsimp only[VC193,rt,Wt,Br,Rd,Ix,cI,iq];have DH:n=A.length+X.length+B.length:=by simp[hn];omega
  simp only[aG];refine⟨by omega,fun m i w'=>∃ X1 X2 S,X=X1++X2/\(i=a+X1.length∨X2=[]/\b<=i)/\a<i/\aJ key S/\aQ key S X1/\m=X2.length ∧
    cC w' g 3 cap ((A++S++X2++B).map (Value.int .i64))/\w.grownBy w' (some g),?_,?_⟩
  · cases X with
    | nil=>exact⟨_,[],[],[],rfl,.inr ⟨rfl,by simp at hb;omega⟩,by omega,by simp[aJ],aQ.refl _,rfl,by simpa using DI,aD _ _⟩
    | cons x X=>exact⟨_,[x],X,[x],rfl,.inl (by simp),by omega,by simp[aJ],aQ.refl _,rfl,by simpa using DI,aD _ _⟩
  rintro m i w' ⟨X1,X2,S,rfl,hi,R1,hS,HP,rfl,ho,hg⟩;have Ng:=HP.length;refine⟨fun DF=>?_,fun DK=>?_⟩
  · cases X2 with
    | nil=>rcases hi with hi | hi <;>simp at hb <;>omega
    | cons x X2 =>
    have hi:i=a+X1.length:=by rcases hi with hi | hi <;>simp_all
    simp only[List.length_append,List.length_cons]at DH hb;refine⟨fun m2 j w2=>∃ S1 S2,S=S1++S2/\(∀ z∈S2,key x<key z)/\j=a+S1.length/\m2=S1.length/\cC w2 g 3 cap ((A++S1++(x ::S2)++X2++B).map (Value.int .i64))/\w.grownBy w2 (some g),
      ⟨_,S,[],by simp,by simp,by omega,rfl,by simpa using ho,hg⟩,?_⟩
    rintro m2 j w2 ⟨S1,S2,rfl,Iy,rfl,rfl,EB,DR⟩;simp only[List.length_append]at Ng
    have done:∀ w3,w2.grownBy w3 none->(S1=[]∨∃ S y,S1=S++[y]/\key y<=key x)->∃ X1' X2' S',X1++x ::X2=X1'++X2'/\(i+1=a+X1'.length∨X2'=[]/\b<=i+1)/\a<i+1/\aJ key S'/\aQ key S' X1'/\X2.length=X2'.length ∧
        cC w3 g 3 cap ((A++S'++X2'++B).map (Value.int .i64))/\w.grownBy w3 (some g):=by
      intro w3 h3 h1;obtain⟨k1,k2⟩:=zp hS Iy h1;refine⟨X1++[x],X2,S1++x ::S2,by simp,.inl (by simp;omega),by omega,k1,k2.trans (HP.append (aQ.refl [x])),rfl,?_,aB DR (bM h3)⟩;simpa using EB.kept_none h3
    refine⟨fun JI=>?_,fun JI=>?_⟩
    · rcases List.eq_nil_or_concat S1 with rfl | ⟨S0,y,rfl⟩
      · simp at JI
      simp only[List.concat_eq_append,List.length_append,List.length_cons,List.length_nil]at *;have e1:(A++(S0++[y])++(x ::S2)++X2++B).map (Value.int .i64)=((A++S0++[y]).map (Value.int .i64))++(Value.int .i64) x ::((S2++X2++B).map (Value.int .i64)):=by simp
      have e2:(A++(S0++[y])++(x ::S2)++X2++B).map (Value.int .i64)=((A++S0).map (Value.int .i64))++(Value.int .i64) y ::((x ::S2++X2++B).map (Value.int .i64)):=by simp
      have j1:(a+((S0.length+(0+1):Nat):Int)).toNat=((A++S0++[y]).map (Value.int .i64)).length:=by simp;omega
      have j2:(a+((S0.length+(0+1):Nat):Int)-1).toNat=((A++S0).map (Value.int .i64)).length:=by simp;omega
      refine⟨_,rfl,by omega,by omega,x,EB.drew.cell_mid e1 j1,by omega,_,rfl,by omega,by omega,y,EB.drew.cell_mid e2 j2,?_⟩;have DL:=hc w2.drew (aI DR) x (by simp) y (by have:=HP.mem (x:=y) (by simp);simp;exact .inl this);simp only[List.push_toArray,List.append_toArray,List.cons_append,List.nil_append]at DL;refine DL.mono fun ev w3 hh=>?_;obtain⟨c,h1,h2,h3⟩:=hh;have g3:w2.grownBy w3 none:=aB (aI (aD _ _)) h3;refine⟨c,h1,fun Er=>?_,fun Er=>?_⟩
      · have hk:key x<key y:=h2.1 Er;have Ee:=(EB.kept_none g3).drew;have o1:=Ee.set_mid e1 j1 (v:=(Value.int .i64) y) rfl;have e3:((A++S0++[y]).map (Value.int .i64))++(Value.int .i64) y ::((S2++X2++B).map (Value.int .i64))=((A++S0).map (Value.int .i64))++(Value.int .i64) y ::((y ::S2++X2++B).map (Value.int .i64)):=by simp
        have o2:=o1.set_mid e3 j2 (v:=(Value.int .i64) x) rfl;refine⟨by omega,by omega,_,rfl,by omega,by omega,y,Ee.cell_mid e2 j2,_,rfl,by omega,by omega,x,Ee.cell_mid e1 j1,_,rfl,by omega,by omega,⟨_,Ee.cell_mid e1 j1⟩,Ee.notFrozen (aL _ _),
          _,rfl,by omega,by omega,⟨_,o1.cell_mid e3 j2⟩,o1.notFrozen (aL _ _),by omega,S0.length,by omega,S0,y ::S2,by simp,?_,by omega,rfl,?_,?_⟩
        · intro z hz;rcases List.mem_cons.1 hz with e | e
          · rw[e];exact hk
          · exact Iy z e
        · refine cast ?_ o2;congr 1;simp
        · exact bZ (bZ (aI (aB DR (bM g3))) (aL _ _) _) (aL _ _) _
      · exact⟨by omega,_,by simp,done w3 g3 (.inr ⟨S0,y,rfl,by omega⟩)⟩
    · have:S1=[]:=List.eq_nil_of_length_eq_zero (by omega);exact⟨by omega,_,by simp,done w2.drew (aI (aD _ _)) (.inl this)⟩
  · have:X2=[]:=by
      rcases hi with hi | hi
      · exact List.eq_nil_of_length_eq_zero (by simp at hb;omega)
      · exact hi.1
    subst this;refine⟨trivial,⟨S,hS,by simpa using HP,by simpa using ho⟩,hg⟩
theorem tG (lenv:Addr) {g cap:Nat} {key:Int->Int} {n:Nat} (Eh:n<=2^61):∀ (N:Nat) {w:World} {A X Y B:List Int} {a m b:Int}
    (hN:X.length+Y.length<=N)
    (DI:cC w g 3 cap ((A++X++Y++B).map (Value.int .i64))) (hc:jf lenv w g key (X++Y)) (hX:aJ key X) (hY:aJ key Y) (hx:0<X.length) (hy:0<Y.length) (hn:n=(A++X++Y++B).length)
    (ha:a=A.length) (hm:m=A.length+X.length) (hb:b=A.length+X.length+Y.length),
    Calls P 194 #[.slice (some ⟨g,0,none⟩) n cap,.int .i64 a,.int .i64 m,.int .i64 b,.func (.func 183) #[] #[.pointer (some lenv)]] w fun ev w' =>
      ev=.returned (.tuple #[])/\(∃ Z,aJ key Z/\aQ key Z (X++Y)/\cC w' g 3 cap ((A++Z++B).map (Value.int .i64)))/\w.grownBy w' (some g):=by
  intro N
  induction N with
  | zero=>intros;omega
  | succ N ih =>
  intro w A X Y B a m b hN DI hc hX hY hx hy hn ha hm hb;apply vc194;dsimp only[VC194,fP,rt,Wt,Br,Rd,Ix,cI,cU,iq];have DH:n=A.length+X.length+Y.length+B.length:=by simp[hn];omega
  simp only[aG];refine⟨by omega,fun h1=>?_,fun h1=>⟨by omega,fun h2=>?_,fun h2=>?_⟩⟩
  -- one member ahead
  · obtain⟨x,rfl⟩:∃ x,X=[x]:=List.length_eq_one_iff.1 (by omega);simp only[List.length_cons,List.length_nil]at hm DH hb;refine⟨fun ms i j w'=>∃ Y1 Y2 Y3,Y=Y1++Y2++Y3/\i=m+Y1.length/\j=i+Y2.length/\ms=Y2.length/\(∀ y∈Y1,key y<key x)/\(∀ y∈Y3,key x<=key y)/\w.grownBy w' none,
      ⟨_,[],Y,[],by simp,by simp,by omega,rfl,by simp,by simp,aD _ _⟩,?_⟩
    rintro ms i j w' ⟨Y1,Y2,Y3,rfl,rfl,rfl,rfl,Jg,Jf,hg⟩;simp only[List.length_append]at DH hb;refine⟨fun El=>?_,fun El=>?_⟩
    · generalize hh:(m+(Y1.length:Int)+(m+(Y1.length:Int)+(Y2.length:Int))) / 2^1=h;have I1:m+Y1.length<=h/\h<m+Y1.length+Y2.length:=by omega
      obtain⟨U,y,V,rfl,hU,_⟩:=lO (L:=Y2) (k:=(h-(m+Y1.length)).toNat) (by omega);simp only[List.length_append,List.length_cons]at *;have e1:(A++[x]++(Y1++(U++y ::V)++Y3)++B).map (Value.int .i64)=((A++[x]++Y1++U).map (Value.int .i64))++(Value.int .i64) y ::((V++Y3++B).map (Value.int .i64)):=by simp
      have e2:(A++[x]++(Y1++(U++y ::V)++Y3)++B).map (Value.int .i64)=(A.map (Value.int .i64))++(Value.int .i64) x ::((Y1++(U++y ::V)++Y3++B).map (Value.int .i64)):=by simp
      have j1:h.toNat=((A++[x]++Y1++U).map (Value.int .i64)).length:=by simp;omega
      have j2:a.toNat=(A.map (Value.int .i64)).length:=by simp;omega
      have ho:=(DI.kept_none hg).drew;have hs:aJ key (U++y ::V):=hY.left.right;refine⟨by omega,by omega,by omega,by omega,_,rfl,by omega,by omega,y,ho.cell_mid e1 j1,_,rfl,by omega,by omega,x,ho.cell_mid e2 j2,?_⟩;have DL:=hc w'.drew (aI (bM hg)) y (by simp) x (by simp);simp only[List.push_toArray,List.append_toArray,List.cons_append,List.nil_append]at DL;refine DL.mono fun ev w3 hh=>?_;obtain⟨c,k1,k2,k3⟩:=hh;have g3:w.grownBy w3 none:=aB (aI hg) k3;refine⟨c,k1,fun Er=>?_,fun Er=>?_⟩
      · have hk:=k2.1 Er;refine⟨by omega,V.length,by omega,Y1++U++[y],V,Y3,by simp,by simp;omega,by omega,rfl,?_,Jf,g3⟩;intro z hz;rcases List.mem_append.1 hz with e | e
        · rcases List.mem_append.1 e with e | e
          · exact Jg z e
          · have:=hs.across z e y (by simp);omega
        · have:z=y:=by simpa using e
          rw[this];exact hk
      · have hk:key x<=key y:=by
          rcases Int.lt_or_le (key y) (key x)with h | h
          · exact absurd (k2.2 h) Er
          · exact h
        refine⟨U.length,by omega,Y1,U,y ::V++Y3,by simp,rfl,by omega,rfl,Jg,?_,g3⟩;intro z hz;rcases List.mem_append.1 hz with e | e
        · have:=hs.right.head_le z e;omega
        · exact Jf z e
    · have:Y2=[]:=List.eq_nil_of_length_eq_zero (by omega);subst this;obtain⟨p1,p2⟩:=tR (x:=x) (by simpa using hY) Jg Jf;refine⟨fun ms k w2=>∃ U V,Y1=U++V/\k=a+U.length/\ms=V.length/\cC w2 g 3 cap ((A++U++x ::(V++Y3++B)).map (Value.int .i64))/\w.grownBy w2 (some g),
        ⟨_,[],Y1,rfl,by simp,rfl,by simpa using DI.kept_none hg,bM hg⟩,?_⟩
      rintro ms k w2 ⟨U,V,rfl,rfl,rfl,ho,DR⟩;simp only[List.length_append,List.length_nil]at *;refine⟨by omega,fun hk=>?_,fun hk=>?_⟩
      · cases V with
        | nil=>simp at hk;omega
        | cons y V =>
        simp only[List.length_cons]at *;have e1:(A++U++x ::(y ::V++Y3++B)).map (Value.int .i64)=((A++U++[x]).map (Value.int .i64))++(Value.int .i64) y ::((V++Y3++B).map (Value.int .i64)):=by simp
        have e2:(A++U++x ::(y ::V++Y3++B)).map (Value.int .i64)=((A++U).map (Value.int .i64))++(Value.int .i64) x ::((y ::V++Y3++B).map (Value.int .i64)):=by simp
        have j1:(a+(U.length:Int)+1).toNat=((A++U++[x]).map (Value.int .i64)).length:=by simp;omega
        have j2:(a+(U.length:Int)).toNat=((A++U).map (Value.int .i64)).length:=by simp;omega
        have o1:=ho.drew.set_mid e2 j2 (v:=(Value.int .i64) y) rfl;have e3:((A++U).map (Value.int .i64))++(Value.int .i64) y ::((y ::V++Y3++B).map (Value.int .i64))=((A++U++[y]).map (Value.int .i64))++(Value.int .i64) y ::((V++Y3++B).map (Value.int .i64)):=by simp
        have j3:(a+(U.length:Int)+1).toNat=((A++U++[y]).map (Value.int .i64)).length:=by simp;omega
        have o2:=o1.set_mid e3 j3 (v:=(Value.int .i64) x) rfl;refine⟨by omega,by omega,_,rfl,by omega,by omega,y,ho.drew.cell_mid e1 j1,_,rfl,by omega,by omega,x,ho.drew.cell_mid e2 j2,_,rfl,by omega,by omega,⟨_,ho.drew.cell_mid e2 j2⟩,ho.drew.notFrozen (aL _ _),
          _,rfl,by omega,by omega,⟨_,o1.cell_mid e3 j3⟩,o1.notFrozen (aL _ _),by omega,V.length,by omega,U++[y],V,by simp,by simp;omega,rfl,?_,?_⟩
        · refine cast ?_ o2;congr 1;simp
        · exact bZ (bZ (aI DR) (aL _ _) _) (aL _ _) _
      · have:V=[]:=List.eq_nil_of_length_eq_zero (by omega);subst this;simp only[List.append_nil,List.nil_append]at *;refine⟨trivial,⟨_,p1,p2,by simpa using ho⟩,DR⟩
  -- one member behind
  · obtain⟨y,rfl⟩:∃ y,Y=[y]:=List.length_eq_one_iff.1 (by omega);simp only[List.length_cons,List.length_nil]at DH hb;refine⟨fun ms i j w'=>∃ X1 X2 X3,X=X1++X2++X3/\i=a+X1.length/\j=i+X2.length/\ms=X2.length/\(∀ x∈X1,key x<=key y)/\(∀ x∈X3,key y<key x)/\w.grownBy w' none,
      ⟨_,[],X,[],by simp,by simp,by omega,rfl,by simp,by simp,aD _ _⟩,?_⟩
    rintro ms i j w' ⟨X1,X2,X3,rfl,rfl,rfl,rfl,HO,Jh,hg⟩;simp only[List.length_append]at DH hb hm;refine⟨fun El=>?_,fun El=>?_⟩
    · generalize hh:(a+(X1.length:Int)+(a+(X1.length:Int)+(X2.length:Int))) / 2^1=h;have I1:a+X1.length<=h/\h<a+X1.length+X2.length:=by omega
      obtain⟨U,x,V,rfl,hU,_⟩:=lO (L:=X2) (k:=(h-(a+X1.length)).toNat) (by omega);simp only[List.length_append,List.length_cons]at *;have e1:(A++(X1++(U++x ::V)++X3)++[y]++B).map (Value.int .i64)=((A++X1++U).map (Value.int .i64))++(Value.int .i64) x ::((V++X3++[y]++B).map (Value.int .i64)):=by simp
      have e2:(A++(X1++(U++x ::V)++X3)++[y]++B).map (Value.int .i64)=((A++(X1++(U++x ::V)++X3)).map (Value.int .i64))++(Value.int .i64) y ::(B.map (Value.int .i64)):=by simp
      have j1:h.toNat=((A++X1++U).map (Value.int .i64)).length:=by simp;omega
      have j2:m.toNat=((A++(X1++(U++x ::V)++X3)).map (Value.int .i64)).length:=by simp;omega
      have ho:=(DI.kept_none hg).drew;have hs:aJ key (U++x ::V):=hX.left.right;refine⟨by omega,by omega,by omega,by omega,_,rfl,by omega,by omega,y,ho.cell_mid e2 j2,_,rfl,by omega,by omega,x,ho.cell_mid e1 j1,?_⟩;have DL:=hc w'.drew (aI (bM hg)) y (by simp) x (by simp);simp only[List.push_toArray,List.append_toArray,List.cons_append,List.nil_append]at DL;refine DL.mono fun ev w3 hh=>?_;obtain⟨c,k1,k2,k3⟩:=hh;have g3:w.grownBy w3 none:=aB (aI hg) k3;refine⟨c,k1,fun Er=>?_,fun Er=>?_⟩
      · have hk:key x<=key y:=by
          rcases Int.lt_or_le (key y) (key x)with h | h
          · exact absurd (k2.2 h) Er
          · exact h
        refine⟨by omega,V.length,by omega,X1++U++[x],V,X3,by simp,by simp;omega,by omega,rfl,?_,Jh,g3⟩;intro z hz;rcases List.mem_append.1 hz with e | e
        · rcases List.mem_append.1 e with e | e
          · exact HO z e
          · have:=hs.across z e x (by simp);omega
        · have:z=x:=by simpa using e
          rw[this];exact hk
      · have hk:key y<key x:=k2.1 (Decidable.not_not.1 Er);refine⟨U.length,by omega,X1,U,x ::V++X3,by simp,rfl,by omega,rfl,HO,?_,g3⟩;intro z hz;rcases List.mem_append.1 hz with e | e
        · have:=hs.right.head_le z e;omega
        · exact Jh z e
    · have:X2=[]:=List.eq_nil_of_length_eq_zero (by omega);subst this;obtain⟨p1,p2⟩:=vN (y:=y) (by simpa using hX) HO Jh;refine⟨fun ms k w2=>∃ U V,X3=U++V/\k=a+X1.length+U.length/\ms=U.length/\cC w2 g 3 cap ((A++X1++U++y ::(V++B)).map (Value.int .i64))/\w.grownBy w2 (some g),
        ⟨_,X3,[],by simp,by simp at hm;omega,rfl,by simpa using DI.kept_none hg,bM hg⟩,?_⟩
      rintro ms k w2 ⟨U,V,rfl,rfl,rfl,ho,DR⟩;simp only[List.length_append,List.length_nil]at *;refine⟨fun hk=>?_,fun hk=>?_⟩
      · rcases List.eq_nil_or_concat U with rfl | ⟨U,x,rfl⟩
        · simp at hk
        simp only[List.concat_eq_append,List.length_append,List.length_cons,List.length_nil]at *;have e1:(A++X1++(U++[x])++y ::(V++B)).map (Value.int .i64)=((A++X1++U++[x]).map (Value.int .i64))++(Value.int .i64) y ::((V++B).map (Value.int .i64)):=by simp
        have e2:(A++X1++(U++[x])++y ::(V++B)).map (Value.int .i64)=((A++X1++U).map (Value.int .i64))++(Value.int .i64) x ::((y ::V++B).map (Value.int .i64)):=by simp
        have j1:(a+(X1.length:Int)+((U.length+(0+1):Nat):Int)).toNat=((A++X1++U++[x]).map (Value.int .i64)).length:=by simp;omega
        have j2:(a+(X1.length:Int)+((U.length+(0+1):Nat):Int)-1).toNat=((A++X1++U).map (Value.int .i64)).length:=by simp;omega
        have o1:=ho.drew.set_mid e1 j1 (v:=(Value.int .i64) x) rfl;have e3:((A++X1++U++[x]).map (Value.int .i64))++(Value.int .i64) x ::((V++B).map (Value.int .i64))=((A++X1++U).map (Value.int .i64))++(Value.int .i64) x ::((x ::V++B).map (Value.int .i64)):=by simp
        have o2:=o1.set_mid e3 j2 (v:=(Value.int .i64) y) rfl;refine⟨by omega,by omega,_,rfl,by omega,by omega,x,ho.drew.cell_mid e2 j2,_,rfl,by omega,by omega,y,ho.drew.cell_mid e1 j1,_,rfl,by omega,by omega,⟨_,ho.drew.cell_mid e1 j1⟩,ho.drew.notFrozen (aL _ _),
          _,rfl,by omega,by omega,⟨_,o1.cell_mid e3 j2⟩,o1.notFrozen (aL _ _),by omega,U.length,by omega,U,x ::V,by simp,by omega,rfl,?_,?_⟩
        · refine cast ?_ o2;congr 1;simp
        · exact bZ (bZ (aI DR) (aL _ _) _) (aL _ _) _
      · have:U=[]:=List.eq_nil_of_length_eq_zero (by omega);subst this;simp only[List.append_nil,List.nil_append]at *;refine⟨trivial,⟨_,p1,p2,by simpa using ho⟩,DR⟩
  -- both longer
  · generalize M7:(a+b) / 2^1=mid;have KH:2*mid<=a+b/\a+b<=2*mid+1:=by omega
    refine⟨by omega,by omega,by omega,by omega,by omega,fun start r w'=>w'=w/\((mid<m/\start=mid+m-b/\r=mid)∨(m<=mid/\start=a/\r=m)),
      ⟨fun h=>⟨by omega,rfl,.inl ⟨by omega,rfl,rfl⟩⟩,fun h=>⟨rfl,.inr ⟨by omega,rfl,rfl⟩⟩⟩,?_⟩
    rintro start r w' ⟨rfl,hJ⟩;refine⟨by omega,fun ms s t w2=>start<=s/\s<=t/\t<=r/\ms=(t-s).toNat/\(s=start∨(start<s/\∀ x y,X[(s-1-a).toNat]?=some x->Y[(mid-s).toNat]?=some y->key x<=key y)) ∧
      (t=r∨(t<r/\∀ x y,X[(t-a).toNat]?=some x->Y[(mid-1-t).toNat]?=some y->key y<key x))/\w'.grownBy w2 none,
      ⟨_,by omega,by omega,by omega,rfl,.inl rfl,.inl rfl,aD _ _⟩,?_⟩
    rintro ms s t w2 ⟨SH,HZ,IF,rfl,EP,Fc,hg⟩;refine⟨fun DF=>?_,fun DK=>⟨by omega,?_⟩⟩
    · generalize hh:(s+t) / 2^1=c;have HL:s<=c/\c<t:=by omega
      obtain⟨X1,x,X2,eX,lX,Ls⟩:=lO (L:=X) (k:=(c-a).toNat) (by omega);obtain⟨Y1,y,Y2,eY,lY,Lr⟩:=lO (L:=Y) (k:=(mid-1-c).toNat) (by omega);have e1:(A++X++Y++B).map (Value.int .i64)=((A++X++Y1).map (Value.int .i64))++(Value.int .i64) y ::((Y2++B).map (Value.int .i64)):=by rw[eY];simp
      have e2:(A++X++Y++B).map (Value.int .i64)=((A++X1).map (Value.int .i64))++(Value.int .i64) x ::((X2++Y++B).map (Value.int .i64)):=by rw[eX];simp
      have j1:(mid+m-1-c).toNat=((A++X++Y1).map (Value.int .i64)).length:=by simp;omega
      have j2:c.toNat=((A++X1).map (Value.int .i64)).length:=by simp;omega
      have ho:=(DI.kept_none hg).drew;refine⟨by omega,by omega,by omega,by omega,by omega,_,rfl,by omega,by omega,y,ho.cell_mid e1 j1,_,rfl,by omega,by omega,x,ho.cell_mid e2 j2,?_⟩;have DL:=hc w2.drew (aI (bM hg)) y (by rw[eY];simp) x (by rw[eX];simp);simp only[List.push_toArray,List.append_toArray,List.cons_append,List.nil_append]at DL;refine DL.mono fun ev w3 hh=>?_;obtain⟨cc,k1,k2,k3⟩:=hh;have g3:w'.grownBy w3 none:=aB (aI hg) k3;refine⟨cc,k1,fun Er=>?_,fun Er=>?_⟩
      · refine⟨by omega,(t-(c+1)).toNat,by omega,by omega,by omega,IF,rfl,.inr ⟨by omega,?_⟩,Fc,g3⟩;intro x' y' Eo EV;have i1:(c+1-1-a).toNat=(c-a).toNat:=by omega
        have i2:(mid-(c+1)).toNat=(mid-1-c).toNat:=by omega
        rw[i1,Ls]at Eo;rw[i2,Lr]at EV;cases Eo;cases EV;rcases Int.lt_or_le (key y) (key x)with h | h
        · exact absurd (k2.2 h) Er
        · exact h
      · refine⟨(c-s).toNat,by omega,by omega,by omega,by omega,rfl,EP,.inr ⟨by omega,?_⟩,g3⟩;intro x' y' Eo EV;rw[Ls]at Eo;rw[Lr]at EV;cases Eo;cases EV;exact k2.1 (Decidable.not_not.1 Er)
    · have LV :t=s:=by omega
      subst LV
      -- the parts
      have FG:m<=mid+m-t/\mid+m-t<=b:=by omega
      have NV:X=X.take (t-a).toNat++X.drop (t-a).toNat:=(List.take_append_drop _ _).symm;have NU:Y=Y.take (mid-t).toNat++Y.drop (mid-t).toNat:=(List.take_append_drop _ _).symm;have q1:∀ x∈X.take (t-a).toNat,∀ y∈Y.drop (mid-t).toNat,key x<=key y:=by
        intro x hx y hy;obtain⟨i,hi,J3⟩:=qy hx;obtain⟨j,hj,JZ⟩:=qz hy;have Ns:=(List.getElem?_eq_some_iff.1 J3).1;have Nl:=(List.getElem?_eq_some_iff.1 JZ).1;rcases EP with e | ⟨e,EP⟩
        · omega
        · have v1:(t-1-a).toNat<X.length:=by omega
          have v2:(mid-t).toNat<Y.length:=by omega
          have w1:=hX.get (i:=i) (j:=(t-1-a).toNat) (by omega) J3 (List.getElem?_eq_getElem v1);have w2:=hY.get (i:=(mid-t).toNat) (j:=j) (by omega) (List.getElem?_eq_getElem v2) JZ;have w3:=EP _ _ (List.getElem?_eq_getElem v1) (List.getElem?_eq_getElem v2);omega
      have q2:∀ y∈Y.take (mid-t).toNat,∀ x∈X.drop (t-a).toNat,key y<key x:=by
        intro y hy x hx;obtain⟨i,hi,IC⟩:=qy hy;obtain⟨j,hj,J2⟩:=qz hx;have Ns:=(List.getElem?_eq_some_iff.1 IC).1;have Nl:=(List.getElem?_eq_some_iff.1 J2).1;rcases Fc with e | ⟨e,Fc⟩
        · omega
        · have v1:(t-a).toNat<X.length:=by omega
          have v2:(mid-1-t).toNat<Y.length:=by omega
          have w1:=hX.get (i:=(t-a).toNat) (j:=j) (by omega) (List.getElem?_eq_getElem v1) J2;have w2:=hY.get (i:=i) (j:=(mid-1-t).toNat) (by omega) IC (List.getElem?_eq_getElem v2);have w3:=Fc _ _ (List.getElem?_eq_getElem v1) (List.getElem?_eq_getElem v2);omega
      have l1:(X.take (t-a).toNat).length=(t-a).toNat:=by simp;omega
      have l2:(X.drop (t-a).toNat).length=(m-t).toNat:=by simp;omega
      have l3:(Y.take (mid-t).toNat).length=(mid-t).toNat:=by simp;omega
      have l4:(Y.drop (mid-t).toNat).length=(b-(mid+m-t)).toNat:=by simp;omega
      clear EP Fc;generalize X.take (t-a).toNat=X1 at *;generalize X.drop (t-a).toNat=X2 at *;generalize Y.take (mid-t).toNat=Y1 at *;generalize Y.drop (mid-t).toNat=Y2 at *;subst NV NU;refine⟨fun w3=>cC w3 g 3 cap ((A++X1++Y1++X2++Y2++B).map (Value.int .i64))/\w'.grownBy w3 (some g),?_,?_⟩
      · have stay:(X2=[]∨Y1=[])->cC w2 g 3 cap ((A++X1++Y1++X2++Y2++B).map (Value.int .i64))/\w'.grownBy w2 (some g):=by
          intro h;refine⟨?_,bM hg⟩;have:=DI.kept_none hg;rcases h with rfl | rfl <;>simpa using this
        refine⟨fun h1=>⟨fun h2=>?_,fun h2=>stay (.inr (List.eq_nil_of_length_eq_zero (by omega)))⟩,fun h1=>stay (.inl (List.eq_nil_of_length_eq_zero (by omega)))⟩;refine(CB lenv (A:=A++X1) (X:=X2) (Y:=Y1) (B:=Y2++B) (by simpa using DI.kept_none hg) (by omega) (by omega) (by simp at hn ⊢;omega) (by omega) (by simp;omega) (by simp;omega) (by simp;omega)).mono fun ev w3 hh=>?_;obtain⟨k1,k2,k3⟩:=hh;exact⟨k1,by simpa using k2,aB (bM hg) k3⟩
      · rintro w3 ⟨Ee,D9⟩;simp only[List.length_append]at *;refine⟨fun w4=>(∃ Z1,aJ key Z1/\aQ key Z1 (X1++Y1)/\cC w4 g 3 cap ((A++Z1++X2++Y2++B).map (Value.int .i64)))/\w'.grownBy w4 (some g),?_,?_⟩
        · have stay:(X1=[]∨Y1=[])->(∃ Z1,aJ key Z1/\aQ key Z1 (X1++Y1)/\cC w3 g 3 cap ((A++Z1++X2++Y2++B).map (Value.int .i64)))/\w'.grownBy w3 (some g):=by
            intro h;refine⟨⟨X1++Y1,?_,aQ.refl _,by simpa using Ee⟩,D9⟩;rcases h with rfl | rfl
            · simpa using hY.left
            · simpa using hX.left
          refine⟨fun h1=>⟨fun h2=>?_,fun h2=>stay (.inr (List.eq_nil_of_length_eq_zero (by omega)))⟩,fun h1=>stay (.inl (List.eq_nil_of_length_eq_zero (by omega)))⟩;refine(ih (A:=A) (X:=X1) (Y:=Y1) (B:=X2++Y2++B) (by omega) (by simpa using Ee) ((hc.grown D9).sub (by intro z hz;simp at hz ⊢;rcases hz with e | e <;>simp[e])) hX.left hY.left (by omega) (by omega) (by simp;omega) (by omega) (by omega) (by omega)).mono fun ev w4 hh=>?_;obtain⟨k1,⟨Z,z1,z2,z3⟩,k3⟩:=hh;exact⟨k1,⟨Z,z1,z2,by simpa using z3⟩,aB D9 k3⟩
        · rintro w4 ⟨⟨Z1,z1,z2,EZ⟩,Ef⟩;have lz:=z2.length;simp only[List.length_append]at lz
          have fin:∀ w5 Z2,aJ key Z2->aQ key Z2 (X2++Y2)->cC w5 g 3 cap ((A++Z1++Z2++B).map (Value.int .i64))->w'.grownBy w5 (some g) →
              ((∃ Z,aJ key Z/\aQ key Z (X1++X2++(Y1++Y2))/\cC w5 g 3 cap ((A++Z++B).map (Value.int .i64)))/\w'.grownBy w5 (some g)):=by
            intro w5 Z2 y1 y2 y3 y4;obtain⟨f1,f2⟩:=vD hX hY q1 q2 z1 y1 z2 y2;exact⟨⟨_,f1,f2,by simpa using y3⟩,y4⟩
          have stay:(X2=[]∨Y2=[])->((∃ Z,aJ key Z/\aQ key Z (X1++X2++(Y1++Y2))/\cC w4 g 3 cap ((A++Z++B).map (Value.int .i64)))/\w'.grownBy w4 (some g)):=by
            intro h;refine fin w4 (X2++Y2) ?_ (aQ.refl _) (by simpa using EZ) Ef;rcases h with rfl | rfl
            · simpa using hY.right
            · simpa using hX.right
          refine⟨fun h1=>⟨fun h2=>?_,fun h2=>⟨trivial,stay (.inr (List.eq_nil_of_length_eq_zero (by omega)))⟩⟩,fun h1=>⟨trivial,stay (.inl (List.eq_nil_of_length_eq_zero (by omega)))⟩⟩;refine(ih (A:=A++Z1) (X:=X2) (Y:=Y2) (B:=B) (by omega) (by simpa using EZ) ((hc.grown Ef).sub (by intro z hz;simp at hz ⊢;rcases hz with e | e <;>simp[e])) hX.right hY.right (by omega) (by omega) (by simp;omega) (by simp;omega) (by simp;omega) (by simp;omega)).mono fun ev w5 hh=>?_;obtain⟨k1,⟨Z,y1,y2,y3⟩,k3⟩:=hh;exact⟨k1,trivial,fin w5 Z y1 y2 y3 (aB Ef k3)⟩
theorem Cq (lenv:Addr) {w:World} {g cap:Nat} {key:Int->Int} {X:List Int} {n:Nat}
    (DI:cC w g 3 cap (X.map (Value.int .i64))) (hc:jf lenv w g key X) (hn:n=X.length) (Eh:n<=2^58) :
    Calls P 190 #[.slice (some ⟨g,0,none⟩) n cap,.int .i64 (n:Int),.func (.func 183) #[] #[.pointer (some lenv)]] w fun ev w' =>
      ev=.returned (.tuple #[])/\cC w' g 3 cap ((cV key X).map (Value.int .i64))/\w.grownBy w' (some g):=by
  apply vc190;dsimp only[VC190,fP,rt,Br,cU,iq]
  try simp only[aG]
  -- blocks of twenty
  refine⟨fun ms a b w1=>∃ X1 X2 U,X=X1++X2/\vw key 20 U/\aQ key U X1/\a=X1.length/\b=a+20/\ms=X2.length/\cC w1 g 3 cap ((U++X2).map (Value.int .i64))/\w.grownBy w1 (some g),
    ⟨_,[],X,[],rfl,.nil,aQ.refl _,rfl,rfl,rfl,by simpa using DI,aD _ _⟩,?_⟩
  rintro ms a b w1 ⟨X1,X2,U,rfl,hU,Jo,rfl,rfl,rfl,KB,E5⟩;have lU:=Jo.length;simp only[List.length_append]at hn;refine⟨fun DQ=>?_,fun ET=>?_⟩
  · have l1:(X2.take 20).length=20:=by simp;omega
    have Ji:X2=X2.take 20++X2.drop 20:=(List.take_append_drop _ _).symm;generalize X2.take 20=Y at Ji l1;generalize X2.drop 20=X3 at Ji;subst Ji;simp only[List.length_append]at hn;refine(rx lenv (A:=U) (X:=Y) (B:=X3) (key:=key) (by simpa using KB) ((hc.grown E5).sub (by intro z hz;simp[hz])) (by simp;omega) (by omega) (by omega) (by omega)).mono fun ev w2 hh=>?_;obtain⟨k1,⟨Z,z1,z2,z3⟩,k3⟩:=hh;have lZ:=z2.length;refine⟨k1,by omega,X3.length,by simp;omega,X1++Y,X3,U++Z,by simp,.snoc hU (by omega) z1,Jo.append z2,by simp;omega,by omega,rfl,by simpa using z3,aB E5 k3⟩
  refine(rx lenv (A:=U) (X:=X2) (B:=[]) (key:=key) (by simpa using KB) ((hc.grown E5).sub (by intro z hz;simp[hz])) (by simp;omega) (by omega) (by omega) (by omega)).mono fun ev w2 hh=>?_;obtain⟨k1,⟨Z,z1,z2,z3⟩,k3⟩:=hh;have lZ:=z2.length;refine⟨k1,?_⟩
  -- blocks twice as long, again and again
  refine⟨fun ms s w3=>∃(k:Nat)(V:List Int),s=k/\0<k/\ms=n-k/\xy key k V/\aQ key V (X1++X2)/\cC w3 g 3 cap (V.map (Value.int .i64))/\w.grownBy w3 (some g),
    ⟨_,20,U++Z,rfl,by omega,rfl,hU.blk (.last (by omega) z1),Jo.append z2,by simpa using z3,aB E5 k3⟩,?_⟩
  rintro ms s w3 ⟨k,V,rfl,hk,rfl,hV,Jl,Ee,D9⟩;have lV:=Jl.length;simp only[List.length_append]at lV;refine⟨fun DF=>?_,fun DK=>?_⟩
  · refine⟨by omega,?_⟩;refine⟨fun ms a b w4=>∃ V1 V2,vw key (k+k) V1/\xy key k V2/\aQ key (V1++V2) (X1++X2)/\a=V1.length/\b=a+(k+k:Nat)/\ms=V2.length/\cC w4 g 3 cap ((V1++V2).map (Value.int .i64))/\w.grownBy w4 (some g),
      ⟨_,[],V,.nil,hV,by simpa using Jl,rfl,by simp;omega,rfl,by simpa using Ee,D9⟩,?_⟩
    rintro ms a b w4 ⟨V1,V2,Jn,Jm,DS,rfl,rfl,rfl,EZ,Ef⟩;have l4:=DS.length;simp only[List.length_append]at l4;refine⟨fun DQ=>?_,fun ET=>?_⟩
    · obtain⟨Y1,Y2,Y3,rfl,m1,m2,m3,m4,m5⟩:=Jm.cut2 hk (by omega);simp only[List.length_append]at l4;refine⟨by omega,?_⟩;refine(tG lenv (n:=n) (by omega) _ (A:=V1) (X:=Y1) (Y:=Y2) (B:=Y3) (key:=key) (Nat.le_refl _) (by simpa using EZ) ((hc.grown Ef).sub (fun z hz=>DS.mem (by simp at hz ⊢;rcases hz with e | e <;>simp[e]))) m3 m4 (by omega) (by omega) (by simp;omega) (by omega) (by omega) (by omega)).mono fun ev w5 hh=>?_;obtain⟨q1,⟨Z',y1,y2,y3⟩,q3⟩:=hh;have lZ':=y2.length;simp only[List.length_append]at lZ';refine⟨q1,by omega,by omega,Y3.length,by simp;omega,V1++Z',Y3,.snoc Jn (by omega) y1,m5,?_,by simp;omega,by omega,rfl,by simpa using y3,aB Ef q3⟩;refine aQ.trans ?_ DS;have:aQ key (V1++Z'++Y3) (V1++(Y1++Y2)++Y3):=((aQ.refl _).append y2).append (aQ.refl _);simpa using this
    · refine⟨by omega,fun Fu=>?_,fun I2=>?_⟩
      · obtain⟨Y1,Y2,rfl,m1,m2,m3⟩:=Jm.cut (by omega);simp only[List.length_append]at l4;refine(tG lenv (n:=n) (by omega) _ (A:=V1) (X:=Y1) (Y:=Y2) (B:=[]) (key:=key) (Nat.le_refl _) (by simpa using EZ) ((hc.grown Ef).sub (fun z hz=>DS.mem (by simp at hz ⊢;rcases hz with e | e <;>simp[e]))) m2 (m3.small hk (by omega)) (by omega) (by omega) (by simp;omega) (by omega) (by omega) (by omega)).mono fun ev w5 hh=>?_;obtain⟨q1,⟨Z',y1,y2,y3⟩,q3⟩:=hh;have lZ':=y2.length;simp only[List.length_append]at lZ';refine⟨q1,by omega,n-(k+k),by omega,k+k,V1++Z',by omega,by omega,rfl,Jn.blk (.last (by omega) y1),?_,by simpa using y3,aB Ef q3⟩;exact((aQ.refl _).append y2).trans DS
      · refine⟨by omega,n-(k+k),by omega,k+k,V1++V2,by omega,by omega,rfl,Jn.blk (.last (by omega) (Jm.small hk (by omega))),DS,EZ,Ef⟩
  · refine⟨trivial,?_,D9⟩;rw[← rz (hV.small hk (by omega)) Jl];exact Ee
theorem Cs(lenv:Addr){w:World}{g cap:Nat}{key:Int->Int}{X:List Int}{n:Nat}
    (DI:cC w g 3 cap (X.map (Value.int .i64))) (hc:jf lenv w g key X) (hn:n=X.length) (Eh:n<=2^58) :
    Calls P 182 #[.slice (some ⟨g,0,none⟩) n cap,.func (.func 183) #[] #[.pointer (some lenv)]] w fun ev w' =>
      ev=.returned (.tuple #[])/\cC w' g 3 cap ((cV key X).map (Value.int .i64))/\w.grownBy w' (some g):=by
  apply vc182;dsimp only[VC182,fP,rt,cU,iq];refine(Cq lenv DI hc hn Eh).mono fun ev w' hh=>?_;exact⟨hh.1,rfl,hh.2⟩
end Go.Proofs.YtlieaecnllkefaaGreat

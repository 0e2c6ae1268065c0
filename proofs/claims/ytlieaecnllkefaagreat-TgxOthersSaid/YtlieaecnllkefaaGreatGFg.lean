/- Own texts, packed: D1, D2, D3, D4, D5, E0, E1, E2, E3, E4. -/
import Derived.Test.YtlieaecnllkefaaGreatGXg
import Derived.Test.YtlieaecnllkefaaGreatGDg
import Derived.Test.YtlieaecnllkefaaGreatGCg
import Derived.Test.YtlieaecnllkefaaGreatGBg
import Derived.KernelRfl
set_option linter.unusedVariables false
set_option linter.unusedSimpArgs false
set_option maxHeartbeats 4000000
set_option maxRecDepth 100000
namespace Go.Proofs.YtlieaecnllkefaaGreat
open Go Go.V Go.RowKit
theorem nV:AR P 216 218 (.pointer none) 8:=⟨(P.info? 218).getD default,by kernel_rfl,by kernel_rfl,by kernel_rfl,by kernel_rfl,by kernel_rfl,by kernel_rfl⟩
theorem kA:AR P 33 3 (.int .i64 0) 8:=⟨(P.info? 3).getD default,by kernel_rfl,by kernel_rfl,by kernel_rfl,by kernel_rfl,by kernel_rfl,by kernel_rfl⟩
inductive eU (w:World):Addr->Int->List Nat->Prop
  | coin {k:Nat} {c:Int} {s:Nat} {y:Value}:w.heap[k]?=some (.cells #[.int .i64 c,.int .i64 (s:Int),.pointer none,y] 221 (0,0))->eU w ⟨k,0,none⟩ c [s]
  | pack {k:Nat} {c1 c2:Int} {s1 s2:List Nat} {z:Value} {p q:Addr}:w.heap[k]?=some (.cells #[.int .i64 (c1+c2),z,.pointer (some p),.pointer (some q)] 221 (0,0)) →
      eU w p c1 s1->eU w q c2 s2->eU w ⟨k,0,none⟩ (c1+c2) (s1++s2)
def Is(w:World)(x:OA×aZ):Prop:=∃ a,x.1=some a/\eU w a x.2.1 x.2.2
def bV(w w':World):Prop:=∀(k:Nat)(cur:Array Value),w.heap[k]?=some (Obj.cells cur 221 (0,0))->w'.heap[k]?=some (Obj.cells cur 221 (0,0))
theorem bV.refl(w:World):bV w w:=fun _ _ h=>h
theorem bV.trans{a b c:World}(h:bV a b)(h':bV b c):bV a c:=fun k cur hk=>h' k cur (h k cur hk)
theorem pP{w w':World}{r:Option Nat}(hg:w.grownBy w' r)(hr:∀ g,r=some g->∃(cur:Array Value)(e:TypeId)(fr:Nat×Nat),w.heap[g]?=some (Obj.cells cur e fr)/\e≠221):bV w w':=by
 intro k cur hk;rw[hg.block k (Array.getElem?_eq_some_iff.1 hk).1,hk];intro e;obtain⟨cur',e',fr,h1,h2⟩:=hr k e.symm;rw[hk]at h1;cases h1;exact h2 rfl
theorem db{w w':World}(hg:w.grownBy w' none):bV w w':=pP hg (by simp)
theorem jR{w w':World}{g cap:Nat}{e:TypeId}{xs:List Value}(ho:cC w g e cap xs)(he:e≠221)(hg:w.grownBy w' (some g)):bV w w' :=
 pP hg fun g' e'=>by
  cases e';obtain⟨cur,h1,_⟩:=ho;exact⟨cur,e,_,h1,he⟩
theorem lx{w w':World}{base n c:Nat}{e:TypeId}{A:OA}{xs:List Value}(ho:cY w base e A n c xs)(he:e≠221)(hg:w.grownBy w' (Value.slice A n c).ownBlock):bV w w':=by
 obtain⟨_,h | ⟨g,rfl,_,_,_,h⟩⟩:=ho.cases
 ·obtain⟨rfl,_⟩:=h;exact db hg
 ·exact jR h he hg
theorem eU.keep{w w':World}(hk:bV w w'){a:Addr}{c:Int}{s:List Nat}(h:eU w a c s):eU w' a c s:=by
 induction h with
 | coin h=>exact .coin (hk _ _ h)
 | pack h _ _ ih1 ih2=>exact .pack (hk _ _ h) ih1 ih2
theorem Is.keep{w w':World}(hk:bV w w'){x:OA×aZ}(h:Is w x):Is w' x:=by
 obtain⟨a,h1,h2⟩:=h;exact⟨a,h1,h2.keep hk⟩
theorem eU.count{w:World}{a:Addr}{c:Int}{s:List Nat}(h:eU w a c s):w.cell? a=some (.int .i64 c):=by
 cases h with
 | coin h=>simp[World.cell?,h]
 | pack h _ _=>simp[World.cell?,h]
theorem ya{n:Int}{w:World}{R:Ending->World->Prop}(h:R (.returned (.int .i64 (dM n))) w):Calls P 176 #[.int .i64 n] w R:=vc176 n w R h
theorem pQ{x:Int}{w:World}{R:Ending->World->Prop}(h:R (.returned (.bool false)) w):Calls P 188 #[.int .i64 x] w R:=by
 apply vc188;unfold VC188;simpa using h
theorem mM{x y:Int}{w:World}:Calls P 179 #[.int .i64 x,.int .i64 y] w fun ev w'=>∃ c:Int,ev=.returned (.int .i64 c)/\(c<0↔x<y)/\w'=w:=by
 apply vc179;dsimp only[VC179,Br,Bb,cB,iq];refine pQ ⟨false,rfl,pQ ⟨false,rfl,by simp,fun _=>⟨by simp,fun _=>⟨fun h=>⟨_,rfl,by omega,rfl⟩,fun h=>⟨fun h'=>⟨_,rfl,by omega,rfl⟩,fun h'=>⟨_,rfl,by omega,rfl⟩⟩⟩⟩⟩⟩
def BA(w:World)(p:OA):Int:=match p with
 | some a=>match w.cell? a with
  | some (.int _ c)=>c
  | _=>0
 | none=>0
theorem uY{w:World}{x:OA×aZ}(h:Is w x):BA w x.1=x.2.1:=by
 obtain⟨a,h1,h2⟩:=h;simp[BA,h1,h2.count]
theorem BP{w:World}{g cap:Nat}{e:TypeId}{xs:List Value}{L:List (OA×aZ)}(ho:cC w g e cap xs)(he:e≠221)(hL:∀ x∈L,Is w x):je w g (BA w) (L.map Prod.fst):=by
 intro w' hg x hx y hy;obtain⟨x,Eo,rfl⟩:=List.mem_map.1 hx;obtain⟨y,EV,rfl⟩:=List.mem_map.1 hy;have hx:=Eo;have hy:=EV;have kx:=hL x hx;have ky:=hL y hy;have hk:=jR ho he hg;show Calls P 178 #[.pointer x.1,.pointer y.1] w' _;apply vc178;dsimp only[VC178,Rd,cI,iq];obtain⟨a,ea,ia⟩:=kx.keep hk;obtain⟨b,eb,ib⟩:=ky.keep hk;refine⟨a,ea,x.2.1,ia.count,b,eb,y.2.1,ib.count,?_⟩;refine mM.mono fun ev w2 hh=>?_;obtain⟨c,h1,h2,rfl⟩:=hh;exact⟨c,h1,c,rfl,by rw[h2,uY kx,uY ky],aI (aD _ _)⟩
theorem zl{α β:Type}(f:α->β)(key:β->Int)(key':α->Int)(x:α):∀(l:List α),(∀ y∈x ::l,key (f y)=key' y)->ue key (f x) (l.map f)=(ue key' x l).map f
 | [],_=>rfl
 | y ::ys,h=>by
  have hx:=h x (by simp);have hy:=h y (by simp);have ih:=zl f key key' x ys (fun z hz=>h z (by rcases List.mem_cons.1 hz with e | e <;>simp[e]));simp only[List.map_cons,ue,hx,hy];split
  ·rw[ih];simp
  ·simp
theorem lB{α β:Type}(f:α->β)(key:β->Int)(key':α->Int)(xs:List α)(h:∀ y∈xs,key (f y)=key' y):cV key (xs.map f)=(cV key' xs).map f:=by
 have:∀(xs l:List α),(∀ y∈xs,key (f y)=key' y)->(∀ y∈l,key (f y)=key' y)->aJ key' l->(xs.map f).foldl (fun l x=>ue key x l) (l.map f)=(xs.foldl (fun l x=>ue key' x l) l).map f:=by
  intro xs
  induction xs with
  | nil=>intros;rfl
  | cons x xs ih =>
   intro l h1 h2 h3;simp only[List.map_cons,List.foldl_cons];rw[zl f key key' x l (fun z hz=>by rcases List.mem_cons.1 hz with e | e;exact h1 z (by simp[e]);exact h2 z e)];refine ih _ (fun y hy=>h1 y (by simp[hy])) (fun y hy=>?_) (na x h3);rcases List.mem_append.1 ((nP (key:=key') x h3).mem hy)with e | e
   ·exact h2 y e
   ·have:y=x:=by simpa using e
    rw[this];exact h1 x (by simp)
 simpa[cV]using this xs [] h (by simp) (by simp[aJ])
theorem xM{w:World}:Calls P 177 #[.slice none 0 0,.func (.func 178) #[] #[]] w fun ev w'=>ev=.returned (.tuple #[])/\w.grownBy w' none:=by
 apply vc177;dsimp only[VC177,rt,cU,iq];have h:Calls P 187 #[.slice none 0 0,.int .i64 0,.func (.func 178) #[] #[]] w fun ev w'=>ev=.returned (.tuple #[])/\w.grownBy w' none:=by
  apply vc187;dsimp only[VC187,rt,Br,cU,iq];refine⟨fun m a b w'=>m=0/\a=0/\b=20/\w'=w,⟨0,rfl,rfl,rfl,rfl⟩,?_⟩;rintro m a b w' ⟨rfl,rfl,rfl,rfl⟩;refine⟨fun h=>by omega,fun h=>?_⟩;have h2:Calls P 191 #[.slice none 0 0,.int .i64 0,.int .i64 0,.func (.func 178) #[] #[]] w' fun ev w2=>ev=.returned (.tuple #[])/\w'=w2:=by
   apply vc191;dsimp only[VC191,rt,Wt,Br,Ix,cI]
   try simp only[aG]
   refine⟨by omega,fun m i w2=>i=1/\w2=w',⟨0,by omega,rfl⟩,?_⟩;rintro m i w2 ⟨rfl,rfl⟩;exact⟨fun h=>by omega,fun h=>⟨trivial,rfl⟩⟩
  refine h2.mono fun ev w2 hh=>?_;obtain⟨h3,rfl⟩:=hh;refine⟨h3,fun m s w3=>s=20/\w3=w',⟨0,rfl,rfl⟩,?_⟩;rintro m s w3 ⟨rfl,rfl⟩;exact⟨fun h=>by omega,fun h=>⟨rfl,aD _ _⟩⟩
 refine h.mono fun ev w' hh=>?_;exact⟨hh.1,rfl,hh.2⟩
abbrev ke(L:List (OA×aZ)):List Value:=(L.map Prod.fst).map Value.pointer
theorem wW {w:World} {A:OA} {n c:Nat} {xs:List Int} (Ed:bB w A (xs.map (Value.int .i64))) (hn:n=xs.length) (Eh:n<=2^30) :
    Calls P 152 #[.slice A n c] w fun ev w'=>∃ (A':OA) (n' c':Nat) (L:List (OA×aZ)),ev=.returned (.slice A' n' c')/\cY w' w.heap.size 218 A' n' c' (ke L)/\(∀ x∈L,Is w' x)/\L.map Prod.snd=aM xs/\w.grownBy w' none:=by
  apply vc152;dsimp only[VC152,Br,Rd,Ix,cI,cU,nb,iq]
  try simp only[aG]
  refine⟨fun m A' n' c' i w'=>∃ (k:Nat) (L:List (OA×aZ)),i=(k:Int)/\k<=xs.length/\m=xs.length-k/\cY w' w.heap.size 218 A' n' c' (ke L)/\(∀ x∈L,Is w' x)/\L.map Prod.snd=aT 0 (xs.take k)/\L.length<=k/\w.grownBy w' none,
    ⟨_,0,[],rfl,by omega,rfl,World.ownsRow_nil _ _ _ _,by simp,by simp[aT],by simp,aD _ _⟩,?_⟩
  rintro m A' n' c' i w' ⟨k,L,rfl,hk,rfl,ho,hL,Hd,TI,hg⟩;refine⟨fun DF=>?_,fun DK=>?_⟩
  · have D8:k<xs.length:=by omega
    obtain⟨a,h1,h2⟩:=(Ed.kept_none hg) k (.int .i64 xs[k]) (by simp[D8]);have HX:aT 0 (xs.take (k+1))=aT 0 (xs.take k)++aT k [xs[k]]:=by
      rw[List.take_succ_eq_append_getElem D8,iF];simp[Nat.min_eq_left hk]
    refine⟨a,h1,by omega,by omega,xs[k],by simpa using h2,fun DZ=>?_,fun DZ=>?_⟩
    · refine ya ⟨_,rfl,?_⟩;have g1:=World.grownBy_alloc w' (.cells #[(.int .i64 (dM xs[k])),(.int .i64 (k:Int)),(.pointer none),(.pointer none)] 221) none;have b1:(w'.alloc (.cells #[(.int .i64 (dM xs[k])),(.int .i64 (k:Int)),(.pointer none),(.pointer none)] 221)).heap[w'.heap.size]?=some (.cells #[(.int .i64 (dM xs[k])),(.int .i64 (k:Int)),(.pointer none),(.pointer none)] 221):=heap_alloc_new w' _;generalize w'.alloc (.cells #[(.int .i64 (dM xs[k])),(.int .i64 (k:Int)),(.pointer none),(.pointer none)] 221)=w1 at *;have g2:=World.grownBy_alloc w1 (.cells #[.pointer (some ⟨w'.heap.size,0,none⟩)] 218) none;have b2:(w1.alloc (.cells #[.pointer (some ⟨w'.heap.size,0,none⟩)] 218)).cell? ⟨w1.heap.size,0,none⟩=some (.pointer (some ⟨w'.heap.size,0,none⟩)):=by simp
      generalize w1.alloc (.cells #[.pointer (some ⟨w'.heap.size,0,none⟩)] 218)=w2 at *;have EB:=(ho.kept g1).kept g2;obtain⟨A2,n2,c2,w3,h3,h4,h5⟩:=EB.append1 (ty:=216) nV (by omega) (cc:=1) b2 rfl (by rw[ho.cases.1];simp;omega) (Nat.le_trans hg.size (Nat.le_trans g1.size g2.size));have Pd:bV w1 w3:=(db g2).trans (lx EB (by decide) h5);refine⟨A2,n2,c2,w3,h3,by omega,xs.length-(k+1),by omega,k+1,L++[(some ⟨w'.heap.size,0,none⟩,(dM xs[k],[k]))],by omega,by omega,rfl,by simpa using h4,?_,?_,by simp;omega,?_⟩
      · intro x hx;rcases List.mem_append.1 hx with e | e
        · exact((hL x e).keep (db g1)).keep Pd
        · have:x=(some ⟨w'.heap.size,0,none⟩,(dM xs[k],[k])):=by simpa using e
          subst this;exact⟨_,rfl,(eU.coin b1).keep Pd⟩
      · rw[HX,List.map_append,Hd];simp[aT,DZ]
      · exact aP (aB (aB hg g1) g2) h5 EB.block_ge
    · refine⟨by omega,xs.length-(k+1),by omega,k+1,L,by omega,by omega,rfl,ho,hL,?_,by omega,hg⟩;rw[HX,Hd];simp[aT,DZ]
  · have D8:k=xs.length:=by omega
    subst D8;rw[List.take_length]at Hd;obtain⟨hl,h | ⟨g,rfl,hb,hc,L4,FE⟩⟩:=ho.cases
    · obtain⟨rfl,rfl,rfl,hx⟩:=h;have:L=[]:=by simpa using hx
      subst this;refine xM.mono fun ev w2 hh=>?_;refine⟨hh.1,none,0,0,[],rfl,World.ownsRow_nil _ _ _ _,by simp,?_,aB hg hh.2⟩;unfold aM;rw[← Hd];rfl
    · have GK:n'=L.length:=by simpa using hl
      refine(Cr (key:=BA w') FE (BP FE (by decide) hL) (by simpa using hl) (by omega)).mono fun ev w2 hh=>?_;obtain⟨h1,h2,h3⟩:=hh;have Fy:=jR FE (by decide) h3;have hm:cV (BA w') (L.map Prod.fst)=(cV (fun x=>x.2.1) L).map Prod.fst:=lB _ _ _ _ (fun y hy=>uY (hL y hy));have hs:aQ (fun x:OA×aZ=>x.2.1) (cV (fun x=>x.2.1) L) L:=gb L;rw[hm]at h2;refine⟨h1,_,n',c',cV (fun x=>x.2.1) L,rfl,?_,fun x hx=>(hL x (hs.mem hx)).keep Fy,?_,?_⟩
      · have:=h2.ownsRow hb hc;simp only[List.length_map,hs.length,← GK]at this;exact this
      · have:=lB Prod.snd (Prod.fst:aZ->Int) (fun x:OA×aZ=>x.2.1) L (fun _ _=>rfl);rw[← this,Hd];rfl
      · exact aP hg h3 (by intro k hk;cases hk;exact hb)
theorem nJ{L:List (OA×aZ)}{i:Nat}(h:i<L.length):(ke L)[i]?=some (.pointer L[i].1):=by simp[ke,h]
theorem uQ {w:World} {A B:OA} {n c m d:Nat} {C L:List (OA×aZ)} (hA:bB w A (ke C)) (hB:bB w B (ke L)) (hn:n=C.length) (hm:m=L.length)
    (hC:∀ x∈C,Is w x) (hL:∀ x∈L,Is w x) (Tv:n<=c) (Fm:A=none->c=0) (L5:n<=2^30) (Tc:m<=2^30) (hb:∀ x∈L,0<=x.2.1/\x.2.1<=2^60) :
    Calls P 153 #[.slice A n c,.slice B m d] w fun ev w'=>∃ (A':OA) (n' c':Nat) (O:List (OA×aZ)),ev=.returned (.slice A' n' c')/\cY w' w.heap.size 218 A' n' c' (ke O)/\(∀ x∈O,Is w' x) ∧
      O.map Prod.snd=fx (C.map Prod.snd) (L.map Prod.snd)/\w.grownBy w' none:=by
  apply vc153;dsimp only[VC153,Br,Rd,Ix,Ap,iq]
  try simp only[aG]
  refine⟨fun ms A' n' c' k i w'=>∃ (kn j:Nat) (O:List (OA×aZ)),k=(kn:Int)/\i=((2*j:Nat):Int)/\kn<=C.length/\2*j<=L.length/\O.length<=kn+j/\ms=L.length-2*j/\cY w' w.heap.size 218 A' n' c' (ke O)/\(∀ x∈O,Is w' x) ∧
      O.map Prod.snd++cJ ((C.drop kn).map Prod.snd) (cO ((L.drop (2*j)).map Prod.snd))=fx (C.map Prod.snd) (L.map Prod.snd)/\w.grownBy w' none,
    ⟨_,0,0,[],rfl,rfl,by omega,by omega,by simp,rfl,World.ownsRow_nil _ _ _ _,by simp,by simp[fx],aD _ _⟩,?_⟩
  rintro ms A' n' c' k i w' ⟨kn,j,O,rfl,rfl,hk,hj,N0,rfl,ho,hO,Ga,hg⟩;refine⟨by omega,fun DF=>?_,fun DK=>?_⟩
  · have l1 :2*j<L.length:=by omega
    have l2:2*j+1<L.length:=by omega
    -- the two items
    obtain⟨a,ea,ia⟩:=(hL _ (List.getElem_mem l1)).keep (db hg);obtain⟨b,eb,ib⟩:=(hL _ (List.getElem_mem l2)).keep (db hg);have ba:=hb _ (List.getElem_mem l1);have bb:=hb _ (List.getElem_mem l2);have EH:L.drop (2*j)=L[2*j] ::L[2*j+1] ::L.drop (2*(j+1)):=by
      rw[List.drop_eq_getElem_cons l1,List.drop_eq_getElem_cons l2];rfl
    obtain⟨r,Fk,GF⟩:=(hB.kept_none hg) _ _ (nJ l1);obtain⟨r',Km,Kl⟩:=(hB.kept_none hg) _ _ (nJ l2);obtain rfl:r'=r:=by rw[Fk]at Km;cases Km;rfl
    have t1:((2*j:Nat):Int).toNat=2*j:=by omega
    have t2:(((2*j:Nat):Int)+1).toNat=2*j+1:=by omega
    refine⟨r',Fk,by omega,by omega,L[2*j].1,by rw[t1];exact GF,a,ea,L[2*j].2.1,ia.count,by omega,r',Fk,by omega,by omega,L[2*j+1].1,by rw[t2];exact Kl,b,eb,L[2*j+1].2.1,ib.count,by omega,
      r',Fk,by omega,by omega,L[2*j].1,by rw[t1];exact GF,by omega,r',Fk,by omega,by omega,L[2*j+1].1,by rw[t2];exact Kl,?_⟩
    rw[ea,eb];generalize Ja:L[2*j].2=ca at *;generalize I9:L[2*j+1].2=cb at *;have gd:=aI (aD w' none);have sd:w'.drew.heap.size=w'.heap.size:=rfl;generalize w'.drew=wd at *;have g1:=World.grownBy_alloc wd (.cells #[.int .i64 (ca.1+cb.1),.int .i64 0,.pointer (some a),.pointer (some b)] 221) none;have b1:(wd.alloc (.cells #[.int .i64 (ca.1+cb.1),.int .i64 0,.pointer (some a),.pointer (some b)] 221)).heap[wd.heap.size]?=some (.cells #[.int .i64 (ca.1+cb.1),.int .i64 0,.pointer (some a),.pointer (some b)] 221):=heap_alloc_new wd _;generalize wd.alloc (.cells #[.int .i64 (ca.1+cb.1),.int .i64 0,.pointer (some a),.pointer (some b)] 221)=w1 at *;have kd1:bV w' w1:=(db gd).trans (db g1);have ip:eU w1 ⟨wd.heap.size,0,none⟩ (ca.1+cb.1) (ca.2++cb.2):=.pack b1 (ia.keep kd1) (ib.keep kd1);have E5:w.grownBy w1 none:=aB (aB hg gd) g1
    -- coins ahead of the package
    refine⟨fun ms A2 n2 c2 k2 w2=>∃ (kn:Nat) (O:List (OA×aZ)),k2=(kn:Int)/\kn<=C.length/\O.length<=kn+j/\ms=C.length-kn/\cY w2 w.heap.size 218 A2 n2 c2 (ke O)/\(∀ x∈O,Is w2 x) ∧
        O.map Prod.snd++cJ ((C.drop kn).map Prod.snd) ((ca.1+cb.1,ca.2++cb.2) ::cO ((L.drop (2*(j+1))).map Prod.snd))=fx (C.map Prod.snd) (L.map Prod.snd)/\w.grownBy w2 none/\bV w1 w2,
      ⟨_,kn,O,rfl,hk,by omega,rfl,(ho.kept gd).kept g1,fun x hx=>(hO x hx).keep kd1,?_,E5,bV.refl _⟩,?_⟩
    · rw[← Ga,EH];simp only[List.map_cons,cO,Ja,I9]
    clear Ga ho hO N0 hk;rintro ms A2 n2 c2 k2 w2 ⟨kn,O,rfl,hk,N0,rfl,ho,hO,Ga,DR,Fy⟩;have ip2:=ip.keep Fy
    -- the package behind the coins
    have one:∀(u:OA),∃(A4:OA)(n4 c4:Nat),∃ w4:World,
        Sem.run P (Builtin.append_ #[216,216] 216 #[.slice A2 n2 c2,.slice (some ⟨w2.drew.heap.size,0,none⟩) 1 1]) (w2.drew.alloc (.cells #[.pointer u] 218))=.ok (.slice A4 n4 c4) w4 ∧
        cY w4 w.heap.size 218 A4 n4 c4 (ke O++[.pointer u])/\w.grownBy w4 none/\bV w2 w4:=by
      intro u;have g3:=aI (aD w2 none);have s3:w2.drew.heap.size=w2.heap.size:=rfl;generalize w2.drew=w3 at *;have g4:=World.grownBy_alloc w3 (.cells #[.pointer u] 218) none;have b4:(w3.alloc (.cells #[.pointer u] 218)).cell? ⟨w3.heap.size,0,none⟩=some (.pointer u):=by simp
      generalize w3.alloc (.cells #[.pointer u] 218)=w4 at *;have EZ:=(ho.kept g3).kept g4;obtain⟨A5,n5,c5,w5,h3,h4,h5⟩:=EZ.append1 (ty:=216) nV (by omega) (cc:=1) b4 rfl (by rw[ho.cases.1];simp;omega) (Nat.le_trans DR.size (Nat.le_trans g3.size g4.size));exact⟨A5,n5,c5,w5,h3,h4,aP (aB (aB DR g3) g4) h5 EZ.block_ge,((db g3).trans (db g4)).trans (lx EZ (by decide) h5)⟩
    have last:(∀ ps,cJ ((C.drop kn).map Prod.snd) ((ca.1+cb.1,ca.2++cb.2) ::ps)=(ca.1+cb.1,ca.2++cb.2) ::cJ ((C.drop kn).map Prod.snd) ps)->∃(A4:OA)(n4 c4:Nat),∃ w4:World,
        Sem.run P (Builtin.append_ #[216,216] 216 #[.slice A2 n2 c2,.slice (some ⟨w2.drew.heap.size,0,none⟩) 1 1]) (w2.drew.alloc (.cells #[.pointer (some ⟨wd.heap.size,0,none⟩)] 218))=.ok (.slice A4 n4 c4) w4 ∧
        (-9223372036854775808<=((2*j:Nat):Int)+2/\((2*j:Nat):Int)+2<=9223372036854775807)/\∃ ms,ms<L.length-2*j/\∃ (kn' j':Nat) (O:List (OA×aZ)),(kn:Int)=(kn':Int)/\((2*j:Nat):Int)+2=((2*j':Nat):Int)/\kn'<=C.length/\2*j'<=L.length/\O.length<=kn'+j'/\ms=L.length-2*j'/\cY w4 w.heap.size 218 A4 n4 c4 (ke O)/\(∀ x∈O,Is w4 x) ∧
      O.map Prod.snd++cJ ((C.drop kn').map Prod.snd) (cO ((L.drop (2*j')).map Prod.snd))=fx (C.map Prod.snd) (L.map Prod.snd)/\w.grownBy w4 none:=by
      intro IW;obtain⟨A4,n4,c4,w4,h1,h2,h3,h4⟩:=one (some ⟨wd.heap.size,0,none⟩);refine⟨A4,n4,c4,w4,h1,by omega,L.length-2*(j+1),by omega,kn,j+1,O++[(some ⟨wd.heap.size,0,none⟩,(ca.1+cb.1,ca.2++cb.2))],rfl,by omega,hk,by omega,by simp;omega,rfl,by simpa[ke]using h2,?_,?_,h3⟩
      · intro x hx;rcases List.mem_append.1 hx with e | e
        · exact(hO x e).keep h4
        · have:x=(some ⟨wd.heap.size,0,none⟩,(ca.1+cb.1,ca.2++cb.2)):=by simpa using e
          subst this;exact⟨_,rfl,ip2.keep h4⟩
      · rw[← Ga,IW];simp
    refine⟨fun Fu=>?_,fun I2=>?_⟩
    · have l3:kn<C.length:=by omega
      obtain⟨e,ee,ie⟩:=(hC _ (List.getElem_mem l3)).keep (db DR);obtain⟨q,MP,MO⟩:=(hA.kept_none DR) _ _ (nJ l3);have Lh:(C.drop kn).map Prod.snd=C[kn].2 ::(C.drop (kn+1)).map Prod.snd:=by
        rw[List.drop_eq_getElem_cons l3];rfl
      refine⟨q,MP,by omega,by omega,C[kn].1,MO,e,ee,C[kn].2.1,ie.count,_,rfl,ca.1+cb.1,ip2.count,fun DQ=>?_,fun ET=>?_⟩
      · refine⟨q,MP,by omega,by omega,C[kn].1,MO,?_⟩;obtain⟨A4,n4,c4,w4,h1,h2,h3,h4⟩:=one C[kn].1;refine⟨A4,n4,c4,w4,h1,by omega,C.length-(kn+1),by omega,kn+1,O++[C[kn]],by omega,by omega,by simp;omega,rfl,by simpa[ke]using h2,?_,?_,h3,Fy.trans h4⟩
        · intro x hx;rcases List.mem_append.1 hx with e | e
          · exact(hO x e).keep h4
          · have:x=C[kn]:=by simpa using e
            subst this;exact((hC _ (List.getElem_mem l3)).keep (db DR)).keep h4
        · rw[← Ga,Lh,mi DQ];simp
      · refine last fun ps=>?_;rw[Lh];exact mj ET
    · have:kn=C.length:=by omega
      refine last fun ps=>?_;rw[this,List.drop_length];exact pL
  · -- the rest of the coins
    have FG:cO ((L.drop (2*j)).map Prod.snd)=[]:=by
      have:(L.drop (2*j)).length<=1:=by simp;omega
      match h:L.drop (2*j)with
      | []=>rfl
      | [x]=>simp[cO]
      | x ::y ::r=>rw[h]at this;simp at this
    rw[FG]at Ga;simp only[cJ]at Ga;have fin:∀ w5,w'.grownBy w5 (Value.slice A' n' c').ownBlock->bV w' w5/\w.grownBy w5 none:=fun w5 h5=>⟨lx ho (by decide) h5,aP hg h5 ho.block_ge⟩;have kt:(kn:Int).toNat=kn:=by omega
    refine⟨by omega,?_⟩;rw[kt];cases A with
    | none =>
      have Er:=Fm rfl;have Sy:C=[]:=List.eq_nil_of_length_eq_zero (by omega);subst Sy;obtain⟨i,e1,e2,_⟩:=nV.ex;have hr:=run_append_owned_none (P:=P) w' w.heap.size 216 216 218 i 1 e1 e2 _ _ _ ho;have Ma:kn=0:=by simpa using hk
      subst Ma;refine⟨A',n',c',w',?_,A',n',c',O,rfl,ho,hO,?_,hg⟩
      · have:(.slice (bN none c 0 1) (n-0) (c-0):Value)=.slice none 0 0:=by
          have:n=0:=by simpa using hn
          subst this;subst Er;rfl
        rw[this];exact hr
      · rw[← Ga];simp
    | some a =>
      have Ed:∃ a',bN (some a) c kn 1=some a'/\∀ j u,(ke (C.drop kn))[j]?=some u->w'.cell? (a'.add j)=some u:=by
        by_cases FS:c=kn
        · refine⟨a,by simp[bN,FS],fun j u hj=>?_⟩;have:C.drop kn=[]:=List.drop_eq_nil_of_le (by omega);rw[this]at hj;simp at hj
        · refine⟨a.add kn,by simp[bN,FS],fun j u hj=>?_⟩;obtain⟨a2,h1,h2⟩:=((hA.kept_none hg).drop kn) j u (by simpa[ke]using hj);cases h1;exact h2
      obtain⟨a',EN,Ex⟩:=Ed;obtain⟨A4,n4,c4,w4,h1,h2,h3⟩:=ho.appends (ty:=216) nV (by omega) (cc:=c-kn) (m:=n-kn) (by simp;omega) Ex (fun u hu=>by obtain⟨x,_,rfl⟩:=List.mem_map.1 hu;rfl) (by rw[ho.cases.1];simp;omega) hg.size;obtain⟨f1,f2⟩:=fin w4 h3;refine⟨A4,n4,c4,w4,by rw[EN];exact h1,A4,n4,c4,O++C.drop kn,rfl,by simpa[ke]using h2,?_,?_,f2⟩
      · intro x hx;rcases List.mem_append.1 hx with e | e
        · exact(hO x e).keep f1
        · exact((hC x (List.mem_of_mem_drop e)).keep (db hg)).keep f1
      · rw[← Ga];simp
theorem jZ{w:World}{k j:Nat}{cur:Array Value}{e:TypeId}{fr:Nat×Nat}(h:w.heap[k]?=some (.cells cur e fr)):w.cell? ((⟨k,0,none⟩:Addr).add j)=cur[j]?:=by
 rw[aN,World.cell?,h];rfl
theorem eU.pos{w:World}{a:Addr}{c:Int}{s:List Nat}(h:eU w a c s):0<s.length:=by
 induction h with
 | coin _=>simp
 | pack _ _ _ ih _=>simp;omega
theorem eU.single{w:World}{a:Addr}{c:Int}{t:List Nat}(h:eU w a c t){s:Nat}(ht:t=[s]):w.cell? (a.add 1)=some (.int .i64 (s:Int)):=by
 cases h with
 | coin h=>cases ht;rw[jZ h];rfl
 | pack h i1 i2 =>
  have:=congrArg List.length ht;have:=i1.pos;have:=i2.pos;simp at *;omega
abbrev bL(xs:List Int):List Value:=xs.map (Value.int .i64)
theorem C1 {w:World} {g cap:Nat} {a:Addr} {c:Int} {s:List Nat} (h:eU w a c s):∀ {w':World} {xs:List Int} {n:Nat} {B:Int},bV w w'->cC w' g 3 cap (bL xs)->n=xs.length->(∀ i∈s,i<n)->(∀ v∈xs,0<=v/\v<=B)->0<=B->B+s.length<=2^62 →
    Calls P 154 #[.pointer (some a),.slice (some ⟨g,0,none⟩) n cap] w' fun ev w2=>ev=.returned (.tuple #[])/\cC w2 g 3 cap (bL (fR s xs))/\w'.grownBy w2 (some g):=by
  induction h with
  | @coin k c s y hk =>
    intro w' xs n B Fp ho hn hs hx hB He;have hb:=Fp _ _ hk;apply vc154;dsimp only[VC154,rt,Wt,Br,Rd,Ix,cU,iq]
    try simp only[aG]
    have LY:s<xs.length:=by have:=hs s (by simp);omega
    have Ed:=ho.cell (j:=s) (u:=.int .i64 xs[s]) (by simp[LY]);have hv:=hx xs[s] (List.getElem_mem LY);have ts:(s:Int).toNat=s:=by omega
    refine⟨_,rfl,by omega,none,by rw[jZ hb];rfl,fun _=>?_,fun h=>absurd rfl h⟩;refine⟨_,rfl,(s:Int),by rw[jZ hb];rfl,_,rfl,by omega,by omega,xs[s],by rw[ts];exact Ed,by simp at He;omega,_,rfl,by omega,by omega,⟨_,by rw[ts];exact Ed⟩,ho.notFrozen (aL _ _),trivial,?_,bZ (aD _ _) (aL _ _) _⟩;rw[ts];have:=ho.set (j:=s) (by simpa using LY) (.int .i64 (xs[s]+1));refine cast ?_ this;congr 1;simp[fR,sr,LY,List.map_set]
  | @pack k c1 c2 s1 s2 z p q hk h1 h2 ih1 ih2 =>
    intro w' xs n B Fp ho hn hs hx hB He;have hb:=Fp _ _ hk;simp only[List.length_append]at He;apply vc154;dsimp only[VC154,rt,Wt,Br,Rd,Ix,cU,iq]
    try simp only[aG]
    refine⟨_,rfl,by omega,some p,by rw[jZ hb];rfl,fun h=>absurd h (by simp),fun _=>?_⟩;refine⟨_,rfl,some p,by rw[jZ hb];rfl,some q,by rw[eL,jZ hb];rfl,?_⟩;refine⟨fun m i w2=>w'.grownBy w2 (some g)/\((i=0/\m=2/\cC w2 g 3 cap (bL xs))∨(i=1/\m=1/\cC w2 g 3 cap (bL (fR s1 xs)))∨(i=2/\m=0/\cC w2 g 3 cap (bL (fR (s1++s2) xs)))),⟨2,aD _ _,.inl ⟨rfl,rfl,ho⟩⟩,?_⟩;rintro m i w2 ⟨hg,hi⟩;have Fy:=Fp.trans (jR ho (by decide) hg);refine⟨fun DF=>⟨by omega,fun h0=>?_,fun h1=>?_,trivial⟩,fun DK=>⟨trivial,?_,hg⟩⟩
    · subst h0;rcases hi with⟨_,rfl,EB⟩ | ⟨h,_⟩ | ⟨h,_⟩
      · refine(ih1 Fy EB hn (fun i hi=>hs i (by simp[hi])) hx hB (by omega)).mono fun ev w3 hh=>?_;obtain⟨e1,e2,e3⟩:=hh;exact⟨e1,by omega,1,by omega,aB hg e3,.inr (.inl ⟨rfl,rfl,e2⟩)⟩
      · omega
      · omega
    · subst h1;rcases hi with⟨h,_⟩ | ⟨_,rfl,EB⟩ | ⟨h,_⟩
      · omega
      · refine(ih2 Fy EB (by rw[eo];exact hn) (fun i hi=>hs i (by simp[hi])) (kL s1 hx hB) (by omega) (by omega)).mono fun ev w3 hh=>?_;obtain⟨e1,e2,e3⟩:=hh;exact⟨e1,by omega,0,by omega,aB hg e3,.inr (.inr ⟨rfl,rfl,by rw[lS];exact e2⟩)⟩
      · omega
    · rcases hi with⟨h,_⟩ | ⟨h,_⟩ | ⟨_,_,EB⟩
      · omega
      · omega
      · exact EB
def Fine(N:Nat)(k:Nat)(x:aZ):Prop:=0<x.1/\x.1<=1099511627776*2^k/\x.2.length<=2^k/\∀ s∈x.2,s<N
theorem wF(xs:List Int):∀ k,∀ x∈jh (aM xs) k,Fine xs.length k x:=by
 apply uW
 ·rintro k a b ⟨a1,a2,a3,a4⟩ ⟨b1,b2,b3,b4⟩;have hp:0<2^k:=Nat.two_pow_pos k;refine⟨by show 0<a.1+b.1;omega,?_,?_,?_⟩
  ·show a.1+b.1<=_;rw[Int.pow_succ];omega
  ·show(a.2++b.2).length<=_;rw[List.length_append,Nat.pow_succ];omega
  ·intro s hs;rcases List.mem_append.1 hs with e | e
   ·exact a4 s e
   ·exact b4 s e
 ·intro k x hx;obtain⟨h1,h2,s,h3,h4⟩:=kC hx;have hp:0<2^k:=Nat.two_pow_pos k;have GH:(1:Int)<=2^k:=by have:((2^k:Nat):Int)=2^k:=(by simp);omega
  refine⟨h1,?_,by rw[h3];simp;omega,by rw[h3];simpa using h4⟩;have:(1099511627776:Int)*1<=1099511627776*2^k:=Int.mul_le_mul_of_nonneg_left GH (by omega);omega
theorem uc(first:List aZ):∀ k,(jh first k).length<=2*first.length
 | 0=>by simp[jh];omega
 | k+1=>by
  have:=uc first k
  simp only[jh,fx,eI,fe];omega
theorem Bu(most:Int):mn (mx most 1) 15=(cH most:Int)/\1<=cH most/\cH most<=15:=by
 unfold cH mx mn;split <;>split <;>omega
theorem sT {w : World} {A:OA} {n c:Nat} {xs:List Int} {most:Int} (Ed:bB w A (bL xs)) (hn:n=xs.length) :
    Calls P 110 #[.slice A n c,.int .i64 most] w fun ev w'=>∃(A':OA)(n' c':Nat),ev=.returned (.slice A' n' c')/\cY w' w.heap.size 3 A' n' c' (bL (dL xs most))/\w.grownBy w' none:=by
  apply vc110;dsimp only[VC110,Wt,Br,Rd,Ix,cS,cU,iq];obtain⟨hm,Na,M9⟩:=Bu most;rw[hm];simp only[aG];have tn:(cH most:Int).toNat=cH most:=by omega
  have FZ:min (cH most) 64=cH most:=by omega
  rw[tn,FZ];have QT:2^cH most<=2^15:=Nat.pow_le_pow_right (by omega) M9;obtain⟨q,hq⟩:∃ q,q=2^cH most:=⟨_,rfl⟩;have Lj:(1:Int)*2^cH most=(q:Int):=by rw[hq];simp
  rw[Lj];refine⟨fun h=>⟨none,0,0,rfl,?_,aD _ _⟩,fun h=>?_⟩
  · have:dL xs most=[]:=by unfold dL;rw[if_pos (by omega)]
    rw[this];exact World.ownsRow_nil _ _ _ _
  · have LK : xs.length<=256:=by omega
    refine(wW Ed hn (by omega)).mono fun ev w1 hh=>?_;obtain⟨A1,n1,c1,L,rfl,ho,hL,Hd,hg⟩:=hh;have Hp:n1=(aM xs).length:=by rw[ho.cases.1,← Hd];simp
    have TH:L.length=(aM xs).length:=by rw[← Hd];simp
    refine⟨A1,n1,c1,rfl,by omega,fun h2=>?_,fun h2=>?_⟩
    · refine⟨none,0,0,rfl,?_,hg⟩;have:dL xs most=[]:=by unfold dL;rw[if_neg (by omega),if_pos (by omega)]
      rw[this];exact World.ownsRow_nil _ _ _ _
    · have GX : dL xs most=fR (bU xs (cH most)) (List.replicate xs.length 0):=by unfold dL;rw[if_neg (by omega),if_neg (by omega)]
      obtain⟨w2,hr,DI,DR⟩:=nH (P:=P) (w:=w1) kA (by omega) (m:=n) (by omega);refine⟨_,_,_,w2,hr,?_⟩;have DI:cC w2 w1.heap.size 3 n (bL (List.replicate xs.length 0)):=by
        simpa[bL,hn]using DI
      have fin:∀ w3 ys,ys=dL xs most->cC w3 w1.heap.size 3 n (bL ys)->w2.grownBy w3 (some w1.heap.size)->∃(A':OA)(n' c':Nat),Ending.returned (.slice (some ⟨w1.heap.size,0,none⟩) n n)=.returned (.slice A' n' c')/\cY w3 w.heap.size 3 A' n' c' (bL (dL xs most))/\w.grownBy w3 none:=by
        intro w3 ys Hw h3 h4;subst Hw;have h5:=h3.ownsRow hg.size (by simp only[maxLen];omega);have:(bL (dL xs most)).length=n:=by rw[GX];simp[bL,eo,hn]
        rw[this]at h5;exact⟨_,_,_,rfl,h5,aP (aB hg DR) h4 (by intro k hk;cases hk;exact hg.size)⟩
      have Od:∀ x∈L,Is w2 x:=fun x hx=>(hL x hx).keep (db DR);have EB:=ho.kept DR;refine⟨fun h1=>?_,fun h1=>?_⟩
      · -- one symbol
        obtain⟨x,rfl⟩:∃ x,L=[x]:=List.length_eq_one_iff.1 (by omega);obtain⟨a,h3,h4⟩:=EB.row 0 (.pointer x.1) (by simp[ke]);have R6:a.add 0=a:=by simp[Addr.add]
        rw[R6]at h4;have It:aM xs=[x.2]:=by rw[← Hd];rfl
        obtain⟨_,_,s,EK,ES⟩:=kC (xs:=xs) (x:=x.2) (by rw[It];simp);obtain⟨b,Gd,Ek⟩:=Od x (by simp);have G9:=Ek.single EK;have ts:(s:Int).toNat=s:=by omega
        have DO:=DI.cell (j:=s) (u:=.int .i64 0) (by simp[bL,ES]);refine⟨a,h3,by omega,by omega,x.1,h4,b,Gd,(s:Int),G9,_,rfl,by omega,by omega,⟨_,by rw[ts];exact DO⟩,DI.notFrozen (aL _ _),?_⟩;rw[ts];have Ft:=DI.set (j:=s) (by simpa[bL]using ES) (.int .i64 1);refine fin _ ((List.replicate xs.length 0).set s 1) ?_ ?_ (bZ (aD _ _) (aL _ _) _)
        · rw[GX];have:bU xs (cH most)=[s]:=by unfold bU;rw[It];simp[EK]
          rw[this];simp[fR,sr,ES]
        · simpa[bL,List.map_set]using Ft
      · refine⟨by omega,?_⟩
        -- list after list
        refine⟨fun ms lA ln lc i w3=>∃ (k:Nat) (O:List (OA×aZ)),i=(k:Int)/\k<=cH most-1/\ms=cH most-1-k/\cY w3 w.heap.size 218 lA ln lc (ke O)/\(∀ x∈O,Is w3 x)/\O.map Prod.snd=jh (aM xs) k/\w2.grownBy w3 none,
          ⟨_,0,L,rfl,by omega,rfl,EB,Od,Hd,aD _ _⟩,?_⟩
        rintro ms lA ln lc i w3 ⟨k,O,rfl,hk,rfl,Ee,hO,Ly,D9⟩;have N0:O.length=(jh (aM xs) k).length:=by rw[← Ly];simp
        have HG:=uc (aM xs) k;have Gm:=jz xs;have Rf:ln=O.length:=by rw[Ee.cases.1];simp
        refine⟨fun DF=>?_,fun DK=>?_⟩
        · have La:∀ x∈O,0<=x.2.1/\x.2.1<=2^60:=by
            intro x hx;have h:=wF xs k x.2 (by rw[← Ly];exact List.mem_map_of_mem hx);have hp:(2:Int)^k<=2^15:=by
              have:=Nat.pow_le_pow_right (n:=2) (by omega) (show k<=15 by omega);have e1:((2^k:Nat):Int)=2^k:=by simp
              have e2:((2^15:Nat):Int)=2^15:=by simp
              omega
            have h2:=h.2.1;exact⟨by have:=h.1;omega,by omega⟩
          have Fm:A1=none->c1=0/\n1=0:=by
            intro e;rcases ho.cases.2 with⟨_,h,h',_⟩ | ⟨g,h,_⟩
            · exact⟨h',h⟩
            · rw[e]at h;cases h
          have Jb:n1<=c1:=by
            rcases ho.cases.2 with⟨_,h,h',_⟩ | ⟨g,_,_,_,h,_⟩
            · omega
            · exact h
          refine(uQ (C:=L) (L:=O) ((EB.kept D9).row) Ee.row (by omega) Rf (fun x hx=>(Od x hx).keep (db D9)) hO Jb (fun e=>(Fm e).1) (by omega) (by omega) La).mono fun ev w4 hh=>?_;obtain⟨A4,n4,c4,O4,rfl,q1,q2,q3,q4⟩:=hh;have Ff:w.heap.size<=w3.heap.size:=Nat.le_trans hg.size (Nat.le_trans DR.size D9.size);refine⟨A4,n4,c4,rfl,by omega,cH most-1-(k+1),by omega,k+1,O4,by omega,by omega,rfl,cY.mono q1 Ff,q2,?_,aB D9 q4⟩;rw[q3,Hd,Ly];rfl
        · have D8:k=cH most-1:=by omega
          have KL:=v9 Na (first:=aM xs) (by omega);rw[← D8]at KL;have Te:ln<=lc:=by
            rcases Ee.cases.2 with⟨_,h,h',_⟩ | ⟨g,_,_,_,h,_⟩
            · omega
            · exact h
          have Q9:mx (2*(n1:Int)-2) 0=((2*(aM xs).length-2:Nat):Int):=by unfold mx;split <;>omega
          rw[Q9];have tm:(((2*(aM xs).length-2:Nat):Int)).toNat=2*(aM xs).length-2:=by omega
          rw[tm];refine⟨by omega,by omega,by omega,?_⟩;have HK:bU xs (cH most)=((jh (aM xs) k).take (2*(aM xs).length-2)).flatMap Prod.snd:=by
            unfold bU;rw[if_neg (by omega),D8]
          refine⟨fun ms i w4=>∃(j:Nat)(ys:List Int),i=(j:Int)/\j<=2*(aM xs).length-2/\ms=2*(aM xs).length-2-j/\ys=fR (((jh (aM xs) k).take j).flatMap Prod.snd) (List.replicate xs.length 0)/\(∀ v∈ys,0<=v/\v<=2^15*(j:Int)) ∧
              cC w4 w1.heap.size 3 n (bL ys)/\w2.grownBy w4 (some w1.heap.size)/\w3.grownBy w4 (some w1.heap.size),
            ⟨_,0,List.replicate xs.length 0,rfl,by omega,rfl,by simp[fR],by simp,DI.kept D9 (by simp),bM D9,aD _ _⟩,?_⟩
          rintro ms i w4 ⟨j,ys,rfl,hj,rfl,Hw,Jz,EZ,Ef,I3⟩;have Qf:ys.length=n:=by rw[Hw,eo];simp[hn]
          have KA:cC w3 w1.heap.size 3 n (bL (List.replicate xs.length 0)):=DI.kept D9 (by simp);have Fp:=jR KA (by decide) I3;refine⟨fun DF=>?_,fun I2=>?_⟩
          · have Nm:j<O.length:=by omega
            -- the row of items is another block than the lengths
            have IK:bB w4 lA (ke O):=by
              refine bB.kept Ee.row I3 ?_;intro a ha e;rcases Ee.cases.2 with⟨h,_⟩ | ⟨g,h,_,_,_,Q4⟩
              · rw[ha]at h;cases h
              · rw[ha]at h;cases h;simp only[Option.some.injEq]at e;subst e;obtain⟨cur,e1,_⟩:=Q4;obtain⟨cur',e2,_⟩:=KA;rw[e1]at e2;cases e2
            obtain⟨a,h3,h4⟩:=IK j _ (nJ Nm);obtain⟨b,Gd,Ek⟩:=hO _ (List.getElem_mem Nm);have DU:O[j].2∈jh (aM xs) k:=by rw[← Ly];exact List.mem_map_of_mem (List.getElem_mem Nm)
            obtain⟨f1,f2,f3,f4⟩:=wF xs k _ DU;have Fl:2^k<=2^15:=Nat.pow_le_pow_right (by omega) (by omega);refine⟨a,h3,by omega,by omega,O[j].1,h4,?_⟩;rw[Gd];refine(C1 Ek Fp EZ (by omega) (fun i hi=>by have:=f4 i hi;omega) Jz (by omega) (by omega)).mono fun ev w5 hh=>?_;obtain⟨e1,e2,e3⟩:=hh;refine⟨e1,by omega,2*(aM xs).length-2-(j+1),by omega,j+1,fR O[j].2.2 ys,by omega,by omega,rfl,?_,?_,e2,aB Ef e3,aB I3 e3⟩
            · have Ey:j<(jh (aM xs) k).length:=by omega
              have:(jh (aM xs) k)[j]=O[j].2:=by simp[← Ly]
              rw[Hw,List.take_succ_eq_append_getElem Ey,List.flatMap_append,lS,this];simp
            · intro v hv;have:=kL O[j].2.2 Jz (by omega) v hv;omega
          · have EM:j=2*(aM xs).length-2:=by omega
            refine fin w4 ys ?_ EZ Ef;rw[Hw,GX,HK,EM]
theorem dQ(w:World)(cs:Array Value)(t:TypeId):bB (w.alloc (.cells cs t)) (some ⟨w.heap.size,0,none⟩) cs.toList:=by
 intro j u hj;refine⟨_,rfl,?_⟩;rw[aN,World.cell?_alloc_new];simpa using hj
theorem nO(x:Int):0<=fk x/\fk x<=2^14:=by
 unfold fk;split
 ·have h:(15-x).toNat<=14:=by omega
  have h1:=Nat.pow_le_pow_right (n:=2) (by omega) h;obtain⟨q,hq⟩:∃ q:Nat,q=2^(15-x).toNat:=⟨_,rfl⟩;have e1:(2:Int)^(15-x).toNat=(q:Int):=by rw[hq];simp
  rw[e1];omega
 ·omega
theorem pb(xs:List Int):0<=eJ xs/\eJ xs<=2^14*xs.length:=by
 induction xs with
 | nil=>simp[eJ]
 | cons x xs ih =>
  have:=nO x;simp only[eJ,List.map_cons,List.sum_cons,List.length_cons]at *;omega
theorem pO{w:World}{A:OA}{n c:Nat}{xs:List Int}(hA:bB w A (bL xs))(hn:n=xs.length)(hb:n<=2^40):
    Calls P 181 #[.slice A n c] w fun ev w'=>ev=.returned (.int .i64 (eJ xs))/\w.grownBy w' none:=by
  apply vc181;dsimp only[VC181,Br,Rd,Ix,iq]
  try simp only[aG]
  refine⟨fun ms s i w'=>∃ k:Nat,i=(k:Int)/\k<=xs.length/\ms=xs.length-k/\s=eJ (xs.take k)/\w.grownBy w' none,⟨_,0,rfl,by omega,rfl,by simp[eJ],aD _ _⟩,?_⟩;rintro ms s i w' ⟨k,rfl,hk,rfl,rfl,hg⟩;refine⟨fun DF=>?_,fun DK=>?_⟩
  · have l1:k<xs.length:=by omega
    obtain⟨a,EN,Ex⟩:=(hA.kept_none hg) k (.int .i64 xs[k]) (by simp[bL,l1]);have hs:eJ (xs.take (k+1))=eJ (xs.take k)+fk xs[k]:=by
      rw[List.take_succ_eq_append_getElem l1];simp only[eJ,List.map_append,List.sum_append,List.map_cons,List.map_nil,List.sum_cons,List.sum_nil];omega
    have b1:=pb (xs.take k);have hl:(xs.take k).length=k:=by simp;omega
    rw[hl]at b1;refine⟨a,EN,by omega,by omega,xs[k],Ex,fun h1=>⟨fun h2=>?_,fun h2=>?_⟩,fun h1=>?_⟩
    · have hv:fk xs[k]=2^(15-xs[k]).toNat:=by unfold fk;rw[if_pos ⟨by omega,h2⟩]
      have hm:min (15-xs[k]).toNat 64=(15-xs[k]).toNat:=by omega
      have b2:=nO xs[k];rw[hm,Int.one_mul,← hv];exact⟨by omega,by omega,by omega,by omega,xs.length-(k+1),by omega,k+1,by omega,by omega,rfl,hs.symm,hg⟩
    · have hv:fk xs[k]=0:=by unfold fk;rw[if_neg (by omega)]
      exact⟨by omega,xs.length-(k+1),by omega,k+1,by omega,by omega,rfl,by rw[hs,hv];omega,hg⟩
    · have hv:fk xs[k]=0:=by unfold fk;rw[if_neg (by omega)]
      exact⟨by omega,xs.length-(k+1),by omega,k+1,by omega,by omega,rfl,by rw[hs,hv];omega,hg⟩
  · have:k=xs.length:=by omega
    subst this;rw[List.take_length];exact⟨rfl,hg⟩
theorem yR{w:World}{base:Nat}{A:OA}{n c:Nat}{xs:List Int}{x:Int}(ho:cY w base 3 A n c (bL xs))(hn:n<=2^30)(hb:base<=w.heap.size):
    ∃ (A':OA) (n' c':Nat) (w':World),Sem.run P (Builtin.append_ #[33,33] 33 #[.slice A n c,.slice (some ⟨w.heap.size,0,none⟩) 1 1]) (w.alloc (.cells #[.int .i64 x] 3))=.ok (.slice A' n' c') w' ∧
      cY w' base 3 A' n' c' (bL (xs++[x]))/\w.grownBy w' (Value.slice A n c).ownBlock:=by
  have g:=World.grownBy_alloc w (.cells #[.int .i64 x] 3) none;have b:(w.alloc (.cells #[.int .i64 x] 3)).cell? ⟨w.heap.size,0,none⟩=some (.int .i64 x):=by simp
  obtain⟨A',n',c',w',h1,h2,h3⟩:=(ho.kept g).append1 (ty:=33) kA (by omega) (cc:=1) b rfl (by omega) (Nat.le_trans hb g.size);exact⟨A',n',c',w',h1,by simpa[bL]using h2,aB (bM g) h3⟩
def cnt5(x:Int):List Int:=[x,x % 3,(x % 2)*1000,2^(x % 40).toNat,x*x]
def Dw(k x:Int):Int:=(cnt5 x).getD ((k+x % 7) % 5).toNat 0
end Go.Proofs.YtlieaecnllkefaaGreat

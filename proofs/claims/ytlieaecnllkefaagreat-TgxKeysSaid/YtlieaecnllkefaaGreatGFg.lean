/- Own texts, packed: D1, D2, D3, D4, D5, E0, E1, E2, E3, E4. -/
import Derived.Test.YtlieaecnllkefaaGreatGXg
import Derived.Test.YtlieaecnllkefaaGreatGDg
import Derived.Test.YtlieaecnllkefaaGreatGCg
import Derived.Test.YtlieaecnllkefaaGreatGBg
import Derived.KernelRfl
set_option linter.unusedVariables false
set_option linter.unusedSimpArgs false
set_option maxHeartbeats 4000000
set_option maxRecDepth 100000
namespace Go.Proofs.YtlieaecnllkefaaGreat
open Go Go.V Go.RowKit
theorem p9:CI P 216 218 (.pointer none) 8:=⟨(P.info? 218).getD default,by kernel_rfl,by kernel_rfl,by kernel_rfl,by kernel_rfl,by kernel_rfl,by kernel_rfl⟩
theorem iD:CI P 33 3 (.int .i64 0) 8:=⟨(P.info? 3).getD default,by kernel_rfl,by kernel_rfl,by kernel_rfl,by kernel_rfl,by kernel_rfl,by kernel_rfl⟩
inductive fH (w:World):Addr->Int->List Nat->Prop
  | coin {k:Nat} {c:Int} {s:Nat} {y:Value}:w.heap[k]?=some (.cells #[.int .i64 c,.int .i64 (s:Int),.pointer none,y] 221 (0,0))->fH w ⟨k,0,none⟩ c [s]
  | pack {k:Nat} {c1 c2:Int} {s1 s2:List Nat} {z:Value} {p q:Addr}:w.heap[k]?=some (.cells #[.int .i64 (c1+c2),z,.pointer (some p),.pointer (some q)] 221 (0,0)) →
      fH w p c1 s1->fH w q c2 s2->fH w ⟨k,0,none⟩ (c1+c2) (s1++s2)
def Is(w:World)(x:OA×bS):Prop:=∃ a,x.1=some a/\fH w a x.2.1 x.2.2
def cN(w w':World):Prop:=∀(k:Nat)(cur:Array Value),w.heap[k]?=some (Obj.cells cur 221 (0,0))->w'.heap[k]?=some (Obj.cells cur 221 (0,0))
theorem cN.refl(w:World):cN w w:=fun _ _ h=>h
theorem cN.trans{a b c:World}(h:cN a b)(h':cN b c):cN a c:=fun k cur hk=>h' k cur (h k cur hk)
theorem rJ{w w':World}{r:Option Nat}(hg:w.grownBy w' r)(hr:∀ g,r=some g->∃(cur:Array Value)(e:TypeId)(fr:Nat×Nat),w.heap[g]?=some (Obj.cells cur e fr)/\e≠221):cN w w':=by
 intro k cur hk;rw[hg.block k (Array.getElem?_eq_some_iff.1 hk).1,hk];intro e;obtain⟨cur',e',fr,h1,h2⟩:=hr k e.symm;rw[hk]at h1;cases h1;exact h2 rfl
theorem dG{w w':World}(hg:w.grownBy w' none):cN w w':=rJ hg (by simp)
theorem kQ{w w':World}{g cap:Nat}{e:TypeId}{xs:List Value}(ho:cV w g e cap xs)(he:e≠221)(hg:w.grownBy w' (some g)):cN w w' :=
 rJ hg fun g' e'=>by
  cases e';obtain⟨cur,h1,_⟩:=ho;exact⟨cur,e,_,h1,he⟩
theorem mW{w w':World}{base n c:Nat}{e:TypeId}{A:OA}{xs:List Value}(ho:cP w base e A n c xs)(he:e≠221)(hg:w.grownBy w' (Value.slice A n c).ownBlock):cN w w':=by
 obtain⟨_,h | ⟨g,rfl,_,_,_,h⟩⟩:=ho.cases
 ·obtain⟨rfl,_⟩:=h;exact dG hg
 ·exact kQ h he hg
theorem fH.keep{w w':World}(hk:cN w w'){a:Addr}{c:Int}{s:List Nat}(h:fH w a c s):fH w' a c s:=by
 induction h with
 | coin h=>exact .coin (hk _ _ h)
 | pack h _ _ ih1 ih2=>exact .pack (hk _ _ h) ih1 ih2
theorem Is.keep{w w':World}(hk:cN w w'){x:OA×bS}(h:Is w x):Is w' x:=by
 obtain⟨a,h1,h2⟩:=h;exact⟨a,h1,h2.keep hk⟩
theorem fH.count{w:World}{a:Addr}{c:Int}{s:List Nat}(h:fH w a c s):w.cell? a=some (.int .i64 c):=by
 cases h with
 | coin h=>simp[World.cell?,h]
 | pack h _ _=>simp[World.cell?,h]
theorem zT{n:Int}{w:World}{R:Ending->World->Prop}(h:R (.returned (.int .i64 (cO n))) w):Calls P 176 #[.int .i64 n] w R:=vc176 n w R h
theorem rO{x:Int}{w:World}{R:Ending->World->Prop}(h:R (.returned (.bool false)) w):Calls P 188 #[.int .i64 x] w R:=by
 apply vc188;unfold VC188;simpa using h
theorem og{x y:Int}{w:World}:Calls P 179 #[.int .i64 x,.int .i64 y] w fun ev w'=>∃ c:Int,ev=.returned (.int .i64 c)/\(c<0↔x<y)/\w'=w:=by
 apply vc179;dsimp only[VC179,Br,Bb,cB,iq];refine rO ⟨false,rfl,rO ⟨false,rfl,by simp,fun _=>⟨by simp,fun _=>⟨fun h=>⟨_,rfl,by omega,rfl⟩,fun h=>⟨fun h'=>⟨_,rfl,by omega,rfl⟩,fun h'=>⟨_,rfl,by omega,rfl⟩⟩⟩⟩⟩⟩
def Dg(w:World)(p:OA):Int:=match p with
 | some a=>match w.cell? a with
  | some (.int _ c)=>c
  | _=>0
 | none=>0
theorem wX{w:World}{x:OA×bS}(h:Is w x):Dg w x.1=x.2.1:=by
 obtain⟨a,h1,h2⟩:=h;simp[Dg,h1,h2.count]
theorem DB{w:World}{g cap:Nat}{e:TypeId}{xs:List Value}{L:List (OA×bS)}(ho:cV w g e cap xs)(he:e≠221)(hL:∀ x∈L,Is w x):jR w g (Dg w) (L.map Prod.fst):=by
 intro w' hg x hx y hy;obtain⟨x,GD,rfl⟩:=List.mem_map.1 hx;obtain⟨y,Hf,rfl⟩:=List.mem_map.1 hy;have hx:=GD;have hy:=Hf;have kx:=hL x hx;have ky:=hL y hy;have hk:=kQ ho he hg;show Calls P 178 #[.pointer x.1,.pointer y.1] w' _;apply vc178;dsimp only[VC178,Rd,cI,iq];obtain⟨a,ea,ia⟩:=kx.keep hk;obtain⟨b,eb,ib⟩:=ky.keep hk;refine⟨a,ea,x.2.1,ia.count,b,eb,y.2.1,ib.count,?_⟩;refine og.mono fun ev w2 hh=>?_;obtain⟨c,h1,h2,rfl⟩:=hh;exact⟨c,h1,c,rfl,by rw[h2,wX kx,wX ky],aH (aC _ _)⟩
theorem Bo{α β:Type}(f:α->β)(key:β->Int)(key':α->Int)(x:α):∀(l:List α),(∀ y∈x ::l,key (f y)=key' y)->sD key (f x) (l.map f)=(sD key' x l).map f
 | [],_=>rfl
 | y ::ys,h=>by
  have hx:=h x (by simp);have hy:=h y (by simp);have ih:=Bo f key key' x ys (fun z hz=>h z (by rcases List.mem_cons.1 hz with e | e <;>simp[e]));simp only[List.map_cons,sD,hx,hy];split
  ·rw[ih];simp
  ·simp
theorem mY{α β:Type}(f:α->β)(key:β->Int)(key':α->Int)(xs:List α)(h:∀ y∈xs,key (f y)=key' y):dk key (xs.map f)=(dk key' xs).map f:=by
 have:∀(xs l:List α),(∀ y∈xs,key (f y)=key' y)->(∀ y∈l,key (f y)=key' y)->aJ key' l->(xs.map f).foldl (fun l x=>sD key x l) (l.map f)=(xs.foldl (fun l x=>sD key' x l) l).map f:=by
  intro xs
  induction xs with
  | nil=>intros;rfl
  | cons x xs ih =>
   intro l h1 h2 h3;simp only[List.map_cons,List.foldl_cons];rw[Bo f key key' x l (fun z hz=>by rcases List.mem_cons.1 hz with e | e;exact h1 z (by simp[e]);exact h2 z e)];refine ih _ (fun y hy=>h1 y (by simp[hy])) (fun y hy=>?_) (ph x h3);rcases List.mem_append.1 ((pT (key:=key') x h3).mem hy)with e | e
   ·exact h2 y e
   ·have:y=x:=by simpa using e
    rw[this];exact h1 x (by simp)
 simpa[dk]using this xs [] h (by simp) (by simp[aJ])
theorem zA{w:World}:Calls P 177 #[.slice none 0 0,.func (.func 178) #[] #[]] w fun ev w'=>ev=.returned (.tuple #[])/\w.grownBy w' none:=by
 apply vc177;dsimp only[VC177,rt,cU,iq];have h:Calls P 187 #[.slice none 0 0,.int .i64 0,.func (.func 178) #[] #[]] w fun ev w'=>ev=.returned (.tuple #[])/\w.grownBy w' none:=by
  apply vc187;dsimp only[VC187,rt,Br,cU,iq];refine⟨fun m a b w'=>m=0/\a=0/\b=20/\w'=w,⟨0,rfl,rfl,rfl,rfl⟩,?_⟩;rintro m a b w' ⟨rfl,rfl,rfl,rfl⟩;refine⟨fun h=>by omega,fun h=>?_⟩;have h2:Calls P 191 #[.slice none 0 0,.int .i64 0,.int .i64 0,.func (.func 178) #[] #[]] w' fun ev w2=>ev=.returned (.tuple #[])/\w'=w2:=by
   apply vc191;dsimp only[VC191,rt,Wt,Br,Ix,cI]
   try simp only[aF]
   refine⟨by omega,fun m i w2=>i=1/\w2=w',⟨0,by omega,rfl⟩,?_⟩;rintro m i w2 ⟨rfl,rfl⟩;exact⟨fun h=>by omega,fun h=>⟨trivial,rfl⟩⟩
  refine h2.mono fun ev w2 hh=>?_;obtain⟨h3,rfl⟩:=hh;refine⟨h3,fun m s w3=>s=20/\w3=w',⟨0,rfl,rfl⟩,?_⟩;rintro m s w3 ⟨rfl,rfl⟩;exact⟨fun h=>by omega,fun h=>⟨rfl,aC _ _⟩⟩
 refine h.mono fun ev w' hh=>?_;exact⟨hh.1,rfl,hh.2⟩
abbrev lD(L:List (OA×bS)):List Value:=(L.map Prod.fst).map Value.pointer
theorem yV {w:World} {A:OA} {n c:Nat} {xs:List Int} (Gm:aZ w A (xs.map (Value.int .i64))) (hn:n=xs.length) (Gp:n<=2^30) :
    Calls P 152 #[.slice A n c] w fun ev w'=>∃ (A':OA) (n' c':Nat) (L:List (OA×bS)),ev=.returned (.slice A' n' c')/\cP w' w.heap.size 218 A' n' c' (lD L)/\(∀ x∈L,Is w' x)/\L.map Prod.snd=aL xs/\w.grownBy w' none:=by
  apply vc152;dsimp only[VC152,Br,Rd,Ix,cI,cU,nb,iq]
  try simp only[aF]
  refine⟨fun m A' n' c' i w'=>∃ (k:Nat) (L:List (OA×bS)),i=(k:Int)/\k<=xs.length/\m=xs.length-k/\cP w' w.heap.size 218 A' n' c' (lD L)/\(∀ x∈L,Is w' x)/\L.map Prod.snd=aU 0 (xs.take k)/\L.length<=k/\w.grownBy w' none,
    ⟨_,0,[],rfl,by omega,rfl,World.ownsRow_nil _ _ _ _,by simp,by simp[aU],by simp,aC _ _⟩,?_⟩
  rintro m A' n' c' i w' ⟨k,L,rfl,hk,rfl,ho,hL,Kb,XX,hg⟩;refine⟨fun FE=>?_,fun FJ=>?_⟩
  · have Gc:k<xs.length:=by omega
    obtain⟨a,h1,h2⟩:=(Gm.kept_none hg) k (.int .i64 xs[k]) (by simp[Gc]);have Lb:aU 0 (xs.take (k+1))=aU 0 (xs.take k)++aU k [xs[k]]:=by
      rw[List.take_succ_eq_append_getElem Gc,gk];simp[Nat.min_eq_left hk]
    refine⟨a,h1,by omega,by omega,xs[k],by simpa using h2,fun FO=>?_,fun FO=>?_⟩
    · refine zT ⟨_,rfl,?_⟩;have g1:=World.grownBy_alloc w' (.cells #[(.int .i64 (cO xs[k])),(.int .i64 (k:Int)),(.pointer none),(.pointer none)] 221) none;have b1:(w'.alloc (.cells #[(.int .i64 (cO xs[k])),(.int .i64 (k:Int)),(.pointer none),(.pointer none)] 221)).heap[w'.heap.size]?=some (.cells #[(.int .i64 (cO xs[k])),(.int .i64 (k:Int)),(.pointer none),(.pointer none)] 221):=heap_alloc_new w' _;generalize w'.alloc (.cells #[(.int .i64 (cO xs[k])),(.int .i64 (k:Int)),(.pointer none),(.pointer none)] 221)=w1 at *;have g2:=World.grownBy_alloc w1 (.cells #[.pointer (some ⟨w'.heap.size,0,none⟩)] 218) none;have b2:(w1.alloc (.cells #[.pointer (some ⟨w'.heap.size,0,none⟩)] 218)).cell? ⟨w1.heap.size,0,none⟩=some (.pointer (some ⟨w'.heap.size,0,none⟩)):=by simp
      generalize w1.alloc (.cells #[.pointer (some ⟨w'.heap.size,0,none⟩)] 218)=w2 at *;have Gt:=(ho.kept g1).kept g2;obtain⟨A2,n2,c2,w3,h3,h4,h5⟩:=Gt.append1 (ty:=216) p9 (by omega) (cc:=1) b2 rfl (by rw[ho.cases.1];simp;omega) (Nat.le_trans hg.size (Nat.le_trans g1.size g2.size));have PJ:cN w1 w3:=(dG g2).trans (mW Gt (by decide) h5);refine⟨A2,n2,c2,w3,h3,by omega,xs.length-(k+1),by omega,k+1,L++[(some ⟨w'.heap.size,0,none⟩,(cO xs[k],[k]))],by omega,by omega,rfl,by simpa using h4,?_,?_,by simp;omega,?_⟩
      · intro x hx;rcases List.mem_append.1 hx with e | e
        · exact((hL x e).keep (dG g1)).keep PJ
        · have:x=(some ⟨w'.heap.size,0,none⟩,(cO xs[k],[k])):=by simpa using e
          subst this;exact⟨_,rfl,(fH.coin b1).keep PJ⟩
      · rw[Lb,List.map_append,Kb];simp[aU,FO]
      · exact aN (aA (aA hg g1) g2) h5 Gt.block_ge
    · refine⟨by omega,xs.length-(k+1),by omega,k+1,L,by omega,by omega,rfl,ho,hL,?_,by omega,hg⟩;rw[Lb,Kb];simp[aU,FO]
  · have Gc:k=xs.length:=by omega
    subst Gc;rw[List.take_length]at Kb;obtain⟨hl,h | ⟨g,rfl,hb,hc,MX,IX⟩⟩:=ho.cases
    · obtain⟨rfl,rfl,rfl,hx⟩:=h;have:L=[]:=by simpa using hx
      subst this;refine zA.mono fun ev w2 hh=>?_;refine⟨hh.1,none,0,0,[],rfl,World.ownsRow_nil _ _ _ _,by simp,?_,aA hg hh.2⟩;unfold aL;rw[← Kb];rfl
    · have JD:n'=L.length:=by simpa using hl
      refine(Ek (key:=Dg w') IX (DB IX (by decide) hL) (by simpa using hl) (by omega)).mono fun ev w2 hh=>?_;obtain⟨h1,h2,h3⟩:=hh;have HN:=kQ IX (by decide) h3;have hm:dk (Dg w') (L.map Prod.fst)=(dk (fun x=>x.2.1) L).map Prod.fst:=mY _ _ _ _ (fun y hy=>wX (hL y hy));have hs:aT (fun x:OA×bS=>x.2.1) (dk (fun x=>x.2.1) L) L:=iw L;rw[hm]at h2;refine⟨h1,_,n',c',dk (fun x=>x.2.1) L,rfl,?_,fun x hx=>(hL x (hs.mem hx)).keep HN,?_,?_⟩
      · have:=h2.ownsRow hb hc;simp only[List.length_map,hs.length,← JD]at this;exact this
      · have:=mY Prod.snd (Prod.fst:bS->Int) (fun x:OA×bS=>x.2.1) L (fun _ _=>rfl);rw[← this,Kb];rfl
      · exact aN hg h3 (by intro k hk;cases hk;exact hb)
theorem pN{L:List (OA×bS)}{i:Nat}(h:i<L.length):(lD L)[i]?=some (.pointer L[i].1):=by simp[lD,h]
theorem wO {w:World} {A B:OA} {n c m d:Nat} {C L:List (OA×bS)} (hA:aZ w A (lD C)) (hB:aZ w B (lD L)) (hn:n=C.length) (hm:m=L.length)
    (hC:∀ x∈C,Is w x) (hL:∀ x∈L,Is w x) (VS:n<=c) (G6:A=none->c=0) (Og:n<=2^30) (SE:m<=2^30) (hb:∀ x∈L,0<=x.2.1/\x.2.1<=2^60) :
    Calls P 153 #[.slice A n c,.slice B m d] w fun ev w'=>∃ (A':OA) (n' c':Nat) (O:List (OA×bS)),ev=.returned (.slice A' n' c')/\cP w' w.heap.size 218 A' n' c' (lD O)/\(∀ x∈O,Is w' x) ∧
      O.map Prod.snd=eL (C.map Prod.snd) (L.map Prod.snd)/\w.grownBy w' none:=by
  apply vc153;dsimp only[VC153,Br,Rd,Ix,Ap,iq]
  try simp only[aF]
  refine⟨fun ms A' n' c' k i w'=>∃ (kn j:Nat) (O:List (OA×bS)),k=(kn:Int)/\i=((2*j:Nat):Int)/\kn<=C.length/\2*j<=L.length/\O.length<=kn+j/\ms=L.length-2*j/\cP w' w.heap.size 218 A' n' c' (lD O)/\(∀ x∈O,Is w' x) ∧
      O.map Prod.snd++cR ((C.drop kn).map Prod.snd) (dh ((L.drop (2*j)).map Prod.snd))=eL (C.map Prod.snd) (L.map Prod.snd)/\w.grownBy w' none,
    ⟨_,0,0,[],rfl,rfl,by omega,by omega,by simp,rfl,World.ownsRow_nil _ _ _ _,by simp,by simp[eL],aC _ _⟩,?_⟩
  rintro ms A' n' c' k i w' ⟨kn,j,O,rfl,rfl,hk,hj,MA,rfl,ho,hO,GZ,hg⟩;refine⟨by omega,fun FE=>?_,fun FJ=>?_⟩
  · have l1 :2*j<L.length:=by omega
    have l2:2*j+1<L.length:=by omega
    -- the two items
    obtain⟨a,ea,ia⟩:=(hL _ (List.getElem_mem l1)).keep (dG hg);obtain⟨b,eb,ib⟩:=(hL _ (List.getElem_mem l2)).keep (dG hg);have ba:=hb _ (List.getElem_mem l1);have bb:=hb _ (List.getElem_mem l2);have F8:L.drop (2*j)=L[2*j] ::L[2*j+1] ::L.drop (2*(j+1)):=by
      rw[List.drop_eq_getElem_cons l1,List.drop_eq_getElem_cons l2];rfl
    obtain⟨r,Hm,HF⟩:=(hB.kept_none hg) _ _ (pN l1);obtain⟨r',NR,NQ⟩:=(hB.kept_none hg) _ _ (pN l2);obtain rfl:r'=r:=by rw[Hm]at NR;cases NR;rfl
    have t1:((2*j:Nat):Int).toNat=2*j:=by omega
    have t2:(((2*j:Nat):Int)+1).toNat=2*j+1:=by omega
    refine⟨r',Hm,by omega,by omega,L[2*j].1,by rw[t1];exact HF,a,ea,L[2*j].2.1,ia.count,by omega,r',Hm,by omega,by omega,L[2*j+1].1,by rw[t2];exact NQ,b,eb,L[2*j+1].2.1,ib.count,by omega,
      r',Hm,by omega,by omega,L[2*j].1,by rw[t1];exact HF,by omega,r',Hm,by omega,by omega,L[2*j+1].1,by rw[t2];exact NQ,?_⟩
    rw[ea,eb];generalize Mk:L[2*j].2=ca at *;generalize J3:L[2*j+1].2=cb at *;have gd:=aH (aC w' none);have sd:w'.drew.heap.size=w'.heap.size:=rfl;generalize w'.drew=wd at *;have g1:=World.grownBy_alloc wd (.cells #[.int .i64 (ca.1+cb.1),.int .i64 0,.pointer (some a),.pointer (some b)] 221) none;have b1:(wd.alloc (.cells #[.int .i64 (ca.1+cb.1),.int .i64 0,.pointer (some a),.pointer (some b)] 221)).heap[wd.heap.size]?=some (.cells #[.int .i64 (ca.1+cb.1),.int .i64 0,.pointer (some a),.pointer (some b)] 221):=heap_alloc_new wd _;generalize wd.alloc (.cells #[.int .i64 (ca.1+cb.1),.int .i64 0,.pointer (some a),.pointer (some b)] 221)=w1 at *;have kd1:cN w' w1:=(dG gd).trans (dG g1);have ip:fH w1 ⟨wd.heap.size,0,none⟩ (ca.1+cb.1) (ca.2++cb.2):=.pack b1 (ia.keep kd1) (ib.keep kd1);have HA:w.grownBy w1 none:=aA (aA hg gd) g1
    -- coins ahead of the package
    refine⟨fun ms A2 n2 c2 k2 w2=>∃ (kn:Nat) (O:List (OA×bS)),k2=(kn:Int)/\kn<=C.length/\O.length<=kn+j/\ms=C.length-kn/\cP w2 w.heap.size 218 A2 n2 c2 (lD O)/\(∀ x∈O,Is w2 x) ∧
        O.map Prod.snd++cR ((C.drop kn).map Prod.snd) ((ca.1+cb.1,ca.2++cb.2) ::dh ((L.drop (2*(j+1))).map Prod.snd))=eL (C.map Prod.snd) (L.map Prod.snd)/\w.grownBy w2 none/\cN w1 w2,
      ⟨_,kn,O,rfl,hk,by omega,rfl,(ho.kept gd).kept g1,fun x hx=>(hO x hx).keep kd1,?_,HA,cN.refl _⟩,?_⟩
    · rw[← GZ,F8];simp only[List.map_cons,dh,Mk,J3]
    clear GZ ho hO MA hk;rintro ms A2 n2 c2 k2 w2 ⟨kn,O,rfl,hk,MA,rfl,ho,hO,GZ,FN,HN⟩;have ip2:=ip.keep HN
    -- the package behind the coins
    have one:∀(u:OA),∃(A4:OA)(n4 c4:Nat),∃ w4:World,
        Sem.run P (Builtin.append_ #[216,216] 216 #[.slice A2 n2 c2,.slice (some ⟨w2.drew.heap.size,0,none⟩) 1 1]) (w2.drew.alloc (.cells #[.pointer u] 218))=.ok (.slice A4 n4 c4) w4 ∧
        cP w4 w.heap.size 218 A4 n4 c4 (lD O++[.pointer u])/\w.grownBy w4 none/\cN w2 w4:=by
      intro u;have g3:=aH (aC w2 none);have s3:w2.drew.heap.size=w2.heap.size:=rfl;generalize w2.drew=w3 at *;have g4:=World.grownBy_alloc w3 (.cells #[.pointer u] 218) none;have b4:(w3.alloc (.cells #[.pointer u] 218)).cell? ⟨w3.heap.size,0,none⟩=some (.pointer u):=by simp
      generalize w3.alloc (.cells #[.pointer u] 218)=w4 at *;have GJ:=(ho.kept g3).kept g4;obtain⟨A5,n5,c5,w5,h3,h4,h5⟩:=GJ.append1 (ty:=216) p9 (by omega) (cc:=1) b4 rfl (by rw[ho.cases.1];simp;omega) (Nat.le_trans FN.size (Nat.le_trans g3.size g4.size));exact⟨A5,n5,c5,w5,h3,h4,aN (aA (aA FN g3) g4) h5 GJ.block_ge,((dG g3).trans (dG g4)).trans (mW GJ (by decide) h5)⟩
    have last:(∀ ps,cR ((C.drop kn).map Prod.snd) ((ca.1+cb.1,ca.2++cb.2) ::ps)=(ca.1+cb.1,ca.2++cb.2) ::cR ((C.drop kn).map Prod.snd) ps)->∃(A4:OA)(n4 c4:Nat),∃ w4:World,
        Sem.run P (Builtin.append_ #[216,216] 216 #[.slice A2 n2 c2,.slice (some ⟨w2.drew.heap.size,0,none⟩) 1 1]) (w2.drew.alloc (.cells #[.pointer (some ⟨wd.heap.size,0,none⟩)] 218))=.ok (.slice A4 n4 c4) w4 ∧
        (-9223372036854775808<=((2*j:Nat):Int)+2/\((2*j:Nat):Int)+2<=9223372036854775807)/\∃ ms,ms<L.length-2*j/\∃ (kn' j':Nat) (O:List (OA×bS)),(kn:Int)=(kn':Int)/\((2*j:Nat):Int)+2=((2*j':Nat):Int)/\kn'<=C.length/\2*j'<=L.length/\O.length<=kn'+j'/\ms=L.length-2*j'/\cP w4 w.heap.size 218 A4 n4 c4 (lD O)/\(∀ x∈O,Is w4 x) ∧
      O.map Prod.snd++cR ((C.drop kn').map Prod.snd) (dh ((L.drop (2*j')).map Prod.snd))=eL (C.map Prod.snd) (L.map Prod.snd)/\w.grownBy w4 none:=by
      intro IY;obtain⟨A4,n4,c4,w4,h1,h2,h3,h4⟩:=one (some ⟨wd.heap.size,0,none⟩);refine⟨A4,n4,c4,w4,h1,by omega,L.length-2*(j+1),by omega,kn,j+1,O++[(some ⟨wd.heap.size,0,none⟩,(ca.1+cb.1,ca.2++cb.2))],rfl,by omega,hk,by omega,by simp;omega,rfl,by simpa[lD]using h2,?_,?_,h3⟩
      · intro x hx;rcases List.mem_append.1 hx with e | e
        · exact(hO x e).keep h4
        · have:x=(some ⟨wd.heap.size,0,none⟩,(ca.1+cb.1,ca.2++cb.2)):=by simpa using e
          subst this;exact⟨_,rfl,ip2.keep h4⟩
      · rw[← GZ,IY];simp
    refine⟨fun Gn=>?_,fun HV=>?_⟩
    · have l3:kn<C.length:=by omega
      obtain⟨e,ee,ie⟩:=(hC _ (List.getElem_mem l3)).keep (dG FN);obtain⟨q,MR,KB⟩:=(hA.kept_none FN) _ _ (pN l3);have Lr:(C.drop kn).map Prod.snd=C[kn].2 ::(C.drop (kn+1)).map Prod.snd:=by
        rw[List.drop_eq_getElem_cons l3];rfl
      refine⟨q,MR,by omega,by omega,C[kn].1,KB,e,ee,C[kn].2.1,ie.count,_,rfl,ca.1+cb.1,ip2.count,fun FW=>?_,fun GM=>?_⟩
      · refine⟨q,MR,by omega,by omega,C[kn].1,KB,?_⟩;obtain⟨A4,n4,c4,w4,h1,h2,h3,h4⟩:=one C[kn].1;refine⟨A4,n4,c4,w4,h1,by omega,C.length-(kn+1),by omega,kn+1,O++[C[kn]],by omega,by omega,by simp;omega,rfl,by simpa[lD]using h2,?_,?_,h3,HN.trans h4⟩
        · intro x hx;rcases List.mem_append.1 hx with e | e
          · exact(hO x e).keep h4
          · have:x=C[kn]:=by simpa using e
            subst this;exact((hC _ (List.getElem_mem l3)).keep (dG FN)).keep h4
        · rw[← GZ,Lr,kL FW];simp
      · refine last fun ps=>?_;rw[Lr];exact kM GM
    · have:kn=C.length:=by omega
      refine last fun ps=>?_;rw[this,List.drop_length];exact mU
  · -- the rest of the coins
    have HI:dh ((L.drop (2*j)).map Prod.snd)=[]:=by
      have:(L.drop (2*j)).length<=1:=by simp;omega
      match h:L.drop (2*j)with
      | []=>rfl
      | [x]=>simp[dh]
      | x ::y ::r=>rw[h]at this;simp at this
    rw[HI]at GZ;simp only[cR]at GZ;have fin:∀ w5,w'.grownBy w5 (Value.slice A' n' c').ownBlock->cN w' w5/\w.grownBy w5 none:=fun w5 h5=>⟨mW ho (by decide) h5,aN hg h5 ho.block_ge⟩;have kt:(kn:Int).toNat=kn:=by omega
    refine⟨by omega,?_⟩;rw[kt];cases A with
    | none =>
      have Gz:=G6 rfl;have WJ:C=[]:=List.eq_nil_of_length_eq_zero (by omega);subst WJ;obtain⟨i,e1,e2,_⟩:=p9.ex;have hr:=run_append_owned_none (P:=P) w' w.heap.size 216 216 218 i 1 e1 e2 _ _ _ ho;have KG:kn=0:=by simpa using hk
      subst KG;refine⟨A',n',c',w',?_,A',n',c',O,rfl,ho,hO,?_,hg⟩
      · have:(.slice (bB none c 0 1) (n-0) (c-0):Value)=.slice none 0 0:=by
          have:n=0:=by simpa using hn
          subst this;subst Gz;rfl
        rw[this];exact hr
      · rw[← GZ];simp
    | some a =>
      have Gm:∃ a',bB (some a) c kn 1=some a'/\∀ j u,(lD (C.drop kn))[j]?=some u->w'.cell? (a'.add j)=some u:=by
        by_cases GO:c=kn
        · refine⟨a,by simp[bB,GO],fun j u hj=>?_⟩;have:C.drop kn=[]:=List.drop_eq_nil_of_le (by omega);rw[this]at hj;simp at hj
        · refine⟨a.add kn,by simp[bB,GO],fun j u hj=>?_⟩;obtain⟨a2,h1,h2⟩:=((hA.kept_none hg).drop kn) j u (by simpa[lD]using hj);cases h1;exact h2
      obtain⟨a',FU,FP⟩:=Gm;obtain⟨A4,n4,c4,w4,h1,h2,h3⟩:=ho.appends (ty:=216) p9 (by omega) (cc:=c-kn) (m:=n-kn) (by simp;omega) FP (fun u hu=>by obtain⟨x,_,rfl⟩:=List.mem_map.1 hu;rfl) (by rw[ho.cases.1];simp;omega) hg.size;obtain⟨f1,f2⟩:=fin w4 h3;refine⟨A4,n4,c4,w4,by rw[FU];exact h1,A4,n4,c4,O++C.drop kn,rfl,by simpa[lD]using h2,?_,?_,f2⟩
      · intro x hx;rcases List.mem_append.1 hx with e | e
        · exact(hO x e).keep f1
        · exact((hC x (List.mem_of_mem_drop e)).keep (dG hg)).keep f1
      · rw[← GZ];simp
theorem kX{w:World}{k j:Nat}{cur:Array Value}{e:TypeId}{fr:Nat×Nat}(h:w.heap[k]?=some (.cells cur e fr)):w.cell? ((⟨k,0,none⟩:Addr).add j)=cur[j]?:=by
 rw[aP,World.cell?,h];rfl
theorem fH.pos{w:World}{a:Addr}{c:Int}{s:List Nat}(h:fH w a c s):0<s.length:=by
 induction h with
 | coin _=>simp
 | pack _ _ _ ih _=>simp;omega
theorem fH.single{w:World}{a:Addr}{c:Int}{t:List Nat}(h:fH w a c t){s:Nat}(ht:t=[s]):w.cell? (a.add 1)=some (.int .i64 (s:Int)):=by
 cases h with
 | coin h=>cases ht;rw[kX h];rfl
 | pack h i1 i2 =>
  have:=congrArg List.length ht;have:=i1.pos;have:=i2.pos;simp at *;omega
abbrev aS(xs:List Int):List Value:=xs.map (Value.int .i64)
theorem ET {w:World} {g cap:Nat} {a:Addr} {c:Int} {s:List Nat} (h:fH w a c s):∀ {w':World} {xs:List Int} {n:Nat} {B:Int},cN w w'->cV w' g 3 cap (aS xs)->n=xs.length->(∀ i∈s,i<n)->(∀ v∈xs,0<=v/\v<=B)->0<=B->B+s.length<=2^62 →
    Calls P 154 #[.pointer (some a),.slice (some ⟨g,0,none⟩) n cap] w' fun ev w2=>ev=.returned (.tuple #[])/\cV w2 g 3 cap (aS (eo s xs))/\w'.grownBy w2 (some g):=by
  induction h with
  | @coin k c s y hk =>
    intro w' xs n B HM ho hn hs hx hB Jx;have hb:=HM _ _ hk;apply vc154;dsimp only[VC154,rt,Wt,Br,Rd,Ix,cU,iq]
    try simp only[aF]
    have HE:s<xs.length:=by have:=hs s (by simp);omega
    have Gm:=ho.cell (j:=s) (u:=.int .i64 xs[s]) (by simp[HE]);have hv:=hx xs[s] (List.getElem_mem HE);have ts:(s:Int).toNat=s:=by omega
    refine⟨_,rfl,by omega,none,by rw[kX hb];rfl,fun _=>?_,fun h=>absurd rfl h⟩;refine⟨_,rfl,(s:Int),by rw[kX hb];rfl,_,rfl,by omega,by omega,xs[s],by rw[ts];exact Gm,by simp at Jx;omega,_,rfl,by omega,by omega,⟨_,by rw[ts];exact Gm⟩,ho.notFrozen (aK _ _),trivial,?_,bD (aC _ _) (aK _ _) _⟩;rw[ts];have:=ho.set (j:=s) (by simpa using HE) (.int .i64 (xs[s]+1));refine cast ?_ this;congr 1;simp[eo,qR,HE,List.map_set]
  | @pack k c1 c2 s1 s2 z p q hk h1 h2 ih1 ih2 =>
    intro w' xs n B HM ho hn hs hx hB Jx;have hb:=HM _ _ hk;simp only[List.length_append]at Jx;apply vc154;dsimp only[VC154,rt,Wt,Br,Rd,Ix,cU,iq]
    try simp only[aF]
    refine⟨_,rfl,by omega,some p,by rw[kX hb];rfl,fun h=>absurd h (by simp),fun _=>?_⟩;refine⟨_,rfl,some p,by rw[kX hb];rfl,some q,by rw[fp,kX hb];rfl,?_⟩;refine⟨fun m i w2=>w'.grownBy w2 (some g)/\((i=0/\m=2/\cV w2 g 3 cap (aS xs))∨(i=1/\m=1/\cV w2 g 3 cap (aS (eo s1 xs)))∨(i=2/\m=0/\cV w2 g 3 cap (aS (eo (s1++s2) xs)))),⟨2,aC _ _,.inl ⟨rfl,rfl,ho⟩⟩,?_⟩;rintro m i w2 ⟨hg,hi⟩;have HN:=HM.trans (kQ ho (by decide) hg);refine⟨fun FE=>⟨by omega,fun h0=>?_,fun h1=>?_,trivial⟩,fun FJ=>⟨trivial,?_,hg⟩⟩
    · subst h0;rcases hi with⟨_,rfl,Gt⟩ | ⟨h,_⟩ | ⟨h,_⟩
      · refine(ih1 HN Gt hn (fun i hi=>hs i (by simp[hi])) hx hB (by omega)).mono fun ev w3 hh=>?_;obtain⟨e1,e2,e3⟩:=hh;exact⟨e1,by omega,1,by omega,aA hg e3,.inr (.inl ⟨rfl,rfl,e2⟩)⟩
      · omega
      · omega
    · subst h1;rcases hi with⟨h,_⟩ | ⟨_,rfl,Gt⟩ | ⟨h,_⟩
      · omega
      · refine(ih2 HN Gt (by rw[dB];exact hn) (fun i hi=>hs i (by simp[hi])) (gx s1 hx hB) (by omega) (by omega)).mono fun ev w3 hh=>?_;obtain⟨e1,e2,e3⟩:=hh;exact⟨e1,by omega,0,by omega,aA hg e3,.inr (.inr ⟨rfl,rfl,by rw[gU];exact e2⟩)⟩
      · omega
    · rcases hi with⟨h,_⟩ | ⟨h,_⟩ | ⟨_,_,Gt⟩
      · omega
      · omega
      · exact Gt
def Fine(N:Nat)(k:Nat)(x:bS):Prop:=0<x.1/\x.1<=1099511627776*2^k/\x.2.length<=2^k/\∀ s∈x.2,s<N
theorem pY(xs:List Int):∀ k,∀ x∈i7 (aL xs) k,Fine xs.length k x:=by
 apply wV
 ·rintro k a b ⟨a1,a2,a3,a4⟩ ⟨b1,b2,b3,b4⟩;have hp:0<2^k:=Nat.two_pow_pos k;refine⟨by show 0<a.1+b.1;omega,?_,?_,?_⟩
  ·show a.1+b.1<=_;rw[Int.pow_succ];omega
  ·show(a.2++b.2).length<=_;rw[List.length_append,Nat.pow_succ];omega
  ·intro s hs;rcases List.mem_append.1 hs with e | e
   ·exact a4 s e
   ·exact b4 s e
 ·intro k x hx;obtain⟨h1,h2,s,h3,h4⟩:=jP hx;have hp:0<2^k:=Nat.two_pow_pos k;have Jk:(1:Int)<=2^k:=by have:((2^k:Nat):Int)=2^k:=(by simp);omega
  refine⟨h1,?_,by rw[h3];simp;omega,by rw[h3];simpa using h4⟩;have:(1099511627776:Int)*1<=1099511627776*2^k:=Int.mul_le_mul_of_nonneg_left Jk (by omega);omega
theorem qF(first:List bS):∀ k,(i7 first k).length<=2*first.length
 | 0=>by simp[i7];omega
 | k+1=>by
  have:=qF first k
  simp only[i7,eL,fw,fQ];omega
theorem yi(most:Int):mn (mx most 1) 15=(cv most:Int)/\1<=cv most/\cv most<=15:=by
 unfold cv mx mn;split <;>split <;>omega
theorem vi {w : World} {A:OA} {n c:Nat} {xs:List Int} {most:Int} (Gm:aZ w A (aS xs)) (hn:n=xs.length) :
    Calls P 110 #[.slice A n c,.int .i64 most] w fun ev w'=>∃(A':OA)(n' c':Nat),ev=.returned (.slice A' n' c')/\cP w' w.heap.size 3 A' n' c' (aS (dv xs most))/\w.grownBy w' none:=by
  apply vc110;dsimp only[VC110,Wt,Br,Rd,Ix,cS,cU,iq];obtain⟨hm,Oo,L2⟩:=yi most;rw[hm];simp only[aF];have tn:(cv most:Int).toNat=cv most:=by omega
  have Ha:min (cv most) 64=cv most:=by omega
  rw[tn,Ha];have Qp:2^cv most<=2^15:=Nat.pow_le_pow_right (by omega) L2;obtain⟨q,hq⟩:∃ q,q=2^cv most:=⟨_,rfl⟩;have J4:(1:Int)*2^cv most=(q:Int):=by rw[hq];simp
  rw[J4];refine⟨fun h=>⟨none,0,0,rfl,?_,aC _ _⟩,fun h=>?_⟩
  · have:dv xs most=[]:=by unfold dv;rw[if_pos (by omega)]
    rw[this];exact World.ownsRow_nil _ _ _ _
  · have H0 : xs.length<=256:=by omega
    refine(yV Gm hn (by omega)).mono fun ev w1 hh=>?_;obtain⟨A1,n1,c1,L,rfl,ho,hL,Kb,hg⟩:=hh;have HU:n1=(aL xs).length:=by rw[ho.cases.1,← Kb];simp
    have XU:L.length=(aL xs).length:=by rw[← Kb];simp
    refine⟨A1,n1,c1,rfl,by omega,fun h2=>?_,fun h2=>?_⟩
    · refine⟨none,0,0,rfl,?_,hg⟩;have:dv xs most=[]:=by unfold dv;rw[if_neg (by omega),if_pos (by omega)]
      rw[this];exact World.ownsRow_nil _ _ _ _
    · have Hh : dv xs most=eo (bU xs (cv most)) (List.replicate xs.length 0):=by unfold dv;rw[if_neg (by omega),if_neg (by omega)]
      obtain⟨w2,hr,FF,FN⟩:=il (P:=P) (w:=w1) iD (by omega) (m:=n) (by omega);refine⟨_,_,_,w2,hr,?_⟩;have FF:cV w2 w1.heap.size 3 n (aS (List.replicate xs.length 0)):=by
        simpa[aS,hn]using FF
      have fin:∀ w3 ys,ys=dv xs most->cV w3 w1.heap.size 3 n (aS ys)->w2.grownBy w3 (some w1.heap.size)->∃(A':OA)(n' c':Nat),Ending.returned (.slice (some ⟨w1.heap.size,0,none⟩) n n)=.returned (.slice A' n' c')/\cP w3 w.heap.size 3 A' n' c' (aS (dv xs most))/\w.grownBy w3 none:=by
        intro w3 ys IK h3 h4;subst IK;have h5:=h3.ownsRow hg.size (by simp only[maxLen];omega);have:(aS (dv xs most)).length=n:=by rw[Hh];simp[aS,dB,hn]
        rw[this]at h5;exact⟨_,_,_,rfl,h5,aN (aA hg FN) h4 (by intro k hk;cases hk;exact hg.size)⟩
      have RK:∀ x∈L,Is w2 x:=fun x hx=>(hL x hx).keep (dG FN);have Gt:=ho.kept FN;refine⟨fun h1=>?_,fun h1=>?_⟩
      · -- one symbol
        obtain⟨x,rfl⟩:∃ x,L=[x]:=List.length_eq_one_iff.1 (by omega);obtain⟨a,h3,h4⟩:=Gt.row 0 (.pointer x.1) (by simp[lD]);have We:a.add 0=a:=by simp[Addr.add]
        rw[We]at h4;have IB:aL xs=[x.2]:=by rw[← Kb];rfl
        obtain⟨_,_,s,GS,GR⟩:=jP (xs:=xs) (x:=x.2) (by rw[IB];simp);obtain⟨b,Hc,FX⟩:=RK x (by simp);have HJ:=FX.single GS;have ts:(s:Int).toNat=s:=by omega
        have FK:=FF.cell (j:=s) (u:=.int .i64 0) (by simp[aS,GR]);refine⟨a,h3,by omega,by omega,x.1,h4,b,Hc,(s:Int),HJ,_,rfl,by omega,by omega,⟨_,by rw[ts];exact FK⟩,FF.notFrozen (aK _ _),?_⟩;rw[ts];have Gh:=FF.set (j:=s) (by simpa[aS]using GR) (.int .i64 1);refine fin _ ((List.replicate xs.length 0).set s 1) ?_ ?_ (bD (aC _ _) (aK _ _) _)
        · rw[Hh];have:bU xs (cv most)=[s]:=by unfold bU;rw[IB];simp[GS]
          rw[this];simp[eo,qR,GR]
        · simpa[aS,List.map_set]using Gh
      · refine⟨by omega,?_⟩
        -- list after list
        refine⟨fun ms lA ln lc i w3=>∃ (k:Nat) (O:List (OA×bS)),i=(k:Int)/\k<=cv most-1/\ms=cv most-1-k/\cP w3 w.heap.size 218 lA ln lc (lD O)/\(∀ x∈O,Is w3 x)/\O.map Prod.snd=i7 (aL xs) k/\w2.grownBy w3 none,
          ⟨_,0,L,rfl,by omega,rfl,Gt,RK,Kb,aC _ _⟩,?_⟩
        rintro ms lA ln lc i w3 ⟨k,O,rfl,hk,rfl,Gj,hO,Kr,Gb⟩;have MA:O.length=(i7 (aL xs) k).length:=by rw[← Kr];simp
        have HK:=qF (aL xs) k;have Hk:=gj xs;have QF:ln=O.length:=by rw[Gj.cases.1];simp
        refine⟨fun FE=>?_,fun FJ=>?_⟩
        · have Ja:∀ x∈O,0<=x.2.1/\x.2.1<=2^60:=by
            intro x hx;have h:=pY xs k x.2 (by rw[← Kr];exact List.mem_map_of_mem hx);have hp:(2:Int)^k<=2^15:=by
              have:=Nat.pow_le_pow_right (n:=2) (by omega) (show k<=15 by omega);have e1:((2^k:Nat):Int)=2^k:=by simp
              have e2:((2^15:Nat):Int)=2^15:=by simp
              omega
            have h2:=h.2.1;exact⟨by have:=h.1;omega,by omega⟩
          have G6:A1=none->c1=0/\n1=0:=by
            intro e;rcases ho.cases.2 with⟨_,h,h',_⟩ | ⟨g,h,_⟩
            · exact⟨h',h⟩
            · rw[e]at h;cases h
          have HX:n1<=c1:=by
            rcases ho.cases.2 with⟨_,h,h',_⟩ | ⟨g,_,_,_,h,_⟩
            · omega
            · exact h
          refine(wO (C:=L) (L:=O) ((Gt.kept Gb).row) Gj.row (by omega) QF (fun x hx=>(RK x hx).keep (dG Gb)) hO HX (fun e=>(G6 e).1) (by omega) (by omega) Ja).mono fun ev w4 hh=>?_;obtain⟨A4,n4,c4,O4,rfl,q1,q2,q3,q4⟩:=hh;have Hl:w.heap.size<=w3.heap.size:=Nat.le_trans hg.size (Nat.le_trans FN.size Gb.size);refine⟨A4,n4,c4,rfl,by omega,cv most-1-(k+1),by omega,k+1,O4,by omega,by omega,rfl,cP.mono q1 Hl,q2,?_,aA Gb q4⟩;rw[q3,Kb,Kr];rfl
        · have Gc:k=cv most-1:=by omega
          have JU:=ui Oo (first:=aL xs) (by omega);rw[← Gc]at JU;have Ve:ln<=lc:=by
            rcases Gj.cases.2 with⟨_,h,h',_⟩ | ⟨g,_,_,_,h,_⟩
            · omega
            · exact h
          have Qz:mx (2*(n1:Int)-2) 0=((2*(aL xs).length-2:Nat):Int):=by unfold mx;split <;>omega
          rw[Qz];have tm:(((2*(aL xs).length-2:Nat):Int)).toNat=2*(aL xs).length-2:=by omega
          rw[tm];refine⟨by omega,by omega,by omega,?_⟩;have HW:bU xs (cv most)=((i7 (aL xs) k).take (2*(aL xs).length-2)).flatMap Prod.snd:=by
            unfold bU;rw[if_neg (by omega),Gc]
          refine⟨fun ms i w4=>∃(j:Nat)(ys:List Int),i=(j:Int)/\j<=2*(aL xs).length-2/\ms=2*(aL xs).length-2-j/\ys=eo (((i7 (aL xs) k).take j).flatMap Prod.snd) (List.replicate xs.length 0)/\(∀ v∈ys,0<=v/\v<=2^15*(j:Int)) ∧
              cV w4 w1.heap.size 3 n (aS ys)/\w2.grownBy w4 (some w1.heap.size)/\w3.grownBy w4 (some w1.heap.size),
            ⟨_,0,List.replicate xs.length 0,rfl,by omega,rfl,by simp[eo],by simp,FF.kept Gb (by simp),bF Gb,aC _ _⟩,?_⟩
          rintro ms i w4 ⟨j,ys,rfl,hj,rfl,IK,Kz,GJ,FS,Mf⟩;have Sc:ys.length=n:=by rw[IK,dB];simp[hn]
          have Ob:cV w3 w1.heap.size 3 n (aS (List.replicate xs.length 0)):=FF.kept Gb (by simp);have HM:=kQ Ob (by decide) Mf;refine⟨fun FE=>?_,fun HV=>?_⟩
          · have Mb:j<O.length:=by omega
            -- the row of items is another block than the lengths
            have LO:aZ w4 lA (lD O):=by
              refine aZ.kept Gj.row Mf ?_;intro a ha e;rcases Gj.cases.2 with⟨h,_⟩ | ⟨g,h,_,_,_,PB⟩
              · rw[ha]at h;cases h
              · rw[ha]at h;cases h;simp only[Option.some.injEq]at e;subst e;obtain⟨cur,e1,_⟩:=PB;obtain⟨cur',e2,_⟩:=Ob;rw[e1]at e2;cases e2
            obtain⟨a,h3,h4⟩:=LO j _ (pN Mb);obtain⟨b,Hc,FX⟩:=hO _ (List.getElem_mem Mb);have Gf:O[j].2∈i7 (aL xs) k:=by rw[← Kr];exact List.mem_map_of_mem (List.getElem_mem Mb)
            obtain⟨f1,f2,f3,f4⟩:=pY xs k _ Gf;have Hx:2^k<=2^15:=Nat.pow_le_pow_right (by omega) (by omega);refine⟨a,h3,by omega,by omega,O[j].1,h4,?_⟩;rw[Hc];refine(ET FX HM GJ (by omega) (fun i hi=>by have:=f4 i hi;omega) Kz (by omega) (by omega)).mono fun ev w5 hh=>?_;obtain⟨e1,e2,e3⟩:=hh;refine⟨e1,by omega,2*(aL xs).length-2-(j+1),by omega,j+1,eo O[j].2.2 ys,by omega,by omega,rfl,?_,?_,e2,aA FS e3,aA Mf e3⟩
            · have Gq:j<(i7 (aL xs) k).length:=by omega
              have:(i7 (aL xs) k)[j]=O[j].2:=by simp[← Kr]
              rw[IK,List.take_succ_eq_append_getElem Gq,List.flatMap_append,gU,this];simp
            · intro v hv;have:=gx O[j].2.2 Kz (by omega) v hv;omega
          · have GL:j=2*(aL xs).length-2:=by omega
            refine fin w4 ys ?_ GJ FS;rw[IK,Hh,HW,GL]
theorem de(w:World)(cs:Array Value)(t:TypeId):aZ (w.alloc (.cells cs t)) (some ⟨w.heap.size,0,none⟩) cs.toList:=by
 intro j u hj;refine⟨_,rfl,?_⟩;rw[aP,World.cell?_alloc_new];simpa using hj
theorem lO(x:Int):0<=ey x/\ey x<=2^14:=by
 unfold ey;split
 ·have h:(15-x).toNat<=14:=by omega
  have h1:=Nat.pow_le_pow_right (n:=2) (by omega) h;obtain⟨q,hq⟩:∃ q:Nat,q=2^(15-x).toNat:=⟨_,rfl⟩;have e1:(2:Int)^(15-x).toNat=(q:Int):=by rw[hq];simp
  rw[e1];omega
 ·omega
theorem kP(xs:List Int):0<=d9 xs/\d9 xs<=2^14*xs.length:=by
 induction xs with
 | nil=>simp[d9]
 | cons x xs ih =>
  have:=lO x;simp only[d9,List.map_cons,List.sum_cons,List.length_cons]at *;omega
theorem rG{w:World}{A:OA}{n c:Nat}{xs:List Int}(hA:aZ w A (aS xs))(hn:n=xs.length)(hb:n<=2^40):
    Calls P 181 #[.slice A n c] w fun ev w'=>ev=.returned (.int .i64 (d9 xs))/\w.grownBy w' none:=by
  apply vc181;dsimp only[VC181,Br,Rd,Ix,iq]
  try simp only[aF]
  refine⟨fun ms s i w'=>∃ k:Nat,i=(k:Int)/\k<=xs.length/\ms=xs.length-k/\s=d9 (xs.take k)/\w.grownBy w' none,⟨_,0,rfl,by omega,rfl,by simp[d9],aC _ _⟩,?_⟩;rintro ms s i w' ⟨k,rfl,hk,rfl,rfl,hg⟩;refine⟨fun FE=>?_,fun FJ=>?_⟩
  · have l1:k<xs.length:=by omega
    obtain⟨a,FU,FP⟩:=(hA.kept_none hg) k (.int .i64 xs[k]) (by simp[aS,l1]);have hs:d9 (xs.take (k+1))=d9 (xs.take k)+ey xs[k]:=by
      rw[List.take_succ_eq_append_getElem l1];simp only[d9,List.map_append,List.sum_append,List.map_cons,List.map_nil,List.sum_cons,List.sum_nil];omega
    have b1:=kP (xs.take k);have hl:(xs.take k).length=k:=by simp;omega
    rw[hl]at b1;refine⟨a,FU,by omega,by omega,xs[k],FP,fun h1=>⟨fun h2=>?_,fun h2=>?_⟩,fun h1=>?_⟩
    · have hv:ey xs[k]=2^(15-xs[k]).toNat:=by unfold ey;rw[if_pos ⟨by omega,h2⟩]
      have hm:min (15-xs[k]).toNat 64=(15-xs[k]).toNat:=by omega
      have b2:=lO xs[k];rw[hm,Int.one_mul,← hv];exact⟨by omega,by omega,by omega,by omega,xs.length-(k+1),by omega,k+1,by omega,by omega,rfl,hs.symm,hg⟩
    · have hv:ey xs[k]=0:=by unfold ey;rw[if_neg (by omega)]
      exact⟨by omega,xs.length-(k+1),by omega,k+1,by omega,by omega,rfl,by rw[hs,hv];omega,hg⟩
    · have hv:ey xs[k]=0:=by unfold ey;rw[if_neg (by omega)]
      exact⟨by omega,xs.length-(k+1),by omega,k+1,by omega,by omega,rfl,by rw[hs,hv];omega,hg⟩
  · have:k=xs.length:=by omega
    subst this;rw[List.take_length];exact⟨rfl,hg⟩
theorem AM{w:World}{base:Nat}{A:OA}{n c:Nat}{xs:List Int}{x:Int}(ho:cP w base 3 A n c (aS xs))(hn:n<=2^30)(hb:base<=w.heap.size):
    ∃ (A':OA) (n' c':Nat) (w':World),Sem.run P (Builtin.append_ #[33,33] 33 #[.slice A n c,.slice (some ⟨w.heap.size,0,none⟩) 1 1]) (w.alloc (.cells #[.int .i64 x] 3))=.ok (.slice A' n' c') w' ∧
      cP w' base 3 A' n' c' (aS (xs++[x]))/\w.grownBy w' (Value.slice A n c).ownBlock:=by
  have g:=World.grownBy_alloc w (.cells #[.int .i64 x] 3) none;have b:(w.alloc (.cells #[.int .i64 x] 3)).cell? ⟨w.heap.size,0,none⟩=some (.int .i64 x):=by simp
  obtain⟨A',n',c',w',h1,h2,h3⟩:=(ho.kept g).append1 (ty:=33) iD (by omega) (cc:=1) b rfl (by omega) (Nat.le_trans hb g.size);exact⟨A',n',c',w',h1,by simpa[aS]using h2,aA (bF g) h3⟩
def cnt5(x:Int):List Int:=[x,x % 3,(x % 2)*1000,2^(x % 40).toNat,x*x]
def Fw(k x:Int):Int:=(cnt5 x).getD ((k+x % 7) % 5).toNat 0
theorem yZ{n:Int}{w:World}{R:Ending->World->Prop}(h:R (.returned (.int .i64 (cO n))) w):Calls P 159 #[.int .i64 n] w R:=vc159 n w R h
theorem mN{w:World}{A:OA}{n c:Nat}{xs:List Int}(hA:aZ w A (aS xs))(hn:n=xs.length)(hb:n<=2^40):
    Calls P 125 #[.slice A n c] w fun ev w'=>ev=.returned (.int .i64 (d9 xs))/\w.grownBy w' none:=by
  apply vc125;dsimp only[VC125,Br,Rd,Ix,iq]
  try simp only[aF]
  refine⟨fun ms s i w'=>∃ k:Nat,i=(k:Int)/\k<=xs.length/\ms=xs.length-k/\s=d9 (xs.take k)/\w.grownBy w' none,⟨_,0,rfl,by omega,rfl,by simp[d9],aC _ _⟩,?_⟩;rintro ms s i w' ⟨k,rfl,hk,rfl,rfl,hg⟩;refine⟨fun FE=>?_,fun FJ=>?_⟩
  · have l1:k<xs.length:=by omega
    obtain⟨a,FU,FP⟩:=(hA.kept_none hg) k (.int .i64 xs[k]) (by simp[aS,l1]);have hs:d9 (xs.take (k+1))=d9 (xs.take k)+ey xs[k]:=by
      rw[List.take_succ_eq_append_getElem l1];simp only[d9,List.map_append,List.sum_append,List.map_cons,List.map_nil,List.sum_cons,List.sum_nil];omega
    have b1:=kP (xs.take k);have hl:(xs.take k).length=k:=by simp;omega
    rw[hl]at b1;refine⟨a,FU,by omega,by omega,xs[k],FP,fun h1=>⟨a,FU,by omega,by omega,xs[k],FP,fun h2=>?_,fun h2=>?_⟩,fun h1=>?_⟩
    · have hv:ey xs[k]=2^(15-xs[k]).toNat:=by unfold ey;rw[if_pos ⟨by omega,h2⟩]
      have hm:min (15-xs[k]).toNat 64=(15-xs[k]).toNat:=by omega
      have b2:=lO xs[k];exact⟨a,FU,by omega,by omega,xs[k],FP,by rw[hm,Int.one_mul,← hv];exact⟨by omega,by omega,by omega,by omega,xs.length-(k+1),by omega,k+1,by omega,by omega,rfl,hs.symm,hg⟩⟩
    · have hv:ey xs[k]=0:=by unfold ey;rw[if_neg (by omega)]
      exact⟨by omega,xs.length-(k+1),by omega,k+1,by omega,by omega,rfl,by rw[hs,hv];omega,hg⟩
    · have hv:ey xs[k]=0:=by unfold ey;rw[if_neg (by omega)]
      exact⟨by omega,xs.length-(k+1),by omega,k+1,by omega,by omega,rfl,by rw[hs,hv];omega,hg⟩
  · have:k=xs.length:=by omega
    subst this;rw[List.take_length];exact⟨rfl,hg⟩
theorem qa:oq P 229 232 2 (P.bytesOf 232):=⟨(P.info? 232).getD default,((P.info? 232).getD default).zero.getD undef,by kernel_rfl,by kernel_rfl,by kernel_rfl,by kernel_rfl,by kernel_rfl,by kernel_rfl,by omega⟩
theorem qQ:P.bytesOf 232<=64:=of_decide_eq_true (by kernel_rfl)
structure RC where
 count:Int
 A:OA
 n:Nat
 c:Nat
 syms:List Nat
def i6(r:RC):List Value:=[.int .i64 r.count,.slice r.A r.n r.c]
def ic(L:List RC):List Value:=L.flatMap i6
def cG(r:RC):bS:=(r.count,r.syms)
theorem tM(L:List RC):(ic L).length=L.length*2:=by
 induction L with
 | nil=>rfl
 | cons r L ih =>
  have:ic (r ::L)=i6 r++ic L:=rfl;rw[this,List.length_append,ih];simp[i6];omega
theorem oJ(L M:List RC):ic (L++M)=ic L++ic M:=by simp[ic]
theorem Be:∀ {L:List RC} {i:Nat} (h:i<L.length),(ic L)[i*2]?=some (.int .i64 L[i].count)/\(ic L)[i*2+1]?=some (.slice L[i].A L[i].n L[i].c)
 | r ::L,0,h=>by simp[ic,i6]
 | r ::L,i+1,h=>by
  have ih:=Be (L:=L) (i:=i) (by simpa using h);have e:ic (r ::L)=.int .i64 r.count ::.slice r.A r.n r.c ::ic L:=rfl;rw[e,show(i+1)*2=(i*2+1)+1 by omega];simpa using ih
theorem xY(L:List RC)(k:Nat):(ic L).drop (k*2)=ic (L.drop k):=by
 induction L generalizing k with
 | nil=>simp[ic]
 | cons r L ih =>
  cases k with
  | zero=>simp
  | succ k =>
   have e:ic (r ::L)=.int .i64 r.count ::.slice r.A r.n r.c ::ic L:=rfl;rw[e,show(k+1)*2=(k*2+1)+1 by omega];simpa using ih k
theorem C0(L:List RC)(k:Nat):(ic L).take (k*2)=ic (L.take k):=by
 induction L generalizing k with
 | nil=>simp[ic]
 | cons r L ih =>
  cases k with
  | zero=>simp[ic]
  | succ k =>
   have e:ic (r ::L)=.int .i64 r.count ::.slice r.A r.n r.c ::ic L:=rfl;have e2:ic (r ::L.take k)=.int .i64 r.count ::.slice r.A r.n r.c ::ic (L.take k):=rfl;rw[e,show(k+1)*2=(k*2+1)+1 by omega,List.take_succ_cons,List.take_succ_cons,ih k,List.take_succ_cons,e2]
abbrev mS(s:List Nat):List Value:=s.map fun x:Nat=>Value.int .i64 (x:Int)
def dX(w:World)(G:Option Nat)(r:RC):Prop :=
 aZ w r.A (mS r.syms)/\r.n=r.syms.length/\0<r.n/\∀ a,r.A=some a->some a.block≠G/\∃(cur:Array Value)(fr:Nat×Nat),w.heap[a.block]?=some (.cells cur 3 fr)
theorem dX.keep{w w':World}{G:Option Nat}{r:RC}{q:Option Nat}(h:dX w G r)(hg:w.grownBy w' q)(hq:∀ g,q=some g->some g=G∨∃(cur:Array Value)(e:TypeId)(fr:Nat×Nat),w.heap[g]?=some (.cells cur e fr)/\e≠3):dX w' G r:=by
 obtain⟨h1,h2,h3,h4⟩:=h;have FG:∀ a,r.A=some a->some a.block≠q:=by
  intro a ha e;obtain⟨h5,cur,fr,h6⟩:=h4 a ha;rcases hq a.block e.symm with h | ⟨cur',e',fr',h7,h8⟩
  ·exact h5 h
  ·rw[h6]at h7;cases h7;exact h8 rfl
 refine⟨h1.kept hg FG,h2,h3,fun a ha=>?_⟩;obtain⟨h5,cur,fr,h6⟩:=h4 a ha;exact⟨h5,cur,fr,by rw[hg.block a.block (Array.getElem?_eq_some_iff.1 h6).1 (FG a ha)];exact h6⟩
theorem dX.keep_none{w w':World}{G:Option Nat}{r:RC}(h:dX w G r)(hg:w.grownBy w' none):dX w' G r:=h.keep hg (by simp)
theorem dX.fresh{w:World}{G:Option Nat}{base n c:Nat}{A:OA}{s:List Nat}(ho:aE w base 3 1 A n c (mS s))(hs:0<s.length)(hG:∀ g,G=some g->g<base)(k:Int):dX w G ⟨k,A,n,c,s⟩:=by
 obtain⟨h1,h2 | ⟨g,cur,rfl,hb,_,_,hh,_⟩⟩:=ho.cases
 ·obtain⟨rfl,rfl,_,h⟩:=h2;have:s=[]:=by simpa using h
  subst this;simp at hs
 ·have hn:n=s.length:=by simpa using h1.symm
  refine⟨ho.row,hn,by show 0<n;omega,fun a ha=>?_⟩;cases ha;refine⟨fun e=>?_,cur,(0,0),hh⟩;have:=hG g e.symm;omega
theorem Dt:oq P 33 3 1 8:=⟨(P.info? 3).getD default,.int .i64 0,by kernel_rfl,by kernel_rfl,by kernel_rfl,by kernel_rfl,by kernel_rfl,by kernel_rfl,by omega⟩
theorem qY{w:World}{base n c m d:Nat}{A B:OA}{s t:List Nat}(ho:aE w base 3 1 A n c (mS s))(hB:aZ w B (mS t))(hm:m=t.length)(ht:0<m)(hn:n+m<=2^40)(hb:base<=w.heap.size):
    ∃(A':OA)(n' c':Nat)(w':World),Sem.run P (Builtin.append_ #[33,33] 33 #[.slice A n c,.slice B m d]) w=.ok (.slice A' n' c') w'/\aE w' base 3 1 A' n' c' (mS (s++t))/\n'=n+m/\w.grownBy w' (Value.slice A n c).ownBlock:=by
  cases t with
  | nil=>simp at hm;omega
  | cons x t =>
    obtain⟨a,rfl,_⟩:=hB 0 (.int .i64 (x:Int)) (by simp[mS]);obtain⟨A',n',c',w',h1,h2,h3,h4,_⟩:=ho.appends (ty:=33) Dt (by omega) (a:=a) (m:=m) (cc:=d) (us:=mS (x ::t)) (by simp[mS,hm]) (fun j u hj=>by obtain⟨b,e1,e2⟩:=hB j u hj;cases e1;exact e2) (fun u hu=>by obtain⟨y,_,rfl⟩:=List.mem_map.1 hu;rfl) hn hb;exact⟨A',n',c',w',h1,by simpa[mS]using h2,h3,h4⟩
theorem yW{w:World}{base n c:Nat}{A:OA}{L:List RC}{r:RC}(ho:aE w base 232 2 A n c (ic L))(hn:n<=2^30)(hb:base<=w.heap.size):
    ∃ (A':OA) (n' c':Nat) (w':World),Sem.run P (Builtin.append_ #[229,229] 229 #[.slice A n c,.slice (some ⟨w.heap.size,0,none⟩) 1 1]) (w.alloc (.cells #[.int .i64 r.count,.slice r.A r.n r.c] 232))=.ok (.slice A' n' c') w' ∧
      aE w' base 232 2 A' n' c' (ic (L++[r]))/\n'=n+1/\w.grownBy w' (Value.slice A n c).ownBlock ∧
      ((Value.slice A' n' c').ownBlock=(Value.slice A n c).ownBlock∨∃ g,(Value.slice A' n' c').ownBlock=some g/\w.heap.size<=g):=by
  have g:=World.grownBy_alloc w (.cells #[.int .i64 r.count,.slice r.A r.n r.c] 232) none;have hr:=de w #[.int .i64 r.count,.slice r.A r.n r.c] 232;obtain⟨A',n',c',w',h1,h2,h3,h4,h5⟩:=(ho.kept g).appends (ty:=229) qa qQ (a:=⟨w.heap.size,0,none⟩) (m:=1) (cc:=1) (us:=i6 r) rfl (fun j u hj=>by obtain⟨b,e1,e2⟩:=hr j u hj;cases e1;exact e2) (fun u hu=>by simp[i6]at hu;rcases hu with rfl | rfl <;>rfl) (by omega) (Nat.le_trans hb g.size);exact⟨A',n',c',w',h1,by rw[oJ];simpa[ic]using h2,h3,aA (bF g) h4,h5.imp id fun h=>⟨_,h,g.size⟩⟩
theorem yp{w:World}{g:Nat}{x y:Value}{u v:Value}(h:w.heap[g]?=some (.cells #[x,y] 232 (0,0))):
    (∃ z,w.cell? ⟨g,0,none⟩=some z)/\w.frozen? ⟨g,0,none⟩=false/\(∃ z,(w.setCell ⟨g,0,none⟩ u).cell? ⟨g,1,none⟩=some z)/\(w.setCell ⟨g,0,none⟩ u).frozen? ⟨g,1,none⟩=false ∧
    ((w.setCell ⟨g,0,none⟩ u).setCell ⟨g,1,none⟩ v).heap[g]?=some (.cells #[u,v] 232 (0,0))/\w.grownBy ((w.setCell ⟨g,0,none⟩ u).setCell ⟨g,1,none⟩ v) (some g):=by
  have h1:(w.setCell ⟨g,0,none⟩ u).heap[g]?=some (.cells #[u,y] 232 (0,0)):=by simp[World.setCell,Array.getElem?_modify,h]
  refine⟨⟨x,by simp[World.cell?,h]⟩,by simp[World.frozen?,h],⟨y,by simp[World.cell?,h1]⟩,by simp[World.frozen?,h1],?_,?_⟩
  · simp only[World.setCell]at h1 ⊢;simp[Array.getElem?_modify,h]
  · exact bD (g:=g) (p:=⟨g,1,none⟩) (bD (g:=g) (p:=⟨g,0,none⟩) (aC _ _) rfl _) rfl _
theorem oI{w:World}{A:OA}{L:List RC}(h:aZ w A (ic L)){i:Nat}(hi:i<L.length):∃ a,A=some a/\w.cell? (a.add (i*2))=some (.int .i64 L[i].count)/\w.cell? ((a.add (i*2)).add 1)=some (.slice L[i].A L[i].n L[i].c):=by
 obtain⟨h1,h2⟩:=Be hi;obtain⟨a,e1,e2⟩:=h _ _ h1;obtain⟨b,e3,e4⟩:=h _ _ h2;rw[e1]at e3;cases e3;exact⟨a,e1,e2,by rw[fp];exact e4⟩
theorem wR {w:World} {G:Option Nat} {A B:OA} {n c m d:Nat} {C L:List RC} (hA:aZ w A (ic C)) (hB:aZ w B (ic L)) (hn:n=C.length) (hm:m=L.length)
    (hC:∀ x∈C,dX w G x) (hL:∀ x∈L,dX w G x) (hG:∀ g,G=some g->g<w.heap.size) (VS:n<=c) (Og:n<=2^20) (SE:m<=2^20) (hb:∀ x∈L,0<=x.count/\x.count<=2^60/\x.syms.length<=2^30) (JT:0<n) :
    Calls P 160 #[.slice A n c,.slice B m d] w fun ev w'=>∃(A':OA)(n' c':Nat)(O:List RC),ev=.returned (.slice A' n' c')/\aE w' w.heap.size 232 2 A' n' c' (ic O)/\n'=O.length/\(∀ x∈O,dX w' G x) ∧
      O.map cG=eL (C.map cG) (L.map cG)/\w.grownBy w' none:=by
  apply vc160;dsimp only[VC160,Wt,Br,Rd,Rc,Rs,Ix,Ap,Ws,nb,ad,al,iq]
  try simp only[aF]
  refine⟨fun ms A' n' c' k i w'=>∃(kn j:Nat)(O:List RC),k=(kn:Int)/\i=((2*j:Nat):Int)/\kn<=C.length/\2*j<=L.length/\O.length<=kn+j/\ms=L.length-2*j/\aE w' w.heap.size 232 2 A' n' c' (ic O)/\n'=O.length/\(∀ x∈O,dX w' G x) ∧
      O.map cG++cR ((C.drop kn).map cG) (dh ((L.drop (2*j)).map cG))=eL (C.map cG) (L.map cG)/\w.grownBy w' none,
    ⟨_,0,0,[],rfl,rfl,by omega,by omega,by simp,rfl,aE.nil _ _ _ _,rfl,by simp,by simp[eL],aC _ _⟩,?_⟩
  rintro ms A' n' c' k i w' ⟨kn,j,O,rfl,rfl,hk,hj,MA,rfl,ho,GA,hO,GZ,hg⟩;refine⟨by omega,fun FE=>?_,fun FJ=>?_⟩
  · have l1 :2*j<L.length:=by omega
    have l2:2*j+1<L.length:=by omega
    have F8:L.drop (2*j)=L[2*j] ::L[2*j+1] ::L.drop (2*(j+1)):=by
      rw[List.drop_eq_getElem_cons l1,List.drop_eq_getElem_cons l2];rfl
    have ba:=hb _ (List.getElem_mem l1);have bb:=hb _ (List.getElem_mem l2);have sa:=hL _ (List.getElem_mem l1);have sb:=hL _ (List.getElem_mem l2);generalize IV:L[2*j]=ra at *;generalize NO:L[2*j+1]=rb at *;obtain⟨a,ha,_,_⟩:=oI hB l1
    have rd:∀ w2:World,w'.grownBy w2 none->w2.cell? (a.add (2*j*2))=some (.int .i64 ra.count)/\w2.cell? ((a.add (2*j*2)).add 1)=some (.slice ra.A ra.n ra.c) ∧
        w2.cell? (a.add ((2*j+1)*2))=some (.int .i64 rb.count)/\w2.cell? ((a.add ((2*j+1)*2)).add 1)=some (.slice rb.A rb.n rb.c):=by
      intro w2 h;obtain⟨b,e1,e2,e3⟩:=oI (hB.kept_none (aA hg h)) l1;obtain⟨b',e4,e5,e6⟩:=oI (hB.kept_none (aA hg h)) l2;rw[ha]at e1 e4;cases e1;cases e4;rw[IV]at e2 e3;rw[NO]at e5 e6;exact⟨e2,e3,e5,e6⟩
    have t1:((2*j:Nat):Int).toNat=2*j:=by omega
    have t2:(((2*j:Nat):Int)+1).toNat=2*j+1:=by omega
    rw[t1,t2]
    -- what is made
    have Hl:∀ g,G=some g->g<w'.heap.size:=fun g h=>Nat.lt_of_lt_of_le (hG g h) hg.size;have sa1:∀ w2,w'.grownBy w2 none->dX w2 G ra:=fun w2 h=>(sa.keep_none hg).keep_none h;have sb1:∀ w2,w'.grownBy w2 none->dX w2 G rb:=fun w2 h=>(sb.keep_none hg).keep_none h
    -- the two appends, from any world that Je grown
    have app1:∀ w2,w'.grownBy w2 none->∃(A3:OA)(n3 c3:Nat)(w3:World),Sem.run P (Builtin.append_ #[33,33] 33 #[.slice none 0 0,.slice ra.A ra.n ra.c]) w2=.ok (.slice A3 n3 c3) w3/\aE w3 w2.heap.size 3 1 A3 n3 c3 (mS ra.syms)/\n3=ra.n/\w2.grownBy w3 none:=by
      intro w2 h;obtain⟨s1,s2,s3,_⟩:=sa1 w2 h;obtain⟨A3,n3,c3,w3,e1,e2,e3,e4⟩:=qY (s:=[]) (n:=0) (c:=0) (A:=none) (d:=ra.c) (m:=ra.n) (aE.nil w2 w2.heap.size 3 1) s1 s2 s3 (by have:=ba.2.2;omega) (Nat.le_refl _);exact⟨A3,n3,c3,w3,e1,by simpa using e2,by omega,e4⟩
    have app2:∀ w2 (A3:OA) (n3 c3 base:Nat),w'.grownBy w2 none->aE w2 base 3 1 A3 n3 c3 (mS ra.syms)->n3=ra.n->w'.heap.size<=base->base<=w2.heap.size->∃(A4:OA)(n4 c4:Nat)(w4:World),
        Sem.run P (Builtin.append_ #[33,33] 33 #[.slice A3 n3 c3,.slice rb.A rb.n rb.c]) w2=.ok (.slice A4 n4 c4) w4/\aE w4 base 3 1 A4 n4 c4 (mS (ra.syms++rb.syms))/\w2.grownBy w4 (Value.slice A3 n3 c3).ownBlock/\w'.grownBy w4 none:=by
      intro w2 A3 n3 c3 base h h2 h3 h4 h5;obtain⟨s1,s2,s3,_⟩:=sb1 w2 h;obtain⟨q1,q2,q3,_⟩:=sa1 w2 h;obtain⟨A4,n4,c4,w4,e1,e2,e3,e4⟩:=qY (d:=rb.c) (m:=rb.n) h2 s1 s2 s3 (by have:=ba.2.2;have:=bb.2.2;omega) h5;exact⟨A4,n4,c4,w4,e1,e2,e4,aN h e4 (fun k hk=>Nat.le_trans h4 (h2.block_ge k hk))⟩
    -- the coin, once its symbols and its two cells are there
    have fin:∀(w5:World)(gp:Nat)(A4:OA)(n4 c4 base:Nat),w'.grownBy w5 none->w'.heap.size<=gp->w5.heap[gp]?=some (.cells #[.int .i64 0,.slice none 0 0] 232 (0,0))->aE w5 base 3 1 A4 n4 c4 (mS (ra.syms++rb.syms))->w'.heap.size<=base →
        (∃ z,w5.cell? ⟨gp,0,none⟩=some z)/\w5.frozen? ⟨gp,0,none⟩=false/\(∃ z,(w5.setCell ⟨gp,0,none⟩ (.int .i64 (ra.count+rb.count))).cell? ⟨gp,1,none⟩=some z)/\(w5.setCell ⟨gp,0,none⟩ (.int .i64 (ra.count+rb.count))).frozen? ⟨gp,1,none⟩=false ∧
        w'.grownBy ((w5.setCell ⟨gp,0,none⟩ (.int .i64 (ra.count+rb.count))).setCell ⟨gp,1,none⟩ (.slice A4 n4 c4)) none ∧
        (∃(r:RC)(g:Nat),r.count=ra.count+rb.count/\r.syms=ra.syms++rb.syms/\(⟨gp,0,none⟩:Addr)=⟨g,0,none⟩/\w'.heap.size<=g/\((w5.setCell ⟨gp,0,none⟩ (.int .i64 (ra.count+rb.count))).setCell ⟨gp,1,none⟩ (.slice A4 n4 c4)).heap[g]?=some (.cells #[.int .i64 r.count,.slice r.A r.n r.c] 232 (0,0)) ∧
          dX ((w5.setCell ⟨gp,0,none⟩ (.int .i64 (ra.count+rb.count))).setCell ⟨gp,1,none⟩ (.slice A4 n4 c4)) G r/\w'.grownBy ((w5.setCell ⟨gp,0,none⟩ (.int .i64 (ra.count+rb.count))).setCell ⟨gp,1,none⟩ (.slice A4 n4 c4)) none):=by
      intro w5 gp A4 n4 c4 base h1 h2 h3 h4 h5;obtain⟨k1,k2,k3,k4,k5,k6⟩:=yp (u:=.int .i64 (ra.count+rb.count)) (v:=.slice A4 n4 c4) h3;have k7:=aN h1 k6 (by intro q hq;cases hq;exact h2);refine⟨k1,k2,k3,k4,k7,⟨ra.count+rb.count,A4,n4,c4,ra.syms++rb.syms⟩,gp,rfl,rfl,rfl,h2,k5,?_,k7⟩;have FO:0<(ra.syms++rb.syms).length:=by have:=sa.2.1;have:=sa.2.2.1;simp;omega
      refine(dX.fresh (G:=G) h4 FO (fun g FN=>Nat.lt_of_lt_of_le (Hl g FN) h5) (ra.count+rb.count)).keep k6 ?_;intro g FN;cases FN;exact .inr ⟨_,232,_,h3,by decide⟩
    refine⟨fun p w6=>∃(r:RC)(g:Nat),r.count=ra.count+rb.count/\r.syms=ra.syms++rb.syms/\p=⟨g,0,none⟩/\w'.heap.size<=g/\w6.heap[g]?=some (.cells #[.int .i64 r.count,.slice r.A r.n r.c] 232 (0,0))/\dX w6 G r/\w'.grownBy w6 none,?_,?_⟩
    · refine⟨fun w2=>w'.grownBy w2 none,aH (aC _ _),?_⟩;have gd:=aH (aC w' none);have sd:w'.drew.heap.size=w'.heap.size:=rfl;refine⟨⟨⟨a,ha,by omega,by omega,ra.count,fun w2 h=>(rd w2 h).1,by omega,a,ha,by omega,by omega,rb.count,fun w2 h=>(rd w2 h).2.2.1,by omega,a,ha,by omega,by omega,ra.A,ra.n,ra.c,fun w2 h=>(rd w2 h).2.1,?_⟩,⟨a,ha,by omega,by omega,ra.count,fun w2 h=>(rd w2 h).1,by omega,a,ha,by omega,by omega,rb.count,fun w2 h=>(rd w2 h).2.2.1,by omega,a,ha,by omega,by omega,ra.A,ra.n,ra.c,fun w2 h=>(rd w2 h).2.1,?_⟩⟩,⟨a,ha,by omega,by omega,ra.count,fun w2 h=>(rd w2 h).1,by omega,a,ha,by omega,by omega,rb.count,fun w2 h=>(rd w2 h).2.2.1,by omega,a,ha,by omega,by omega,ra.A,ra.n,ra.c,fun w2 h=>(rd w2 h).2.1,?_⟩⟩
      · obtain⟨A3,n3,c3,w3,e1,e2,e3,e4⟩:=app1 _ gd;have g3:=aA gd e4;obtain⟨A4,n4,c4,w4,f1,f2,f3,f4⟩:=app2 w3 A3 n3 c3 _ g3 e2 e3 (Nat.le_of_eq sd.symm) e4.size;have g5:=World.grownBy_alloc w4 (.cells #[.int .i64 0,.slice none 0 0] 232) none;have h5:=heap_alloc_new w4 (.cells #[.int .i64 0,.slice none 0 0] 232);obtain⟨k1,k2,k3,k4,k5,k6⟩:=fin _ w4.heap.size A4 n4 c4 _ (aA f4 g5) f4.size h5 (f2.kept g5) (Nat.le_of_eq sd.symm);exact⟨A3,n3,c3,w3,e1,g3,by omega,a,ha,by omega,by omega,rb.A,rb.n,rb.c,fun w2 h=>(rd w2 h).2.2.2,A4,n4,c4,w4,f1,f4,aA f4 g5,k1,k2,k3,k4,k5,k6⟩
      · obtain⟨A3,n3,c3,w3,e1,e2,e3,e4⟩:=app1 _ gd;have g3:=aA gd e4;have g5:=World.grownBy_alloc w3 (.cells #[.int .i64 0,.slice none 0 0] 232) none;have h5:=heap_alloc_new w3 (.cells #[.int .i64 0,.slice none 0 0] 232);obtain⟨A4,n4,c4,w4,f1,f2,f3,f4⟩:=app2 _ A3 n3 c3 _ (aA g3 g5) (e2.kept g5) e3 (Nat.le_of_eq sd.symm) (Nat.le_trans e4.size g5.size);have h6:w4.heap[w3.heap.size]?=some (.cells #[.int .i64 0,.slice none 0 0] 232 (0,0)):=by
          rw[f3.block _ (by simp) (fun e=>by have:=e2.block_lt _ e.symm;omega)];exact h5
        obtain⟨k1,k2,k3,k4,k5,k6⟩:=fin w4 w3.heap.size A4 n4 c4 _ f4 g3.size h6 f2 (Nat.le_of_eq sd.symm);exact⟨A3,n3,c3,w3,e1,g3,by omega,a,ha,by omega,by omega,rb.A,rb.n,rb.c,fun w2 h=>(rd w2 h).2.2.2,aA g3 g5,A4,n4,c4,w4,f1,f4,k1,k2,k3,k4,k5,k6⟩
      · have g5:=gK gd (.cells #[.int .i64 0,.slice none 0 0] 232);have h5:=heap_alloc_new w'.drew (.cells #[.int .i64 0,.slice none 0 0] 232);obtain⟨A3,n3,c3,w3,e1,e2,e3,e4⟩:=app1 _ g5;have g3:=aA g5 e4;obtain⟨A4,n4,c4,w4,f1,f2,f3,f4⟩:=app2 w3 A3 n3 c3 _ g3 e2 e3 g5.size e4.size;have h6:w3.heap[w'.drew.heap.size]?=some (.cells #[.int .i64 0,.slice none 0 0] 232 (0,0)):=by
          rw[e4.block _ (by simp) (by simp)];exact h5
        have h7:w4.heap[w'.drew.heap.size]?=some (.cells #[.int .i64 0,.slice none 0 0] 232 (0,0)):=by
          rw[f3.block _ (Array.getElem?_eq_some_iff.1 h6).1 (fun e=>by have:=e2.block_ge _ e.symm;simp at this;omega)];exact h6
        obtain⟨k1,k2,k3,k4,k5,k6⟩:=fin w4 w'.drew.heap.size A4 n4 c4 _ f4 (Nat.le_of_eq sd.symm) h7 f2 g5.size;exact⟨by omega,a,ha,by omega,by omega,rb.A,rb.n,rb.c,fun w2 h=>(rd w2 h).2.2.2,g5,A3,n3,c3,w3,e1,g3,A4,n4,c4,w4,f1,f4,k1,k2,k3,k4,k5,k6⟩
    · rintro p w6 ⟨r,gp,NN,Uz,rfl,Xr,Qr,Qb,g6⟩;have Ho:w.grownBy w6 none:=aA hg g6;have Hx:w6.heap.size<=w6.heap.size:=Nat.le_refl _
      -- coins ahead of the package
      refine⟨fun ms A2 n2 c2 k2 w2=>∃(kn:Nat)(O:List RC),k2=(kn:Int)/\kn<=C.length/\O.length<=kn+j/\ms=C.length-kn/\aE w2 w.heap.size 232 2 A2 n2 c2 (ic O)/\n2=O.length/\((Value.slice A2 n2 c2).ownBlock≠some gp)/\(∀ x∈O,dX w2 G x) ∧
          O.map cG++cR ((C.drop kn).map cG) ((ra.count+rb.count,ra.syms++rb.syms) ::dh ((L.drop (2*(j+1))).map cG))=eL (C.map cG) (L.map cG)/\w.grownBy w2 none/\w2.heap[gp]?=some (.cells #[.int .i64 r.count,.slice r.A r.n r.c] 232 (0,0))/\dX w2 G r,
        ⟨_,kn,O,rfl,hk,by omega,rfl,ho.kept g6,GA,?_,fun x hx=>(hO x hx).keep_none g6,?_,Ho,Qr,Qb⟩,?_⟩
      · intro e;have:=ho.block_lt _ e;omega
      · rw[← GZ,F8];rfl
      clear GZ ho hO MA hk GA;rintro ms A2 n2 c2 k2 w2 ⟨kn,O,rfl,hk,MA,rfl,ho,Hp,FG,hO,GZ,FN,Gl,GR⟩
      -- one coin more
      have one:∀(x:RC),dX w2 G x->∃(A4:OA)(n4 c4:Nat),∃ w4:World,
          Sem.run P (Builtin.append_ #[229,229] 229 #[.slice A2 n2 c2,.slice (some ⟨w2.drew.heap.size,0,none⟩) 1 1]) (w2.drew.alloc (.cells #[.int .i64 x.count,.slice x.A x.n x.c] 232))=.ok (.slice A4 n4 c4) w4 ∧
          aE w4 w.heap.size 232 2 A4 n4 c4 (ic (O++[x]))/\n4=(O++[x]).length/\w.grownBy w4 none/\(∀ y∈O++[x],dX w4 G y)/\dX w4 G r/\w4.heap[gp]?=some (.cells #[.int .i64 r.count,.slice r.A r.n r.c] 232 (0,0))/\(Value.slice A4 n4 c4).ownBlock≠some gp:=by
        intro x hx;have g3:=aH (aC w2 none);have s3:w2.drew.heap.size=w2.heap.size:=rfl;obtain⟨A4,n4,c4,w4,h3,h4,h5,h6,IE⟩:=yW (r:=x) (ho.kept g3) (by omega) (show w.heap.size<=w2.drew.heap.size from FN.size);have hq:∀ g,(Value.slice A2 n2 c2).ownBlock=some g->some g=G∨∃(cur:Array Value)(e:TypeId)(fr:Nat×Nat),w2.drew.heap[g]?=some (.cells cur e fr)/\e≠3:=by
          intro g Gb;obtain⟨cur,h7⟩:=ho.block_type g Gb;exact .inr ⟨cur,232,_,h7,by decide⟩
        have keep:∀ y,dX w2 G y->dX w4 G y:=fun y hy=>(hy.keep_none g3).keep h6 hq;refine⟨A4,n4,c4,w4,h3,h4,by rw[h5,Hp];simp,aN (aH FN) h6 (ho.kept g3).block_ge,?_,keep r GR,?_,?_⟩
        · intro y hy;rcases List.mem_append.1 hy with e | e
          · exact keep y (hO y e)
          · have:y=x:=by simpa using e
            subst this;exact keep y hx
        · rw[h6.block gp (Array.getElem?_eq_some_iff.1 Gl).1 (fun e=>FG e.symm)];exact Gl
        · rcases IE with e | ⟨g,e,FJ⟩
          · rw[e];exact FG
          · rw[e];intro hh;have h7:=(Array.getElem?_eq_some_iff.1 Gl).1;have h8:w2.heap.size<=g:=FJ;cases hh;omega
      have last:(∀ ps,cR ((C.drop kn).map cG) ((ra.count+rb.count,ra.syms++rb.syms) ::ps)=(ra.count+rb.count,ra.syms++rb.syms) ::cR ((C.drop kn).map cG) ps)->∃(A4:OA)(n4 c4:Nat),∃ w4:World,
          Sem.run P (Builtin.append_ #[229,229] 229 #[.slice A2 n2 c2,.slice (some ⟨w2.drew.heap.size,0,none⟩) 1 1]) (w2.drew.alloc (.cells #[.int .i64 r.count,.slice r.A r.n r.c] 232))=.ok (.slice A4 n4 c4) w4 ∧
          (-9223372036854775808<=((2*j:Nat):Int)+2/\((2*j:Nat):Int)+2<=9223372036854775807)/\∃ ms,ms<L.length-2*j/\∃(kn' j':Nat)(O:List RC),(kn:Int)=(kn':Int)/\((2*j:Nat):Int)+2=((2*j':Nat):Int)/\kn'<=C.length/\2*j'<=L.length/\O.length<=kn'+j'/\ms=L.length-2*j'/\aE w4 w.heap.size 232 2 A4 n4 c4 (ic O)/\n4=O.length/\(∀ x∈O,dX w4 G x) ∧
        O.map cG++cR ((C.drop kn').map cG) (dh ((L.drop (2*j')).map cG))=eL (C.map cG) (L.map cG)/\w.grownBy w4 none:=by
        intro IY;obtain⟨A4,n4,c4,w4,h1,h2,h3,h4,h5,_⟩:=one r GR;refine⟨A4,n4,c4,w4,h1,by omega,L.length-2*(j+1),by omega,kn,j+1,O++[r],rfl,by omega,hk,by omega,by simp;omega,rfl,h2,h3,h5,?_,h4⟩;rw[← GZ,IY];have:cG r=(ra.count+rb.count,ra.syms++rb.syms):=by simp[cG,NN,Uz]
        simp[this]
      have cp1:w2.drew.cell? ⟨gp,0,none⟩=some (.int .i64 r.count):=by show w2.cell? _=_;simp[World.cell?,Gl]
      have cp2:w2.drew.cell? ((⟨gp,0,none⟩:Addr).add 1)=some (.slice r.A r.n r.c):=by show w2.cell? _=_;rw[aP];simp[World.cell?,Gl]
      refine⟨fun Gn=>?_,fun HV=>?_⟩
      · have l3:kn<C.length:=by omega
        obtain⟨q,MR,KB,Qm⟩:=oI (hA.kept_none (aH FN)) l3;have Lr:(C.drop kn).map cG=cG C[kn] ::(C.drop (kn+1)).map cG:=by
          rw[List.drop_eq_getElem_cons l3];rfl
        have tk:(kn:Int).toNat=kn:=by omega
        rw[tk];refine⟨q,MR,by omega,by omega,C[kn].count,KB,r.count,cp1,fun FW=>?_,fun GM=>?_⟩
        · refine⟨q,MR,by omega,by omega,C[kn].count,KB,C[kn].A,C[kn].n,C[kn].c,Qm,?_⟩;obtain⟨A4,n4,c4,w4,h1,h2,h3,h4,h5,h6,h7,h8⟩:=one C[kn] ((hC _ (List.getElem_mem l3)).keep_none FN);refine⟨A4,n4,c4,w4,h1,by omega,C.length-(kn+1),by omega,kn+1,O++[C[kn]],by omega,by omega,by simp;omega,rfl,h2,h3,h8,h5,?_,h4,h7,h6⟩;rw[← GZ,Lr,kL (show(cG C[kn]).1<=ra.count+rb.count by rw[← NN];exact FW)];simp
        · refine⟨r.count,cp1,r.A,r.n,r.c,cp2,last fun ps=>?_⟩;rw[Lr];exact kM (by show ¬ (cG C[kn]).1<=ra.count+rb.count;rw[← NN];exact GM)
      · have:kn=C.length:=by omega
        refine⟨r.count,cp1,r.A,r.n,r.c,cp2,last fun ps=>?_⟩;rw[this,List.drop_length];exact mU
  · have HI:dh ((L.drop (2*j)).map cG)=[]:=by
      have:(L.drop (2*j)).length<=1:=by simp;omega
      match h:L.drop (2*j)with
      | []=>rfl
      | [x]=>simp[dh]
      | x ::y ::r=>rw[h]at this;simp at this
    rw[HI]at GZ;simp only[cR]at GZ;have kt:(kn:Int).toNat=kn:=by omega
    refine⟨by omega,?_⟩;rw[kt];obtain⟨a,ha,_⟩:=oI hA (show 0<C.length by omega);subst ha;have Gm:∃ a',bB (some a) c kn 2=some a'/\∀ j u,(ic (C.drop kn))[j]?=some u->w'.cell? (a'.add j)=some u:=by
      by_cases GO:c=kn
      · refine⟨a,by simp[bB,GO],fun j u hj=>?_⟩;have:C.drop kn=[]:=List.drop_eq_nil_of_le (by omega);rw[this]at hj;simp[ic]at hj
      · refine⟨a.add (kn*2),by simp[bB,GO],fun j u hj=>?_⟩;obtain⟨a2,h1,h2⟩:=((hA.kept_none hg).drop (kn*2)) j u (by rw[xY];exact hj);cases h1;exact h2
    obtain⟨a',FU,FP⟩:=Gm;obtain⟨A4,n4,c4,w4,h1,h2,h3,h4,_⟩:=ho.appends (ty:=229) qa qQ (cc:=c-kn) (m:=n-kn) (by rw[tM];simp;omega) FP (fun u hu=>by
      obtain⟨x,_,hx⟩:=List.mem_flatMap.1 hu;simp[i6]at hx;rcases hx with rfl | rfl <;>rfl) (by omega) hg.size
    have hq:∀ g,(Value.slice A' n' c').ownBlock=some g->some g=G∨∃(cur:Array Value)(e:TypeId)(fr:Nat×Nat),w'.heap[g]?=some (.cells cur e fr)/\e≠3:=by
      intro g Gb;obtain⟨cur,h7⟩:=ho.block_type g Gb;exact .inr ⟨cur,232,_,h7,by decide⟩
    refine⟨A4,n4,c4,w4,by rw[FU];exact h1,A4,n4,c4,O++C.drop kn,rfl,by rw[oJ];exact h2,by rw[h3,GA];simp;omega,?_,?_,aN hg h4 ho.block_ge⟩
    · intro x hx;rcases List.mem_append.1 hx with e | e
      · exact(hO x e).keep h4 hq
      · exact((hC x (List.mem_of_mem_drop e)).keep_none hg).keep h4 hq
    · rw[← GZ];simp
theorem Dh{α:Type}{key:α->Int}{x:α}:∀ {l:List α} {k:Nat},k<=l.length->(∀ i (h:i<l.length),i<k->key l[i]<=key x)->(∀ i (h:i<l.length),k<=i->key x<key l[i])->sD key x l=l.take k++x ::l.drop k
 | [],k,hk,_,_=>by simp[sD]
 | y ::l,0,_,_,h2=>by
  have:=h2 0 (by simp) (by omega);simp only[List.getElem_cons_zero]at this;simp[sD,show ¬ key y<=key x by omega]
 | y ::l,k+1,hk,h1,h2=>by
  have:=h1 0 (by simp) (by omega);simp only[List.getElem_cons_zero]at this;have ih:=Dh (key:=key) (x:=x) (l:=l) (k:=k) (by simpa using hk) (fun i h hi=>h1 (i+1) (by simp;omega) (by omega)) (fun i h hi=>h2 (i+1) (by simp;omega) (by omega));simp[sD,this,ih]
theorem sf{xs:List Int}{s:Nat}(hs:s<xs.length):aL (xs.take (s+1))=if xs[s]>0 then sD Prod.fst (cO xs[s],[s]) (aL (xs.take s)) else aL (xs.take s):=by
 unfold aL;rw[List.take_succ_eq_append_getElem hs,gk];have hl:(xs.take s).length=s:=by simp;omega
 rw[hl,Nat.zero_add];have e:aU s [xs[s]]=if xs[s]>0 then [(cO xs[s],[s])] else []:=by simp[aU]
 rw[e];split
 ·simp[dk,List.foldl_append]
 ·simp
theorem oL {w:World} {base n c m d:Nat} {A B:OA} {L M:List RC} (ho:aE w base 232 2 A n c (ic L)) (hB:aZ w B (ic M)) (hm:m=M.length) (hd:B=none->d=0) (IM:n=L.length) (hn:n+m<=2^30) (hb:base<=w.heap.size) :
    ∃ (A':OA) (n' c':Nat) (w':World),Sem.run P (Builtin.append_ #[229,229] 229 #[.slice A n c,.slice B m d]) w=.ok (.slice A' n' c') w' ∧
      aE w' base 232 2 A' n' c' (ic (L++M))/\n'=(L++M).length/\w.grownBy w' (Value.slice A n c).ownBlock:=by
  cases B with
  | none =>
    have:M=[]:=by
      cases M with
      | nil=>rfl
      | cons r M =>
        obtain⟨a,h,_⟩:=hB 0 (.int .i64 r.count) (by simp[ic,i6]);cases h
    subst this;have Rh:=hd rfl;subst Rh;have Kn:m=0:=by simpa using hm
    subst Kn;exact⟨A,n,c,w,ho.appends_nil qa,by simpa using ho,by simpa using IM,aC _ _⟩
  | some a =>
    obtain⟨A',n',c',w',h1,h2,h3,h4,_⟩:=ho.appends (ty:=229) qa qQ (a:=a) (m:=m) (cc:=d) (us:=ic M) (by rw[tM,hm]) (fun j u hj=>by obtain⟨b,e1,e2⟩:=hB j u hj;cases e1;exact e2) (fun u hu=>by
      obtain⟨x,_,hx⟩:=List.mem_flatMap.1 hu;simp[i6]at hx;rcases hx with rfl | rfl <;>rfl) (by omega) hb
    exact⟨A',n',c',w',h1,by rw[oJ];exact h2,by rw[h3,IM,hm];simp,h4⟩
theorem dX.away{w:World}{r:RC}(h:dX w none r){g:Nat}(hg:w.heap.size<=g):dX w (some g) r:=by
 obtain⟨h1,h2,h3,h4⟩:=h;refine⟨h1,h2,h3,fun a ha=>?_⟩;obtain⟨_,cur,fr,h6⟩:=h4 a ha;refine⟨fun e=>?_,cur,fr,h6⟩;have:=(Array.getElem?_eq_some_iff.1 h6).1;cases e;omega
theorem EM{w:World}{A:OA}{n c k:Nat}{C:List RC}(h:aZ w A (ic C))(hA:A=none->c=0)(hc:C.length<=c):aZ w (bB A c k 2) (ic (C.drop k))/\(bB A c k 2=none->c-k=0):=by
 unfold bB;split
 ·rename_i GO;refine⟨?_,fun _=>by omega⟩;rw[List.drop_eq_nil_of_le (by omega)];intro j u hj;simp[ic]at hj
 ·have:=h.drop (k*2);rw[xY]at this;refine⟨this,fun e=>?_⟩;cases A with
  | none=>rw[hA rfl];omega
  | some a=>simp at e
theorem Dq{l:List bS}{B:Nat}(h:∀ x∈l,x.2.length<=B):(l.flatMap Prod.snd).length<=B*l.length:=by
 induction l with
 | nil=>simp
 | cons x l ih =>
  have h1:=h x (by simp);have h2:=ih (fun y hy=>h y (by simp[hy]));simp only[List.flatMap_cons,List.length_append,List.length_cons,Nat.mul_succ];omega
theorem qC {w : World} {A:OA} {n c:Nat} {xs:List Int} {most:Int} (Gm:aZ w A (aS xs)) (hn:n=xs.length) :
    Calls P 117 #[.slice A n c,.int .i64 most] w fun ev w'=>∃(A':OA)(n' c':Nat),ev=.returned (.slice A' n' c')/\cP w' w.heap.size 3 A' n' c' (aS (dv xs most))/\w.grownBy w' none:=by
  apply vc117;dsimp only[VC117,Wt,Br,Rd,Rc,Rs,Ix,Ap,Ws,cI,cS,nb,ad,al,iq];obtain⟨hm,Oo,L2⟩:=yi most;rw[hm];simp only[aF];have tn:(cv most:Int).toNat=cv most:=by omega
  have Ha:min (cv most) 64=cv most:=by omega
  rw[tn,Ha];have Qp:2^cv most<=2^15:=Nat.pow_le_pow_right (by omega) L2;obtain⟨q,hq⟩:∃ q,q=2^cv most:=⟨_,rfl⟩;have J4:(1:Int)*2^cv most=(q:Int):=by rw[hq];simp
  rw[J4];refine⟨fun h=>⟨none,0,0,rfl,?_,aC _ _⟩,fun h=>?_⟩
  · have:dv xs most=[]:=by unfold dv;rw[if_pos (by omega)]
    rw[this];exact World.ownsRow_nil _ _ _ _
  have H0:xs.length<=256:=by omega
  refine⟨fun ms A1 n1 c1 s w1=>∃(sn:Nat)(C:List RC),s=(sn:Int)/\sn<=xs.length/\ms=xs.length-sn/\aE w1 w.heap.size 232 2 A1 n1 c1 (ic C)/\n1=C.length/\(∀ x∈C,dX w1 none x)/\C.map cG=aL (xs.take sn)/\w.grownBy w1 none,
    ⟨_,0,[],rfl,by omega,rfl,aE.nil _ _ _ _,rfl,by simp,by simp[aL,aU,dk],aC _ _⟩,?_⟩
  rintro ms A1 n1 c1 s w1 ⟨sn,C,rfl,HE,rfl,ho,HU,hC,KW,hg⟩;have XY:C.length<=xs.length:=by
    have h1:=congrArg List.length KW;have h2:=gj (xs.take sn);simp at h1 h2;omega
  have HX:n1<=c1/\(A1=none->c1=0):=by
    rcases ho.cases.2 with⟨e,h,h',_⟩ | ⟨g,cur,e,_,_,h,_⟩
    · exact⟨by omega,fun _=>h'⟩
    · exact⟨h,fun h=>by rw[e]at h;cases h⟩
  have Ll:∀ i j (hi:i<C.length) (hj:j<C.length),i<=j->C[i].count<=C[j].count:=by
    intro i j hi hj Gx;have hs:aJ Prod.fst (C.map cG):=by rw[KW];exact iv _
    rcases Nat.lt_or_eq_of_le Gx with e | e
    · have:=List.pairwise_iff_getElem.1 hs i j (by simpa using hi) (by simpa using hj) e;simpa[cG]using this
    · subst e;omega
  refine⟨fun FE=>?_,fun FJ=>?_⟩
  · have l1 : sn<xs.length:=by omega
    obtain⟨a,FU,FP⟩:=(Gm.kept_none hg) sn (.int .i64 xs[sn]) (by simp[aS,l1]);have ts:(sn:Int).toNat=sn:=by omega
    rw[ts];refine⟨a,FU,by omega,by omega,xs[sn],FP,?_⟩;refine yZ ⟨_,rfl,?_⟩;have h3:=heap_alloc_new (w1.alloc (.cells #[.int .i64 (sn:Int)] 3)) (.cells #[.int .i64 0,.slice none 0 0] 232);have h0:=heap_alloc_new w1 (.cells #[.int .i64 (sn:Int)] 3);obtain⟨k1,k2,k3,k4,k5,k6⟩:=yp (u:=.int .i64 (cO xs[sn])) (v:=.slice (some ⟨w1.heap.size,0,none⟩) 1 1) h3;have ga:=World.grownBy_alloc w1 (.cells #[.int .i64 (sn:Int)] 3) none;have gb:=World.grownBy_alloc (w1.alloc (.cells #[.int .i64 (sn:Int)] 3)) (.cells #[.int .i64 0,.slice none 0 0] 232) none;have Hl:(w1.alloc (.cells #[.int .i64 (sn:Int)] 3)).heap.size=w1.heap.size+1:=by simp
    refine⟨k1,k2,k3,k4,cO xs[sn],by rw[World.cell?,k5];rfl,?_⟩;obtain⟨g,Vz⟩:∃ g,g=(w1.alloc (.cells #[.int .i64 (sn:Int)] 3)).heap.size:=⟨_,rfl⟩;rw[← Vz]at k5 k6 Hl ⊢;have FS:=aN (aA ga gb) k6 (by intro q hq;cases hq;omega);have Ru:((((w1.alloc (.cells #[.int .i64 (sn:Int)] 3)).alloc (.cells #[.int .i64 0,.slice none 0 0] 232)).setCell ⟨g,0,none⟩ (.int .i64 (cO xs[sn]))).setCell ⟨g,1,none⟩ (.slice (some ⟨w1.heap.size,0,none⟩) 1 1)).heap[w1.heap.size]?=some (.cells #[.int .i64 (sn:Int)] 3 (0,0)):=by
      rw[k6.block _ (by have:=gb.size;omega) (by simp;omega),gb.block _ (by omega) (by simp),h0]
    obtain⟨w4,Il⟩:∃ w4,w4=(((w1.alloc (.cells #[.int .i64 (sn:Int)] 3)).alloc (.cells #[.int .i64 0,.slice none 0 0] 232)).setCell ⟨g,0,none⟩ (.int .i64 (cO xs[sn]))).setCell ⟨g,1,none⟩ (.slice (some ⟨w1.heap.size,0,none⟩) 1 1):=⟨_,rfl⟩;rw[← Il]at k5 k6 FS Ru ⊢;clear k1 k2 k3 k4 k6 ga gb h3 h0 Il;obtain⟨r,hr⟩:∃ r:RC,r=⟨cO xs[sn],some ⟨w1.heap.size,0,none⟩,1,1,[sn]⟩:=⟨_,rfl⟩;have Qb:dX w4 none r:=by
      subst hr;refine⟨?_,rfl,by simp,fun a ha=>by cases ha;exact⟨by simp,_,_,Ru⟩⟩;intro j u hj;cases j with
      | zero=>exact⟨_,rfl,by rw[aP];simpa[World.cell?,Ru,mS]using hj⟩
      | succ j=>simp[mS]at hj
    have RS:∀ x∈C,dX w4 none x:=fun x hx=>(hC x hx).keep_none FS;have OT:∀ w',w4.grownBy w' none->w'.cell? ⟨g,0,none⟩=some (.int .i64 (cO xs[sn]))/\w'.cell? ⟨g,1,none⟩=some (.slice (some ⟨w1.heap.size,0,none⟩) 1 1):=by
      intro w' h;have h5:=h.block g (Array.getElem?_eq_some_iff.1 k5).1 (by simp);rw[k5]at h5;constructor <;>simp[World.cell?,h5]
    refine⟨fun hz=>?_,fun SA=>?_⟩
    · refine⟨by omega,xs.length-(sn+1),by omega,sn+1,C,by omega,by omega,rfl,ho.kept FS,HU,RS,?_,aA hg FS⟩;rw[sf l1,if_neg (by intro h;have:=(qE h).1;omega)];exact KW
    · have FO : xs[sn]>0:=by
        apply Decidable.byContradiction;intro h;exact SA (zU h)
      refine⟨fun k w'=>∃ kn:Nat,k=(kn:Int)/\kn<=C.length/\(∀ i (h:i<C.length),i<kn->C[i].count<=cO xs[sn])/\(∀ i (h:i<C.length),kn<=i->cO xs[sn]<C[i].count)/\w4.grownBy w' none,?_,?_⟩
      · refine⟨fun ms k w'=>∃ kn:Nat,k=(kn:Int)/\ms=kn/\kn<=C.length/\(∀ i (h:i<C.length),kn<=i->cO xs[sn]<C[i].count)/\w4.grownBy w' none,
          ⟨_,C.length,by omega,rfl,by omega,fun i h hi=>by omega,aC _ _⟩,?_⟩
        rintro ms k w5 ⟨kn,rfl,Xi,KG,GM,Hr⟩;refine⟨fun hp=>?_,fun hz=>⟨kn,rfl,KG,fun i h hi=>by omega,GM,aH Hr⟩⟩;have lk:kn-1<C.length:=by omega
        obtain⟨b,Hc,FX,_⟩:=oI ((ho.kept (aA FS (aH Hr))).row) lk;have tk:((kn:Int)-1).toNat=kn-1:=by omega
        rw[tk];refine⟨by omega,b,Hc,by omega,by omega,C[kn-1].count,FX,cO xs[sn],(OT _ (aH Hr)).1,fun Vw=>⟨by omega,kn-1,by omega,kn-1,by omega,rfl,by omega,fun i h hi=>?_,aH Hr⟩,fun FW=>⟨kn,rfl,KG,fun i h hi=>?_,GM,aH Hr⟩⟩
        · have:=Ll (kn-1) i lk h hi;omega
        · have:=Ll i (kn-1) h lk (by omega);omega
      · rintro k w5 ⟨kn,rfl,KG,FW,GM,Hr⟩;have tk:(kn:Int).toNat=kn:=by omega
        rw[tk];have Ps:=aH Hr;have xU:∀ w2:World,w4.grownBy w2 none->aZ w2 A1 (ic C):=fun w2 h=>(ho.kept (aA FS h)).row;have Gn:(C.take kn).length=kn:=by simp;omega
        have step1:∀ w2:World,w4.grownBy w2 none->w5.heap.size<=w2.heap.size->∃(A':OA)(n' c':Nat)(w3:World),Sem.run P (Builtin.append_ #[229,229] 229 #[.slice none 0 0,.slice A1 kn c1]) w2=.ok (.slice A' n' c') w3/\aE w3 w5.heap.size 232 2 A' n' c' (ic (C.take kn))/\n'=kn/\w2.grownBy w3 none:=by
          intro w2 h h';have ht:=(xU w2 h).take (kn*2);rw[C0]at ht;obtain⟨A',n',c',w3,e1,e2,e3,e4⟩:=oL (L:=[]) (n:=0) (c:=0) (A:=none) (d:=c1) (m:=kn) (aE.nil w2 w5.heap.size 232 2) ht Gn.symm HX.2 rfl (by omega) h';exact⟨A',n',c',w3,e1,by simpa using e2,by rw[e3,List.nil_append,Gn],e4⟩
        have step2:∀(w2:World)(A':OA)(n' c' g':Nat),aE w2 w5.heap.size 232 2 A' n' c' (ic (C.take kn))->n'=kn->aZ w2 (some ⟨g',0,none⟩) (ic [r])->w5.heap.size<=w2.heap.size->w4.grownBy w2 none->∃(A3:OA)(n3 c3:Nat)(w3:World),
            Sem.run P (Builtin.append_ #[229,229] 229 #[.slice A' n' c',.slice (some ⟨g',0,none⟩) 1 1]) w2=.ok (.slice A3 n3 c3) w3/\aE w3 w5.heap.size 232 2 A3 n3 c3 (ic (C.take kn++[r]))/\n3=(C.take kn++[r]).length/\w4.grownBy w3 none/\w5.heap.size<=w3.heap.size:=by
          intro w2 A' n' c' g' h1 h2 h3 h4 h5;obtain⟨A3,n3,c3,w3,e1,e2,e3,e4⟩:=oL (d:=1) (m:=1) h1 h3 rfl (by simp) (by omega) (by omega) h4;exact⟨A3,n3,c3,w3,e1,e2,e3,aN h5 e4 (fun k hk=>Nat.le_trans Hr.size (h1.block_ge k hk)),Nat.le_trans h4 e4.size⟩
        have step3:∀(w2:World)(A':OA)(n' c':Nat),aE w2 w5.heap.size 232 2 A' n' c' (ic (C.take kn++[r]))->n'=(C.take kn++[r]).length->w5.heap.size<=w2.heap.size->w4.grownBy w2 none->∃(A3:OA)(n3 c3:Nat)(w3:World),
            Sem.run P (Builtin.append_ #[229,229] 229 #[.slice A' n' c',.slice (bB A1 c1 kn 2) (n1-kn) (c1-kn)]) w2=.ok (.slice A3 n3 c3) w3/\w4.grownBy w3 none/\aE w3 w.heap.size 232 2 A3 n3 c3 (ic (C.take kn++r ::C.drop kn))/\n3=(C.take kn++r ::C.drop kn).length/\w4.grownBy w3 none:=by
          intro w2 A' n' c' h1 h2 h4 h5;obtain⟨cr1,cr2⟩:=EM (k:=kn) (n:=n1) (xU w2 h5) HX.2 (by omega);obtain⟨A3,n3,c3,w3,e1,e2,e3,e4⟩:=oL (d:=c1-kn) (m:=n1-kn) h1 cr1 (by simp;omega) cr2 h2 (by rw[h2,List.length_append,Gn];simp;omega) h4;have OF:=aN h5 e4 (fun k hk=>Nat.le_trans Hr.size (h1.block_ge k hk));have Rw:C.take kn++[r]++C.drop kn=C.take kn++r ::C.drop kn:=by simp
          rw[Rw]at e2 e3;exact⟨A3,n3,c3,w3,e1,OF,e2.mono (Nat.le_trans hg.size (Nat.le_trans FS.size Hr.size)),e3,OF⟩
        have rcr:ic [r]=[.int .i64 (cO xs[sn]),.slice (some ⟨w1.heap.size,0,none⟩) 1 1]:=by rw[hr];rfl
        have Uw:w5.drew.heap.size=w5.heap.size:=rfl;refine⟨fun A' n' c' w'=>aE w' w.heap.size 232 2 A' n' c' (ic (C.take kn++r ::C.drop kn))/\n'=(C.take kn++r ::C.drop kn).length/\w4.grownBy w' none,⟨fun w2=>w4.grownBy w2 none,Ps,⟨⟨by omega,?_⟩,⟨by omega,?_⟩⟩⟩,?_⟩
        · obtain⟨A2,n2,c2,w6,e1,e2,e3,e4⟩:=step1 _ Ps (Nat.le_of_eq Uw.symm);have g6:=aA Ps e4;have s6:w5.heap.size<=w6.heap.size:=e4.size;have g7:=gK g6 (.cells #[.int .i64 (cO xs[sn]),.slice (some ⟨w1.heap.size,0,none⟩) 1 1] 232);have ro:=de w6 #[.int .i64 (cO xs[sn]),.slice (some ⟨w1.heap.size,0,none⟩) 1 1] 232;obtain⟨A3,n3,c3,w7,f1,f2,f3,f4,f5⟩:=step2 _ A2 n2 c2 _ (e2.kept (World.grownBy_alloc w6 _ none)) e3 (by rw[rcr];exact ro) (Nat.le_trans s6 (World.grownBy_alloc w6 _ none).size) g7;obtain⟨A4,n4,c4,w8,q1,q2⟩:=step3 w7 A3 n3 c3 f2 f3 f5 f4;exact⟨A2,n2,c2,w6,e1,g6,_,fun w h=>(OT w h).1,_,_,_,fun w h=>(OT w h).2,g7,A3,n3,c3,w7,f1,f4,by omega,A4,n4,c4,w8,q1,q2⟩
        · have g7:=gK Ps (.cells #[.int .i64 (cO xs[sn]),.slice (some ⟨w1.heap.size,0,none⟩) 1 1] 232);have ro:=de w5.drew #[.int .i64 (cO xs[sn]),.slice (some ⟨w1.heap.size,0,none⟩) 1 1] 232;have s7:w5.heap.size<=(w5.drew.alloc (.cells #[.int .i64 (cO xs[sn]),.slice (some ⟨w1.heap.size,0,none⟩) 1 1] 232)).heap.size:=(World.grownBy_alloc w5.drew _ none).size;obtain⟨A2,n2,c2,w6,e1,e2,e3,e4⟩:=step1 _ g7 s7;have g6:=aA g7 e4;obtain⟨A3,n3,c3,w7,f1,f2,f3,f4,f5⟩:=step2 _ A2 n2 c2 _ e2 e3 (by rw[rcr];exact ro.kept_none e4) (Nat.le_trans s7 e4.size) g6;obtain⟨A4,n4,c4,w8,q1,q2⟩:=step3 w7 A3 n3 c3 f2 f3 f5 f4;exact⟨_,fun w h=>(OT w h).1,_,_,_,fun w h=>(OT w h).2,g7,A2,n2,c2,w6,e1,g6,A3,n3,c3,w7,f1,f4,by omega,A4,n4,c4,w8,q1,q2⟩
        · rintro A4 n4 c4 w8 ⟨o8,e8,g8⟩;refine⟨by omega,xs.length-(sn+1),by omega,sn+1,_,by omega,by omega,rfl,o8,e8,fun x hx=>?_,?_,aA hg (aA FS g8)⟩
          · have:dX w4 none x:=by
              rcases List.mem_append.1 hx with e | e
              · exact RS x (List.mem_of_mem_take e)
              · rcases List.mem_cons.1 e with e | e
                · rw[e];exact Qb
                · exact RS x (List.mem_of_mem_drop e)
            exact this.keep_none g8
          · rw[sf l1,if_pos FO,← KW,Dh (k:=kn) (by simpa using KG) (fun i h hi=>by simpa[cG]using FW i (by simpa using h) hi) (fun i h hi=>by simpa[cG]using GM i (by simpa using h) hi)];have NN:cG r=(cO xs[sn],[sn]):=by rw[hr];rfl
            simp[List.map_take,List.map_drop,NN]
  · have Qe : sn=xs.length:=by omega
    rw[Qe,List.take_length]at KW;have Ve:C.length=(aL xs).length:=by rw[← KW];simp
    refine⟨by omega,fun h2=>?_,fun h2=>?_⟩
    · refine⟨none,0,0,rfl,?_,hg⟩;have:dv xs most=[]:=by unfold dv;rw[if_neg (by omega),if_pos (by omega)]
      rw[this];exact World.ownsRow_nil _ _ _ _
    have Hh:dv xs most=eo (bU xs (cv most)) (List.replicate xs.length 0):=by unfold dv;rw[if_neg (by omega),if_neg (by omega)]
    obtain⟨w2,hr,FF,FN⟩:=il (P:=P) (w:=w1) iD (by omega) (m:=n) (by omega);refine⟨_,_,_,w2,hr,?_⟩;have FF:cV w2 w1.heap.size 3 n (aS (List.replicate xs.length 0)):=by
      simpa[aS,hn]using FF
    have fin:∀ w3 ys,ys=dv xs most->cV w3 w1.heap.size 3 n (aS ys)->w2.grownBy w3 (some w1.heap.size)->∃(A':OA)(n' c':Nat),Ending.returned (.slice (some ⟨w1.heap.size,0,none⟩) n n)=.returned (.slice A' n' c')/\cP w3 w.heap.size 3 A' n' c' (aS (dv xs most))/\w.grownBy w3 none:=by
      intro w3 ys IK h3 h4;subst IK;have h5:=h3.ownsRow hg.size (by simp only[maxLen];omega);have:(aS (dv xs most)).length=n:=by rw[Hh];simp[aS,dB,hn]
      rw[this]at h5;exact⟨_,_,_,rfl,h5,aN (aA hg FN) h4 (by intro k hk;cases hk;exact hg.size)⟩
    have Gt:=ho.kept FN;have MG:∀ x∈C,dX w2 (some w1.heap.size) x:=fun x hx=>((hC x hx).away (Nat.le_refl _)).keep_none FN;have Me:w1.heap.size<w2.heap.size:=FF.lt;refine⟨fun w3=>(C.length=1->∃ ys,ys=dv xs most/\cV w3 w1.heap.size 3 n (aS ys))/\(C.length≠1->w3=w2)/\w2.grownBy w3 (some w1.heap.size),⟨fun h1=>?_,fun h1=>⟨fun h=>by omega,fun _=>rfl,aC _ _⟩⟩,?_⟩
    · obtain⟨x,hx⟩:∃ x,C=[x]:=List.length_eq_one_iff.1 (by omega);have IB:aL xs=[cG x]:=by rw[← KW,hx];rfl
      obtain⟨_,_,s,GS,GR⟩:=jP (xs:=xs) (x:=cG x) (by rw[IB];simp);have Qh:x.syms=[s]:=GS;obtain⟨srow,sn1,sn2,_⟩:=MG x (by rw[hx];simp);obtain⟨b,Hc,FX⟩:=srow 0 (.int .i64 (s:Int)) (by simp[mS,Qh]);have Gj:aZ w2 A1 (ic [x]):=by rw[← hx];exact Gt.row
      obtain⟨a,e1,e2⟩:=Gj 1 (.slice x.A x.n x.c) (by simp[ic,i6]);have V9:b.add 0=b:=by simp[Addr.add]
      rw[V9]at FX;have ts:(s:Int).toNat=s:=by omega
      have FK:=FF.cell (j:=s) (u:=.int .i64 0) (by simp[aS,GR]);refine⟨a,e1,by omega,by omega,x.A,x.n,x.c,e2,b,Hc,by omega,by omega,(s:Int),FX,_,rfl,by omega,by omega,⟨_,by rw[ts];exact FK⟩,FF.notFrozen (aK _ _),?_⟩;rw[ts];have Gh:=FF.set (j:=s) (by simpa[aS]using GR) (.int .i64 1);refine⟨fun _=>⟨(List.replicate xs.length 0).set s 1,?_,by simpa[aS,List.map_set]using Gh⟩,fun h=>by omega,bD (aC _ _) (aK _ _) _⟩;rw[Hh];have:bU xs (cv most)=[s]:=by unfold bU;rw[IB];simp[GS]
      rw[this];simp[eo,qR,GR]
    · rintro w3 ⟨MI,Pl,Gb⟩;refine⟨fun Gn=>?_,fun HV=>?_⟩
      · by_cases h1:C.length=1
        · obtain⟨ys,e1,e2⟩:=MI h1;exact fin w3 ys e1 e2 Gb
        · have:=Pl h1;subst this;refine fin _ (List.replicate xs.length 0) ?_ FF (aC _ _);have Qv:aL xs=[]:=List.eq_nil_of_length_eq_zero (by omega);rw[Hh];have:bU xs (cv most)=[]:=by unfold bU;rw[Qv];simp[wU]
          rw[this];rfl
      · have := Pl (by omega);subst this;clear MI Pl Gb;refine⟨fun ms lA ln lc i w4=>∃(k:Nat)(O:List RC),i=((k+1:Nat):Int)/\k<=cv most-1/\ms=cv most-1-k/\aE w4 w.heap.size 232 2 lA ln lc (ic O)/\ln=O.length/\(∀ x∈O,dX w4 (some w1.heap.size) x)/\O.map cG=i7 (aL xs) k/\w3.grownBy w4 none,
          ⟨_,0,C,rfl,by omega,rfl,Gt,HU,MG,KW,aC _ _⟩,?_⟩
        rintro ms lA ln lc i w4 ⟨k,O,rfl,hk,rfl,GJ,QF,hO,Kr,FS⟩;have MA:O.length=(i7 (aL xs) k).length:=by rw[← Kr];simp
        have HK:=qF (aL xs) k;have Hk:=gj xs;have Ja:∀ x∈O,Fine xs.length k (cG x):=fun x hx=>pY xs k _ (by rw[← Kr];exact List.mem_map_of_mem hx);have Hx:2^k<=2^15:=Nat.pow_le_pow_right (by omega) (by omega);refine⟨fun FE=>?_,fun FJ=>?_⟩
        · refine(wR (C:=C) (L:=O) (G:=some w1.heap.size) (Gt.kept FS).row GJ.row HU QF (fun x hx=>(MG x hx).keep_none FS) hO (fun g hg=>by cases hg;exact Nat.lt_of_lt_of_le Me FS.size) HX.1 (by omega) (by omega) (fun x hx=>?_) (by omega)).mono fun ev w5 hh=>?_
          · obtain⟨f1,f2,f3,f4⟩:=Ja x hx;have hp:(2:Int)^k<=2^15:=by
              have e1:((2^k:Nat):Int)=2^k:=by simp
              have e2:((2^15:Nat):Int)=2^15:=by simp
              omega
            have f1':0<x.count:=f1;have f2':x.count<=1099511627776*2^k:=f2;have f3':x.syms.length<=2^k:=f3;exact⟨by omega,by omega,by omega⟩
          · obtain⟨A4,n4,c4,O4,rfl,q1,q2,q3,q4,q5⟩:=hh;refine⟨A4,n4,c4,rfl,by omega,cv most-1-(k+1),by omega,k+1,O4,by omega,by omega,rfl,q1.mono (Nat.le_trans hg.size (Nat.le_trans FN.size FS.size)),q2,q3,?_,aA FS q5⟩;rw[q4,KW,Kr];rfl
        · have Gc:k=cv most-1:=by omega
          have JU:=ui Oo (first:=aL xs) (by omega);rw[← Gc]at JU;have HW:bU xs (cv most)=((i7 (aL xs) k).take (2*(aL xs).length-2)).flatMap Prod.snd:=by
            unfold bU;rw[if_neg (by omega),Gc]
          have Oa:cV w4 w1.heap.size 3 n (aS (List.replicate xs.length 0)):=FF.kept_none FS;have NI:∀ w5,w4.grownBy w5 (some w1.heap.size)->aZ w5 lA (ic O):=by
            intro w5 h5;refine GJ.row.kept h5 ?_;intro a ha e;simp only[Option.some.injEq]at e;rcases GJ.cases.2 with⟨h,_⟩ | ⟨g,cur,h,_,_,_,PB,_⟩
            · rw[ha]at h;cases h
            · rw[ha]at h;cases h;obtain⟨cur',e2,_⟩:=Oa;simp only at e;rw[e,e2]at PB;cases PB
          refine⟨fun ms i w5=>∃(j:Nat)(ys:List Int),i=(j:Int)/\j<=2*(aL xs).length-2/\ms=2*(aL xs).length-2-j/\ys=eo (((i7 (aL xs) k).take j).flatMap Prod.snd) (List.replicate xs.length 0)/\cV w5 w1.heap.size 3 n (aS ys)/\w4.grownBy w5 (some w1.heap.size),
            ⟨_,0,List.replicate xs.length 0,rfl,by omega,rfl,by simp[eo],Oa,aC _ _⟩,?_⟩
          rintro ms i w5 ⟨j,ys,rfl,hj,rfl,IK,I9,Hr⟩;have Sc:ys.length=n:=by rw[IK,dB];simp[hn]
          refine⟨by omega,by omega,fun FE=>⟨fun Gn=>?_,fun OG=>by omega⟩,fun OG=>?_⟩
          · have Mb:j<O.length:=by omega
            have tj:(j:Int).toNat=j:=by omega
            rw[tj];obtain⟨f1,f2,f3,f4⟩:=Ja _ (List.getElem_mem Mb);have f3':O[j].syms.length<=2^k:=f3;have f4':∀ s∈O[j].syms,s<xs.length:=f4;obtain⟨sr,sl,_,sb⟩:=hO _ (List.getElem_mem Mb);have M8:=Dq (l:=(i7 (aL xs) k).take j) (B:=2^15) (fun x hx=>by have:=(pY xs k x (List.mem_of_mem_take hx)).2.2.1;omega);have VB:((i7 (aL xs) k).take j).length<=512:=by simp;omega
            have Kz:=gx (((i7 (aL xs) k).take j).flatMap Prod.snd) (xs:=List.replicate xs.length 0) (B:=0) (by simp) (by omega);rw[← IK]at Kz;refine⟨fun ms2 kk w6=>∃ t:Nat,kk=(t:Int)/\t<=O[j].syms.length/\ms2=O[j].syms.length-t/\cV w6 w1.heap.size 3 n (aS (eo (O[j].syms.take t) ys))/\w5.grownBy w6 (some w1.heap.size),
              ⟨_,0,rfl,by omega,rfl,by simpa[eo]using I9,aC _ _⟩,?_⟩
            rintro ms2 kk w6 ⟨t,rfl,ht,rfl,HG,Ho⟩;have Kt:=aA Hr Ho;obtain⟨a,e1,e2,e3⟩:=oI (NI w6 Kt) Mb;refine⟨a,e1,by omega,by omega,_,_,_,e3,fun U0=>?_,fun OG=>?_⟩
            · have lt:t<O[j].syms.length:=by omega
              have tt:(t:Int).toNat=t:=by omega
              rw[tt];obtain⟨b,Hc,FX⟩:=(sr.kept Kt (fun a ha=>(sb a ha).1)) t (.int .i64 (O[j].syms[t]:Int)) (by simp[mS,lt]);have Uu:O[j].syms[t]<xs.length:=f4' _ (List.getElem_mem lt);have ts:(O[j].syms[t]:Int).toNat=O[j].syms[t]:=by omega
              have P0:(eo (O[j].syms.take t) ys).length=xs.length:=by rw[dB];omega
              have FK:=HG.cell (j:=O[j].syms[t]) (u:=.int .i64 ((eo (O[j].syms.take t) ys).getD O[j].syms[t] 0)) (by simp[aS,P0,Uu,List.getD_eq_getElem?_getD]);have T5:=gx (O[j].syms.take t) Kz (by omega);have hv:=T5 ((eo (O[j].syms.take t) ys).getD O[j].syms[t] 0) (by
                rw[List.getD_eq_getElem?_getD,List.getElem?_eq_getElem (by omega)];exact List.getElem_mem _)
              have JA:(O[j].syms.take t).length=t:=by simp;omega
              refine⟨a,e1,by omega,by omega,_,_,_,e3,b,Hc,by omega,by omega,(O[j].syms[t]:Int),FX,_,rfl,by omega,by omega,_,by rw[ts];exact FK,by omega,_,rfl,by omega,by omega,⟨_,by rw[ts];exact FK⟩,HG.notFrozen (aK _ _),by omega,O[j].syms.length-(t+1),by omega,t+1,by omega,by omega,rfl,?_,?_⟩
              · rw[ts,List.take_succ_eq_append_getElem lt,gU];have Gh:=HG.set (j:=O[j].syms[t]) (by simp[aS];omega) (.int .i64 ((eo (O[j].syms.take t) ys).getD O[j].syms[t] 0+1));simpa[aS,List.map_set,eo,qR]using Gh
              · exact bD Ho (aK _ _) _
            · have:t=O[j].syms.length:=by omega
              subst this;rw[List.take_length]at HG;refine⟨by omega,2*(aL xs).length-2-(j+1),by omega,j+1,_,by omega,by omega,rfl,?_,HG,Kt⟩;have Gq:j<(i7 (aL xs) k).length:=by omega
              have:(i7 (aL xs) k)[j]=cG O[j]:=by simp[← Kr]
              rw[IK,List.take_succ_eq_append_getElem Gq,List.flatMap_append,gU,this];simp[cG]
          · have GL:j=2*(aL xs).length-2:=by omega
            refine fin w5 ys ?_ I9 (aA (bF FS) Hr);rw[IK,Hh,HW,GL]
end Go.Proofs.YtlieaecnllkefaaGreat

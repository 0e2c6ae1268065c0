/- Own texts, packed: D1, D2, D3, D4, D5, E0, E1, E2, E3, E4. -/
import Derived.Test.YtlieaecnllkefaaGreatGXg
import Derived.Test.YtlieaecnllkefaaGreatGDg
import Derived.Test.YtlieaecnllkefaaGreatGCg
import Derived.Test.YtlieaecnllkefaaGreatGBg
import Derived.KernelRfl
set_option linter.unusedVariables false
set_option linter.unusedSimpArgs false
set_option maxHeartbeats 4000000
set_option maxRecDepth 100000
namespace Go.Proofs.YtlieaecnllkefaaGreat
open Go Go.V Go.RowKit
theorem qe:CT P 216 218 (.pointer none) 8:=⟨(P.info? 218).getD default,by kernel_rfl,by kernel_rfl,by kernel_rfl,by kernel_rfl,by kernel_rfl,by kernel_rfl⟩
theorem jh:CT P 33 3 (.int .i64 0) 8:=⟨(P.info? 3).getD default,by kernel_rfl,by kernel_rfl,by kernel_rfl,by kernel_rfl,by kernel_rfl,by kernel_rfl⟩
inductive fH (w:World):Addr->Int->List Nat->Prop
  | coin {k:Nat} {c:Int} {s:Nat} {y:Value}:w.heap[k]?=some (.cells #[.int .i64 c,.int .i64 (s:Int),.pointer none,y] 221 (0,0))->fH w ⟨k,0,none⟩ c [s]
  | pack {k:Nat} {c1 c2:Int} {s1 s2:List Nat} {z:Value} {p q:Addr}:w.heap[k]?=some (.cells #[.int .i64 (c1+c2),z,.pointer (some p),.pointer (some q)] 221 (0,0)) →
      fH w p c1 s1->fH w q c2 s2->fH w ⟨k,0,none⟩ (c1+c2) (s1++s2)
def Is(w:World)(x:OA×bU):Prop:=∃ a,x.1=some a/\fH w a x.2.1 x.2.2
def cM(w w':World):Prop:=∀(k:Nat)(cur:Array Value),w.heap[k]?=some (Obj.cells cur 221 (0,0))->w'.heap[k]?=some (Obj.cells cur 221 (0,0))
theorem cM.refl(w:World):cM w w:=fun _ _ h=>h
theorem cM.trans{a b c:World}(h:cM a b)(h':cM b c):cM a c:=fun k cur hk=>h' k cur (h k cur hk)
theorem sj{w w':World}{r:Option Nat}(hg:w.grownBy w' r)(hr:∀ g,r=some g->∃(cur:Array Value)(e:TypeId)(fr:Nat×Nat),w.heap[g]?=some (Obj.cells cur e fr)/\e≠221):cM w w':=by
 intro k cur hk;rw[hg.block k (Array.getElem?_eq_some_iff.1 hk).1,hk];intro e;obtain⟨cur',e',fr,h1,h2⟩:=hr k e.symm;rw[hk]at h1;cases h1;exact h2 rfl
theorem dz{w w':World}(hg:w.grownBy w' none):cM w w':=sj hg (by simp)
theorem lr{w w':World}{g cap:Nat}{e:TypeId}{xs:List Value}(ho:cQ w g e cap xs)(he:e≠221)(hg:w.grownBy w' (some g)):cM w w' :=
 sj hg fun g' e'=>by
  cases e';obtain⟨cur,h1,_⟩:=ho;exact⟨cur,e,_,h1,he⟩
theorem mY{w w':World}{base n c:Nat}{e:TypeId}{A:OA}{xs:List Value}(ho:cP w base e A n c xs)(he:e≠221)(hg:w.grownBy w' (Value.slice A n c).ownBlock):cM w w':=by
 obtain⟨_,h | ⟨g,rfl,_,_,_,h⟩⟩:=ho.cases
 ·obtain⟨rfl,_⟩:=h;exact dz hg
 ·exact lr h he hg
theorem fH.keep{w w':World}(hk:cM w w'){a:Addr}{c:Int}{s:List Nat}(h:fH w a c s):fH w' a c s:=by
 induction h with
 | coin h=>exact .coin (hk _ _ h)
 | pack h _ _ ih1 ih2=>exact .pack (hk _ _ h) ih1 ih2
theorem Is.keep{w w':World}(hk:cM w w'){x:OA×bU}(h:Is w x):Is w' x:=by
 obtain⟨a,h1,h2⟩:=h;exact⟨a,h1,h2.keep hk⟩
theorem fH.count{w:World}{a:Addr}{c:Int}{s:List Nat}(h:fH w a c s):w.cell? a=some (.int .i64 c):=by
 cases h with
 | coin h=>simp[World.cell?,h]
 | pack h _ _=>simp[World.cell?,h]
theorem Aj{n:Int}{w:World}{R:Ending->World->Prop}(h:R (.returned (.int .i64 (cN n))) w):Calls P 176 #[.int .i64 n] w R:=vc176 n w R h
theorem sm{x:Int}{w:World}{R:Ending->World->Prop}(h:R (.returned (.bool false)) w):Calls P 188 #[.int .i64 x] w R:=by
 apply vc188;unfold VC188;simpa using h
theorem om{x y:Int}{w:World}:Calls P 179 #[.int .i64 x,.int .i64 y] w fun ev w'=>∃ c:Int,ev=.returned (.int .i64 c)/\(c<0↔x<y)/\w'=w:=by
 apply vc179;dsimp only[VC179,Br,Bb,cB,iq];refine sm ⟨false,rfl,sm ⟨false,rfl,by simp,fun _=>⟨by simp,fun _=>⟨fun h=>⟨_,rfl,by omega,rfl⟩,fun h=>⟨fun h'=>⟨_,rfl,by omega,rfl⟩,fun h'=>⟨_,rfl,by omega,rfl⟩⟩⟩⟩⟩⟩
def Dq(w:World)(p:OA):Int:=match p with
 | some a=>match w.cell? a with
  | some (.int _ c)=>c
  | _=>0
 | none=>0
theorem xr{w:World}{x:OA×bU}(h:Is w x):Dq w x.1=x.2.1:=by
 obtain⟨a,h1,h2⟩:=h;simp[Dq,h1,h2.count]
theorem DI{w:World}{g cap:Nat}{e:TypeId}{xs:List Value}{L:List (OA×bU)}(ho:cQ w g e cap xs)(he:e≠221)(hL:∀ x∈L,Is w x):kc w g (Dq w) (L.map Prod.fst):=by
 intro w' hg x hx y hy;obtain⟨x,GN,rfl⟩:=List.mem_map.1 hx;obtain⟨y,Hk,rfl⟩:=List.mem_map.1 hy;have hx:=GN;have hy:=Hk;have kx:=hL x hx;have ky:=hL y hy;have hk:=lr ho he hg;show Calls P 178 #[.pointer x.1,.pointer y.1] w' _;apply vc178;dsimp only[VC178,Rd,cI,iq];obtain⟨a,ea,ia⟩:=kx.keep hk;obtain⟨b,eb,ib⟩:=ky.keep hk;refine⟨a,ea,x.2.1,ia.count,b,eb,y.2.1,ib.count,?_⟩;refine om.mono fun ev w2 hh=>?_;obtain⟨c,h1,h2,rfl⟩:=hh;exact⟨c,h1,c,rfl,by rw[h2,xr kx,xr ky],aI (aC _ _)⟩
theorem BE{α β:Type}(f:α->β)(key:β->Int)(key':α->Int)(x:α):∀(l:List α),(∀ y∈x ::l,key (f y)=key' y)->sS key (f x) (l.map f)=(sS key' x l).map f
 | [],_=>rfl
 | y ::ys,h=>by
  have hx:=h x (by simp);have hy:=h y (by simp);have ih:=BE f key key' x ys (fun z hz=>h z (by rcases List.mem_cons.1 hz with e | e <;>simp[e]));simp only[List.map_cons,sS,hx,hy];split
  ·rw[ih];simp
  ·simp
theorem m0{α β:Type}(f:α->β)(key:β->Int)(key':α->Int)(xs:List α)(h:∀ y∈xs,key (f y)=key' y):dj key (xs.map f)=(dj key' xs).map f:=by
 have:∀(xs l:List α),(∀ y∈xs,key (f y)=key' y)->(∀ y∈l,key (f y)=key' y)->aJ key' l->(xs.map f).foldl (fun l x=>sS key x l) (l.map f)=(xs.foldl (fun l x=>sS key' x l) l).map f:=by
  intro xs
  induction xs with
  | nil=>intros;rfl
  | cons x xs ih =>
   intro l h1 h2 h3;simp only[List.map_cons,List.foldl_cons];rw[BE f key key' x l (fun z hz=>by rcases List.mem_cons.1 hz with e | e;exact h1 z (by simp[e]);exact h2 z e)];refine ih _ (fun y hy=>h1 y (by simp[hy])) (fun y hy=>?_) (pj x h3);rcases List.mem_append.1 ((p7 (key:=key') x h3).mem hy)with e | e
   ·exact h2 y e
   ·have:y=x:=by simpa using e
    rw[this];exact h1 x (by simp)
 simpa[dj]using this xs [] h (by simp) (by simp[aJ])
theorem zR{w:World}:Calls P 177 #[.slice none 0 0,.func (.func 178) #[] #[]] w fun ev w'=>ev=.returned (.tuple #[])/\w.grownBy w' none:=by
 apply vc177;dsimp only[VC177,rt,cU,iq];have h:Calls P 187 #[.slice none 0 0,.int .i64 0,.func (.func 178) #[] #[]] w fun ev w'=>ev=.returned (.tuple #[])/\w.grownBy w' none:=by
  apply vc187;dsimp only[VC187,rt,Br,cU,iq];refine⟨fun m a b w'=>m=0/\a=0/\b=20/\w'=w,⟨0,rfl,rfl,rfl,rfl⟩,?_⟩;rintro m a b w' ⟨rfl,rfl,rfl,rfl⟩;refine⟨fun h=>by omega,fun h=>?_⟩;have h2:Calls P 191 #[.slice none 0 0,.int .i64 0,.int .i64 0,.func (.func 178) #[] #[]] w' fun ev w2=>ev=.returned (.tuple #[])/\w'=w2:=by
   apply vc191;dsimp only[VC191,rt,Wt,Br,Ix,cI]
   try simp only[aG]
   refine⟨by omega,fun m i w2=>i=1/\w2=w',⟨0,by omega,rfl⟩,?_⟩;rintro m i w2 ⟨rfl,rfl⟩;exact⟨fun h=>by omega,fun h=>⟨trivial,rfl⟩⟩
  refine h2.mono fun ev w2 hh=>?_;obtain⟨h3,rfl⟩:=hh;refine⟨h3,fun m s w3=>s=20/\w3=w',⟨0,rfl,rfl⟩,?_⟩;rintro m s w3 ⟨rfl,rfl⟩;exact⟨fun h=>by omega,fun h=>⟨rfl,aC _ _⟩⟩
 refine h.mono fun ev w' hh=>?_;exact⟨hh.1,rfl,hh.2⟩
abbrev lT(L:List (OA×bU)):List Value:=(L.map Prod.fst).map Value.pointer
theorem ze {w:World} {A:OA} {n c:Nat} {xs:List Int} (Gj:aZ w A (xs.map (Value.int .i64))) (hn:n=xs.length) (GB:n<=2^30) :
    Calls P 152 #[.slice A n c] w fun ev w'=>∃ (A':OA) (n' c':Nat) (L:List (OA×bU)),ev=.returned (.slice A' n' c')/\cP w' w.heap.size 218 A' n' c' (lT L)/\(∀ x∈L,Is w' x)/\L.map Prod.snd=aK xs/\w.grownBy w' none:=by
  apply vc152;dsimp only[VC152,Br,Rd,Ix,cI,cU,nb,iq]
  try simp only[aG]
  refine⟨fun m A' n' c' i w'=>∃ (k:Nat) (L:List (OA×bU)),i=(k:Int)/\k<=xs.length/\m=xs.length-k/\cP w' w.heap.size 218 A' n' c' (lT L)/\(∀ x∈L,Is w' x)/\L.map Prod.snd=aV 0 (xs.take k)/\L.length<=k/\w.grownBy w' none,
    ⟨_,0,[],rfl,by omega,rfl,World.ownsRow_nil _ _ _ _,by simp,by simp[aV],by simp,aC _ _⟩,?_⟩
  rintro m A' n' c' i w' ⟨k,L,rfl,hk,rfl,ho,hL,Kf,XX,hg⟩;refine⟨fun FP=>?_,fun FU=>?_⟩
  · have Gi:k<xs.length:=by omega
    obtain⟨a,h1,h2⟩:=(Gj.kept_none hg) k (.int .i64 xs[k]) (by simp[Gi]);have Lj:aV 0 (xs.take (k+1))=aV 0 (xs.take k)++aV k [xs[k]]:=by
      rw[List.take_succ_eq_append_getElem Gi,gl];simp[Nat.min_eq_left hk]
    refine⟨a,h1,by omega,by omega,xs[k],by simpa using h2,fun FX=>?_,fun FX=>?_⟩
    · refine Aj ⟨_,rfl,?_⟩;have g1:=World.grownBy_alloc w' (.cells #[(.int .i64 (cN xs[k])),(.int .i64 (k:Int)),(.pointer none),(.pointer none)] 221) none;have b1:(w'.alloc (.cells #[(.int .i64 (cN xs[k])),(.int .i64 (k:Int)),(.pointer none),(.pointer none)] 221)).heap[w'.heap.size]?=some (.cells #[(.int .i64 (cN xs[k])),(.int .i64 (k:Int)),(.pointer none),(.pointer none)] 221):=heap_alloc_new w' _;generalize w'.alloc (.cells #[(.int .i64 (cN xs[k])),(.int .i64 (k:Int)),(.pointer none),(.pointer none)] 221)=w1 at *;have g2:=World.grownBy_alloc w1 (.cells #[.pointer (some ⟨w'.heap.size,0,none⟩)] 218) none;have b2:(w1.alloc (.cells #[.pointer (some ⟨w'.heap.size,0,none⟩)] 218)).cell? ⟨w1.heap.size,0,none⟩=some (.pointer (some ⟨w'.heap.size,0,none⟩)):=by simp
      generalize w1.alloc (.cells #[.pointer (some ⟨w'.heap.size,0,none⟩)] 218)=w2 at *;have Gz:=(ho.kept g1).kept g2;obtain⟨A2,n2,c2,w3,h3,h4,h5⟩:=Gz.append1 (ty:=216) qe (by omega) (cc:=1) b2 rfl (by rw[ho.cases.1];simp;omega) (Nat.le_trans hg.size (Nat.le_trans g1.size g2.size));have SM:cM w1 w3:=(dz g2).trans (mY Gz (by decide) h5);refine⟨A2,n2,c2,w3,h3,by omega,xs.length-(k+1),by omega,k+1,L++[(some ⟨w'.heap.size,0,none⟩,(cN xs[k],[k]))],by omega,by omega,rfl,by simpa using h4,?_,?_,by simp;omega,?_⟩
      · intro x hx;rcases List.mem_append.1 hx with e | e
        · exact((hL x e).keep (dz g1)).keep SM
        · have:x=(some ⟨w'.heap.size,0,none⟩,(cN xs[k],[k])):=by simpa using e
          subst this;exact⟨_,rfl,(fH.coin b1).keep SM⟩
      · rw[Lj,List.map_append,Kf];simp[aV,FX]
      · exact aN (aA (aA hg g1) g2) h5 Gz.block_ge
    · refine⟨by omega,xs.length-(k+1),by omega,k+1,L,by omega,by omega,rfl,ho,hL,?_,by omega,hg⟩;rw[Lj,Kf];simp[aV,FX]
  · have Gi:k=xs.length:=by omega
    subst Gi;rw[List.take_length]at Kf;obtain⟨hl,h | ⟨g,rfl,hb,hc,MZ,IR⟩⟩:=ho.cases
    · obtain⟨rfl,rfl,rfl,hx⟩:=h;have:L=[]:=by simpa using hx
      subst this;refine zR.mono fun ev w2 hh=>?_;refine⟨hh.1,none,0,0,[],rfl,World.ownsRow_nil _ _ _ _,by simp,?_,aA hg hh.2⟩;unfold aK;rw[← Kf];rfl
    · have Ja:n'=L.length:=by simpa using hl
      refine(Es (key:=Dq w') IR (DI IR (by decide) hL) (by simpa using hl) (by omega)).mono fun ev w2 hh=>?_;obtain⟨h1,h2,h3⟩:=hh;have Ia:=lr IR (by decide) h3;have hm:dj (Dq w') (L.map Prod.fst)=(dj (fun x=>x.2.1) L).map Prod.fst:=m0 _ _ _ _ (fun y hy=>xr (hL y hy));have hs:aR (fun x:OA×bU=>x.2.1) (dj (fun x=>x.2.1) L) L:=iH L;rw[hm]at h2;refine⟨h1,_,n',c',dj (fun x=>x.2.1) L,rfl,?_,fun x hx=>(hL x (hs.mem hx)).keep Ia,?_,?_⟩
      · have:=h2.ownsRow hb hc;simp only[List.length_map,hs.length,← Ja]at this;exact this
      · have:=m0 Prod.snd (Prod.fst:bU->Int) (fun x:OA×bU=>x.2.1) L (fun _ _=>rfl);rw[← this,Kf];rfl
      · exact aN hg h3 (by intro k hk;cases hk;exact hb)
theorem pU{L:List (OA×bU)}{i:Nat}(h:i<L.length):(lT L)[i]?=some (.pointer L[i].1):=by simp[lT,h]
theorem xg {w:World} {A B:OA} {n c m d:Nat} {C L:List (OA×bU)} (hA:aZ w A (lT C)) (hB:aZ w B (lT L)) (hn:n=C.length) (hm:m=L.length)
    (hC:∀ x∈C,Is w x) (hL:∀ x∈L,Is w x) (VN:n<=c) (Hd:A=none->c=0) (Oj:n<=2^30) (SH:m<=2^30) (hb:∀ x∈L,0<=x.2.1/\x.2.1<=2^60) :
    Calls P 153 #[.slice A n c,.slice B m d] w fun ev w'=>∃ (A':OA) (n' c':Nat) (O:List (OA×bU)),ev=.returned (.slice A' n' c')/\cP w' w.heap.size 218 A' n' c' (lT O)/\(∀ x∈O,Is w' x) ∧
      O.map Prod.snd=eH (C.map Prod.snd) (L.map Prod.snd)/\w.grownBy w' none:=by
  apply vc153;dsimp only[VC153,Br,Rd,Ix,Ap,iq]
  try simp only[aG]
  refine⟨fun ms A' n' c' k i w'=>∃ (kn j:Nat) (O:List (OA×bU)),k=(kn:Int)/\i=((2*j:Nat):Int)/\kn<=C.length/\2*j<=L.length/\O.length<=kn+j/\ms=L.length-2*j/\cP w' w.heap.size 218 A' n' c' (lT O)/\(∀ x∈O,Is w' x) ∧
      O.map Prod.snd++cO ((C.drop kn).map Prod.snd) (df ((L.drop (2*j)).map Prod.snd))=eH (C.map Prod.snd) (L.map Prod.snd)/\w.grownBy w' none,
    ⟨_,0,0,[],rfl,rfl,by omega,by omega,by simp,rfl,World.ownsRow_nil _ _ _ _,by simp,by simp[eH],aC _ _⟩,?_⟩
  rintro ms A' n' c' k i w' ⟨kn,j,O,rfl,rfl,hk,hj,MF,rfl,ho,hO,Ha,hg⟩;refine⟨by omega,fun FP=>?_,fun FU=>?_⟩
  · have l1 :2*j<L.length:=by omega
    have l2:2*j+1<L.length:=by omega
    -- the two items
    obtain⟨a,ea,ia⟩:=(hL _ (List.getElem_mem l1)).keep (dz hg);obtain⟨b,eb,ib⟩:=(hL _ (List.getElem_mem l2)).keep (dz hg);have ba:=hb _ (List.getElem_mem l1);have bb:=hb _ (List.getElem_mem l2);have Gn:L.drop (2*j)=L[2*j] ::L[2*j+1] ::L.drop (2*(j+1)):=by
      rw[List.drop_eq_getElem_cons l1,List.drop_eq_getElem_cons l2];rfl
    obtain⟨r,HN,I8⟩:=(hB.kept_none hg) _ _ (pU l1);obtain⟨r',NR,NQ⟩:=(hB.kept_none hg) _ _ (pU l2);obtain rfl:r'=r:=by rw[HN]at NR;cases NR;rfl
    have t1:((2*j:Nat):Int).toNat=2*j:=by omega
    have t2:(((2*j:Nat):Int)+1).toNat=2*j+1:=by omega
    refine⟨r',HN,by omega,by omega,L[2*j].1,by rw[t1];exact I8,a,ea,L[2*j].2.1,ia.count,by omega,r',HN,by omega,by omega,L[2*j+1].1,by rw[t2];exact NQ,b,eb,L[2*j+1].2.1,ib.count,by omega,
      r',HN,by omega,by omega,L[2*j].1,by rw[t1];exact I8,by omega,r',HN,by omega,by omega,L[2*j+1].1,by rw[t2];exact NQ,?_⟩
    rw[ea,eb];generalize Mn:L[2*j].2=ca at *;generalize Mm:L[2*j+1].2=cb at *;have gd:=aI (aC w' none);have sd:w'.drew.heap.size=w'.heap.size:=rfl;generalize w'.drew=wd at *;have g1:=World.grownBy_alloc wd (.cells #[.int .i64 (ca.1+cb.1),.int .i64 0,.pointer (some a),.pointer (some b)] 221) none;have b1:(wd.alloc (.cells #[.int .i64 (ca.1+cb.1),.int .i64 0,.pointer (some a),.pointer (some b)] 221)).heap[wd.heap.size]?=some (.cells #[.int .i64 (ca.1+cb.1),.int .i64 0,.pointer (some a),.pointer (some b)] 221):=heap_alloc_new wd _;generalize wd.alloc (.cells #[.int .i64 (ca.1+cb.1),.int .i64 0,.pointer (some a),.pointer (some b)] 221)=w1 at *;have kd1:cM w' w1:=(dz gd).trans (dz g1);have ip:fH w1 ⟨wd.heap.size,0,none⟩ (ca.1+cb.1) (ca.2++cb.2):=.pack b1 (ia.keep kd1) (ib.keep kd1);have HJ:w.grownBy w1 none:=aA (aA hg gd) g1
    -- coins ahead of the package
    refine⟨fun ms A2 n2 c2 k2 w2=>∃ (kn:Nat) (O:List (OA×bU)),k2=(kn:Int)/\kn<=C.length/\O.length<=kn+j/\ms=C.length-kn/\cP w2 w.heap.size 218 A2 n2 c2 (lT O)/\(∀ x∈O,Is w2 x) ∧
        O.map Prod.snd++cO ((C.drop kn).map Prod.snd) ((ca.1+cb.1,ca.2++cb.2) ::df ((L.drop (2*(j+1))).map Prod.snd))=eH (C.map Prod.snd) (L.map Prod.snd)/\w.grownBy w2 none/\cM w1 w2,
      ⟨_,kn,O,rfl,hk,by omega,rfl,(ho.kept gd).kept g1,fun x hx=>(hO x hx).keep kd1,?_,HJ,cM.refl _⟩,?_⟩
    · rw[← Ha,Gn];simp only[List.map_cons,df,Mn,Mm]
    clear Ha ho hO MF hk;rintro ms A2 n2 c2 k2 w2 ⟨kn,O,rfl,hk,MF,rfl,ho,hO,Ha,FY,Ia⟩;have ip2:=ip.keep Ia
    -- the package behind the coins
    have one:∀(u:OA),∃(A4:OA)(n4 c4:Nat),∃ w4:World,
        Sem.run P (Builtin.append_ #[216,216] 216 #[.slice A2 n2 c2,.slice (some ⟨w2.drew.heap.size,0,none⟩) 1 1]) (w2.drew.alloc (.cells #[.pointer u] 218))=.ok (.slice A4 n4 c4) w4 ∧
        cP w4 w.heap.size 218 A4 n4 c4 (lT O++[.pointer u])/\w.grownBy w4 none/\cM w2 w4:=by
      intro u;have g3:=aI (aC w2 none);have s3:w2.drew.heap.size=w2.heap.size:=rfl;generalize w2.drew=w3 at *;have g4:=World.grownBy_alloc w3 (.cells #[.pointer u] 218) none;have b4:(w3.alloc (.cells #[.pointer u] 218)).cell? ⟨w3.heap.size,0,none⟩=some (.pointer u):=by simp
      generalize w3.alloc (.cells #[.pointer u] 218)=w4 at *;have GU:=(ho.kept g3).kept g4;obtain⟨A5,n5,c5,w5,h3,h4,h5⟩:=GU.append1 (ty:=216) qe (by omega) (cc:=1) b4 rfl (by rw[ho.cases.1];simp;omega) (Nat.le_trans FY.size (Nat.le_trans g3.size g4.size));exact⟨A5,n5,c5,w5,h3,h4,aN (aA (aA FY g3) g4) h5 GU.block_ge,((dz g3).trans (dz g4)).trans (mY GU (by decide) h5)⟩
    have last:(∀ ps,cO ((C.drop kn).map Prod.snd) ((ca.1+cb.1,ca.2++cb.2) ::ps)=(ca.1+cb.1,ca.2++cb.2) ::cO ((C.drop kn).map Prod.snd) ps)->∃(A4:OA)(n4 c4:Nat),∃ w4:World,
        Sem.run P (Builtin.append_ #[216,216] 216 #[.slice A2 n2 c2,.slice (some ⟨w2.drew.heap.size,0,none⟩) 1 1]) (w2.drew.alloc (.cells #[.pointer (some ⟨wd.heap.size,0,none⟩)] 218))=.ok (.slice A4 n4 c4) w4 ∧
        (-9223372036854775808<=((2*j:Nat):Int)+2/\((2*j:Nat):Int)+2<=9223372036854775807)/\∃ ms,ms<L.length-2*j/\∃ (kn' j':Nat) (O:List (OA×bU)),(kn:Int)=(kn':Int)/\((2*j:Nat):Int)+2=((2*j':Nat):Int)/\kn'<=C.length/\2*j'<=L.length/\O.length<=kn'+j'/\ms=L.length-2*j'/\cP w4 w.heap.size 218 A4 n4 c4 (lT O)/\(∀ x∈O,Is w4 x) ∧
      O.map Prod.snd++cO ((C.drop kn').map Prod.snd) (df ((L.drop (2*j')).map Prod.snd))=eH (C.map Prod.snd) (L.map Prod.snd)/\w.grownBy w4 none:=by
      intro IU;obtain⟨A4,n4,c4,w4,h1,h2,h3,h4⟩:=one (some ⟨wd.heap.size,0,none⟩);refine⟨A4,n4,c4,w4,h1,by omega,L.length-2*(j+1),by omega,kn,j+1,O++[(some ⟨wd.heap.size,0,none⟩,(ca.1+cb.1,ca.2++cb.2))],rfl,by omega,hk,by omega,by simp;omega,rfl,by simpa[lT]using h2,?_,?_,h3⟩
      · intro x hx;rcases List.mem_append.1 hx with e | e
        · exact(hO x e).keep h4
        · have:x=(some ⟨wd.heap.size,0,none⟩,(ca.1+cb.1,ca.2++cb.2)):=by simpa using e
          subst this;exact⟨_,rfl,ip2.keep h4⟩
      · rw[← Ha,IU];simp
    refine⟨fun GI=>?_,fun Ju=>?_⟩
    · have l3:kn<C.length:=by omega
      obtain⟨e,ee,ie⟩:=(hC _ (List.getElem_mem l3)).keep (dz FY);obtain⟨q,MU,MT⟩:=(hA.kept_none FY) _ _ (pU l3);have LB:(C.drop kn).map Prod.snd=C[kn].2 ::(C.drop (kn+1)).map Prod.snd:=by
        rw[List.drop_eq_getElem_cons l3];rfl
      refine⟨q,MU,by omega,by omega,C[kn].1,MT,e,ee,C[kn].2.1,ie.count,_,rfl,ca.1+cb.1,ip2.count,fun Ga=>?_,fun GV=>?_⟩
      · refine⟨q,MU,by omega,by omega,C[kn].1,MT,?_⟩;obtain⟨A4,n4,c4,w4,h1,h2,h3,h4⟩:=one C[kn].1;refine⟨A4,n4,c4,w4,h1,by omega,C.length-(kn+1),by omega,kn+1,O++[C[kn]],by omega,by omega,by simp;omega,rfl,by simpa[lT]using h2,?_,?_,h3,Ia.trans h4⟩
        · intro x hx;rcases List.mem_append.1 hx with e | e
          · exact(hO x e).keep h4
          · have:x=C[kn]:=by simpa using e
            subst this;exact((hC _ (List.getElem_mem l3)).keep (dz FY)).keep h4
        · rw[← Ha,LB,kZ Ga];simp
      · refine last fun ps=>?_;rw[LB];exact k8 GV
    · have:kn=C.length:=by omega
      refine last fun ps=>?_;rw[this,List.drop_length];exact mW
  · -- the rest of the coins
    have HV:df ((L.drop (2*j)).map Prod.snd)=[]:=by
      have:(L.drop (2*j)).length<=1:=by simp;omega
      match h:L.drop (2*j)with
      | []=>rfl
      | [x]=>simp[df]
      | x ::y ::r=>rw[h]at this;simp at this
    rw[HV]at Ha;simp only[cO]at Ha;have fin:∀ w5,w'.grownBy w5 (Value.slice A' n' c').ownBlock->cM w' w5/\w.grownBy w5 none:=fun w5 h5=>⟨mY ho (by decide) h5,aN hg h5 ho.block_ge⟩;have kt:(kn:Int).toNat=kn:=by omega
    refine⟨by omega,?_⟩;rw[kt];cases A with
    | none =>
      have GM:=Hd rfl;have WF:C=[]:=List.eq_nil_of_length_eq_zero (by omega);subst WF;obtain⟨i,e1,e2,_⟩:=qe.ex;have hr:=run_append_owned_none (P:=P) w' w.heap.size 216 216 218 i 1 e1 e2 _ _ _ ho;have KH:kn=0:=by simpa using hk
      subst KH;refine⟨A',n',c',w',?_,A',n',c',O,rfl,ho,hO,?_,hg⟩
      · have:(.slice (bK none c 0 1) (n-0) (c-0):Value)=.slice none 0 0:=by
          have:n=0:=by simpa using hn
          subst this;subst GM;rfl
        rw[this];exact hr
      · rw[← Ha];simp
    | some a =>
      have Gj:∃ a',bK (some a) c kn 1=some a'/\∀ j u,(lT (C.drop kn))[j]?=some u->w'.cell? (a'.add j)=some u:=by
        by_cases GW:c=kn
        · refine⟨a,by simp[bK,GW],fun j u hj=>?_⟩;have:C.drop kn=[]:=List.drop_eq_nil_of_le (by omega);rw[this]at hj;simp at hj
        · refine⟨a.add kn,by simp[bK,GW],fun j u hj=>?_⟩;obtain⟨a2,h1,h2⟩:=((hA.kept_none hg).drop kn) j u (by simpa[lT]using hj);cases h1;exact h2
      obtain⟨a',Ge,Gb⟩:=Gj;obtain⟨A4,n4,c4,w4,h1,h2,h3⟩:=ho.appends (ty:=216) qe (by omega) (cc:=c-kn) (m:=n-kn) (by simp;omega) Gb (fun u hu=>by obtain⟨x,_,rfl⟩:=List.mem_map.1 hu;rfl) (by rw[ho.cases.1];simp;omega) hg.size;obtain⟨f1,f2⟩:=fin w4 h3;refine⟨A4,n4,c4,w4,by rw[Ge];exact h1,A4,n4,c4,O++C.drop kn,rfl,by simpa[lT]using h2,?_,?_,f2⟩
      · intro x hx;rcases List.mem_append.1 hx with e | e
        · exact(hO x e).keep f1
        · exact((hC x (List.mem_of_mem_drop e)).keep (dz hg)).keep f1
      · rw[← Ha];simp
theorem lB{w:World}{k j:Nat}{cur:Array Value}{e:TypeId}{fr:Nat×Nat}(h:w.heap[k]?=some (.cells cur e fr)):w.cell? ((⟨k,0,none⟩:Addr).add j)=cur[j]?:=by
 rw[aP,World.cell?,h];rfl
theorem fH.pos{w:World}{a:Addr}{c:Int}{s:List Nat}(h:fH w a c s):0<s.length:=by
 induction h with
 | coin _=>simp
 | pack _ _ _ ih _=>simp;omega
theorem fH.single{w:World}{a:Addr}{c:Int}{t:List Nat}(h:fH w a c t){s:Nat}(ht:t=[s]):w.cell? (a.add 1)=some (.int .i64 (s:Int)):=by
 cases h with
 | coin h=>cases ht;rw[lB h];rfl
 | pack h i1 i2 =>
  have:=congrArg List.length ht;have:=i1.pos;have:=i2.pos;simp at *;omega
abbrev aT(xs:List Int):List Value:=xs.map (Value.int .i64)
theorem E8 {w:World} {g cap:Nat} {a:Addr} {c:Int} {s:List Nat} (h:fH w a c s):∀ {w':World} {xs:List Int} {n:Nat} {B:Int},cM w w'->cQ w' g 3 cap (aT xs)->n=xs.length->(∀ i∈s,i<n)->(∀ v∈xs,0<=v/\v<=B)->0<=B->B+s.length<=2^62 →
    Calls P 154 #[.pointer (some a),.slice (some ⟨g,0,none⟩) n cap] w' fun ev w2=>ev=.returned (.tuple #[])/\cQ w2 g 3 cap (aT (ek s xs))/\w'.grownBy w2 (some g):=by
  induction h with
  | @coin k c s y hk =>
    intro w' xs n B H0 ho hn hs hx hB Jx;have hb:=H0 _ _ hk;apply vc154;dsimp only[VC154,rt,Wt,Br,Rd,Ix,cU,iq]
    try simp only[aG]
    have JA:s<xs.length:=by have:=hs s (by simp);omega
    have Gj:=ho.cell (j:=s) (u:=.int .i64 xs[s]) (by simp[JA]);have hv:=hx xs[s] (List.getElem_mem JA);have ts:(s:Int).toNat=s:=by omega
    refine⟨_,rfl,by omega,none,by rw[lB hb];rfl,fun _=>?_,fun h=>absurd rfl h⟩;refine⟨_,rfl,(s:Int),by rw[lB hb];rfl,_,rfl,by omega,by omega,xs[s],by rw[ts];exact Gj,by simp at Jx;omega,_,rfl,by omega,by omega,⟨_,by rw[ts];exact Gj⟩,ho.notFrozen (aL _ _),trivial,?_,bF (aC _ _) (aL _ _) _⟩;rw[ts];have:=ho.set (j:=s) (by simpa using JA) (.int .i64 (xs[s]+1));refine cast ?_ this;congr 1;simp[ek,q9,JA,List.map_set]
  | @pack k c1 c2 s1 s2 z p q hk h1 h2 ih1 ih2 =>
    intro w' xs n B H0 ho hn hs hx hB Jx;have hb:=H0 _ _ hk;simp only[List.length_append]at Jx;apply vc154;dsimp only[VC154,rt,Wt,Br,Rd,Ix,cU,iq]
    try simp only[aG]
    refine⟨_,rfl,by omega,some p,by rw[lB hb];rfl,fun h=>absurd h (by simp),fun _=>?_⟩;refine⟨_,rfl,some p,by rw[lB hb];rfl,some q,by rw[fl,lB hb];rfl,?_⟩;refine⟨fun m i w2=>w'.grownBy w2 (some g)/\((i=0/\m=2/\cQ w2 g 3 cap (aT xs))∨(i=1/\m=1/\cQ w2 g 3 cap (aT (ek s1 xs)))∨(i=2/\m=0/\cQ w2 g 3 cap (aT (ek (s1++s2) xs)))),⟨2,aC _ _,.inl ⟨rfl,rfl,ho⟩⟩,?_⟩;rintro m i w2 ⟨hg,hi⟩;have Ia:=H0.trans (lr ho (by decide) hg);refine⟨fun FP=>⟨by omega,fun h0=>?_,fun h1=>?_,trivial⟩,fun FU=>⟨trivial,?_,hg⟩⟩
    · subst h0;rcases hi with⟨_,rfl,Gz⟩ | ⟨h,_⟩ | ⟨h,_⟩
      · refine(ih1 Ia Gz hn (fun i hi=>hs i (by simp[hi])) hx hB (by omega)).mono fun ev w3 hh=>?_;obtain⟨e1,e2,e3⟩:=hh;exact⟨e1,by omega,1,by omega,aA hg e3,.inr (.inl ⟨rfl,rfl,e2⟩)⟩
      · omega
      · omega
    · subst h1;rcases hi with⟨h,_⟩ | ⟨_,rfl,Gz⟩ | ⟨h,_⟩
      · omega
      · refine(ih2 Ia Gz (by rw[dv];exact hn) (fun i hi=>hs i (by simp[hi])) (gK s1 hx hB) (by omega) (by omega)).mono fun ev w3 hh=>?_;obtain⟨e1,e2,e3⟩:=hh;exact⟨e1,by omega,0,by omega,aA hg e3,.inr (.inr ⟨rfl,rfl,by rw[ik];exact e2⟩)⟩
      · omega
    · rcases hi with⟨h,_⟩ | ⟨h,_⟩ | ⟨_,_,Gz⟩
      · omega
      · omega
      · exact Gz
def Fine(N:Nat)(k:Nat)(x:bU):Prop:=0<x.1/\x.1<=1099511627776*2^k/\x.2.length<=2^k/\∀ s∈x.2,s<N
theorem qb(xs:List Int):∀ k,∀ x∈je (aK xs) k,Fine xs.length k x:=by
 apply xp
 ·rintro k a b ⟨a1,a2,a3,a4⟩ ⟨b1,b2,b3,b4⟩;have hp:0<2^k:=Nat.two_pow_pos k;refine⟨by show 0<a.1+b.1;omega,?_,?_,?_⟩
  ·show a.1+b.1<=_;rw[Int.pow_succ];omega
  ·show(a.2++b.2).length<=_;rw[List.length_append,Nat.pow_succ];omega
  ·intro s hs;rcases List.mem_append.1 hs with e | e
   ·exact a4 s e
   ·exact b4 s e
 ·intro k x hx;obtain⟨h1,h2,s,h3,h4⟩:=j8 hx;have hp:0<2^k:=Nat.two_pow_pos k;have Jn:(1:Int)<=2^k:=by have:((2^k:Nat):Int)=2^k:=(by simp);omega
  refine⟨h1,?_,by rw[h3];simp;omega,by rw[h3];simpa using h4⟩;have:(1099511627776:Int)*1<=1099511627776*2^k:=Int.mul_le_mul_of_nonneg_left Jn (by omega);omega
theorem qQ(first:List bU):∀ k,(je first k).length<=2*first.length
 | 0=>by simp[je];omega
 | k+1=>by
  have:=qQ first k
  simp only[je,eH,fq,fO];omega
theorem yD(most:Int):mn (mx most 1) 15=(cw most:Int)/\1<=cw most/\cw most<=15:=by
 unfold cw mx mn;split <;>split <;>omega
theorem vy {w : World} {A:OA} {n c:Nat} {xs:List Int} {most:Int} (Gj:aZ w A (aT xs)) (hn:n=xs.length) :
    Calls P 110 #[.slice A n c,.int .i64 most] w fun ev w'=>∃(A':OA)(n' c':Nat),ev=.returned (.slice A' n' c')/\cP w' w.heap.size 3 A' n' c' (aT (dq xs most))/\w.grownBy w' none:=by
  apply vc110;dsimp only[VC110,Wt,Br,Rd,Ix,cS,cU,iq];obtain⟨hm,Ov,L5⟩:=yD most;rw[hm];simp only[aG];have tn:(cw most:Int).toNat=cw most:=by omega
  have Hi:min (cw most) 64=cw most:=by omega
  rw[tn,Hi];have QB:2^cw most<=2^15:=Nat.pow_le_pow_right (by omega) L5;obtain⟨q,hq⟩:∃ q,q=2^cw most:=⟨_,rfl⟩;have J9:(1:Int)*2^cw most=(q:Int):=by rw[hq];simp
  rw[J9];refine⟨fun h=>⟨none,0,0,rfl,?_,aC _ _⟩,fun h=>?_⟩
  · have:dq xs most=[]:=by unfold dq;rw[if_pos (by omega)]
    rw[this];exact World.ownsRow_nil _ _ _ _
  · have IF : xs.length<=256:=by omega
    refine(ze Gj hn (by omega)).mono fun ev w1 hh=>?_;obtain⟨A1,n1,c1,L,rfl,ho,hL,Kf,hg⟩:=hh;have Ii:n1=(aK xs).length:=by rw[ho.cases.1,← Kf];simp
    have XU:L.length=(aK xs).length:=by rw[← Kf];simp
    refine⟨A1,n1,c1,rfl,by omega,fun h2=>?_,fun h2=>?_⟩
    · refine⟨none,0,0,rfl,?_,hg⟩;have:dq xs most=[]:=by unfold dq;rw[if_neg (by omega),if_pos (by omega)]
      rw[this];exact World.ownsRow_nil _ _ _ _
    · have Hn : dq xs most=ek (bX xs (cw most)) (List.replicate xs.length 0):=by unfold dq;rw[if_neg (by omega),if_neg (by omega)]
      obtain⟨w2,hr,FR,FY⟩:=jm (P:=P) (w:=w1) jh (by omega) (m:=n) (by omega);refine⟨_,_,_,w2,hr,?_⟩;have FR:cQ w2 w1.heap.size 3 n (aT (List.replicate xs.length 0)):=by
        simpa[aT,hn]using FR
      have fin:∀ w3 ys,ys=dq xs most->cQ w3 w1.heap.size 3 n (aT ys)->w2.grownBy w3 (some w1.heap.size)->∃(A':OA)(n' c':Nat),Ending.returned (.slice (some ⟨w1.heap.size,0,none⟩) n n)=.returned (.slice A' n' c')/\cP w3 w.heap.size 3 A' n' c' (aT (dq xs most))/\w.grownBy w3 none:=by
        intro w3 ys IG h3 h4;subst IG;have h5:=h3.ownsRow hg.size (by simp only[maxLen];omega);have:(aT (dq xs most)).length=n:=by rw[Hn];simp[aT,dv,hn]
        rw[this]at h5;exact⟨_,_,_,rfl,h5,aN (aA hg FY) h4 (by intro k hk;cases hk;exact hg.size)⟩
      have RT:∀ x∈L,Is w2 x:=fun x hx=>(hL x hx).keep (dz FY);have Gz:=ho.kept FY;refine⟨fun h1=>?_,fun h1=>?_⟩
      · -- one symbol
        obtain⟨x,rfl⟩:∃ x,L=[x]:=List.length_eq_one_iff.1 (by omega);obtain⟨a,h3,h4⟩:=Gz.row 0 (.pointer x.1) (by simp[lT]);have Wa:a.add 0=a:=by simp[Addr.add]
        rw[Wa]at h4;have Iz:aK xs=[x.2]:=by rw[← Kf];rfl
        obtain⟨_,_,s,GY,GX⟩:=j8 (xs:=xs) (x:=x.2) (by rw[Iz];simp);obtain⟨b,Hy,Gf⟩:=RT x (by simp);have HW:=Gf.single GY;have ts:(s:Int).toNat=s:=by omega
        have FV:=FR.cell (j:=s) (u:=.int .i64 0) (by simp[aT,GX]);refine⟨a,h3,by omega,by omega,x.1,h4,b,Hy,(s:Int),HW,_,rfl,by omega,by omega,⟨_,by rw[ts];exact FV⟩,FR.notFrozen (aL _ _),?_⟩;rw[ts];have Gy:=FR.set (j:=s) (by simpa[aT]using GX) (.int .i64 1);refine fin _ ((List.replicate xs.length 0).set s 1) ?_ ?_ (bF (aC _ _) (aL _ _) _)
        · rw[Hn];have:bX xs (cw most)=[s]:=by unfold bX;rw[Iz];simp[GY]
          rw[this];simp[ek,q9,GX]
        · simpa[aT,List.map_set]using Gy
      · refine⟨by omega,?_⟩
        -- list after list
        refine⟨fun ms lA ln lc i w3=>∃ (k:Nat) (O:List (OA×bU)),i=(k:Int)/\k<=cw most-1/\ms=cw most-1-k/\cP w3 w.heap.size 218 lA ln lc (lT O)/\(∀ x∈O,Is w3 x)/\O.map Prod.snd=je (aK xs) k/\w2.grownBy w3 none,
          ⟨_,0,L,rfl,by omega,rfl,Gz,RT,Kf,aC _ _⟩,?_⟩
        rintro ms lA ln lc i w3 ⟨k,O,rfl,hk,rfl,Gs,hO,Ks,Gh⟩;have MF:O.length=(je (aK xs) k).length:=by rw[← Ks];simp
        have IW:=qQ (aK xs) k;have Ik:=gk xs;have QQ:ln=O.length:=by rw[Gs.cases.1];simp
        refine⟨fun FP=>?_,fun FU=>?_⟩
        · have Jc:∀ x∈O,0<=x.2.1/\x.2.1<=2^60:=by
            intro x hx;have h:=qb xs k x.2 (by rw[← Ks];exact List.mem_map_of_mem hx);have hp:(2:Int)^k<=2^15:=by
              have:=Nat.pow_le_pow_right (n:=2) (by omega) (show k<=15 by omega);have e1:((2^k:Nat):Int)=2^k:=by simp
              have e2:((2^15:Nat):Int)=2^15:=by simp
              omega
            have h2:=h.2.1;exact⟨by have:=h.1;omega,by omega⟩
          have Hd:A1=none->c1=0/\n1=0:=by
            intro e;rcases ho.cases.2 with⟨_,h,h',_⟩ | ⟨g,h,_⟩
            · exact⟨h',h⟩
            · rw[e]at h;cases h
          have Io:n1<=c1:=by
            rcases ho.cases.2 with⟨_,h,h',_⟩ | ⟨g,_,_,_,h,_⟩
            · omega
            · exact h
          refine(xg (C:=L) (L:=O) ((Gz.kept Gh).row) Gs.row (by omega) QQ (fun x hx=>(RT x hx).keep (dz Gh)) hO Io (fun e=>(Hd e).1) (by omega) (by omega) Jc).mono fun ev w4 hh=>?_;obtain⟨A4,n4,c4,O4,rfl,q1,q2,q3,q4⟩:=hh;have Hr:w.heap.size<=w3.heap.size:=Nat.le_trans hg.size (Nat.le_trans FY.size Gh.size);refine⟨A4,n4,c4,rfl,by omega,cw most-1-(k+1),by omega,k+1,O4,by omega,by omega,rfl,cP.mono q1 Hr,q2,?_,aA Gh q4⟩;rw[q3,Kf,Ks];rfl
        · have Gi:k=cw most-1:=by omega
          have JX:=uy Ov (first:=aK xs) (by omega);rw[← Gi]at JX;have Va:ln<=lc:=by
            rcases Gs.cases.2 with⟨_,h,h',_⟩ | ⟨g,_,_,_,h,_⟩
            · omega
            · exact h
          have QK:mx (2*(n1:Int)-2) 0=((2*(aK xs).length-2:Nat):Int):=by unfold mx;split <;>omega
          rw[QK];have tm:(((2*(aK xs).length-2:Nat):Int)).toNat=2*(aK xs).length-2:=by omega
          rw[tm];refine⟨by omega,by omega,by omega,?_⟩;have Il:bX xs (cw most)=((je (aK xs) k).take (2*(aK xs).length-2)).flatMap Prod.snd:=by
            unfold bX;rw[if_neg (by omega),Gi]
          refine⟨fun ms i w4=>∃(j:Nat)(ys:List Int),i=(j:Int)/\j<=2*(aK xs).length-2/\ms=2*(aK xs).length-2-j/\ys=ek (((je (aK xs) k).take j).flatMap Prod.snd) (List.replicate xs.length 0)/\(∀ v∈ys,0<=v/\v<=2^15*(j:Int)) ∧
              cQ w4 w1.heap.size 3 n (aT ys)/\w2.grownBy w4 (some w1.heap.size)/\w3.grownBy w4 (some w1.heap.size),
            ⟨_,0,List.replicate xs.length 0,rfl,by omega,rfl,by simp[ek],by simp,FR.kept Gh (by simp),bZ Gh,aC _ _⟩,?_⟩
          rintro ms i w4 ⟨j,ys,rfl,hj,rfl,IG,Kx,GU,F8,Md⟩;have Sf:ys.length=n:=by rw[IG,dv];simp[hn]
          have Oe:cQ w3 w1.heap.size 3 n (aT (List.replicate xs.length 0)):=FR.kept Gh (by simp);have H0:=lr Oe (by decide) Md;refine⟨fun FP=>?_,fun Ju=>?_⟩
          · have L9:j<O.length:=by omega
            -- the row of items is another block than the lengths
            have LV:aZ w4 lA (lT O):=by
              refine aZ.kept Gs.row Md ?_;intro a ha e;rcases Gs.cases.2 with⟨h,_⟩ | ⟨g,h,_,_,_,PJ⟩
              · rw[ha]at h;cases h
              · rw[ha]at h;cases h;simp only[Option.some.injEq]at e;subst e;obtain⟨cur,e1,_⟩:=PJ;obtain⟨cur',e2,_⟩:=Oe;rw[e1]at e2;cases e2
            obtain⟨a,h3,h4⟩:=LV j _ (pU L9);obtain⟨b,Hy,Gf⟩:=hO _ (List.getElem_mem L9);have Gl:O[j].2∈je (aK xs) k:=by rw[← Ks];exact List.mem_map_of_mem (List.getElem_mem L9)
            obtain⟨f1,f2,f3,f4⟩:=qb xs k _ Gl;have Hc:2^k<=2^15:=Nat.pow_le_pow_right (by omega) (by omega);refine⟨a,h3,by omega,by omega,O[j].1,h4,?_⟩;rw[Hy];refine(E8 Gf H0 GU (by omega) (fun i hi=>by have:=f4 i hi;omega) Kx (by omega) (by omega)).mono fun ev w5 hh=>?_;obtain⟨e1,e2,e3⟩:=hh;refine⟨e1,by omega,2*(aK xs).length-2-(j+1),by omega,j+1,ek O[j].2.2 ys,by omega,by omega,rfl,?_,?_,e2,aA F8 e3,aA Md e3⟩
            · have GO:j<(je (aK xs) k).length:=by omega
              have:(je (aK xs) k)[j]=O[j].2:=by simp[← Ks]
              rw[IG,List.take_succ_eq_append_getElem GO,List.flatMap_append,ik,this];simp
            · intro v hv;have:=gK O[j].2.2 Kx (by omega) v hv;omega
          · have G2:j=2*(aK xs).length-2:=by omega
            refine fin w4 ys ?_ GU F8;rw[IG,Hn,Il,G2]
theorem dg(w:World)(cs:Array Value)(t:TypeId):aZ (w.alloc (.cells cs t)) (some ⟨w.heap.size,0,none⟩) cs.toList:=by
 intro j u hj;refine⟨_,rfl,?_⟩;rw[aP,World.cell?_alloc_new];simpa using hj
theorem mi(x:Int):0<=ew x/\ew x<=2^14:=by
 unfold ew;split
 ·have h:(15-x).toNat<=14:=by omega
  have h1:=Nat.pow_le_pow_right (n:=2) (by omega) h;obtain⟨q,hq⟩:∃ q:Nat,q=2^(15-x).toNat:=⟨_,rfl⟩;have e1:(2:Int)^(15-x).toNat=(q:Int):=by rw[hq];simp
  rw[e1];omega
 ·omega
theorem ll(xs:List Int):0<=d8 xs/\d8 xs<=2^14*xs.length:=by
 induction xs with
 | nil=>simp[d8]
 | cons x xs ih =>
  have:=mi x;simp only[d8,List.map_cons,List.sum_cons,List.length_cons]at *;omega
theorem si{w:World}{A:OA}{n c:Nat}{xs:List Int}(hA:aZ w A (aT xs))(hn:n=xs.length)(hb:n<=2^40):
    Calls P 181 #[.slice A n c] w fun ev w'=>ev=.returned (.int .i64 (d8 xs))/\w.grownBy w' none:=by
  apply vc181;dsimp only[VC181,Br,Rd,Ix,iq]
  try simp only[aG]
  refine⟨fun ms s i w'=>∃ k:Nat,i=(k:Int)/\k<=xs.length/\ms=xs.length-k/\s=d8 (xs.take k)/\w.grownBy w' none,⟨_,0,rfl,by omega,rfl,by simp[d8],aC _ _⟩,?_⟩;rintro ms s i w' ⟨k,rfl,hk,rfl,rfl,hg⟩;refine⟨fun FP=>?_,fun FU=>?_⟩
  · have l1:k<xs.length:=by omega
    obtain⟨a,Ge,Gb⟩:=(hA.kept_none hg) k (.int .i64 xs[k]) (by simp[aT,l1]);have hs:d8 (xs.take (k+1))=d8 (xs.take k)+ew xs[k]:=by
      rw[List.take_succ_eq_append_getElem l1];simp only[d8,List.map_append,List.sum_append,List.map_cons,List.map_nil,List.sum_cons,List.sum_nil];omega
    have b1:=ll (xs.take k);have hl:(xs.take k).length=k:=by simp;omega
    rw[hl]at b1;refine⟨a,Ge,by omega,by omega,xs[k],Gb,fun h1=>⟨fun h2=>?_,fun h2=>?_⟩,fun h1=>?_⟩
    · have hv:ew xs[k]=2^(15-xs[k]).toNat:=by unfold ew;rw[if_pos ⟨by omega,h2⟩]
      have hm:min (15-xs[k]).toNat 64=(15-xs[k]).toNat:=by omega
      have b2:=mi xs[k];rw[hm,Int.one_mul,← hv];exact⟨by omega,by omega,by omega,by omega,xs.length-(k+1),by omega,k+1,by omega,by omega,rfl,hs.symm,hg⟩
    · have hv:ew xs[k]=0:=by unfold ew;rw[if_neg (by omega)]
      exact⟨by omega,xs.length-(k+1),by omega,k+1,by omega,by omega,rfl,by rw[hs,hv];omega,hg⟩
    · have hv:ew xs[k]=0:=by unfold ew;rw[if_neg (by omega)]
      exact⟨by omega,xs.length-(k+1),by omega,k+1,by omega,by omega,rfl,by rw[hs,hv];omega,hg⟩
  · have:k=xs.length:=by omega
    subst this;rw[List.take_length];exact⟨rfl,hg⟩
theorem Bd{w:World}{base:Nat}{A:OA}{n c:Nat}{xs:List Int}{x:Int}(ho:cP w base 3 A n c (aT xs))(hn:n<=2^30)(hb:base<=w.heap.size):
    ∃ (A':OA) (n' c':Nat) (w':World),Sem.run P (Builtin.append_ #[33,33] 33 #[.slice A n c,.slice (some ⟨w.heap.size,0,none⟩) 1 1]) (w.alloc (.cells #[.int .i64 x] 3))=.ok (.slice A' n' c') w' ∧
      cP w' base 3 A' n' c' (aT (xs++[x]))/\w.grownBy w' (Value.slice A n c).ownBlock:=by
  have g:=World.grownBy_alloc w (.cells #[.int .i64 x] 3) none;have b:(w.alloc (.cells #[.int .i64 x] 3)).cell? ⟨w.heap.size,0,none⟩=some (.int .i64 x):=by simp
  obtain⟨A',n',c',w',h1,h2,h3⟩:=(ho.kept g).append1 (ty:=33) jh (by omega) (cc:=1) b rfl (by omega) (Nat.le_trans hb g.size);exact⟨A',n',c',w',h1,by simpa[aT]using h2,aA (bZ g) h3⟩
def cnt5(x:Int):List Int:=[x,x % 3,(x % 2)*1000,2^(x % 40).toNat,x*x]
def FG(k x:Int):Int:=(cnt5 x).getD ((k+x % 7) % 5).toNat 0
theorem zi{n:Int}{w:World}{R:Ending->World->Prop}(h:R (.returned (.int .i64 (cN n))) w):Calls P 159 #[.int .i64 n] w R:=vc159 n w R h
theorem mR{w:World}{A:OA}{n c:Nat}{xs:List Int}(hA:aZ w A (aT xs))(hn:n=xs.length)(hb:n<=2^40):
    Calls P 125 #[.slice A n c] w fun ev w'=>ev=.returned (.int .i64 (d8 xs))/\w.grownBy w' none:=by
  apply vc125;dsimp only[VC125,Br,Rd,Ix,iq]
  try simp only[aG]
  refine⟨fun ms s i w'=>∃ k:Nat,i=(k:Int)/\k<=xs.length/\ms=xs.length-k/\s=d8 (xs.take k)/\w.grownBy w' none,⟨_,0,rfl,by omega,rfl,by simp[d8],aC _ _⟩,?_⟩;rintro ms s i w' ⟨k,rfl,hk,rfl,rfl,hg⟩;refine⟨fun FP=>?_,fun FU=>?_⟩
  · have l1:k<xs.length:=by omega
    obtain⟨a,Ge,Gb⟩:=(hA.kept_none hg) k (.int .i64 xs[k]) (by simp[aT,l1]);have hs:d8 (xs.take (k+1))=d8 (xs.take k)+ew xs[k]:=by
      rw[List.take_succ_eq_append_getElem l1];simp only[d8,List.map_append,List.sum_append,List.map_cons,List.map_nil,List.sum_cons,List.sum_nil];omega
    have b1:=ll (xs.take k);have hl:(xs.take k).length=k:=by simp;omega
    rw[hl]at b1;refine⟨a,Ge,by omega,by omega,xs[k],Gb,fun h1=>⟨a,Ge,by omega,by omega,xs[k],Gb,fun h2=>?_,fun h2=>?_⟩,fun h1=>?_⟩
    · have hv:ew xs[k]=2^(15-xs[k]).toNat:=by unfold ew;rw[if_pos ⟨by omega,h2⟩]
      have hm:min (15-xs[k]).toNat 64=(15-xs[k]).toNat:=by omega
      have b2:=mi xs[k];exact⟨a,Ge,by omega,by omega,xs[k],Gb,by rw[hm,Int.one_mul,← hv];exact⟨by omega,by omega,by omega,by omega,xs.length-(k+1),by omega,k+1,by omega,by omega,rfl,hs.symm,hg⟩⟩
    · have hv:ew xs[k]=0:=by unfold ew;rw[if_neg (by omega)]
      exact⟨by omega,xs.length-(k+1),by omega,k+1,by omega,by omega,rfl,by rw[hs,hv];omega,hg⟩
    · have hv:ew xs[k]=0:=by unfold ew;rw[if_neg (by omega)]
      exact⟨by omega,xs.length-(k+1),by omega,k+1,by omega,by omega,rfl,by rw[hs,hv];omega,hg⟩
  · have:k=xs.length:=by omega
    subst this;rw[List.take_length];exact⟨rfl,hg⟩
theorem qf:qw P 229 232 2 (P.bytesOf 232):=⟨(P.info? 232).getD default,((P.info? 232).getD default).zero.getD undef,by kernel_rfl,by kernel_rfl,by kernel_rfl,by kernel_rfl,by kernel_rfl,by kernel_rfl,by omega⟩
theorem q8:P.bytesOf 232<=64:=of_decide_eq_true (by kernel_rfl)
structure RC where
 count:Int
 A:OA
 n:Nat
 c:Nat
 syms:List Nat
def jd(r:RC):List Value:=[.int .i64 r.count,.slice r.A r.n r.c]
def io(L:List RC):List Value:=L.flatMap jd
def cG(r:RC):bU:=(r.count,r.syms)
theorem ud(L:List RC):(io L).length=L.length*2:=by
 induction L with
 | nil=>rfl
 | cons r L ih =>
  have:io (r ::L)=jd r++io L:=rfl;rw[this,List.length_append,ih];simp[jd];omega
theorem oJ(L M:List RC):io (L++M)=io L++io M:=by simp[io]
theorem Bu:∀ {L:List RC} {i:Nat} (h:i<L.length),(io L)[i*2]?=some (.int .i64 L[i].count)/\(io L)[i*2+1]?=some (.slice L[i].A L[i].n L[i].c)
 | r ::L,0,h=>by simp[io,jd]
 | r ::L,i+1,h=>by
  have ih:=Bu (L:=L) (i:=i) (by simpa using h);have e:io (r ::L)=.int .i64 r.count ::.slice r.A r.n r.c ::io L:=rfl;rw[e,show(i+1)*2=(i*2+1)+1 by omega];simpa using ih
theorem yp(L:List RC)(k:Nat):(io L).drop (k*2)=io (L.drop k):=by
 induction L generalizing k with
 | nil=>simp[io]
 | cons r L ih =>
  cases k with
  | zero=>simp
  | succ k =>
   have e:io (r ::L)=.int .i64 r.count ::.slice r.A r.n r.c ::io L:=rfl;rw[e,show(k+1)*2=(k*2+1)+1 by omega];simpa using ih k
theorem Da(L:List RC)(k:Nat):(io L).take (k*2)=io (L.take k):=by
 induction L generalizing k with
 | nil=>simp[io]
 | cons r L ih =>
  cases k with
  | zero=>simp[io]
  | succ k =>
   have e:io (r ::L)=.int .i64 r.count ::.slice r.A r.n r.c ::io L:=rfl;have e2:io (r ::L.take k)=.int .i64 r.count ::.slice r.A r.n r.c ::io (L.take k):=rfl;rw[e,show(k+1)*2=(k*2+1)+1 by omega,List.take_succ_cons,List.take_succ_cons,ih k,List.take_succ_cons,e2]
abbrev mV(s:List Nat):List Value:=s.map fun x:Nat=>Value.int .i64 (x:Int)
def dW(w:World)(G:Option Nat)(r:RC):Prop :=
 aZ w r.A (mV r.syms)/\r.n=r.syms.length/\0<r.n/\∀ a,r.A=some a->some a.block≠G/\∃(cur:Array Value)(fr:Nat×Nat),w.heap[a.block]?=some (.cells cur 3 fr)
theorem dW.keep{w w':World}{G:Option Nat}{r:RC}{q:Option Nat}(h:dW w G r)(hg:w.grownBy w' q)(hq:∀ g,q=some g->some g=G∨∃(cur:Array Value)(e:TypeId)(fr:Nat×Nat),w.heap[g]?=some (.cells cur e fr)/\e≠3):dW w' G r:=by
 obtain⟨h1,h2,h3,h4⟩:=h;have FS:∀ a,r.A=some a->some a.block≠q:=by
  intro a ha e;obtain⟨h5,cur,fr,h6⟩:=h4 a ha;rcases hq a.block e.symm with h | ⟨cur',e',fr',h7,h8⟩
  ·exact h5 h
  ·rw[h6]at h7;cases h7;exact h8 rfl
 refine⟨h1.kept hg FS,h2,h3,fun a ha=>?_⟩;obtain⟨h5,cur,fr,h6⟩:=h4 a ha;exact⟨h5,cur,fr,by rw[hg.block a.block (Array.getElem?_eq_some_iff.1 h6).1 (FS a ha)];exact h6⟩
theorem dW.keep_none{w w':World}{G:Option Nat}{r:RC}(h:dW w G r)(hg:w.grownBy w' none):dW w' G r:=h.keep hg (by simp)
theorem dW.fresh{w:World}{G:Option Nat}{base n c:Nat}{A:OA}{s:List Nat}(ho:aE w base 3 1 A n c (mV s))(hs:0<s.length)(hG:∀ g,G=some g->g<base)(k:Int):dW w G ⟨k,A,n,c,s⟩:=by
 obtain⟨h1,h2 | ⟨g,cur,rfl,hb,_,_,hh,_⟩⟩:=ho.cases
 ·obtain⟨rfl,rfl,_,h⟩:=h2;have:s=[]:=by simpa using h
  subst this;simp at hs
 ·have hn:n=s.length:=by simpa using h1.symm
  refine⟨ho.row,hn,by show 0<n;omega,fun a ha=>?_⟩;cases ha;refine⟨fun e=>?_,cur,(0,0),hh⟩;have:=hG g e.symm;omega
theorem DC:qw P 33 3 1 8:=⟨(P.info? 3).getD default,.int .i64 0,by kernel_rfl,by kernel_rfl,by kernel_rfl,by kernel_rfl,by kernel_rfl,by kernel_rfl,by omega⟩
theorem rx{w:World}{base n c m d:Nat}{A B:OA}{s t:List Nat}(ho:aE w base 3 1 A n c (mV s))(hB:aZ w B (mV t))(hm:m=t.length)(ht:0<m)(hn:n+m<=2^40)(hb:base<=w.heap.size):
    ∃(A':OA)(n' c':Nat)(w':World),Sem.run P (Builtin.append_ #[33,33] 33 #[.slice A n c,.slice B m d]) w=.ok (.slice A' n' c') w'/\aE w' base 3 1 A' n' c' (mV (s++t))/\n'=n+m/\w.grownBy w' (Value.slice A n c).ownBlock:=by
  cases t with
  | nil=>simp at hm;omega
  | cons x t =>
    obtain⟨a,rfl,_⟩:=hB 0 (.int .i64 (x:Int)) (by simp[mV]);obtain⟨A',n',c',w',h1,h2,h3,h4,_⟩:=ho.appends (ty:=33) DC (by omega) (a:=a) (m:=m) (cc:=d) (us:=mV (x ::t)) (by simp[mV,hm]) (fun j u hj=>by obtain⟨b,e1,e2⟩:=hB j u hj;cases e1;exact e2) (fun u hu=>by obtain⟨y,_,rfl⟩:=List.mem_map.1 hu;rfl) hn hb;exact⟨A',n',c',w',h1,by simpa[mV]using h2,h3,h4⟩
theorem zf{w:World}{base n c:Nat}{A:OA}{L:List RC}{r:RC}(ho:aE w base 232 2 A n c (io L))(hn:n<=2^30)(hb:base<=w.heap.size):
    ∃ (A':OA) (n' c':Nat) (w':World),Sem.run P (Builtin.append_ #[229,229] 229 #[.slice A n c,.slice (some ⟨w.heap.size,0,none⟩) 1 1]) (w.alloc (.cells #[.int .i64 r.count,.slice r.A r.n r.c] 232))=.ok (.slice A' n' c') w' ∧
      aE w' base 232 2 A' n' c' (io (L++[r]))/\n'=n+1/\w.grownBy w' (Value.slice A n c).ownBlock ∧
      ((Value.slice A' n' c').ownBlock=(Value.slice A n c).ownBlock∨∃ g,(Value.slice A' n' c').ownBlock=some g/\w.heap.size<=g):=by
  have g:=World.grownBy_alloc w (.cells #[.int .i64 r.count,.slice r.A r.n r.c] 232) none;have hr:=dg w #[.int .i64 r.count,.slice r.A r.n r.c] 232;obtain⟨A',n',c',w',h1,h2,h3,h4,h5⟩:=(ho.kept g).appends (ty:=229) qf q8 (a:=⟨w.heap.size,0,none⟩) (m:=1) (cc:=1) (us:=jd r) rfl (fun j u hj=>by obtain⟨b,e1,e2⟩:=hr j u hj;cases e1;exact e2) (fun u hu=>by simp[jd]at hu;rcases hu with rfl | rfl <;>rfl) (by omega) (Nat.le_trans hb g.size);exact⟨A',n',c',w',h1,by rw[oJ];simpa[io]using h2,h3,aA (bZ g) h4,h5.imp id fun h=>⟨_,h,g.size⟩⟩
theorem yH{w:World}{g:Nat}{x y:Value}{u v:Value}(h:w.heap[g]?=some (.cells #[x,y] 232 (0,0))):
    (∃ z,w.cell? ⟨g,0,none⟩=some z)/\w.frozen? ⟨g,0,none⟩=false/\(∃ z,(w.setCell ⟨g,0,none⟩ u).cell? ⟨g,1,none⟩=some z)/\(w.setCell ⟨g,0,none⟩ u).frozen? ⟨g,1,none⟩=false ∧
    ((w.setCell ⟨g,0,none⟩ u).setCell ⟨g,1,none⟩ v).heap[g]?=some (.cells #[u,v] 232 (0,0))/\w.grownBy ((w.setCell ⟨g,0,none⟩ u).setCell ⟨g,1,none⟩ v) (some g):=by
  have h1:(w.setCell ⟨g,0,none⟩ u).heap[g]?=some (.cells #[u,y] 232 (0,0)):=by simp[World.setCell,Array.getElem?_modify,h]
  refine⟨⟨x,by simp[World.cell?,h]⟩,by simp[World.frozen?,h],⟨y,by simp[World.cell?,h1]⟩,by simp[World.frozen?,h1],?_,?_⟩
  · simp only[World.setCell]at h1 ⊢;simp[Array.getElem?_modify,h]
  · exact bF (g:=g) (p:=⟨g,1,none⟩) (bF (g:=g) (p:=⟨g,0,none⟩) (aC _ _) rfl _) rfl _
theorem oI{w:World}{A:OA}{L:List RC}(h:aZ w A (io L)){i:Nat}(hi:i<L.length):∃ a,A=some a/\w.cell? (a.add (i*2))=some (.int .i64 L[i].count)/\w.cell? ((a.add (i*2)).add 1)=some (.slice L[i].A L[i].n L[i].c):=by
 obtain⟨h1,h2⟩:=Bu hi;obtain⟨a,e1,e2⟩:=h _ _ h1;obtain⟨b,e3,e4⟩:=h _ _ h2;rw[e1]at e3;cases e3;exact⟨a,e1,e2,by rw[fl];exact e4⟩
theorem xk {w:World} {G:Option Nat} {A B:OA} {n c m d:Nat} {C L:List RC} (hA:aZ w A (io C)) (hB:aZ w B (io L)) (hn:n=C.length) (hm:m=L.length)
    (hC:∀ x∈C,dW w G x) (hL:∀ x∈L,dW w G x) (hG:∀ g,G=some g->g<w.heap.size) (VN:n<=c) (Oj:n<=2^20) (SH:m<=2^20) (hb:∀ x∈L,0<=x.count/\x.count<=2^60/\x.syms.length<=2^30) (JW:0<n) :
    Calls P 160 #[.slice A n c,.slice B m d] w fun ev w'=>∃(A':OA)(n' c':Nat)(O:List RC),ev=.returned (.slice A' n' c')/\aE w' w.heap.size 232 2 A' n' c' (io O)/\n'=O.length/\(∀ x∈O,dW w' G x) ∧
      O.map cG=eH (C.map cG) (L.map cG)/\w.grownBy w' none:=by
  apply vc160;dsimp only[VC160,Wt,Br,Rd,Rc,Rs,Ix,Ap,Ws,nb,ad,al,iq]
  try simp only[aG]
  refine⟨fun ms A' n' c' k i w'=>∃(kn j:Nat)(O:List RC),k=(kn:Int)/\i=((2*j:Nat):Int)/\kn<=C.length/\2*j<=L.length/\O.length<=kn+j/\ms=L.length-2*j/\aE w' w.heap.size 232 2 A' n' c' (io O)/\n'=O.length/\(∀ x∈O,dW w' G x) ∧
      O.map cG++cO ((C.drop kn).map cG) (df ((L.drop (2*j)).map cG))=eH (C.map cG) (L.map cG)/\w.grownBy w' none,
    ⟨_,0,0,[],rfl,rfl,by omega,by omega,by simp,rfl,aE.nil _ _ _ _,rfl,by simp,by simp[eH],aC _ _⟩,?_⟩
  rintro ms A' n' c' k i w' ⟨kn,j,O,rfl,rfl,hk,hj,MF,rfl,ho,GG,hO,Ha,hg⟩;refine⟨by omega,fun FP=>?_,fun FU=>?_⟩
  · have l1 :2*j<L.length:=by omega
    have l2:2*j+1<L.length:=by omega
    have Gn:L.drop (2*j)=L[2*j] ::L[2*j+1] ::L.drop (2*(j+1)):=by
      rw[List.drop_eq_getElem_cons l1,List.drop_eq_getElem_cons l2];rfl
    have ba:=hb _ (List.getElem_mem l1);have bb:=hb _ (List.getElem_mem l2);have sa:=hL _ (List.getElem_mem l1);have sb:=hL _ (List.getElem_mem l2);generalize IP:L[2*j]=ra at *;generalize Qx:L[2*j+1]=rb at *;obtain⟨a,ha,_,_⟩:=oI hB l1
    have rd:∀ w2:World,w'.grownBy w2 none->w2.cell? (a.add (2*j*2))=some (.int .i64 ra.count)/\w2.cell? ((a.add (2*j*2)).add 1)=some (.slice ra.A ra.n ra.c) ∧
        w2.cell? (a.add ((2*j+1)*2))=some (.int .i64 rb.count)/\w2.cell? ((a.add ((2*j+1)*2)).add 1)=some (.slice rb.A rb.n rb.c):=by
      intro w2 h;obtain⟨b,e1,e2,e3⟩:=oI (hB.kept_none (aA hg h)) l1;obtain⟨b',e4,e5,e6⟩:=oI (hB.kept_none (aA hg h)) l2;rw[ha]at e1 e4;cases e1;cases e4;rw[IP]at e2 e3;rw[Qx]at e5 e6;exact⟨e2,e3,e5,e6⟩
    have t1:((2*j:Nat):Int).toNat=2*j:=by omega
    have t2:(((2*j:Nat):Int)+1).toNat=2*j+1:=by omega
    rw[t1,t2]
    -- what is made
    have Hr:∀ g,G=some g->g<w'.heap.size:=fun g h=>Nat.lt_of_lt_of_le (hG g h) hg.size;have sa1:∀ w2,w'.grownBy w2 none->dW w2 G ra:=fun w2 h=>(sa.keep_none hg).keep_none h;have sb1:∀ w2,w'.grownBy w2 none->dW w2 G rb:=fun w2 h=>(sb.keep_none hg).keep_none h
    -- the two appends, from any world that I1 grown
    have app1:∀ w2,w'.grownBy w2 none->∃(A3:OA)(n3 c3:Nat)(w3:World),Sem.run P (Builtin.append_ #[33,33] 33 #[.slice none 0 0,.slice ra.A ra.n ra.c]) w2=.ok (.slice A3 n3 c3) w3/\aE w3 w2.heap.size 3 1 A3 n3 c3 (mV ra.syms)/\n3=ra.n/\w2.grownBy w3 none:=by
      intro w2 h;obtain⟨s1,s2,s3,_⟩:=sa1 w2 h;obtain⟨A3,n3,c3,w3,e1,e2,e3,e4⟩:=rx (s:=[]) (n:=0) (c:=0) (A:=none) (d:=ra.c) (m:=ra.n) (aE.nil w2 w2.heap.size 3 1) s1 s2 s3 (by have:=ba.2.2;omega) (Nat.le_refl _);exact⟨A3,n3,c3,w3,e1,by simpa using e2,by omega,e4⟩
    have app2:∀ w2 (A3:OA) (n3 c3 base:Nat),w'.grownBy w2 none->aE w2 base 3 1 A3 n3 c3 (mV ra.syms)->n3=ra.n->w'.heap.size<=base->base<=w2.heap.size->∃(A4:OA)(n4 c4:Nat)(w4:World),
        Sem.run P (Builtin.append_ #[33,33] 33 #[.slice A3 n3 c3,.slice rb.A rb.n rb.c]) w2=.ok (.slice A4 n4 c4) w4/\aE w4 base 3 1 A4 n4 c4 (mV (ra.syms++rb.syms))/\w2.grownBy w4 (Value.slice A3 n3 c3).ownBlock/\w'.grownBy w4 none:=by
      intro w2 A3 n3 c3 base h h2 h3 h4 h5;obtain⟨s1,s2,s3,_⟩:=sb1 w2 h;obtain⟨q1,q2,q3,_⟩:=sa1 w2 h;obtain⟨A4,n4,c4,w4,e1,e2,e3,e4⟩:=rx (d:=rb.c) (m:=rb.n) h2 s1 s2 s3 (by have:=ba.2.2;have:=bb.2.2;omega) h5;exact⟨A4,n4,c4,w4,e1,e2,e4,aN h e4 (fun k hk=>Nat.le_trans h4 (h2.block_ge k hk))⟩
    -- the coin, once its symbols and its two cells are there
    have fin:∀(w5:World)(gp:Nat)(A4:OA)(n4 c4 base:Nat),w'.grownBy w5 none->w'.heap.size<=gp->w5.heap[gp]?=some (.cells #[.int .i64 0,.slice none 0 0] 232 (0,0))->aE w5 base 3 1 A4 n4 c4 (mV (ra.syms++rb.syms))->w'.heap.size<=base →
        (∃ z,w5.cell? ⟨gp,0,none⟩=some z)/\w5.frozen? ⟨gp,0,none⟩=false/\(∃ z,(w5.setCell ⟨gp,0,none⟩ (.int .i64 (ra.count+rb.count))).cell? ⟨gp,1,none⟩=some z)/\(w5.setCell ⟨gp,0,none⟩ (.int .i64 (ra.count+rb.count))).frozen? ⟨gp,1,none⟩=false ∧
        w'.grownBy ((w5.setCell ⟨gp,0,none⟩ (.int .i64 (ra.count+rb.count))).setCell ⟨gp,1,none⟩ (.slice A4 n4 c4)) none ∧
        (∃(r:RC)(g:Nat),r.count=ra.count+rb.count/\r.syms=ra.syms++rb.syms/\(⟨gp,0,none⟩:Addr)=⟨g,0,none⟩/\w'.heap.size<=g/\((w5.setCell ⟨gp,0,none⟩ (.int .i64 (ra.count+rb.count))).setCell ⟨gp,1,none⟩ (.slice A4 n4 c4)).heap[g]?=some (.cells #[.int .i64 r.count,.slice r.A r.n r.c] 232 (0,0)) ∧
          dW ((w5.setCell ⟨gp,0,none⟩ (.int .i64 (ra.count+rb.count))).setCell ⟨gp,1,none⟩ (.slice A4 n4 c4)) G r/\w'.grownBy ((w5.setCell ⟨gp,0,none⟩ (.int .i64 (ra.count+rb.count))).setCell ⟨gp,1,none⟩ (.slice A4 n4 c4)) none):=by
      intro w5 gp A4 n4 c4 base h1 h2 h3 h4 h5;obtain⟨k1,k2,k3,k4,k5,k6⟩:=yH (u:=.int .i64 (ra.count+rb.count)) (v:=.slice A4 n4 c4) h3;have k7:=aN h1 k6 (by intro q hq;cases hq;exact h2);refine⟨k1,k2,k3,k4,k7,⟨ra.count+rb.count,A4,n4,c4,ra.syms++rb.syms⟩,gp,rfl,rfl,rfl,h2,k5,?_,k7⟩;have FX:0<(ra.syms++rb.syms).length:=by have:=sa.2.1;have:=sa.2.2.1;simp;omega
      refine(dW.fresh (G:=G) h4 FX (fun g FY=>Nat.lt_of_lt_of_le (Hr g FY) h5) (ra.count+rb.count)).keep k6 ?_;intro g FY;cases FY;exact .inr ⟨_,232,_,h3,by decide⟩
    refine⟨fun p w6=>∃(r:RC)(g:Nat),r.count=ra.count+rb.count/\r.syms=ra.syms++rb.syms/\p=⟨g,0,none⟩/\w'.heap.size<=g/\w6.heap[g]?=some (.cells #[.int .i64 r.count,.slice r.A r.n r.c] 232 (0,0))/\dW w6 G r/\w'.grownBy w6 none,?_,?_⟩
    · refine⟨fun w2=>w'.grownBy w2 none,aI (aC _ _),?_⟩;have gd:=aI (aC w' none);have sd:w'.drew.heap.size=w'.heap.size:=rfl;refine⟨⟨⟨a,ha,by omega,by omega,ra.count,fun w2 h=>(rd w2 h).1,by omega,a,ha,by omega,by omega,rb.count,fun w2 h=>(rd w2 h).2.2.1,by omega,a,ha,by omega,by omega,ra.A,ra.n,ra.c,fun w2 h=>(rd w2 h).2.1,?_⟩,⟨a,ha,by omega,by omega,ra.count,fun w2 h=>(rd w2 h).1,by omega,a,ha,by omega,by omega,rb.count,fun w2 h=>(rd w2 h).2.2.1,by omega,a,ha,by omega,by omega,ra.A,ra.n,ra.c,fun w2 h=>(rd w2 h).2.1,?_⟩⟩,⟨a,ha,by omega,by omega,ra.count,fun w2 h=>(rd w2 h).1,by omega,a,ha,by omega,by omega,rb.count,fun w2 h=>(rd w2 h).2.2.1,by omega,a,ha,by omega,by omega,ra.A,ra.n,ra.c,fun w2 h=>(rd w2 h).2.1,?_⟩⟩
      · obtain⟨A3,n3,c3,w3,e1,e2,e3,e4⟩:=app1 _ gd;have g3:=aA gd e4;obtain⟨A4,n4,c4,w4,f1,f2,f3,f4⟩:=app2 w3 A3 n3 c3 _ g3 e2 e3 (Nat.le_of_eq sd.symm) e4.size;have g5:=World.grownBy_alloc w4 (.cells #[.int .i64 0,.slice none 0 0] 232) none;have h5:=heap_alloc_new w4 (.cells #[.int .i64 0,.slice none 0 0] 232);obtain⟨k1,k2,k3,k4,k5,k6⟩:=fin _ w4.heap.size A4 n4 c4 _ (aA f4 g5) f4.size h5 (f2.kept g5) (Nat.le_of_eq sd.symm);exact⟨A3,n3,c3,w3,e1,g3,by omega,a,ha,by omega,by omega,rb.A,rb.n,rb.c,fun w2 h=>(rd w2 h).2.2.2,A4,n4,c4,w4,f1,f4,aA f4 g5,k1,k2,k3,k4,k5,k6⟩
      · obtain⟨A3,n3,c3,w3,e1,e2,e3,e4⟩:=app1 _ gd;have g3:=aA gd e4;have g5:=World.grownBy_alloc w3 (.cells #[.int .i64 0,.slice none 0 0] 232) none;have h5:=heap_alloc_new w3 (.cells #[.int .i64 0,.slice none 0 0] 232);obtain⟨A4,n4,c4,w4,f1,f2,f3,f4⟩:=app2 _ A3 n3 c3 _ (aA g3 g5) (e2.kept g5) e3 (Nat.le_of_eq sd.symm) (Nat.le_trans e4.size g5.size);have h6:w4.heap[w3.heap.size]?=some (.cells #[.int .i64 0,.slice none 0 0] 232 (0,0)):=by
          rw[f3.block _ (by simp) (fun e=>by have:=e2.block_lt _ e.symm;omega)];exact h5
        obtain⟨k1,k2,k3,k4,k5,k6⟩:=fin w4 w3.heap.size A4 n4 c4 _ f4 g3.size h6 f2 (Nat.le_of_eq sd.symm);exact⟨A3,n3,c3,w3,e1,g3,by omega,a,ha,by omega,by omega,rb.A,rb.n,rb.c,fun w2 h=>(rd w2 h).2.2.2,aA g3 g5,A4,n4,c4,w4,f1,f4,k1,k2,k3,k4,k5,k6⟩
      · have g5:=ic gd (.cells #[.int .i64 0,.slice none 0 0] 232);have h5:=heap_alloc_new w'.drew (.cells #[.int .i64 0,.slice none 0 0] 232);obtain⟨A3,n3,c3,w3,e1,e2,e3,e4⟩:=app1 _ g5;have g3:=aA g5 e4;obtain⟨A4,n4,c4,w4,f1,f2,f3,f4⟩:=app2 w3 A3 n3 c3 _ g3 e2 e3 g5.size e4.size;have h6:w3.heap[w'.drew.heap.size]?=some (.cells #[.int .i64 0,.slice none 0 0] 232 (0,0)):=by
          rw[e4.block _ (by simp) (by simp)];exact h5
        have h7:w4.heap[w'.drew.heap.size]?=some (.cells #[.int .i64 0,.slice none 0 0] 232 (0,0)):=by
          rw[f3.block _ (Array.getElem?_eq_some_iff.1 h6).1 (fun e=>by have:=e2.block_ge _ e.symm;simp at this;omega)];exact h6
        obtain⟨k1,k2,k3,k4,k5,k6⟩:=fin w4 w'.drew.heap.size A4 n4 c4 _ f4 (Nat.le_of_eq sd.symm) h7 f2 g5.size;exact⟨by omega,a,ha,by omega,by omega,rb.A,rb.n,rb.c,fun w2 h=>(rd w2 h).2.2.2,g5,A3,n3,c3,w3,e1,g3,A4,n4,c4,w4,f1,f4,k1,k2,k3,k4,k5,k6⟩
    · rintro p w6 ⟨r,gp,NP,Ut,rfl,Xr,QD,Qm,g6⟩;have Hu:w.grownBy w6 none:=aA hg g6;have Hc:w6.heap.size<=w6.heap.size:=Nat.le_refl _
      -- coins ahead of the package
      refine⟨fun ms A2 n2 c2 k2 w2=>∃(kn:Nat)(O:List RC),k2=(kn:Int)/\kn<=C.length/\O.length<=kn+j/\ms=C.length-kn/\aE w2 w.heap.size 232 2 A2 n2 c2 (io O)/\n2=O.length/\((Value.slice A2 n2 c2).ownBlock≠some gp)/\(∀ x∈O,dW w2 G x) ∧
          O.map cG++cO ((C.drop kn).map cG) ((ra.count+rb.count,ra.syms++rb.syms) ::df ((L.drop (2*(j+1))).map cG))=eH (C.map cG) (L.map cG)/\w.grownBy w2 none/\w2.heap[gp]?=some (.cells #[.int .i64 r.count,.slice r.A r.n r.c] 232 (0,0))/\dW w2 G r,
        ⟨_,kn,O,rfl,hk,by omega,rfl,ho.kept g6,GG,?_,fun x hx=>(hO x hx).keep_none g6,?_,Hu,QD,Qm⟩,?_⟩
      · intro e;have:=ho.block_lt _ e;omega
      · rw[← Ha,Gn];rfl
      clear Ha ho hO MF hk GG;rintro ms A2 n2 c2 k2 w2 ⟨kn,O,rfl,hk,MF,rfl,ho,IT,FS,hO,Ha,FY,GF,GX⟩
      -- one coin more
      have one:∀(x:RC),dW w2 G x->∃(A4:OA)(n4 c4:Nat),∃ w4:World,
          Sem.run P (Builtin.append_ #[229,229] 229 #[.slice A2 n2 c2,.slice (some ⟨w2.drew.heap.size,0,none⟩) 1 1]) (w2.drew.alloc (.cells #[.int .i64 x.count,.slice x.A x.n x.c] 232))=.ok (.slice A4 n4 c4) w4 ∧
          aE w4 w.heap.size 232 2 A4 n4 c4 (io (O++[x]))/\n4=(O++[x]).length/\w.grownBy w4 none/\(∀ y∈O++[x],dW w4 G y)/\dW w4 G r/\w4.heap[gp]?=some (.cells #[.int .i64 r.count,.slice r.A r.n r.c] 232 (0,0))/\(Value.slice A4 n4 c4).ownBlock≠some gp:=by
        intro x hx;have g3:=aI (aC w2 none);have s3:w2.drew.heap.size=w2.heap.size:=rfl;obtain⟨A4,n4,c4,w4,h3,h4,h5,h6,IC⟩:=zf (r:=x) (ho.kept g3) (by omega) (show w.heap.size<=w2.drew.heap.size from FY.size);have hq:∀ g,(Value.slice A2 n2 c2).ownBlock=some g->some g=G∨∃(cur:Array Value)(e:TypeId)(fr:Nat×Nat),w2.drew.heap[g]?=some (.cells cur e fr)/\e≠3:=by
          intro g Gh;obtain⟨cur,h7⟩:=ho.block_type g Gh;exact .inr ⟨cur,232,_,h7,by decide⟩
        have keep:∀ y,dW w2 G y->dW w4 G y:=fun y hy=>(hy.keep_none g3).keep h6 hq;refine⟨A4,n4,c4,w4,h3,h4,by rw[h5,IT];simp,aN (aI FY) h6 (ho.kept g3).block_ge,?_,keep r GX,?_,?_⟩
        · intro y hy;rcases List.mem_append.1 hy with e | e
          · exact keep y (hO y e)
          · have:y=x:=by simpa using e
            subst this;exact keep y hx
        · rw[h6.block gp (Array.getElem?_eq_some_iff.1 GF).1 (fun e=>FS e.symm)];exact GF
        · rcases IC with e | ⟨g,e,FU⟩
          · rw[e];exact FS
          · rw[e];intro hh;have h7:=(Array.getElem?_eq_some_iff.1 GF).1;have h8:w2.heap.size<=g:=FU;cases hh;omega
      have last:(∀ ps,cO ((C.drop kn).map cG) ((ra.count+rb.count,ra.syms++rb.syms) ::ps)=(ra.count+rb.count,ra.syms++rb.syms) ::cO ((C.drop kn).map cG) ps)->∃(A4:OA)(n4 c4:Nat),∃ w4:World,
          Sem.run P (Builtin.append_ #[229,229] 229 #[.slice A2 n2 c2,.slice (some ⟨w2.drew.heap.size,0,none⟩) 1 1]) (w2.drew.alloc (.cells #[.int .i64 r.count,.slice r.A r.n r.c] 232))=.ok (.slice A4 n4 c4) w4 ∧
          (-9223372036854775808<=((2*j:Nat):Int)+2/\((2*j:Nat):Int)+2<=9223372036854775807)/\∃ ms,ms<L.length-2*j/\∃(kn' j':Nat)(O:List RC),(kn:Int)=(kn':Int)/\((2*j:Nat):Int)+2=((2*j':Nat):Int)/\kn'<=C.length/\2*j'<=L.length/\O.length<=kn'+j'/\ms=L.length-2*j'/\aE w4 w.heap.size 232 2 A4 n4 c4 (io O)/\n4=O.length/\(∀ x∈O,dW w4 G x) ∧
        O.map cG++cO ((C.drop kn').map cG) (df ((L.drop (2*j')).map cG))=eH (C.map cG) (L.map cG)/\w.grownBy w4 none:=by
        intro IU;obtain⟨A4,n4,c4,w4,h1,h2,h3,h4,h5,_⟩:=one r GX;refine⟨A4,n4,c4,w4,h1,by omega,L.length-2*(j+1),by omega,kn,j+1,O++[r],rfl,by omega,hk,by omega,by simp;omega,rfl,h2,h3,h5,?_,h4⟩;rw[← Ha,IU];have:cG r=(ra.count+rb.count,ra.syms++rb.syms):=by simp[cG,NP,Ut]
        simp[this]
      have cp1:w2.drew.cell? ⟨gp,0,none⟩=some (.int .i64 r.count):=by show w2.cell? _=_;simp[World.cell?,GF]
      have cp2:w2.drew.cell? ((⟨gp,0,none⟩:Addr).add 1)=some (.slice r.A r.n r.c):=by show w2.cell? _=_;rw[aP];simp[World.cell?,GF]
      refine⟨fun GI=>?_,fun Ju=>?_⟩
      · have l3:kn<C.length:=by omega
        obtain⟨q,MU,MT,Qz⟩:=oI (hA.kept_none (aI FY)) l3;have LB:(C.drop kn).map cG=cG C[kn] ::(C.drop (kn+1)).map cG:=by
          rw[List.drop_eq_getElem_cons l3];rfl
        have tk:(kn:Int).toNat=kn:=by omega
        rw[tk];refine⟨q,MU,by omega,by omega,C[kn].count,MT,r.count,cp1,fun Ga=>?_,fun GV=>?_⟩
        · refine⟨q,MU,by omega,by omega,C[kn].count,MT,C[kn].A,C[kn].n,C[kn].c,Qz,?_⟩;obtain⟨A4,n4,c4,w4,h1,h2,h3,h4,h5,h6,h7,h8⟩:=one C[kn] ((hC _ (List.getElem_mem l3)).keep_none FY);refine⟨A4,n4,c4,w4,h1,by omega,C.length-(kn+1),by omega,kn+1,O++[C[kn]],by omega,by omega,by simp;omega,rfl,h2,h3,h8,h5,?_,h4,h7,h6⟩;rw[← Ha,LB,kZ (show(cG C[kn]).1<=ra.count+rb.count by rw[← NP];exact Ga)];simp
        · refine⟨r.count,cp1,r.A,r.n,r.c,cp2,last fun ps=>?_⟩;rw[LB];exact k8 (by show ¬ (cG C[kn]).1<=ra.count+rb.count;rw[← NP];exact GV)
      · have:kn=C.length:=by omega
        refine⟨r.count,cp1,r.A,r.n,r.c,cp2,last fun ps=>?_⟩;rw[this,List.drop_length];exact mW
  · have HV:df ((L.drop (2*j)).map cG)=[]:=by
      have:(L.drop (2*j)).length<=1:=by simp;omega
      match h:L.drop (2*j)with
      | []=>rfl
      | [x]=>simp[df]
      | x ::y ::r=>rw[h]at this;simp at this
    rw[HV]at Ha;simp only[cO]at Ha;have kt:(kn:Int).toNat=kn:=by omega
    refine⟨by omega,?_⟩;rw[kt];obtain⟨a,ha,_⟩:=oI hA (show 0<C.length by omega);subst ha;have Gj:∃ a',bK (some a) c kn 2=some a'/\∀ j u,(io (C.drop kn))[j]?=some u->w'.cell? (a'.add j)=some u:=by
      by_cases GW:c=kn
      · refine⟨a,by simp[bK,GW],fun j u hj=>?_⟩;have:C.drop kn=[]:=List.drop_eq_nil_of_le (by omega);rw[this]at hj;simp[io]at hj
      · refine⟨a.add (kn*2),by simp[bK,GW],fun j u hj=>?_⟩;obtain⟨a2,h1,h2⟩:=((hA.kept_none hg).drop (kn*2)) j u (by rw[yp];exact hj);cases h1;exact h2
    obtain⟨a',Ge,Gb⟩:=Gj;obtain⟨A4,n4,c4,w4,h1,h2,h3,h4,_⟩:=ho.appends (ty:=229) qf q8 (cc:=c-kn) (m:=n-kn) (by rw[ud];simp;omega) Gb (fun u hu=>by
      obtain⟨x,_,hx⟩:=List.mem_flatMap.1 hu;simp[jd]at hx;rcases hx with rfl | rfl <;>rfl) (by omega) hg.size
    have hq:∀ g,(Value.slice A' n' c').ownBlock=some g->some g=G∨∃(cur:Array Value)(e:TypeId)(fr:Nat×Nat),w'.heap[g]?=some (.cells cur e fr)/\e≠3:=by
      intro g Gh;obtain⟨cur,h7⟩:=ho.block_type g Gh;exact .inr ⟨cur,232,_,h7,by decide⟩
    refine⟨A4,n4,c4,w4,by rw[Ge];exact h1,A4,n4,c4,O++C.drop kn,rfl,by rw[oJ];exact h2,by rw[h3,GG];simp;omega,?_,?_,aN hg h4 ho.block_ge⟩
    · intro x hx;rcases List.mem_append.1 hx with e | e
      · exact(hO x e).keep h4 hq
      · exact((hC x (List.mem_of_mem_drop e)).keep_none hg).keep h4 hq
    · rw[← Ha];simp
theorem Dr{α:Type}{key:α->Int}{x:α}:∀ {l:List α} {k:Nat},k<=l.length->(∀ i (h:i<l.length),i<k->key l[i]<=key x)->(∀ i (h:i<l.length),k<=i->key x<key l[i])->sS key x l=l.take k++x ::l.drop k
 | [],k,hk,_,_=>by simp[sS]
 | y ::l,0,_,_,h2=>by
  have:=h2 0 (by simp) (by omega);simp only[List.getElem_cons_zero]at this;simp[sS,show ¬ key y<=key x by omega]
 | y ::l,k+1,hk,h1,h2=>by
  have:=h1 0 (by simp) (by omega);simp only[List.getElem_cons_zero]at this;have ih:=Dr (key:=key) (x:=x) (l:=l) (k:=k) (by simpa using hk) (fun i h hi=>h1 (i+1) (by simp;omega) (by omega)) (fun i h hi=>h2 (i+1) (by simp;omega) (by omega));simp[sS,this,ih]
theorem sC{xs:List Int}{s:Nat}(hs:s<xs.length):aK (xs.take (s+1))=if xs[s]>0 then sS Prod.fst (cN xs[s],[s]) (aK (xs.take s)) else aK (xs.take s):=by
 unfold aK;rw[List.take_succ_eq_append_getElem hs,gl];have hl:(xs.take s).length=s:=by simp;omega
 rw[hl,Nat.zero_add];have e:aV s [xs[s]]=if xs[s]>0 then [(cN xs[s],[s])] else []:=by simp[aV]
 rw[e];split
 ·simp[dj,List.foldl_append]
 ·simp
theorem oL {w:World} {base n c m d:Nat} {A B:OA} {L M:List RC} (ho:aE w base 232 2 A n c (io L)) (hB:aZ w B (io M)) (hm:m=M.length) (hd:B=none->d=0) (II:n=L.length) (hn:n+m<=2^30) (hb:base<=w.heap.size) :
    ∃ (A':OA) (n' c':Nat) (w':World),Sem.run P (Builtin.append_ #[229,229] 229 #[.slice A n c,.slice B m d]) w=.ok (.slice A' n' c') w' ∧
      aE w' base 232 2 A' n' c' (io (L++M))/\n'=(L++M).length/\w.grownBy w' (Value.slice A n c).ownBlock:=by
  cases B with
  | none =>
    have:M=[]:=by
      cases M with
      | nil=>rfl
      | cons r M =>
        obtain⟨a,h,_⟩:=hB 0 (.int .i64 r.count) (by simp[io,jd]);cases h
    subst this;have Rk:=hd rfl;subst Rk;have KF:m=0:=by simpa using hm
    subst KF;exact⟨A,n,c,w,ho.appends_nil qf,by simpa using ho,by simpa using II,aC _ _⟩
  | some a =>
    obtain⟨A',n',c',w',h1,h2,h3,h4,_⟩:=ho.appends (ty:=229) qf q8 (a:=a) (m:=m) (cc:=d) (us:=io M) (by rw[ud,hm]) (fun j u hj=>by obtain⟨b,e1,e2⟩:=hB j u hj;cases e1;exact e2) (fun u hu=>by
      obtain⟨x,_,hx⟩:=List.mem_flatMap.1 hu;simp[jd]at hx;rcases hx with rfl | rfl <;>rfl) (by omega) hb
    exact⟨A',n',c',w',h1,by rw[oJ];exact h2,by rw[h3,II,hm];simp,h4⟩
theorem dW.away{w:World}{r:RC}(h:dW w none r){g:Nat}(hg:w.heap.size<=g):dW w (some g) r:=by
 obtain⟨h1,h2,h3,h4⟩:=h;refine⟨h1,h2,h3,fun a ha=>?_⟩;obtain⟨_,cur,fr,h6⟩:=h4 a ha;refine⟨fun e=>?_,cur,fr,h6⟩;have:=(Array.getElem?_eq_some_iff.1 h6).1;cases e;omega
theorem ET{w:World}{A:OA}{n c k:Nat}{C:List RC}(h:aZ w A (io C))(hA:A=none->c=0)(hc:C.length<=c):aZ w (bK A c k 2) (io (C.drop k))/\(bK A c k 2=none->c-k=0):=by
 unfold bK;split
 ·rename_i GW;refine⟨?_,fun _=>by omega⟩;rw[List.drop_eq_nil_of_le (by omega)];intro j u hj;simp[io]at hj
 ·have:=h.drop (k*2);rw[yp]at this;refine⟨this,fun e=>?_⟩;cases A with
  | none=>rw[hA rfl];omega
  | some a=>simp at e
theorem Dy{l:List bU}{B:Nat}(h:∀ x∈l,x.2.length<=B):(l.flatMap Prod.snd).length<=B*l.length:=by
 induction l with
 | nil=>simp
 | cons x l ih =>
  have h1:=h x (by simp);have h2:=ih (fun y hy=>h y (by simp[hy]));simp only[List.flatMap_cons,List.length_append,List.length_cons,Nat.mul_succ];omega
theorem qN {w : World} {A:OA} {n c:Nat} {xs:List Int} {most:Int} (Gj:aZ w A (aT xs)) (hn:n=xs.length) :
    Calls P 117 #[.slice A n c,.int .i64 most] w fun ev w'=>∃(A':OA)(n' c':Nat),ev=.returned (.slice A' n' c')/\cP w' w.heap.size 3 A' n' c' (aT (dq xs most))/\w.grownBy w' none:=by
  apply vc117;dsimp only[VC117,Wt,Br,Rd,Rc,Rs,Ix,Ap,Ws,cI,cS,nb,ad,al,iq];obtain⟨hm,Ov,L5⟩:=yD most;rw[hm];simp only[aG];have tn:(cw most:Int).toNat=cw most:=by omega
  have Hi:min (cw most) 64=cw most:=by omega
  rw[tn,Hi];have QB:2^cw most<=2^15:=Nat.pow_le_pow_right (by omega) L5;obtain⟨q,hq⟩:∃ q,q=2^cw most:=⟨_,rfl⟩;have J9:(1:Int)*2^cw most=(q:Int):=by rw[hq];simp
  rw[J9];refine⟨fun h=>⟨none,0,0,rfl,?_,aC _ _⟩,fun h=>?_⟩
  · have:dq xs most=[]:=by unfold dq;rw[if_pos (by omega)]
    rw[this];exact World.ownsRow_nil _ _ _ _
  have IF:xs.length<=256:=by omega
  refine⟨fun ms A1 n1 c1 s w1=>∃(sn:Nat)(C:List RC),s=(sn:Int)/\sn<=xs.length/\ms=xs.length-sn/\aE w1 w.heap.size 232 2 A1 n1 c1 (io C)/\n1=C.length/\(∀ x∈C,dW w1 none x)/\C.map cG=aK (xs.take sn)/\w.grownBy w1 none,
    ⟨_,0,[],rfl,by omega,rfl,aE.nil _ _ _ _,rfl,by simp,by simp[aK,aV,dj],aC _ _⟩,?_⟩
  rintro ms A1 n1 c1 s w1 ⟨sn,C,rfl,JA,rfl,ho,Ii,hC,KZ,hg⟩;have XY:C.length<=xs.length:=by
    have h1:=congrArg List.length KZ;have h2:=gk (xs.take sn);simp at h1 h2;omega
  have Io:n1<=c1/\(A1=none->c1=0):=by
    rcases ho.cases.2 with⟨e,h,h',_⟩ | ⟨g,cur,e,_,_,h,_⟩
    · exact⟨by omega,fun _=>h'⟩
    · exact⟨h,fun h=>by rw[e]at h;cases h⟩
  have Lt:∀ i j (hi:i<C.length) (hj:j<C.length),i<=j->C[i].count<=C[j].count:=by
    intro i j hi hj GJ;have hs:aJ Prod.fst (C.map cG):=by rw[KZ];exact iG _
    rcases Nat.lt_or_eq_of_le GJ with e | e
    · have:=List.pairwise_iff_getElem.1 hs i j (by simpa using hi) (by simpa using hj) e;simpa[cG]using this
    · subst e;omega
  refine⟨fun FP=>?_,fun FU=>?_⟩
  · have l1 : sn<xs.length:=by omega
    obtain⟨a,Ge,Gb⟩:=(Gj.kept_none hg) sn (.int .i64 xs[sn]) (by simp[aT,l1]);have ts:(sn:Int).toNat=sn:=by omega
    rw[ts];refine⟨a,Ge,by omega,by omega,xs[sn],Gb,?_⟩;refine zi ⟨_,rfl,?_⟩;have h3:=heap_alloc_new (w1.alloc (.cells #[.int .i64 (sn:Int)] 3)) (.cells #[.int .i64 0,.slice none 0 0] 232);have h0:=heap_alloc_new w1 (.cells #[.int .i64 (sn:Int)] 3);obtain⟨k1,k2,k3,k4,k5,k6⟩:=yH (u:=.int .i64 (cN xs[sn])) (v:=.slice (some ⟨w1.heap.size,0,none⟩) 1 1) h3;have ga:=World.grownBy_alloc w1 (.cells #[.int .i64 (sn:Int)] 3) none;have gb:=World.grownBy_alloc (w1.alloc (.cells #[.int .i64 (sn:Int)] 3)) (.cells #[.int .i64 0,.slice none 0 0] 232) none;have Hr:(w1.alloc (.cells #[.int .i64 (sn:Int)] 3)).heap.size=w1.heap.size+1:=by simp
    refine⟨k1,k2,k3,k4,cN xs[sn],by rw[World.cell?,k5];rfl,?_⟩;obtain⟨g,Vu⟩:∃ g,g=(w1.alloc (.cells #[.int .i64 (sn:Int)] 3)).heap.size:=⟨_,rfl⟩;rw[← Vu]at k5 k6 Hr ⊢;have F8:=aN (aA ga gb) k6 (by intro q hq;cases hq;omega);have Rx:((((w1.alloc (.cells #[.int .i64 (sn:Int)] 3)).alloc (.cells #[.int .i64 0,.slice none 0 0] 232)).setCell ⟨g,0,none⟩ (.int .i64 (cN xs[sn]))).setCell ⟨g,1,none⟩ (.slice (some ⟨w1.heap.size,0,none⟩) 1 1)).heap[w1.heap.size]?=some (.cells #[.int .i64 (sn:Int)] 3 (0,0)):=by
      rw[k6.block _ (by have:=gb.size;omega) (by simp;omega),gb.block _ (by omega) (by simp),h0]
    obtain⟨w4,HY⟩:∃ w4,w4=(((w1.alloc (.cells #[.int .i64 (sn:Int)] 3)).alloc (.cells #[.int .i64 0,.slice none 0 0] 232)).setCell ⟨g,0,none⟩ (.int .i64 (cN xs[sn]))).setCell ⟨g,1,none⟩ (.slice (some ⟨w1.heap.size,0,none⟩) 1 1):=⟨_,rfl⟩;rw[← HY]at k5 k6 F8 Rx ⊢;clear k1 k2 k3 k4 k6 ga gb h3 h0 HY;obtain⟨r,hr⟩:∃ r:RC,r=⟨cN xs[sn],some ⟨w1.heap.size,0,none⟩,1,1,[sn]⟩:=⟨_,rfl⟩;have Qm:dW w4 none r:=by
      subst hr;refine⟨?_,rfl,by simp,fun a ha=>by cases ha;exact⟨by simp,_,_,Rx⟩⟩;intro j u hj;cases j with
      | zero=>exact⟨_,rfl,by rw[aP];simpa[World.cell?,Rx,mV]using hj⟩
      | succ j=>simp[mV]at hj
    have R1:∀ x∈C,dW w4 none x:=fun x hx=>(hC x hx).keep_none F8;have OW:∀ w',w4.grownBy w' none->w'.cell? ⟨g,0,none⟩=some (.int .i64 (cN xs[sn]))/\w'.cell? ⟨g,1,none⟩=some (.slice (some ⟨w1.heap.size,0,none⟩) 1 1):=by
      intro w' h;have h5:=h.block g (Array.getElem?_eq_some_iff.1 k5).1 (by simp);rw[k5]at h5;constructor <;>simp[World.cell?,h5]
    refine⟨fun hz=>?_,fun SE=>?_⟩
    · refine⟨by omega,xs.length-(sn+1),by omega,sn+1,C,by omega,by omega,rfl,ho.kept F8,Ii,R1,?_,aA hg F8⟩;rw[sC l1,if_neg (by intro h;have:=(qP h).1;omega)];exact KZ
    · have FX : xs[sn]>0:=by
        apply Decidable.byContradiction;intro h;exact SE (Ak h)
      refine⟨fun k w'=>∃ kn:Nat,k=(kn:Int)/\kn<=C.length/\(∀ i (h:i<C.length),i<kn->C[i].count<=cN xs[sn])/\(∀ i (h:i<C.length),kn<=i->cN xs[sn]<C[i].count)/\w4.grownBy w' none,?_,?_⟩
      · refine⟨fun ms k w'=>∃ kn:Nat,k=(kn:Int)/\ms=kn/\kn<=C.length/\(∀ i (h:i<C.length),kn<=i->cN xs[sn]<C[i].count)/\w4.grownBy w' none,
          ⟨_,C.length,by omega,rfl,by omega,fun i h hi=>by omega,aC _ _⟩,?_⟩
        rintro ms k w5 ⟨kn,rfl,Xg,KH,GV,Hx⟩;refine⟨fun hp=>?_,fun hz=>⟨kn,rfl,KH,fun i h hi=>by omega,GV,aI Hx⟩⟩;have lk:kn-1<C.length:=by omega
        obtain⟨b,Hy,Gf,_⟩:=oI ((ho.kept (aA F8 (aI Hx))).row) lk;have tk:((kn:Int)-1).toNat=kn-1:=by omega
        rw[tk];refine⟨by omega,b,Hy,by omega,by omega,C[kn-1].count,Gf,cN xs[sn],(OW _ (aI Hx)).1,fun Vs=>⟨by omega,kn-1,by omega,kn-1,by omega,rfl,by omega,fun i h hi=>?_,aI Hx⟩,fun Ga=>⟨kn,rfl,KH,fun i h hi=>?_,GV,aI Hx⟩⟩
        · have:=Lt (kn-1) i lk h hi;omega
        · have:=Lt i (kn-1) h lk (by omega);omega
      · rintro k w5 ⟨kn,rfl,KH,Ga,GV,Hx⟩;have tk:(kn:Int).toNat=kn:=by omega
        rw[tk];have Pz:=aI Hx;have wR:∀ w2:World,w4.grownBy w2 none->aZ w2 A1 (io C):=fun w2 h=>(ho.kept (aA F8 h)).row;have GI:(C.take kn).length=kn:=by simp;omega
        have step1:∀ w2:World,w4.grownBy w2 none->w5.heap.size<=w2.heap.size->∃(A':OA)(n' c':Nat)(w3:World),Sem.run P (Builtin.append_ #[229,229] 229 #[.slice none 0 0,.slice A1 kn c1]) w2=.ok (.slice A' n' c') w3/\aE w3 w5.heap.size 232 2 A' n' c' (io (C.take kn))/\n'=kn/\w2.grownBy w3 none:=by
          intro w2 h h';have ht:=(wR w2 h).take (kn*2);rw[Da]at ht;obtain⟨A',n',c',w3,e1,e2,e3,e4⟩:=oL (L:=[]) (n:=0) (c:=0) (A:=none) (d:=c1) (m:=kn) (aE.nil w2 w5.heap.size 232 2) ht GI.symm Io.2 rfl (by omega) h';exact⟨A',n',c',w3,e1,by simpa using e2,by rw[e3,List.nil_append,GI],e4⟩
        have step2:∀(w2:World)(A':OA)(n' c' g':Nat),aE w2 w5.heap.size 232 2 A' n' c' (io (C.take kn))->n'=kn->aZ w2 (some ⟨g',0,none⟩) (io [r])->w5.heap.size<=w2.heap.size->w4.grownBy w2 none->∃(A3:OA)(n3 c3:Nat)(w3:World),
            Sem.run P (Builtin.append_ #[229,229] 229 #[.slice A' n' c',.slice (some ⟨g',0,none⟩) 1 1]) w2=.ok (.slice A3 n3 c3) w3/\aE w3 w5.heap.size 232 2 A3 n3 c3 (io (C.take kn++[r]))/\n3=(C.take kn++[r]).length/\w4.grownBy w3 none/\w5.heap.size<=w3.heap.size:=by
          intro w2 A' n' c' g' h1 h2 h3 h4 h5;obtain⟨A3,n3,c3,w3,e1,e2,e3,e4⟩:=oL (d:=1) (m:=1) h1 h3 rfl (by simp) (by omega) (by omega) h4;exact⟨A3,n3,c3,w3,e1,e2,e3,aN h5 e4 (fun k hk=>Nat.le_trans Hx.size (h1.block_ge k hk)),Nat.le_trans h4 e4.size⟩
        have step3:∀(w2:World)(A':OA)(n' c':Nat),aE w2 w5.heap.size 232 2 A' n' c' (io (C.take kn++[r]))->n'=(C.take kn++[r]).length->w5.heap.size<=w2.heap.size->w4.grownBy w2 none->∃(A3:OA)(n3 c3:Nat)(w3:World),
            Sem.run P (Builtin.append_ #[229,229] 229 #[.slice A' n' c',.slice (bK A1 c1 kn 2) (n1-kn) (c1-kn)]) w2=.ok (.slice A3 n3 c3) w3/\w4.grownBy w3 none/\aE w3 w.heap.size 232 2 A3 n3 c3 (io (C.take kn++r ::C.drop kn))/\n3=(C.take kn++r ::C.drop kn).length/\w4.grownBy w3 none:=by
          intro w2 A' n' c' h1 h2 h4 h5;obtain⟨cr1,cr2⟩:=ET (k:=kn) (n:=n1) (wR w2 h5) Io.2 (by omega);obtain⟨A3,n3,c3,w3,e1,e2,e3,e4⟩:=oL (d:=c1-kn) (m:=n1-kn) h1 cr1 (by simp;omega) cr2 h2 (by rw[h2,List.length_append,GI];simp;omega) h4;have OI:=aN h5 e4 (fun k hk=>Nat.le_trans Hx.size (h1.block_ge k hk));have RA:C.take kn++[r]++C.drop kn=C.take kn++r ::C.drop kn:=by simp
          rw[RA]at e2 e3;exact⟨A3,n3,c3,w3,e1,OI,e2.mono (Nat.le_trans hg.size (Nat.le_trans F8.size Hx.size)),e3,OI⟩
        have rcr:io [r]=[.int .i64 (cN xs[sn]),.slice (some ⟨w1.heap.size,0,none⟩) 1 1]:=by rw[hr];rfl
        have Ur:w5.drew.heap.size=w5.heap.size:=rfl;refine⟨fun A' n' c' w'=>aE w' w.heap.size 232 2 A' n' c' (io (C.take kn++r ::C.drop kn))/\n'=(C.take kn++r ::C.drop kn).length/\w4.grownBy w' none,⟨fun w2=>w4.grownBy w2 none,Pz,⟨⟨by omega,?_⟩,⟨by omega,?_⟩⟩⟩,?_⟩
        · obtain⟨A2,n2,c2,w6,e1,e2,e3,e4⟩:=step1 _ Pz (Nat.le_of_eq Ur.symm);have g6:=aA Pz e4;have s6:w5.heap.size<=w6.heap.size:=e4.size;have g7:=ic g6 (.cells #[.int .i64 (cN xs[sn]),.slice (some ⟨w1.heap.size,0,none⟩) 1 1] 232);have ro:=dg w6 #[.int .i64 (cN xs[sn]),.slice (some ⟨w1.heap.size,0,none⟩) 1 1] 232;obtain⟨A3,n3,c3,w7,f1,f2,f3,f4,f5⟩:=step2 _ A2 n2 c2 _ (e2.kept (World.grownBy_alloc w6 _ none)) e3 (by rw[rcr];exact ro) (Nat.le_trans s6 (World.grownBy_alloc w6 _ none).size) g7;obtain⟨A4,n4,c4,w8,q1,q2⟩:=step3 w7 A3 n3 c3 f2 f3 f5 f4;exact⟨A2,n2,c2,w6,e1,g6,_,fun w h=>(OW w h).1,_,_,_,fun w h=>(OW w h).2,g7,A3,n3,c3,w7,f1,f4,by omega,A4,n4,c4,w8,q1,q2⟩
        · have g7:=ic Pz (.cells #[.int .i64 (cN xs[sn]),.slice (some ⟨w1.heap.size,0,none⟩) 1 1] 232);have ro:=dg w5.drew #[.int .i64 (cN xs[sn]),.slice (some ⟨w1.heap.size,0,none⟩) 1 1] 232;have s7:w5.heap.size<=(w5.drew.alloc (.cells #[.int .i64 (cN xs[sn]),.slice (some ⟨w1.heap.size,0,none⟩) 1 1] 232)).heap.size:=(World.grownBy_alloc w5.drew _ none).size;obtain⟨A2,n2,c2,w6,e1,e2,e3,e4⟩:=step1 _ g7 s7;have g6:=aA g7 e4;obtain⟨A3,n3,c3,w7,f1,f2,f3,f4,f5⟩:=step2 _ A2 n2 c2 _ e2 e3 (by rw[rcr];exact ro.kept_none e4) (Nat.le_trans s7 e4.size) g6;obtain⟨A4,n4,c4,w8,q1,q2⟩:=step3 w7 A3 n3 c3 f2 f3 f5 f4;exact⟨_,fun w h=>(OW w h).1,_,_,_,fun w h=>(OW w h).2,g7,A2,n2,c2,w6,e1,g6,A3,n3,c3,w7,f1,f4,by omega,A4,n4,c4,w8,q1,q2⟩
        · rintro A4 n4 c4 w8 ⟨o8,e8,g8⟩;refine⟨by omega,xs.length-(sn+1),by omega,sn+1,_,by omega,by omega,rfl,o8,e8,fun x hx=>?_,?_,aA hg (aA F8 g8)⟩
          · have:dW w4 none x:=by
              rcases List.mem_append.1 hx with e | e
              · exact R1 x (List.mem_of_mem_take e)
              · rcases List.mem_cons.1 e with e | e
                · rw[e];exact Qm
                · exact R1 x (List.mem_of_mem_drop e)
            exact this.keep_none g8
          · rw[sC l1,if_pos FX,← KZ,Dr (k:=kn) (by simpa using KH) (fun i h hi=>by simpa[cG]using Ga i (by simpa using h) hi) (fun i h hi=>by simpa[cG]using GV i (by simpa using h) hi)];have NP:cG r=(cN xs[sn],[sn]):=by rw[hr];rfl
            simp[List.map_take,List.map_drop,NP]
  · have Qp : sn=xs.length:=by omega
    rw[Qp,List.take_length]at KZ;have Va:C.length=(aK xs).length:=by rw[← KZ];simp
    refine⟨by omega,fun h2=>?_,fun h2=>?_⟩
    · refine⟨none,0,0,rfl,?_,hg⟩;have:dq xs most=[]:=by unfold dq;rw[if_neg (by omega),if_pos (by omega)]
      rw[this];exact World.ownsRow_nil _ _ _ _
    have Hn:dq xs most=ek (bX xs (cw most)) (List.replicate xs.length 0):=by unfold dq;rw[if_neg (by omega),if_neg (by omega)]
    obtain⟨w2,hr,FR,FY⟩:=jm (P:=P) (w:=w1) jh (by omega) (m:=n) (by omega);refine⟨_,_,_,w2,hr,?_⟩;have FR:cQ w2 w1.heap.size 3 n (aT (List.replicate xs.length 0)):=by
      simpa[aT,hn]using FR
    have fin:∀ w3 ys,ys=dq xs most->cQ w3 w1.heap.size 3 n (aT ys)->w2.grownBy w3 (some w1.heap.size)->∃(A':OA)(n' c':Nat),Ending.returned (.slice (some ⟨w1.heap.size,0,none⟩) n n)=.returned (.slice A' n' c')/\cP w3 w.heap.size 3 A' n' c' (aT (dq xs most))/\w.grownBy w3 none:=by
      intro w3 ys IG h3 h4;subst IG;have h5:=h3.ownsRow hg.size (by simp only[maxLen];omega);have:(aT (dq xs most)).length=n:=by rw[Hn];simp[aT,dv,hn]
      rw[this]at h5;exact⟨_,_,_,rfl,h5,aN (aA hg FY) h4 (by intro k hk;cases hk;exact hg.size)⟩
    have Gz:=ho.kept FY;have MK:∀ x∈C,dW w2 (some w1.heap.size) x:=fun x hx=>((hC x hx).away (Nat.le_refl _)).keep_none FY;have Mc:w1.heap.size<w2.heap.size:=FR.lt;refine⟨fun w3=>(C.length=1->∃ ys,ys=dq xs most/\cQ w3 w1.heap.size 3 n (aT ys))/\(C.length≠1->w3=w2)/\w2.grownBy w3 (some w1.heap.size),⟨fun h1=>?_,fun h1=>⟨fun h=>by omega,fun _=>rfl,aC _ _⟩⟩,?_⟩
    · obtain⟨x,hx⟩:∃ x,C=[x]:=List.length_eq_one_iff.1 (by omega);have Iz:aK xs=[cG x]:=by rw[← KZ,hx];rfl
      obtain⟨_,_,s,GY,GX⟩:=j8 (xs:=xs) (x:=cG x) (by rw[Iz];simp);have Qs:x.syms=[s]:=GY;obtain⟨srow,sn1,sn2,_⟩:=MK x (by rw[hx];simp);obtain⟨b,Hy,Gf⟩:=srow 0 (.int .i64 (s:Int)) (by simp[mV,Qs]);have Gs:aZ w2 A1 (io [x]):=by rw[← hx];exact Gz.row
      obtain⟨a,e1,e2⟩:=Gs 1 (.slice x.A x.n x.c) (by simp[io,jd]);have VV:b.add 0=b:=by simp[Addr.add]
      rw[VV]at Gf;have ts:(s:Int).toNat=s:=by omega
      have FV:=FR.cell (j:=s) (u:=.int .i64 0) (by simp[aT,GX]);refine⟨a,e1,by omega,by omega,x.A,x.n,x.c,e2,b,Hy,by omega,by omega,(s:Int),Gf,_,rfl,by omega,by omega,⟨_,by rw[ts];exact FV⟩,FR.notFrozen (aL _ _),?_⟩;rw[ts];have Gy:=FR.set (j:=s) (by simpa[aT]using GX) (.int .i64 1);refine⟨fun _=>⟨(List.replicate xs.length 0).set s 1,?_,by simpa[aT,List.map_set]using Gy⟩,fun h=>by omega,bF (aC _ _) (aL _ _) _⟩;rw[Hn];have:bX xs (cw most)=[s]:=by unfold bX;rw[Iz];simp[GY]
      rw[this];simp[ek,q9,GX]
    · rintro w3 ⟨MM,Pq,Gh⟩;refine⟨fun GI=>?_,fun Ju=>?_⟩
      · by_cases h1:C.length=1
        · obtain⟨ys,e1,e2⟩:=MM h1;exact fin w3 ys e1 e2 Gh
        · have:=Pq h1;subst this;refine fin _ (List.replicate xs.length 0) ?_ FR (aC _ _);have QH:aK xs=[]:=List.eq_nil_of_length_eq_zero (by omega);rw[Hn];have:bX xs (cw most)=[]:=by unfold bX;rw[QH];simp[xo]
          rw[this];rfl
      · have := Pq (by omega);subst this;clear MM Pq Gh;refine⟨fun ms lA ln lc i w4=>∃(k:Nat)(O:List RC),i=((k+1:Nat):Int)/\k<=cw most-1/\ms=cw most-1-k/\aE w4 w.heap.size 232 2 lA ln lc (io O)/\ln=O.length/\(∀ x∈O,dW w4 (some w1.heap.size) x)/\O.map cG=je (aK xs) k/\w3.grownBy w4 none,
          ⟨_,0,C,rfl,by omega,rfl,Gz,Ii,MK,KZ,aC _ _⟩,?_⟩
        rintro ms lA ln lc i w4 ⟨k,O,rfl,hk,rfl,GU,QQ,hO,Ks,F8⟩;have MF:O.length=(je (aK xs) k).length:=by rw[← Ks];simp
        have IW:=qQ (aK xs) k;have Ik:=gk xs;have Jc:∀ x∈O,Fine xs.length k (cG x):=fun x hx=>qb xs k _ (by rw[← Ks];exact List.mem_map_of_mem hx);have Hc:2^k<=2^15:=Nat.pow_le_pow_right (by omega) (by omega);refine⟨fun FP=>?_,fun FU=>?_⟩
        · refine(xk (C:=C) (L:=O) (G:=some w1.heap.size) (Gz.kept F8).row GU.row Ii QQ (fun x hx=>(MK x hx).keep_none F8) hO (fun g hg=>by cases hg;exact Nat.lt_of_lt_of_le Mc F8.size) Io.1 (by omega) (by omega) (fun x hx=>?_) (by omega)).mono fun ev w5 hh=>?_
          · obtain⟨f1,f2,f3,f4⟩:=Jc x hx;have hp:(2:Int)^k<=2^15:=by
              have e1:((2^k:Nat):Int)=2^k:=by simp
              have e2:((2^15:Nat):Int)=2^15:=by simp
              omega
            have f1':0<x.count:=f1;have f2':x.count<=1099511627776*2^k:=f2;have f3':x.syms.length<=2^k:=f3;exact⟨by omega,by omega,by omega⟩
          · obtain⟨A4,n4,c4,O4,rfl,q1,q2,q3,q4,q5⟩:=hh;refine⟨A4,n4,c4,rfl,by omega,cw most-1-(k+1),by omega,k+1,O4,by omega,by omega,rfl,q1.mono (Nat.le_trans hg.size (Nat.le_trans FY.size F8.size)),q2,q3,?_,aA F8 q5⟩;rw[q4,KZ,Ks];rfl
        · have Gi:k=cw most-1:=by omega
          have JX:=uy Ov (first:=aK xs) (by omega);rw[← Gi]at JX;have Il:bX xs (cw most)=((je (aK xs) k).take (2*(aK xs).length-2)).flatMap Prod.snd:=by
            unfold bX;rw[if_neg (by omega),Gi]
          have Od:cQ w4 w1.heap.size 3 n (aT (List.replicate xs.length 0)):=FR.kept_none F8;have NL:∀ w5,w4.grownBy w5 (some w1.heap.size)->aZ w5 lA (io O):=by
            intro w5 h5;refine GU.row.kept h5 ?_;intro a ha e;simp only[Option.some.injEq]at e;rcases GU.cases.2 with⟨h,_⟩ | ⟨g,cur,h,_,_,_,PJ,_⟩
            · rw[ha]at h;cases h
            · rw[ha]at h;cases h;obtain⟨cur',e2,_⟩:=Od;simp only at e;rw[e,e2]at PJ;cases PJ
          refine⟨fun ms i w5=>∃(j:Nat)(ys:List Int),i=(j:Int)/\j<=2*(aK xs).length-2/\ms=2*(aK xs).length-2-j/\ys=ek (((je (aK xs) k).take j).flatMap Prod.snd) (List.replicate xs.length 0)/\cQ w5 w1.heap.size 3 n (aT ys)/\w4.grownBy w5 (some w1.heap.size),
            ⟨_,0,List.replicate xs.length 0,rfl,by omega,rfl,by simp[ek],Od,aC _ _⟩,?_⟩
          rintro ms i w5 ⟨j,ys,rfl,hj,rfl,IG,Kq,Hx⟩;have Sf:ys.length=n:=by rw[IG,dv];simp[hn]
          refine⟨by omega,by omega,fun FP=>⟨fun GI=>?_,fun OJ=>by omega⟩,fun OJ=>?_⟩
          · have L9:j<O.length:=by omega
            have tj:(j:Int).toNat=j:=by omega
            rw[tj];obtain⟨f1,f2,f3,f4⟩:=Jc _ (List.getElem_mem L9);have f3':O[j].syms.length<=2^k:=f3;have f4':∀ s∈O[j].syms,s<xs.length:=f4;obtain⟨sr,sl,_,sb⟩:=hO _ (List.getElem_mem L9);have Mf:=Dy (l:=(je (aK xs) k).take j) (B:=2^15) (fun x hx=>by have:=(qb xs k x (List.mem_of_mem_take hx)).2.2.1;omega);have Vw:((je (aK xs) k).take j).length<=512:=by simp;omega
            have Kx:=gK (((je (aK xs) k).take j).flatMap Prod.snd) (xs:=List.replicate xs.length 0) (B:=0) (by simp) (by omega);rw[← IG]at Kx;refine⟨fun ms2 kk w6=>∃ t:Nat,kk=(t:Int)/\t<=O[j].syms.length/\ms2=O[j].syms.length-t/\cQ w6 w1.heap.size 3 n (aT (ek (O[j].syms.take t) ys))/\w5.grownBy w6 (some w1.heap.size),
              ⟨_,0,rfl,by omega,rfl,by simpa[ek]using Kq,aC _ _⟩,?_⟩
            rintro ms2 kk w6 ⟨t,rfl,ht,rfl,HT,Hu⟩;have Jg:=aA Hx Hu;obtain⟨a,e1,e2,e3⟩:=oI (NL w6 Jg) L9;refine⟨a,e1,by omega,by omega,_,_,_,e3,fun UV=>?_,fun OJ=>?_⟩
            · have lt:t<O[j].syms.length:=by omega
              have tt:(t:Int).toNat=t:=by omega
              rw[tt];obtain⟨b,Hy,Gf⟩:=(sr.kept Jg (fun a ha=>(sb a ha).1)) t (.int .i64 (O[j].syms[t]:Int)) (by simp[mV,lt]);have Uq:O[j].syms[t]<xs.length:=f4' _ (List.getElem_mem lt);have ts:(O[j].syms[t]:Int).toNat=O[j].syms[t]:=by omega
              have Qc:(ek (O[j].syms.take t) ys).length=xs.length:=by rw[dv];omega
              have FV:=HT.cell (j:=O[j].syms[t]) (u:=.int .i64 ((ek (O[j].syms.take t) ys).getD O[j].syms[t] 0)) (by simp[aT,Qc,Uq,List.getD_eq_getElem?_getD]);have TW:=gK (O[j].syms.take t) Kx (by omega);have hv:=TW ((ek (O[j].syms.take t) ys).getD O[j].syms[t] 0) (by
                rw[List.getD_eq_getElem?_getD,List.getElem?_eq_getElem (by omega)];exact List.getElem_mem _)
              have Jj:(O[j].syms.take t).length=t:=by simp;omega
              refine⟨a,e1,by omega,by omega,_,_,_,e3,b,Hy,by omega,by omega,(O[j].syms[t]:Int),Gf,_,rfl,by omega,by omega,_,by rw[ts];exact FV,by omega,_,rfl,by omega,by omega,⟨_,by rw[ts];exact FV⟩,HT.notFrozen (aL _ _),by omega,O[j].syms.length-(t+1),by omega,t+1,by omega,by omega,rfl,?_,?_⟩
              · rw[ts,List.take_succ_eq_append_getElem lt,ik];have Gy:=HT.set (j:=O[j].syms[t]) (by simp[aT];omega) (.int .i64 ((ek (O[j].syms.take t) ys).getD O[j].syms[t] 0+1));simpa[aT,List.map_set,ek,q9]using Gy
              · exact bF Hu (aL _ _) _
            · have:t=O[j].syms.length:=by omega
              subst this;rw[List.take_length]at HT;refine⟨by omega,2*(aK xs).length-2-(j+1),by omega,j+1,_,by omega,by omega,rfl,?_,HT,Jg⟩;have GO:j<(je (aK xs) k).length:=by omega
              have:(je (aK xs) k)[j]=cG O[j]:=by simp[← Ks]
              rw[IG,List.take_succ_eq_append_getElem GO,List.flatMap_append,ik,this];simp[cG]
          · have G2:j=2*(aK xs).length-2:=by omega
            refine fin w5 ys ?_ Kq (aA (bZ F8) Hx);rw[IG,Hn,Il,G2]
end Go.Proofs.YtlieaecnllkefaaGreat

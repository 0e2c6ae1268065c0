/- Own texts, packed: D1, D2, D3, D4, D5, E0, E1, E2, E3, E4. -/
import Derived.Test.YtlieaecnllkefaaGreatGXg
import Derived.Test.YtlieaecnllkefaaGreatGDg
import Derived.Test.YtlieaecnllkefaaGreatGCg
import Derived.Test.YtlieaecnllkefaaGreatGBg
import Derived.KernelRfl
namespace Go.Proofs.YtlieaecnllkefaaGreat
open Go Go.V Go.RowKit
set_option linter.unusedVariables false
set_option linter.unusedSimpArgs false
set_option maxHeartbeats 2000000
theorem y6:qra P 216 218 (.pointer none) 8:=⟨(P.info? 218).getD default,by kernel_rfl,by kernel_rfl,by kernel_rfl,by kernel_rfl,by kernel_rfl,by kernel_rfl⟩
theorem tu:qra P 33 3 (.int .i64 0) 8:=⟨(P.info? 3).getD default,by kernel_rfl,by kernel_rfl,by kernel_rfl,by kernel_rfl,by kernel_rfl,by kernel_rfl⟩
inductive jo (w:World):Addr->Int->List Nat->Prop
  | coin {k:Nat} {c:Int} {s:Nat} {y:Value}:w.heap[k]?=some (.cells #[.int .i64 c,.int .i64 (s:Int),.pointer none,y] 221 (0,0))->jo w ⟨k,0,none⟩ c [s]
  | pack {k:Nat} {c1 c2:Int} {s1 s2:List Nat} {z:Value} {p q:Addr}:w.heap[k]?=some (.cells #[.int .i64 (c1+c2),z,.pointer (some p),.pointer (some q)] 221 (0,0)) →
      jo w p c1 s1->jo w q c2 s2->jo w ⟨k,0,none⟩ (c1+c2) (s1++s2)
def Is(w:World)(x:Option Addr×dj):Prop:=∃ a,x.1=some a/\jo w a x.2.1 x.2.2
def bz(w w':World):Prop:=∀(k:Nat)(cur:Array Value),w.heap[k]?=some (Obj.cells cur 221 (0,0))->w'.heap[k]?=some (Obj.cells cur 221 (0,0))
theorem bz.refl(w:World):bz w w:=fun _ _ h=>h
theorem bz.trans{a b c:World}(h:bz a b)(h':bz b c):bz a c:=fun k cur hk=>h' k cur (h k cur hk)
theorem qak{w w':World}{r:Option Nat}(hg:w.grownBy w' r)(hr:∀ g,r=some g->∃(cur:Array Value)(e:TypeId)(fr:Nat×Nat),w.heap[g]?=some (Obj.cells cur e fr)/\e≠221):bz w w':=by
 intro k cur hk
 rw[hg.block k (Array.getElem?_eq_some_iff.1 hk).1,hk]
 intro e
 obtain⟨cur',e',fr,h1,h2⟩:=hr k e.symm
 rw[hk]at h1
 cases h1
 exact h2 rfl
theorem ct{w w':World}(hg:w.grownBy w' none):bz w w':=qak hg (by simp)
theorem pi{w w':World}{g cap:Nat}{e:TypeId}{xs:List Value}(ho:Own w g e cap xs)(he:e≠221)(hg:w.grownBy w' (some g)):bz w w' :=
 qak hg fun g' e'=>by
  cases e'
  obtain⟨cur,h1,_⟩:=ho
  exact⟨cur,e,_,h1,he⟩
theorem sj{w w':World}{base n c:Nat}{e:TypeId}{A:Option Addr}{xs:List Value}(ho:eo w base e A n c xs)(he:e≠221)(hg:w.grownBy w' (Value.slice A n c).ownBlock):bz w w':=by
 obtain⟨_,h | ⟨g,rfl,_,_,_,h⟩⟩:=ho.cases
 ·obtain⟨rfl,_⟩:=h
  exact ct hg
 ·exact pi h he hg
theorem jo.keep{w w':World}(hk:bz w w'){a:Addr}{c:Int}{s:List Nat}(h:jo w a c s):jo w' a c s:=by
 induction h with
 | coin h=>exact .coin (hk _ _ h)
 | pack h _ _ ih1 ih2=>exact .pack (hk _ _ h) ih1 ih2
theorem Is.keep{w w':World}(hk:bz w w'){x:Option Addr×dj}(h:Is w x):Is w' x:=by
 obtain⟨a,h1,h2⟩:=h
 exact⟨a,h1,h2.keep hk⟩
theorem jo.count{w:World}{a:Addr}{c:Int}{s:List Nat}(h:jo w a c s):w.cell? a=some (.int .i64 c):=by
 cases h with
 | coin h=>simp[World.cell?,h]
 | pack h _ _=>simp[World.cell?,h]
theorem qjp{n:Int}{w:World}{R:Ending->World->Prop}(h:R (.returned (.int .i64 (gz n))) w):Calls P 176 #[.int .i64 n] w R:=vc176 n w R h
theorem qal{x:Int}{w:World}{R:Ending->World->Prop}(h:R (.returned (.bool false)) w):Calls P 188 #[.int .i64 x] w R:=by
 apply vc188;unfold VC188;simpa using h
theorem vi{x y:Int}{w:World}:Calls P 179 #[.int .i64 x,.int .i64 y] w fun ev w'=>∃ c:Int,ev=.returned (.int .i64 c)/\(c<0↔x<y)/\w'=w:=by
 apply vc179;dsimp only[VC179,Wt,Br,Bb,Rd,Rc,Rs,Ix,rI_,rB_,rS_]
 refine qal ⟨false,rfl,qal ⟨false,rfl,by simp,fun _=>⟨by simp,fun _=>⟨fun h=>⟨_,rfl,by omega,rfl⟩,fun h=>⟨fun h'=>⟨_,rfl,by omega,rfl⟩,fun h'=>⟨_,rfl,by omega,rfl⟩⟩⟩⟩⟩⟩
def keyW(w:World)(p:Option Addr):Int:=match p with
 | some a=>match w.cell? a with
  | some (.int _ c)=>c
  | _=>0
 | none=>0
theorem qgk{w:World}{x:Option Addr×dj}(h:Is w x):keyW w x.1=x.2.1:=by
 obtain⟨a,h1,h2⟩:=h
 simp[keyW,h1,h2.count]
theorem qoh{w:World}{g cap:Nat}{e:TypeId}{xs:List Value}{L:List (Option Addr×dj)}(ho:Own w g e cap xs)(he:e≠221)(hL:∀ x∈L,Is w x):qf w g (keyW w) (L.map Prod.fst):=by
 intro w' hg x hx y hy
 obtain⟨x,hx',rfl⟩:=List.mem_map.1 hx
 obtain⟨y,hy',rfl⟩:=List.mem_map.1 hy
 have hx:=hx'
 have hy:=hy'
 have kx:=hL x hx
 have ky:=hL y hy
 have hk:=pi ho he hg
 show Calls P 178 #[.pointer x.1,.pointer y.1] w' _
 apply vc178;dsimp only[VC178,Wt,Br,Bb,Rd,Rc,Rs,Ix,rI_,rB_,rS_]
 obtain⟨a,ea,ia⟩:=kx.keep hk
 obtain⟨b,eb,ib⟩:=ky.keep hk
 refine⟨a,ea,x.2.1,ia.count,b,eb,y.2.1,ib.count,?_⟩
 refine vi.mono fun ev w2 hh=>?_
 obtain⟨c,h1,h2,rfl⟩:=hh
 exact⟨c,h1,c,rfl,by rw[h2,qgk kx,qgk ky],aj (af _ _)⟩
theorem ql4{α β:Type}(f:α->β)(key:β->Int)(key':α->Int)(x:α):∀(l:List α),(∀ y∈x ::l,key (f y)=key' y)->ins key (f x) (l.map f)=(ins key' x l).map f
 | [],_=>rfl
 | y ::ys,h=>by
  have hx:=h x (by simp)
  have hy:=h y (by simp)
  have ih:=ql4 f key key' x ys (fun z hz=>h z (by rcases List.mem_cons.1 hz with e | e <;>simp[e]))
  simp only[List.map_cons,ins,hx,hy]
  split
  ·rw[ih];simp
  ·simp
theorem sm{α β:Type}(f:α->β)(key:β->Int)(key':α->Int)(xs:List α)(h:∀ y∈xs,key (f y)=key' y):cz key (xs.map f)=(cz key' xs).map f:=by
 have:∀(xs l:List α),(∀ y∈xs,key (f y)=key' y)->(∀ y∈l,key (f y)=key' y)->ao key' l->(xs.map f).foldl (fun l x=>ins key x l) (l.map f)=(xs.foldl (fun l x=>ins key' x l) l).map f:=by
  intro xs
  induction xs with
  | nil=>intros;rfl
  | cons x xs ih =>
   intro l h1 h2 h3
   simp only[List.map_cons,List.foldl_cons]
   rw[ql4 f key key' x l (fun z hz=>by rcases List.mem_cons.1 hz with e | e;exact h1 z (by simp[e]);exact h2 z e)]
   refine ih _ (fun y hy=>h1 y (by simp[hy])) (fun y hy=>?_) (wy x h3)
   rcases List.mem_append.1 ((yy (key:=key') x h3).mem hy)with e | e
   ·exact h2 y e
   ·have:y=x:=by simpa using e
    rw[this];exact h1 x (by simp)
 simpa[cz]using this xs [] h (by simp) (by simp[ao])
theorem qi9{w:World}:Calls P 177 #[.slice none 0 0,.func (.func 178) #[] #[]] w fun ev w'=>ev=.returned (.tuple #[])/\w.grownBy w' none:=by
 apply vc177;dsimp only[VC177,Wt,Br,Bb,Rd,Rc,Rs,Ix,rI_,rB_,rS_]
 have h:Calls P 187 #[.slice none 0 0,.int .i64 0,.func (.func 178) #[] #[]] w fun ev w'=>ev=.returned (.tuple #[])/\w.grownBy w' none:=by
  apply vc187;dsimp only[VC187,Wt,Br,Bb,Rd,Rc,Rs,Ix,rI_,rB_,rS_]
  refine⟨fun m a b w'=>m=0/\a=0/\b=20/\w'=w,⟨0,rfl,rfl,rfl,rfl⟩,?_⟩
  rintro m a b w' ⟨rfl,rfl,rfl,rfl⟩
  refine⟨fun h=>by omega,fun h=>?_⟩
  have h2:Calls P 191 #[.slice none 0 0,.int .i64 0,.int .i64 0,.func (.func 178) #[] #[]] w' fun ev w2=>ev=.returned (.tuple #[])/\w'=w2:=by
   apply vc191;dsimp only[VC191,Wt,Br,Bb,Rd,Rc,Rs,Ix,rI_,rB_,rS_]
   try simp only[InK]
   refine⟨by omega,fun m i w2=>i=1/\w2=w',⟨0,by omega,rfl⟩,?_⟩
   rintro m i w2 ⟨rfl,rfl⟩
   exact⟨fun h=>by omega,fun h=>⟨trivial,rfl⟩⟩
  refine h2.mono fun ev w2 hh=>?_
  obtain⟨h3,rfl⟩:=hh
  refine⟨h3,fun m s w3=>s=20/\w3=w',⟨0,rfl,rfl⟩,?_⟩
  rintro m s w3 ⟨rfl,rfl⟩
  exact⟨fun h=>by omega,fun h=>⟨rfl,af _ _⟩⟩
 refine h.mono fun ev w' hh=>?_
 exact⟨hh.1,rfl,hh.2⟩
abbrev qc7(L:List (Option Addr×dj)):List Value:=(L.map Prod.fst).map Value.pointer
theorem qg5 {w:World} {A:Option Addr} {n c:Nat} {xs:List Int} (hrow:Row w A (xs.map (Value.int .i64))) (hn:n=xs.length) (hbig:n<=2^30) :
    Calls P 152 #[.slice A n c] w fun ev w'=>∃ (A':Option Addr) (n' c':Nat) (L:List (Option Addr×dj)),ev=.returned (.slice A' n' c')/\eo w' w.heap.size 218 A' n' c' (qc7 L)/\(∀ x∈L,Is w' x)/\L.map Prod.snd=av xs/\w.grownBy w' none:=by
  apply vc152;dsimp only[VC152,Wt,Br,Bb,Rd,Rc,Rs,Ix,rI_,rB_,rS_]
  try simp only[InK]
  refine⟨fun m A' n' c' i w'=>∃ (k:Nat) (L:List (Option Addr×dj)),i=(k:Int)/\k<=xs.length/\m=xs.length-k/\eo w' w.heap.size 218 A' n' c' (qc7 L)/\(∀ x∈L,Is w' x)/\L.map Prod.snd=ay 0 (xs.take k)/\L.length<=k/\w.grownBy w' none,
    ⟨_,0,[],rfl,by omega,rfl,World.ownsRow_nil _ _ _ _,by simp,by simp[ay],by simp,af _ _⟩,?_⟩
  rintro m A' n' c' i w' ⟨k,L,rfl,hk,rfl,ho,hL,hLx,hLk,hg⟩
  refine⟨fun hlt=>?_,fun hge=>?_⟩
  · have hk':k<xs.length:=by omega
    obtain⟨a,h1,h2⟩:=(hrow.kept_none hg) k (.int .i64 xs[k]) (by simp[hk'])
    have htake:ay 0 (xs.take (k+1))=ay 0 (xs.take k)++ay k [xs[k]]:=by
      rw[List.take_succ_eq_append_getElem hk',kl]
      simp[Nat.min_eq_left hk]
    refine⟨a,h1,by omega,by omega,xs[k],by simpa using h2,fun hpos=>?_,fun hpos=>?_⟩
    · refine qjp ⟨_,rfl,?_⟩
      have g1:=World.grownBy_alloc w' (.cells #[(.int .i64 (gz xs[k])),(.int .i64 (k:Int)),(.pointer none),(.pointer none)] 221) none
      have b1:(w'.alloc (.cells #[(.int .i64 (gz xs[k])),(.int .i64 (k:Int)),(.pointer none),(.pointer none)] 221)).heap[w'.heap.size]?=some (.cells #[(.int .i64 (gz xs[k])),(.int .i64 (k:Int)),(.pointer none),(.pointer none)] 221):=heap_alloc_new w' _
      generalize w'.alloc (.cells #[(.int .i64 (gz xs[k])),(.int .i64 (k:Int)),(.pointer none),(.pointer none)] 221)=w1 at *
      have g2:=World.grownBy_alloc w1 (.cells #[.pointer (some ⟨w'.heap.size,0,none⟩)] 218) none
      have b2:(w1.alloc (.cells #[.pointer (some ⟨w'.heap.size,0,none⟩)] 218)).cell? ⟨w1.heap.size,0,none⟩=some (.pointer (some ⟨w'.heap.size,0,none⟩)):=by simp
      generalize w1.alloc (.cells #[.pointer (some ⟨w'.heap.size,0,none⟩)] 218)=w2 at *
      have ho2:=(ho.kept g1).kept g2
      obtain⟨A2,n2,c2,w3,h3,h4,h5⟩:=ho2.append1 (ty:=216) y6 (by omega) (cc:=1) b2 rfl (by rw[ho.cases.1];simp;omega) (Nat.le_trans hg.size (Nat.le_trans g1.size g2.size))
      have hk3:bz w1 w3:=(ct g2).trans (sj ho2 (by decide) h5)
      refine⟨A2,n2,c2,w3,h3,by omega,xs.length-(k+1),by omega,k+1,L++[(some ⟨w'.heap.size,0,none⟩,(gz xs[k],[k]))],by omega,by omega,rfl,by simpa using h4,?_,?_,by simp;omega,?_⟩
      · intro x hx
        rcases List.mem_append.1 hx with e | e
        · exact((hL x e).keep (ct g1)).keep hk3
        · have:x=(some ⟨w'.heap.size,0,none⟩,(gz xs[k],[k])):=by simpa using e
          subst this
          exact⟨_,rfl,(jo.coin b1).keep hk3⟩
      · rw[htake,List.map_append,hLx]
        simp[ay,hpos]
      · exact ax (ab (ab hg g1) g2) h5 ho2.block_ge
    · refine⟨by omega,xs.length-(k+1),by omega,k+1,L,by omega,by omega,rfl,ho,hL,?_,by omega,hg⟩
      rw[htake,hLx]
      simp[ay,hpos]
  · have hk':k=xs.length:=by omega
    subst hk'
    rw[List.take_length]at hLx
    obtain⟨hl,h | ⟨g,rfl,hb,hc,hnc,ho'⟩⟩:=ho.cases
    · obtain⟨rfl,rfl,rfl,hx⟩:=h
      have:L=[]:=by simpa using hx
      subst this
      refine qi9.mono fun ev w2 hh=>?_
      refine⟨hh.1,none,0,0,[],rfl,World.ownsRow_nil _ _ _ _,by simp,?_,ab hg hh.2⟩
      unfold av
      rw[← hLx];rfl
    · have hl':n'=L.length:=by simpa using hl
      refine(qpy (key:=keyW w') ho' (qoh ho' (by decide) hL) (by simpa using hl) (by omega)).mono fun ev w2 hh=>?_
      obtain⟨h1,h2,h3⟩:=hh
      have hk2:=pi ho' (by decide) h3
      have hm:cz (keyW w') (L.map Prod.fst)=(cz (fun x=>x.2.1) L).map Prod.fst:=sm _ _ _ _ (fun y hy=>qgk (hL y hy))
      have hs:bh (fun x:Option Addr×dj=>x.2.1) (cz (fun x=>x.2.1) L) L:=ji L
      rw[hm]at h2
      refine⟨h1,_,n',c',cz (fun x=>x.2.1) L,rfl,?_,fun x hx=>(hL x (hs.mem hx)).keep hk2,?_,?_⟩
      · have:=h2.ownsRow hb hc
        simp only[List.length_map,hs.length,← hl']at this
        exact this
      · have:=sm Prod.snd (Prod.fst:dj->Int) (fun x:Option Addr×dj=>x.2.1) L (fun _ _=>rfl)
        rw[← this,hLx];rfl
      · exact ax hg h3 (by intro k hk;cases hk;exact hb)
theorem yv{L:List (Option Addr×dj)}{i:Nat}(h:i<L.length):(qc7 L)[i]?=some (.pointer L[i].1):=by simp[qc7,h]
theorem qex {w:World} {A B:Option Addr} {n c m d:Nat} {C L:List (Option Addr×dj)} (hA:Row w A (qc7 C)) (hB:Row w B (qc7 L)) (hn:n=C.length) (hm:m=L.length)
    (hC:∀ x∈C,Is w x) (hL:∀ x∈L,Is w x) (hcA:n<=c) (hnone:A=none->c=0) (hnb:n<=2^30) (hmb:m<=2^30) (hb:∀ x∈L,0<=x.2.1/\x.2.1<=2^60) :
    Calls P 153 #[.slice A n c,.slice B m d] w fun ev w'=>∃ (A':Option Addr) (n' c':Nat) (O:List (Option Addr×dj)),ev=.returned (.slice A' n' c')/\eo w' w.heap.size 218 A' n' c' (qc7 O)/\(∀ x∈O,Is w' x) ∧
      O.map Prod.snd=jq (C.map Prod.snd) (L.map Prod.snd)/\w.grownBy w' none:=by
  apply vc153;dsimp only[VC153,Wt,Br,Bb,Rd,Rc,Rs,Ix,rI_,rB_,rS_]
  try simp only[InK]
  refine⟨fun ms A' n' c' k i w'=>∃ (kn j:Nat) (O:List (Option Addr×dj)),k=(kn:Int)/\i=((2*j:Nat):Int)/\kn<=C.length/\2*j<=L.length/\O.length<=kn+j/\ms=L.length-2*j/\eo w' w.heap.size 218 A' n' c' (qc7 O)/\(∀ x∈O,Is w' x) ∧
      O.map Prod.snd++db ((C.drop kn).map Prod.snd) (ef ((L.drop (2*j)).map Prod.snd))=jq (C.map Prod.snd) (L.map Prod.snd)/\w.grownBy w' none,
    ⟨_,0,0,[],rfl,rfl,by omega,by omega,by simp,rfl,World.ownsRow_nil _ _ _ _,by simp,by simp[jq],af _ _⟩,?_⟩
  rintro ms A' n' c' k i w' ⟨kn,j,O,rfl,rfl,hk,hj,hOl,rfl,ho,hO,heq,hg⟩
  refine⟨by omega,fun hlt=>?_,fun hge=>?_⟩
  · have l1 :2*j<L.length:=by omega
    have l2:2*j+1<L.length:=by omega
    -- the two items
    obtain⟨a,ea,ia⟩:=(hL _ (List.getElem_mem l1)).keep (ct hg)
    obtain⟨b,eb,ib⟩:=(hL _ (List.getElem_mem l2)).keep (ct hg)
    have ba:=hb _ (List.getElem_mem l1)
    have bb:=hb _ (List.getElem_mem l2)
    have hdrop:L.drop (2*j)=L[2*j] ::L[2*j+1] ::L.drop (2*(j+1)):=by
      rw[List.drop_eq_getElem_cons l1,List.drop_eq_getElem_cons l2];rfl
    obtain⟨r,hr1,hr2⟩:=(hB.kept_none hg) _ _ (yv l1)
    obtain⟨r',hr1',hr2'⟩:=(hB.kept_none hg) _ _ (yv l2)
    obtain rfl:r'=r:=by rw[hr1]at hr1';cases hr1';rfl
    have t1:((2*j:Nat):Int).toNat=2*j:=by omega
    have t2:(((2*j:Nat):Int)+1).toNat=2*j+1:=by omega
    refine⟨r',hr1,by omega,by omega,L[2*j].1,by rw[t1];exact hr2,a,ea,L[2*j].2.1,ia.count,by omega,r',hr1,by omega,by omega,L[2*j+1].1,by rw[t2];exact hr2',b,eb,L[2*j+1].2.1,ib.count,by omega,
      r',hr1,by omega,by omega,L[2*j].1,by rw[t1];exact hr2,by omega,r',hr1,by omega,by omega,L[2*j+1].1,by rw[t2];exact hr2',?_⟩
    rw[ea,eb]
    generalize hcc:L[2*j].2=ca at *
    generalize hcd:L[2*j+1].2=cb at *
    have gd:=aj (af w' none)
    have sd:w'.drew.heap.size=w'.heap.size:=rfl
    generalize w'.drew=wd at *
    have g1:=World.grownBy_alloc wd (.cells #[.int .i64 (ca.1+cb.1),.int .i64 0,.pointer (some a),.pointer (some b)] 221) none
    have b1:(wd.alloc (.cells #[.int .i64 (ca.1+cb.1),.int .i64 0,.pointer (some a),.pointer (some b)] 221)).heap[wd.heap.size]?=some (.cells #[.int .i64 (ca.1+cb.1),.int .i64 0,.pointer (some a),.pointer (some b)] 221):=heap_alloc_new wd _
    generalize wd.alloc (.cells #[.int .i64 (ca.1+cb.1),.int .i64 0,.pointer (some a),.pointer (some b)] 221)=w1 at *
    have kd1:bz w' w1:=(ct gd).trans (ct g1)
    have ip:jo w1 ⟨wd.heap.size,0,none⟩ (ca.1+cb.1) (ca.2++cb.2):=.pack b1 (ia.keep kd1) (ib.keep kd1)
    have hg1:w.grownBy w1 none:=ab (ab hg gd) g1
    -- coins ahead of the package
    refine⟨fun ms A2 n2 c2 k2 w2=>∃ (kn:Nat) (O:List (Option Addr×dj)),k2=(kn:Int)/\kn<=C.length/\O.length<=kn+j/\ms=C.length-kn/\eo w2 w.heap.size 218 A2 n2 c2 (qc7 O)/\(∀ x∈O,Is w2 x) ∧
        O.map Prod.snd++db ((C.drop kn).map Prod.snd) ((ca.1+cb.1,ca.2++cb.2) ::ef ((L.drop (2*(j+1))).map Prod.snd))=jq (C.map Prod.snd) (L.map Prod.snd)/\w.grownBy w2 none/\bz w1 w2,
      ⟨_,kn,O,rfl,hk,by omega,rfl,(ho.kept gd).kept g1,fun x hx=>(hO x hx).keep kd1,?_,hg1,bz.refl _⟩,?_⟩
    · rw[← heq,hdrop]
      simp only[List.map_cons,ef,hcc,hcd]
    clear heq ho hO hOl hk
    rintro ms A2 n2 c2 k2 w2 ⟨kn,O,rfl,hk,hOl,rfl,ho,hO,heq,hg2,hk2⟩
    have ip2:=ip.keep hk2
    -- the package behind the coins
    have one:∀(u:Option Addr),∃(A4:Option Addr)(n4 c4:Nat),∃ w4:World,
        Sem.run P (Builtin.append_ #[216,216] 216 #[.slice A2 n2 c2,.slice (some ⟨w2.drew.heap.size,0,none⟩) 1 1]) (w2.drew.alloc (.cells #[.pointer u] 218))=.ok (.slice A4 n4 c4) w4 ∧
        eo w4 w.heap.size 218 A4 n4 c4 (qc7 O++[.pointer u])/\w.grownBy w4 none/\bz w2 w4:=by
      intro u
      have g3:=aj (af w2 none)
      have s3:w2.drew.heap.size=w2.heap.size:=rfl
      generalize w2.drew=w3 at *
      have g4:=World.grownBy_alloc w3 (.cells #[.pointer u] 218) none
      have b4:(w3.alloc (.cells #[.pointer u] 218)).cell? ⟨w3.heap.size,0,none⟩=some (.pointer u):=by simp
      generalize w3.alloc (.cells #[.pointer u] 218)=w4 at *
      have ho4:=(ho.kept g3).kept g4
      obtain⟨A5,n5,c5,w5,h3,h4,h5⟩:=ho4.append1 (ty:=216) y6 (by omega) (cc:=1) b4 rfl (by rw[ho.cases.1];simp;omega) (Nat.le_trans hg2.size (Nat.le_trans g3.size g4.size))
      exact⟨A5,n5,c5,w5,h3,h4,ax (ab (ab hg2 g3) g4) h5 ho4.block_ge,((ct g3).trans (ct g4)).trans (sj ho4 (by decide) h5)⟩
    have last:(∀ ps,db ((C.drop kn).map Prod.snd) ((ca.1+cb.1,ca.2++cb.2) ::ps)=(ca.1+cb.1,ca.2++cb.2) ::db ((C.drop kn).map Prod.snd) ps)->∃(A4:Option Addr)(n4 c4:Nat),∃ w4:World,
        Sem.run P (Builtin.append_ #[216,216] 216 #[.slice A2 n2 c2,.slice (some ⟨w2.drew.heap.size,0,none⟩) 1 1]) (w2.drew.alloc (.cells #[.pointer (some ⟨wd.heap.size,0,none⟩)] 218))=.ok (.slice A4 n4 c4) w4 ∧
        (-9223372036854775808<=((2*j:Nat):Int)+2/\((2*j:Nat):Int)+2<=9223372036854775807)/\∃ ms,ms<L.length-2*j/\∃ (kn' j':Nat) (O:List (Option Addr×dj)),(kn:Int)=(kn':Int)/\((2*j:Nat):Int)+2=((2*j':Nat):Int)/\kn'<=C.length/\2*j'<=L.length/\O.length<=kn'+j'/\ms=L.length-2*j'/\eo w4 w.heap.size 218 A4 n4 c4 (qc7 O)/\(∀ x∈O,Is w4 x) ∧
      O.map Prod.snd++db ((C.drop kn').map Prod.snd) (ef ((L.drop (2*j')).map Prod.snd))=jq (C.map Prod.snd) (L.map Prod.snd)/\w.grownBy w4 none:=by
      intro hmerge
      obtain⟨A4,n4,c4,w4,h1,h2,h3,h4⟩:=one (some ⟨wd.heap.size,0,none⟩)
      refine⟨A4,n4,c4,w4,h1,by omega,L.length-2*(j+1),by omega,kn,j+1,O++[(some ⟨wd.heap.size,0,none⟩,(ca.1+cb.1,ca.2++cb.2))],rfl,by omega,hk,by omega,by simp;omega,rfl,by simpa[qc7]using h2,?_,?_,h3⟩
      · intro x hx
        rcases List.mem_append.1 hx with e | e
        · exact(hO x e).keep h4
        · have:x=(some ⟨wd.heap.size,0,none⟩,(ca.1+cb.1,ca.2++cb.2)):=by simpa using e
          subst this
          exact⟨_,rfl,ip2.keep h4⟩
      · rw[← heq,hmerge]
        simp
    refine⟨fun hlt2=>?_,fun hge2=>?_⟩
    · have l3:kn<C.length:=by omega
      obtain⟨e,ee,ie⟩:=(hC _ (List.getElem_mem l3)).keep (ct hg2)
      obtain⟨q,hq1,hq2⟩:=(hA.kept_none hg2) _ _ (yv l3)
      have hdc:(C.drop kn).map Prod.snd=C[kn].2 ::(C.drop (kn+1)).map Prod.snd:=by
        rw[List.drop_eq_getElem_cons l3];rfl
      refine⟨q,hq1,by omega,by omega,C[kn].1,hq2,e,ee,C[kn].2.1,ie.count,_,rfl,ca.1+cb.1,ip2.count,fun hle=>?_,fun hgt=>?_⟩
      · refine⟨q,hq1,by omega,by omega,C[kn].1,hq2,?_⟩
        obtain⟨A4,n4,c4,w4,h1,h2,h3,h4⟩:=one C[kn].1
        refine⟨A4,n4,c4,w4,h1,by omega,C.length-(kn+1),by omega,kn+1,O++[C[kn]],by omega,by omega,by simp;omega,rfl,by simpa[qc7]using h2,?_,?_,h3,hk2.trans h4⟩
        · intro x hx
          rcases List.mem_append.1 hx with e | e
          · exact(hO x e).keep h4
          · have:x=C[kn]:=by simpa using e
            subst this
            exact((hC _ (List.getElem_mem l3)).keep (ct hg2)).keep h4
        · rw[← heq,hdc,ux hle]
          simp
      · refine last fun ps=>?_
        rw[hdc]
        exact uy hgt
    · have:kn=C.length:=by omega
      refine last fun ps=>?_
      rw[this,List.drop_length]
      exact qae
  · -- the rest of the coins
    have hend:ef ((L.drop (2*j)).map Prod.snd)=[]:=by
      have:(L.drop (2*j)).length<=1:=by simp;omega
      match h:L.drop (2*j)with
      | []=>rfl
      | [x]=>simp[ef]
      | x ::y ::r=>rw[h]at this;simp at this
    rw[hend]at heq
    simp only[db]at heq
    have fin:∀ w5,w'.grownBy w5 (Value.slice A' n' c').ownBlock->bz w' w5/\w.grownBy w5 none:=fun w5 h5=>⟨sj ho (by decide) h5,ax hg h5 ho.block_ge⟩
    have kt:(kn:Int).toNat=kn:=by omega
    refine⟨by omega,?_⟩
    rw[kt]
    cases A with
    | none =>
      have hc0:=hnone rfl
      have hC0:C=[]:=List.eq_nil_of_length_eq_zero (by omega)
      subst hC0
      obtain⟨i,e1,e2,_⟩:=y6.ex
      have hr:=run_append_owned_none (P:=P) w' w.heap.size 216 216 218 i 1 e1 e2 _ _ _ ho
      have hkn:kn=0:=by simpa using hk
      subst hkn
      refine⟨A',n',c',w',?_,A',n',c',O,rfl,ho,hO,?_,hg⟩
      · have:(.slice (dz none c 0 1) (n-0) (c-0):Value)=.slice none 0 0:=by
          have:n=0:=by simpa using hn
          subst this;subst hc0;rfl
        rw[this]
        exact hr
      · rw[← heq];simp
    | some a =>
      have hrow:∃ a',dz (some a) c kn 1=some a'/\∀ j u,(qc7 (C.drop kn))[j]?=some u->w'.cell? (a'.add j)=some u:=by
        by_cases hck:c=kn
        · refine⟨a,by simp[dz,hck],fun j u hj=>?_⟩
          have:C.drop kn=[]:=List.drop_eq_nil_of_le (by omega)
          rw[this]at hj;simp at hj
        · refine⟨a.add kn,by simp[dz,hck],fun j u hj=>?_⟩
          obtain⟨a2,h1,h2⟩:=((hA.kept_none hg).drop kn) j u (by simpa[qc7]using hj)
          cases h1
          exact h2
      obtain⟨a',ha1,ha2⟩:=hrow
      obtain⟨A4,n4,c4,w4,h1,h2,h3⟩:=ho.appends (ty:=216) y6 (by omega) (cc:=c-kn) (m:=n-kn) (by simp;omega) ha2 (fun u hu=>by obtain⟨x,_,rfl⟩:=List.mem_map.1 hu;rfl) (by rw[ho.cases.1];simp;omega) hg.size
      obtain⟨f1,f2⟩:=fin w4 h3
      refine⟨A4,n4,c4,w4,by rw[ha1];exact h1,A4,n4,c4,O++C.drop kn,rfl,by simpa[qc7]using h2,?_,?_,f2⟩
      · intro x hx
        rcases List.mem_append.1 hx with e | e
        · exact(hO x e).keep f1
        · exact((hC x (List.mem_of_mem_drop e)).keep (ct hg)).keep f1
      · rw[← heq];simp
theorem qz{w:World}{k j:Nat}{cur:Array Value}{e:TypeId}{fr:Nat×Nat}(h:w.heap[k]?=some (.cells cur e fr)):w.cell? ((⟨k,0,none⟩:Addr).add j)=cur[j]?:=by
 rw[au,World.cell?,h];rfl
theorem jo.pos{w:World}{a:Addr}{c:Int}{s:List Nat}(h:jo w a c s):0<s.length:=by
 induction h with
 | coin _=>simp
 | pack _ _ _ ih _=>simp;omega
theorem jo.single{w:World}{a:Addr}{c:Int}{t:List Nat}(h:jo w a c t){s:Nat}(ht:t=[s]):w.cell? (a.add 1)=some (.int .i64 (s:Int)):=by
 cases h with
 | coin h=>cases ht;rw[qz h];rfl
 | pack h i1 i2 =>
  have:=congrArg List.length ht
  have:=i1.pos
  have:=i2.pos
  simp at *;omega
abbrev dy(xs:List Int):List Value:=xs.map (Value.int .i64)
theorem qqz {w:World} {g cap:Nat} {a:Addr} {c:Int} {s:List Nat} (h:jo w a c s):∀ {w':World} {xs:List Int} {n:Nat} {B:Int},bz w w'->Own w' g 3 cap (dy xs)->n=xs.length->(∀ i∈s,i<n)->(∀ v∈xs,0<=v/\v<=B)->0<=B->B+s.length<=2^62 →
    Calls P 154 #[.pointer (some a),.slice (some ⟨g,0,none⟩) n cap] w' fun ev w2=>ev=.returned (.tuple #[])/\Own w2 g 3 cap (dy (ue s xs))/\w'.grownBy w2 (some g):=by
  induction h with
  | @coin k c s y hk =>
    intro w' xs n B hkeep ho hn hs hx hB hBs
    have hb:=hkeep _ _ hk
    apply vc154;dsimp only[VC154,Wt,Br,Bb,Rd,Rc,Rs,Ix,rI_,rB_,rS_]
    try simp only[InK]
    have hsn:s<xs.length:=by have:=hs s (by simp);omega
    have hrow:=ho.cell (j:=s) (u:=.int .i64 xs[s]) (by simp[hsn])
    have hv:=hx xs[s] (List.getElem_mem hsn)
    have ts:(s:Int).toNat=s:=by omega
    refine⟨_,rfl,by omega,none,by rw[qz hb];rfl,fun _=>?_,fun h=>absurd rfl h⟩
    refine⟨_,rfl,(s:Int),by rw[qz hb];rfl,_,rfl,by omega,by omega,xs[s],by rw[ts];exact hrow,by simp at hBs;omega,_,rfl,by omega,by omega,⟨_,by rw[ts];exact hrow⟩,ho.notFrozen (aq _ _),trivial,?_,ce (af _ _) (aq _ _) _⟩
    rw[ts]
    have:=ho.set (j:=s) (by simpa using hsn) (.int .i64 (xs[s]+1))
    refine cast ?_ this
    congr 1
    simp[ue,qm6,hsn,List.map_set]
  | @pack k c1 c2 s1 s2 z p q hk h1 h2 ih1 ih2 =>
    intro w' xs n B hkeep ho hn hs hx hB hBs
    have hb:=hkeep _ _ hk
    simp only[List.length_append]at hBs
    apply vc154;dsimp only[VC154,Wt,Br,Bb,Rd,Rc,Rs,Ix,rI_,rB_,rS_]
    try simp only[InK]
    refine⟨_,rfl,by omega,some p,by rw[qz hb];rfl,fun h=>absurd h (by simp),fun _=>?_⟩
    refine⟨_,rfl,some p,by rw[qz hb];rfl,some q,by rw[iw,qz hb];rfl,?_⟩
    refine⟨fun m i w2=>w'.grownBy w2 (some g)/\((i=0/\m=2/\Own w2 g 3 cap (dy xs))∨(i=1/\m=1/\Own w2 g 3 cap (dy (ue s1 xs)))∨(i=2/\m=0/\Own w2 g 3 cap (dy (ue (s1++s2) xs)))),⟨2,af _ _,.inl ⟨rfl,rfl,ho⟩⟩,?_⟩
    rintro m i w2 ⟨hg,hi⟩
    have hk2:=hkeep.trans (pi ho (by decide) hg)
    refine⟨fun hlt=>⟨by omega,fun h0=>?_,fun h1=>?_,trivial⟩,fun hge=>⟨trivial,?_,hg⟩⟩
    · subst h0
      rcases hi with⟨_,rfl,ho2⟩ | ⟨h,_⟩ | ⟨h,_⟩
      · refine(ih1 hk2 ho2 hn (fun i hi=>hs i (by simp[hi])) hx hB (by omega)).mono fun ev w3 hh=>?_
        obtain⟨e1,e2,e3⟩:=hh
        exact⟨e1,by omega,1,by omega,ab hg e3,.inr (.inl ⟨rfl,rfl,e2⟩)⟩
      · omega
      · omega
    · subst h1
      rcases hi with⟨h,_⟩ | ⟨_,rfl,ho2⟩ | ⟨h,_⟩
      · omega
      · refine(ih2 hk2 ho2 (by rw[fq];exact hn) (fun i hi=>hs i (by simp[hi])) (q9 s1 hx hB) (by omega) (by omega)).mono fun ev w3 hh=>?_
        obtain⟨e1,e2,e3⟩:=hh
        exact⟨e1,by omega,0,by omega,ab hg e3,.inr (.inr ⟨rfl,rfl,by rw[t9];exact e2⟩)⟩
      · omega
    · rcases hi with⟨h,_⟩ | ⟨h,_⟩ | ⟨_,_,ho2⟩
      · omega
      · omega
      · exact ho2
def Fine(N:Nat)(k:Nat)(x:dj):Prop:=0<x.1/\x.1<=1099511627776*2^k/\x.2.length<=2^k/\∀ s∈x.2,s<N
theorem qil (xs : List Int) : ∀ k, ∀ x ∈lev (av xs) k,Fine xs.length k x:=by
  apply qgg
  · rintro k a b ⟨a1,a2,a3,a4⟩ ⟨b1,b2,b3,b4⟩
    have hp:0<2^k:=Nat.two_pow_pos k
    refine⟨by show 0<a.1+b.1;omega,?_,?_,?_⟩
    · show a.1+b.1<=_
      rw[Int.pow_succ];omega
    · show(a.2++b.2).length<=_
      rw[List.length_append,Nat.pow_succ];omega
    · intro s hs
      rcases List.mem_append.1 hs with e | e
      · exact a4 s e
      · exact b4 s e
  · intro k x hx
    obtain⟨h1,h2,s,h3,h4⟩:=qy hx
    have hp:0<2^k:=Nat.two_pow_pos k
    have hp' : (1 : Int) ≤ 2 ^ k := by have:((2^k:Nat):Int)=2^k:=by simp
                                       omega
    refine⟨h1,?_,by rw[h3];simp;omega,by rw[h3];simpa using h4⟩
    have:(1099511627776:Int)*1<=1099511627776*2^k:=Int.mul_le_mul_of_nonneg_left hp' (by omega)
    omega
theorem qe3(first:List dj):∀ k,(lev first k).length<=2*first.length
 | 0=>by simp[lev];omega
 | k+1=>by
  have:=qe3 first k
  simp only[lev,jq,fw,gp]
  omega
theorem qn1(most:Int):mn (mx most 1) 15=(dx most:Int)/\1<=dx most/\dx most<=15:=by
 unfold dx mx mn
 split <;>split <;>omega
theorem qdd {w:World} {A:Option Addr} {n c:Nat} {xs:List Int} {most:Int} (hrow:Row w A (dy xs)) (hn:n=xs.length) :
    Calls P 110 #[.slice A n c,.int .i64 most] w fun ev w'=>∃(A':Option Addr)(n' c':Nat),ev=.returned (.slice A' n' c')/\eo w' w.heap.size 3 A' n' c' (dy (gl xs most))/\w.grownBy w' none:=by
  apply vc110;dsimp only[VC110,Wt,Br,Bb,Rd,Rc,Rs,Ix,rI_,rB_,rS_]
  obtain⟨hm,hm1,hm15⟩:=qn1 most
  rw[hm]
  simp only[InK]
  have tn:(dx most:Int).toNat=dx most:=by omega
  have hmin:min (dx most) 64=dx most:=by omega
  rw[tn,hmin]
  have hpow:2^dx most<=2^15:=Nat.pow_le_pow_right (by omega) hm15
  obtain⟨q,hq⟩:∃ q,q=2^dx most:=⟨_,rfl⟩
  have hcast:(1:Int)*2^dx most=(q:Int):=by rw[hq];simp
  rw[hcast]
  refine⟨fun h=>⟨none,0,0,rfl,?_,af _ _⟩,fun h=>?_⟩
  · have:gl xs most=[]:=by unfold gl;rw[if_pos (by omega)]
    rw[this];exact World.ownsRow_nil _ _ _ _
  · have h256 : xs.length<=256:=by omega
    refine(qg5 hrow hn (by omega)).mono fun ev w1 hh=>?_
    obtain⟨A1,n1,c1,L,rfl,ho,hL,hLx,hg⟩:=hh
    have hn1:n1=(av xs).length:=by rw[ho.cases.1,← hLx];simp
    have hLl:L.length=(av xs).length:=by rw[← hLx];simp
    refine⟨A1,n1,c1,rfl,by omega,fun h2=>?_,fun h2=>?_⟩
    · refine⟨none,0,0,rfl,?_,hg⟩
      have:gl xs most=[]:=by unfold gl;rw[if_neg (by omega),if_pos (by omega)]
      rw[this];exact World.ownsRow_nil _ _ _ _
    · have hlens:gl xs most=ue (cg xs (dx most)) (List.replicate xs.length 0):=by unfold gl;rw[if_neg (by omega),if_neg (by omega)]
      obtain⟨w2,hr,hown,hg2⟩:=yr (P:=P) (w:=w1) tu (by omega) (m:=n) (by omega)
      refine⟨_,_,_,w2,hr,?_⟩
      have hown:Own w2 w1.heap.size 3 n (dy (List.replicate xs.length 0)):=by
        simpa[dy,hn]using hown
      have fin:∀ w3 ys,ys=gl xs most->Own w3 w1.heap.size 3 n (dy ys)->w2.grownBy w3 (some w1.heap.size)->∃(A':Option Addr)(n' c':Nat),Ending.returned (.slice (some ⟨w1.heap.size,0,none⟩) n n)=.returned (.slice A' n' c')/\eo w3 w.heap.size 3 A' n' c' (dy (gl xs most))/\w.grownBy w3 none:=by
        intro w3 ys hys h3 h4
        subst hys
        have h5:=h3.ownsRow hg.size (by simp only[maxLen];omega)
        have:(dy (gl xs most)).length=n:=by rw[hlens];simp[dy,fq,hn]
        rw[this]at h5
        exact⟨_,_,_,rfl,h5,ax (ab hg hg2) h4 (by intro k hk;cases hk;exact hg.size)⟩
      have hL2:∀ x∈L,Is w2 x:=fun x hx=>(hL x hx).keep (ct hg2)
      have ho2:=ho.kept hg2
      refine⟨fun h1=>?_,fun h1=>?_⟩
      · -- one symbol
        obtain⟨x,rfl⟩:∃ x,L=[x]:=List.length_eq_one_iff.1 (by omega)
        obtain⟨a,h3,h4⟩:=ho2.row 0 (.pointer x.1) (by simp[qc7])
        have ha0:a.add 0=a:=by simp[Addr.add]
        rw[ha0]at h4
        have hcoin:av xs=[x.2]:=by rw[← hLx];rfl
        obtain⟨_,_,s,hs1,hs2⟩:=qy (xs:=xs) (x:=x.2) (by rw[hcoin];simp)
        obtain⟨b,hb1,hb2⟩:=hL2 x (by simp)
        have hbs:=hb2.single hs1
        have ts:(s:Int).toNat=s:=by omega
        have hcell:=hown.cell (j:=s) (u:=.int .i64 0) (by simp[dy,hs2])
        refine⟨a,h3,by omega,by omega,x.1,h4,b,hb1,(s:Int),hbs,_,rfl,by omega,by omega,⟨_,by rw[ts];exact hcell⟩,hown.notFrozen (aq _ _),?_⟩
        rw[ts]
        have hset:=hown.set (j:=s) (by simpa[dy]using hs2) (.int .i64 1)
        refine fin _ ((List.replicate xs.length 0).set s 1) ?_ ?_ (ce (af _ _) (aq _ _) _)
        · rw[hlens]
          have:cg xs (dx most)=[s]:=by unfold cg;rw[hcoin];simp[hs1]
          rw[this]
          simp[ue,qm6,hs2]
        · simpa[dy,List.map_set]using hset
      · refine⟨by omega,?_⟩
        -- list after list
        refine⟨fun ms lA ln lc i w3=>∃ (k:Nat) (O:List (Option Addr×dj)),i=(k:Int)/\k<=dx most-1/\ms=dx most-1-k/\eo w3 w.heap.size 218 lA ln lc (qc7 O)/\(∀ x∈O,Is w3 x)/\O.map Prod.snd=lev (av xs) k/\w2.grownBy w3 none,
          ⟨_,0,L,rfl,by omega,rfl,ho2,hL2,hLx,af _ _⟩,?_⟩
        rintro ms lA ln lc i w3 ⟨k,O,rfl,hk,rfl,ho3,hO,hOk,hg3⟩
        have hOl:O.length=(lev (av xs) k).length:=by rw[← hOk];simp
        have hls:=qe3 (av xs) k
        have hcl:=np xs
        have hln:ln=O.length:=by rw[ho3.cases.1];simp
        refine⟨fun hlt=>?_,fun hge=>?_⟩
        · have hfine:∀ x∈O,0<=x.2.1/\x.2.1<=2^60:=by
            intro x hx
            have h:=qil xs k x.2 (by rw[← hOk];exact List.mem_map_of_mem hx)
            have hp:(2:Int)^k<=2^15:=by
              have:=Nat.pow_le_pow_right (n:=2) (by omega) (show k<=15 by omega)
              have e1:((2^k:Nat):Int)=2^k:=by simp
              have e2:((2^15:Nat):Int)=2^15:=by simp
              omega
            have h2:=h.2.1
            exact⟨by have:=h.1;omega,by omega⟩
          have hnone:A1=none->c1=0/\n1=0:=by
            intro e
            rcases ho.cases.2 with⟨_,h,h',_⟩ | ⟨g,h,_⟩
            · exact⟨h',h⟩
            · rw[e]at h;cases h
          have hcap:n1<=c1:=by
            rcases ho.cases.2 with⟨_,h,h',_⟩ | ⟨g,_,_,_,h,_⟩
            · omega
            · exact h
          refine(qex (C:=L) (L:=O) ((ho2.kept hg3).row) ho3.row (by omega) hln (fun x hx=>(hL2 x hx).keep (ct hg3)) hO hcap (fun e=>(hnone e).1) (by omega) (by omega) hfine).mono fun ev w4 hh=>?_
          obtain⟨A4,n4,c4,O4,rfl,q1,q2,q3,q4⟩:=hh
          have hsz:w.heap.size<=w3.heap.size:=Nat.le_trans hg.size (Nat.le_trans hg2.size hg3.size)
          refine⟨A4,n4,c4,rfl,by omega,dx most-1-(k+1),by omega,k+1,O4,by omega,by omega,rfl,eo.mono q1 hsz,q2,?_,ab hg3 q4⟩
          rw[q3,hLx,hOk];rfl
        · have hk':k=dx most-1:=by omega
          have hlong:=qib hm1 (first:=av xs) (by omega)
          rw[← hk']at hlong
          have hlc:ln<=lc:=by
            rcases ho3.cases.2 with⟨_,h,h',_⟩ | ⟨g,_,_,_,h,_⟩
            · omega
            · exact h
          have hmx:mx (2*(n1:Int)-2) 0=((2*(av xs).length-2:Nat):Int):=by unfold mx;split <;>omega
          rw[hmx]
          have tm:(((2*(av xs).length-2:Nat):Int)).toNat=2*(av xs).length-2:=by omega
          rw[tm]
          refine⟨by omega,by omega,by omega,?_⟩
          have hchosen:cg xs (dx most)=((lev (av xs) k).take (2*(av xs).length-2)).flatMap Prod.snd:=by
            unfold cg;rw[if_neg (by omega),hk']
          refine⟨fun ms i w4=>∃(j:Nat)(ys:List Int),i=(j:Int)/\j<=2*(av xs).length-2/\ms=2*(av xs).length-2-j/\ys=ue (((lev (av xs) k).take j).flatMap Prod.snd) (List.replicate xs.length 0)/\(∀ v∈ys,0<=v/\v<=2^15*(j:Int)) ∧
              Own w4 w1.heap.size 3 n (dy ys)/\w2.grownBy w4 (some w1.heap.size)/\w3.grownBy w4 (some w1.heap.size),
            ⟨_,0,List.replicate xs.length 0,rfl,by omega,rfl,by simp[ue],by simp,hown.kept hg3 (by simp),bq hg3,af _ _⟩,?_⟩
          rintro ms i w4 ⟨j,ys,rfl,hj,rfl,hys,hyb,ho4,hg4,hg34⟩
          have hyl:ys.length=n:=by rw[hys,fq];simp[hn]
          have ho3':Own w3 w1.heap.size 3 n (dy (List.replicate xs.length 0)):=hown.kept hg3 (by simp)
          have hkeep:=pi ho3' (by decide) hg34
          refine⟨fun hlt=>?_,fun hge2=>?_⟩
          · have hjO:j<O.length:=by omega
            -- the row of items is another block than the lengths
            have hrowne:Row w4 lA (qc7 O):=by
              refine Row.kept ho3.row hg34 ?_
              intro a ha e
              rcases ho3.cases.2 with⟨h,_⟩ | ⟨g,h,_,_,_,hog⟩
              · rw[ha]at h;cases h
              · rw[ha]at h;cases h
                simp only[Option.some.injEq]at e
                subst e
                obtain⟨cur,e1,_⟩:=hog
                obtain⟨cur',e2,_⟩:=ho3'
                rw[e1]at e2
                cases e2
            obtain⟨a,h3,h4⟩:=hrowne j _ (yv hjO)
            obtain⟨b,hb1,hb2⟩:=hO _ (List.getElem_mem hjO)
            have hmem:O[j].2∈lev (av xs) k:=by rw[← hOk];exact List.mem_map_of_mem (List.getElem_mem hjO)
            obtain⟨f1,f2,f3,f4⟩:=qil xs k _ hmem
            have hpk:2^k<=2^15:=Nat.pow_le_pow_right (by omega) (by omega)
            refine⟨a,h3,by omega,by omega,O[j].1,h4,?_⟩
            rw[hb1]
            refine(qqz hb2 hkeep ho4 (by omega) (fun i hi=>by have:=f4 i hi;omega) hyb (by omega) (by omega)).mono fun ev w5 hh=>?_
            obtain⟨e1,e2,e3⟩:=hh
            refine⟨e1,by omega,2*(av xs).length-2-(j+1),by omega,j+1,ue O[j].2.2 ys,by omega,by omega,rfl,?_,?_,e2,ab hg4 e3,ab hg34 e3⟩
            · have hjl:j<(lev (av xs) k).length:=by omega
              have:(lev (av xs) k)[j]=O[j].2:=by simp[← hOk]
              rw[hys,List.take_succ_eq_append_getElem hjl,List.flatMap_append,t9,this]
              simp
            · intro v hv
              have:=q9 O[j].2.2 hyb (by omega) v hv
              omega
          · have hj':j=2*(av xs).length-2:=by omega
            refine fin w4 ys ?_ ho4 hg4
            rw[hys,hlens,hchosen,hj']
set_option maxRecDepth 100000
theorem ey(w:World)(cs:Array Value)(t:TypeId):Row (w.alloc (.cells cs t)) (some ⟨w.heap.size,0,none⟩) cs.toList:=by
 intro j u hj
 refine⟨_,rfl,?_⟩
 rw[au,World.cell?_alloc_new]
 simpa using hj
theorem xz(x:Int):0<=ju x/\ju x<=2^14:=by
 unfold ju
 split
 ·have h:(15-x).toNat<=14:=by omega
  have h1:=Nat.pow_le_pow_right (n:=2) (by omega) h
  obtain⟨q,hq⟩:∃ q:Nat,q=2^(15-x).toNat:=⟨_,rfl⟩
  have e1:(2:Int)^(15-x).toNat=(q:Int):=by rw[hq];simp
  rw[e1]
  omega
 ·omega
theorem yj(xs:List Int):0<=i4 xs/\i4 xs<=2^14*xs.length:=by
 induction xs with
 | nil=>simp[i4]
 | cons x xs ih =>
  have:=xz x
  simp only[i4,List.map_cons,List.sum_cons,List.length_cons]at *
  omega
theorem qaj{w:World}{A:Option Addr}{n c:Nat}{xs:List Int}(hA:Row w A (dy xs))(hn:n=xs.length)(hb:n<=2^40):
    Calls P 181 #[.slice A n c] w fun ev w'=>ev=.returned (.int .i64 (i4 xs))/\w.grownBy w' none:=by
  apply vc181;dsimp only[VC181,Wt,Br,Bb,Rd,Rc,Rs,Ix,rI_,rB_,rS_]
  try simp only[InK]
  refine⟨fun ms s i w'=>∃ k:Nat,i=(k:Int)/\k<=xs.length/\ms=xs.length-k/\s=i4 (xs.take k)/\w.grownBy w' none,⟨_,0,rfl,by omega,rfl,by simp[i4],af _ _⟩,?_⟩
  rintro ms s i w' ⟨k,rfl,hk,rfl,rfl,hg⟩
  refine⟨fun hlt=>?_,fun hge=>?_⟩
  · have l1:k<xs.length:=by omega
    obtain⟨a,ha1,ha2⟩:=(hA.kept_none hg) k (.int .i64 xs[k]) (by simp[dy,l1])
    have hs:i4 (xs.take (k+1))=i4 (xs.take k)+ju xs[k]:=by
      rw[List.take_succ_eq_append_getElem l1]
      simp only[i4,List.map_append,List.sum_append,List.map_cons,List.map_nil,List.sum_cons,List.sum_nil]
      omega
    have b1:=yj (xs.take k)
    have hl:(xs.take k).length=k:=by simp;omega
    rw[hl]at b1
    refine⟨a,ha1,by omega,by omega,xs[k],ha2,fun h1=>⟨fun h2=>?_,fun h2=>?_⟩,fun h1=>?_⟩
    · have hv:ju xs[k]=2^(15-xs[k]).toNat:=by unfold ju;rw[if_pos ⟨by omega,h2⟩]
      have hm:min (15-xs[k]).toNat 64=(15-xs[k]).toNat:=by omega
      have b2:=xz xs[k]
      rw[hm,Int.one_mul,← hv]
      exact⟨by omega,by omega,by omega,by omega,xs.length-(k+1),by omega,k+1,by omega,by omega,rfl,hs.symm,hg⟩
    · have hv:ju xs[k]=0:=by unfold ju;rw[if_neg (by omega)]
      exact⟨by omega,xs.length-(k+1),by omega,k+1,by omega,by omega,rfl,by rw[hs,hv];omega,hg⟩
    · have hv:ju xs[k]=0:=by unfold ju;rw[if_neg (by omega)]
      exact⟨by omega,xs.length-(k+1),by omega,k+1,by omega,by omega,rfl,by rw[hs,hv];omega,hg⟩
  · have:k=xs.length:=by omega
    subst this
    rw[List.take_length]
    exact⟨rfl,hg⟩
theorem qkm{w:World}{base:Nat}{A:Option Addr}{n c:Nat}{xs:List Int}{x:Int}(ho:eo w base 3 A n c (dy xs))(hn:n<=2^30)(hb:base<=w.heap.size):
    ∃ (A':Option Addr) (n' c':Nat) (w':World),Sem.run P (Builtin.append_ #[33,33] 33 #[.slice A n c,.slice (some ⟨w.heap.size,0,none⟩) 1 1]) (w.alloc (.cells #[.int .i64 x] 3))=.ok (.slice A' n' c') w' ∧
      eo w' base 3 A' n' c' (dy (xs++[x]))/\w.grownBy w' (Value.slice A n c).ownBlock:=by
  have g:=World.grownBy_alloc w (.cells #[.int .i64 x] 3) none
  have b:(w.alloc (.cells #[.int .i64 x] 3)).cell? ⟨w.heap.size,0,none⟩=some (.int .i64 x):=by simp
  obtain⟨A',n',c',w',h1,h2,h3⟩:=(ho.kept g).append1 (ty:=33) tu (by omega) (cc:=1) b rfl (by omega) (Nat.le_trans hb g.size)
  exact⟨A',n',c',w',h1,by simpa[dy]using h2,ab (bq g) h3⟩
def cnt5(x:Int):List Int:=[x,x % 3,(x % 2)*1000,2^(x % 40).toNat,x*x]
def cnt(k x:Int):Int:=(cnt5 x).getD ((k+x % 7) % 5).toNat 0
set_option maxHeartbeats 4000000
end Go.Proofs.YtlieaecnllkefaaGreat

/- Own texts, packed: Y1, Y2, Y3, Y4, Y5, Y6, Y7, Y8. -/
import Derived.Test.YtlieaecnllkefaaGreatGPg
import Derived.Test.YtlieaecnllkefaaGreatGWg
import Derived.Lib.ReflectliteSwap
import Derived.Laws.Externs
import Derived.Sort.LotD3
import Derived.Sort.LotA
import Derived.Sort.LotB
import Derived.Sort.LotC
import Derived.Test.YtlieaecnllkefaaGreatGQg
import Derived.Sort.Lot0
import Derived.Lib.ReflectliteSlice
set_option linter.unusedVariables false
set_option linter.unusedSimpArgs false
set_option maxHeartbeats 4000000
set_option maxRecDepth 100000
namespace Go.Proofs.YtlieaecnllkefaaGreat
open Go Go.V Go.RowKit
structure iU(w:World)(g ge n c:Nat)(d:Array Edge):Prop where
 blk:∃ cur:Array Value,w.heap[g]?=some (.cells cur 45 (0,0))/\cur.size=c*2/\cur.toList.take (n*2)=edges d.toList
 env:w.heap[ge]?=some (.cells #[.slice (some ⟨g,0,none⟩) n c] 40 (0,0))
 sz:d.size=n
 nc:n<=c
theorem iU.ne{w:World}{g ge n c:Nat}{d:Array Edge}(h:iU w g ge n c d):g≠ge:=by
 obtain⟨cur,h1,_⟩:=h.blk;intro e;subst e;rw[h.env]at h1;cases h1
theorem iU.lt{w:World}{g ge n c:Nat}{d:Array Edge}(h:iU w g ge n c d):g<w.heap.size/\ge<w.heap.size:=by
 obtain⟨cur,h1,_⟩:=h.blk;exact⟨(Array.getElem?_eq_some_iff.1 h1).1,(Array.getElem?_eq_some_iff.1 h.env).1⟩
theorem iU.kp{w w':World}{S:Nat->Prop}{g ge n c:Nat}{d:Array Edge}(h:iU w g ge n c d)(hk:Kp w w' S)(h1:¬ S g)(h2:¬ S ge):iU w' g ge n c d:=by
 obtain⟨cur,e1,e2,e3⟩:=h.blk;exact⟨⟨cur,by rw[hk.block g h.lt.1 h1];exact e1,e2,e3⟩,by rw[hk.block ge h.lt.2 h2];exact h.env,h.sz,h.nc⟩
theorem iU.kept{w w':World}{g ge n c:Nat}{d:Array Edge}(h:iU w g ge n c d)(hg:w.grownBy w' none):iU w' g ge n c d:=h.kp (S:=fun _=>False) (Kp.of_none hg) (fun h=>h) (fun h=>h)
theorem iU.row{w:World}{g ge n c:Nat}{d:Array Edge}(h:iU w g ge n c d):bB w (some ⟨g,0,none⟩) (edges d.toList):=by
 obtain⟨cur,e1,e2,e3⟩:=h.blk;intro j u hj;refine⟨_,rfl,?_⟩;rw[aN,aA e1,← Array.getElem?_toList];rw[← e3,List.getElem?_take]at hj;split at hj
 ·exact hj
 ·cases hj
theorem BZ{d:Array Edge}{i:Nat}(h:i<d.size):d[i]! =d.toList[i]'(by simpa using h):=by simp[h]
theorem pM{w:World}{g ge n c:Nat}{d:Array Edge}{i j:Nat}(h:iU w g ge n c d)(hi:i<n)(hj:j<n):
    Calls P 64 #[.int .i64 i,.int .i64 j,.pointer (some ⟨ge,0,none⟩)] w fun ev w'=>ev=.returned (.bool (aK d[i]! d[j]!))/\w.grownBy w' none:=by
  apply vc64;dsimp only[VC64,Rd,Rs,Ix,cB,ad,al];have gd:=aI (aD w none);have h':=h.kept gd;have hs:=h.sz;have li:i<d.toList.length:=by simp;omega
  have lj:j<d.toList.length:=by simp;omega
  obtain⟨a,e1,e2,e3⟩:=fz h'.row li;obtain⟨b,f1,f2,f3⟩:=fz h'.row lj;cases e1;cases f1;have ti:(i:Int).toNat=i:=by omega
  have tj:(j:Int).toNat=j:=by omega
  rw[ti,tj];refine⟨_,_,_,aA h'.env 0,_,rfl,by omega,by omega,_,e2,_,e3,_,_,_,aA h'.env 0,_,rfl,by omega,by omega,_,f2,_,f3,(pU d.toList[i] d.toList[j]).mono fun ev w1 hh=>?_⟩;obtain⟨rfl,g1⟩:=hh;rw[BZ (by omega),BZ (by omega)];exact⟨_,rfl,rfl,aB gd g1⟩
theorem tJ:∀ {l:List Edge} {i:Nat} (e:Edge),i<l.length->((edges l).set (i*2) (.int .u32 e.1)).set (i*2+1) (.int .u32 e.2)=edges (l.set i e)
 | a ::l,0,e,_=>by simp[edges,jW]
 | a ::l,i+1,e,h=>by
  have ih:=tJ (l:=l) (i:=i) e (by simpa using h);rw[show(i+1)*2=i*2+1+1 by omega];show _ ::_ ::((edges l).set (i*2) _).set (i*2+1) _=_ ::_ ::edges _;rw[ih]
  first | done | rfl
theorem iU.put{w:World}{g ge n c:Nat}{d:Array Edge}(h:iU w g ge n c d){i:Nat}(hi:i<n)(e:Edge):iU (w.setCells g (i*2) [.int .u32 e.1,.int .u32 e.2]) g ge n c (d.setIfInBounds i e)/\Kp w (w.setCells g (i*2) [.int .u32 e.1,.int .u32 e.2]) (fun k=>k=g):=by
 obtain⟨cur,e1,e2,e3⟩:=h.blk;have K:Kp w (w.setCells g (i*2) [.int .u32 e.1,.int .u32 e.2]) (fun k=>k=g):=cv (cv (Kp.refl w _) rfl) rfl;have s1:=aF e1 (i*2) (.int .u32 e.1);have s2:=aF s1 (i*2+1) (.int .u32 e.2);refine⟨⟨⟨_,s2,by simpa using e2,?_⟩,?_,by simpa using h.sz,h.nc⟩,K⟩
 ·rw[Array.toList_setIfInBounds,Array.toList_setIfInBounds,List.take_set,List.take_set,e3,tJ e (by have:=h.sz;simp;omega),Array.toList_setIfInBounds]
 ·rw[K.block ge h.lt.2 (fun e=>h.ne e.symm)];exact h.env
theorem B8(g i j:Nat):(⟨g,i,none⟩:Addr).add j=⟨g,i+j,none⟩:=by unfold Addr.add;split <;>simp_all
theorem qN{w:World}{g ge n c:Nat}{d:Array Edge}{i j:Nat}(h:iU w g ge n c d)(hi:i<n)(hj:j<n):
    ∃ w',Sem.run P (callFunc 134 #[.int .i64 i,.int .i64 j,.slice (some ⟨g,0,none⟩) n c,typeHandle P 45]) w=.ok (.value (.tuple #[])) w'/\iU w' g ge n c (Go.Sort.swp d i j)/\Kp w w' (fun k=>k=g):=by
  have hs:=h.sz;obtain⟨cur,e1,e2,e3⟩:=h.blk;have li:i<d.toList.length:=by simp;omega
  have lj:j<d.toList.length:=by simp;omega
  obtain⟨h1,k1⟩:=h.put hi d[j]!;obtain⟨h2,k2⟩:=h1.put hj d[i]!;have Iq:∃ ie,P.info? 45=some ie/\ie.size=2:=⟨(P.info? 45).get (by kernel_rfl),by kernel_rfl,by kernel_rfl⟩;obtain⟨ie,Iq,Ff⟩:=Iq;have NT:∀ w,(isAgg 45).run P w=.ok true w:=fun w=>(Dl.get (t:=45) (e:=(tf T 45).get (by kernel_rfl)) (by kernel_rfl)).isAgg w;have cells:∀(k:Nat)(hk:k<d.toList.length)(q:Nat)(v:Value),(jW d[k]!)[q]?=some v->w.cell? ⟨g,0+k*ie.size+q,none⟩=some v:=by
    intro k hk q v hv;obtain⟨a,q1,q2,q3⟩:=fz h.row hk;cases q1;rw[aN]at q2 q3;rw[B8]at q3;rw[BZ (by simpa using hk)]at hv;rw[Ff,Nat.zero_add]
    match q with
    | 0=>simp[jW]at hv;subst hv;exact q2
    | 1=>simp[jW]at hv;subst hv;exact q3
    | q+2=>simp[jW]at hv
  have run:=Lib.run_swap_cells (P:=P) true 45 ie Iq NT g 0 n c i j hi hj (jW d[i]!) (jW d[j]!) (by rw[Ff];rfl) (by rw[Ff];rfl) (by intro v hv;simp[jW]at hv;rcases hv with rfl | rfl <;>rfl) (by intro v hv;simp[jW]at hv;rcases hv with rfl | rfl <;>rfl) w
    (cells i li) (cells j lj) (fun k _=>aC e1 _) (fun k _=>aC e1 _)
  refine⟨_,?_,h2,k1.then k2 (fun k _ e=>e)⟩;rw[run_callFunc_extern (P:=P) Tryz.func134 (by kernel_rfl) (by kernel_rfl) (by kernel_rfl) (e:=Extern.ReflectliteSwapper.swap true) (by kernel_rfl) _ w,run];simp only[Result.andThen_ok,Ff,Nat.zero_add];rfl
noncomputable abbrev fw (ge:Nat):Value:=.func (.func 64) #[] #[.pointer (some ⟨ge,0,none⟩)]
noncomputable abbrev iX (g n c:Nat):Value:=.func (.func 134) #[] #[.slice (some ⟨g,0,none⟩) n c,typeHandle P 45]
noncomputable abbrev jc (g ge n c:Nat):Value:=.agg #[fw ge,iX g n c]
structure St(w w':World)(g ge n c:Nat)(d:Array Edge):Prop where
 s:iU w' g ge n c d
 k:Kp w w' (fun k=>k=g)
 b:w'.heap[w.heap.size]?=some (.cells #[fw ge,iX g n c] 159 (0,0))
 l:g<w.heap.size
 l2:ge<w.heap.size
theorem St.start{w:World}{g ge n c:Nat}{d:Array Edge}(h:iU w g ge n c d):St w (w.alloc (.cells #[fw ge,iX g n c] 159)) g ge n c d :=
 ⟨h.kept (World.grownBy_alloc w _ none),Kp.of_none (World.grownBy_alloc w _ none),heap_alloc_new w _,h.lt.1,h.lt.2⟩
theorem St.then{w w' w'':World}{g ge n c:Nat}{d d':Array Edge}(h:St w w' g ge n c d)(hs:iU w'' g ge n c d')(hk:Kp w' w'' (fun k=>k=g)):St w w'' g ge n c d' :=
 ⟨hs,h.k.then hk (fun _ _ e=>e),(hk.block _ (Array.getElem?_eq_some_iff.1 h.b).1 (by have:=h.l;omega)).trans h.b,h.l,h.l2⟩
theorem St.far{w w' w'':World}{g ge n c gr:Nat}{d:Array Edge}(h:St w w' g ge n c d)(hk:Kp w' w'' (fun k=>k=gr))(hg:w.heap.size<gr):St w w'' g ge n c d :=
 ⟨h.s.kp hk (by have:=h.l;omega) (by have:=h.l2;omega),h.k.then hk (fun k hk e=>by omega),(hk.block _ (Array.getElem?_eq_some_iff.1 h.b).1 (by omega)).trans h.b,h.l,h.l2⟩
theorem St.kept{w w' w'':World}{g ge n c:Nat}{d:Array Edge}(h:St w w' g ge n c d)(hg:w'.grownBy w'' none):St w w'' g ge n c d:=h.then (h.s.kept hg) (Kp.of_none hg)
theorem St.c0{w w':World}{g ge n c:Nat}{d:Array Edge}(h:St w w' g ge n c d):w'.cell? ⟨w.heap.size,0,none⟩=some (fw ge):=aA h.b 0
theorem St.c1{w w':World}{g ge n c:Nat}{d:Array Edge}(h:St w w' g ge n c d):w'.cell? ⟨w.heap.size,1,none⟩=some (iX g n c):=aA h.b 1
theorem St.less{w w':World}{g ge n c:Nat}{d:Array Edge}(h:St w w' g ge n c d){i j:Int}(hi:0<=i/\i<n)(hj:0<=j/\j<n):
    Calls P 64 #[.int .i64 i,.int .i64 j,.pointer (some ⟨ge,0,none⟩)] w' fun ev w''=>ev=.returned (.bool (aK d[i.toNat]! d[j.toNat]!))/\St w w'' g ge n c d:=by
  obtain⟨p,rfl⟩:∃ p:Nat,i=(p:Int):=⟨i.toNat,by omega⟩;obtain⟨q,rfl⟩:∃ q:Nat,j=(q:Int):=⟨j.toNat,by omega⟩;refine(pM h.s (i:=p) (j:=q) (by omega) (by omega)).mono fun ev w1 hh=>?_;obtain⟨rfl,g1⟩:=hh;exact⟨by simp,h.kept g1⟩
theorem St.swap{w w':World}{g ge n c:Nat}{d:Array Edge}(h:St w w' g ge n c d){i j:Int}(hi:0<=i/\i<n)(hj:0<=j/\j<n):
    ∃ w'',Sem.run P (callFunc 134 #[.int .i64 i,.int .i64 j,.slice (some ⟨g,0,none⟩) n c,typeHandle P 45]) w'=.ok (.value (.tuple #[])) w''/\St w w'' g ge n c (Go.Sort.swp d i.toNat j.toNat):=by
  obtain⟨p,rfl⟩:∃ p:Nat,i=(p:Int):=⟨i.toNat,by omega⟩;obtain⟨q,rfl⟩:∃ q:Nat,j=(q:Int):=⟨j.toNat,by omega⟩;obtain⟨w1,e1,e2,e3⟩:=qN h.s (i:=p) (j:=q) (by omega) (by omega);exact⟨w1,e1,h.then (by simpa using e2) e3⟩
theorem qo {w:World} {g ge n c a b:Nat} {d:Array Edge} (h:iU w g ge n c d) (Hc:a<=b) (hb:b<=n) (hn:n<=2^30) :
    Calls P 141 #[jc g ge n c,.int .i64 a,.int .i64 b] w fun ev w'=>ev=.returned (.tuple #[])/\iU w' g ge n c (Go.Sort.insertionSort aK d a b)/\Kp w w' (fun k=>k=g):=by
  apply vc141s;dsimp only[VC141s,fP,rt,Br,Bb,cB,nb,iq]
  try simp only[aG]
  refine⟨by omega,fun m i w'=>∃(p:Nat)(d':Array Edge),i=(p:Int)/\a+1<=p/\m=b-p/\St w w' g ge n c d'/\Go.Sort.insOuter aK a b p d'=Go.Sort.insOuter aK a b (a+1) d,
    ⟨_,a+1,d,by omega,by omega,rfl,St.start h,rfl⟩,?_⟩
  rintro m i w1 ⟨p,d',rfl,hp,rfl,hs,ho⟩;refine⟨fun DF=>?_,fun DK=>?_⟩
  · rw[Go.Sort.insOuter,if_pos (by omega)]at ho;refine⟨fun m j w'=>∃(q:Nat)(d'':Array Edge),j=(q:Int)/\q<=p/\q=m/\St w w' g ge n c d''/\Go.Sort.insInner aK a q d''=Go.Sort.insInner aK a p d',⟨_,p,d',rfl,Nat.le_refl _,rfl,hs,rfl⟩,?_⟩;rintro m j w2 ⟨q,d'',rfl,hq,rfl,ES,hi⟩;have next:∀ W,St w W g ge n c d''->Go.Sort.insInner aK a q d''=d''->∃ m_1:Nat,m_1<b-p/\∃(p':Nat)(d':Array Edge),(p:Int)+1=(p':Int)/\a+1<=p'/\m_1=b-p'/\St w W g ge n c d'/\Go.Sort.insOuter aK a b p' d'=Go.Sort.insOuter aK a b (a+1) d:=by
      intro W hW e;refine⟨b-(p+1),by omega,p+1,d'',by omega,by omega,rfl,hW,?_⟩;rw[← ho,← hi,e]
    refine⟨fun ET=>⟨ES.c0,by omega,(ES.less (i:=(q:Int)) (j:=(q:Int)-1) (by omega) (by omega)).mono fun ev w3 hh=>?_⟩,fun DQ=>⟨by omega,next _ ES ?_⟩⟩
    · obtain⟨rfl,EA⟩:=hh;obtain⟨q,rfl⟩:∃ q',q=q'+1:=⟨q-1,by omega⟩;have t1:(((q+1:Nat):Int)-1).toNat=q:=by omega
      have t0:((q+1:Nat):Int).toNat=q+1:=by omega
      rw[t1,t0];have hg:decide (q+1>a)=true:=by simp;omega
      refine⟨_,rfl,fun hl=>⟨EA.c1,by omega,?_⟩,fun hl=>⟨by omega,next _ EA ?_⟩⟩
      · obtain⟨w4,e1,DS⟩:=EA.swap (i:=((q+1:Nat):Int)) (j:=((q+1:Nat):Int)-1) (by omega) (by omega);rw[t1,t0]at DS;refine⟨w4,e1,by omega,q,by omega,q,_,by omega,by omega,rfl,DS,?_⟩;rw[← hi,Go.Sort.insInner,if_pos (by rw[hg,hl];rfl)]
      · rw[Go.Sort.insInner,if_neg (by rw[hg,hl];simp)]
    · cases q with
      | zero=>rfl
      | succ q =>
        have hg:decide (q+1>a)=false:=by simp;omega
        rw[Go.Sort.insInner,if_neg (by rw[hg];simp)]
  · rw[Go.Sort.insOuter,if_neg (by omega)]at ho;refine⟨by trivial,?_,hs.k⟩;unfold Go.Sort.insertionSort;rw[← ho];exact hs.s
theorem qQ{w:World}{g ge n c lo hi first:Nat}{d:Array Edge}(h:iU w g ge n c d)(hf:first+hi<=n)(hn:n<=2^30)(Re:lo<=n):
    Calls P 169 #[jc g ge n c,.int .i64 lo,.int .i64 hi,.int .i64 first] w fun ev w'=>ev=.returned (.tuple #[])/\iU w' g ge n c (Go.Sort.siftDown aK hi first lo d)/\Kp w w' (fun k=>k=g):=by
  apply vc169s;dsimp only[VC169s,fP,rt,Br,Bb,cB,nb,iq]
  try simp only[aG]
  refine⟨fun m i w'=>∃(r:Nat)(d':Array Edge),i=(r:Int)/\r<=n/\m=n-r/\St w w' g ge n c d'/\Go.Sort.siftDown aK hi first r d'=Go.Sort.siftDown aK hi first lo d,
    ⟨_,lo,d,rfl,Re,rfl,St.start h,rfl⟩,?_⟩
  rintro m i w1 ⟨r,d',rfl,hr,rfl,hs,ho⟩;refine⟨by omega,by omega,fun DK=>?_,fun DF=>?_⟩
  · rw[Go.Sort.siftDown,dif_pos (by omega)]at ho;rw[← ho];exact⟨by trivial,hs.s,hs.k⟩
  rw[Go.Sort.siftDown,dif_neg (by omega)]at ho
  -- the greater child
  refine⟨fun ch w'=>∃ q:Nat,ch=(q:Int)/\r<q/\q<hi/\St w w' g ge n c d'/\(if !aK d'[first+r]! d'[first+q]! then d' else Go.Sort.siftDown aK hi first q (Go.Sort.swp d' (first+r) (first+q)))=Go.Sort.siftDown aK hi first lo d,⟨by omega,fun h2=>⟨hs.c0,by omega,by omega,by omega,?_⟩,fun h2=>?_⟩,?_⟩
  · refine(hs.less (i:=(first:Int)+(2*(r:Int)+1)) (j:=(first:Int)+(2*(r:Int)+1)+1) (by omega) (by omega)).mono fun ev w2 hh=>?_;obtain⟨rfl,ES⟩:=hh;have t1:((first:Int)+(2*(r:Int)+1)).toNat=first+(2*r+1):=by omega
    have t2:((first:Int)+(2*(r:Int)+1)+1).toNat=first+(2*r+1)+1:=by omega
    rw[t1,t2];have Ht:decide (2*r+1+1<hi)=true:=by simp;omega
    refine⟨_,rfl,fun hl=>⟨by omega,2*r+2,by omega,by omega,by omega,ES,?_⟩,fun hl=>⟨2*r+1,by omega,by omega,by omega,ES,?_⟩⟩
    · rw[Ht,hl]at ho;simp only[Bool.and_self,if_true]at ho;rw[dif_pos (by omega)]at ho;exact ho
    · rw[Ht,hl]at ho;simp only[Bool.and_false,Bool.false_eq_true,if_false]at ho;exact ho
  · have Ht:decide (2*r+1+1<hi)=false:=by simp;omega
    rw[Ht]at ho;simp only[Bool.false_and,Bool.false_eq_true,if_false]at ho;exact⟨2*r+1,by omega,by omega,by omega,hs,ho⟩
  · rintro ch w3 ⟨q,rfl,MP,MO,EA,Ee⟩;refine⟨EA.c0,by omega,by omega,(EA.less (i:=(first:Int)+r) (j:=(first:Int)+q) (by omega) (by omega)).mono fun ev w4 hh=>?_⟩;obtain⟨rfl,DS⟩:=hh;have t1:((first:Int)+r).toNat=first+r:=by omega
    have t2:((first:Int)+q).toNat=first+q:=by omega
    rw[t1,t2];refine⟨_,rfl,fun hl=>?_,fun hl=>⟨DS.c1,by omega,by omega,?_⟩⟩
    · rw[hl]at Ee;simp only[Bool.not_false,if_true]at Ee;rw[← Ee];exact⟨by trivial,DS.s,DS.k⟩
    · have GK:aK d'[first+r]! d'[first+q]! =true:=by simpa using hl
      rw[GK]at Ee;simp only[Bool.not_true,Bool.false_eq_true,if_false]at Ee;obtain⟨w5,e1,Fx⟩:=DS.swap (i:=(first:Int)+r) (j:=(first:Int)+q) (by omega) (by omega);rw[t1,t2]at Fx;exact⟨w5,e1,n-q,by omega,q,_,rfl,by omega,rfl,Fx,Ee⟩
theorem ym {w:World} {g ge n c a b:Nat} {d:Array Edge} (h:iU w g ge n c d) (Hc:a<b) (hb:b<=n) (hn:n<=2^30) :
    Calls P 142 #[jc g ge n c,.int .i64 a,.int .i64 b] w fun ev w'=>ev=.returned (.tuple #[])/\iU w' g ge n c (Go.Sort.heapSort aK d a b)/\Kp w w' (fun k=>k=g):=by
  apply vc142s;dsimp only[VC142s,fP,rt,Br,cU,nb,iq]
  try simp only[aG]
  refine⟨by omega,by omega,by omega,fun m i w'=>∃(k:Nat)(d':Array Edge),i=(k:Int)-1/\k<=n/\k=m/\St w w' g ge n c d'/\Go.Sort.heapBuild aK (b-a) a k d'=Go.Sort.heapBuild aK (b-a) a ((b-a-1) / 2+1) d,
    ⟨_,(b-a-1) / 2+1,d,by omega,by omega,rfl,St.start h,rfl⟩,?_⟩
  rintro m i w1 ⟨k,d',rfl,hk,rfl,hs,ho⟩;refine⟨fun DK=>?_,fun DF=>?_⟩
  · obtain⟨k,rfl⟩:∃ k',k=k'+1:=⟨k-1,by omega⟩;rw[Go.Sort.heapBuild]at ho;have e:((k+1:Nat):Int)-1=(k:Int):=by omega
    have e2:(b:Int)-(a:Int)=((b-a:Nat):Int):=by omega
    rw[e,e2];refine⟨hs.c0,hs.c1,(qQ hs.s (lo:=k) (hi:=b-a) (first:=a) (by omega) hn (by omega)).mono fun ev w2 hh=>?_⟩;obtain⟨rfl,ES,k2⟩:=hh;exact⟨rfl,by omega,k,by omega,k,_,by omega,by omega,rfl,hs.then ES k2,ho⟩
  · have Gu:k=0:=by omega
    subst Gu;rw[Go.Sort.heapBuild]at ho;refine⟨by omega,fun m i w'=>∃(k:Nat)(d':Array Edge),i=(k:Int)-1/\k<=b-a/\k=m/\St w w' g ge n c d'/\Go.Sort.heapPop aK a k d'=Go.Sort.heapSort aK d a b,
      ⟨_,b-a,d',by omega,by omega,rfl,hs,?_⟩,?_⟩
    · unfold Go.Sort.heapSort;rw[ho]
    · rintro m i w3 ⟨k,d',rfl,hk,rfl,EA,Ee⟩;refine⟨fun DK=>?_,fun DF=>?_⟩
      · obtain⟨k,rfl⟩:∃ k',k=k'+1:=⟨k-1,by omega⟩;rw[Go.Sort.heapPop]at Ee;have e:((k+1:Nat):Int)-1=(k:Int):=by omega
        rw[e];obtain⟨w4,e1,DS⟩:=EA.swap (i:=(a:Int)) (j:=(a:Int)+k) (by omega) (by omega);have t1:((a:Int)+k).toNat=a+k:=by omega
        have t0:((a:Int)).toNat=a:=by omega
        rw[t1,t0]at DS;refine⟨EA.c1,by omega,w4,e1,DS.c0,DS.c1,(qQ DS.s (lo:=0) (hi:=k) (first:=a) (by omega) hn (by omega)).mono fun ev w5 hh=>?_⟩;obtain⟨rfl,Fx,k5⟩:=hh;exact⟨rfl,by omega,k,by omega,k,_,by omega,by omega,rfl,DS.then Fx k5,Ee⟩
      · have Gu:k=0:=by omega
        subst Gu;rw[Go.Sort.heapPop]at Ee;rw[← Ee];exact⟨by trivial,EA.s,EA.k⟩
def Dz(w:World)(g ge n c:Nat)(d:Array Edge)(p:Edge->Bool)(j i0:Nat)(i:Int)(W:World):Prop:=∃ q:Nat,i=(q:Int)/\q=Go.Sort.scanUp p d j i0/\i0<=q/\(q=i0∨q<=j+1)/\St w W g ge n c d
def sJ(w:World)(g ge n c:Nat)(d:Array Edge)(p:Edge->Bool)(i j0:Nat)(j:Int)(W:World):Prop:=∃ q:Nat,j=(q:Int)/\q=Go.Sort.scanDown p d i j0/\q<=j0/\(q=j0∨i<=q+1)/\St w W g ge n c d
theorem jn{p:Edge->Bool}{d:Array Edge}{j q:Nat}(h:¬ (q<=j/\p d[q]! =true)):Go.Sort.scanUp p d j q=q:=by
 rw[Go.Sort.scanUp,if_neg (by simpa using h)]
theorem tM{p:Edge->Bool}{d:Array Edge}{j q:Nat}(h:q<=j)(hp:p d[q]! =true):Go.Sort.scanUp p d j q=Go.Sort.scanUp p d j (q+1):=by
 rw[Go.Sort.scanUp,if_pos (by simp[h,hp])]
theorem ii{p:Edge->Bool}{d:Array Edge}{i q:Nat}(h:¬ (i<=q/\p d[q]! =true)):Go.Sort.scanDown p d i q=q:=by
 cases q with
 | zero=>rfl
 | succ q=>rw[Go.Sort.scanDown,if_neg (by simpa using h)]
theorem pC{p:Edge->Bool}{d:Array Edge}{i q:Nat}(h:i<=q+1)(hp:p d[q+1]! =true):Go.Sort.scanDown p d i (q+1)=Go.Sort.scanDown p d i q:=by
 rw[Go.Sort.scanDown,if_pos (by simp[h,hp])]
theorem upP{w W:World}{g ge n c a i0 j:Nat}{d:Array Edge}(hs:St w W g ge n c d)(ha:a<n)(hj:j<n)(hn:n<=2^30)(hi:i0<=n):
    ∃ I:Nat->Int->World->Prop,(∃ k:Nat,I k (i0:Int) W)/\∀(m:Nat)(i:Int)(wv:World),I m i wv->((i<=(j:Int)->(wv.cell? ⟨w.heap.size,0,none⟩=some (fw ge)/\Calls P 64 #[.int .i64 i,.int .i64 (a:Int),.pointer (some ⟨ge,0,none⟩)] wv fun ev w'=>∃ x:Bool,ev=.returned (.bool x)/\((x=true->((-9223372036854775808<=i+1/\i+1<=9223372036854775807)/\∃ m1:Nat,m1<m/\I m1 (i+1) w'))/\(x=false->Dz w g ge n c d (fun x=>aK x d[a]!) j i0 i w'))))/\(¬ i<=(j:Int)->Dz w g ge n c d (fun x=>aK x d[a]!) j i0 i wv)):=by
  refine⟨fun m i W=>∃ q:Nat,i=(q:Int)/\q<=n/\m=n-q/\Go.Sort.scanUp (fun x=>aK x d[a]!) d j q=Go.Sort.scanUp (fun x=>aK x d[a]!) d j i0/\i0<=q/\(q=i0∨q<=j+1)/\St w W g ge n c d,
    ⟨_,i0,rfl,hi,rfl,rfl,Nat.le_refl _,.inl rfl,hs⟩,?_⟩
  rintro m i wv ⟨q,rfl,hq,rfl,he,h0,h1,hw⟩;refine⟨fun DQ=>⟨hw.c0,(hw.less (i:=(q:Int)) (j:=(a:Int)) (by omega) (by omega)).mono fun ev w' hh=>?_⟩,fun ET=>⟨q,rfl,?_,h0,h1,hw⟩⟩
  · obtain⟨rfl,GN⟩:=hh;have tq:(q:Int).toNat=q:=by omega
    have ta:(a:Int).toNat=a:=by omega
    rw[tq,ta];refine⟨_,rfl,fun hl=>⟨by omega,n-(q+1),by omega,q+1,by omega,by omega,rfl,?_,by omega,.inr (by omega),GN⟩,fun hl=>⟨q,rfl,?_,h0,h1,GN⟩⟩
    · exact(tM (p:=fun x=>aK x d[a]!) (by omega) hl).symm.trans he
    · rw[← he,jn (fun h=>by rw[hl]at h;cases h.2)]
  · rw[← he,jn (fun h=>ET (by omega))]
theorem Dc{w W:World}{g ge n c a i j0:Nat}{d:Array Edge}(hs:St w W g ge n c d)(ha:a<n)(hj:j0<n)(hn:n<=2^30)(hi:1<=i):
    ∃ I:Nat->Int->World->Prop,(∃ k:Nat,I k (j0:Int) W)/\∀(m:Nat)(j:Int)(wv:World),I m j wv->(((i:Int)<=j->(wv.cell? ⟨w.heap.size,0,none⟩=some (fw ge)/\Calls P 64 #[.int .i64 j,.int .i64 (a:Int),.pointer (some ⟨ge,0,none⟩)] wv fun ev w'=>∃ x:Bool,ev=.returned (.bool x)/\((x=false->((-9223372036854775808<=j-1/\j-1<=9223372036854775807)/\∃ m1:Nat,m1<m/\I m1 (j-1) w'))/\(¬ x=false->sJ w g ge n c d (fun x=>!aK x d[a]!) i j0 j w'))))/\(¬ (i:Int)<=j->sJ w g ge n c d (fun x=>!aK x d[a]!) i j0 j wv)):=by
  refine⟨fun m j W=>∃ q:Nat,j=(q:Int)/\q<=j0/\q=m/\Go.Sort.scanDown (fun x=>!aK x d[a]!) d i q=Go.Sort.scanDown (fun x=>!aK x d[a]!) d i j0/\(q=j0∨i<=q+1)/\St w W g ge n c d,
    ⟨_,j0,rfl,Nat.le_refl _,rfl,rfl,.inl rfl,hs⟩,?_⟩
  rintro m j wv ⟨q,rfl,hq,rfl,he,h1,hw⟩;refine⟨fun DQ=>⟨hw.c0,(hw.less (i:=(q:Int)) (j:=(a:Int)) (by omega) (by omega)).mono fun ev w' hh=>?_⟩,fun ET=>⟨q,rfl,?_,hq,h1,hw⟩⟩
  · obtain⟨rfl,GN⟩:=hh;have tq:(q:Int).toNat=q:=by omega
    have ta:(a:Int).toNat=a:=by omega
    rw[tq,ta];refine⟨_,rfl,fun hl=>?_,fun hl=>⟨q,rfl,?_,hq,h1,GN⟩⟩
    · obtain⟨q,rfl⟩:∃ q',q=q'+1:=⟨q-1,by omega⟩;refine⟨by omega,q,by omega,q,by omega,by omega,rfl,?_,.inr (by omega),GN⟩;rw[← he,pC (by omega) (by rw[hl];rfl)]
    · rw[← he,ii (fun h=>hl (by simpa using h.2))]
  · rw[← he,ii (fun h=>ET (by omega))]
theorem upE{w W:World}{g ge n c a i0 j:Nat}{d:Array Edge}(hs:St w W g ge n c d)(ha:a<n)(hj:j<n)(hn:n<=2^30)(hi:i0<=n):
    ∃ I:Nat->Int->World->Prop,(∃ k:Nat,I k (i0:Int) W)/\∀(m:Nat)(i:Int)(wv:World),I m i wv->((i<=(j:Int)->(wv.cell? ⟨w.heap.size,0,none⟩=some (fw ge)/\Calls P 64 #[.int .i64 (a:Int),.int .i64 i,.pointer (some ⟨ge,0,none⟩)] wv fun ev w'=>∃ x:Bool,ev=.returned (.bool x)/\((x=false->((-9223372036854775808<=i+1/\i+1<=9223372036854775807)/\∃ m1:Nat,m1<m/\I m1 (i+1) w'))/\(¬ x=false->Dz w g ge n c d (fun x=>!aK d[a]! x) j i0 i w'))))/\(¬ i<=(j:Int)->Dz w g ge n c d (fun x=>!aK d[a]! x) j i0 i wv)):=by
  refine⟨fun m i W=>∃ q:Nat,i=(q:Int)/\q<=n/\m=n-q/\Go.Sort.scanUp (fun x=>!aK d[a]! x) d j q=Go.Sort.scanUp (fun x=>!aK d[a]! x) d j i0/\i0<=q/\(q=i0∨q<=j+1)/\St w W g ge n c d,
    ⟨_,i0,rfl,hi,rfl,rfl,Nat.le_refl _,.inl rfl,hs⟩,?_⟩
  rintro m i wv ⟨q,rfl,hq,rfl,he,h0,h1,hw⟩;refine⟨fun DQ=>⟨hw.c0,(hw.less (i:=(a:Int)) (j:=(q:Int)) (by omega) (by omega)).mono fun ev w' hh=>?_⟩,fun ET=>⟨q,rfl,?_,h0,h1,hw⟩⟩
  · obtain⟨rfl,GN⟩:=hh;have tq:(q:Int).toNat=q:=by omega
    have ta:(a:Int).toNat=a:=by omega
    rw[tq,ta];refine⟨_,rfl,fun hl=>⟨by omega,n-(q+1),by omega,q+1,by omega,by omega,rfl,?_,by omega,.inr (by omega),GN⟩,fun hl=>⟨q,rfl,?_,h0,h1,GN⟩⟩
    · exact(tM (p:=fun x=>!aK d[a]! x) (by omega) (by show(!aK d[a]! d[q]!)=true;rw[hl];rfl)).symm.trans he
    · rw[← he,jn (fun h=>hl (by simpa using h.2))]
  · rw[← he,jn (fun h=>ET (by omega))]
theorem downE{w W:World}{g ge n c a i j0:Nat}{d:Array Edge}(hs:St w W g ge n c d)(ha:a<n)(hj:j0<n)(hn:n<=2^30)(hi:1<=i):
    ∃ I:Nat->Int->World->Prop,(∃ k:Nat,I k (j0:Int) W)/\∀(m:Nat)(j:Int)(wv:World),I m j wv->(((i:Int)<=j->(wv.cell? ⟨w.heap.size,0,none⟩=some (fw ge)/\Calls P 64 #[.int .i64 (a:Int),.int .i64 j,.pointer (some ⟨ge,0,none⟩)] wv fun ev w'=>∃ x:Bool,ev=.returned (.bool x)/\((x=true->((-9223372036854775808<=j-1/\j-1<=9223372036854775807)/\∃ m1:Nat,m1<m/\I m1 (j-1) w'))/\(x=false->sJ w g ge n c d (fun x=>aK d[a]! x) i j0 j w'))))/\(¬ (i:Int)<=j->sJ w g ge n c d (fun x=>aK d[a]! x) i j0 j wv)):=by
  refine⟨fun m j W=>∃ q:Nat,j=(q:Int)/\q<=j0/\q=m/\Go.Sort.scanDown (fun x=>aK d[a]! x) d i q=Go.Sort.scanDown (fun x=>aK d[a]! x) d i j0/\(q=j0∨i<=q+1)/\St w W g ge n c d,
    ⟨_,j0,rfl,Nat.le_refl _,rfl,rfl,.inl rfl,hs⟩,?_⟩
  rintro m j wv ⟨q,rfl,hq,rfl,he,h1,hw⟩;refine⟨fun DQ=>⟨hw.c0,(hw.less (i:=(a:Int)) (j:=(q:Int)) (by omega) (by omega)).mono fun ev w' hh=>?_⟩,fun ET=>⟨q,rfl,?_,hq,h1,hw⟩⟩
  · obtain⟨rfl,GN⟩:=hh;have tq:(q:Int).toNat=q:=by omega
    have ta:(a:Int).toNat=a:=by omega
    rw[tq,ta];refine⟨_,rfl,fun hl=>?_,fun hl=>⟨q,rfl,?_,hq,h1,GN⟩⟩
    · obtain⟨q,rfl⟩:∃ q',q=q'+1:=⟨q-1,by omega⟩;refine⟨by omega,q,by omega,q,by omega,by omega,rfl,?_,.inr (by omega),GN⟩;rw[← he,pC (by omega) hl]
    · rw[← he,ii (fun h=>by rw[hl]at h;cases h.2)]
  · rw[← he,ii (fun h=>ET (by omega))]
theorem xW {w:World} {g ge n c a b pivot:Nat} {d:Array Edge} (h:iU w g ge n c d) (ha:a<=pivot) (hp:pivot<b) (hb:b<=n) (hn:n<=2^30) :
    Calls P 148 #[jc g ge n c,.int .i64 a,.int .i64 b,.int .i64 pivot] w fun ev w'=>ev=.returned (.tuple #[.int .i64 ((Go.Sort.partition aK d a b pivot).1:Int),.bool (Go.Sort.partition aK d a b pivot).2.1])/\iU w' g ge n c (Go.Sort.partition aK d a b pivot).2.2/\Kp w w' (fun k=>k=g):=by
  apply vc148s;dsimp only[VC148s,fP,rt,Br,Bb,cB,nb,iq]
  try simp only[aG]
  have EF:=St.start h;have ta:(a:Int).toNat=a:=by omega
  have tp:(pivot:Int).toNat=pivot:=by omega
  obtain⟨w1,e1,EK⟩:=EF.swap (i:=(a:Int)) (j:=(pivot:Int)) (by omega) (by omega);rw[ta,tp]at EK;have ea:(a:Int)+1=((a+1:Nat):Int):=by omega
  have eb:(b:Int)-1=((b-1:Nat):Int):=by omega
  rw[ea,eb];obtain⟨d1,Pt⟩:∃ d1,d1=Go.Sort.swp d a pivot:=⟨_,rfl⟩;rw[← Pt]at EK;have Fa:Go.Sort.partition aK d a b pivot=(let i:=Go.Sort.scanUp (fun x=>aK x d1[a]!) d1 (b-1) (a+1);let j:=Go.Sort.scanDown (fun x=>!aK x d1[a]!) d1 i (b-1);if i>j then(j,true,Go.Sort.swp d1 j a) else
    let r:=Go.Sort.partLoop aK a (i+1) (j-1) (Go.Sort.swp d1 i j)
    (r.1,false,Go.Sort.swp r.2 r.1 a)):=by rw[Pt];rfl
  refine⟨EF.c1,w1,e1,by omega,by omega,Dz w g ge n c d1 (fun x=>aK x d1[a]!) (b-1) (a+1),upP EK (by omega) (by omega) hn (by omega),?_⟩;rintro i W ⟨i1,rfl,Rw,KV,Tl,ES⟩;refine⟨sJ w g ge n c d1 (fun x=>!aK x d1[a]!) i1 (b-1),Dc ES (by omega) (by omega) hn (by omega),?_⟩;rintro j W2 ⟨j1,rfl,Np,KU,Tj,EA⟩;simp only at Fa;rw[← Rw,← Np]at Fa;have ti1:(i1:Int).toNat=i1:=by omega
  have tj1:(j1:Int).toNat=j1:=by omega
  refine⟨fun ET=>?_,fun DQ=>?_⟩
  · rw[if_pos (by omega)]at Fa;obtain⟨w4,q1,DS⟩:=EA.swap (i:=(j1:Int)) (j:=(a:Int)) (by omega) (by omega);rw[tj1,ta]at DS;rw[Fa];exact⟨EA.c1,w4,q1,by trivial,DS.s,DS.k⟩
  · rw[if_neg (by omega)]at Fa;obtain⟨w4,q1,DS⟩:=EA.swap (i:=(i1:Int)) (j:=(j1:Int)) (by omega) (by omega);rw[ti1,tj1]at DS;obtain⟨r,hr⟩:∃ r,r=Go.Sort.partLoop aK a (i1+1) (j1-1) (Go.Sort.swp d1 i1 j1):=⟨_,rfl⟩;rw[← hr]at Fa;refine⟨EA.c1,w4,q1,by omega,by omega,fun j W=>∃(q:Nat),j=(q:Int)/\q=r.1/\a<=q/\q<n/\St w W g ge n c r.2,⟨fun m i j W=>∃(i2 j2:Nat)(d2:Array Edge),i=(i2:Int)/\j=(j2:Int)/\a+1<=i2/\i2<=n/\a<=j2/\j2<n/\j2=m/\St w W g ge n c d2/\Go.Sort.partLoop aK a i2 j2 d2=r,
      ⟨_,i1+1,j1-1,_,by omega,by omega,by omega,by omega,by omega,by omega,rfl,DS,hr.symm⟩,?_⟩,?_⟩
    · rintro m i j W5 ⟨i2,j2,d2,rfl,rfl,k1,k2,k3,k4,rfl,Fx,hl⟩;rw[Go.Sort.partLoop_eq]at hl;refine⟨Dz w g ge n c d2 (fun x=>aK x d2[a]!) j2 i2,upP Fx (by omega) (by omega) hn (by omega),?_⟩;rintro i W6 ⟨i3,rfl,Nt,Rv,Ru,MI⟩;refine⟨sJ w g ge n c d2 (fun x=>!aK x d2[a]!) i3 j2,Dc MI (by omega) (by omega) hn (by omega),?_⟩;rintro j W7 ⟨j3,rfl,Nn,Rq,Rp,GD⟩
      try simp only at hl
      rw[← Nt,← Nn]at hl;have ti3:(i3:Int).toNat=i3:=by omega
      have tj3:(j3:Int).toNat=j3:=by omega
      refine⟨fun ET=>⟨j3,rfl,?_,by omega,by omega,?_⟩,fun DQ=>?_⟩
      · rw[if_pos (by omega)]at hl;rw[← hl]
      · rw[if_pos (by omega)]at hl;rw[← hl];exact GD
      · rw[if_neg (by omega)]at hl;obtain⟨w8,q2,Gg⟩:=GD.swap (i:=(i3:Int)) (j:=(j3:Int)) (by omega) (by omega);rw[ti3,tj3]at Gg;exact⟨GD.c1,w8,q2,by omega,by omega,j3-1,by omega,i3+1,j3-1,_,by omega,by omega,by omega,by omega,by omega,by omega,rfl,Gg,hl⟩
    · rintro j W8 ⟨q,rfl,hq,ka,kn,Gg⟩;obtain⟨w9,q2,JB⟩:=Gg.swap (i:=(q:Int)) (j:=(a:Int)) (by omega) (by omega);have tq:(q:Int).toNat=q:=by omega
      rw[tq,ta]at JB;rw[Fa,← hq];exact⟨Gg.c1,w9,q2,by trivial,JB.s,JB.k⟩
theorem uN{w:World}{g ge n c a b pivot:Nat}{d:Array Edge}(h:iU w g ge n c d)(ha:a<=pivot)(hp:pivot<b)(hb:b<=n)(hn:n<=2^30):
    Calls P 147 #[jc g ge n c,.int .i64 a,.int .i64 b,.int .i64 pivot] w fun ev w'=>ev=.returned (.int .i64 ((Go.Sort.partitionEqual aK d a b pivot).1:Int))/\iU w' g ge n c (Go.Sort.partitionEqual aK d a b pivot).2/\Kp w w' (fun k=>k=g):=by
  apply vc147s;dsimp only[VC147s,fP,Br,Bb,cB,nb,iq]
  try simp only[aG]
  have EF:=St.start h;have ta:(a:Int).toNat=a:=by omega
  have tp:(pivot:Int).toNat=pivot:=by omega
  obtain⟨w1,e1,EK⟩:=EF.swap (i:=(a:Int)) (j:=(pivot:Int)) (by omega) (by omega);rw[ta,tp]at EK;obtain⟨r,hr⟩:∃ r,r=Go.Sort.partitionEqual aK d a b pivot:=⟨_,rfl⟩;rw[← hr];unfold Go.Sort.partitionEqual at hr;refine⟨EF.c1,w1,e1,by omega,by omega,fun i W=>i=(r.1:Int)/\St w W g ge n c r.2,⟨fun m i j W=>∃(i2 j2:Nat)(d2:Array Edge),i=(i2:Int)/\j=(j2:Int)/\a+1<=i2/\i2<=n/\a<=j2/\j2<n/\j2=m/\St w W g ge n c d2/\Go.Sort.partEqLoop aK a i2 j2 d2=r,
    ⟨_,a+1,b-1,_,by omega,by omega,by omega,by omega,by omega,by omega,rfl,EK,hr.symm⟩,?_⟩,?_⟩
  · rintro m i j W5 ⟨i2,j2,d2,rfl,rfl,k1,k2,k3,k4,rfl,Fx,hl⟩;rw[Go.Sort.partEqLoop_eq]at hl;refine⟨Dz w g ge n c d2 (fun x=>!aK d2[a]! x) j2 i2,upE Fx (by omega) (by omega) hn (by omega),?_⟩;rintro i W6 ⟨i3,rfl,Nt,Rv,Ru,MI⟩;refine⟨sJ w g ge n c d2 (fun x=>aK d2[a]! x) i3 j2,downE MI (by omega) (by omega) hn (by omega),?_⟩;rintro j W7 ⟨j3,rfl,Nn,Rq,Rp,GD⟩
    try simp only at hl
    rw[← Nt,← Nn]at hl;have ti3:(i3:Int).toNat=i3:=by omega
    have tj3:(j3:Int).toNat=j3:=by omega
    refine⟨fun ET=>⟨?_,?_⟩,fun DQ=>?_⟩
    · rw[if_pos (by omega)]at hl;rw[← hl]
    · rw[if_pos (by omega)]at hl;rw[← hl];exact GD
    · rw[if_neg (by omega)]at hl;obtain⟨w8,q2,Gg⟩:=GD.swap (i:=(i3:Int)) (j:=(j3:Int)) (by omega) (by omega);rw[ti3,tj3]at Gg;exact⟨GD.c1,w8,q2,by omega,by omega,j3-1,by omega,i3+1,j3-1,_,by omega,by omega,by omega,by omega,by omega,by omega,rfl,Gg,hl⟩
  · rintro i W ⟨rfl,JB⟩;exact⟨by trivial,JB.s,JB.k⟩
theorem jG:Go.Sort.SWO aK where
 irrefl:=fun x=>by simp[aK]
 trans:=fun x y z h k=>lw h k
 ntrans:=fun x y z h k=>by
  rw[Bool.eq_false_iff]at h k ⊢;intro hh;rw[Ne,dI]at h k;rw[dI]at hh;omega
theorem sS{w:World}{g ge n c a b:Nat}{d:Array Edge}(h:iU w g ge n c d)(Hc:a<b)(hb:b<=n)(hn:n<50):
    Calls P 146 #[jc g ge n c,.int .i64 a,.int .i64 b] w fun ev w'=>∃ r:Bool,ev=.returned (.bool r)/\iU w' g ge n c d/\Kp w w' (fun k=>k=g)/\(r=true->Go.Sort.SortedIn aK a b d):=by
  apply vc146s;dsimp only[VC146s,fP,rb,Br,cB,nb,iq]
  try simp only[aG]
  refine⟨by omega,fun m i j W=>i=((a+1:Nat):Int)/\j=0/\St w W g ge n c d,⟨0,by omega,rfl,St.start h⟩,?_⟩;rintro m i j w1 ⟨rfl,rfl,hs⟩;refine⟨fun _=>?_,fun DK=>absurd (by omega) DK⟩;refine⟨fun i W=>∃ q:Nat,i=(q:Int)/\a+1<=q/\q<=b/\St w W g ge n c d/\Go.Sort.SortedIn aK a q d,⟨fun m i W=>∃ q:Nat,i=(q:Int)/\a+1<=q/\q<=b/\m=b-q/\St w W g ge n c d/\Go.Sort.SortedIn aK a q d,⟨_,a+1,rfl,by omega,by omega,rfl,hs,fun i j h1 h2 h3=>by omega⟩,?_⟩,?_⟩
  · rintro m i w2 ⟨q,rfl,h1,h2,rfl,ES,Fj⟩;refine⟨fun DF=>⟨ES.c0,by omega,(ES.less (i:=(q:Int)) (j:=(q:Int)-1) (by omega) (by omega)).mono fun ev w3 hh=>?_⟩,fun _=>⟨q,rfl,h1,h2,ES,Fj⟩⟩;obtain⟨rfl,EA⟩:=hh;have tq:(q:Int).toNat=q:=by omega
    have tq1:((q:Int)-1).toNat=q-1:=by omega
    rw[tq,tq1];exact⟨_,rfl,fun hl=>⟨by omega,b-(q+1),by omega,q+1,by omega,by omega,by omega,rfl,EA,Fj.snoc jG hl⟩,fun _=>⟨q,rfl,h1,h2,EA,Fj⟩⟩
  · rintro i w3 ⟨q,rfl,h1,h2,EA,Fj⟩;refine⟨fun he=>⟨true,rfl,EA.s,EA.k,fun _=>?_⟩,fun DJ=>⟨by omega,fun _=>⟨false,rfl,EA.s,EA.k,fun h=>by cases h⟩,fun Oq=>absurd (by omega) Oq⟩⟩;have:q=b:=by omega
    rw[← this];exact Fj
theorem kh{w:World}{g ge n c a b gs:Nat}{s:Int}{d:Array Edge}(h:iU w g ge n c d)(ha:a<n)(hb:b<n)(hs:w.heap[gs]?=some (.cells #[.int .i64 s] 3 (0,0)))(hr:0<=s/\s<=1000):
    Calls P 186 #[jc g ge n c,.int .i64 a,.int .i64 b,.pointer (some ⟨gs,0,none⟩)] w fun ev w'=>∃(x y:Nat)(s':Int),ev=.returned (.tuple #[.int .i64 x,.int .i64 y])/\((x=a/\y=b)∨(x=b/\y=a))/\(0<=s'/\s'<=s+1)/\w'.heap[gs]?=some (.cells #[.int .i64 s'] 3 (0,0))/\Kp w w' (fun k=>k=gs):=by
  apply vc186s;dsimp only[VC186s,fP,rt,Wt,Bb,Rd,cB,nb,iq]
  try simp only[aG]
  have EF:=St.start h;have g0:=World.grownBy_alloc w (.cells #[fw ge,iX g n c] 159) none;refine⟨EF.c0,(pM EF.s (i:=b) (j:=a) hb ha).mono fun ev w1 hh=>?_⟩;obtain⟨rfl,g1⟩:=hh;have Fw:=aB g0 g1;have b1:=aE hs Fw;have K1:Kp w w1 (fun k=>k=gs):=Kp.of_none Fw;refine⟨_,rfl,fun _=>⟨_,rfl,_,aA b1 0,by omega,_,rfl,⟨_,aA b1 0⟩,aC b1 0,b,a,s+1,rfl,.inr ⟨rfl,rfl⟩,by omega,?_,cv K1 rfl⟩,fun _=>⟨a,b,s,rfl,.inl ⟨rfl,rfl⟩,by omega,b1,K1⟩⟩;simpa using aF b1 0 (.int .i64 (s+1))
theorem iU.apart{w w':World}{g ge n c gs:Nat}{s:Value}{t:TypeId}{d:Array Edge}(h:iU w g ge n c d)(hs:w.heap[gs]?=some (.cells #[s] t (0,0)))(h1:t≠45)(h2:t≠40)(hk:Kp w w' (fun k=>k=gs)):iU w' g ge n c d:=by
 refine h.kp hk (fun e=>?_) (fun e=>?_)
 ·obtain⟨cur,e1,_⟩:=h.blk;rw[← e,e1]at hs;cases hs;exact h1 rfl
 ·rw[← e,h.env]at hs;cases hs;exact h2 rfl
theorem uV{w:World}{g ge n c a b m gs:Nat}{s:Int}{d:Array Edge}(h:iU w g ge n c d)(ha:a<n)(hb:b<n)(hm:m<n)(hs:w.heap[gs]?=some (.cells #[.int .i64 s] 3 (0,0)))(hr:0<=s/\s<=900):
    Calls P 173 #[jc g ge n c,.int .i64 a,.int .i64 b,.int .i64 m,.pointer (some ⟨gs,0,none⟩)] w fun ev w'=>∃(x:Nat)(s':Int),ev=.returned (.int .i64 x)/\(x=a∨x=b∨x=m)/\w'.heap[gs]?=some (.cells #[.int .i64 s'] 3 (0,0))/\Kp w w' (fun k=>k=gs):=by
  apply vc173s;dsimp only[VC173s,fP,nb,iq]
  try simp only[aG]
  have EF:=St.start h;have g0:=World.grownBy_alloc w (.cells #[fw ge,iX g n c] 159) none;have hl:=(Array.getElem?_eq_some_iff.1 hs).1;have t1:3≠45:=by decide
  have t2:3≠40:=by decide
  have cell:∀ W,Kp (w.alloc (.cells #[fw ge,iX g n c] 159)) W (fun k=>k=gs)->W.heap[w.heap.size]?=some (.cells #[fw ge,iX g n c] 159 (0,0)):=fun W hk=>by
    rw[hk.block w.heap.size (Array.getElem?_eq_some_iff.1 EF.b).1 (by omega)];exact EF.b
  refine⟨EF.c0,EF.c1,(kh EF.s ha hb (aE hs g0) (by omega)).mono fun ev w1 hh=>?_⟩;obtain⟨x1,y1,s1,rfl,h1,r1,b1,k1⟩:=hh;have S1:=EF.s.apart (aE hs g0) t1 t2 k1;refine⟨_,_,rfl,aA (cell _ k1) 0,aA (cell _ k1) 1,(kh S1 (a:=y1) (b:=m) (by omega) hm b1 (by omega)).mono fun ev w2 hh=>?_⟩;obtain⟨x2,y2,s2,rfl,h2,r2,b2,k2⟩:=hh;have S2:=S1.apart b1 t1 t2 k2;have k12:=k1.then k2 (fun _ _ e=>e);refine⟨_,_,rfl,aA (cell _ k12) 0,aA (cell _ k12) 1,(kh S2 (a:=x1) (b:=x2) (by omega) (by omega) b2 (by omega)).mono fun ev w3 hh=>?_⟩;obtain⟨x3,y3,s3,rfl,h3,r3,b3,k3⟩:=hh;exact⟨_,_,rfl,y3,s3,rfl,by omega,b3,(Kp.of_none g0).then (k12.then k3 (fun _ _ e=>e)) (fun _ _ e=>e)⟩
theorem vR{w:World}{g ge n c a b:Nat}{d:Array Edge}(h:iU w g ge n c d)(Hc:a<b)(hb:b<=n)(hn:n<50):
    Calls P 144 #[jc g ge n c,.int .i64 a,.int .i64 b] w fun ev w'=>∃(p:Nat)(I0:Int),ev=.returned (.tuple #[.int .i64 p,.int .i64 I0])/\a<=p/\p<b/\w.grownBy w' none:=by
  apply vc144s;dsimp only[VC144s,fP,rt,Br,Rd,cI,nb,iq]
  try simp only[aG]
  have EF:=St.start h;have g0:=World.grownBy_alloc w (.cells #[fw ge,iX g n c] 159) none;obtain⟨w0,FN⟩:∃ w0,w0=w.alloc (.cells #[fw ge,iX g n c] 159):=⟨_,rfl⟩;rw[← FN]at EF g0 ⊢;have g1:=World.grownBy_alloc w0 (.cells #[.int .i64 0] 3) none;have b1:(w0.alloc (.cells #[.int .i64 0] 3)).heap[w0.heap.size]?=some (.cells #[.int .i64 0] 3 (0,0)):=heap_alloc_new w0 _;obtain⟨w1,Ez⟩:∃ w1,w1=w0.alloc (.cells #[.int .i64 0] 3):=⟨_,rfl⟩;rw[← Ez]at b1 g1 ⊢;have EK:=EF.kept g1;have l0:w.heap.size<w0.heap.size:=(Array.getElem?_eq_some_iff.1 EF.b).1;have Fw:=aB g0 g1;have e0:(b:Int)-(a:Int)=((b-a:Nat):Int):=by omega
  rw[e0];refine⟨by omega,by omega,by omega,by omega,by omega,by omega,by omega,by omega,by omega,by omega,fun j W=>∃(p:Nat)(s:Int),j=(p:Int)/\a<=p/\p<b/\W.heap[w0.heap.size]?=some (.cells #[.int .i64 s] 3 (0,0))/\w.grownBy W none,⟨fun h8=>⟨fun Oq=>absurd Oq (by omega),fun _=>⟨EK.c0,EK.c1,?_⟩⟩,fun h8=>⟨a+(b-a) / 4*2,0,by omega,by omega,by omega,b1,Fw⟩⟩,?_⟩
  · have q1:(a:Int)+((b-a:Nat):Int) / 4*1=((a+(b-a) / 4*1:Nat):Int):=by omega
    have q2:(a:Int)+((b-a:Nat):Int) / 4*2=((a+(b-a) / 4*2:Nat):Int):=by omega
    have q3:(a:Int)+((b-a:Nat):Int) / 4*3=((a+(b-a) / 4*3:Nat):Int):=by omega
    rw[q1,q2,q3];refine(uV EK.s (by omega) (by omega) (by omega) b1 (by omega)).mono fun ev w2 hh=>?_;obtain⟨x,s',rfl,hx,b2,k2⟩:=hh;exact⟨_,rfl,x,s',rfl,by omega,by omega,b2,((Kp.of_none (S:=fun k=>k=w0.heap.size) Fw).then k2 (fun _ _ e=>e)).grown (fun k hk e=>by omega)⟩
  · rintro j W ⟨p,s,rfl,Gq,EG,b3,g3⟩;exact⟨_,aA b3 0,fun i q W'=>i=(p:Int)/\W'=W,⟨fun _=>⟨p,_,rfl,Gq,EG,g3⟩,fun _=>⟨fun _=>⟨p,_,rfl,Gq,EG,g3⟩,fun _=>⟨p,_,rfl,Gq,EG,g3⟩⟩⟩,fun i q W' hW=>by obtain⟨rfl,rfl⟩:=hW;exact⟨p,_,rfl,Gq,EG,g3⟩⟩
theorem sR{w:World}{g ge n c a b:Nat}{d:Array Edge}(h:iU w g ge n c d)(Hc:a<b)(hb:b<=n)(hn:n<=2^30):
    Calls P 145 #[jc g ge n c,.int .i64 a,.int .i64 b] w fun ev w'=>ev=.returned (.tuple #[])/\∃ d',iU w' g ge n c d'/\Kp w w' (fun k=>k=g)/\Go.Sort.PermIn a b d d':=by
  apply vc145s;dsimp only[VC145s,fP,rt,Br,nb,iq]
  try simp only[aG]
  refine⟨by omega,fun m i j W=>∃(p q:Nat)(d':Array Edge),i=(p:Int)/\j=(q:Int)/\a<=p/\p<=n/\q<b/\m=n-p/\St w W g ge n c d'/\Go.Sort.PermIn a b d d',
    ⟨_,a,b-1,d,by omega,by omega,by omega,by omega,by omega,rfl,St.start h,Go.Sort.permIn_refl _ _ _⟩,?_⟩
  rintro m i j w1 ⟨p,q,d',rfl,rfl,h1,h2,h3,rfl,hs,hp⟩;refine⟨fun DF=>?_,fun _=>⟨by trivial,d',hs.s,hs.k,hp⟩⟩;obtain⟨w2,e1,ES⟩:=hs.swap (i:=(p:Int)) (j:=(q:Int)) (by omega) (by omega);have tp:(p:Int).toNat=p:=by omega
  have tq:(q:Int).toNat=q:=by omega
  rw[tp,tq]at ES;have Ff:=hs.s.sz;exact⟨hs.c1,w2,e1,by omega,by omega,n-(p+1),by omega,p+1,q-1,_,by omega,by omega,by omega,by omega,by omega,rfl,ES,Go.Sort.permIn_trans _ _ _ _ _ hp (Go.Sort.swp_permIn _ _ _ _ _ h1 (by omega) (by omega) h3 (by omega))⟩
theorem yS(x:Int)(m:Nat)(hm:m<2^64):0<=dC .and .u64 x (m:Int)/\dC .and .u64 x (m:Int)<=m:=by
 have e2:(BitVec.ofInt 64 (m:Int)).toNat=m:=cP hm;have DQ:=Nat.and_le_right (n:=(BitVec.ofInt 64 x).toNat) (m:=m);have e:dC .and .u64 x (m:Int)=(((BitVec.ofInt 64 x).toNat &&& m:Nat):Int):=by
  show IntKind.u64.wrap (((BitVec.ofInt 64 x &&& BitVec.ofInt 64 (m:Int)).toNat:Nat):Int)=_;rw[BitVec.toNat_and,e2];exact er (k:=.u64) (show 0<=_/\_<=(18446744073709551615:Int) by omega)
 rw[e];omega
theorem x9{w:World}{gr:Nat}{x:Int}(hb:w.heap[gr]?=some (.cells #[.int .u64 x] 243 (0,0))):
    Calls P 171 #[.pointer (some ⟨gr,0,none⟩)] w fun ev w'=>∃ y:Int,ev=.returned (.int .u64 y)/\w'.heap[gr]?=some (.cells #[.int .u64 y] 243 (0,0))/\Kp w w' (fun k=>k=gr):=by
  apply vc171;dsimp only[VC171,Wt,Rd];have b0:=aE hb (aI (aD w none));have K0:Kp w w.drew (fun k=>k=gr):=Kp.of_none (aI (aD w none));refine⟨_,rfl,_,aA b0 0,_,rfl,_,aA b0 0,by omega,_,rfl,⟨_,aA b0 0⟩,aC b0 0,?_⟩;have b1:=aF b0 0 (.int .u64 (dC .xor .u64 x (IntKind.wrap .u64 (x*2^13))));have K1:Kp w (w.drew.setCell ⟨gr,0,none⟩ (.int .u64 (dC .xor .u64 x (IntKind.wrap .u64 (x*2^13))))) (fun k=>k=gr):=cv K0 rfl;obtain⟨w1,Ez⟩:∃ w1,w1=w.drew.setCell ⟨gr,0,none⟩ (.int .u64 (dC .xor .u64 x (IntKind.wrap .u64 (x*2^13)))):=⟨_,rfl⟩;rw[← Ez]at b1 K1 ⊢;obtain⟨x1,ID⟩:∃ x1,x1=dC .xor .u64 x (IntKind.wrap .u64 (x*2^13)):=⟨_,rfl⟩;have b1':w1.drew.heap[gr]?=some (.cells #[.int .u64 x1] 243 (0,0)):=by rw[ID];have:=aE b1 (aI (aD w1 none));simpa using this
  have K1':=K1.drew;refine⟨_,rfl,_,aA b1' 0,_,rfl,_,aA b1' 0,by omega,_,rfl,⟨_,aA b1' 0⟩,aC b1' 0,?_⟩;have b2:=aF b1' 0 (.int .u64 (dC .xor .u64 x1 (x1 / 2^7)));have K2:Kp w (w1.drew.setCell ⟨gr,0,none⟩ (.int .u64 (dC .xor .u64 x1 (x1 / 2^7)))) (fun k=>k=gr):=cv K1' rfl;obtain⟨w2,FM⟩:∃ w2,w2=w1.drew.setCell ⟨gr,0,none⟩ (.int .u64 (dC .xor .u64 x1 (x1 / 2^7))):=⟨_,rfl⟩;rw[← FM]at b2 K2 ⊢;obtain⟨x2,LQ⟩:∃ x2,x2=dC .xor .u64 x1 (x1 / 2^7):=⟨_,rfl⟩;have b2':w2.drew.heap[gr]?=some (.cells #[.int .u64 x2] 243 (0,0)):=by rw[LQ];have:=aE b2 (aI (aD w2 none));simpa using this
  have K2':=K2.drew;refine⟨_,rfl,_,aA b2' 0,_,rfl,_,aA b2' 0,by omega,_,rfl,⟨_,aA b2' 0⟩,aC b2' 0,?_⟩;have b3:=aF b2' 0 (.int .u64 (dC .xor .u64 x2 (IntKind.wrap .u64 (x2*2^17))));refine⟨_,rfl,_,aA b3 0,_,rfl,by simpa using b3,cv K2' rfl⟩
theorem xT{w:World}{v:Nat}(hv:v<2^40):Calls P 170 #[.int .i64 (v:Int)] w fun ev w'=>ev=.returned (.int .u64 ((2^blen v:Nat):Int))/\w'=w:=by
 apply vc170;dsimp only[VC170,cI]
 try simp only[aG]
 refine⟨by omega,?_⟩;apply vc102;dsimp only[VC102,cI,iq];refine(iz (by omega)).mono fun ev w1 hh=>?_;obtain⟨rfl,rfl⟩:=hh;have hl:=mB (v:=v) (k:=40) hv;have tl:((blen v:Nat):Int).toNat=blen v:=by omega
 have hm:min (blen v) 64=blen v:=by omega
 have hp:=Nat.pow_le_pow_right (n:=2) (by omega) hl;have e:(1:Int)*2^blen v=((2^blen v:Nat):Int):=by simp
 obtain⟨M,hM⟩:∃ M:Nat,M=2^blen v:=⟨_,rfl⟩;rw[← hM]at e hp ⊢;refine⟨_,rfl,_,rfl,by omega,?_⟩;rw[tl,hm,e];exact⟨⟨by omega,by omega,by omega⟩,by trivial,rfl⟩
theorem xb{w:World}{g ge n c a b:Nat}{d:Array Edge}(h:iU w g ge n c d)(Hc:a<b)(hb:b<=n)(hn:n<=2^30):
    Calls P 143 #[jc g ge n c,.int .i64 a,.int .i64 b] w fun ev w'=>ev=.returned (.tuple #[])/\∃ d',iU w' g ge n c d'/\Kp w w' (fun k=>k=g)/\Go.Sort.PermIn a b d d':=by
  apply vc143s;dsimp only[VC143s,fP,rt,Wt,Br,cI,nb,iq]
  try simp only[aG]
  have EF:=St.start h;have g0:=World.grownBy_alloc w (.cells #[fw ge,iX g n c] 159) none;obtain⟨w0,FN⟩:∃ w0,w0=w.alloc (.cells #[fw ge,iX g n c] 159):=⟨_,rfl⟩;rw[← FN]at EF g0 ⊢;have e0:(b:Int)-(a:Int)=((b-a:Nat):Int):=by omega
  rw[e0];have l0:w.heap.size<w0.heap.size:=(Array.getElem?_eq_some_iff.1 EF.b).1;refine⟨by omega,fun h8=>?_,fun _=>⟨by trivial,d,EF.s,EF.k,Go.Sort.permIn_refl _ _ _⟩⟩;have g1:=World.grownBy_alloc w0 (.cells #[.int .u64 0] 243) none;have b1:(w0.alloc (.cells #[.int .u64 0] 243)).heap[w0.heap.size]?=some (.cells #[.int .u64 0] 243 (0,0)):=heap_alloc_new w0 _;obtain⟨w1,Ez⟩:∃ w1,w1=w0.alloc (.cells #[.int .u64 0] 243):=⟨_,rfl⟩;rw[← Ez]at b1 g1 ⊢;have b2:=aF b1 0 (.int .u64 ((b-a:Nat):Int));have k2:Kp w0 (w1.setCell ⟨w0.heap.size,0,none⟩ (.int .u64 ((b-a:Nat):Int))) (fun k=>k=w0.heap.size):=cv (Kp.of_none g1) rfl;refine⟨by omega,⟨_,aA b1 0⟩,aC b1 0,(xT (v:=b-a) (by omega)).mono fun ev w2 hh=>?_⟩;obtain⟨rfl,rfl⟩:=hh;have ES:=EF.far k2 l0;obtain⟨w2,FM⟩:∃ w2,w2=w1.setCell ⟨w0.heap.size,0,none⟩ (.int .u64 ((b-a:Nat):Int)):=⟨_,rfl⟩;rw[← FM]at ES b2 ⊢;have Gb:=gm (b-a);have RT:=Gb.2 (by omega);have OV:2^blen (b-a)=2*2^(blen (b-a)-1):=by
    rw[← Nat.pow_succ',show(blen (b-a)-1).succ=blen (b-a) by omega]
  obtain⟨M,hM⟩:∃ M,M=2^blen (b-a):=⟨_,rfl⟩;rw[← hM]at OV Gb ⊢;have eM:(M:Int)-1=((M-1:Nat):Int):=by omega
  refine⟨_,rfl,?_⟩;rw[eM];refine⟨by omega,by omega,by omega,by omega,fun m i W=>∃(p:Nat)(d':Array Edge)(x:Int),i=(p:Int)/\a<=p/\p<=a+(b-a) / 4*2+2/\m=a+(b-a) / 4*2+2-p/\St w W g ge n c d'/\Go.Sort.PermIn a b d d'/\W.heap[w0.heap.size]?=some (.cells #[.int .u64 x] 243 (0,0)),
    ⟨_,a+(b-a) / 4*2-1,d,((b-a:Nat):Int),by omega,by omega,by omega,rfl,ES,Go.Sort.permIn_refl _ _ _,by simpa using b2⟩,?_⟩
  rintro m i w3 ⟨p,d',x,rfl,Gq,EG,rfl,EA,Ho,b3⟩;refine⟨by omega,by omega,by omega,by omega,fun DQ=>(x9 b3).mono fun ev w4 hh=>?_,fun _=>⟨by trivial,d',EA.s,EA.k,Ho⟩⟩;obtain⟨y,rfl,b4,k4⟩:=hh;have DS:=EA.far k4 l0;have hy:=yS y (M-1) (by omega);obtain⟨o,ho⟩:∃ o:Nat,dC .and .u64 y ((M-1:Nat):Int)=(o:Int):=⟨(dC .and .u64 y ((M-1:Nat):Int)).toNat,by omega⟩;rw[ho]at hy;have Ff:=DS.s.sz;have tp:(p:Int).toNat=p:=by omega
  have fin:∀(q:Nat)(j:Int),j=((a+q:Nat):Int)->q<b-a->∃ w5,Sem.run P (callFunc 134 #[.int .i64 p,.int .i64 j,.slice (some ⟨g,0,none⟩) n c,typeHandle P 45]) w4=.ok (.value (.tuple #[])) w5/\((-9223372036854775808<=(p:Int)+1/\(p:Int)+1<=9223372036854775807)/\∃ m_1:Nat,m_1<a+(b-a) / 4*2+2-p/\∃(p':Nat)(d':Array Edge)(x:Int),(p:Int)+1=(p':Int)/\a<=p'/\p'<=a+(b-a) / 4*2+2/\m_1=a+(b-a) / 4*2+2-p'/\St w w5 g ge n c d'/\Go.Sort.PermIn a b d d'/\w5.heap[w0.heap.size]?=some (.cells #[.int .u64 x] 243 (0,0))):=by
    rintro q j rfl hq;obtain⟨w5,e1,Fx,k5⟩:=qN DS.s (i:=p) (j:=a+q) (by omega) (by omega);refine⟨w5,e1,by omega,a+(b-a) / 4*2+2-(p+1),by omega,p+1,_,y,by omega,by omega,by omega,rfl,DS.then Fx k5,Go.Sort.permIn_trans _ _ _ _ _ Ho (Go.Sort.swp_permIn _ _ _ _ _ Gq (by omega) (by omega) (by omega) (by omega)),?_⟩;rw[k5.block _ (Array.getElem?_eq_some_iff.1 b4).1 (by have:=DS.l;omega)];exact b4
  refine⟨_,rfl,?_⟩;rw[ho];refine⟨by omega,by omega,fun DK=>?_,fun DF=>?_⟩
  · obtain⟨w5,e1,e2⟩:=fin (o-(b-a)) ((a:Int)+((o:Int)-((b-a:Nat):Int))) (by omega) (by omega);exact⟨by omega,DS.c1,by omega,w5,e1,e2⟩
  · obtain⟨w5,e1,e2⟩:=fin o ((a:Int)+(o:Int)) (by omega) (by omega);exact⟨DS.c1,by omega,w5,e1,e2⟩
def DA(w:World)(g ge n c a b:Nat)(d:Array Edge)(m:Nat)(a1 b1 lim:Int)(wb wp:Bool)(W:World):Prop :=
 ∃(p q l:Nat)(d1:Array Edge),a1=(p:Int)/\b1=(q:Int)/\lim=(l:Int)/\p<=q/\q<=n/\l<=100/\m=q-p/\q-p<=b-a/\St w W g ge n c d1/\Go.Sort.Below aK p q d1/\∀ R,Go.Sort.PermIn p q d1 R->Go.Sort.SortedIn aK p q R->Go.Sort.PermIn a b d R/\Go.Sort.SortedIn aK a b R
def AP(N:Nat):Prop:=∀(w:World)(g ge n c a b lim:Nat)(d:Array Edge),b-a<N->iU w g ge n c d->a<=b->b<=n->n<50->lim<=100->Go.Sort.Below aK a b d →
 Calls P 103 #[jc g ge n c,.int .i64 a,.int .i64 b,.int .i64 lim] w fun ev w'=>ev=.returned (.tuple #[])/\∃ d',iU w' g ge n c d'/\Kp w w' (fun k=>k=g)/\Go.Sort.PermIn a b d d'/\Go.Sort.SortedIn aK a b d'
theorem vS{w W:World}{g ge n c a b p q v l m:Nat}{d d3:Array Edge}(IH:AP (q-p))(hs:St w W g ge n c d3)(Ko:p<q)(hq:q<=n)(hn:n<50)(hl:l<=100)(hv:p<=v/\v<q)(hm:m=q-p)(Ic:q-p<=b-a)(hB:Go.Sort.Below aK p q d3)
    (hR:∀ R,Go.Sort.PermIn p q d3 R->Go.Sort.SortedIn aK p q R->Go.Sort.PermIn a b d R/\Go.Sort.SortedIn aK a b R) :
    W.cell? ⟨w.heap.size,0,none⟩=some (fw ge)/\(W.cell? ⟨w.heap.size,1,none⟩=some (iX g n c)/\(Calls P 148 #[jc g ge n c,.int .i64 (p:Int),.int .i64 (q:Int),.int .i64 (v:Int)] W fun ev wv=>∃ x95:Int,∃ x95_1:Bool,ev=.returned (.tuple #[.int .i64 x95,.bool x95_1])/\((-9223372036854775808<=x95-(p:Int)/\x95-(p:Int)<=9223372036854775807)/\((-9223372036854775808<=(q:Int)-x95/\(q:Int)-x95<=9223372036854775807)/\((0<=(q:Int)-(p:Int)/\0<(8:Int)/\(-9223372036854775808<=((q:Int)-(p:Int)) / 8/\((q:Int)-(p:Int)) / 8<=9223372036854775807)) ∧
      ((x95-(p:Int)<(q:Int)-x95->(wv.cell? ⟨w.heap.size,0,none⟩=some (fw ge)/\(wv.cell? ⟨w.heap.size,1,none⟩=some (iX g n c)/\(Calls P 103 #[jc g ge n c,.int .i64 (p:Int),.int .i64 x95,.int .i64 (l:Int)] wv fun ev wv14=>ev=.returned (.tuple #[])/\((-9223372036854775808<=x95+1/\x95+1<=9223372036854775807)/\(∃ m_1:Nat,m_1<m/\DA w g ge n c a b d m_1 (x95+1) (q:Int) (l:Int) (decide (x95-(p:Int)≥((q:Int)-(p:Int)) / 8)) x95_1 wv14)))))) ∧
       (¬ x95-(p:Int)<(q:Int)-x95->(wv.cell? ⟨w.heap.size,0,none⟩=some (fw ge)/\(wv.cell? ⟨w.heap.size,1,none⟩=some (iX g n c)/\((-9223372036854775808<=x95+1/\x95+1<=9223372036854775807)/\(Calls P 103 #[jc g ge n c,.int .i64 (x95+1),.int .i64 (q:Int),.int .i64 (l:Int)] wv fun ev wv15=>ev=.returned (.tuple #[])/\(∃ m_1:Nat,m_1<m/\DA w g ge n c a b d m_1 (p:Int) x95 (l:Int) (decide ((q:Int)-x95≥((q:Int)-(p:Int)) / 8)) x95_1 wv15)))))))))))):=by
  have Ff:=hs.s.sz;refine⟨hs.c0,hs.c1,(xW hs.s hv.1 hv.2 hq (by omega)).mono fun ev w4 hh=>?_⟩;obtain⟨mid,ap,d4,hx⟩:∃ mid ap d4,Go.Sort.partition aK d3 p q v=(mid,ap,d4):=⟨_,_,_,rfl⟩;rw[hx]at hh;obtain⟨rfl,s4,k4⟩:=hh;have DS:=hs.then s4 k4;obtain⟨r1,r2,r3,rB1,rB2,rL,rR⟩:=Go.Sort.round_part jG (Go.Sort.partition_holds aK) hv.1 hv.2 (by omega) hB hx;have e1:((mid:Nat):Int)+1=((mid+1:Nat):Int):=by omega
  refine⟨_,_,rfl,by omega,by omega,by omega,fun DF=>⟨DS.c0,DS.c1,(IH w4 g ge n c p mid l d4 (by omega) s4 r1 (by omega) hn hl rB1).mono fun ev w5 hh=>?_⟩,fun DK=>⟨DS.c0,DS.c1,by omega,?_⟩⟩
  · obtain⟨rfl,L,s5,k5,hp,Fj⟩:=hh;obtain⟨q1,q2⟩:=rL L hp Fj;exact⟨by trivial,by omega,q-(mid+1),by omega,mid+1,q,l,L,by omega,rfl,rfl,by omega,hq,hl,rfl,by omega,DS.then s5 k5,q1,fun R h1 h2=>by obtain⟨z1,z2⟩:=q2 R h1 h2;exact hR R z1 z2⟩
  · rw[e1];refine(IH w4 g ge n c (mid+1) q l d4 (by omega) s4 (by omega) hq hn hl rB2).mono fun ev w5 hh=>?_;obtain⟨rfl,L,s5,k5,hp,Fj⟩:=hh;obtain⟨q1,q2⟩:=rR L hp Fj;exact⟨by trivial,mid-p,by omega,p,mid,l,L,rfl,rfl,rfl,r1,by omega,hl,rfl,by omega,DS.then s5 k5,q1,fun R h1 h2=>by obtain⟨z1,z2⟩:=q2 R h1 h2;exact hR R z1 z2⟩
theorem AP.mono{N M:Nat}(h:AP N)(hm:M<=N):AP M:=fun w g ge n c a b lim d DF=>h w g ge n c a b lim d (by omega)
theorem Aa:∀ N,AP N:=by
 intro N
 induction N with
 | zero=>intro w g ge n c a b lim d h;omega
 | succ N ih =>
  intro w g ge n c a b lim d hN h Hc hb hn Nf hB;apply vc103s;dsimp only[VC103s,fP,rt,Br,Bb,cI,cB,cU,nb,iq]
  try simp only[aG]
  refine⟨DA w g ge n c a b d,⟨_,a,b,lim,d,rfl,rfl,rfl,Hc,hb,Nf,rfl,Nat.le_refl _,St.start h,hB,fun R h1 h2=>⟨h1,h2⟩⟩,?_⟩;rintro m a1 b1 lim1 wb wp w1 ⟨p,q,l,d1,rfl,rfl,rfl,Ko,hq,hl,rfl,Ic,hs,HT,hR⟩;have Ff:=hs.s.sz;refine⟨by omega,fun SI=>⟨hs.c0,hs.c1,(qo hs.s Ko hq (by omega)).mono fun ev w2 hh=>?_⟩,fun SI=>⟨fun h0=>⟨hs.c0,hs.c1,(ym hs.s (by omega) hq (by omega)).mono fun ev w2 hh=>?_⟩,fun h0=>?_⟩⟩
  ·obtain⟨rfl,s2,k2⟩:=hh;have hi:=Go.Sort.insertionSort_holds (lt:=aK) jG d1 p q Ko (by omega);obtain⟨z1,z2⟩:=hR _ hi.1 hi.2;exact⟨by trivial,by trivial,_,s2,(hs.then s2 k2).k,z1,z2⟩
  ·obtain⟨rfl,s2,k2⟩:=hh;have hi:=Go.Sort.heapSort_holds (lt:=aK) jG d1 p q Ko (by omega);obtain⟨z1,z2⟩:=hR _ hi.1 hi.2;exact⟨by trivial,by trivial,_,s2,(hs.then s2 k2).k,z1,z2⟩
  have DF:p<q:=by omega
  refine⟨fun lm W=>∃(l2:Nat)(d2:Array Edge),lm=(l2:Int)/\l2<=100/\St w W g ge n c d2/\Go.Sort.PermIn p q d1 d2,⟨fun _=>⟨hs.c0,hs.c1,(xb hs.s DF hq (by omega)).mono fun ev w2 hh=>?_⟩,fun _=>⟨l,d1,rfl,hl,hs,Go.Sort.permIn_refl _ _ _⟩⟩,?_⟩
  ·obtain⟨rfl,d2,s2,k2,EG⟩:=hh;exact⟨by trivial,by omega,l-1,d2,by omega,by omega,hs.then s2 k2,EG⟩
  rintro lm w3 ⟨l2,d2,rfl,Gi,EA,EG⟩;refine⟨EA.c0,EA.c1,(vR EA.s DF hq hn).mono fun ev w4 hh=>?_⟩;obtain⟨v0,I0,rfl,Hx,HV,g4⟩:=hh;have DS:=EA.kept g4;refine⟨_,_,rfl,fun pv I0 W=>∃(v:Nat)(d3:Array Edge),pv=(v:Int)/\p<=v/\v<q/\St w W g ge n c d3/\Go.Sort.PermIn p q d1 d3,⟨fun _=>⟨DS.c0,DS.c1,(sR DS.s DF hq (by omega)).mono fun ev w5 hh=>?_⟩,fun _=>⟨v0,d2,rfl,Hx,HV,DS,EG⟩⟩,?_⟩
  ·obtain⟨rfl,d3,s5,k5,IN⟩:=hh;exact⟨by trivial,by omega,by omega,by omega,q-1-(v0-p),d3,by omega,by omega,by omega,DS.then s5 k5,Go.Sort.permIn_trans _ _ _ _ _ EG IN⟩
  rintro pv Pf w5 ⟨v,d3,rfl,Hx,HV,Fx,IN⟩;have keep:∃ d3,St w w5 g ge n c d3/\Go.Sort.PermIn p q d1 d3:=⟨d3,Fx,IN⟩;refine⟨fun W=>∃ d3,St w W g ge n c d3/\Go.Sort.PermIn p q d1 d3,⟨fun _=>⟨fun _=>⟨fun _=>⟨Fx.c0,Fx.c1,(sS Fx.s DF hq hn).mono fun ev w6 hh=>?_⟩,fun _=>keep⟩,fun _=>keep⟩,fun _=>keep⟩,?_⟩
  ·obtain⟨r,rfl,s6,k6,Fj⟩:=hh;refine⟨_,rfl,fun hr=>?_,fun _=>⟨d3,Fx.then s6 k6,IN⟩⟩;obtain⟨z1,z2⟩:=hR _ IN (Fj hr);exact⟨by trivial,d3,s6,(Fx.then s6 k6).k,z1,z2⟩
  rintro w7 ⟨d5,GD,OY⟩;have FU:Go.Sort.Below aK p q d5:=HT.perm (by omega) OY;have QB:=GD.s.sz;have IH:AP (q-p):=ih.mono (by omega);have NY:∀ R,Go.Sort.PermIn p q d5 R->Go.Sort.SortedIn aK p q R->Go.Sort.PermIn a b d R/\Go.Sort.SortedIn aK a b R:=fun R h1 h2=>hR R (Go.Sort.permIn_trans _ _ _ _ _ OY h1) h2;refine⟨fun DZ=>⟨GD.c0,by omega,(GD.less (i:=(p:Int)-1) (j:=(v:Int)) (by omega) (by omega)).mono fun ev w8 hh=>?_⟩,fun _=>vS IH GD DF hq hn Gi ⟨Hx,HV⟩ rfl Ic FU NY⟩;obtain⟨rfl,Gg⟩:=hh;have tp:((p:Int)-1).toNat=p-1:=by omega
  have tv:(v:Int).toNat=v:=by omega
  rw[tp,tv];refine⟨_,rfl,fun Ih=>⟨Gg.c0,Gg.c1,(uN Gg.s Hx HV hq (by omega)).mono fun ev w9 hh=>?_⟩,fun _=>vS IH Gg DF hq hn Gi ⟨Hx,HV⟩ rfl Ic FU NY⟩;obtain⟨mid,d4,hx⟩:∃ mid d4,Go.Sort.partitionEqual aK d5 p q v=(mid,d4):=⟨_,_,rfl⟩;rw[hx]at hh;obtain⟨rfl,s9,k9⟩:=hh;obtain⟨r1,r2,r3,rB,rR⟩:=Go.Sort.round_eq jG (Go.Sort.partitionEqual_holds aK) (by omega) Hx HV (by omega) FU Ih hx;exact⟨_,rfl,q-mid,by omega,mid,q,l2,d4,rfl,rfl,rfl,r2,hq,Gi,rfl,by omega,Gg.then s9 k9,rB,fun R h1 h2=>by obtain⟨z1,z2⟩:=rR R h1 h2;exact NY R z1 z2⟩
theorem np:∃ i,P.info? 40=some i/\i.desc=.slice 45:=⟨(P.info? 40).get (by kernel_rfl),by kernel_rfl,by kernel_rfl⟩
theorem Az:∃ ie,P.info? 45=some ie/\ie.hasPointers=false/\ie.bytes=8/\∀ w,(Extern.Rtype.kind 45).run P w=.ok 25 w:=by
 refine⟨(P.info? 45).get (by kernel_rfl),by kernel_rfl,by kernel_rfl,by kernel_rfl,fun w=>?_⟩;obtain⟨ie,Iq⟩:∃ ie,P.info? 45=some ie:=⟨(P.info? 45).get (by kernel_rfl),by kernel_rfl⟩;have hd:(match P.info? 45 with | some ie=>(match ie.desc with | .named _ u=>(match P.info? u with | some iu=>(match iu.desc with | .struct _=>true | _=>false) | none=>false) | _=>false) | none=>false)=true:=by kernel_rfl
 rw[Iq]at hd;simp only at hd;split at hd
 ·rename_i nm u Lg;split at hd
  ·rename_i iu Rt;split at hd
   ·rename_i fs HZ;simp[Extern.Rtype.kind,Extern.Rtype.under,typeInfo,Iq,Lg,Rt,HZ,Result.andThen]
   ·cases hd
  ·cases hd
 ·cases hd
theorem kS(A:OA)(n c:Nat)(w:World):Sem.run P (callFunc 99 #[.iface 40 (.slice A n c)]) w=.ok (.value (.agg #[.pointer (some ⟨P.globals.size,40,none⟩),.pointer (some ⟨w.heap.size,0,none⟩),.int .u64 151])) (w.alloc (.cells #[.slice A n c] 40)):=by
 obtain⟨i,hi,hd⟩:=np;rw[run_callFunc_extern (P:=P) Tryz.func99 (by kernel_rfl) (by kernel_rfl) (by kernel_rfl) (e:=fun args=>Extern.ReflectliteValue.unpack (args.getD 0 (.tuple #[]))) (by kernel_rfl) _ w];have:=Lib.run_valueOf_slice (P:=P) 40 45 i hi hd A n c w;show((Extern.ReflectliteValue.unpack (.iface 40 (.slice A n c))).run P w).andThen _=_;rw[this];rfl
theorem uX{a:Addr}{A:OA}{n c:Nat}{w:World}(ha:w.cell? a=some (.slice A n c)):Sem.run P (callFunc 101 #[.agg #[.pointer (some ⟨P.globals.size,40,none⟩),.pointer (some a),.int .u64 151]]) w=.ok (.value (.int .i64 (n:Int))) w:=by
 obtain⟨i,hi,hd⟩:=np;rw [run_callFunc_extern (P := P) Tryz.func101 (by kernel_rfl) (by kernel_rfl) (by kernel_rfl) (e := Extern.ReflectliteValue.method (Extern.ReflectliteValue.valueError "reflectlite.Value.Len" 0) Extern.ReflectliteValue.len) (by kernel_rfl) _ w];have:=Lib.run_valueLen_slice (P:=P) 40 45 i hi hd (by kernel_rfl) a A n c w ha;show ((Extern.ReflectliteValue.method (Extern.ReflectliteValue.valueError "reflectlite.Value.Len" 0) Extern.ReflectliteValue.len #[.agg #[typeHandle P 40, .pointer (some a), .int .u64 151]]).run P w).andThen _ = _;rw[this];rfl
theorem kT {A : OA} {n c k f : Nat} {w : World} (hk : (if n = 0 then 1 else if n = 1 then 2 else 5) = k) (hf : P.funcs.findIdx? (·.name == "internal/reflectlite" ++ ".Swapper$" ++ toString k) = some f) :
    Sem.run P (callFunc 100 #[.iface 40 (.slice A n c)]) w=.ok (.value (.func (.func f) #[] (if k<=2 then #[] else #[.slice A n c,typeHandle P 45]))) w:=by
  obtain⟨i,hi,hd⟩:=np;obtain⟨ie,Iq,hp,hb,IY⟩:=Az;have OM:Lib.swapperK n ie 25=k:=by
    unfold Lib.swapperK;rw[hp,hb,← hk];by_cases h0:n=0
    · simp[h0]
    · by_cases h1:n=1
      · simp[h1]
      · simp[h0,h1]
  rw [run_callFunc_extern (P := P) Tryz.func100 (by kernel_rfl) (by kernel_rfl) (by kernel_rfl) (e := Extern.ReflectliteSwapper.swapper "internal/reflectlite" (Extern.ReflectliteValue.valueError "Swapper")) (by kernel_rfl) _ w];have:=Lib.run_swapper_slice (P:=P) 40 45 i ie hi hd Iq 25 IY A n c f (by rw[OM];exact hf) w;rw[this,OM];rfl
theorem vH{w:World}{g ge n c:Nat}{d:Array Edge}(h:iU w g ge n c d)(h2:2<=n)(hn:n<50):
    Calls P 63 #[.iface 40 (.slice (some ⟨g,0,none⟩) n c),fw ge] w fun ev w'=>ev=.returned (.tuple #[])/\∃ d',iU w' g ge n c d'/\Kp w w' (fun k=>k=g)/\Go.Sort.PermIn 0 n d d'/\Go.Sort.SortedIn aK 0 n d':=by
  apply vc63s (some ⟨g,0,none⟩) n c ⟨ge,0,none⟩ (some ⟨g,0,none⟩) n c (typeHandle P 45);dsimp only[VC63s,fP,rt,Wt,Rd,Ws,cI,cU,nb,iq]
  try simp only[aG]
  have g1:=World.grownBy_alloc w (.cells #[.slice (some ⟨g,0,none⟩) n c] 40) none;have b1:(w.alloc (.cells #[.slice (some ⟨g,0,none⟩) n c] 40)).heap[w.heap.size]?=some (.cells #[.slice (some ⟨g,0,none⟩) n c] 40 (0,0)):=heap_alloc_new w _;refine⟨_,_,_,_,kS _ _ _ w,?_⟩;obtain⟨w1,Ez⟩:∃ w1,w1=w.alloc (.cells #[.slice (some ⟨g,0,none⟩) n c] 40):=⟨_,rfl⟩;rw[← Ez]at g1 b1 ⊢;have s0:(w1.alloc (.cells #[.pointer none,.pointer none,.int .u64 0] 151)).heap[w1.heap.size]?=some (.cells #[.pointer none,.pointer none,.int .u64 0] 151 (0,0)):=heap_alloc_new w1 _;have s1:=aF s0 0 (.pointer (some ⟨P.globals.size,40,none⟩));have s2:=aF s1 1 (.pointer (some ⟨w.heap.size,0,none⟩));have s3:=aF s2 2 (.int .u64 151);have K3:Kp w1 ((((w1.alloc (.cells #[.pointer none,.pointer none,.int .u64 0] 151)).setCell ⟨w1.heap.size,0,none⟩ (.pointer (some ⟨P.globals.size,40,none⟩))).setCell ⟨w1.heap.size,1,none⟩ (.pointer (some ⟨w.heap.size,0,none⟩))).setCell ⟨w1.heap.size,2,none⟩ (.int .u64 151)) (fun k=>k=w1.heap.size):=cv (cv (cv (Kp.of_none (World.grownBy_alloc w1 _ none)) rfl) rfl) rfl;refine⟨⟨_,aA s0 0⟩,aC s0 0,⟨_,aA s1 1⟩,aC s1 1,⟨_,aA s2 2⟩,aC s2 2,?_⟩;have g3:=K3.grown (fun k hk e=>by omega);obtain⟨w3,Ep⟩:∃ w3,w3=(((w1.alloc (.cells #[.pointer none,.pointer none,.int .u64 0] 151)).setCell ⟨w1.heap.size,0,none⟩ (.pointer (some ⟨P.globals.size,40,none⟩))).setCell ⟨w1.heap.size,1,none⟩ (.pointer (some ⟨w.heap.size,0,none⟩))).setCell ⟨w1.heap.size,2,none⟩ (.int .u64 151):=⟨_,rfl⟩;rw[← Ep]at s3 g3 ⊢;have HY:=kT (A:=some ⟨g,0,none⟩) (n:=n) (c:=c) (k:=5) (f:=134) (w:=w3) (by rw[if_neg (by omega),if_neg (by omega)]) (by kernel_rfl);rw[if_neg (by omega)]at HY;have s3':w3.heap[w1.heap.size]?=some (.cells #[.pointer (some ⟨P.globals.size,40,none⟩),.pointer (some ⟨w.heap.size,0,none⟩),.int .u64 151] 151 (0,0)):=by simpa using s3
  have EO:=aB g1 g3;refine⟨w3,HY,_,aA s3' 0,_,aA s3' 1,_,aA s3' 2,_,w3,uX (aA (aE b1 g3) 0),by omega,?_⟩;apply vc102;dsimp only[VC102,cI,iq];refine(iz (v:=n) (by omega)).mono fun ev w4 hh=>?_;obtain⟨rfl,rfl⟩:=hh;have Gb:=mB (v:=n) (k:=6) (by omega);have hs:=h.kept EO;have Ff:=h.sz;refine⟨_,rfl,_,rfl,(Aa (n+1) w4 g ge n c 0 n (blen n) d (by omega) hs (by omega) (Nat.le_refl _) hn (by omega) (.inl rfl)).mono fun ev w5 hh=>?_⟩;obtain⟨rfl,d',s5,k5,hp,Fj⟩:=hh;exact⟨by trivial,by trivial,d',s5,(Kp.of_none EO).then k5 (fun _ _ e=>e),hp,Fj⟩
noncomputable abbrev BM (lenv:Addr):Value:=.agg #[.func (.func 64) #[] #[.pointer (some lenv)],.func (.func 130) #[] #[]]
theorem ins_n{w:World}{lenv:Addr}{b:Nat}(hb:b<=1):Calls P 141 #[BM lenv,.int .i64 0,.int .i64 (b:Int)] w fun ev w'=>ev=.returned (.tuple #[])/\w.grownBy w' none:=by
 apply vc141n;dsimp only[VC141n,fP,rt,Br,Bb,cB,nb,iq]
 try simp only[aG]
 refine⟨by omega,fun m i W=>i=1/\w.grownBy W none,⟨0,by omega,World.grownBy_alloc w _ none⟩,?_⟩;rintro m i W ⟨rfl,hg⟩;exact⟨fun DF=>absurd DF (by omega),fun _=>⟨by trivial,hg⟩⟩
theorem pdq_n{w:World}{lenv:Addr}{b:Nat}{l:Int}(hb:b<=1):Calls P 103 #[BM lenv,.int .i64 0,.int .i64 (b:Int),.int .i64 l] w fun ev w'=>ev=.returned (.tuple #[])/\w.grownBy w' none:=by
 apply vc103n;dsimp only[VC103n,fP,rt,Br,Bb,cI,cB,cU,nb,iq]
 try simp only[aG]
 have g0:=World.grownBy_alloc w (.cells #[.func (.func 64) #[] #[.pointer (some lenv)],.func (.func 130) #[] #[]] 159) none;have b0:(w.alloc (.cells #[.func (.func 64) #[] #[.pointer (some lenv)],.func (.func 130) #[] #[]] 159)).heap[w.heap.size]?=some (.cells #[.func (.func 64) #[] #[.pointer (some lenv)],.func (.func 130) #[] #[]] 159 (0,0)):=heap_alloc_new w _;obtain⟨w0,FN⟩:∃ w0,w0=w.alloc (.cells #[.func (.func 64) #[] #[.pointer (some lenv)],.func (.func 130) #[] #[]] 159):=⟨_,rfl⟩;rw[← FN]at g0 b0 ⊢;refine⟨fun m a1 b1 l wb wp W=>a1=0/\b1=(b:Int)/\W=w0,⟨0,rfl,rfl,rfl⟩,?_⟩;rintro m a1 b1 l1 wb wp W ⟨rfl,rfl,rfl⟩;refine⟨by omega,fun _=>⟨aA b0 0,aA b0 1,(ins_n hb).mono fun ev w2 hh=>?_⟩,fun h=>absurd h (by omega)⟩;obtain⟨rfl,g2⟩:=hh;exact⟨by trivial,by trivial,aB g0 g2⟩
theorem Cu{w:World}{A:OA}{c:Nat}{lenv:Addr}:
    Calls P 63 #[.iface 40 (.slice A 0 c),.func (.func 64) #[] #[.pointer (some lenv)]] w fun ev w'=>ev=.returned (.tuple #[])/\w.grownBy w' none:=by
  apply vc63n;dsimp only[VC63n,fP,rt,Wt,Rd,Ws,cI,cU,nb,iq]
  try simp only[aG]
  have g1:=World.grownBy_alloc w (.cells #[.slice A 0 c] 40) none;have b1:(w.alloc (.cells #[.slice A 0 c] 40)).heap[w.heap.size]?=some (.cells #[.slice A 0 c] 40 (0,0)):=heap_alloc_new w _;refine⟨_,_,_,_,kS _ _ _ w,?_⟩;obtain⟨w1,Ez⟩:∃ w1,w1=w.alloc (.cells #[.slice A 0 c] 40):=⟨_,rfl⟩;rw[← Ez]at g1 b1 ⊢;have s0:(w1.alloc (.cells #[.pointer none,.pointer none,.int .u64 0] 151)).heap[w1.heap.size]?=some (.cells #[.pointer none,.pointer none,.int .u64 0] 151 (0,0)):=heap_alloc_new w1 _;have s1:=aF s0 0 (.pointer (some ⟨P.globals.size,40,none⟩));have s2:=aF s1 1 (.pointer (some ⟨w.heap.size,0,none⟩));have s3:=aF s2 2 (.int .u64 151);have K3:Kp w1 ((((w1.alloc (.cells #[.pointer none,.pointer none,.int .u64 0] 151)).setCell ⟨w1.heap.size,0,none⟩ (.pointer (some ⟨P.globals.size,40,none⟩))).setCell ⟨w1.heap.size,1,none⟩ (.pointer (some ⟨w.heap.size,0,none⟩))).setCell ⟨w1.heap.size,2,none⟩ (.int .u64 151)) (fun k=>k=w1.heap.size):=cv (cv (cv (Kp.of_none (World.grownBy_alloc w1 _ none)) rfl) rfl) rfl;refine⟨⟨_,aA s0 0⟩,aC s0 0,⟨_,aA s1 1⟩,aC s1 1,⟨_,aA s2 2⟩,aC s2 2,?_⟩;have g3:=K3.grown (fun k hk e=>by omega);obtain⟨w3,Ep⟩:∃ w3,w3=(((w1.alloc (.cells #[.pointer none,.pointer none,.int .u64 0] 151)).setCell ⟨w1.heap.size,0,none⟩ (.pointer (some ⟨P.globals.size,40,none⟩))).setCell ⟨w1.heap.size,1,none⟩ (.pointer (some ⟨w.heap.size,0,none⟩))).setCell ⟨w1.heap.size,2,none⟩ (.int .u64 151):=⟨_,rfl⟩;rw[← Ep]at s3 g3 ⊢;have HY:=kT (A:=A) (n:=0) (c:=c) (k:=1) (f:=130) (w:=w3) (by rfl) (by kernel_rfl);rw[if_pos (by omega)]at HY;have s3':w3.heap[w1.heap.size]?=some (.cells #[.pointer (some ⟨P.globals.size,40,none⟩),.pointer (some ⟨w.heap.size,0,none⟩),.int .u64 151] 151 (0,0)):=by simpa using s3
  have EO:=aB g1 g3;refine⟨w3,HY,_,aA s3' 0,_,aA s3' 1,_,aA s3' 2,_,w3,uX (aA (aE b1 g3) 0),by omega,?_⟩;apply vc102;dsimp only[VC102,cI,iq];refine(iz (v:=0) (by omega)).mono fun ev w4 hh=>?_;obtain⟨rfl,rfl⟩:=hh;refine⟨_,rfl,_,rfl,(pdq_n (b:=0) (by omega)).mono fun ev w5 hh=>?_⟩;obtain⟨rfl,g5⟩:=hh;exact⟨by trivial,by trivial,aB EO g5⟩
noncomputable abbrev BL (lenv:Addr):Value:=.agg #[.func (.func 64) #[] #[.pointer (some lenv)],.func (.func 131) #[] #[]]
theorem ins_o{w:World}{lenv:Addr}{b:Nat}(hb:b<=1):Calls P 141 #[BL lenv,.int .i64 0,.int .i64 (b:Int)] w fun ev w'=>ev=.returned (.tuple #[])/\w.grownBy w' none:=by
 apply vc141o;dsimp only[VC141o,fP,rt,Br,Bb,cB,nb,iq]
 try simp only[aG]
 refine⟨by omega,fun m i W=>i=1/\w.grownBy W none,⟨0,by omega,World.grownBy_alloc w _ none⟩,?_⟩;rintro m i W ⟨rfl,hg⟩;exact⟨fun DF=>absurd DF (by omega),fun _=>⟨by trivial,hg⟩⟩
theorem pdq_o{w:World}{lenv:Addr}{b:Nat}{l:Int}(hb:b<=1):Calls P 103 #[BL lenv,.int .i64 0,.int .i64 (b:Int),.int .i64 l] w fun ev w'=>ev=.returned (.tuple #[])/\w.grownBy w' none:=by
 apply vc103o;dsimp only[VC103o,fP,rt,Br,Bb,cI,cB,cU,nb,iq]
 try simp only[aG]
 have g0:=World.grownBy_alloc w (.cells #[.func (.func 64) #[] #[.pointer (some lenv)],.func (.func 131) #[] #[]] 159) none;have b0:(w.alloc (.cells #[.func (.func 64) #[] #[.pointer (some lenv)],.func (.func 131) #[] #[]] 159)).heap[w.heap.size]?=some (.cells #[.func (.func 64) #[] #[.pointer (some lenv)],.func (.func 131) #[] #[]] 159 (0,0)):=heap_alloc_new w _;obtain⟨w0,FN⟩:∃ w0,w0=w.alloc (.cells #[.func (.func 64) #[] #[.pointer (some lenv)],.func (.func 131) #[] #[]] 159):=⟨_,rfl⟩;rw[← FN]at g0 b0 ⊢;refine⟨fun m a1 b1 l wb wp W=>a1=0/\b1=(b:Int)/\W=w0,⟨0,rfl,rfl,rfl⟩,?_⟩;rintro m a1 b1 l1 wb wp W ⟨rfl,rfl,rfl⟩;refine⟨by omega,fun _=>⟨aA b0 0,aA b0 1,(ins_o hb).mono fun ev w2 hh=>?_⟩,fun h=>absurd h (by omega)⟩;obtain⟨rfl,g2⟩:=hh;exact⟨by trivial,by trivial,aB g0 g2⟩
theorem Ct{w:World}{A:OA}{c:Nat}{lenv:Addr}:
    Calls P 63 #[.iface 40 (.slice A 1 c),.func (.func 64) #[] #[.pointer (some lenv)]] w fun ev w'=>ev=.returned (.tuple #[])/\w.grownBy w' none:=by
  apply vc63o;dsimp only[VC63o,fP,rt,Wt,Rd,Ws,cI,cU,nb,iq]
  try simp only[aG]
  have g1:=World.grownBy_alloc w (.cells #[.slice A 1 c] 40) none;have b1:(w.alloc (.cells #[.slice A 1 c] 40)).heap[w.heap.size]?=some (.cells #[.slice A 1 c] 40 (0,0)):=heap_alloc_new w _;refine⟨_,_,_,_,kS _ _ _ w,?_⟩;obtain⟨w1,Ez⟩:∃ w1,w1=w.alloc (.cells #[.slice A 1 c] 40):=⟨_,rfl⟩;rw[← Ez]at g1 b1 ⊢;have s0:(w1.alloc (.cells #[.pointer none,.pointer none,.int .u64 0] 151)).heap[w1.heap.size]?=some (.cells #[.pointer none,.pointer none,.int .u64 0] 151 (0,0)):=heap_alloc_new w1 _;have s1:=aF s0 0 (.pointer (some ⟨P.globals.size,40,none⟩));have s2:=aF s1 1 (.pointer (some ⟨w.heap.size,0,none⟩));have s3:=aF s2 2 (.int .u64 151);have K3:Kp w1 ((((w1.alloc (.cells #[.pointer none,.pointer none,.int .u64 0] 151)).setCell ⟨w1.heap.size,0,none⟩ (.pointer (some ⟨P.globals.size,40,none⟩))).setCell ⟨w1.heap.size,1,none⟩ (.pointer (some ⟨w.heap.size,0,none⟩))).setCell ⟨w1.heap.size,2,none⟩ (.int .u64 151)) (fun k=>k=w1.heap.size):=cv (cv (cv (Kp.of_none (World.grownBy_alloc w1 _ none)) rfl) rfl) rfl;refine⟨⟨_,aA s0 0⟩,aC s0 0,⟨_,aA s1 1⟩,aC s1 1,⟨_,aA s2 2⟩,aC s2 2,?_⟩;have g3:=K3.grown (fun k hk e=>by omega);obtain⟨w3,Ep⟩:∃ w3,w3=(((w1.alloc (.cells #[.pointer none,.pointer none,.int .u64 0] 151)).setCell ⟨w1.heap.size,0,none⟩ (.pointer (some ⟨P.globals.size,40,none⟩))).setCell ⟨w1.heap.size,1,none⟩ (.pointer (some ⟨w.heap.size,0,none⟩))).setCell ⟨w1.heap.size,2,none⟩ (.int .u64 151):=⟨_,rfl⟩;rw[← Ep]at s3 g3 ⊢;have HY:=kT (A:=A) (n:=1) (c:=c) (k:=2) (f:=131) (w:=w3) (by rfl) (by kernel_rfl);rw[if_pos (by omega)]at HY;have s3':w3.heap[w1.heap.size]?=some (.cells #[.pointer (some ⟨P.globals.size,40,none⟩),.pointer (some ⟨w.heap.size,0,none⟩),.int .u64 151] 151 (0,0)):=by simpa using s3
  have EO:=aB g1 g3;refine⟨w3,HY,_,aA s3' 0,_,aA s3' 1,_,aA s3' 2,_,w3,uX (aA (aE b1 g3) 0),by omega,?_⟩;apply vc102;dsimp only[VC102,cI,iq];refine(iz (v:=1) (by omega)).mono fun ev w4 hh=>?_;obtain⟨rfl,rfl⟩:=hh;refine⟨_,rfl,_,rfl,(pdq_o (b:=1) (by omega)).mono fun ev w5 hh=>?_⟩;obtain⟨rfl,g5⟩:=hh;exact⟨by trivial,by trivial,aB EO g5⟩
def xz(L:List (Edge×Bool)):Prop:=∀ p∈L,p.2=true
theorem Bv{L:List (Edge×Bool)}{k:Edge}{v:Bool}{p:Edge×Bool}(h:p∈io L k v):p=(k,v)∨p∈L:=by
 induction L with
 | nil=>simp[io]at h;exact .inl h
 | cons q L ih =>
  unfold io at h;split at h
  ·rcases List.mem_cons.1 h with h | h
   ·exact .inl h
   ·exact .inr (List.mem_cons_of_mem _ h)
  ·rcases List.mem_cons.1 h with h | h
   ·exact .inr (by rw[h];exact List.mem_cons_self)
   ·exact(ih h).imp id (List.mem_cons_of_mem _)
theorem xz.upd{L:List (Edge×Bool)}(h:xz L)(k:Edge):xz (io L k true):=fun p hp=>by
 rcases Bv hp with rfl | hp
 ·rfl
 ·exact h p hp
theorem xz.del{L:List (Edge×Bool)}(h:xz L)(k:Edge):xz (qq L k):=fun p hp=>h p (List.mem_filter.1 hp).1
theorem gK.del{L:List (Edge×Bool)}{now x:List Edge}{e:aU}(h:gK L now)(ht:bX now e=some x)(ha:e.add=false):gK (qq L (e.u,e.v)) x:=by
 intro a;rw[BG];have:=(gM ht).2.1 a;by_cases hk:(e.u,e.v)=a
 ·rw[if_pos hk];rw[if_pos hk.symm,ha]at this;simp only[Option.getD_none];rw[eq_comm,decide_eq_false_iff_not];exact fun hx=>by have:=this.1 hx;cases this
 ·rw[if_neg hk,h a];rw[if_neg (fun e=>hk e.symm)]at this;exact decide_eq_decide.2 this.symm
theorem nS{L:List (Edge×Bool)}{a:Edge}{v:Bool}(h:dy L a=some v):(a,v)∈L:=by
 induction L with
 | nil=>simp[dy]at h
 | cons q L ih =>
  unfold dy at h;split at h
  ·rename_i he;cases h;rw[← he];exact List.mem_cons_self
  ·exact List.mem_cons_of_mem _ (ih h)
theorem Au{L:List (Edge×Bool)}{a:Edge}(h:∃ p∈L,p.1=a):∃ v,dy L a=some v:=by
 induction L with
 | nil=>obtain⟨p,hp,_⟩:=h;simp at hp
 | cons q L ih =>
  unfold dy;split
  ·exact⟨_,rfl⟩
  ·rename_i DJ;obtain⟨p,hp,e⟩:=h;rcases List.mem_cons.1 hp with rfl | hp
   ·exact absurd e DJ
   ·exact ih ⟨p,hp,e⟩
theorem gK.keys{L:List (Edge×Bool)}{now:List Edge}(h:gK L now)(ht:xz L)(a:Edge):a∈now↔∃ p∈L,p.1=a:=by
 have ha:=h a;constructor
 ·intro hm;rw[decide_eq_true hm]at ha;cases hg:dy L a with
  | none=>rw[hg]at ha;simp at ha
  | some v=>exact⟨_,nS hg,rfl⟩
 ·intro hp;obtain⟨v,hv⟩:=Au hp;have hm:=ht _ (nS hv);simp only at hm;subst hm;rw[hv]at ha;exact of_decide_eq_true ha.symm
theorem vE{d:Array Edge}(h:Go.Sort.SortedIn aK 0 d.size d)(hn:d.toList.Nodup):fp d.toList:=by
 unfold fp;rw[List.pairwise_iff_getElem];intro i j hi hj El;have h1:=h i j (by omega) El (by simpa using hj);rw[BZ (i:=j) (by simpa using hj),BZ (i:=i) (by simpa using hi)]at h1;refine pN h1 (fun e=>?_);exact(List.pairwise_iff_getElem.1 hn i j hi hj El) e.symm
theorem re{d d':Array Edge}(h:Go.Sort.PermIn 0 d.size d d'):d'.toList.Perm d.toList:=by
 have:=h.2.2;rw[Array.extract_size]at this;have e:d'.extract 0 d.size=d':=by rw[← h.1];exact Array.extract_size
 rw[e]at this;exact this
theorem jP{α:Type}[DecidableEq α]:∀ {l m:List α},l.Nodup->(∀ a∈l,a∈m)->l.length<=m.length
 | [],m,_,_=>by simp
 | a ::l,m,hn,h=>by
  have hm:=h a (by simp);have ER:=List.nodup_cons.1 hn;have ih:=jP (l:=l) (m:=m.erase a) ER.2 (fun b hb=>(List.mem_erase_of_ne (fun e=>ER.1 (by rw[← e];exact hb))).2 (h b (by simp[hb])));have hl:=List.length_erase_of_mem hm;have hp:0<m.length:=List.length_pos_of_mem hm;simp only[List.length_cons];omega
end Go.Proofs.YtlieaecnllkefaaGreat

/- Own texts, packed: W28, W29, W30, W31. -/
import Derived.Test.YtlieaecnllkefaaGreatGWCg
import Derived.Test.YtlieaecnllkefaaGreatGWFg
import Derived.Test.YtlieaecnllkefaaGreatGWDg
import Derived.Test.YtlieaecnllkefaaGreatGWZg
/-! Files of blocks of any right graphs, as bytes. Lists alone. -/
set_option linter.unusedVariables false
set_option linter.unusedSimpArgs false
set_option maxRecDepth 100000
set_option maxHeartbeats 8000000
namespace Go.Proofs.YtlieaecnllkefaaGreat
open Go Go.V Go.RowKit
def dV(K:Nat->List Edge)(l:List aS)(k i:Nat):List Int:=fk (kM (fC l k i)) (K i) (fC l k i)
def jC(K:Nat->List Edge)(l:List aS)(k i:Nat):el:=⟨((dV K l k i).length:Int),kM (fC l k i),jw (dV K l k i)⟩
def cW(K:Nat->List Edge)(l:List aS)(k m:Nat):List Int:=(List.range m).flatMap (dV K l k)
def eP(K:Nat->List Edge)(l:List aS)(k m:Nat):List el:=(List.range m).map (jC K l k)
def fF(K:Nat->List Edge)(N:Int)(l:List aS)(k:Nat):List Int:=fE N k l.length++(cW K l k (dy l.length k)++jY (eP K l k (dy l.length k)))
structure fW(K:Nat->List Edge)(N:Int)(l:List aS)(k:Nat):Prop where
 hist:cu N l
 blk:∀ i,i*k<l.length->qx (kM (fC l k i)) (K i) (fC l k i)
 klen:∀ i,i*k<l.length->(K i).length<=i*k+1
 lt:∀ i,i*k<l.length->∀ a∈K i,a.2<N
section
variable {K : Nat → List Edge} {N : Int} {l : List aS} {k i m : Nat}
theorem fW.blen(h:fW K N l k)(hk:0<k)(hi:i*k<l.length):1<=(dV K l k i).length/\(dV K l k i).length<=6600:=by
 have h1:=h.klen i hi;have h2:(fC l k i).length<=l.length-i*k:=by rw[iN];omega
 have h5:=h.hist.len;have h3:=kb (h.blk i hi) (by omega) (by omega);have h4:=kT (de (js (K i))).length;refine⟨?_,by unfold dV;omega⟩;unfold dV fk;rw[List.length_append];omega
theorem va:By (dV K l k i):=fun b hb=>iP _ _ _ b hb
theorem fW.is(h:fW K N l k)(hi:i*k<l.length):qy (dV K l k i) N (kM (fC l k i)) (fC l k i).length (K i) (fC l k i) :=
 ⟨h.blk i hi,h.lt i hi,fun e he=>(h.hist.evM e he).2.2.2,rfl,rfl⟩
theorem fp:(eP K l k m).length=m:=by unfold eP;simp
theorem lQ:eP K l k (m+1)=eP K l k m++[jC K l k m]:=by unfold eP;rw[List.range_succ,List.map_append];rfl
theorem fR:cW K l k (m+1)=cW K l k m++dV K l k m:=by unfold cW;rw[List.range_succ,List.flatMap_append];simp
theorem uB:∀ m,da (eP K l k m)=((cW K l k m).length:Int)
 | 0=>rfl
 | m+1=>by rw[lQ,fR,gi,uB m,List.length_append];unfold da jC;simp
theorem fW.rowN(h:fW K N l k)(hk:0<k)(hi:i*k<l.length):vi (jC K l k i):=by
 have h1:=h.blen hk hi;have h2:=h.hist.mem _ (List.getElem_mem hi);have h3:=qm (dV K l k i);refine⟨?_,?_,?_⟩ <;>unfold jC <;>simp only
 ·omega
 ·rw[jP hk hi];exact h2.1
 ·omega
theorem fW.rowsOk(h:fW K N l k)(hk:0<k):∀ {m:Nat},m<=dy l.length k->rowsOk (eP K l k m)=true
 | 0,_=>rfl
 | m+1,hm=>by
  have ih:=h.rowsOk hk (m:=m) (by omega);have hi:=(dU (n:=l.length) (i:=m) hk).1 (by omega);have hr:=h.rowN hk hi;unfold Go.V.rowsOk at ih ⊢;rw[lQ,kE];refine⟨ih,?_⟩;have Ho:((eP K l k m).getLast?.map el.first).getD 0<=(jC K l k m).first:=by
   cases m with
   | zero=>exact hr.first.1
   | succ m =>
    rw[lQ,List.getLast?_append];simp only[List.getLast?_singleton,Option.some_or,Option.map_some,Option.getD_some];have J0:=(dU (n:=l.length) (i:=m) hk).1 (by omega);show kM (fC l k m)<=kM (fC l k (m+1));rw[jP hk J0,jP hk hi];exact h.hist.ok.times.le (Nat.mul_le_mul_right k (by omega)) hi
  unfold fX;rw[Bool.and_eq_true,decide_eq_true_iff];exact⟨⟨hr.len.1,hr.len.2,Ho,hr.first.2⟩,rfl⟩
theorem AZ:By (cW K l k m):=fun b hb=>by
 obtain⟨i,_,hi⟩:=List.mem_flatMap.1 hb;exact iP _ _ _ b hi
theorem uT:By (fF K N l k):=(uK _ _ _).append (AZ.append (tU _))
theorem wx:(fF K N l k).length=24+((cW K l k (dy l.length k)).length+(16*dy l.length k+8)):=by
 unfold fF;rw[List.length_append,List.length_append,eE,iY,fp]
theorem fW.bodiesLen(h:fW K N l k)(hk:0<k):∀ {m:Nat},m<=dy l.length k->(cW K l k m).length<=6600*m
 | 0,_=>Nat.zero_le _
 | m+1,hm=>by
  have:=h.bodiesLen hk (m:=m) (by omega);have:=h.blen hk ((dU (n:=l.length) (i:=m) hk).1 (by omega));rw[fR,List.length_append];omega
theorem pI:∀ {m:Nat},i<m->∃ s,cW K l k m=cW K l k i++(dV K l k i++s)
 | 0,h=>absurd h (Nat.not_lt_zero _)
 | m+1,h=>by
  rw[fR];by_cases e:i=m
  ·subst e;exact⟨[],by simp⟩
  ·obtain⟨s,hs⟩:=pI (m:=m) (by omega);exact⟨s++dV K l k m,by rw[hs];simp only[List.append_assoc]⟩
theorem AJ(hi:i<dy l.length k):((fF K N l k).drop (24+(cW K l k i).length)).take (dV K l k i).length=dV K l k i:=by
 obtain⟨s,hs⟩:=pI (K:=K) (l:=l) (k:=k) hi;unfold fF;rw[hs];simp only[List.append_assoc];rw[← List.append_assoc (fE _ _ _)];exact o0 (by rw[List.length_append,eE]) rfl
theorem fW.rowsN(h:fW K N l k)(hk:0<k):∀ r∈eP K l k (dy l.length k),vi r:=fun r hr=>by
 unfold eP at hr;obtain⟨i,hi,rfl⟩:=List.mem_map.1 hr;exact h.rowN hk ((dU hk).1 (by simpa using hi))
theorem fW.flen(h:fW K N l k)(hk:0<k):(fF K N l k).length<=1000000:=by
 have h1:=h.bodiesLen hk (Nat.le_refl (dy l.length k));have h2:=jF (n:=l.length) hk;have h3:=h.hist.len;rw[wx];omega
set_option maxHeartbeats 8000000 in
theorem rY{w:World}{A:OA}{n c:Nat}(hr:aZ w A (bY (fF K N l k)))(hn:n=(fF K N l k).length)(hc:n<=c)(h:fW K N l k)(hk:1<=k/\k<=1048576):
    Calls P 20 #[.slice A n c] w fun ev w'=>∃(B:OA)(m d:Nat),ev=.returned (.tuple #[iT N k l.length,.slice B m d,.int .i64 0])/\aE w' w.heap.size 60 3 B m d (dM (eP K l k (dy l.length k)))/\w.grownBy w' none:=by
  apply vc20;dsimp only[VC20,rt,Wt,Br,Rd,Ws,cT,nb,iq];have g0:=World.grownBy_alloc w (.cells #[.int .u64 0,.int .i64 0,.int .i64 0] 51) none;have b0:=heap_alloc_new w (.cells #[.int .u64 0,.int .i64 0,.int .i64 0] 51);obtain⟨w0,HZ⟩:∃ w0,w0=w.alloc (.cells #[.int .u64 0,.int .i64 0,.int .i64 0] 51):=⟨_,rfl⟩;rw[← HZ]at g0 b0 ⊢;have hok:=h.hist.hok hk;refine(oe (hr.kept_none g0) hn hc uT rfl h.hist.n.1 hok).mono fun ev w1 hh=>?_;obtain⟨rfl,g1⟩:=hh;have b1:=aF b0 g1;have ga:=World.grownBy_alloc w1 (.cells #[.int .u64 0,.int .i64 0,.int .i64 0] 51) none;have s0:=heap_alloc_new w1 (.cells #[.int .u64 0,.int .i64 0,.int .i64 0] 51);have s1:=aH s0 0 (.int .u64 N);have s2:=aH s1 1 (.int .i64 (k:Int));have s3:=aH s2 2 (.int .i64 (l.length:Int));have g3:w1.grownBy ((((w1.alloc (.cells #[.int .u64 0,.int .i64 0,.int .i64 0] 51)).setCell ⟨w1.heap.size,0,none⟩ (.int .u64 N)).setCell ⟨w1.heap.size,1,none⟩ (.int .i64 (k:Int))).setCell ⟨w1.heap.size,2,none⟩ (.int .i64 (l.length:Int))) none:=(cH (cH (cH (Kp.of_none (S:=fun q=>w1.heap.size<=q) ga) (Nat.le_refl _)) (Nat.le_refl _)) (Nat.le_refl _)).grown (fun q hq e=>by omega);refine⟨_,_,_,_,rfl,⟨_,aB s0 0⟩,aD s0 0,⟨_,aB s1 1⟩,aD s1 1,⟨_,aB s2 2⟩,aD s2 2,fun e=>absurd rfl e,fun _=>?_⟩;obtain⟨w3,Gr⟩:∃ w3,w3=(((w1.alloc (.cells #[.int .u64 0,.int .i64 0,.int .i64 0] 51)).setCell ⟨w1.heap.size,0,none⟩ (.int .u64 N)).setCell ⟨w1.heap.size,1,none⟩ (.int .i64 (k:Int))).setCell ⟨w1.heap.size,2,none⟩ (.int .i64 (l.length:Int)):=⟨_,rfl⟩;have h3:w3.heap[w1.heap.size]?=some (.cells #[.int .u64 N,.int .i64 (k:Int),.int .i64 (l.length:Int)] 51 (0,0)):=by rw[Gr];exact s3
  rw[← Gr]at g3 ⊢;have F9:=aA g0 (aA g1 g3);have JZ:=uB (K:=K) (l:=l) (k:=k) (dy l.length k);refine⟨N,aB h3 0,(k:Int),aB h3 1,(l.length:Int),aB h3 2,(sp (pre:=fE N k l.length++cW K l k (dy l.length k)) (hr.kept_none F9) hn hc uT (by have:=h.flen hk.1;omega) (by unfold fF;rw[List.append_assoc]) (by rw[JZ,List.length_append,eE];omega) hok (by rw[j5 hk.1,fp]) (h.rowsOk hk.1 (Nat.le_refl _)) (h.rowsN hk.1)).mono fun ev w4 hh=>?_⟩;obtain⟨A4,n4,c4,rfl,o4,g4⟩:=hh;have h4:=aF h3 g4;have b4:=aF (aF b1 g3) g4;have t1:=aH b4 0 (.int .u64 N);have t2:=aH t1 1 (.int .i64 (k:Int));have t3:=aH t2 2 (.int .i64 (l.length:Int));have HS:=aA F9 g4;have z03:=F9.size;have z3:w.heap.size<w3.heap.size:=by
    have:=(Array.getElem?_eq_some_iff.1 (aF b1 g3)).1;exact this
  have K4:Kp w4 (((w4.setCell ⟨w.heap.size,0,none⟩ (.int .u64 N)).setCell ⟨w.heap.size,1,none⟩ (.int .i64 (k:Int))).setCell ⟨w.heap.size,2,none⟩ (.int .i64 (l.length:Int))) (fun q=>q=w.heap.size):=cH (cH (cH (Kp.refl _ _) rfl) rfl) rfl;have gF:=((Kp.of_none (S:=fun q=>w.heap.size<=q) HS).then K4 fun q _ e=>by omega).grown fun q hq e=>by omega
  refine⟨_,_,_,_,rfl,fun e=>absurd rfl e,fun _=>⟨N,aB h4 0,(k:Int),aB h4 1,(l.length:Int),aB h4 2,⟨_,aB b4 0⟩,aD b4 0,⟨_,aB t1 1⟩,aD t1 1,⟨_,aB t2 2⟩,aD t2 2,N,by rw[aB t3 0];rfl,(k:Int),by rw[aB t3 1];rfl,(l.length:Int),by rw[aB t3 2];rfl,A4,n4,c4,rfl,?_,gF⟩⟩;exact(o4.kp K4 (fun q hq e=>by have:=(World.ownsRow.lt o4 q hq).1;omega)).mono (by omega)
theorem rh(hi:i<=m):da ((eP K l k m).take i)=((cW K l k i).length:Int):=by
 have:(eP K l k m).take i=eP K l k i:=by
  unfold eP;rw[← List.map_take,List.take_range,Nat.min_eq_left hi]
 rw[this,uB]
set_option maxHeartbeats 8000000 in
theorem sH{w:World}{A B:OA}{n c m d:Nat}(hr:aZ w A (bY (fF K N l k)))(hn:n=(fF K N l k).length)(hc:n<=c)(h:fW K N l k)(hk:1<=k/\k<=1048576)(hB:aZ w B (dM (eP K l k (dy l.length k))))(hm:m=dy l.length k)(hd:m<=d)(hi:i<dy l.length k):
    Calls P 21 #[.slice A n c,.slice B m d,.int .i64 (i:Int)] w fun ev w'=>∃(C:OA)(n' c':Nat),ev=.returned (.tuple #[.slice C n' c',.int .i64 0])/\aE w' w.heap.size 5 1 C n' c' (bY (dV K l k i))/\w.grownBy w' none:=by
  apply vc21;dsimp only[VC21,rt,Br,Rd,Rc,Ix,cI,cS,ad,al,iq]
  try simp only[aG]
  have Hs:(eP K l k (dy l.length k)).length=dy l.length k:=fp;have KE:=jF (n:=l.length) (k:=k) hk.1;have hl:=h.hist.len;have Hc:=(dU hk.1).1 hi;have Ip:=h.blen hk.1 Hc;have Gj:(eP K l k (dy l.length k))[i]'(by rw[Hs];exact hi)=jC K l k i:=by unfold eP;simp
  refine(od hB (by rw[Hs];exact hm) hd (by rw[Hs];omega) (h.rowsOk hk.1 (Nat.le_refl _)) (by rw[Hs];exact hi)).mono fun ev w1 hh=>?_;obtain⟨rfl,g1⟩:=hh;rw[rh (by omega)];have Mf:=h.flen hk.1;obtain⟨s,hs⟩:=pI (K:=K) (l:=l) (k:=k) hi;have Ql:24+(cW K l k i).length+(dV K l k i).length<=n:=by
    rw[hn,wx,hs,List.length_append,List.length_append];omega
  have ti:(i:Int).toNat=i:=by omega
  rw[ti];have cellR:∀ X,w.grownBy X none->∃ a,B=some a/\X.cell? (a.add (i*3))=some (.int .i64 ((dV K l k i).length:Int))/\X.cell? (Addr.add (a.add (i*3)) 2)=some (.int .u32 (jw (dV K l k i))):=fun X hX=>by
    obtain⟨a,e0,e1,e2,e3⟩:=iA (hB.kept_none hX) (j:=i) (by rw[Hs];exact hi);rw[Gj]at e1 e3;exact⟨a,e0,e1,e3⟩
  obtain⟨a,e0,e1,e2⟩:=cellR w1 g1;have t1:(24+((cW K l k i).length:Int)).toNat=24+(cW K l k i).length:=by omega
  have t2:(24+((cW K l k i).length:Int)+((dV K l k i).length:Int)).toNat-(24+((cW K l k i).length:Int)).toNat=(dV K l k i).length:=by omega
  have rX:aZ w1 (bK A c (24+(cW K l k i).length) 1) (bY (dV K l k i)):=by
    have:=eV (qg (c:=c) (k:=24+(cW K l k i).length) (hr.kept_none g1) (by omega)) (dV K l k i).length;rw[AJ hi]at this;exact this
  refine⟨_,rfl,fun e=>absurd e (by omega),fun _=>⟨fun e=>absurd e (by omega),fun _=>⟨a,e0,by omega,by omega,_,e1,by omega,fun e=>absurd e (by omega),fun _=>⟨a,e0,by omega,by omega,_,e1,by omega,⟨by omega,by omega,by omega,by omega⟩,?_⟩⟩⟩⟩;rw[t2,t1];refine(qr rX rfl (by omega)).mono fun ev w2 hh=>?_;obtain⟨C,n',c',rfl,o2,g2⟩:=hh;have GG:n'=(dV K l k i).length:=by have h':=o2.cases.1;unfold bY at h';rw[List.length_map]at h';omega
  have gd:=aI (aC w2 none);obtain⟨w3,Gr⟩:∃ w3,w3=w2.drew:=⟨_,rfl⟩;rw[← Gr]at gd ⊢;have gA:=World.grownBy_alloc w3 (.cells #[.slice C n' c'] 26) none;have rA:aZ (w3.alloc (.cells #[.slice C n' c'] 26)) (some ⟨w3.heap.size,0,none⟩) [.slice C n' c']:=iB w3 #[.slice C n' c'] 26;have Gu:=aA g1 (aA g2 gd);have o4:=o2.kp (S:=fun _=>False) (Kp.of_none (aA gd gA)) (fun _ _ e=>e);refine⟨C,n',c',rfl,fun X=>w.grownBy X none,Gu,aA Gu gA,(jJ rA o4.row GG va (by omega)).mono fun ev w5 hh=>?_⟩;obtain⟨rfl,rfl⟩:=hh;refine⟨_,rfl,aA Gu gA,a,e0,by omega,by omega,_,fun X hX=>?_,fun e=>absurd rfl e,fun _=>⟨C,n',c',rfl,o4.mono g1.size,aA Gu gA⟩⟩;obtain⟨a',e0',_,e2'⟩:=cellR X hX;rw[e0]at e0';cases e0';exact e2'
end
end Go.Proofs.YtlieaecnllkefaaGreat
/-! tgx.Decode of a file whose blocks don't follow one another: the walk. -/
namespace Go.Proofs.YtlieaecnllkefaaGreat
open Go Go.V Go.RowKit
theorem vG {w:World} {A:OA} {n c:Nat} {K:Nat->List Edge} {N:Int} {l:List aS} {k:Nat} (hr:aZ w A (bY (fF K N l k))) (hn:n=(fF K N l k).length) (hc:n<=c) (hF:fW K N l k) (hk:1<=k/\k<=1048576) (FS:fx N l k≠fF K N l k) :
    Calls P 22 #[.slice A n c] w fun ev w'=>ev=.returned (.tuple #[.agg #[.int .u64 0,.slice none 0 0],.int .i64 0,.int .i64 21])/\w.grownBy w' none:=by
  have h:=hF.hist;apply vc22;dsimp only[VC22,rt,Wt,Br,Rd,Rc,Rs,Ix,Ap,Ws,cI,cB,cT,nb,ad,al,iq]
  try simp only[aG]
  have hl:=h.len;have hok:=h.hok hk;have g0:=World.grownBy_alloc w (.cells #[.int .u64 0,.slice none 0 0] 25) none;have b0:=heap_alloc_new w (.cells #[.int .u64 0,.slice none 0 0] 25);obtain⟨w0,HZ⟩:∃ w0,w0=w.alloc (.cells #[.int .u64 0,.slice none 0 0] 25):=⟨_,rfl⟩;rw[← HZ]at g0 b0 ⊢;refine(rY (hr.kept_none g0) hn hc hF hk).mono fun ev w1 hh=>?_;obtain⟨X,xm,xd,rfl,oX,g1⟩:=hh;have Nx:xm=dy l.length k:=by have h':=oX.cases.1;rw[eG,fp]at h';omega
  have T0:=eD oX;have b1:=aF b0 g1;have ga:=World.grownBy_alloc w1 (.cells #[.int .u64 0,.int .i64 0,.int .i64 0] 51) none;have s0:=heap_alloc_new w1 (.cells #[.int .u64 0,.int .i64 0,.int .i64 0] 51);have s1:=aH s0 0 (.int .u64 N);have s2:=aH s1 1 (.int .i64 (k:Int));have s3:=aH s2 2 (.int .i64 (l.length:Int));have g3:w1.grownBy ((((w1.alloc (.cells #[.int .u64 0,.int .i64 0,.int .i64 0] 51)).setCell ⟨w1.heap.size,0,none⟩ (.int .u64 N)).setCell ⟨w1.heap.size,1,none⟩ (.int .i64 (k:Int))).setCell ⟨w1.heap.size,2,none⟩ (.int .i64 (l.length:Int))) none:=(cH (cH (cH (Kp.of_none (S:=fun q=>w1.heap.size<=q) ga) (Nat.le_refl _)) (Nat.le_refl _)) (Nat.le_refl _)).grown (fun q hq e=>by omega);refine⟨_,_,_,_,_,_,_,rfl,⟨_,aB s0 0⟩,aD s0 0,⟨_,aB s1 1⟩,aD s1 1,⟨_,aB s2 2⟩,aD s2 2,fun e=>absurd rfl e,fun _=>?_⟩;obtain⟨w3,Gr⟩:∃ w3,w3=(((w1.alloc (.cells #[.int .u64 0,.int .i64 0,.int .i64 0] 51)).setCell ⟨w1.heap.size,0,none⟩ (.int .u64 N)).setCell ⟨w1.heap.size,1,none⟩ (.int .i64 (k:Int))).setCell ⟨w1.heap.size,2,none⟩ (.int .i64 (l.length:Int)):=⟨_,rfl⟩;have h3:w3.heap[w1.heap.size]?=some (.cells #[.int .u64 N,.int .i64 (k:Int),.int .i64 (l.length:Int)] 51 (0,0)):=by rw[Gr];exact s3
  rw[← Gr]at g3 ⊢;have F9:=aA g0 (aA g1 g3);have b3:=aF b1 g3;refine⟨N,aB h3 0,?_⟩;have gh:=World.grownBy_alloc w3 (.cells #[.int .u64 0,.slice none 0 0] 25) none;have t0:=heap_alloc_new w3 (.cells #[.int .u64 0,.slice none 0 0] 25);have t1:=aH t0 0 (.int .u64 N);have t2:=aH t1 1 (.slice none 0 0);have g4:w3.grownBy (((w3.alloc (.cells #[.int .u64 0,.slice none 0 0] 25)).setCell ⟨w3.heap.size,0,none⟩ (.int .u64 N)).setCell ⟨w3.heap.size,1,none⟩ (.slice none 0 0)) none:=(cH (cH (Kp.of_none (S:=fun q=>w3.heap.size<=q) gh) (Nat.le_refl _)) (Nat.le_refl _)).grown (fun q hq e=>by omega);refine⟨⟨_,aB t0 0⟩,aD t0 0,⟨_,aB t1 1⟩,aD t1 1,?_⟩;obtain⟨w4,HY⟩:∃ w4,w4=((w3.alloc (.cells #[.int .u64 0,.slice none 0 0] 25)).setCell ⟨w3.heap.size,0,none⟩ (.int .u64 N)).setCell ⟨w3.heap.size,1,none⟩ (.slice none 0 0):=⟨_,rfl⟩;have h4:w4.heap[w3.heap.size]?=some (.cells #[.int .u64 N,.slice none 0 0] 25 (0,0)):=by rw[HY];exact t2
  rw[← HY]at g4 ⊢;have z01:=g0.size;have zb0:w.heap.size<w1.heap.size:=(Array.getElem?_eq_some_iff.1 b1).1;have zh3:w1.heap.size<w3.heap.size:=(Array.getElem?_eq_some_iff.1 h3).1;have zh4:w3.heap.size<w4.heap.size:=(Array.getElem?_eq_some_iff.1 h4).1;have HS:=aA F9 g4;have Hz:=aA g3 g4;obtain⟨m,hm⟩:∃ m,m=dy l.length k:=⟨_,rfl⟩;rw[← hm]at oX Nx;have KE:m<=l.length:=by rw[hm];exact jF hk.1
  refine⟨fun q x W=>∃(p:Nat)(B:OA)(d e:Nat),x=(p:Int)/\p<=m/\q=m-p/\Kp w4 W (fun q=>q=w3.heap.size)/\W.heap[w3.heap.size]?=some (.cells #[.int .u64 N,.slice B d e] 25 (0,0))/\aE W w4.heap.size 62 4 B d e (cE (l.take (p*k))),⟨_,0,none,0,0,rfl,by omega,rfl,Kp.refl _ _,h4,by rw[Nat.zero_mul];exact aE.nil _ _ _ _⟩,?_⟩;rintro q x W ⟨p,B,d,e,rfl,hp,rfl,kW,hB,oW⟩;have gB:=((Kp.of_none (S:=fun q=>w.heap.size<=q) HS).then kW fun q _ e=>by omega).grown fun q hq e=>by omega
  have gB1:=((Kp.of_none (S:=fun q=>w1.heap.size<=q) Hz).then kW fun q _ e=>by omega).grown fun q hq e=>by omega
  have hH:W.heap[w1.heap.size]?=some (.cells #[.int .u64 N,.int .i64 (k:Int),.int .i64 (l.length:Int)] 51 (0,0)):=by
    rw[kW.block _ (by omega) (by omega)];exact aF h3 g4
  have hb:W.heap[w.heap.size]?=some (.cells #[.int .u64 0,.slice none 0 0] 25 (0,0)):=by
    rw[kW.block _ (by omega) (by omega)];exact aF b3 g4
  have hd:d=(l.take (p*k)).length:=by have h':=oW.cases.1;rw[dR]at h';omega
  have zW:=kW.size;refine⟨fun FP=>?_,fun FU=>?_⟩
  · have lp:p<m:=by omega
    have Hc:p*k<l.length:=(dU hk.1).1 (by omega);have tp:(p:Int).toNat=p:=by omega
    rw[tp];have Hs:(eP K l k m).length=m:=fp;have Gj:(eP K l k m)[p]'(by rw[Hs];exact lp)=jC K l k p:=by unfold eP;simp
    obtain⟨a,e0,e1,e2,e3⟩:=iA (oX.row.kept_none gB1) (j:=p) (by rw[Hs];exact lp);rw[Gj]at e1 e2 e3;refine⟨a,e0,by omega,by omega,_,e1,_,e2,_,e3,?_⟩;have gc:=World.grownBy_alloc W (.cells #[.int .i64 0,.int .i64 0,.int .u32 0] 60) none;have u0:=heap_alloc_new W (.cells #[.int .i64 0,.int .i64 0,.int .u32 0] 60);have u1:=aH u0 0 (.int .i64 (jC K l k p).len);have u2:=aH u1 1 (.int .i64 (jC K l k p).first);have u3:=aH u2 2 (.int .u32 (jC K l k p).sum);have gR:W.grownBy ((((W.alloc (.cells #[.int .i64 0,.int .i64 0,.int .u32 0] 60)).setCell ⟨W.heap.size,0,none⟩ (.int .i64 (jC K l k p).len)).setCell ⟨W.heap.size,1,none⟩ (.int .i64 (jC K l k p).first)).setCell ⟨W.heap.size,2,none⟩ (.int .u32 (jC K l k p).sum)) none:=(cH (cH (cH (Kp.of_none (S:=fun q=>W.heap.size<=q) gc) (Nat.le_refl _)) (Nat.le_refl _)) (Nat.le_refl _)).grown (fun q hq e=>by omega);refine⟨⟨_,aB u0 0⟩,aD u0 0,⟨_,aB u1 1⟩,aD u1 1,⟨_,aB u2 2⟩,aD u2 2,?_⟩;obtain⟨W1,Pb⟩:∃ W1,W1=(((W.alloc (.cells #[.int .i64 0,.int .i64 0,.int .u32 0] 60)).setCell ⟨W.heap.size,0,none⟩ (.int .i64 (jC K l k p).len)).setCell ⟨W.heap.size,1,none⟩ (.int .i64 (jC K l k p).first)).setCell ⟨W.heap.size,2,none⟩ (.int .u32 (jC K l k p).sum):=⟨_,rfl⟩;have RM:W1.heap[W.heap.size]?=some (.cells #[.int .i64 (jC K l k p).len,.int .i64 (jC K l k p).first,.int .u32 (jC K l k p).sum] 60 (0,0)):=by rw[Pb];exact u3
    rw[← Pb]at gR ⊢;have gW1:=aA gB gR;refine(sH (hr.kept_none gW1) hn hc hF hk (by rw[← hm];exact oX.row.kept_none (aA gB1 gR)) (by rw[← hm];exact Nx) (by omega) (by omega)).mono fun ev W2 hh=>?_;obtain⟨Y,yn,yc,rfl,oY,gY⟩:=hh;have Km:yn=(dV K l k p).length:=by have h':=oY.cases.1;unfold bY at h';rw[List.length_map]at h';omega
    have Lg:=eD oY;refine⟨_,_,_,_,rfl,fun e=>absurd rfl e,fun _=>?_⟩;have gd:=aI (aC W2 none);obtain⟨W3,Nc⟩:∃ W3,W3=W2.drew:=⟨_,rfl⟩;rw[← Nc]at gd ⊢;have gW3:W.grownBy W3 none:=aA gR (aA gY gd);have RL:=aF RM (aA gY gd);have JF:=aF hH gW3;have Hi:min (k:Int) ((l.length:Int)-(p:Int)*(k:Int))=(((fC l k p).length:Nat):Int):=by
      rw[iN,show(p:Int)*(k:Int)=((p*k:Nat):Int) by simp];omega
    have Mb:(p:Int)<((l.length:Int)+(k:Int)-1) / (k:Int):=by rw[j5 hk.1];omega
    refine⟨fun X=>W3.grownBy X none,aC _ _,N,fun X hX=>aB (aF JF hX) 0,(jC K l k p).first,fun X hX=>aB (aF RL hX) 1,N,aB JF 0,(k:Int),aB JF 1,(l.length:Int),aB JF 2,(jG hok (by omega) Mb).mono fun ev W4 hh=>?_⟩;obtain⟨rfl,gs⟩:=hh;rw[Hi];have Mh:=h.evLen (k:=k) (i:=p);have oY4:=oY.kp (S:=fun _=>False) (Kp.of_none (aA gd gs)) (fun _ _ e=>e);have Ry:=(hF.blen hk.1 Hc).2;refine⟨_,rfl,gs,(sF oY4.row Km Lg (fun x hx=>va x hx) (by omega) (by omega)).mono fun ev W5 hh=>?_⟩;obtain⟨g5,LW⟩:=hh;have MG:=hF.is Hc;obtain⟨A7,n7,c7,A8,n8,c8,rfl,r7,Jp,r8,IJ,R6⟩:∃(A1:OA)(n1 c1:Nat)(A2:OA)(n2 c2:Nat),ev=.returned (.tuple #[.slice A1 n1 c1,.slice A2 n2 c2,.int .i64 0])/\aZ W5 A1 (edges (K p))/\n1=(K p).length/\aZ W5 A2 (cE (fC l k p))/\n2=(fC l k p).length/\(A2=none->c2=0):=by
      rcases LW with⟨A1,n1,c1,A2,n2,c2,key',l',rfl,⟨h1,h2,_⟩,⟨h3,h4,_,Pp⟩,h5,h6⟩ | ⟨rfl,Hm⟩
      · obtain⟨e1,e2⟩:=MG.uniq h6 (by omega) (by omega);have e3:=pD MG.ok.del h6.ok.del e2;subst e3;rw[← e1]at h1 h2;exact⟨_,_,_,_,_,_,rfl,h1,h2,h3,h4,Pp⟩
      · exact absurd MG (Hm _ _)
    have gW5:=aA gW3 (aA gs g5);have Ib:=aF hB gW5;have oW5:=oW.kp (S:=fun _=>False) (Kp.of_none gW5) (fun _ _ e=>e);have Jj:(l.take (p*k)).length<=49:=by rw[List.length_take];omega
    obtain⟨B',d',e',W6,r6,o6,g6,_⟩:=eh oW5 r8 IJ R6 (by omega) (Nat.le_trans zW gW5.size);rw[xX]at o6;have La:W6.heap[w3.heap.size]?=some (.cells #[.int .u64 N,.slice B d e] 25 (0,0)):=by
      rw[g6.block _ (Array.getElem?_eq_some_iff.1 Ib).1 (fun e=>by have:=(World.ownsRow.lt oW5 _ e.symm).1;omega)];exact Ib
    have k6:Kp w4 W6 (fun q=>q=w3.heap.size):=Kp.step (kW.then (Kp.of_none (S:=fun q=>q=w3.heap.size) gW5) fun q _ e=>e) g6 (fun q hq=>.inl (World.ownsRow.lt oW5 q hq).1);refine⟨_,_,_,_,_,_,_,rfl,aA gs g5,fun e=>absurd rfl e,fun _=>⟨B,d,e,aB Ib 1,B',d',e',W6,r6,⟨_,aB La 1⟩,aD La 1,by omega,m-(p+1),by omega,p+1,B',d',e',by omega,by omega,rfl,cH k6 rfl,aH La 1 _,?_⟩⟩;exact o6.kp (cH (S:=fun q=>q=w3.heap.size) (Kp.refl _ _) rfl) (fun q hq e=>by have:=(World.ownsRow.lt o6 q hq).1;omega)
  · have Jm:p=m:=by omega
    subst Jm;have FZ:l.take (p*k)=l:=List.take_of_length_le (by have:=oV (n:=l.length) (k:=k) hk.1;rw[hm];exact this);rw[FZ]at oW hd;refine⟨N,aB hB 0,B,d,e,aB hB 1,(k:Int),aB hH 1,(jI oW.row hd (eD oW) (bI oW) h hk).mono fun ev W1 hh=>?_⟩;obtain⟨C,cn,cc,rfl,oC,gC⟩:=hh;have Rm:cn=(fx N l k).length:=by have h':=oC.cases.1;unfold bY at h';rw[List.length_map]at h';omega
    have gW1:=aA gB gC;refine⟨_,_,_,_,rfl,fun e=>absurd rfl e,fun _=>(ij oC.row Rm (hr.kept_none gW1) hn (fun x hx=>ng x hx) (fun x hx=>uT x hx)).mono fun ev W2 hh=>?_⟩;obtain⟨rfl,rfl⟩:=hh;have Gf:=aF hb gC;have v1:=aH Gf 0 (.int .u64 0);have v2:=aH v1 1 (.slice none 0 0);have K3:Kp W2 ((W2.setCell ⟨w.heap.size,0,none⟩ (.int .u64 0)).setCell ⟨w.heap.size,1,none⟩ (.slice none 0 0)) (fun q=>q=w.heap.size):=cH (cH (Kp.refl _ _) rfl) rfl;have gF:=((Kp.of_none (S:=fun q=>w.heap.size<=q) gW1).then K3 fun q _ e=>by omega).grown fun q hq e=>by omega
    refine⟨_,rfl,fun _=>⟨⟨_,aB Gf 0⟩,aD Gf 0,⟨_,aB v1 1⟩,aD v1 1,0,by rw[aB v2 0];rfl,none,0,0,by rw[aB v2 1];rfl,?_,gF⟩,fun e=>absurd (by simpa using FS) e⟩
    first | trivial | rfl
end Go.Proofs.YtlieaecnllkefaaGreat
/-! A file of which a block says other things is another one: lists alone. archipelagoseat.Odd: the walk. -/
namespace Go.Proofs.YtlieaecnllkefaaGreat
open Go Go.V Go.RowKit
theorem sI{K:Nat->List Edge}{N:Int}{l:List aS}{k:Nat}(h:cu N l)(hF:fW K N l k)(hk:0<k):∀ {m:Nat} {s s':List Int},m<=dy l.length k->dl l k m++s=cW K l k m++s'->(∀ i,i<m->eW l k i=K i)/\s=s'
 | 0,s,s',_,he=>⟨fun i hi=>absurd hi (Nat.not_lt_zero _),by simpa[dl,cW]using he⟩
 | m+1,s,s',hm,he=>by
  rw[iO,fR,List.append_assoc,List.append_assoc]at he;obtain⟨a1,a2⟩:=sI h hF hk (m:=m) (by omega) he;have hi:=(dU (n:=l.length) (i:=m) hk).1 (by omega);have hb:=vb (h.blk hk hi) (hF.blk m hi) (by have:=h.evLen (k:=k) (i:=m);omega) (by have:=h.evLen (k:=k) (i:=m);omega) a2;refine⟨fun i hi=>?_,hb.2.2⟩;by_cases e:i=m
  ·subst e;exact hb.1
  ·exact a1 i (by omega)
theorem Dz{K:Nat->List Edge}{N:Int}{l:List aS}{k p:Nat}(h:cu N l)(hF:fW K N l k)(hk:0<k)(hp:p<dy l.length k)(FS:eW l k p≠K p):fx N l k≠fF K N l k:=fun he=>by
 unfold fx fF at he;exact FS ((sI h hF hk (Nat.le_refl _) (List.append_cancel_left he)).1 p hp)
def qO(l:List aS)(k p:Nat)(e:Edge)(i:Nat):List Edge:=if i=p then(ct (eW l k p) ⟨0,e.1,e.2,!decide (e∈eW l k p)⟩).getD [] else eW l k i
theorem uq{N:Int}{l:List aS}(h:cu N l)(k p:Nat)(e:Edge):ct (eW l k p) ⟨0,e.1,e.2,!decide (e∈eW l k p)⟩=some (qO l k p e p):=by
 unfold qO;rw[if_pos rfl];cases hx:ct (eW l k p) ⟨0,e.1,e.2,!decide (e∈eW l k p)⟩with
 | some x=>rfl
 | none =>
  have:=(nK h.keyM.1 ⟨0,e.1,e.2,!decide (e∈eW l k p)⟩).1 hx;simp at this
theorem FB{N:Int}{l:List aS}(h:cu N l)(k p:Nat)(e:Edge):eW l k p≠qO l k p e p:=fun he=>by
 have h1:=C1 (uq h k p e);rw[← he]at h1;simp at h1
theorem yJ(l:List aS)(k i:Nat):(eW l k i).length<=i*k:=by
 have:=ig (l.take (i*k)) [];unfold eW;rw[List.length_take]at *;simp only[List.length_nil]at *;omega
theorem ur{N:Int}{l:List aS}(h:cu N l)(k p:Nat)(e:Edge){i:Nat}(he:i=p->0<=e.1/\e.1<e.2/\e.2<N):nG (qO l k p e i)/\(∀ a∈qO l k p e i,a.2<N)/\(qO l k p e i).length<=i*k+1:=by
 have hn:=h.n;by_cases hi:i=p
 ·have Lz:=he hi;subst hi;have ht:=uq h k i e;have hm:∀ a∈qO l k i e i,0<=a.1/\a.1<a.2/\a.2<N:=fun a ha=>by
   rcases xV ht ha with h1 | h1
   ·exact h.keyM.2 a h1
   ·rw[h1];exact Lz
  have hl:=nL ht;have h1:=h.keyLen (k:=k) (i:=i);have h2:=yJ l k i;exact⟨⟨(fK ht).1,fun a ha=>by have:=hm a ha;omega,by omega⟩,fun a ha=>(hm a ha).2.2,by omega⟩
 ·have hK:qO l k p e i=eW l k i:=by unfold qO;rw[if_neg hi]
  rw[hK];have h1:=h.keyLen (k:=k) (i:=i);have h2:=yJ l k i;exact⟨⟨h.keyM.1,fun a ha=>by have:=h.keyM.2 a ha;omega,by omega⟩,fun a ha=>(h.keyM.2 a ha).2.2,by omega⟩
theorem Cp {w:World} {A:OA} {n c:Nat} {l:List aS} {N b:Int} {k:Nat} {e:Edge} (hr:aZ w A (cE l)) (hn:n=l.length) (hc:n<=c) (hA:A=none->c=0) (h:cu N l) (hk:1<=k/\k<=1048576) (hb:0<=b/\b<=255) (he:(0<=e.1/\e.1<=4294967295)/\0<=e.2/\e.2<=4294967295) :
    Calls P 19 #[.agg #[.int .u64 N,.slice A n c],.int .i64 (k:Int),.int .u8 b,gj e] w fun ev w'=>∃(B:OA)(m d:Nat)(is:Bool),ev=.returned (.tuple #[.slice B m d,.bool is])/\w.grownBy w' none/\(is=true->∃(K:Nat->List Edge)(p:Nat),p<dy l.length k/\fW K N l k/\eW l k p≠K p/\m<=d/\m=(fF K N l k).length/\aZ w' B (bY (fF K N l k))):=by
  apply vc19;dsimp only[VC19,rt,Br,Rd,Rc,Rs,Ix,Ap,cI,cB,cS,cT,nb,iq]
  try simp only[aG,mnI]
  have hl:=h.len;obtain⟨w0,HD,g0,b0⟩:=fQ w #[.int .u64 N,.slice A n c] 25;rw[← HD];obtain⟨w1,FQ,g1,b1⟩:=fQ w0 #[.int .u32 e.1,.int .u32 e.2] 45;rw[← FQ];have Hg:=aA g0 g1;have Sd:=aF b0 g1;have no:∀ {X:World},w.grownBy X none->∃(B:OA)(m d:Nat)(is:Bool),Ending.returned (.tuple #[.slice none 0 0,.bool false])=.returned (.tuple #[.slice B m d,.bool is])/\w.grownBy X none/\(is=true->∃(K:Nat->List Edge)(p:Nat),p<dy l.length k/\fW K N l k/\eW l k p≠K p/\m<=d/\m=(fF K N l k).length/\aZ X B (bY (fF K N l k))):=fun g=>⟨none,0,0,false,rfl,g,fun h=>by cases h⟩;refine⟨N,aB Sd 0,A,n,c,aB Sd 1,(mB (hr.kept_none Hg) hn (by omega) h.evtsU).mono fun ev w2 hh=>?_⟩;obtain⟨rfl,g2⟩:=hh;have OE:dJ N k l.length:=by have:=h.n;unfold dJ;omega
  have b2:=aF Sd g2;have e2:=aF b1 g2;have GH:=aA Hg g2;refine⟨_,_,rfl,fun e=>absurd h.chk e,fun _=>⟨A,n,c,aB b2 1,fun h0=>no GH,fun h0=>⟨N,aB b2 0,A,n,c,aB b2 1,?_⟩⟩⟩;rw[hn];refine(tX OE).mono fun ev w4 hh=>?_;obtain⟨A4,n4,c4,rfl,o4,g4⟩:=hh;have b4:=aF b2 g4;have e4:=aF e2 g4;have HS:=aA GH g4;obtain⟨m,hm⟩:∃ m,m=dy l.length k:=⟨_,rfl⟩;have KE:m<=l.length:=by rw[hm];exact jF hk.1
  have Mj:((l.length:Int)+(k:Int)-1) / (k:Int)=(m:Int):=by rw[hm];exact j5 hk.1
  have KF:0<m:=by
    have:=oV (n:=l.length) (k:=k) hk.1;rw[← hm]at this;rcases Nat.eq_zero_or_pos m with hz | hz
    · rw[hz,Nat.zero_mul]at this;omega
    · exact hz
  have h1:=Int.emod_nonneg b (show(m:Int)≠0 by omega);have h2:=Int.emod_lt_of_pos b (show(0:Int)<(m:Int) by omega);obtain⟨p0,Ls⟩:∃ p0:Nat,b % (m:Int)=(p0:Int):=⟨(b % (m:Int)).toNat,by omega⟩;rw[Ls]at h1 h2;obtain⟨K,hK⟩:∃ K,K=qO l k p0 e:=⟨_,rfl⟩;refine⟨_,_,_,rfl,A,n,c,aB b4 1,by omega,by omega,⟨by omega,by omega,by rw[hn,Mj];omega⟩,?_⟩;rw[hn,Mj,Ls];refine⟨fun q B d e' R s t x W=>∃ p:Nat,x=(p:Int)/\p<=m/\q=m-p/\aE W w2.heap.size 5 1 B d e' (bY (fE N k l.length++cW K l k p))/\aE W w2.heap.size 60 3 R s t (dM (eP K l k p))/\w2.grownBy W none/\(∀ i,i<p->eQ (K i) (fC l k i)=true)/\(p0<p->0<=e.1/\e.1<e.2/\e.2<N),
    ⟨_,0,rfl,by omega,rfl,by simpa[cW]using o4,aE.nil _ _ _ _,g4,fun i hi=>by omega,fun hi=>by omega⟩,?_⟩
  rintro q B d e' R s t x W ⟨p,rfl,hp,rfl,oW,rW,gW,G9,HG⟩;have KI:∀ X,w2.grownBy X none->X.heap[w.heap.size]?=some (.cells #[.int .u64 N,.slice A n c] 25 (0,0)):=fun X hX=>aF b2 hX;have Jt:∀ X,w2.grownBy X none->X.heap[w0.heap.size]?=some (.cells #[.int .u32 e.1,.int .u32 e.2] 45 (0,0)):=fun X hX=>aF e2 hX;have OY:(cW K l k p).length<=6600*p:=by
    have key:∀ q,q<=p->(cW K l k q).length<=6600*q:=by
      intro q
      induction q with
      | zero=>intro _;simp[cW]
      | succ q ih =>
        intro hq;have:=ih (by omega);have Sv:=(dU (n:=l.length) (k:=k) (i:=q) hk.1).1 (by omega);rw[fR,List.length_append];have ho:=ur h k p0 e (i:=q) (fun hi=>HG (by omega));rw[← hK]at ho;have hB:qx (kM (fC l k q)) (K q) (fC l k q):=⟨ho.1,qX hk.1 Sv,(h.blk hk.1 Sv).del,G9 q (by omega)⟩;have h2:(fC l k q).length<=l.length-q*k:=by rw[iN];omega
        have h3:=kb hB (by omega) (by omega);unfold dV;omega
    exact key p (Nat.le_refl _)
  have hd:d=24+(cW K l k p).length:=by have h':=oW.cases.1;unfold bY at h';rw[List.length_map,List.length_append,eE]at h';omega
  have hs:s=p:=by have h':=rW.cases.1;rw[eG,fp]at h';omega
  have ob:=fun {X:World} {n c sz:Nat} {ty:TypeId} {A:OA} {xs:List Value} (h:aE X w2.heap.size ty sz A n c xs) q (hq:(Value.slice A n c).ownBlock=some q)=>(World.ownsRow.lt h q hq).1;have NU:((p:Int)*(k:Int))=((p*k:Nat):Int):=by simp
  rw[NU];have tpk:((p*k:Nat):Int).toNat=p*k:=by omega
  rw[tpk];refine⟨fun FP=>?_,fun FU=>?_⟩
  · have lp:p<m:=by omega
    have Hc:p*k<l.length:=(dU hk.1).1 (by omega);have Hi:(min (((p*k:Nat):Int)+(k:Int)) (n:Int)).toNat-p*k=(fC l k p).length:=by rw[iN];omega
    have OS:(fC l k p).length<=l.length-p*k:=by rw[iN];omega
    have FS:=qX (l:=l) hk.1 Hc;have FX:0<(fC l k p).length:=List.length_pos_iff.2 FS;have Mh:=h.evLen (k:=k) (i:=p);have Oz:=h.keyLen (k:=k) (i:=p);have rowX:=fun {X:World} (hX:w2.grownBy X none)=>((hr.kept_none GH).kept_none hX);refine⟨N,aB (KI W gW) 0,A,n,c,aB (KI W gW) 1,(zX (k:=(k:Int)) (i:=(p:Int)) (rowX gW) hn (by omega) h.evtsU).mono fun ev W1 hh=>?_⟩;obtain⟨A3,n3,c3,rfl,o3,g3⟩:=hh;have KG:nW N l (k:Int) (p:Int)=eW l k p:=by
      unfold nW;rw[if_pos ⟨ma.2 ⟨h.chk,by omega,by omega⟩,by omega,by rw[Mj];omega⟩,NU,h.after]
    rw[KG]at o3;have gW1:=aA gW g3;have zW:=gW.size;refine⟨_,_,_,rfl,A,n,c,aB (KI W1 gW1) 1,by omega,by omega,by omega,A,n,c,aB (KI W1 gW1) 1,⟨by omega,by omega,by omega,by omega⟩,?_⟩;rw[Hi];have o3':=o3.mono zW;refine⟨fun B' m' d' X=>aE X w2.heap.size 45 2 B' m' d' (edges (K p))/\w2.grownBy X none/\(∀ q,(Value.slice B' m' d').ownBlock=some q->w2.heap.size<=q)/\W.grownBy X none/\(p=p0->0<=e.1/\e.1<e.2/\e.2<N),⟨by omega,⟨by omega,by omega⟩,fun Lr=>?_,fun Lr=>⟨?_,gW1,fun q hq=>ob o3' q hq,g3,fun hi=>by omega⟩⟩,?_⟩
    · have HO:p=p0:=by omega
      have gd:=aI (aC W1 none);obtain⟨W2,KT⟩:∃ W2,W2=W1.drew:=⟨_,rfl⟩;rw[← KT]at gd ⊢;have gW2:=aA gW1 gd;have Qb:=o3.kp (S:=fun _=>False) (Kp.of_none gd) (fun _ _ e=>e);obtain⟨IS,Mo,Pn⟩:=ownE Qb;refine⟨fun X=>w2.grownBy X none,gW2,e.1,fun X hX=>aB (Jt X hX) 0,e.2,fun X hX=>aB (Jt X hX) 1,e.1,aB (Jt W2 gW2) 0,e.2,aB (Jt W2 gW2) 1,(wu (e:=e) Qb.row IS (by omega)).mono fun ev W3 hh=>?_⟩;obtain⟨rfl,g3'⟩:=hh;have gW3:=aA gW2 g3';have TP:=Qb.kp (S:=fun _=>False) (Kp.of_none g3') (fun _ _ e=>e);have Mk:decide (decide (e∈eW l k p)=false)=!decide (e∈eW l k p):=by cases decide (e∈eW l k p) <;>rfl
      refine⟨_,rfl,gW3,?_⟩;rw[Mk];refine(jT (e:=⟨0,e.1,e.2,!decide (e∈eW l k p)⟩) TP.row IS Mo Pn (by omega)).mono fun ev W4 hh=>?_;obtain⟨A5,n5,c5,rfl,o5,g5⟩:=hh;have gW4:=aA gW3 g5;have NE:=uq h k p e;rw[NE]at o5 ⊢;have RU:qO l k p e p=K p:=by rw[hK,← HO]
      rw[Option.getD_some,RU]at o5;refine⟨_,_,_,_,rfl,gW4,fun h=>(by cases h),fun _=>⟨e.1,aB (Jt W4 gW4) 0,e.2,aB (Jt W4 gW4) 1,N,aB (KI W4 gW4) 0,(pS e he.2).mono fun ev W5 hh=>?_⟩⟩;obtain⟨rfl,g6⟩:=hh;have gW5:=aA gW4 g6;have gWW5:=aA g3 (aA gd (aA g3' (aA g5 g6)));have JH:=o5.kp (S:=fun _=>False) (Kp.of_none g6) (fun _ _ e=>e);have o56':=JH.mono gW3.size;refine⟨_,rfl,fun Hm=>no (aA GH gW5),fun IM=>⟨o56',gW5,fun q hq=>ob o56' q hq,gWW5,fun _=>?_⟩⟩;have:e.1<e.2/\e.2<N:=by simpa using IM
      exact⟨he.1.1,this.1,this.2⟩
    · have:K p=eW l k p:=by rw[hK];unfold qO;rw[if_neg (by omega)]
      rw[this];exact o3'
    rintro B' m' d' W6 ⟨oK,gW6,Tt,gWW6,Sp⟩;obtain⟨IK,VO,WJ⟩:=ownE oK;have JS:=ur h k p0 e (i:=p) Sp;rw[← hK]at JS;have rev:aZ W6 (bK A c (p*k) 4) (cE (fC l k p)):=qJ (CG (k:=p*k) (rowX gW6) hA (by omega:l.length<=c)).1 k;have oW6:=oW.kp (S:=fun _=>False) (Kp.of_none gWW6) (fun _ _ e=>e);have rW6:=rW.kp (S:=fun _=>False) (Kp.of_none gWW6) (fun _ _ e=>e);refine(z4 oK.row IK VO WJ rev rfl (by omega) (by omega) JS.1 (h.blk hk.1 Hc).del FS).mono fun ev W7 hh=>?_;obtain⟨A7,n7,c7,rfl,o7,g7⟩:=hh;have gW7:=aA gW6 g7;refine⟨_,_,_,_,rfl,fun Hm=>no (aA GH gW7),fun IM=>?_⟩;have J4:eQ (K p) (fC l k p)=true:=by
      cases hf:eQ (K p) (fC l k p)with
      | true=>rfl
      | false=>unfold DR at IM;rw[hf]at IM;simp at IM
    have RN:CL (kM (fC l k p)) (K p) (fC l k p)=dV K l k p:=by unfold CL;rw[if_pos J4];rfl
    rw[RN]at o7;have WG:qx (kM (fC l k p)) (K p) (fC l k p):=⟨JS.1,FS,(h.blk hk.1 Hc).del,J4⟩;have Mr:=kb WG (by omega) (by omega);have Jp:n7=(dV K l k p).length:=by have h':=o7.cases.1;unfold bY at h';rw[List.length_map]at h';omega
    have Ip:(dV K l k p).length<=6600:=by unfold dV;omega
    have gd:=aI (aC W7 none);obtain⟨W8,RH⟩:∃ W8,W8=W7.drew:=⟨_,rfl⟩;rw[← RH]at gd ⊢;have gW8:=aA gW7 gd;obtain⟨a68,ea⟩:∃ a,bK A c (p*k) 4=some a:=by
      obtain⟨a,e1,_⟩:=ey rev FX;exact⟨a,e1⟩
    rw[ea];have rev0:aZ w2 (some a68) (cE (fC l k p)):=by rw[← ea];exact qJ (CG (k:=p*k) (hr.kept_none GH) hA (by omega:l.length<=c)).1 k
    have gA:=World.grownBy_alloc W8 (.cells #[.slice A7 n7 c7] 26) none;have rA:aZ (W8.alloc (.cells #[.slice A7 n7 c7] 26)) (some ⟨W8.heap.size,0,none⟩) [.slice A7 n7 c7]:=iB W8 #[.slice A7 n7 c7] 26;have gW9:=aA gW8 gA;have P9:=o7.kp (S:=fun _=>False) (Kp.of_none (aA gd gA)) (fun _ _ e=>e);refine⟨fun X=>w2.grownBy X none,gW8,a68,rfl,by omega,by omega,kM (fC l k p),fun X hX=>xC rev0 FS hX,gW9,(tS rA P9.row Jp va (by omega)).mono fun ev W9' hh=>?_⟩;obtain⟨rfl,rfl⟩:=hh;obtain⟨W9,We⟩:∃ W9,W9=W8.alloc (.cells #[.slice A7 n7 c7] 26):=⟨_,rfl⟩;rw[← We]at gA gW9 P9 ⊢;have gB:=World.grownBy_alloc W9 (.cells #[.int .i64 (n7:Int),.int .i64 (kM (fC l k p)),.int .u32 (jw (dV K l k p))] 60) none;have rB:=iB W9 #[.int .i64 (n7:Int),.int .i64 (kM (fC l k p)),.int .u32 (jw (dV K l k p))] 60;refine⟨_,rfl,gW9,?_⟩;obtain⟨W10,Pa⟩:∃ W10,W10=W9.alloc (.cells #[.int .i64 (n7:Int),.int .i64 (kM (fC l k p)),.int .u32 (jw (dV K l k p))] 60):=⟨_,rfl⟩;rw[← Pa]at gB rB;have gW10:=aA gW9 gB;have rB':aZ W10 (some ⟨W9.heap.size,0,none⟩) (dM [jC K l k p]):=by
      have:dM [jC K l k p]=[.int .i64 (n7:Int),.int .i64 (kM (fC l k p)),.int .u32 (jw (dV K l k p))]:=by simp[dM,wR,jC,Jp]
      rw[this];exact rB
    have Pr:=aA g7 (aA gd (aA gA gB));have rW10:=rW6.kp (S:=fun _=>False) (Kp.of_none Pr) (fun _ _ e=>e);have oW10:=oW6.kp (S:=fun _=>False) (Kp.of_none Pr) (fun _ _ e=>e);have Np:=P9.kp (S:=fun _=>False) (Kp.of_none gB) (fun _ _ e=>e);obtain⟨R',s',t',W11,r11,Pv,JG⟩:=pJ (d:=1) rW10 rB' (by omega) gW10.size;have gW11:=aY gW10 JG fun q hq=>ob rW10 q hq;rw[← Pa];have oW11:=oW10.kp (Kp.of_grown JG) (fun q hq e=>by
      obtain⟨cur,Gc⟩:=oW10.block_type q hq;exact ks rW10 Gc (by decide) e.symm)
    have Nn:=Np.kp (Kp.of_grown JG) (fun q hq e=>by
      obtain⟨cur,Gc⟩:=Np.block_type q hq;exact ks rW10 Gc (by decide) e.symm)
    obtain⟨WU,TT,c12,W12,r12,TQ,HA,_⟩:=aO oW11 Nn.row Jp (bI Nn) (by omega) gW11.size;have gW12:=aY gW11 HA fun q hq=>ob oW11 q hq;have Nt:=Pv.kp (Kp.of_grown HA) (fun q hq e=>by
      obtain⟨cur,Gc⟩:=Pv.block_type q hq;exact ks oW11 Gc (by decide) e.symm)
    refine⟨gW10,R',s',t',W11,r11,gW11,WU,TT,c12,W12,r12,by omega,m-(p+1),by omega,p+1,by omega,by omega,rfl,?_,?_,gW12,fun i hi=>?_,fun hi=>?_⟩
    · rw[fR,← List.append_assoc];exact TQ
    · rw[lQ];exact Nt
    · by_cases Q3:i=p
      · rw[Q3];exact J4
      · exact G9 i (by omega)
    · by_cases Q3:p=p0
      · exact Sp Q3
      · exact HG (by omega)
  · have Jm:p=m:=by omega
    have hF:fW K N l k:=by
      refine⟨h,fun i hi=>?_,fun i hi=>?_,fun i hi=>?_⟩
      · have lim:i<p:=by rw[Jm,hm];exact(dU hk.1).2 hi
        have ho:=ur h k p0 e (i:=i) (fun _=>HG (by omega));rw[← hK]at ho;exact⟨ho.1,qX hk.1 hi,(h.blk hk.1 hi).del,G9 i lim⟩
      · have ho:=ur h k p0 e (i:=i) (fun _=>HG (by omega));rw[← hK]at ho;exact ho.2.2
      · have ho:=ur h k p0 e (i:=i) (fun _=>HG (by omega));rw[← hK]at ho;exact ho.2.1
    subst Jm;have hR:∀ r∈eP K l k p,vi r:=by rw[hm];exact hF.rowsN hk.1
    have RJ:rowsOk (eP K l k p)=true:=hF.rowsOk hk.1 (by omega);refine(yj rW.row (by rw[fp];exact hs) (by rw[fp];omega) RJ hR).mono fun ev W1 hh=>?_;obtain⟨A5,n5,c5,rfl,o5,g5'⟩:=hh;have oW1:=oW.kp (S:=fun _=>False) (Kp.of_none g5') (fun _ _ e=>e);have gW1:=aA gW g5';have HP:n5=(jY (eP K l k p)).length:=by have h':=o5.cases.1;unfold bY at h';rw[List.length_map]at h';omega
    obtain⟨A6,n6,c6,W2,r6,o6,g6,_⟩:=aO oW1 o5.row HP (bI o5) (by rw[HP,iY,fp];omega) gW1.size;have gW2:=aY gW1 g6 fun q hq=>ob oW1 q hq;rw[List.append_assoc]at o6;have J5:fF K N l k=fE N k l.length++(cW K l k p++jY (eP K l k p)):=by unfold fF;rw[← hm]
    rw[← J5]at o6;have IK:n6=(fF K N l k).length:=by have h':=o6.cases.1;unfold bY at h';rw[List.length_map]at h';omega
    have RU:qO l k p0 e p0=K p0:=by rw[hK]
    exact⟨_,_,_,_,rfl,A6,n6,c6,W2,r6,A6,n6,c6,true,rfl,aA GH gW2,fun _=>⟨K,p0,by omega,hF,by rw[← RU];exact FB h k p0 e,eD o6,IK,o6.row⟩⟩
end Go.Proofs.YtlieaecnllkefaaGreat
/-! archipelagolaw20.TgxOdd: the walk. -/
namespace Go.Proofs.YtlieaecnllkefaaGreat
open Go Go.V Go.RowKit
theorem zJ {w:World} {A:OA} {n c:Nat} {l:List Int} {k s b x y:Int} (hk:0<=k/\k<=255) (Gj:aZ w A (bY l)) (hn:n=l.length) (hb:aW l) (hs:0<=s/\s<=255) (Ip:0<=b/\b<=255) (hx:0<=x/\x<=255) (hy:0<=y/\y<=255) :
    Calls P 4 #[.int .u8 k,.slice A n c,.int .u8 s,.int .u8 b,.int .u8 x,.int .u8 y] w fun ev w'=>ev=.returned (.bool true)/\w.grownBy w' none:=by
  apply vc4;dsimp only[VC4,rb,Wt,Br,Rc,Ws,cI,cB,cT,nb,iq]
  try simp only[aG]
  refine vz.mono fun ev w1 hh=>?_;obtain⟨rfl,g1⟩:=hh;refine⟨true,rfl,fun h=>absurd h (by simp),fun _=>⟨fun _=>⟨by trivial,g1⟩,fun X4=>?_⟩⟩;have hG:=Az (k:=k) hb (by omega);have RP:=pM k;refine(vA (Gj.kept_none g1) hn hb hk (by omega)).mono fun ev w2 hh=>?_;obtain⟨L,hL⟩:∃ L,L=iJ k l:=⟨_,rfl⟩;obtain⟨N,hN⟩:∃ N,N=kh k:=⟨_,rfl⟩;rw[← hL,← hN]at hh hG;rw[← hN]at RP;obtain⟨A2,n2,c2,rfl,o2,g2⟩:=hh;have IT:n2=L.length:=by have:=o2.cases.1;rw[dR]at this;omega
  have FT:=hG.len;obtain⟨w3,hH,pH0,qH0,pH1,qH1,bH,gH⟩:=uD w2 25 (.int .u64 0) (.slice none 0 0) (.int .u64 N) (.slice A2 n2 c2);refine⟨_,_,_,_,rfl,pH0,qH0,pH1,qH1,N,?_⟩;rw[← hH];have WB :(0<=(du x y N).1.1/\(du x y N).1.1<=4294967295)/\0<=(du x y N).1.2/\(du x y N).1.2<=4294967295:=by
    by_cases hq:(du x y N).2=true
    · have:=y6 hx.1 hy.1 RP hq;omega
    · have:(du x y N).1=(0,0):=by
        unfold du at hq ⊢;split at hq
        · rename_i h;rw[if_pos h]
        · simp at hq
      rw[this];simp
  refine⟨aB bH 0,(np hx hy RP).mono fun ev w4 hh=>?_⟩;obtain⟨E,hE⟩:∃ E,E=(du x y N).1:=⟨_,rfl⟩;obtain⟨ok,hok⟩:∃ ok,ok=(du x y N).2:=⟨_,rfl⟩;rw[← hE,← hok]at hh;obtain⟨rfl,g4⟩:=hh;have WA:(0<=E.1/\E.1<=4294967295)/\0<=E.2/\E.2<=4294967295:=by rw[hE];exact WB
  have b4:=aF bH g4;obtain⟨w5,hD,pD0,qD0,pD1,qD1,bD,gD⟩:=uD w4 45 (.int .u32 0) (.int .u32 0) (.int .u32 E.1) (.int .u32 E.2);refine⟨_,_,_,rfl,pD0,qD0,pD1,qD1,?_⟩;rw[← hD];have gd:=aI (aC w5 none);obtain⟨w6,Nz⟩:∃ w6,w6=w5.drew:=⟨_,rfl⟩;rw[← Nz]at gd ⊢;have Jg:=aA gD gd;have b6:=aF b4 Jg;have d6:=aF bD gd;obtain⟨z,hz⟩:∃ z,z=tR s:=⟨_,rfl⟩;have MO:1<=z/\z<=1048576:=by rw[hz];exact Cg s
  refine⟨fun X=>w6.grownBy X none,aC _ _,N,fun X hX=>aB (aF b6 hX) 0,A2,n2,c2,fun X hX=>aB (aF b6 hX) 1,(yf hs.1).mono fun ev w7 hh=>?_⟩;rw[← hz]at hh;obtain⟨rfl,g7⟩:=hh;have rowL:=o2.row.kept_none (aA gH (aA g4 Jg));refine⟨_,rfl,g7,E.1,fun X hX=>aB (aF d6 hX) 0,E.2,fun X hX=>aB (aF d6 hX) 1,(Cp (e:=E) (rowL.kept_none g7) IT (eD o2) (bI o2) hG MO Ip WA).mono fun ev w8 hh=>?_⟩;obtain⟨F,fn,fc,is,rfl,g8,JS⟩:=hh;have TL:=aA g7 g8;have Ku:=aA g1 (aA g2 (aA gH (aA g4 (aA Jg TL))));refine⟨_,_,_,_,rfl,TL,fun _=>⟨by trivial,Ku⟩,fun _=>⟨fun _=>⟨by trivial,Ku⟩,fun Vk=>?_⟩⟩;obtain⟨K,p0,Ls,hF,RV,Mg,Me,rF⟩:=JS (eq_true_of_ne_false Vk);refine(rY rF Me Mg hF MO).mono fun ev w9 hh=>?_;obtain⟨Y,yn,yc,rfl,oY,g9⟩:=hh;have Km:yn=dy L.length z:=by have h':=oY.cases.1;rw[eG,fp]at h';omega
  have Lg:=eD oY;obtain⟨Lc,Wv⟩:∃ Lc,Lc=(L.length:Int):=⟨_,rfl⟩;obtain⟨zc,TV⟩:∃ zc,zc=(z:Int):=⟨_,rfl⟩;rw[← Wv,← TV];obtain⟨Gd,hT,pT0,qT0,pT1,qT1,pT2,qT2,bT,gT⟩:=Fj w9 51 (.int .u64 0) (.int .i64 0) (.int .i64 0) (.int .u64 N) (.int .i64 zc) (.int .i64 Lc);refine⟨_,_,_,_,_,_,_,rfl,pT0,qT0,pT1,qT1,pT2,qT2,?_⟩;rw[← hT];have HB:=aA g9 gT;have KE:=jF (n:=L.length) (k:=z) MO.1;refine⟨fun q i W=>∃ p:Nat,i=(p:Int)/\p<=yn/\q=yn-p/\Gd.grownBy W none,⟨_,0,rfl,by omega,rfl,aC _ _⟩,?_⟩;rintro q i W ⟨p,rfl,hp,rfl,gW⟩;have gW8:=aA HB gW;refine⟨fun FP=>?_,fun FU=>?_⟩
  · refine(sH (i:=p) (rF.kept_none gW8) Me Mg hF MO ((oY.row.kept_none gT).kept_none gW) Km Lg (by omega)).mono fun ev W1 hh=>?_;obtain⟨Z,zn,zc',rfl,oZ,gZ⟩:=hh;exact⟨_,_,_,_,rfl,fun h=>absurd rfl h,fun _=>⟨by omega,_,by omega,p+1,by omega,by omega,rfl,aA gW gZ⟩⟩
  · refine(vG (rF.kept_none gW8) Me Mg hF MO (Dz hG hF MO.1 Ls RV)).mono fun ev W1 hh=>?_;obtain⟨rfl,gD1⟩:=hh;obtain⟨W2,hV,pV0,qV0,pV1,qV1,bV,gV⟩:=uD W1 25 (.int .u64 0) (.slice none 0 0) (.int .u64 0) (.slice none 0 0);refine⟨_,_,_,_,_,_,rfl,pV0,qV0,pV1,qV1,?_⟩;rw[← hV];exact⟨fun _=>⟨fun _=>⟨by simp,aA Ku (aA gW8 (aA gD1 gV))⟩,fun h=>absurd (by omega) h⟩,fun h=>absurd rfl h⟩
end Go.Proofs.YtlieaecnllkefaaGreat

/- Own texts, packed: W10, W11, W12, W13, W14. -/
import Derived.Test.YtdlomlmijdifbaaGreatDoorGWBg
set_option linter.unusedVariables false
set_option linter.unusedSimpArgs false
set_option maxHeartbeats 8000000
set_option maxRecDepth 100000
namespace Go.Proofs.YtdlomlmijdifbaaGreatDoor
open Go Go.V Go.RowKit
theorem qC(p:Nat):(2:Int)^(8*p)=256^p:=by rw[Int.pow_mul];rfl
theorem zY(x:Int):dM [x]=x:=by simp[dM]
theorem wQ{l:List Int}{p:Nat}(hl:l.length<=8)(hb:By l)(hp:p<l.length):(0<=l[p]*2^(min (Int.toNat (8*(p:Int))) 64)/\l[p]*2^(min (Int.toNat (8*(p:Int))) 64)<=18446744073709551615)/\iS .or .u64 (dM (l.take p)) (l[p]*2^(min (Int.toNat (8*(p:Int))) 64))=dM (l.take (p+1)):=by
 have e1:min (Int.toNat (8*(p:Int))) 64=8*p:=by omega
 rw[e1];have hx:=hb _ (List.getElem_mem hp);have h1:=wZ (hb.take p);have Fi:(l.take p).length=p:=by rw[List.length_take];omega
 rw[Fi]at h1;have h2:dM (l.take (p+1))=dM (l.take p)+256^p*l[p]:=by rw[List.take_succ_eq_append_getElem hp,sO,Fi,zY]
 have Hm:p=0∨p=1∨p=2∨p=3∨p=4∨p=5∨p=6∨p=7:=by omega
 have h3:0<=l[p]*256^p/\dM (l.take p)+l[p]*256^p<18446744073709551616:=by
  refine⟨Int.mul_nonneg hx.1 (Int.le_of_lt (mU p)),?_⟩;clear h2 Fi e1;rcases Hm with rfl | rfl | rfl | rfl | rfl | rfl | rfl | rfl <;>omega
 have h4:=AY (x:=dM (l.take p)) (c:=l[p]) (j:=8*p) h1.1 (by rw[qC];exact h1.2) hx.1 (by rw[qC];exact h3.2);refine⟨by rw[qC];omega,?_⟩;rw[h4,h2,qC,Int.mul_comm]
theorem iD{w:World}{A:OA}{n c:Nat}{l:List Int}(hr:bS w A (cR l))(hn:n=l.length)(hl:l.length<=8)(hb:By l):Calls P 105 #[.slice A n c] w fun ev w'=>ev=.returned (.int .u64 (dM l))/\w'=w:=by
 apply vc105;dsimp only[VC105,Br,Rd,Ix]
 try simp only[aH]
 refine⟨fun m v i W=>∃ p:Nat,i=(p:Int)/\p<=l.length/\m=l.length-p/\v=dM (l.take p)/\W=w,⟨_,0,rfl,by omega,rfl,rfl,rfl⟩,?_⟩;rintro m v i W ⟨p,rfl,hp,rfl,rfl,rfl⟩;have tp:(p:Int).toNat=p:=by omega
 refine⟨fun Cc=>?_,fun Ck=>?_⟩
 ·have lp:p<l.length:=by omega
  obtain⟨a,e1,e2⟩:=hr p (.int .u8 l[p]) (by rw[List.getElem?_map,List.getElem?_eq_getElem lp];rfl);have hx:=hb _ (List.getElem_mem lp);obtain⟨q1,q2⟩:=wQ hl hb lp;refine⟨a,e1,by omega,by omega,l[p],by rw[tp];exact e2,by omega,by omega,⟨by omega,q1⟩,by omega,l.length-(p+1),by omega,p+1,by omega,by omega,rfl,q2,rfl⟩
 ·have:p=l.length:=by omega
  subst this;rw[List.take_length];exact⟨rfl,rfl⟩
theorem iB{w:World}{A:OA}{n c:Nat}{l:List Int}(hr:bS w A (cR l))(hn:n=l.length)(hl:l.length<=8)(hb:By l):Calls P 108 #[.slice A n c] w fun ev w'=>ev=.returned (.int .u64 (dM l))/\w'=w:=by
 apply vc108;dsimp only[VC108,Br,Rd,Ix]
 try simp only[aH]
 refine⟨fun m v i W=>∃ p:Nat,i=(p:Int)/\p<=l.length/\m=l.length-p/\v=dM (l.take p)/\W=w,⟨_,0,rfl,by omega,rfl,rfl,rfl⟩,?_⟩;rintro m v i W ⟨p,rfl,hp,rfl,rfl,rfl⟩;have tp:(p:Int).toNat=p:=by omega
 refine⟨fun Cc=>?_,fun Ck=>?_⟩
 ·have lp:p<l.length:=by omega
  obtain⟨a,e1,e2⟩:=hr p (.int .u8 l[p]) (by rw[List.getElem?_map,List.getElem?_eq_getElem lp];rfl);have hx:=hb _ (List.getElem_mem lp);obtain⟨q1,q2⟩:=wQ hl hb lp;refine⟨a,e1,by omega,by omega,l[p],by rw[tp];exact e2,by omega,by omega,⟨by omega,q1⟩,by omega,l.length-(p+1),by omega,p+1,by omega,by omega,rfl,q2,rfl⟩
 ·have:p=l.length:=by omega
  subst this;rw[List.take_length];exact⟨rfl,rfl⟩
theorem cY{w:World}{A:OA}{l:List Int}(h:bS w A (cR l))(k:Nat):bS w A (cR (l.take k)):=by
 intro j u hj;rw[List.getElem?_map,List.getElem?_take]at hj;split at hj
 ·exact h j u (by rw[List.getElem?_map];exact hj)
 ·simp at hj
theorem oB{w:World}{A:OA}{n c:Nat}{x r:List Int}{N K C:Int}(hr:bS w A (cR x))(hn:n=x.length)(hc:n<=c)(hb:By x)(hx:x=fF N K C++r)(hN:0<=N)(CV:dE N K C):
    Calls P 80 #[.slice A n c] w fun ev w'=>ev=.returned (.tuple #[nI N K C,.int .i64 0])/\w.grownBy w' none:=by
  apply vc80;dsimp only[VC80,rt,Wt,Br,Bb,Rd,Eg,Cv,Ws,cI,cB,nb,iq]
  try simp only[aH]
  have hk:=CV;unfold dE at hk;have Ch:24<=x.length:=by rw[hx,List.length_append,dX];omega
  have e4:x.take 4=[84,71,88,49]:=by rw[hx];exact tA _ _ _ _
  have e24:x.take 24=fF N K C:=by rw[hx];exact List.take_left' (dX _ _ _)
  have eN:(x.drop 4).take 8=bC N 8:=by rw[hx];exact Bg _ _ _ _
  have eK:(x.drop 12).take 4=bC K 4:=by rw[hx];exact Bh _ _ _ _
  have eC:(x.drop 16).take 4=bC C 4:=by rw[hx];exact Bi _ _ _ _
  have gA:=World.grownBy_alloc w (.cells #[.int .u64 0,.int .i64 0,.int .i64 0] 113) none;have bA:=heap_alloc_new w (.cells #[.int .u64 0,.int .i64 0,.int .i64 0] 113);refine⟨fun h=>absurd h (by omega),fun _=>⟨⟨by omega,by omega⟩,aO (x.take 4),fJ (cY (hr.kept_none gA) 4) (by rw[e4];rfl),_,fun w=>mN _ _ _ _ w,fun h=>?_,fun _=>⟨⟨by omega,by omega⟩,?_⟩⟩⟩
  · rw[e4]at h;exact absurd h (by decide)
  refine(nB (cY (hr.kept_none gA) 24) (by rw[e24,dX]) (by omega) (by rw[e24];exact tB _ _ _) (by rw[e24,dX];omega) (by rw[e24];exact(hM _).1)).mono fun ev w1 hh=>?_;obtain⟨A1,n1,c1,rfl,o1,g1⟩:=hh;have b1:=aC bA g1;have DI:=aB gA g1;refine⟨_,_,_,_,rfl,fun h=>(by cases h),fun _=>?_⟩
  -- the numbers
  have gd:=aK (aF w1 none);obtain⟨W0,CK⟩:∃ W0,W0=w1.drew:=⟨_,rfl⟩;rw[← CK]at gd ⊢;have g0:=aB DI gd;have b0:=aC b1 gd;have rN:∀ W,w.grownBy W none->bS W (bM A c 4 1) (cR (bC N 8)):=fun W hW=>by rw[← eN];exact cY (tU (hr.kept_none hW) (by omega)) 8
  have rK:∀ W,w.grownBy W none->bS W (bM A c 12 1) (cR (bC K 4)):=fun W hW=>by rw[← eK];exact cY (tU (hr.kept_none hW) (by omega)) 4
  have rC:∀ W,w.grownBy W none->bS W (bM A c 16 1) (cR (bC C 4)):=fun W hW=>by rw[← eC];exact cY (tU (hr.kept_none hW) (by omega)) 4
  have tN:∀ W,w.grownBy W none->∀ {R:Ending->World->Prop},R (.returned (.int .u64 N)) W->Calls P 105 #[.slice (bM A c 4 1) (12-4) (c-4)] W R:=fun W hW R hR=>(iD (rN W hW) (by rw[aJ]) (by rw[aJ];omega) (By.fix _ _)).mono fun ev w' hh=>by
    obtain⟨rfl,rfl⟩:=hh;rw[eT 8 hN (by omega)];exact hR
  have tK:∀ W,w.grownBy W none->∀ {R:Ending->World->Prop},R (.returned (.int .u64 K)) W->Calls P 105 #[.slice (bM A c 12 1) (16-12) (c-12)] W R:=fun W hW R hR=>(iD (rK W hW) (by rw[aJ]) (by rw[aJ];omega) (By.fix _ _)).mono fun ev w' hh=>by
    obtain⟨rfl,rfl⟩:=hh;rw[eT 4 (by omega) (by omega)];exact hR
  have tC:∀ W,w.grownBy W none->∀ {R:Ending->World->Prop},R (.returned (.int .u64 C)) W->Calls P 105 #[.slice (bM A c 16 1) (20-16) (c-16)] W R:=fun W hW R hR=>(iD (rC W hW) (by rw[aJ]) (by rw[aJ];omega) (By.fix _ _)).mono fun ev w' hh=>by
    obtain⟨rfl,rfl⟩:=hh;rw[eT 4 (by omega) (by omega)];exact hR
  have z1:(0:Int)<=12/\(12:Int)<=(c:Int)/\(0:Int)<=4/\(4:Int)<=12:=by omega
  have z2:(0:Int)<=16/\(16:Int)<=(c:Int)/\(0:Int)<=12/\(12:Int)<=16:=by omega
  have z3:(0:Int)<=20/\(20:Int)<=(c:Int)/\(0:Int)<=16/\(16:Int)<=20:=by omega
  have iK:-9223372036854775808<=K/\K<=9223372036854775807:=by omega
  have iC:-9223372036854775808<=C/\C<=9223372036854775807:=by omega
  have gN:=World.grownBy_alloc W0 (.cells #[.int .u64 0,.int .i64 0,.int .i64 0] 113) none;have s0:=heap_alloc_new W0 (.cells #[.int .u64 0,.int .i64 0,.int .i64 0] 113);have s1:=aG s0 0 (.int .u64 N);have s2:=aG s1 1 (.int .i64 K);have s3:=aG s2 2 (.int .i64 C);have gS:W0.grownBy ((((W0.alloc (.cells #[.int .u64 0,.int .i64 0,.int .i64 0] 113)).setCell ⟨W0.heap.size,0,none⟩ (.int .u64 N)).setCell ⟨W0.heap.size,1,none⟩ (.int .i64 K)).setCell ⟨W0.heap.size,2,none⟩ (.int .i64 C)) none:=(dH (dH (dH (Kp.of_none (S:=fun q=>W0.heap.size<=q) gN) (Nat.le_refl _)) (Nat.le_refl _)) (Nat.le_refl _)).grown (fun q hq e=>by omega);have gNw:=aB g0 gN;refine⟨fun a W=>∃ b:Nat,a=⟨b,0,none⟩/\W.heap[b]?=some (.cells #[.int .u64 N,.int .i64 K,.int .i64 C] 113 (0,0))/\W0.grownBy W none,?_,?_⟩
  · refine⟨⟨⟨⟨z1,tN W0 g0 ⟨_,rfl,z2,tK W0 g0 ⟨_,rfl,iK,z3,tC W0 g0 ⟨_,rfl,iC,⟨_,aA s0 0⟩,aD s0 0,⟨_,aA s1 1⟩,aD s1 1,⟨_,aA s2 2⟩,aD s2 2,_,rfl,s3,gS⟩⟩⟩⟩,⟨z1,tN W0 g0 ⟨_,rfl,z2,tK W0 g0 ⟨_,rfl,iK,z3,tC _ gNw ⟨_,rfl,iC,⟨_,aA s0 0⟩,aD s0 0,⟨_,aA s1 1⟩,aD s1 1,⟨_,aA s2 2⟩,aD s2 2,_,rfl,s3,gS⟩⟩⟩⟩⟩,⟨z1,tN W0 g0 ⟨_,rfl,z2,z3,tK _ gNw ⟨_,rfl,iK,tC _ gNw ⟨_,rfl,iC,⟨_,aA s0 0⟩,aD s0 0,⟨_,aA s1 1⟩,aD s1 1,⟨_,aA s2 2⟩,aD s2 2,_,rfl,s3,gS⟩⟩⟩⟩⟩,⟨z1,z2,z3,tN _ gNw ⟨_,rfl,tK _ gNw ⟨_,rfl,iK,tC _ gNw ⟨_,rfl,iC,⟨_,aA s0 0⟩,aD s0 0,⟨_,aA s1 1⟩,aD s1 1,⟨_,aA s2 2⟩,aD s2 2,_,rfl,s3,gS⟩⟩⟩⟩⟩
  · rintro a W ⟨b,rfl,hB,gW⟩;refine⟨N,by simpa using aA hB 0,K,by rw[bW];exact aA hB 1,C,by rw[bW];exact aA hB 2,kD.mono fun ev W2 hh=>?_⟩;obtain⟨rfl,g2⟩:=hh;have DH:=aC hB g2;have bR:=aC (aC b0 gW) g2;have t1:=aG bR 0 (.int .u64 N);have t2:=aG t1 1 (.int .i64 K);have t3:=aG t2 2 (.int .i64 C);have gF:w.grownBy (((W2.setCell ⟨w.heap.size,0,none⟩ (.int .u64 N)).setCell ⟨w.heap.size,1,none⟩ (.int .i64 K)).setCell ⟨w.heap.size,2,none⟩ (.int .i64 C)) none:=(dH (dH (dH (Kp.of_none (S:=fun q=>w.heap.size<=q) (aB g0 (aB gW g2))) (Nat.le_refl _)) (Nat.le_refl _)) (Nat.le_refl _)).grown (fun q hq e=>by omega);exact⟨_,rfl,fun h=>absurd CV (of_decide_eq_false h),fun _=>⟨N,by simpa using aA DH 0,K,by rw[bW];exact aA DH 1,C,by rw[bW];exact aA DH 2,⟨_,aA bR 0⟩,aD bR 0,⟨_,aA t1 1⟩,aD t1 1,⟨_,aA t2 2⟩,aD t2 2,N,by rw[aA t3 0];rfl,K,by rw[aA t3 1];rfl,C,by rw[aA t3 2];rfl,rfl,gF⟩⟩
theorem uZ(l:List cJ):(hZ l).drop (16*l.length)=[88,71,84,49]:=by unfold hZ;exact List.drop_left' (fZ l)
theorem uY(l:List cJ):(hZ l).take (16*l.length)=l.flatMap eR:=by unfold hZ;exact List.take_left' (fZ l)
theorem sW {w:World} {A:OA} {n c:Nat} {x pre:List Int} {rows:List cJ} {N K C:Int} (hr:bS w A (cR x)) (hn:n=x.length) (hc:n<=c) (hb:By x) (It:x.length<=2^30) (hx:x=pre++iZ rows) (Hi:(pre.length:Int)=24+cG rows) (CV:dE N K C) (FE:(C+K-1) / K=(rows.length:Int)) (Fk:jE rows=true) (hN:∀ r∈rows,Bq r) :
    Calls P 81 #[.slice A n c,nI N K C] w fun ev w'=>∃(A':OA)(n' c':Nat),ev=.returned (.tuple #[.slice A' n' c',.int .i64 0])/\aE w' w.heap.size 118 3 A' n' c' (cH rows)/\w.grownBy w' none:=by
  apply vc81;dsimp only[VC81,rt,Wt,Br,Bb,Rd,Rc,Ap,Eg,Cv,Ws,cI,cB,nb,iq]
  try simp only[aH]
  obtain⟨w1,Cj,g1,b1⟩:=bP w #[.int .u64 N,.int .i64 K,.int .i64 C] 113;rw[← Cj];refine⟨N,aA b1 0,K,aA b1 1,C,aA b1 2,(oD CV).mono fun ev w2 hh=>?_⟩;obtain⟨rfl,g2⟩:=hh;rw[FE];have Ch:x.length=pre.length+(16*rows.length+8):=by rw[hx,List.length_append,fV]
  have DJ:rows.length<=2^30:=by omega
  have CM:0<=cG rows:=by
    have:=gK (l:=rows) fun r hr=>(hN r hr).len.1;omega
  have C9:=aB g1 g2;have tcut:((n:Int)-((rows.length:Int)*16+8)).toNat=pre.length:=by omega
  have rX:bS w2 (bM A c pre.length 1) (cR (iZ rows)):=by
    have:=tU (k:=pre.length) (hr.kept_none C9) (show x.length<=c by omega);rw[hx,List.drop_left' rfl]at this;exact this
  refine⟨_,rfl,by omega,by omega,by omega,fun h=>absurd h (by omega),fun _=>⟨by omega,⟨by omega,by omega⟩,?_⟩⟩;rw[tcut];refine(nB rX (by rw[fV];omega) (by omega) (sE _) (by rw[fV];omega) (hM _).1).mono fun ev w3 hh=>?_;obtain⟨A3,n3,c3,rfl,o3,g3⟩:=hh;have e3:(iZ rows).take ((iZ rows).length-4)=hZ rows:=(hM _).2;rw[e3]at o3;have Fs:n3=16*rows.length+4:=by have h':=o3.cases.1;unfold cR at h';rw[List.length_map,iP]at h';omega
  have IJ:=oU o3;have Cw:=aB C9 g3;have z03:=Cw.size;have t3:((n3:Int)-4).toNat=16*rows.length:=by omega
  have rM:bS w3 (bM A3 c3 (16*rows.length) 1) (cR [88,71,84,49]):=by
    have:=tU (c:=c3) (k:=16*rows.length) o3.row (by rw[iP];omega);rw[uZ]at this;exact this
  have Hq:n3-16*rows.length=4:=by omega
  have Ep:=fJ (n:=n3-16*rows.length) (c:=c3-16*rows.length) rM Hq;refine⟨A3,n3,c3,true,rfl,fun h=>(by cases h),fun _=>⟨by omega,⟨by omega,by omega⟩,_,by rw[t3];exact Ep,_,fun w=>mN _ _ _ _ w,fun h=>absurd h (by decide),fun _=>⟨by omega,by omega,⟨by omega,by omega⟩,?_⟩⟩⟩;rw[t3];have D7:(n:Int)-24-((rows.length:Int)*16+8)=cG rows:=by omega
  rw[D7];have rB:bS w3 A3 (cR (rows.flatMap eR)):=by rw[← uY];exact cY o3.row _
  refine⟨fun q B d e left R s t W=>∃ p:Nat,p<=rows.length/\q=rows.length-p/\aE W w3.heap.size 118 3 B d e (cH (rows.take p))/\left=cG (rows.drop p)/\bS w3 R (cR ((rows.drop p).flatMap eR))/\s=16*(rows.length-p)/\s<=t/\w3.grownBy W none,⟨_,0,by omega,rfl,aE.nil _ _ _ _,rfl,rB,by omega,by omega,aF _ _⟩,?_⟩;rintro q B d e left R s t W ⟨p,hp,rfl,oW,rfl,rW3,rfl,Gb,gW⟩;have rW:=rW3.kept_none gW;have gWw:=aB Cw gW;have zW:=gW.size;have hd:d=p:=by have h':=oW.cases.1;rw[jW,List.length_take]at h';omega
  refine⟨fun Cc=>?_,fun Ck=>?_⟩
  · have lp:p<rows.length:=by omega
    have FC:rows.drop p=rows[p] ::rows.drop (p+1):=List.drop_eq_getElem_cons lp;obtain⟨r,Fj⟩:∃ r,r=rows[p]:=⟨_,rfl⟩;rw[← Fj]at FC;have GD:Bq r:=by rw[Fj];exact hN _ (List.getElem_mem lp)
    rw[FC,List.flatMap_cons]at rW rW3;obtain⟨f1,f2,f3⟩:=yC GD ((rows.drop (p+1)).flatMap eR);obtain⟨q1,q2,q3⟩:=GD;obtain⟨y,hy⟩:∃ y,y=eR r++(rows.drop (p+1)).flatMap eR:=⟨_,rfl⟩;have Ir:y.length=16*(rows.length-p):=by rw[hy,List.length_append,mP,fZ,List.length_drop];omega
    have Fb:By y:=by rw[hy];exact(wT r).append (tG _)
    have Fc:y.drop 16=(rows.drop (p+1)).flatMap eR:=by rw[hy];exact List.drop_left' (mP r)
    rw[← hy]at rW rW3 f1 f2 f3;have gd:=aK (aF W none);obtain⟨W0,CK⟩:∃ W0,W0=W.drew:=⟨_,rfl⟩;rw[← CK]at gd ⊢;have t1:∀ X,W.grownBy X none->∀ {Q:Ending->World->Prop},Q (.returned (.int .u64 r.len)) X->Calls P 108 #[.slice R 4 t] X Q:=fun X hX Q hQ=>(iB (cY (rW.kept_none hX) 4) (by rw[List.length_take];omega) (by rw[List.length_take];omega) (Fb.take _)).mono fun ev w' hh=>by
      obtain⟨rfl,rfl⟩:=hh;rw[f1];exact hQ
    have t2:∀ X,W.grownBy X none->∀ {Q:Ending->World->Prop},Q (.returned (.int .u64 r.first)) X->Calls P 108 #[.slice (bM R t 4 1) (12-4) (t-4)] X Q:=fun X hX Q hQ=>(iB (cY (tU (k:=4) (rW.kept_none hX) (by omega)) 8) (by rw[List.length_take,List.length_drop];omega) (by rw[List.length_take];omega) ((Fb.drop _).take _)).mono fun ev w' hh=>by
      obtain⟨rfl,rfl⟩:=hh;rw[f2];exact hQ
    have t3':∀ X,W.grownBy X none->∀ {Q:Ending->World->Prop},Q (.returned (.int .u64 r.sum)) X->Calls P 108 #[.slice (bM R t 12 1) (16-12) (t-12)] X Q:=fun X hX Q hQ=>(iB (cY (tU (k:=12) (rW.kept_none hX) (by omega)) 4) (by rw[List.length_take,List.length_drop];omega) (by rw[List.length_take];omega) ((Fb.drop _).take _)).mono fun ev w' hh=>by
      obtain⟨rfl,rfl⟩:=hh;rw[f3];exact hQ
    have z0:(0:Int)<=4/\(4:Int)<=(t:Int):=by omega
    have z1:(0:Int)<=12/\(12:Int)<=(t:Int)/\(0:Int)<=4/\(4:Int)<=12:=by omega
    have z2:(0:Int)<=16/\(16:Int)<=(t:Int)/\(0:Int)<=12/\(12:Int)<=16:=by omega
    have i1:-9223372036854775808<=r.len/\r.len<=9223372036854775807:=by omega
    have i2:-9223372036854775808<=r.first/\r.first<=9223372036854775807:=by omega
    have i3:0<=r.sum/\r.sum<=4294967295:=q3;have gN:=World.grownBy_alloc W0 (.cells #[.int .i64 0,.int .i64 0,.int .u32 0] 118) none;have s0:=heap_alloc_new W0 (.cells #[.int .i64 0,.int .i64 0,.int .u32 0] 118);have s1:=aG s0 0 (.int .i64 r.len);have s2:=aG s1 1 (.int .i64 r.first);have s3:=aG s2 2 (.int .u32 r.sum);have gS:W0.grownBy ((((W0.alloc (.cells #[.int .i64 0,.int .i64 0,.int .u32 0] 118)).setCell ⟨W0.heap.size,0,none⟩ (.int .i64 r.len)).setCell ⟨W0.heap.size,1,none⟩ (.int .i64 r.first)).setCell ⟨W0.heap.size,2,none⟩ (.int .u32 r.sum)) none:=(dH (dH (dH (Kp.of_none (S:=fun q=>W0.heap.size<=q) gN) (Nat.le_refl _)) (Nat.le_refl _)) (Nat.le_refl _)).grown (fun q hq e=>by omega);have gNw:=aB gd gN;have zd:=gd.size;refine⟨fun a X=>∃ b:Nat,a=⟨b,0,none⟩/\W.heap.size<=b/\X.heap[b]?=some (.cells #[.int .i64 r.len,.int .i64 r.first,.int .u32 r.sum] 118 (0,0))/\W.grownBy X none,?_,?_⟩
    · exact⟨⟨⟨⟨z0,t1 W0 gd ⟨_,rfl,i1,z1,t2 W0 gd ⟨_,rfl,i2,z2,t3' W0 gd ⟨_,rfl,i3,⟨_,aA s0 0⟩,aD s0 0,⟨_,aA s1 1⟩,aD s1 1,⟨_,aA s2 2⟩,aD s2 2,_,rfl,zd,s3,aB gd gS⟩⟩⟩⟩,⟨z0,t1 W0 gd ⟨_,rfl,i1,z1,t2 W0 gd ⟨_,rfl,i2,z2,t3' _ gNw ⟨_,rfl,i3,⟨_,aA s0 0⟩,aD s0 0,⟨_,aA s1 1⟩,aD s1 1,⟨_,aA s2 2⟩,aD s2 2,_,rfl,zd,s3,aB gd gS⟩⟩⟩⟩⟩,⟨z0,t1 W0 gd ⟨_,rfl,i1,z1,z2,t2 _ gNw ⟨_,rfl,i2,t3' _ gNw ⟨_,rfl,i3,⟨_,aA s0 0⟩,aD s0 0,⟨_,aA s1 1⟩,aD s1 1,⟨_,aA s2 2⟩,aD s2 2,_,rfl,zd,s3,aB gd gS⟩⟩⟩⟩⟩,⟨z0,z1,z2,t1 _ gNw ⟨_,rfl,i1,t2 _ gNw ⟨_,rfl,i2,t3' _ gNw ⟨_,rfl,i3,⟨_,aA s0 0⟩,aD s0 0,⟨_,aA s1 1⟩,aD s1 1,⟨_,aA s2 2⟩,aD s2 2,_,rfl,zd,s3,aB gd gS⟩⟩⟩⟩⟩
    · rintro a X ⟨b,rfl,IL,hB,gX⟩;have gd2:=aK (aF X none);obtain⟨X1,HT⟩:∃ X1,X1=X.drew:=⟨_,rfl⟩;rw[← HT]at gd2 ⊢;have ED:=aC hB gd2;have gA:=World.grownBy_alloc X1 (.cells #[.int .i64 r.len,.int .i64 r.first,.int .u32 r.sum] 118) none;have rA:bS (X1.alloc (.cells #[.int .i64 r.len,.int .i64 r.first,.int .u32 r.sum] 118)) (some ⟨X1.heap.size,0,none⟩) (cH [r]):=jX X1 #[.int .i64 r.len,.int .i64 r.first,.int .u32 r.sum] 118;have gW2:=aB gX (aB gd2 gA);have oW2:=oW.kp (S:=fun _=>False) (Kp.of_none gW2) (fun _ _ e=>e);have gWz:=aB gW gW2;obtain⟨A5,n5,c5,W5,r5,o5,g5⟩:=wN (d:=1) oW2 rA (by omega) gWz.size;have ob:=fun q hq=>(World.ownsRow.lt oW2 q hq).1;have Ii:=aP gWz g5 fun q hq=>ob q hq;have DH:=aC ED gA;have Ib:W5.heap[b]?=some (.cells #[.int .i64 r.len,.int .i64 r.first,.int .u32 r.sum] 118 (0,0)):=by
        rw[g5.block _ (Array.getElem?_eq_some_iff.1 DH).1 (fun e=>by have:=oW.block_lt b e.symm;omega)];exact DH
      have DB:cG (rows.drop p)-r.len=cG (rows.drop (p+1)):=by
        rw[FC];unfold cG;simp;omega
      have CJ:0<=cG (rows.drop (p+1)):=by
        have:=gK (l:=rows.drop (p+1)) fun r hr=>(hN r (List.mem_of_mem_drop hr)).len.1;omega
      have Hu:cG (rows.drop p)<=cG rows:=by
        have h1:=oA (rows.take p) (rows.drop p);rw[List.take_append_drop]at h1;have:=gK (l:=rows.take p) fun r hr=>(hN r (List.mem_of_mem_take hr)).len.1;omega
      refine⟨fun X=>X.heap[b]?=some (.cells #[.int .i64 r.len,.int .i64 r.first,.int .u32 r.sum] 118 (0,0)),ED,r.len,by simpa using aA ED 0,r.first,by rw[bW];exact aA ED 1,r.sum,by rw[bW];exact aA ED 2,DH,A5,n5,c5,W5,r5,Ib,r.len,fun X hX=>by simpa using aA hX 0,by omega,⟨by omega,by omega⟩,rows.length-(p+1),by omega,p+1,by omega,rfl,?_,DB,?_,by omega,by omega,Ii⟩
      · rw[List.take_succ_eq_append_getElem lp,← Fj];exact o5
      · rw[← Fc];exact tU (k:=16) rW3 (by omega)
  · have Hk:p=rows.length:=by omega
    subst Hk;rw[List.take_length]at oW;rw[List.drop_length];refine(kC oW.row hd (by omega)).mono fun ev W1 hh=>?_;obtain⟨rfl,g4⟩:=hh;refine⟨_,rfl,fun h=>absurd (Fk.symm.trans h) (by decide),fun _=>⟨fun h=>absurd rfl h,fun _=>⟨_,_,_,rfl,(oW.kp (S:=fun _=>False) (Kp.of_none g4) (fun _ _ e=>e)).mono z03,aB gWw g4⟩⟩⟩
theorem rF{w:World}{A:OA}{n c:Nat}{l:List Int}(hr:bS w A (cR l))(hn:n=l.length)(hl:l.length<=2^38):
    Calls P 57 #[.slice A n c] w fun ev w'=>∃(A':OA)(n' c':Nat),ev=.returned (.slice A' n' c')/\aE w' w.heap.size 5 1 A' n' c' (cR l)/\w.grownBy w' none:=by
  apply vc57;dsimp only[VC57,Br,Ap,nb];refine⟨fun h=>?_,fun h=>?_⟩
  · subst h;have:l=[]:=by
      cases l with
      | nil=>rfl
      | cons x l=>obtain⟨a,e,_⟩:=hr 0 _ rfl;cases e
    subst this;exact⟨none,0,0,rfl,aE.nil _ _ _ _,aF _ _⟩
  · obtain⟨a,rfl⟩:∃ a,A=some a:=by cases A with
      | none=>exact absurd rfl h
      | some a=>exact⟨a,rfl⟩
    have hg:=World.grownBy_alloc w (.cells #[] 5) none;have ho:aE (w.alloc (.cells #[] 5)) w.heap.size 5 1 (some ⟨w.heap.size,0,none⟩) 0 0 (cR []):=⟨rfl,.inr ⟨w.heap.size,0,#[],rfl,Nat.le_refl _,heap_alloc_new w _,Nat.le_refl _,Nat.zero_le _,rfl,rfl⟩⟩;obtain⟨A',n',c',w',h1,h2,h3,_⟩:=bJ ho (hr.kept_none hg) hn (fun e=>by cases e) (by omega) hg.size;exact⟨A',n',c',w',h1,A',n',c',rfl,by simpa using h2,aP hg h3 fun q hq=>(World.ownsRow.lt ho q hq).1⟩
end Go.Proofs.YtdlomlmijdifbaaGreatDoor

/- Own texts, packed: W10, W11, W12, W13, W14. -/
import Derived.Test.YtdlomlmijdifbaaGreatDoorGWBg
set_option linter.unusedVariables false
set_option linter.unusedSimpArgs false
set_option maxHeartbeats 8000000
set_option maxRecDepth 100000
namespace Go.Proofs.YtdlomlmijdifbaaGreatDoor
open Go Go.V Go.RowKit
theorem tT(p:Nat):(2:Int)^(8*p)=256^p:=by rw[Int.pow_mul];rfl
theorem BZ(x:Int):eP [x]=x:=by simp[eP]
theorem Aq{l:List Int}{p:Nat}(hl:l.length<=8)(hb:By l)(hp:p<l.length):(0<=l[p]*2^(min (Int.toNat (8*(p:Int))) 64)/\l[p]*2^(min (Int.toNat (8*(p:Int))) 64)<=18446744073709551615)/\kD .or .u64 (eP (l.take p)) (l[p]*2^(min (Int.toNat (8*(p:Int))) 64))=eP (l.take (p+1)):=by
 have e1:min (Int.toNat (8*(p:Int))) 64=8*p:=by omega
 rw[e1];have hx:=hb _ (List.getElem_mem hp);have h1:=AC (hb.take p);have FY:(l.take p).length=p:=by rw[List.length_take];omega
 rw[FY]at h1;have h2:eP (l.take (p+1))=eP (l.take p)+256^p*l[p]:=by rw[List.take_succ_eq_append_getElem hp,wA,FY,BZ]
 have Ku:p=0∨p=1∨p=2∨p=3∨p=4∨p=5∨p=6∨p=7:=by omega
 have h3:0<=l[p]*256^p/\eP (l.take p)+l[p]*256^p<18446744073709551616:=by
  refine⟨Int.mul_nonneg hx.1 (Int.le_of_lt (pI p)),?_⟩;clear h2 FY e1;rcases Ku with rfl | rfl | rfl | rfl | rfl | rfl | rfl | rfl <;>omega
 have h4:=CN (x:=eP (l.take p)) (c:=l[p]) (j:=8*p) h1.1 (by rw[tT];exact h1.2) hx.1 (by rw[tT];exact h3.2);refine⟨by rw[tT];omega,?_⟩;rw[h4,h2,tT,Int.mul_comm]
theorem jS{w:World}{A:OA}{n c:Nat}{l:List Int}(hr:bC w A (bY l))(hn:n=l.length)(hl:l.length<=8)(hb:By l):Calls P 105 #[.slice A n c] w fun ev w'=>ev=.returned (.int .u64 (eP l))/\w'=w:=by
 apply vc105;dsimp only[VC105,Br,Rd,Ix]
 try simp only[aI]
 refine⟨fun m v i W=>∃ p:Nat,i=(p:Int)/\p<=l.length/\m=l.length-p/\v=eP (l.take p)/\W=w,⟨_,0,rfl,by omega,rfl,rfl,rfl⟩,?_⟩;rintro m v i W ⟨p,rfl,hp,rfl,rfl,rfl⟩;have tp:(p:Int).toNat=p:=by omega
 refine⟨fun DL=>?_,fun DR=>?_⟩
 ·have lp:p<l.length:=by omega
  obtain⟨a,e1,e2⟩:=hr p (.int .u8 l[p]) (by rw[List.getElem?_map,List.getElem?_eq_getElem lp];rfl);have hx:=hb _ (List.getElem_mem lp);obtain⟨q1,q2⟩:=Aq hl hb lp;refine⟨a,e1,by omega,by omega,l[p],by rw[tp];exact e2,by omega,by omega,⟨by omega,q1⟩,by omega,l.length-(p+1),by omega,p+1,by omega,by omega,rfl,q2,rfl⟩
 ·have:p=l.length:=by omega
  subst this;rw[List.take_length];exact⟨rfl,rfl⟩
theorem jR{w:World}{A:OA}{n c:Nat}{l:List Int}(hr:bC w A (bY l))(hn:n=l.length)(hl:l.length<=8)(hb:By l):Calls P 108 #[.slice A n c] w fun ev w'=>ev=.returned (.int .u64 (eP l))/\w'=w:=by
 apply vc108;dsimp only[VC108,Br,Rd,Ix]
 try simp only[aI]
 refine⟨fun m v i W=>∃ p:Nat,i=(p:Int)/\p<=l.length/\m=l.length-p/\v=eP (l.take p)/\W=w,⟨_,0,rfl,by omega,rfl,rfl,rfl⟩,?_⟩;rintro m v i W ⟨p,rfl,hp,rfl,rfl,rfl⟩;have tp:(p:Int).toNat=p:=by omega
 refine⟨fun DL=>?_,fun DR=>?_⟩
 ·have lp:p<l.length:=by omega
  obtain⟨a,e1,e2⟩:=hr p (.int .u8 l[p]) (by rw[List.getElem?_map,List.getElem?_eq_getElem lp];rfl);have hx:=hb _ (List.getElem_mem lp);obtain⟨q1,q2⟩:=Aq hl hb lp;refine⟨a,e1,by omega,by omega,l[p],by rw[tp];exact e2,by omega,by omega,⟨by omega,q1⟩,by omega,l.length-(p+1),by omega,p+1,by omega,by omega,rfl,q2,rfl⟩
 ·have:p=l.length:=by omega
  subst this;rw[List.take_length];exact⟨rfl,rfl⟩
theorem dS{w:World}{A:OA}{l:List Int}(h:bC w A (bY l))(k:Nat):bC w A (bY (l.take k)):=by
 intro j u hj;rw[List.getElem?_map,List.getElem?_take]at hj;split at hj
 ·exact h j u (by rw[List.getElem?_map];exact hj)
 ·simp at hj
theorem qU{w:World}{A:OA}{n c:Nat}{x r:List Int}{N K C:Int}(hr:bC w A (bY x))(hn:n=x.length)(hc:n<=c)(hb:By x)(hx:x=gM N K C++r)(hN:0<=N)(Er:dX N K C):
    Calls P 80 #[.slice A n c] w fun ev w'=>ev=.returned (.tuple #[pZ N K C,.int .i64 0])/\w.grownBy w' none:=by
  apply vc80;dsimp only[VC80,rt,Wt,Br,Bb,Rd,Eg,Cv,Ws,cI,cB,nb,iq]
  try simp only[aI]
  have hk:=Er;unfold dX at hk;have DO:24<=x.length:=by rw[hx,List.length_append,fE];omega
  have e4:x.take 4=[84,71,88,49]:=by rw[hx];exact wN _ _ _ _
  have e24:x.take 24=gM N K C:=by rw[hx];exact List.take_left' (fE _ _ _)
  have eN:(x.drop 4).take 8=bP N 8:=by rw[hx];exact CX _ _ _ _
  have eK:(x.drop 12).take 4=bP K 4:=by rw[hx];exact CY _ _ _ _
  have eC:(x.drop 16).take 4=bP C 4:=by rw[hx];exact CZ _ _ _ _
  have gA:=World.grownBy_alloc w (.cells #[.int .u64 0,.int .i64 0,.int .i64 0] 113) none;have bA:=heap_alloc_new w (.cells #[.int .u64 0,.int .i64 0,.int .i64 0] 113);refine⟨fun h=>absurd h (by omega),fun _=>⟨⟨by omega,by omega⟩,aO (x.take 4),fI (dS (hr.kept_none gA) 4) (by rw[e4];rfl),_,fun w=>lL _ _ _ _ w,fun h=>?_,fun _=>⟨⟨by omega,by omega⟩,?_⟩⟩⟩
  · rw[e4]at h;exact absurd h (by decide)
  refine(pQ (dS (hr.kept_none gA) 24) (by rw[e24,fE]) (by omega) (by rw[e24];exact wO _ _ _) (by rw[e24,fE];omega) (by rw[e24];exact(jM _).1)).mono fun ev w1 hh=>?_;obtain⟨A1,n1,c1,rfl,o1,g1⟩:=hh;have b1:=aE bA g1;have Fq:=aB gA g1;refine⟨_,_,_,_,rfl,fun h=>(by cases h),fun _=>?_⟩
  -- the numbers
  have gd:=aG (aF w1 none);obtain⟨W0,En⟩:∃ W0,W0=w1.drew:=⟨_,rfl⟩;rw[← En]at gd ⊢;have g0:=aB Fq gd;have b0:=aE b1 gd;have rN:∀ W,w.grownBy W none->bC W (bN A c 4 1) (bY (bP N 8)):=fun W hW=>by rw[← eN];exact dS (uL (hr.kept_none hW) (by omega)) 8
  have rK:∀ W,w.grownBy W none->bC W (bN A c 12 1) (bY (bP K 4)):=fun W hW=>by rw[← eK];exact dS (uL (hr.kept_none hW) (by omega)) 4
  have rC:∀ W,w.grownBy W none->bC W (bN A c 16 1) (bY (bP C 4)):=fun W hW=>by rw[← eC];exact dS (uL (hr.kept_none hW) (by omega)) 4
  have tN:∀ W,w.grownBy W none->∀ {R:Ending->World->Prop},R (.returned (.int .u64 N)) W->Calls P 105 #[.slice (bN A c 4 1) (12-4) (c-4)] W R:=fun W hW R hR=>(jS (rN W hW) (by rw[aM]) (by rw[aM];omega) (By.fix _ _)).mono fun ev w' hh=>by
    obtain⟨rfl,rfl⟩:=hh;rw[fV 8 hN (by omega)];exact hR
  have tK:∀ W,w.grownBy W none->∀ {R:Ending->World->Prop},R (.returned (.int .u64 K)) W->Calls P 105 #[.slice (bN A c 12 1) (16-12) (c-12)] W R:=fun W hW R hR=>(jS (rK W hW) (by rw[aM]) (by rw[aM];omega) (By.fix _ _)).mono fun ev w' hh=>by
    obtain⟨rfl,rfl⟩:=hh;rw[fV 4 (by omega) (by omega)];exact hR
  have tC:∀ W,w.grownBy W none->∀ {R:Ending->World->Prop},R (.returned (.int .u64 C)) W->Calls P 105 #[.slice (bN A c 16 1) (20-16) (c-16)] W R:=fun W hW R hR=>(jS (rC W hW) (by rw[aM]) (by rw[aM];omega) (By.fix _ _)).mono fun ev w' hh=>by
    obtain⟨rfl,rfl⟩:=hh;rw[fV 4 (by omega) (by omega)];exact hR
  have z1:(0:Int)<=12/\(12:Int)<=(c:Int)/\(0:Int)<=4/\(4:Int)<=12:=by omega
  have z2:(0:Int)<=16/\(16:Int)<=(c:Int)/\(0:Int)<=12/\(12:Int)<=16:=by omega
  have z3:(0:Int)<=20/\(20:Int)<=(c:Int)/\(0:Int)<=16/\(16:Int)<=20:=by omega
  have iK:-9223372036854775808<=K/\K<=9223372036854775807:=by omega
  have iC:-9223372036854775808<=C/\C<=9223372036854775807:=by omega
  have gN:=World.grownBy_alloc W0 (.cells #[.int .u64 0,.int .i64 0,.int .i64 0] 113) none;have s0:=heap_alloc_new W0 (.cells #[.int .u64 0,.int .i64 0,.int .i64 0] 113);have s1:=aH s0 0 (.int .u64 N);have s2:=aH s1 1 (.int .i64 K);have s3:=aH s2 2 (.int .i64 C);have gS:W0.grownBy ((((W0.alloc (.cells #[.int .u64 0,.int .i64 0,.int .i64 0] 113)).setCell ⟨W0.heap.size,0,none⟩ (.int .u64 N)).setCell ⟨W0.heap.size,1,none⟩ (.int .i64 K)).setCell ⟨W0.heap.size,2,none⟩ (.int .i64 C)) none:=(dW (dW (dW (Kp.of_none (S:=fun q=>W0.heap.size<=q) gN) (Nat.le_refl _)) (Nat.le_refl _)) (Nat.le_refl _)).grown (fun q hq e=>by omega);have gNw:=aB g0 gN;refine⟨fun a W=>∃ b:Nat,a=⟨b,0,none⟩/\W.heap[b]?=some (.cells #[.int .u64 N,.int .i64 K,.int .i64 C] 113 (0,0))/\W0.grownBy W none,?_,?_⟩
  · refine⟨⟨⟨⟨z1,tN W0 g0 ⟨_,rfl,z2,tK W0 g0 ⟨_,rfl,iK,z3,tC W0 g0 ⟨_,rfl,iC,⟨_,aA s0 0⟩,aC s0 0,⟨_,aA s1 1⟩,aC s1 1,⟨_,aA s2 2⟩,aC s2 2,_,rfl,s3,gS⟩⟩⟩⟩,⟨z1,tN W0 g0 ⟨_,rfl,z2,tK W0 g0 ⟨_,rfl,iK,z3,tC _ gNw ⟨_,rfl,iC,⟨_,aA s0 0⟩,aC s0 0,⟨_,aA s1 1⟩,aC s1 1,⟨_,aA s2 2⟩,aC s2 2,_,rfl,s3,gS⟩⟩⟩⟩⟩,⟨z1,tN W0 g0 ⟨_,rfl,z2,z3,tK _ gNw ⟨_,rfl,iK,tC _ gNw ⟨_,rfl,iC,⟨_,aA s0 0⟩,aC s0 0,⟨_,aA s1 1⟩,aC s1 1,⟨_,aA s2 2⟩,aC s2 2,_,rfl,s3,gS⟩⟩⟩⟩⟩,⟨z1,z2,z3,tN _ gNw ⟨_,rfl,tK _ gNw ⟨_,rfl,iK,tC _ gNw ⟨_,rfl,iC,⟨_,aA s0 0⟩,aC s0 0,⟨_,aA s1 1⟩,aC s1 1,⟨_,aA s2 2⟩,aC s2 2,_,rfl,s3,gS⟩⟩⟩⟩⟩
  · rintro a W ⟨b,rfl,hB,gW⟩;refine⟨N,by simpa using aA hB 0,K,by rw[bB];exact aA hB 1,C,by rw[bB];exact aA hB 2,lU.mono fun ev W2 hh=>?_⟩;obtain⟨rfl,g2⟩:=hh;have FU:=aE hB g2;have bR:=aE (aE b0 gW) g2;have t1:=aH bR 0 (.int .u64 N);have t2:=aH t1 1 (.int .i64 K);have t3:=aH t2 2 (.int .i64 C);have gF:w.grownBy (((W2.setCell ⟨w.heap.size,0,none⟩ (.int .u64 N)).setCell ⟨w.heap.size,1,none⟩ (.int .i64 K)).setCell ⟨w.heap.size,2,none⟩ (.int .i64 C)) none:=(dW (dW (dW (Kp.of_none (S:=fun q=>w.heap.size<=q) (aB g0 (aB gW g2))) (Nat.le_refl _)) (Nat.le_refl _)) (Nat.le_refl _)).grown (fun q hq e=>by omega);exact⟨_,rfl,fun h=>absurd Er (of_decide_eq_false h),fun _=>⟨N,by simpa using aA FU 0,K,by rw[bB];exact aA FU 1,C,by rw[bB];exact aA FU 2,⟨_,aA bR 0⟩,aC bR 0,⟨_,aA t1 1⟩,aC t1 1,⟨_,aA t2 2⟩,aC t2 2,N,by rw[aA t3 0];rfl,K,by rw[aA t3 1];rfl,C,by rw[aA t3 2];rfl,rfl,gF⟩⟩
theorem yN(l:List dI):(jN l).drop (16*l.length)=[88,71,84,49]:=by unfold jN;exact List.drop_left' (iL l)
theorem yM(l:List dI):(jN l).take (16*l.length)=l.flatMap fU:=by unfold jN;exact List.take_left' (iL l)
theorem wH {w:World} {A:OA} {n c:Nat} {x pre:List Int} {rows:List dI} {N K C:Int} (hr:bC w A (bY x)) (hn:n=x.length) (hc:n<=c) (hb:By x) (HH:x.length<=2^30) (hx:x=pre++kJ rows) (Ej:(pre.length:Int)=24+dF rows) (Er:dX N K C) (ID:(C+K-1) / K=(rows.length:Int)) (HX:kO rows=true) (hN:∀ r∈rows,C9 r) :
    Calls P 81 #[.slice A n c,pZ N K C] w fun ev w'=>∃(A':OA)(n' c':Nat),ev=.returned (.tuple #[.slice A' n' c',.int .i64 0])/\aD w' w.heap.size 118 3 A' n' c' (dH rows)/\w.grownBy w' none:=by
  apply vc81;dsimp only[VC81,rt,Wt,Br,Bb,Rd,Rc,Ap,Eg,Cv,Ws,cI,cB,nb,iq]
  try simp only[aI]
  obtain⟨w1,DX,g1,b1⟩:=bZ w #[.int .u64 N,.int .i64 K,.int .i64 C] 113;rw[← DX];refine⟨N,aA b1 0,K,aA b1 1,C,aA b1 2,(qW Er).mono fun ev w2 hh=>?_⟩;obtain⟨rfl,g2⟩:=hh;rw[ID];have DO:x.length=pre.length+(16*rows.length+8):=by rw[hx,List.length_append,iF]
  have Ga:rows.length<=2^30:=by omega
  have Ed:0<=dF rows:=by
    have:=iY (l:=rows) fun r hr=>(hN r hr).len.1;omega
  have EN:=aB g1 g2;have tcut:((n:Int)-((rows.length:Int)*16+8)).toNat=pre.length:=by omega
  have rX:bC w2 (bN A c pre.length 1) (bY (kJ rows)):=by
    have:=uL (k:=pre.length) (hr.kept_none EN) (show x.length<=c by omega);rw[hx,List.drop_left' rfl]at this;exact this
  refine⟨_,rfl,by omega,by omega,by omega,fun h=>absurd h (by omega),fun _=>⟨by omega,⟨by omega,by omega⟩,?_⟩⟩;rw[tcut];refine(pQ rX (by rw[iF];omega) (by omega) (vP _) (by rw[iF];omega) (jM _).1).mono fun ev w3 hh=>?_;obtain⟨A3,n3,c3,rfl,o3,g3⟩:=hh;have e3:(kJ rows).take ((kJ rows).length-4)=jN rows:=(jM _).2;rw[e3]at o3;have F9:n3=16*rows.length+4:=by have h':=o3.cases.1;unfold bY at h';rw[List.length_map,kB]at h';omega
  have LZ:=mQ o3;have Ec:=aB EN g3;have z03:=Ec.size;have t3:((n3:Int)-4).toNat=16*rows.length:=by omega
  have rM:bC w3 (bN A3 c3 (16*rows.length) 1) (bY [88,71,84,49]):=by
    have:=uL (c:=c3) (k:=16*rows.length) o3.row (by rw[kB];omega);rw[yN]at this;exact this
  have Kw:n3-16*rows.length=4:=by omega
  have GZ:=fI (n:=n3-16*rows.length) (c:=c3-16*rows.length) rM Kw;refine⟨A3,n3,c3,true,rfl,fun h=>(by cases h),fun _=>⟨by omega,⟨by omega,by omega⟩,_,by rw[t3];exact GZ,_,fun w=>lL _ _ _ _ w,fun h=>absurd h (by decide),fun _=>⟨by omega,by omega,⟨by omega,by omega⟩,?_⟩⟩⟩;rw[t3];have GF:(n:Int)-24-((rows.length:Int)*16+8)=dF rows:=by omega
  rw[GF];have rB:bC w3 A3 (bY (rows.flatMap fU)):=by rw[← yM];exact dS o3.row _
  refine⟨fun q B d e left R s t W=>∃ p:Nat,p<=rows.length/\q=rows.length-p/\aD W w3.heap.size 118 3 B d e (dH (rows.take p))/\left=dF (rows.drop p)/\bC w3 R (bY ((rows.drop p).flatMap fU))/\s=16*(rows.length-p)/\s<=t/\w3.grownBy W none,⟨_,0,by omega,rfl,aD.nil _ _ _ _,rfl,rB,by omega,by omega,aF _ _⟩,?_⟩;rintro q B d e left R s t W ⟨p,hp,rfl,oW,rfl,rW3,rfl,Jj,gW⟩;have rW:=rW3.kept_none gW;have gWw:=aB Ec gW;have zW:=gW.size;have hd:d=p:=by have h':=oW.cases.1;rw[lN,List.length_take]at h';omega
  refine⟨fun DL=>?_,fun DR=>?_⟩
  · have lp:p<rows.length:=by omega
    have IA:rows.drop p=rows[p] ::rows.drop (p+1):=List.drop_eq_getElem_cons lp;obtain⟨r,HV⟩:∃ r,r=rows[p]:=⟨_,rfl⟩;rw[← HV]at IA;have JP:C9 r:=by rw[HV];exact hN _ (List.getElem_mem lp)
    rw[IA,List.flatMap_cons]at rW rW3;obtain⟨f1,f2,f3⟩:=Bh JP ((rows.drop (p+1)).flatMap fU);obtain⟨q1,q2,q3⟩:=JP;obtain⟨y,hy⟩:∃ y,y=fU r++(rows.drop (p+1)).flatMap fU:=⟨_,rfl⟩;have J8:y.length=16*(rows.length-p):=by rw[hy,List.length_append,pC,iL,List.length_drop];omega
    have Gj:By y:=by rw[hy];exact(Ax r).append (wS _)
    have HG:y.drop 16=(rows.drop (p+1)).flatMap fU:=by rw[hy];exact List.drop_left' (pC r)
    rw[← hy]at rW rW3 f1 f2 f3;have gd:=aG (aF W none);obtain⟨W0,En⟩:∃ W0,W0=W.drew:=⟨_,rfl⟩;rw[← En]at gd ⊢;have t1:∀ X,W.grownBy X none->∀ {Q:Ending->World->Prop},Q (.returned (.int .u64 r.len)) X->Calls P 108 #[.slice R 4 t] X Q:=fun X hX Q hQ=>(jR (dS (rW.kept_none hX) 4) (by rw[List.length_take];omega) (by rw[List.length_take];omega) (Gj.take _)).mono fun ev w' hh=>by
      obtain⟨rfl,rfl⟩:=hh;rw[f1];exact hQ
    have t2:∀ X,W.grownBy X none->∀ {Q:Ending->World->Prop},Q (.returned (.int .u64 r.first)) X->Calls P 108 #[.slice (bN R t 4 1) (12-4) (t-4)] X Q:=fun X hX Q hQ=>(jR (dS (uL (k:=4) (rW.kept_none hX) (by omega)) 8) (by rw[List.length_take,List.length_drop];omega) (by rw[List.length_take];omega) ((Gj.drop _).take _)).mono fun ev w' hh=>by
      obtain⟨rfl,rfl⟩:=hh;rw[f2];exact hQ
    have t3':∀ X,W.grownBy X none->∀ {Q:Ending->World->Prop},Q (.returned (.int .u64 r.sum)) X->Calls P 108 #[.slice (bN R t 12 1) (16-12) (t-12)] X Q:=fun X hX Q hQ=>(jR (dS (uL (k:=12) (rW.kept_none hX) (by omega)) 4) (by rw[List.length_take,List.length_drop];omega) (by rw[List.length_take];omega) ((Gj.drop _).take _)).mono fun ev w' hh=>by
      obtain⟨rfl,rfl⟩:=hh;rw[f3];exact hQ
    have z0:(0:Int)<=4/\(4:Int)<=(t:Int):=by omega
    have z1:(0:Int)<=12/\(12:Int)<=(t:Int)/\(0:Int)<=4/\(4:Int)<=12:=by omega
    have z2:(0:Int)<=16/\(16:Int)<=(t:Int)/\(0:Int)<=12/\(12:Int)<=16:=by omega
    have i1:-9223372036854775808<=r.len/\r.len<=9223372036854775807:=by omega
    have i2:-9223372036854775808<=r.first/\r.first<=9223372036854775807:=by omega
    have i3:0<=r.sum/\r.sum<=4294967295:=q3;have gN:=World.grownBy_alloc W0 (.cells #[.int .i64 0,.int .i64 0,.int .u32 0] 118) none;have s0:=heap_alloc_new W0 (.cells #[.int .i64 0,.int .i64 0,.int .u32 0] 118);have s1:=aH s0 0 (.int .i64 r.len);have s2:=aH s1 1 (.int .i64 r.first);have s3:=aH s2 2 (.int .u32 r.sum);have gS:W0.grownBy ((((W0.alloc (.cells #[.int .i64 0,.int .i64 0,.int .u32 0] 118)).setCell ⟨W0.heap.size,0,none⟩ (.int .i64 r.len)).setCell ⟨W0.heap.size,1,none⟩ (.int .i64 r.first)).setCell ⟨W0.heap.size,2,none⟩ (.int .u32 r.sum)) none:=(dW (dW (dW (Kp.of_none (S:=fun q=>W0.heap.size<=q) gN) (Nat.le_refl _)) (Nat.le_refl _)) (Nat.le_refl _)).grown (fun q hq e=>by omega);have gNw:=aB gd gN;have zd:=gd.size;refine⟨fun a X=>∃ b:Nat,a=⟨b,0,none⟩/\W.heap.size<=b/\X.heap[b]?=some (.cells #[.int .i64 r.len,.int .i64 r.first,.int .u32 r.sum] 118 (0,0))/\W.grownBy X none,?_,?_⟩
    · exact⟨⟨⟨⟨z0,t1 W0 gd ⟨_,rfl,i1,z1,t2 W0 gd ⟨_,rfl,i2,z2,t3' W0 gd ⟨_,rfl,i3,⟨_,aA s0 0⟩,aC s0 0,⟨_,aA s1 1⟩,aC s1 1,⟨_,aA s2 2⟩,aC s2 2,_,rfl,zd,s3,aB gd gS⟩⟩⟩⟩,⟨z0,t1 W0 gd ⟨_,rfl,i1,z1,t2 W0 gd ⟨_,rfl,i2,z2,t3' _ gNw ⟨_,rfl,i3,⟨_,aA s0 0⟩,aC s0 0,⟨_,aA s1 1⟩,aC s1 1,⟨_,aA s2 2⟩,aC s2 2,_,rfl,zd,s3,aB gd gS⟩⟩⟩⟩⟩,⟨z0,t1 W0 gd ⟨_,rfl,i1,z1,z2,t2 _ gNw ⟨_,rfl,i2,t3' _ gNw ⟨_,rfl,i3,⟨_,aA s0 0⟩,aC s0 0,⟨_,aA s1 1⟩,aC s1 1,⟨_,aA s2 2⟩,aC s2 2,_,rfl,zd,s3,aB gd gS⟩⟩⟩⟩⟩,⟨z0,z1,z2,t1 _ gNw ⟨_,rfl,i1,t2 _ gNw ⟨_,rfl,i2,t3' _ gNw ⟨_,rfl,i3,⟨_,aA s0 0⟩,aC s0 0,⟨_,aA s1 1⟩,aC s1 1,⟨_,aA s2 2⟩,aC s2 2,_,rfl,zd,s3,aB gd gS⟩⟩⟩⟩⟩
    · rintro a X ⟨b,rfl,L1,hB,gX⟩;have gd2:=aG (aF X none);obtain⟨X1,Ld⟩:∃ X1,X1=X.drew:=⟨_,rfl⟩;rw[← Ld]at gd2 ⊢;have Hc:=aE hB gd2;have gA:=World.grownBy_alloc X1 (.cells #[.int .i64 r.len,.int .i64 r.first,.int .u32 r.sum] 118) none;have rA:bC (X1.alloc (.cells #[.int .i64 r.len,.int .i64 r.first,.int .u32 r.sum] 118)) (some ⟨X1.heap.size,0,none⟩) (dH [r]):=lO X1 #[.int .i64 r.len,.int .i64 r.first,.int .u32 r.sum] 118;have gW2:=aB gX (aB gd2 gA);have oW2:=oW.kp (S:=fun _=>False) (Kp.of_none gW2) (fun _ _ e=>e);have gWz:=aB gW gW2;obtain⟨A5,n5,c5,W5,r5,o5,g5⟩:=Al (d:=1) oW2 rA (by omega) gWz.size;have ob:=fun q hq=>(World.ownsRow.lt oW2 q hq).1;have Lu:=aP gWz g5 fun q hq=>ob q hq;have FU:=aE Hc gA;have Ln:W5.heap[b]?=some (.cells #[.int .i64 r.len,.int .i64 r.first,.int .u32 r.sum] 118 (0,0)):=by
        rw[g5.block _ (Array.getElem?_eq_some_iff.1 FU).1 (fun e=>by have:=oW.block_lt b e.symm;omega)];exact FU
      have FK:dF (rows.drop p)-r.len=dF (rows.drop (p+1)):=by
        rw[IA];unfold dF;simp;omega
      have Ev:0<=dF (rows.drop (p+1)):=by
        have:=iY (l:=rows.drop (p+1)) fun r hr=>(hN r (List.mem_of_mem_drop hr)).len.1;omega
      have KB:dF (rows.drop p)<=dF rows:=by
        have h1:=qS (rows.take p) (rows.drop p);rw[List.take_append_drop]at h1;have:=iY (l:=rows.take p) fun r hr=>(hN r (List.mem_of_mem_take hr)).len.1;omega
      refine⟨fun X=>X.heap[b]?=some (.cells #[.int .i64 r.len,.int .i64 r.first,.int .u32 r.sum] 118 (0,0)),Hc,r.len,by simpa using aA Hc 0,r.first,by rw[bB];exact aA Hc 1,r.sum,by rw[bB];exact aA Hc 2,FU,A5,n5,c5,W5,r5,Ln,r.len,fun X hX=>by simpa using aA hX 0,by omega,⟨by omega,by omega⟩,rows.length-(p+1),by omega,p+1,by omega,rfl,?_,FK,?_,by omega,by omega,Lu⟩
      · rw[List.take_succ_eq_append_getElem lp,← HV];exact o5
      · rw[← HG];exact uL (k:=16) rW3 (by omega)
  · have Ks:p=rows.length:=by omega
    subst Ks;rw[List.take_length]at oW;rw[List.drop_length];refine(lS oW.row hd (by omega)).mono fun ev W1 hh=>?_;obtain⟨rfl,g4⟩:=hh;refine⟨_,rfl,fun h=>absurd (HX.symm.trans h) (by decide),fun _=>⟨fun h=>absurd rfl h,fun _=>⟨_,_,_,rfl,(oW.kp (S:=fun _=>False) (Kp.of_none g4) (fun _ _ e=>e)).mono z03,aB gWw g4⟩⟩⟩
theorem uT{w:World}{A:OA}{n c:Nat}{l:List Int}(hr:bC w A (bY l))(hn:n=l.length)(hl:l.length<=2^38):
    Calls P 57 #[.slice A n c] w fun ev w'=>∃(A':OA)(n' c':Nat),ev=.returned (.slice A' n' c')/\aD w' w.heap.size 5 1 A' n' c' (bY l)/\w.grownBy w' none:=by
  apply vc57;dsimp only[VC57,Br,Ap,nb];refine⟨fun h=>?_,fun h=>?_⟩
  · subst h;have:l=[]:=by
      cases l with
      | nil=>rfl
      | cons x l=>obtain⟨a,e,_⟩:=hr 0 _ rfl;cases e
    subst this;exact⟨none,0,0,rfl,aD.nil _ _ _ _,aF _ _⟩
  · obtain⟨a,rfl⟩:∃ a,A=some a:=by cases A with
      | none=>exact absurd rfl h
      | some a=>exact⟨a,rfl⟩
    have hg:=World.grownBy_alloc w (.cells #[] 5) none;have ho:aD (w.alloc (.cells #[] 5)) w.heap.size 5 1 (some ⟨w.heap.size,0,none⟩) 0 0 (bY []):=⟨rfl,.inr ⟨w.heap.size,0,#[],rfl,Nat.le_refl _,heap_alloc_new w _,Nat.le_refl _,Nat.zero_le _,rfl,rfl⟩⟩;obtain⟨A',n',c',w',h1,h2,h3,_⟩:=cA ho (hr.kept_none hg) hn (fun e=>by cases e) (by omega) hg.size;exact⟨A',n',c',w',h1,A',n',c',rfl,by simpa using h2,aP hg h3 fun q hq=>(World.ownsRow.lt ho q hq).1⟩
end Go.Proofs.YtdlomlmijdifbaaGreatDoor

/- Own texts, packed: W10, W11, W12, W13, W14. -/
import Derived.Test.YtlieaecnllkefaaGreatGWBg
set_option linter.unusedVariables false
set_option linter.unusedSimpArgs false
set_option maxHeartbeats 8000000
set_option maxRecDepth 100000
namespace Go.Proofs.YtlieaecnllkefaaGreat
open Go Go.V Go.RowKit
theorem uJ(p:Nat):(2:Int)^(8*p)=256^p:=by rw[Int.pow_mul];rfl
theorem Bt(x:Int):fO [x]=x:=by simp[fO]
theorem yY{l:List Int}{p:Nat}(hl:l.length<=8)(hb:By l)(hp:p<l.length):(0<=l[p]*2^(min (Int.toNat (8*(p:Int))) 64)/\l[p]*2^(min (Int.toNat (8*(p:Int))) 64)<=18446744073709551615)/\dC .or .u64 (fO (l.take p)) (l[p]*2^(min (Int.toNat (8*(p:Int))) 64))=fO (l.take (p+1)):=by
 have e1:min (Int.toNat (8*(p:Int))) 64=8*p:=by omega
 rw[e1];have hx:=hb _ (List.getElem_mem hp);have h1:=za (hb.take p);have HW:(l.take p).length=p:=by rw[List.length_take];omega
 rw[HW]at h1;have h2:fO (l.take (p+1))=fO (l.take p)+256^p*l[p]:=by rw[List.take_succ_eq_append_getElem hp,vY,HW,Bt]
 have QZ:p=0∨p=1∨p=2∨p=3∨p=4∨p=5∨p=6∨p=7:=by omega
 have h3:0<=l[p]*256^p/\fO (l.take p)+l[p]*256^p<18446744073709551616:=by
  refine⟨Int.mul_nonneg hx.1 (Int.le_of_lt (kf p)),?_⟩;clear h2 HW e1;rcases QZ with rfl | rfl | rfl | rfl | rfl | rfl | rfl | rfl <;>omega
 have h4:=uR (x:=fO (l.take p)) (c:=l[p]) (j:=8*p) h1.1 (by rw[uJ];exact h1.2) hx.1 (by rw[uJ];exact h3.2);refine⟨by rw[uJ];omega,?_⟩;rw[h4,h2,uJ,Int.mul_comm]
theorem lD{w:World}{A:OA}{n c:Nat}{l:List Int}(hr:bB w A (cz l))(hn:n=l.length)(hl:l.length<=8)(hb:By l):Calls P 84 #[.slice A n c] w fun ev w'=>ev=.returned (.int .u64 (fO l))/\w'=w:=by
 apply vc84;dsimp only[VC84,Br,Rd,Ix]
 try simp only[aG]
 refine⟨fun m v i W=>∃ p:Nat,i=(p:Int)/\p<=l.length/\m=l.length-p/\v=fO (l.take p)/\W=w,⟨_,0,rfl,by omega,rfl,rfl,rfl⟩,?_⟩;rintro m v i W ⟨p,rfl,hp,rfl,rfl,rfl⟩;have tp:(p:Int).toNat=p:=by omega
 refine⟨fun DF=>?_,fun DK=>?_⟩
 ·have lp:p<l.length:=by omega
  obtain⟨a,e1,e2⟩:=hr p (.int .u8 l[p]) (by rw[List.getElem?_map,List.getElem?_eq_getElem lp];rfl);have hx:=hb _ (List.getElem_mem lp);obtain⟨q1,q2⟩:=yY hl hb lp;refine⟨a,e1,by omega,by omega,l[p],by rw[tp];exact e2,by omega,by omega,⟨by omega,q1⟩,by omega,l.length-(p+1),by omega,p+1,by omega,by omega,rfl,q2,rfl⟩
 ·have:p=l.length:=by omega
  subst this;rw[List.take_length];exact⟨rfl,rfl⟩
theorem ly{w:World}{A:OA}{n c:Nat}{l:List Int}(hr:bB w A (cz l))(hn:n=l.length)(hl:l.length<=8)(hb:By l):Calls P 85 #[.slice A n c] w fun ev w'=>ev=.returned (.int .u64 (fO l))/\w'=w:=by
 apply vc85;dsimp only[VC85,Br,Rd,Ix]
 try simp only[aG]
 refine⟨fun m v i W=>∃ p:Nat,i=(p:Int)/\p<=l.length/\m=l.length-p/\v=fO (l.take p)/\W=w,⟨_,0,rfl,by omega,rfl,rfl,rfl⟩,?_⟩;rintro m v i W ⟨p,rfl,hp,rfl,rfl,rfl⟩;have tp:(p:Int).toNat=p:=by omega
 refine⟨fun DF=>?_,fun DK=>?_⟩
 ·have lp:p<l.length:=by omega
  obtain⟨a,e1,e2⟩:=hr p (.int .u8 l[p]) (by rw[List.getElem?_map,List.getElem?_eq_getElem lp];rfl);have hx:=hb _ (List.getElem_mem lp);obtain⟨q1,q2⟩:=yY hl hb lp;refine⟨a,e1,by omega,by omega,l[p],by rw[tp];exact e2,by omega,by omega,⟨by omega,q1⟩,by omega,l.length-(p+1),by omega,p+1,by omega,by omega,rfl,q2,rfl⟩
 ·have:p=l.length:=by omega
  subst this;rw[List.take_length];exact⟨rfl,rfl⟩
theorem eH{w:World}{A:OA}{l:List Int}(h:bB w A (cz l))(k:Nat):bB w A (cz (l.take k)):=by
 intro j u hj;rw[List.getElem?_map,List.getElem?_take]at hj;split at hj
 ·exact h j u (by rw[List.getElem?_map];exact hj)
 ·simp at hj
theorem sV{w:World}{A:OA}{n c:Nat}{x r:List Int}{N K C:Int}(hr:bB w A (cz x))(hn:n=x.length)(hc:n<=c)(hb:By x)(hx:x=gg N K C++r)(hN:0<=N)(hok:dx N K C):
    Calls P 45 #[.slice A n c] w fun ev w'=>ev=.returned (.tuple #[i9 N K C,.int .i64 0])/\w.grownBy w' none:=by
  apply vc45;dsimp only[VC45,rt,Wt,Br,Bb,Rd,Eg,Cv,Ws,cI,cB,nb,iq]
  try simp only[aG]
  have hk:=hok;unfold dx at hk;have DH:24<=x.length:=by rw[hx,List.length_append,fK];omega
  have e4:x.take 4=[84,71,88,49]:=by rw[hx];exact wA _ _ _ _
  have e24:x.take 24=gg N K C:=by rw[hx];exact List.take_left' (fK _ _ _)
  have eN:(x.drop 4).take 8=cZ N 8:=by rw[hx];exact u7 _ _ _ _
  have eK:(x.drop 12).take 4=cZ K 4:=by rw[hx];exact u9 _ _ _ _
  have eC:(x.drop 16).take 4=cZ C 4:=by rw[hx];exact va _ _ _ _
  have gA:=World.grownBy_alloc w (.cells #[.int .u64 0,.int .i64 0,.int .i64 0] 51) none;have bA:=heap_alloc_new w (.cells #[.int .u64 0,.int .i64 0,.int .i64 0] 51);refine⟨fun h=>absurd h (by omega),fun _=>⟨⟨by omega,by omega⟩,mF (x.take 4),dG (eH (hr.kept_none gA) 4) (by rw[e4];rfl),_,fun w=>vK _ _ _ _ w,fun h=>?_,fun _=>⟨⟨by omega,by omega⟩,?_⟩⟩⟩
  · rw[e4]at h;exact absurd h (by decide)
  refine(rh (eH (hr.kept_none gA) 24) (by rw[e24,fK]) (by omega) (by rw[e24];exact wB _ _ _) (by rw[e24,fK];omega) (by rw[e24];exact(kY _).1)).mono fun ev w1 hh=>?_;obtain⟨A1,n1,c1,rfl,o1,g1⟩:=hh;have b1:=aE bA g1;have Fw:=aB gA g1;refine⟨_,_,_,_,rfl,fun h=>(by cases h),fun _=>?_⟩
  -- the numbers
  have gd:=aI (aD w1 none);obtain⟨W0,Lt⟩:∃ W0,W0=w1.drew:=⟨_,rfl⟩;rw[← Lt]at gd ⊢;have g0:=aB Fw gd;have b0:=aE b1 gd;have rN:∀ W,w.grownBy W none->bB W (bN A c 4 1) (cz (cZ N 8)):=fun W hW=>by rw[← eN];exact eH (pk (hr.kept_none hW) (by omega)) 8
  have rK:∀ W,w.grownBy W none->bB W (bN A c 12 1) (cz (cZ K 4)):=fun W hW=>by rw[← eK];exact eH (pk (hr.kept_none hW) (by omega)) 4
  have rC:∀ W,w.grownBy W none->bB W (bN A c 16 1) (cz (cZ C 4)):=fun W hW=>by rw[← eC];exact eH (pk (hr.kept_none hW) (by omega)) 4
  have tN:∀ W,w.grownBy W none->∀ {R:Ending->World->Prop},R (.returned (.int .u64 N)) W->Calls P 84 #[.slice (bN A c 4 1) (12-4) (c-4)] W R:=fun W hW R hR=>(lD (rN W hW) (by rw[aW]) (by rw[aW];omega) (By.fix _ _)).mono fun ev w' hh=>by
    obtain⟨rfl,rfl⟩:=hh;rw[fY 8 hN (by omega)];exact hR
  have tK:∀ W,w.grownBy W none->∀ {R:Ending->World->Prop},R (.returned (.int .u64 K)) W->Calls P 84 #[.slice (bN A c 12 1) (16-12) (c-12)] W R:=fun W hW R hR=>(lD (rK W hW) (by rw[aW]) (by rw[aW];omega) (By.fix _ _)).mono fun ev w' hh=>by
    obtain⟨rfl,rfl⟩:=hh;rw[fY 4 (by omega) (by omega)];exact hR
  have tC:∀ W,w.grownBy W none->∀ {R:Ending->World->Prop},R (.returned (.int .u64 C)) W->Calls P 84 #[.slice (bN A c 16 1) (20-16) (c-16)] W R:=fun W hW R hR=>(lD (rC W hW) (by rw[aW]) (by rw[aW];omega) (By.fix _ _)).mono fun ev w' hh=>by
    obtain⟨rfl,rfl⟩:=hh;rw[fY 4 (by omega) (by omega)];exact hR
  have z1:(0:Int)<=12/\(12:Int)<=(c:Int)/\(0:Int)<=4/\(4:Int)<=12:=by omega
  have z2:(0:Int)<=16/\(16:Int)<=(c:Int)/\(0:Int)<=12/\(12:Int)<=16:=by omega
  have z3:(0:Int)<=20/\(20:Int)<=(c:Int)/\(0:Int)<=16/\(16:Int)<=20:=by omega
  have iK:-9223372036854775808<=K/\K<=9223372036854775807:=by omega
  have iC:-9223372036854775808<=C/\C<=9223372036854775807:=by omega
  have gN:=World.grownBy_alloc W0 (.cells #[.int .u64 0,.int .i64 0,.int .i64 0] 51) none;have s0:=heap_alloc_new W0 (.cells #[.int .u64 0,.int .i64 0,.int .i64 0] 51);have s1:=aF s0 0 (.int .u64 N);have s2:=aF s1 1 (.int .i64 K);have s3:=aF s2 2 (.int .i64 C);have gS:W0.grownBy ((((W0.alloc (.cells #[.int .u64 0,.int .i64 0,.int .i64 0] 51)).setCell ⟨W0.heap.size,0,none⟩ (.int .u64 N)).setCell ⟨W0.heap.size,1,none⟩ (.int .i64 K)).setCell ⟨W0.heap.size,2,none⟩ (.int .i64 C)) none:=(cF (cF (cF (Kp.of_none (S:=fun q=>W0.heap.size<=q) gN) (Nat.le_refl _)) (Nat.le_refl _)) (Nat.le_refl _)).grown (fun q hq e=>by omega);have gNw:=aB g0 gN;refine⟨fun a W=>∃ b:Nat,a=⟨b,0,none⟩/\W.heap[b]?=some (.cells #[.int .u64 N,.int .i64 K,.int .i64 C] 51 (0,0))/\W0.grownBy W none,?_,?_⟩
  · refine⟨⟨⟨⟨z1,tN W0 g0 ⟨_,rfl,z2,tK W0 g0 ⟨_,rfl,iK,z3,tC W0 g0 ⟨_,rfl,iC,⟨_,aA s0 0⟩,aC s0 0,⟨_,aA s1 1⟩,aC s1 1,⟨_,aA s2 2⟩,aC s2 2,_,rfl,s3,gS⟩⟩⟩⟩,⟨z1,tN W0 g0 ⟨_,rfl,z2,tK W0 g0 ⟨_,rfl,iK,z3,tC _ gNw ⟨_,rfl,iC,⟨_,aA s0 0⟩,aC s0 0,⟨_,aA s1 1⟩,aC s1 1,⟨_,aA s2 2⟩,aC s2 2,_,rfl,s3,gS⟩⟩⟩⟩⟩,⟨z1,tN W0 g0 ⟨_,rfl,z2,z3,tK _ gNw ⟨_,rfl,iK,tC _ gNw ⟨_,rfl,iC,⟨_,aA s0 0⟩,aC s0 0,⟨_,aA s1 1⟩,aC s1 1,⟨_,aA s2 2⟩,aC s2 2,_,rfl,s3,gS⟩⟩⟩⟩⟩,⟨z1,z2,z3,tN _ gNw ⟨_,rfl,tK _ gNw ⟨_,rfl,iK,tC _ gNw ⟨_,rfl,iC,⟨_,aA s0 0⟩,aC s0 0,⟨_,aA s1 1⟩,aC s1 1,⟨_,aA s2 2⟩,aC s2 2,_,rfl,s3,gS⟩⟩⟩⟩⟩
  · rintro a W ⟨b,rfl,hB,gW⟩;refine⟨N,by simpa using aA hB 0,K,by rw[kK];exact aA hB 1,C,by rw[kK];exact aA hB 2,kv.mono fun ev W2 hh=>?_⟩;obtain⟨rfl,g2⟩:=hh;have HS:=aE hB g2;have bR:=aE (aE b0 gW) g2;have t1:=aF bR 0 (.int .u64 N);have t2:=aF t1 1 (.int .i64 K);have t3:=aF t2 2 (.int .i64 C);have gF:w.grownBy (((W2.setCell ⟨w.heap.size,0,none⟩ (.int .u64 N)).setCell ⟨w.heap.size,1,none⟩ (.int .i64 K)).setCell ⟨w.heap.size,2,none⟩ (.int .i64 C)) none:=(cF (cF (cF (Kp.of_none (S:=fun q=>w.heap.size<=q) (aB g0 (aB gW g2))) (Nat.le_refl _)) (Nat.le_refl _)) (Nat.le_refl _)).grown (fun q hq e=>by omega);exact⟨_,rfl,fun h=>absurd hok (of_decide_eq_false h),fun _=>⟨N,by simpa using aA HS 0,K,by rw[kK];exact aA HS 1,C,by rw[kK];exact aA HS 2,⟨_,aA bR 0⟩,aC bR 0,⟨_,aA t1 1⟩,aC t1 1,⟨_,aA t2 2⟩,aC t2 2,N,by rw[aA t3 0];rfl,K,by rw[aA t3 1];rfl,C,by rw[aA t3 2];rfl,rfl,gF⟩⟩
theorem xO(l:List dV):(jL l).drop (16*l.length)=[88,71,84,49]:=by unfold jL;exact List.drop_left' (gV l)
theorem xN(l:List dV):(jL l).take (16*l.length)=l.flatMap fW:=by unfold jL;exact List.take_left' (gV l)
theorem wm {w:World} {A:OA} {n c:Nat} {x pre:List Int} {rows:List dV} {N K C:Int} (hr:bB w A (cz x)) (hn:n=x.length) (hc:n<=c) (hb:By x) (OG:x.length<=2^30) (hx:x=pre++iw rows) (QS:(pre.length:Int)=24+cK rows) (hok:dx N K C) (Jd:(C+K-1) / K=(rows.length:Int)) (MK:rowsOk rows=true) (hN:∀ r∈rows,td r) :
    Calls P 46 #[.slice A n c,i9 N K C] w fun ev w'=>∃(A':OA)(n' c':Nat),ev=.returned (.tuple #[.slice A' n' c',.int .i64 0])/\aH w' w.heap.size 60 3 A' n' c' (dZ rows)/\w.grownBy w' none:=by
  apply vc46;dsimp only[VC46,rt,Wt,Br,Bb,Rd,Rc,Ap,Eg,Cv,Ws,cI,cB,nb,iq]
  try simp only[aG]
  obtain⟨w1,DG,g1,b1⟩:=fQ w #[.int .u64 N,.int .i64 K,.int .i64 C] 51;rw[← DG];refine⟨N,aA b1 0,K,aA b1 1,C,aA b1 2,(il hok).mono fun ev w2 hh=>?_⟩;obtain⟨rfl,g2⟩:=hh;rw[Jd];have DH:x.length=pre.length+(16*rows.length+8):=by rw[hx,List.length_append,jM]
  have JG:rows.length<=2^30:=by omega
  have DZ:0<=cK rows:=by
    have:=ko (l:=rows) fun r hr=>(hN r hr).len.1;omega
  have Fd:=aB g1 g2;have tcut:((n:Int)-((rows.length:Int)*16+8)).toNat=pre.length:=by omega
  have rX:bB w2 (bN A c pre.length 1) (cz (iw rows)):=by
    have:=pk (k:=pre.length) (hr.kept_none Fd) (show x.length<=c by omega);rw[hx,List.drop_left' rfl]at this;exact this
  refine⟨_,rfl,by omega,by omega,by omega,fun h=>absurd h (by omega),fun _=>⟨by omega,⟨by omega,by omega⟩,?_⟩⟩;rw[tcut];refine(rh rX (by rw[jM];omega) (by omega) (vM _) (by rw[jM];omega) (kY _).1).mono fun ev w3 hh=>?_;obtain⟨A3,n3,c3,rfl,o3,g3⟩:=hh;have e3:(iw rows).take ((iw rows).length-4)=jL rows:=(kY _).2;rw[e3]at o3;have Gs:n3=16*rows.length+4:=by have h':=o3.cases.1;unfold cz at h';rw[List.length_map,ma]at h';omega
  have Ll:=d9 o3;have DP:=aB Fd g3;have z03:=DP.size;have t3:((n3:Int)-4).toNat=16*rows.length:=by omega
  have rM:bB w3 (bN A3 c3 (16*rows.length) 1) (cz [88,71,84,49]):=by
    have:=pk (c:=c3) (k:=16*rows.length) o3.row (by rw[ma];omega);rw[xO]at this;exact this
  have Q8:n3-16*rows.length=4:=by omega
  have Li:=dG (n:=n3-16*rows.length) (c:=c3-16*rows.length) rM Q8;refine⟨A3,n3,c3,true,rfl,fun h=>(by cases h),fun _=>⟨by omega,⟨by omega,by omega⟩,_,by rw[t3];exact Li,_,fun w=>vK _ _ _ _ w,fun h=>absurd h (by decide),fun _=>⟨by omega,by omega,⟨by omega,by omega⟩,?_⟩⟩⟩;rw[t3];have KP:(n:Int)-24-((rows.length:Int)*16+8)=cK rows:=by omega
  rw[KP];have rB:bB w3 A3 (cz (rows.flatMap fW)):=by rw[← xN];exact eH o3.row _
  refine⟨fun q B d e left R s t W=>∃ p:Nat,p<=rows.length/\q=rows.length-p/\aH W w3.heap.size 60 3 B d e (dZ (rows.take p))/\left=cK (rows.drop p)/\bB w3 R (cz ((rows.drop p).flatMap fW))/\s=16*(rows.length-p)/\s<=t/\w3.grownBy W none,⟨_,0,by omega,rfl,aH.nil _ _ _ _,rfl,rB,by omega,by omega,aD _ _⟩,?_⟩;rintro q B d e left R s t W ⟨p,hp,rfl,oW,rfl,rW3,rfl,HZ,gW⟩;have rW:=rW3.kept_none gW;have gWw:=aB DP gW;have zW:=gW.size;have hd:d=p:=by have h':=oW.cases.1;rw[fd,List.length_take]at h';omega
  refine⟨fun DF=>?_,fun DK=>?_⟩
  · have lp:p<rows.length:=by omega
    have NF:rows.drop p=rows[p] ::rows.drop (p+1):=List.drop_eq_getElem_cons lp;obtain⟨r,MJ⟩:∃ r,r=rows[p]:=⟨_,rfl⟩;rw[← MJ]at NF;have PF:td r:=by rw[MJ];exact hN _ (List.getElem_mem lp)
    rw[NF,List.flatMap_cons]at rW rW3;obtain⟨f1,f2,f3⟩:=oP PF ((rows.drop (p+1)).flatMap fW);obtain⟨q1,q2,q3⟩:=PF;obtain⟨y,hy⟩:∃ y,y=fW r++(rows.drop (p+1)).flatMap fW:=⟨_,rfl⟩;have Qf:y.length=16*(rows.length-p):=by rw[hy,List.length_append,qU,gV,List.length_drop];omega
    have Jz:By y:=by rw[hy];exact(y7 r).append (wE _)
    have Mu:y.drop 16=(rows.drop (p+1)).flatMap fW:=by rw[hy];exact List.drop_left' (qU r)
    rw[← hy]at rW rW3 f1 f2 f3;have gd:=aI (aD W none);obtain⟨W0,Lt⟩:∃ W0,W0=W.drew:=⟨_,rfl⟩;rw[← Lt]at gd ⊢;have t1:∀ X,W.grownBy X none->∀ {Q:Ending->World->Prop},Q (.returned (.int .u64 r.len)) X->Calls P 85 #[.slice R 4 t] X Q:=fun X hX Q hQ=>(ly (eH (rW.kept_none hX) 4) (by rw[List.length_take];omega) (by rw[List.length_take];omega) (Jz.take _)).mono fun ev w' hh=>by
      obtain⟨rfl,rfl⟩:=hh;rw[f1];exact hQ
    have t2:∀ X,W.grownBy X none->∀ {Q:Ending->World->Prop},Q (.returned (.int .u64 r.first)) X->Calls P 85 #[.slice (bN R t 4 1) (12-4) (t-4)] X Q:=fun X hX Q hQ=>(ly (eH (pk (k:=4) (rW.kept_none hX) (by omega)) 8) (by rw[List.length_take,List.length_drop];omega) (by rw[List.length_take];omega) ((Jz.drop _).take _)).mono fun ev w' hh=>by
      obtain⟨rfl,rfl⟩:=hh;rw[f2];exact hQ
    have t3':∀ X,W.grownBy X none->∀ {Q:Ending->World->Prop},Q (.returned (.int .u64 r.sum)) X->Calls P 85 #[.slice (bN R t 12 1) (16-12) (t-12)] X Q:=fun X hX Q hQ=>(ly (eH (pk (k:=12) (rW.kept_none hX) (by omega)) 4) (by rw[List.length_take,List.length_drop];omega) (by rw[List.length_take];omega) ((Jz.drop _).take _)).mono fun ev w' hh=>by
      obtain⟨rfl,rfl⟩:=hh;rw[f3];exact hQ
    have z0:(0:Int)<=4/\(4:Int)<=(t:Int):=by omega
    have z1:(0:Int)<=12/\(12:Int)<=(t:Int)/\(0:Int)<=4/\(4:Int)<=12:=by omega
    have z2:(0:Int)<=16/\(16:Int)<=(t:Int)/\(0:Int)<=12/\(12:Int)<=16:=by omega
    have i1:-9223372036854775808<=r.len/\r.len<=9223372036854775807:=by omega
    have i2:-9223372036854775808<=r.first/\r.first<=9223372036854775807:=by omega
    have i3:0<=r.sum/\r.sum<=4294967295:=q3;have gN:=World.grownBy_alloc W0 (.cells #[.int .i64 0,.int .i64 0,.int .u32 0] 60) none;have s0:=heap_alloc_new W0 (.cells #[.int .i64 0,.int .i64 0,.int .u32 0] 60);have s1:=aF s0 0 (.int .i64 r.len);have s2:=aF s1 1 (.int .i64 r.first);have s3:=aF s2 2 (.int .u32 r.sum);have gS:W0.grownBy ((((W0.alloc (.cells #[.int .i64 0,.int .i64 0,.int .u32 0] 60)).setCell ⟨W0.heap.size,0,none⟩ (.int .i64 r.len)).setCell ⟨W0.heap.size,1,none⟩ (.int .i64 r.first)).setCell ⟨W0.heap.size,2,none⟩ (.int .u32 r.sum)) none:=(cF (cF (cF (Kp.of_none (S:=fun q=>W0.heap.size<=q) gN) (Nat.le_refl _)) (Nat.le_refl _)) (Nat.le_refl _)).grown (fun q hq e=>by omega);have gNw:=aB gd gN;have zd:=gd.size;refine⟨fun a X=>∃ b:Nat,a=⟨b,0,none⟩/\W.heap.size<=b/\X.heap[b]?=some (.cells #[.int .i64 r.len,.int .i64 r.first,.int .u32 r.sum] 60 (0,0))/\W.grownBy X none,?_,?_⟩
    · exact⟨⟨⟨⟨z0,t1 W0 gd ⟨_,rfl,i1,z1,t2 W0 gd ⟨_,rfl,i2,z2,t3' W0 gd ⟨_,rfl,i3,⟨_,aA s0 0⟩,aC s0 0,⟨_,aA s1 1⟩,aC s1 1,⟨_,aA s2 2⟩,aC s2 2,_,rfl,zd,s3,aB gd gS⟩⟩⟩⟩,⟨z0,t1 W0 gd ⟨_,rfl,i1,z1,t2 W0 gd ⟨_,rfl,i2,z2,t3' _ gNw ⟨_,rfl,i3,⟨_,aA s0 0⟩,aC s0 0,⟨_,aA s1 1⟩,aC s1 1,⟨_,aA s2 2⟩,aC s2 2,_,rfl,zd,s3,aB gd gS⟩⟩⟩⟩⟩,⟨z0,t1 W0 gd ⟨_,rfl,i1,z1,z2,t2 _ gNw ⟨_,rfl,i2,t3' _ gNw ⟨_,rfl,i3,⟨_,aA s0 0⟩,aC s0 0,⟨_,aA s1 1⟩,aC s1 1,⟨_,aA s2 2⟩,aC s2 2,_,rfl,zd,s3,aB gd gS⟩⟩⟩⟩⟩,⟨z0,z1,z2,t1 _ gNw ⟨_,rfl,i1,t2 _ gNw ⟨_,rfl,i2,t3' _ gNw ⟨_,rfl,i3,⟨_,aA s0 0⟩,aC s0 0,⟨_,aA s1 1⟩,aC s1 1,⟨_,aA s2 2⟩,aC s2 2,_,rfl,zd,s3,aB gd gS⟩⟩⟩⟩⟩
    · rintro a X ⟨b,rfl,Tz,hB,gX⟩;have gd2:=aI (aD X none);obtain⟨X1,HO⟩:∃ X1,X1=X.drew:=⟨_,rfl⟩;rw[← HO]at gd2 ⊢;have HT:=aE hB gd2;have gA:=World.grownBy_alloc X1 (.cells #[.int .i64 r.len,.int .i64 r.first,.int .u32 r.sum] 60) none;have rA:bB (X1.alloc (.cells #[.int .i64 r.len,.int .i64 r.first,.int .u32 r.sum] 60)) (some ⟨X1.heap.size,0,none⟩) (dZ [r]):=mb X1 #[.int .i64 r.len,.int .i64 r.first,.int .u32 r.sum] 60;have gW2:=aB gX (aB gd2 gA);have oW2:=oW.kp (S:=fun _=>False) (Kp.of_none gW2) (fun _ _ e=>e);have gWz:=aB gW gW2;obtain⟨A5,n5,c5,W5,r5,o5,g5⟩:=sD (d:=1) oW2 rA (by omega) gWz.size;have ob:=fun q hq=>(World.ownsRow.lt oW2 q hq).1;have Hh:=de gWz g5 fun q hq=>ob q hq;have HS:=aE HT gA;have FU:W5.heap[b]?=some (.cells #[.int .i64 r.len,.int .i64 r.first,.int .u32 r.sum] 60 (0,0)):=by
        rw[g5.block _ (Array.getElem?_eq_some_iff.1 HS).1 (fun e=>by have:=oW.block_lt b e.symm;omega)];exact HS
      have IX:cK (rows.drop p)-r.len=cK (rows.drop (p+1)):=by
        rw[NF];unfold cK;simp;omega
      have DQ:0<=cK (rows.drop (p+1)):=by
        have:=ko (l:=rows.drop (p+1)) fun r hr=>(hN r (List.mem_of_mem_drop hr)).len.1;omega
      have Rj:cK (rows.drop p)<=cK rows:=by
        have h1:=ij (rows.take p) (rows.drop p);rw[List.take_append_drop]at h1;have:=ko (l:=rows.take p) fun r hr=>(hN r (List.mem_of_mem_take hr)).len.1;omega
      refine⟨fun X=>X.heap[b]?=some (.cells #[.int .i64 r.len,.int .i64 r.first,.int .u32 r.sum] 60 (0,0)),HT,r.len,by simpa using aA HT 0,r.first,by rw[kK];exact aA HT 1,r.sum,by rw[kK];exact aA HT 2,HS,A5,n5,c5,W5,r5,FU,r.len,fun X hX=>by simpa using aA hX 0,by omega,⟨by omega,by omega⟩,rows.length-(p+1),by omega,p+1,by omega,rfl,?_,IX,?_,by omega,by omega,Hh⟩
      · rw[List.take_succ_eq_append_getElem lp,← MJ];exact o5
      · rw[← Mu];exact pk (k:=16) rW3 (by omega)
  · have Ho:p=rows.length:=by omega
    subst Ho;rw[List.take_length]at oW;rw[List.drop_length];refine(ks oW.row hd (by omega)).mono fun ev W1 hh=>?_;obtain⟨rfl,g4⟩:=hh;refine⟨_,rfl,fun h=>absurd (MK.symm.trans h) (by decide),fun _=>⟨fun h=>absurd rfl h,fun _=>⟨_,_,_,rfl,(oW.kp (S:=fun _=>False) (Kp.of_none g4) (fun _ _ e=>e)).mono z03,aB gWw g4⟩⟩⟩
theorem vq{w:World}{A:OA}{n c:Nat}{l:List Int}(hr:bB w A (cz l))(hn:n=l.length)(hl:l.length<=2^38):
    Calls P 48 #[.slice A n c] w fun ev w'=>∃(A':OA)(n' c':Nat),ev=.returned (.slice A' n' c')/\aH w' w.heap.size 5 1 A' n' c' (cz l)/\w.grownBy w' none:=by
  apply vc48;dsimp only[VC48,Br,Ap,nb];refine⟨fun h=>?_,fun h=>?_⟩
  · subst h;have:l=[]:=by
      cases l with
      | nil=>rfl
      | cons x l=>obtain⟨a,e,_⟩:=hr 0 _ rfl;cases e
    subst this;exact⟨none,0,0,rfl,aH.nil _ _ _ _,aD _ _⟩
  · obtain⟨a,rfl⟩:∃ a,A=some a:=by cases A with
      | none=>exact absurd rfl h
      | some a=>exact⟨a,rfl⟩
    have hg:=World.grownBy_alloc w (.cells #[] 5) none;have ho:aH (w.alloc (.cells #[] 5)) w.heap.size 5 1 (some ⟨w.heap.size,0,none⟩) 0 0 (cz []):=⟨rfl,.inr ⟨w.heap.size,0,#[],rfl,Nat.le_refl _,heap_alloc_new w _,Nat.le_refl _,Nat.zero_le _,rfl,rfl⟩⟩;obtain⟨A',n',c',w',h1,h2,h3,_⟩:=bD ho (hr.kept_none hg) hn (fun e=>by cases e) (by omega) hg.size;exact⟨A',n',c',w',h1,A',n',c',rfl,by simpa using h2,de hg h3 fun q hq=>(World.ownsRow.lt ho q hq).1⟩
theorem bF.hok{N:Int}{l:List aU}{k:Nat}(h:bF N l)(hk:1<=k/\k<=1048576):dx N k l.length:=by have:=h.n;have:=h.len;unfold dx;omega
theorem bF.rowsN{N:Int}{l:List aU}{k:Nat}(h:bF N l)(hk:0<k):∀ r∈dm l k (dP l.length k),td r:=fun r hr=>by
 unfold dm at hr;obtain⟨i,hi,rfl⟩:=List.mem_map.1 hr;exact h.rowN hk ((ey hk).1 (by simpa using hi))
theorem bF.flen{N:Int}{l:List aU}{k:Nat}(h:bF N l)(hk:0<k):(dz N l k).length<=1000000:=by
 have h1:=h.bodiesLen hk (Nat.le_refl (dP l.length k));have h2:=nM (n:=l.length) hk;have h3:=h.len;rw[mr];omega
theorem ki{w:World}{A:OA}{n c:Nat}{N:Int}{l:List aU}{k:Nat}(hr:bB w A (cz (dz N l k)))(hn:n=(dz N l k).length)(hc:n<=c)(h:bF N l)(hk:1<=k/\k<=1048576):
    Calls P 20 #[.slice A n c] w fun ev w'=>∃(B:OA)(m d:Nat),ev=.returned (.tuple #[i9 N k l.length,.slice B m d,.int .i64 0])/\aH w' w.heap.size 60 3 B m d (dZ (dm l k (dP l.length k)))/\w.grownBy w' none:=by
  apply vc20;dsimp only[VC20,rt,Wt,Br,Rd,Ws,cT,nb,iq];have g0:=World.grownBy_alloc w (.cells #[.int .u64 0,.int .i64 0,.int .i64 0] 51) none;have b0:=heap_alloc_new w (.cells #[.int .u64 0,.int .i64 0,.int .i64 0] 51);obtain⟨w0,FN⟩:∃ w0,w0=w.alloc (.cells #[.int .u64 0,.int .i64 0,.int .i64 0] 51):=⟨_,rfl⟩;rw[← FN]at g0 b0 ⊢;have hok:=h.hok hk;refine(sV (hr.kept_none g0) hn hc jU rfl h.n.1 hok).mono fun ev w1 hh=>?_;obtain⟨rfl,g1⟩:=hh;have b1:=aE b0 g1;have ga:=World.grownBy_alloc w1 (.cells #[.int .u64 0,.int .i64 0,.int .i64 0] 51) none;have s0:=heap_alloc_new w1 (.cells #[.int .u64 0,.int .i64 0,.int .i64 0] 51);have s1:=aF s0 0 (.int .u64 N);have s2:=aF s1 1 (.int .i64 (k:Int));have s3:=aF s2 2 (.int .i64 (l.length:Int));have g3:w1.grownBy ((((w1.alloc (.cells #[.int .u64 0,.int .i64 0,.int .i64 0] 51)).setCell ⟨w1.heap.size,0,none⟩ (.int .u64 N)).setCell ⟨w1.heap.size,1,none⟩ (.int .i64 (k:Int))).setCell ⟨w1.heap.size,2,none⟩ (.int .i64 (l.length:Int))) none:=(cF (cF (cF (Kp.of_none (S:=fun q=>w1.heap.size<=q) ga) (Nat.le_refl _)) (Nat.le_refl _)) (Nat.le_refl _)).grown (fun q hq e=>by omega);refine⟨_,_,_,_,rfl,⟨_,aA s0 0⟩,aC s0 0,⟨_,aA s1 1⟩,aC s1 1,⟨_,aA s2 2⟩,aC s2 2,fun e=>absurd rfl e,fun _=>?_⟩;obtain⟨w3,Ep⟩:∃ w3,w3=(((w1.alloc (.cells #[.int .u64 0,.int .i64 0,.int .i64 0] 51)).setCell ⟨w1.heap.size,0,none⟩ (.int .u64 N)).setCell ⟨w1.heap.size,1,none⟩ (.int .i64 (k:Int))).setCell ⟨w1.heap.size,2,none⟩ (.int .i64 (l.length:Int)):=⟨_,rfl⟩;have h3:w3.heap[w1.heap.size]?=some (.cells #[.int .u64 N,.int .i64 (k:Int),.int .i64 (l.length:Int)] 51 (0,0)):=by rw[Ep];exact s3
  rw[← Ep]at g3 ⊢;have DP:=aB g0 (aB g1 g3);have KO:=ru (l:=l) (k:=k) (dP l.length k);refine⟨N,aA h3 0,(k:Int),aA h3 1,(l.length:Int),aA h3 2,(wm (pre:=gg N k l.length++bP l k (dP l.length k)) (hr.kept_none DP) hn hc jU (by have:=h.flen hk.1;omega) (by unfold dz;rw[List.append_assoc]) (by rw[KO,List.length_append,fK];omega) hok (by rw[lq hk.1,dv]) (h.rowsOk hk.1 (Nat.le_refl _)) (h.rowsN hk.1)).mono fun ev w4 hh=>?_⟩;obtain⟨A4,n4,c4,rfl,o4,g4⟩:=hh;have h4:=aE h3 g4;have b4:=aE (aE b1 g3) g4;have t1:=aF b4 0 (.int .u64 N);have t2:=aF t1 1 (.int .i64 (k:Int));have t3:=aF t2 2 (.int .i64 (l.length:Int));have Hj:=aB DP g4;have z03:=DP.size;have z3:w.heap.size<w3.heap.size:=by
    have:=(Array.getElem?_eq_some_iff.1 (aE b1 g3)).1;exact this
  have K4:Kp w4 (((w4.setCell ⟨w.heap.size,0,none⟩ (.int .u64 N)).setCell ⟨w.heap.size,1,none⟩ (.int .i64 (k:Int))).setCell ⟨w.heap.size,2,none⟩ (.int .i64 (l.length:Int))) (fun q=>q=w.heap.size):=cF (cF (cF (Kp.refl _ _) rfl) rfl) rfl;have gF:=((Kp.of_none (S:=fun q=>w.heap.size<=q) Hj).then K4 fun q _ e=>by omega).grown fun q hq e=>by omega
  refine⟨_,_,_,_,rfl,fun e=>absurd rfl e,fun _=>⟨N,aA h4 0,(k:Int),aA h4 1,(l.length:Int),aA h4 2,⟨_,aA b4 0⟩,aC b4 0,⟨_,aA t1 1⟩,aC t1 1,⟨_,aA t2 2⟩,aC t2 2,N,by rw[aA t3 0];rfl,(k:Int),by rw[aA t3 1];rfl,(l.length:Int),by rw[aA t3 2];rfl,A4,n4,c4,rfl,?_,gF⟩⟩;exact(o4.kp K4 (fun q hq e=>by have:=(World.ownsRow.lt o4 q hq).1;omega)).mono (by omega)
theorem pp{l:List aU}{k m i:Nat}(hi:i<=m):cK ((dm l k m).take i)=((bP l k i).length:Int):=by
 have:(dm l k m).take i=dm l k i:=by
  unfold dm;rw[← List.map_take,List.take_range,Nat.min_eq_left hi]
 rw[this,ru]
theorem kF{w:World}{A B:OA}{n c m d:Nat}{N:Int}{l:List aU}{k i:Nat}(hr:bB w A (cz (dz N l k)))(hn:n=(dz N l k).length)(hc:n<=c)(h:bF N l)(hk:1<=k/\k<=1048576)(hB:bB w B (dZ (dm l k (dP l.length k))))(hm:m=dP l.length k)(hd:m<=d)(hi:i<dP l.length k):
    Calls P 21 #[.slice A n c,.slice B m d,.int .i64 (i:Int)] w fun ev w'=>∃(C:OA)(n' c':Nat),ev=.returned (.tuple #[.slice C n' c',.int .i64 0])/\aH w' w.heap.size 5 1 C n' c' (cz (cR l k i))/\w.grownBy w' none:=by
  apply vc21;dsimp only[VC21,rt,Br,Rd,Rc,Ix,cI,cS,ad,al,iq]
  try simp only[aG]
  have FO:(dm l k (dP l.length k)).length=dP l.length k:=dv;have JF:=nM (n:=l.length) (k:=k) hk.1;have hl:=h.len;have Fl:=(ey hk.1).1 hi;have Gb:=h.blen hk.1 Fl;have Ed:(dm l k (dP l.length k))[i]'(by rw[FO];exact hi)=gu l k i:=by unfold dm;simp
  refine(sU hB (by rw[FO];exact hm) hd (by rw[FO];omega) (h.rowsOk hk.1 (Nat.le_refl _)) (by rw[FO];exact hi)).mono fun ev w1 hh=>?_;obtain⟨rfl,g1⟩:=hh;rw[pp (by omega)];have Mc:=h.flen hk.1;obtain⟨s,hs⟩:=ny (l:=l) (k:=k) hi;have QC:24+(bP l k i).length+(cR l k i).length<=n:=by
    rw[hn,mr,hs,List.length_append,List.length_append];omega
  have ti:(i:Int).toNat=i:=by omega
  rw[ti];have cellR:∀ X,w.grownBy X none->∃ a,B=some a/\X.cell? (a.add (i*3))=some (.int .i64 ((cR l k i).length:Int))/\X.cell? (Addr.add (a.add (i*3)) 2)=some (.int .u32 (nu (cR l k i))):=fun X hX=>by
    obtain⟨a,e0,e1,e2,e3⟩:=l9 (hB.kept_none hX) (j:=i) (by rw[FO];exact hi);rw[Ed]at e1 e3;exact⟨a,e0,e1,e3⟩
  obtain⟨a,e0,e1,e2⟩:=cellR w1 g1;have t1:(24+((bP l k i).length:Int)).toNat=24+(bP l k i).length:=by omega
  have t2:(24+((bP l k i).length:Int)+((cR l k i).length:Int)).toNat-(24+((bP l k i).length:Int)).toNat=(cR l k i).length:=by omega
  have rX:bB w1 (bN A c (24+(bP l k i).length) 1) (cz (cR l k i)):=by
    have:=eH (pk (c:=c) (k:=24+(bP l k i).length) (hr.kept_none g1) (by omega)) (cR l k i).length;rw[yx hi]at this;exact this
  refine⟨_,rfl,fun e=>absurd e (by omega),fun _=>⟨fun e=>absurd e (by omega),fun _=>⟨a,e0,by omega,by omega,_,e1,by omega,fun e=>absurd e (by omega),fun _=>⟨a,e0,by omega,by omega,_,e1,by omega,⟨by omega,by omega,by omega,by omega⟩,?_⟩⟩⟩⟩;rw[t2,t1];refine(vq rX rfl (by omega)).mono fun ev w2 hh=>?_;obtain⟨C,n',c',rfl,o2,g2⟩:=hh;have ER:n'=(cR l k i).length:=by have h':=o2.cases.1;unfold cz at h';rw[List.length_map]at h';omega
  have gd:=aI (aD w2 none);obtain⟨w3,Ep⟩:∃ w3,w3=w2.drew:=⟨_,rfl⟩;rw[← Ep]at gd ⊢;have gA:=World.grownBy_alloc w3 (.cells #[.slice C n' c'] 26) none;have rA:bB (w3.alloc (.cells #[.slice C n' c'] 26)) (some ⟨w3.heap.size,0,none⟩) [.slice C n' c']:=mb w3 #[.slice C n' c'] 26;have EO:=aB g1 (aB g2 gd);have o4:=o2.kp (S:=fun _=>False) (Kp.of_none (aB gd gA)) (fun _ _ e=>e);refine⟨C,n',c',rfl,fun X=>w.grownBy X none,EO,aB EO gA,(kB rA o4.row ER h.bodyBy (by omega)).mono fun ev w5 hh=>?_⟩;obtain⟨rfl,rfl⟩:=hh;refine⟨_,rfl,aB EO gA,a,e0,by omega,by omega,_,fun X hX=>?_,fun e=>absurd rfl e,fun _=>⟨C,n',c',rfl,o4.mono g1.size,aB EO gA⟩⟩;obtain⟨a',e0',_,e2'⟩:=cellR X hX;rw[e0]at e0';cases e0';exact e2'
theorem xh{w:World}{A B:OA}{n c m d:Nat}{i:Int}(hi:(m:Int)<=i):
    Calls P 21 #[.slice A n c,.slice B m d,.int .i64 i] w fun ev w'=>ev=.returned (.tuple #[.slice none 0 0,.int .i64 20])/\w.grownBy w' none:=by
  apply vc21;dsimp only[VC21,rt,Br,Rd,Rc,Ix,cI,cS,ad,al,iq];refine(uZ hi).mono fun ev w1 hh=>?_;obtain⟨rfl,g1⟩:=hh;exact⟨_,rfl,fun _=>⟨rfl,g1⟩,fun h=>absurd rfl h⟩
theorem bF.blen13{N:Int}{l:List aU}{k i:Nat}(h:bF N l)(hk:0<k)(hi:i*k<l.length):(cR l k i).length<=6540:=by
 have h1:(jx l k i).length<=i*k:=by
  have:=jT (l.take (i*k)) [];unfold jx;rw[List.length_take]at *;simp only[List.length_nil]at *;omega
 have h2:(iG l k i).length<=l.length-i*k:=by rw[mu];omega
 have h5:=h.len;have h3:=sB (h.blk hk hi) (by omega) (by omega);unfold cR;omega
theorem Bg{l:List aU}{k p:Nat}:l.take (p*k)++iG l k p=l.take ((p+1)*k):=by
 unfold iG;rw[Nat.add_mul,Nat.one_mul,List.take_add]
theorem sl {w:World} {A:OA} {n c:Nat} {N:Int} {l:List aU} {k:Nat} (hr:bB w A (cz (dz N l k))) (hn:n=(dz N l k).length) (hc:n<=c) (h:bF N l) (hk:1<=k/\k<=1048576) :
    Calls P 22 #[.slice A n c] w fun ev w'=>∃(B:OA)(d e:Nat),ev=.returned (.tuple #[.agg #[.int .u64 N,.slice B d e],.int .i64 (k:Int),.int .i64 0])/\aH w' w.heap.size 62 4 B d e (cw l)/\w.grownBy w' none:=by
  apply vc22;dsimp only[VC22,rt,Wt,Br,Rd,Rc,Rs,Ix,Ap,Ws,cI,cB,cT,nb,ad,al,iq]
  try simp only[aG]
  have hl:=h.len;have hok:=h.hok hk;have g0:=World.grownBy_alloc w (.cells #[.int .u64 0,.slice none 0 0] 25) none;have b0:=heap_alloc_new w (.cells #[.int .u64 0,.slice none 0 0] 25);obtain⟨w0,FN⟩:∃ w0,w0=w.alloc (.cells #[.int .u64 0,.slice none 0 0] 25):=⟨_,rfl⟩;rw[← FN]at g0 b0 ⊢;refine(ki (hr.kept_none g0) hn hc h hk).mono fun ev w1 hh=>?_;obtain⟨X,xm,xd,rfl,oX,g1⟩:=hh;have OF:xm=dP l.length k:=by have h':=oX.cases.1;rw[fd,dv]at h';omega
  have SU:=d9 oX;have b1:=aE b0 g1;have ga:=World.grownBy_alloc w1 (.cells #[.int .u64 0,.int .i64 0,.int .i64 0] 51) none;have s0:=heap_alloc_new w1 (.cells #[.int .u64 0,.int .i64 0,.int .i64 0] 51);have s1:=aF s0 0 (.int .u64 N);have s2:=aF s1 1 (.int .i64 (k:Int));have s3:=aF s2 2 (.int .i64 (l.length:Int));have g3:w1.grownBy ((((w1.alloc (.cells #[.int .u64 0,.int .i64 0,.int .i64 0] 51)).setCell ⟨w1.heap.size,0,none⟩ (.int .u64 N)).setCell ⟨w1.heap.size,1,none⟩ (.int .i64 (k:Int))).setCell ⟨w1.heap.size,2,none⟩ (.int .i64 (l.length:Int))) none:=(cF (cF (cF (Kp.of_none (S:=fun q=>w1.heap.size<=q) ga) (Nat.le_refl _)) (Nat.le_refl _)) (Nat.le_refl _)).grown (fun q hq e=>by omega);refine⟨_,_,_,_,_,_,_,rfl,⟨_,aA s0 0⟩,aC s0 0,⟨_,aA s1 1⟩,aC s1 1,⟨_,aA s2 2⟩,aC s2 2,fun e=>absurd rfl e,fun _=>?_⟩;obtain⟨w3,Ep⟩:∃ w3,w3=(((w1.alloc (.cells #[.int .u64 0,.int .i64 0,.int .i64 0] 51)).setCell ⟨w1.heap.size,0,none⟩ (.int .u64 N)).setCell ⟨w1.heap.size,1,none⟩ (.int .i64 (k:Int))).setCell ⟨w1.heap.size,2,none⟩ (.int .i64 (l.length:Int)):=⟨_,rfl⟩;have h3:w3.heap[w1.heap.size]?=some (.cells #[.int .u64 N,.int .i64 (k:Int),.int .i64 (l.length:Int)] 51 (0,0)):=by rw[Ep];exact s3
  rw[← Ep]at g3 ⊢;have DP:=aB g0 (aB g1 g3);have b3:=aE b1 g3;refine⟨N,aA h3 0,?_⟩;have gh:=World.grownBy_alloc w3 (.cells #[.int .u64 0,.slice none 0 0] 25) none;have t0:=heap_alloc_new w3 (.cells #[.int .u64 0,.slice none 0 0] 25);have t1:=aF t0 0 (.int .u64 N);have t2:=aF t1 1 (.slice none 0 0);have g4:w3.grownBy (((w3.alloc (.cells #[.int .u64 0,.slice none 0 0] 25)).setCell ⟨w3.heap.size,0,none⟩ (.int .u64 N)).setCell ⟨w3.heap.size,1,none⟩ (.slice none 0 0)) none:=(cF (cF (Kp.of_none (S:=fun q=>w3.heap.size<=q) gh) (Nat.le_refl _)) (Nat.le_refl _)).grown (fun q hq e=>by omega);refine⟨⟨_,aA t0 0⟩,aC t0 0,⟨_,aA t1 1⟩,aC t1 1,?_⟩;obtain⟨w4,GC⟩:∃ w4,w4=((w3.alloc (.cells #[.int .u64 0,.slice none 0 0] 25)).setCell ⟨w3.heap.size,0,none⟩ (.int .u64 N)).setCell ⟨w3.heap.size,1,none⟩ (.slice none 0 0):=⟨_,rfl⟩;have h4:w4.heap[w3.heap.size]?=some (.cells #[.int .u64 N,.slice none 0 0] 25 (0,0)):=by rw[GC];exact t2
  rw[← GC]at g4 ⊢;have z01:=g0.size;have zb0:w.heap.size<w1.heap.size:=(Array.getElem?_eq_some_iff.1 b1).1;have zh3:w1.heap.size<w3.heap.size:=(Array.getElem?_eq_some_iff.1 h3).1;have zh4:w3.heap.size<w4.heap.size:=(Array.getElem?_eq_some_iff.1 h4).1;have Hj:=aB DP g4;have IB:=aB g3 g4;obtain⟨m,hm⟩:∃ m,m=dP l.length k:=⟨_,rfl⟩;rw[← hm]at oX OF;have JF:m<=l.length:=by rw[hm];exact nM hk.1
  refine⟨fun q x W=>∃(p:Nat)(B:OA)(d e:Nat),x=(p:Int)/\p<=m/\q=m-p/\Kp w4 W (fun q=>q=w3.heap.size)/\W.heap[w3.heap.size]?=some (.cells #[.int .u64 N,.slice B d e] 25 (0,0))/\aH W w4.heap.size 62 4 B d e (cw (l.take (p*k))),⟨_,0,none,0,0,rfl,by omega,rfl,Kp.refl _ _,h4,by rw[Nat.zero_mul];exact aH.nil _ _ _ _⟩,?_⟩;rintro q x W ⟨p,B,d,e,rfl,hp,rfl,kW,hB,oW⟩;have gB:=((Kp.of_none (S:=fun q=>w.heap.size<=q) Hj).then kW fun q _ e=>by omega).grown fun q hq e=>by omega
  have gB1:=((Kp.of_none (S:=fun q=>w1.heap.size<=q) IB).then kW fun q _ e=>by omega).grown fun q hq e=>by omega
  have hH:W.heap[w1.heap.size]?=some (.cells #[.int .u64 N,.int .i64 (k:Int),.int .i64 (l.length:Int)] 51 (0,0)):=by
    rw[kW.block _ (by omega) (by omega)];exact aE h3 g4
  have hb:W.heap[w.heap.size]?=some (.cells #[.int .u64 0,.slice none 0 0] 25 (0,0)):=by
    rw[kW.block _ (by omega) (by omega)];exact aE b3 g4
  have hd:d=(l.take (p*k)).length:=by have h':=oW.cases.1;rw[dg]at h';omega
  have zW:=kW.size;refine⟨fun DF=>?_,fun DK=>?_⟩
  · have lp:p<m:=by omega
    have Fl:p*k<l.length:=(ey hk.1).1 (by omega);have tp:(p:Int).toNat=p:=by omega
    rw[tp];have FO:(dm l k m).length=m:=dv;have Ed:(dm l k m)[p]'(by rw[FO];exact lp)=gu l k p:=by unfold dm;simp
    obtain⟨a,e0,e1,e2,e3⟩:=l9 (oX.row.kept_none gB1) (j:=p) (by rw[FO];exact lp);rw[Ed]at e1 e2 e3;refine⟨a,e0,by omega,by omega,_,e1,_,e2,_,e3,?_⟩;have gc:=World.grownBy_alloc W (.cells #[.int .i64 0,.int .i64 0,.int .u32 0] 60) none;have u0:=heap_alloc_new W (.cells #[.int .i64 0,.int .i64 0,.int .u32 0] 60);have u1:=aF u0 0 (.int .i64 (gu l k p).len);have u2:=aF u1 1 (.int .i64 (gu l k p).first);have u3:=aF u2 2 (.int .u32 (gu l k p).sum);have gR:W.grownBy ((((W.alloc (.cells #[.int .i64 0,.int .i64 0,.int .u32 0] 60)).setCell ⟨W.heap.size,0,none⟩ (.int .i64 (gu l k p).len)).setCell ⟨W.heap.size,1,none⟩ (.int .i64 (gu l k p).first)).setCell ⟨W.heap.size,2,none⟩ (.int .u32 (gu l k p).sum)) none:=(cF (cF (cF (Kp.of_none (S:=fun q=>W.heap.size<=q) gc) (Nat.le_refl _)) (Nat.le_refl _)) (Nat.le_refl _)).grown (fun q hq e=>by omega);refine⟨⟨_,aA u0 0⟩,aC u0 0,⟨_,aA u1 1⟩,aC u1 1,⟨_,aA u2 2⟩,aC u2 2,?_⟩;obtain⟨W1,PC⟩:∃ W1,W1=(((W.alloc (.cells #[.int .i64 0,.int .i64 0,.int .u32 0] 60)).setCell ⟨W.heap.size,0,none⟩ (.int .i64 (gu l k p).len)).setCell ⟨W.heap.size,1,none⟩ (.int .i64 (gu l k p).first)).setCell ⟨W.heap.size,2,none⟩ (.int .u32 (gu l k p).sum):=⟨_,rfl⟩;have Si:W1.heap[W.heap.size]?=some (.cells #[.int .i64 (gu l k p).len,.int .i64 (gu l k p).first,.int .u32 (gu l k p).sum] 60 (0,0)):=by rw[PC];exact u3
    rw[← PC]at gR ⊢;have gW1:=aB gB gR;refine(kF (hr.kept_none gW1) hn hc h hk (by rw[← hm];exact oX.row.kept_none (aB gB1 gR)) (by rw[← hm];exact OF) (by omega) (by omega)).mono fun ev W2 hh=>?_;obtain⟨Y,yn,yc,rfl,oY,gY⟩:=hh;have Hm:yn=(cR l k p).length:=by have h':=oY.cases.1;unfold cz at h';rw[List.length_map]at h';omega
    have J1:=d9 oY;refine⟨_,_,_,_,rfl,fun e=>absurd rfl e,fun _=>?_⟩;have gd:=aI (aD W2 none);obtain⟨W3,Mf⟩:∃ W3,W3=W2.drew:=⟨_,rfl⟩;rw[← Mf]at gd ⊢;have gW3:W.grownBy W3 none:=aB gR (aB gY gd);have Sg:=aE Si (aB gY gd);have Jr:=aE hH gW3;have FZ:min (k:Int) ((l.length:Int)-(p:Int)*(k:Int))=(((iG l k p).length:Nat):Int):=by
      rw[mu,show(p:Int)*(k:Int)=((p*k:Nat):Int) by simp];omega
    have KV:(p:Int)<((l.length:Int)+(k:Int)-1) / (k:Int):=by rw[lq hk.1];omega
    refine⟨fun X=>W3.grownBy X none,aD _ _,N,fun X hX=>aA (aE Jr hX) 0,(gu l k p).first,fun X hX=>aA (aE Sg hX) 1,N,aA Jr 0,(k:Int),aA Jr 1,(l.length:Int),aA Jr 2,(ku hok (by omega) KV).mono fun ev W4 hh=>?_⟩;obtain⟨rfl,gs⟩:=hh;rw[FZ];have NC:=h.evLen (k:=k) (i:=p);have oY4:=oY.kp (S:=fun _=>False) (Kp.of_none (aB gd gs)) (fun _ _ e=>e);have RY:=h.blen13 hk.1 Fl;refine⟨_,rfl,gs,(xe oY4.row Hm J1 (fun x hx=>h.bodyBy x hx) (by omega) (by omega)).mono fun ev W5 hh=>?_⟩;obtain⟨g5,Kk⟩:=hh;have Oh:=h.is hk.1 Fl;obtain⟨A7,n7,c7,A8,n8,c8,rfl,r7,O6,r8,Ii,SA⟩:∃(A1:OA)(n1 c1:Nat)(A2:OA)(n2 c2:Nat),ev=.returned (.tuple #[.slice A1 n1 c1,.slice A2 n2 c2,.int .i64 0])/\bB W5 A1 (edges (jx l k p))/\n1=(jx l k p).length/\bB W5 A2 (cw (iG l k p))/\n2=(iG l k p).length/\(A2=none->c2=0):=by
      rcases Kk with⟨A1,n1,c1,A2,n2,c2,key',l',rfl,⟨h1,h2,_⟩,⟨h3,h4,_,Ot⟩,h5,h6⟩ | ⟨rfl,FP⟩
      · obtain⟨e1,e2⟩:=Oh.uniq h6 (by omega) (by omega);have e3:=nr Oh.ok.del h6.ok.del e2;subst e3;rw[← e1]at h1 h2;exact⟨_,_,_,_,_,_,rfl,h1,h2,h3,h4,Ot⟩
      · exact absurd Oh (FP _ _)
    have gW5:=aB gW3 (aB gs g5);have FU:=aE hB gW5;have oW5:=oW.kp (S:=fun _=>False) (Kp.of_none gW5) (fun _ _ e=>e);have HW:(l.take (p*k)).length<=49:=by rw[List.length_take];omega
    obtain⟨B',d',e',W6,r6,o6,g6,_⟩:=dU oW5 r8 Ii SA (by omega) (Nat.le_trans zW gW5.size);rw[Bg]at o6;have LI:W6.heap[w3.heap.size]?=some (.cells #[.int .u64 N,.slice B d e] 25 (0,0)):=by
      rw[g6.block _ (Array.getElem?_eq_some_iff.1 FU).1 (fun e=>by have:=(World.ownsRow.lt oW5 _ e.symm).1;omega)];exact FU
    have k6:Kp w4 W6 (fun q=>q=w3.heap.size):=Kp.step (kW.then (Kp.of_none (S:=fun q=>q=w3.heap.size) gW5) fun q _ e=>e) g6 (fun q hq=>.inl (World.ownsRow.lt oW5 q hq).1);refine⟨_,_,_,_,_,_,_,rfl,aB gs g5,fun e=>absurd rfl e,fun _=>⟨B,d,e,aA FU 1,B',d',e',W6,r6,⟨_,aA LI 1⟩,aC LI 1,by omega,m-(p+1),by omega,p+1,B',d',e',by omega,by omega,rfl,cF k6 rfl,aF LI 1 _,?_⟩⟩;exact o6.kp (cF (S:=fun q=>q=w3.heap.size) (Kp.refl _ _) rfl) (fun q hq e=>by have:=(World.ownsRow.lt o6 q hq).1;omega)
  · have Ho:p=m:=by omega
    subst Ho;have DN:l.take (p*k)=l:=List.take_of_length_le (by have:=rj (n:=l.length) (k:=k) hk.1;rw[hm];exact this);rw[DN]at oW hd;refine⟨N,aA hB 0,B,d,e,aA hB 1,(k:Int),aA hH 1,(fg oW.row hd (d9 oW) (ew oW) h hk).mono fun ev W1 hh=>?_⟩;obtain⟨C,cn,cc,rfl,oC,gC⟩:=hh;have RP:cn=(dz N l k).length:=by have h':=oC.cases.1;unfold cz at h';rw[List.length_map]at h';omega
    have gW1:=aB gB gC;refine⟨_,_,_,_,rfl,fun e=>absurd rfl e,fun _=>(iB oC.row RP (hr.kept_none gW1) hn (fun x hx=>jU x hx) (fun x hx=>jU x hx)).mono fun ev W2 hh=>?_⟩;obtain⟨rfl,rfl⟩:=hh;have gd:=aI (aD W2 none);obtain⟨W3,Mf⟩:∃ W3,W3=W2.drew:=⟨_,rfl⟩;have gW3:W.grownBy W3 none:=by rw[Mf];exact aB gC gd
    refine⟨_,rfl,fun e=>by simp at e,fun _=>?_⟩;rw[← Mf];have NQ:=aE hb gW3;have v1:=aF NQ 0 (.int .u64 N);have v2:=aF v1 1 (.slice B d e);have Jr:=aE hH gW3;have Iz:=aE hB gW3;have K3:Kp W3 ((W3.setCell ⟨w.heap.size,0,none⟩ (.int .u64 N)).setCell ⟨w.heap.size,1,none⟩ (.slice B d e)) (fun q=>q=w.heap.size):=cF (cF (Kp.refl _ _) rfl) rfl;have oW3:=(oW.kp (S:=fun _=>False) (Kp.of_none gW3) (fun _ _ e=>e)).kp K3 (fun q hq e=>by have:=(World.ownsRow.lt oW q hq).1;omega);have gF:=((Kp.of_none (S:=fun q=>w.heap.size<=q) (aB gB gW3)).then K3 fun q _ e=>by omega).grown fun q hq e=>by omega
    refine⟨fun X=>X.heap[w1.heap.size]?=some (.cells #[.int .u64 N,.int .i64 (k:Int),.int .i64 (l.length:Int)] 51 (0,0)),Jr,N,aA Iz 0,B,d,e,aA Iz 1,(k:Int),fun X hX=>aA hX 1,⟨_,aA NQ 0⟩,aC NQ 0,⟨_,aA v1 1⟩,aC v1 1,?_,N,by rw[aA v2 0];rfl,B,d,e,by rw[aA v2 1];rfl,B,d,e,rfl,oW3.mono (by omega),gF⟩;exact js (js Jr (by show w.heap.size≠_;omega) _) (by show w.heap.size≠_;omega) _
def Ae(N:Int)(l:List aU)(k:Int):Int:=if(fm N l).2≠0 then(fm N l).2 else if k<1∨1048576<k then 26 else 0
theorem uT{N:Int}{l:List aU}{k:Int}:Ae N l k=0↔(fm N l).2=0/\1<=k/\k<=1048576:=by
 unfold Ae;split
 ·omega
 ·split <;>omega
def Cc(N:Int)(l:List aU)(k:Int):Value:=if Ae N l k=0 then i9 N k l.length else i9 0 0 0
theorem vX{w:World}{A:OA}{n c:Nat}{l:List aU}{N k:Int}(hr:bB w A (cw l))(hn:n=l.length)(hl:n<=2^20)(hb:sI l):
    Calls P 31 #[.agg #[.int .u64 N,.slice A n c],.int .i64 k] w fun ev w'=>ev=.returned (.tuple #[Cc N l k,.int .i64 (Ae N l k)])/\w.grownBy w' none:=by
  by_cases h0:Ae N l k=0
  · have h1:=uT.1 h0;refine(ri hr hn hl hb h1.1 h1.2).mono fun ev w1 hh=>?_;obtain⟨rfl,g⟩:=hh;refine⟨?_,g⟩;unfold Cc;rw[if_pos h0,h0]
  have hV:Cc N l k=i9 0 0 0:=by unfold Cc;rw[if_neg h0]
  rw[hV];apply vc31;dsimp only[VC31,rt,Wt,Br,Rd,Rs,Ws,nb,iq];obtain⟨w1,DG,g1,b1⟩:=fQ w #[.int .u64 N,.slice A n c] 25;rw[← DG];obtain⟨w2,Es,g2,b2⟩:=fQ w1 #[.int .u64 0,.int .i64 0,.int .i64 0] 51;rw[← Es];have b1':=aE b1 g2;refine⟨N,aA b1' 0,A,n,c,aA b1' 1,(kw ((hr.kept_none g1).kept_none g2) hn hl hb).mono fun ev w3 hh=>?_⟩;obtain⟨rfl,g3⟩:=hh;have b2':=aE b2 g3;have s1:=aF b2' 0 (.int .u64 0);have s2:=aF s1 1 (.int .i64 0);have s3:=aF s2 2 (.int .i64 0);have gS:w1.grownBy (((w3.setCell ⟨w1.heap.size,0,none⟩ (.int .u64 0)).setCell ⟨w1.heap.size,1,none⟩ (.int .i64 0)).setCell ⟨w1.heap.size,2,none⟩ (.int .i64 0)) none:=(cF (cF (cF (Kp.of_none (S:=fun q=>w1.heap.size<=q) (aB g2 g3)) (Nat.le_refl _)) (Nat.le_refl _)) (Nat.le_refl _)).grown (fun q hq e=>by omega);have gE:=aB g1 gS;have e0:(fm N l).2=0->Ae N l k=if k<1∨1048576<k then 26 else 0:=fun h=>by unfold Ae;rw[if_neg (fun e=>e h)]
  refine⟨_,_,rfl,fun h=>⟨⟨_,aA b2' 0⟩,aC b2' 0,⟨_,aA s1 1⟩,aC s1 1,⟨_,aA s2 2⟩,aC s2 2,0,by rw[aA s3 0];rfl,0,by rw[aA s3 1];rfl,0,by rw[aA s3 2];rfl,?_,gE⟩,fun h=>⟨fun h2=>⟨⟨_,aA b2' 0⟩,aC b2' 0,⟨_,aA s1 1⟩,aC s1 1,⟨_,aA s2 2⟩,aC s2 2,0,by rw[aA s3 0];rfl,0,by rw[aA s3 1];rfl,0,by rw[aA s3 2];rfl,?_,gE⟩,fun h2=>⟨fun h3=>⟨⟨_,aA b2' 0⟩,aC b2' 0,⟨_,aA s1 1⟩,aC s1 1,⟨_,aA s2 2⟩,aC s2 2,0,by rw[aA s3 0];rfl,0,by rw[aA s3 1];rfl,0,by rw[aA s3 2];rfl,?_,gE⟩,fun h3=>?_⟩⟩⟩
  · unfold Ae;rw[if_pos h]
  · rw[e0 (by omega),if_pos (.inl h2)]
  · rw[e0 (by omega),if_pos (.inr (by omega))]
  · exact absurd (uT.2 ⟨by omega,by omega,by omega⟩) h0
theorem yC{w:World}{A:OA}{n c:Nat}{l:List aU}{N k:Int}(hr:bB w A (cw l))(hn:n=l.length)(hl:n<=2^20)(hb:sI l)(he:Ae N l k≠0):
    Calls P 13 #[.agg #[.int .u64 N,.slice A n c],.int .i64 k] w fun ev w'=>ev=.returned (.tuple #[.slice none 0 0,.int .i64 (Ae N l k)])/\w.grownBy w' none:=by
  apply vc13;dsimp only[VC13,rt,Br,Rd,Rc,Rs,Ix,Ap,Ws,cI,cS,cT,nb,iq];obtain⟨w1,DG,g1,b1⟩:=fQ w #[.int .u64 N,.slice A n c] 25;rw[← DG];refine⟨N,aA b1 0,A,n,c,aA b1 1,(vX (hr.kept_none g1) hn hl hb).mono fun ev w2 hh=>?_⟩;obtain⟨rfl,g2⟩:=hh;have hV:Cc N l k=i9 0 0 0:=by unfold Cc;rw[if_neg he]
  rw[hV];have ga:=World.grownBy_alloc w2 (.cells #[.int .u64 0,.int .i64 0,.int .i64 0] 51) none;have s0:=heap_alloc_new w2 (.cells #[.int .u64 0,.int .i64 0,.int .i64 0] 51);have s1:=aF s0 0 (.int .u64 0);have s2:=aF s1 1 (.int .i64 0);have g3:w2.grownBy ((((w2.alloc (.cells #[.int .u64 0,.int .i64 0,.int .i64 0] 51)).setCell ⟨w2.heap.size,0,none⟩ (.int .u64 0)).setCell ⟨w2.heap.size,1,none⟩ (.int .i64 0)).setCell ⟨w2.heap.size,2,none⟩ (.int .i64 0)) none:=(cF (cF (cF (Kp.of_none (S:=fun q=>w2.heap.size<=q) ga) (Nat.le_refl _)) (Nat.le_refl _)) (Nat.le_refl _)).grown (fun q hq e=>by omega);exact⟨_,_,_,_,rfl,⟨_,aA s0 0⟩,aC s0 0,⟨_,aA s1 1⟩,aC s1 1,⟨_,aA s2 2⟩,aC s2 2,fun _=>⟨rfl,aB g1 (aB g2 g3)⟩,fun h=>absurd he h⟩
theorem u6{w:World}{N K C:Int}{i:Int}(h:dx N K C)(hi:i<0∨(C+K-1) / K<=i):Calls P 34 #[i9 N K C,.int .i64 i] w fun ev w'=>ev=.returned (.int .i64 0)/\w.grownBy w' none:=by
 apply vc34;dsimp only[VC34,Br,Rd,cI,nb,iq]
 try simp only[aG,mnI]
 obtain⟨w1,DG,g1,b1⟩:=fQ w #[.int .u64 N,.int .i64 K,.int .i64 C] 51;rw[← DG];refine⟨fun h'=>⟨by trivial,g1⟩,fun h'=>⟨N,aA b1 0,K,aA b1 1,C,aA b1 2,(il h).mono fun ev w2 hh=>?_⟩⟩;obtain⟨rfl,g2⟩:=hh;exact⟨_,rfl,fun _=>⟨by trivial,aB g1 g2⟩,fun h2=>absurd (hi.resolve_left h') (by omega)⟩
def wk(N:Int)(l:List aU)(k i:Int):List Edge:=if Ae N l k=0/\0<=i/\i<((l.length:Int)+k-1) / k then kI N l (i*k) else []
theorem Ak{N k:Int}{l:List aU}(hN:0<=N)(hl:l.length<=2^20)(h:Ae N l k=0):dx N k l.length:=by
 have h1:=uT.1 h;have h2:=my.1 h1.1;unfold dx;omega
theorem wl {w:World} {A:OA} {n c:Nat} {l:List aU} {N k i:Int} (hr:bB w A (cw l)) (hn:n=l.length) (hc:n<=c) (hA:A=none->c=0) (hN:0<=N) (hl:n<50) (hb:sI l) :
    Calls P 16 #[.agg #[.int .u64 N,.slice A n c],.int .i64 k,.int .i64 i] w fun ev w'=>∃(B:OA)(m d:Nat),ev=.returned (.slice B m d)/\aH w' w.heap.size 45 2 B m d (edges (wk N l k i))/\w.grownBy w' none:=by
  apply vc16;dsimp only[VC16,Br,Rd,Rs,Ws,cI,cT,nb,iq]
  try simp only[aG]
  obtain⟨w1,DG,g1,b1⟩:=fQ w #[.int .u64 N,.slice A n c] 25;rw[← DG];refine⟨N,aA b1 0,A,n,c,aA b1 1,(vX (hr.kept_none g1) hn (by omega) hb).mono fun ev w2 hh=>?_⟩;obtain⟨rfl,g2⟩:=hh;by_cases he:Ae N l k=0
  · have hV:Cc N l k=i9 N k l.length:=by unfold Cc;rw[if_pos he]
    rw[hV];have hok:=Ak hN (by omega) he;have IY:=uT.1 he;have ga:=World.grownBy_alloc w2 (.cells #[.int .u64 0,.int .i64 0,.int .i64 0] 51) none;have s0:=heap_alloc_new w2 (.cells #[.int .u64 0,.int .i64 0,.int .i64 0] 51);have s1:=aF s0 0 (.int .u64 N);have s2:=aF s1 1 (.int .i64 k);have s3:=aF s2 2 (.int .i64 (l.length:Int));have g3:w2.grownBy ((((w2.alloc (.cells #[.int .u64 0,.int .i64 0,.int .i64 0] 51)).setCell ⟨w2.heap.size,0,none⟩ (.int .u64 N)).setCell ⟨w2.heap.size,1,none⟩ (.int .i64 k)).setCell ⟨w2.heap.size,2,none⟩ (.int .i64 (l.length:Int))) none:=(cF (cF (cF (Kp.of_none (S:=fun q=>w2.heap.size<=q) ga) (Nat.le_refl _)) (Nat.le_refl _)) (Nat.le_refl _)).grown (fun q hq e=>by omega);refine⟨_,_,_,_,rfl,⟨_,aA s0 0⟩,aC s0 0,⟨_,aA s1 1⟩,aC s1 1,⟨_,aA s2 2⟩,aC s2 2,fun h=>absurd he h,fun _=>?_⟩;obtain⟨w3,Ep⟩:∃ w3,w3=(((w2.alloc (.cells #[.int .u64 0,.int .i64 0,.int .i64 0] 51)).setCell ⟨w2.heap.size,0,none⟩ (.int .u64 N)).setCell ⟨w2.heap.size,1,none⟩ (.int .i64 k)).setCell ⟨w2.heap.size,2,none⟩ (.int .i64 (l.length:Int)):=⟨_,rfl⟩;rw[← Ep]at s3 g3 ⊢;have DP:=aB g1 (aB g2 g3);by_cases hi:0<=i/\i<((l.length:Int)+k-1) / k
    · have h3:i*k<=(l.length:Int)-1:=by
        have:i+1<=((l.length:Int)+k-1) / k:=by omega
        have:=(Int.le_ediv_iff_mul_le (by omega)).1 this;rw[Int.add_mul,Int.one_mul]at this;omega
      have h4:0<=i*k:=Int.mul_nonneg hi.1 (by omega);have KQ:wk N l k i=kI N l (i*k):=by unfold wk;rw[if_pos ⟨he,hi⟩]
      rw[KQ];refine⟨N,by rw[aA s3 0];rfl,k,by rw[aA s3 1];rfl,(l.length:Int),by rw[aA s3 2];rfl,(ku hok hi.1 hi.2).mono fun ev w4 hh=>?_⟩;obtain⟨rfl,g4⟩:=hh;have b4:=aE b1 (aB g2 (aB g3 g4));refine⟨_,rfl,fun h=>absurd h (by omega),fun _=>⟨N,aA b4 0,A,n,c,aA b4 1,by omega,(nG ((hr.kept_none DP).kept_none g4) hn hc hA hl hb).mono fun ev w5 hh=>?_⟩⟩;obtain⟨B,m,d,rfl,o5,g5⟩:=hh;exact⟨_,_,_,_,rfl,B,m,d,rfl,o5.mono (aB DP g4).size,aB DP (aB g4 g5)⟩
    · have KQ:wk N l k i=[]:=by unfold wk;rw[if_neg fun h=>hi h.2]
      rw[KQ];refine⟨N,by rw[aA s3 0];rfl,k,by rw[aA s3 1];rfl,(l.length:Int),by rw[aA s3 2];rfl,(u6 hok (by omega)).mono fun ev w4 hh=>?_⟩;obtain⟨rfl,g4⟩:=hh;exact⟨_,rfl,fun _=>⟨none,0,0,rfl,aH.nil _ _ _ _,aB DP g4⟩,fun h=>absurd rfl h⟩
  · have hV:Cc N l k=i9 0 0 0:=by unfold Cc;rw[if_neg he]
    have KQ:wk N l k i=[]:=by unfold wk;rw[if_neg fun h=>he h.1]
    rw[hV,KQ];have ga:=World.grownBy_alloc w2 (.cells #[.int .u64 0,.int .i64 0,.int .i64 0] 51) none;have s0:=heap_alloc_new w2 (.cells #[.int .u64 0,.int .i64 0,.int .i64 0] 51);have s1:=aF s0 0 (.int .u64 0);have s2:=aF s1 1 (.int .i64 0);have g3:w2.grownBy ((((w2.alloc (.cells #[.int .u64 0,.int .i64 0,.int .i64 0] 51)).setCell ⟨w2.heap.size,0,none⟩ (.int .u64 0)).setCell ⟨w2.heap.size,1,none⟩ (.int .i64 0)).setCell ⟨w2.heap.size,2,none⟩ (.int .i64 0)) none:=(cF (cF (cF (Kp.of_none (S:=fun q=>w2.heap.size<=q) ga) (Nat.le_refl _)) (Nat.le_refl _)) (Nat.le_refl _)).grown (fun q hq e=>by omega);exact⟨_,_,_,_,rfl,⟨_,aA s0 0⟩,aC s0 0,⟨_,aA s1 1⟩,aC s1 1,⟨_,aA s2 2⟩,aC s2 2,fun _=>⟨none,0,0,rfl,aH.nil _ _ _ _,aB g1 (aB g2 g3)⟩,fun h=>absurd he h⟩
end Go.Proofs.YtlieaecnllkefaaGreat

/- Own texts, packed: W10, W11, W12, W13, W14. -/
import Derived.Test.YtlieaecnllkefaaGreatGWBg
set_option linter.unusedVariables false
set_option linter.unusedSimpArgs false
set_option maxHeartbeats 8000000
set_option maxRecDepth 100000
namespace Go.Proofs.YtlieaecnllkefaaGreat
open Go Go.V Go.RowKit
theorem wH(p:Nat):(2:Int)^(8*p)=256^p:=by rw[Int.pow_mul];rfl
theorem Da(x:Int):hZ [x]=x:=by simp[hZ]
theorem AW{l:List Int}{p:Nat}(hl:l.length<=8)(hb:By l)(hp:p<l.length):(0<=l[p]*2^(min (Int.toNat (8*(p:Int))) 64)/\l[p]*2^(min (Int.toNat (8*(p:Int))) 64)<=18446744073709551615)/\dE .or .u64 (hZ (l.take p)) (l[p]*2^(min (Int.toNat (8*(p:Int))) 64))=hZ (l.take (p+1)):=by
 have e1:min (Int.toNat (8*(p:Int))) 64=8*p:=by omega
 rw[e1];have hx:=hb _ (List.getElem_mem hp);have h1:=Bi (hb.take p);have JA:(l.take p).length=p:=by rw[List.length_take];omega
 rw[JA]at h1;have h2:hZ (l.take (p+1))=hZ (l.take p)+256^p*l[p]:=by rw[List.take_succ_eq_append_getElem hp,yg,JA,Da]
 have UQ:p=0∨p=1∨p=2∨p=3∨p=4∨p=5∨p=6∨p=7:=by omega
 have h3:0<=l[p]*256^p/\hZ (l.take p)+l[p]*256^p<18446744073709551616:=by
  refine⟨Int.mul_nonneg hx.1 (Int.le_of_lt (lE p)),?_⟩;clear h2 JA e1;rcases UQ with rfl | rfl | rfl | rfl | rfl | rfl | rfl | rfl <;>omega
 have h4:=sP (x:=hZ (l.take p)) (c:=l[p]) (j:=8*p) h1.1 (by rw[wH];exact h1.2) hx.1 (by rw[wH];exact h3.2);refine⟨by rw[wH];omega,?_⟩;rw[h4,h2,wH,Int.mul_comm]
theorem m0{w:World}{A:OA}{n c:Nat}{l:List Int}(hr:aZ w A (bV l))(hn:n=l.length)(hl:l.length<=8)(hb:By l):Calls P 84 #[.slice A n c] w fun ev w'=>ev=.returned (.int .u64 (hZ l))/\w'=w:=by
 apply vc84;dsimp only[VC84,Br,Rd,Ix]
 try simp only[aF]
 refine⟨fun m v i W=>∃ p:Nat,i=(p:Int)/\p<=l.length/\m=l.length-p/\v=hZ (l.take p)/\W=w,⟨_,0,rfl,by omega,rfl,rfl,rfl⟩,?_⟩;rintro m v i W ⟨p,rfl,hp,rfl,rfl,rfl⟩;have tp:(p:Int).toNat=p:=by omega
 refine⟨fun FE=>?_,fun FJ=>?_⟩
 ·have lp:p<l.length:=by omega
  obtain⟨a,e1,e2⟩:=hr p (.int .u8 l[p]) (by rw[List.getElem?_map,List.getElem?_eq_getElem lp];rfl);have hx:=hb _ (List.getElem_mem lp);obtain⟨q1,q2⟩:=AW hl hb lp;refine⟨a,e1,by omega,by omega,l[p],by rw[tp];exact e2,by omega,by omega,⟨by omega,q1⟩,by omega,l.length-(p+1),by omega,p+1,by omega,by omega,rfl,q2,rfl⟩
 ·have:p=l.length:=by omega
  subst this;rw[List.take_length];exact⟨rfl,rfl⟩
theorem mX{w:World}{A:OA}{n c:Nat}{l:List Int}(hr:aZ w A (bV l))(hn:n=l.length)(hl:l.length<=8)(hb:By l):Calls P 85 #[.slice A n c] w fun ev w'=>ev=.returned (.int .u64 (hZ l))/\w'=w:=by
 apply vc85;dsimp only[VC85,Br,Rd,Ix]
 try simp only[aF]
 refine⟨fun m v i W=>∃ p:Nat,i=(p:Int)/\p<=l.length/\m=l.length-p/\v=hZ (l.take p)/\W=w,⟨_,0,rfl,by omega,rfl,rfl,rfl⟩,?_⟩;rintro m v i W ⟨p,rfl,hp,rfl,rfl,rfl⟩;have tp:(p:Int).toNat=p:=by omega
 refine⟨fun FE=>?_,fun FJ=>?_⟩
 ·have lp:p<l.length:=by omega
  obtain⟨a,e1,e2⟩:=hr p (.int .u8 l[p]) (by rw[List.getElem?_map,List.getElem?_eq_getElem lp];rfl);have hx:=hb _ (List.getElem_mem lp);obtain⟨q1,q2⟩:=AW hl hb lp;refine⟨a,e1,by omega,by omega,l[p],by rw[tp];exact e2,by omega,by omega,⟨by omega,q1⟩,by omega,l.length-(p+1),by omega,p+1,by omega,by omega,rfl,q2,rfl⟩
 ·have:p=l.length:=by omega
  subst this;rw[List.take_length];exact⟨rfl,rfl⟩
theorem fd{w:World}{A:OA}{l:List Int}(h:aZ w A (bV l))(k:Nat):aZ w A (bV (l.take k)):=by
 intro j u hj;rw[List.getElem?_map,List.getElem?_take]at hj;split at hj
 ·exact h j u (by rw[List.getElem?_map];exact hj)
 ·simp at hj
theorem vm{w:World}{A:OA}{n c:Nat}{x r:List Int}{N K C:Int}(hr:aZ w A (bV x))(hn:n=x.length)(hc:n<=c)(hb:By x)(hx:x=ji N K C++r)(hN:0<=N)(hok:fe N K C):
    Calls P 45 #[.slice A n c] w fun ev w'=>ev=.returned (.tuple #[jM N K C,.int .i64 0])/\w.grownBy w' none:=by
  apply vc45;dsimp only[VC45,rt,Wt,Br,Bb,Rd,Eg,Cv,Ws,cI,cB,nb,iq]
  try simp only[aF]
  have hk:=hok;unfold fe at hk;have FI:24<=x.length:=by rw[hx,List.length_append,gG];omega
  have e4:x.take 4=[84,71,88,49]:=by rw[hx];exact yC _ _ _ _
  have e24:x.take 24=ji N K C:=by rw[hx];exact List.take_left' (gG _ _ _)
  have eN:(x.drop 4).take 8=dL N 8:=by rw[hx];exact ED _ _ _ _
  have eK:(x.drop 12).take 4=dL K 4:=by rw[hx];exact EE _ _ _ _
  have eC:(x.drop 16).take 4=dL C 4:=by rw[hx];exact EF _ _ _ _
  have gA:=World.grownBy_alloc w (.cells #[.int .u64 0,.int .i64 0,.int .i64 0] 51) none;have bA:=heap_alloc_new w (.cells #[.int .u64 0,.int .i64 0,.int .i64 0] 51);refine⟨fun h=>absurd h (by omega),fun _=>⟨⟨by omega,by omega⟩,qZ (x.take 4),dg (fd (hr.kept_none gA) 4) (by rw[e4];rfl),_,fun w=>kC _ _ _ _ w,fun h=>?_,fun _=>⟨⟨by omega,by omega⟩,?_⟩⟩⟩
  · rw[e4]at h;exact absurd h (by decide)
  refine(tY (fd (hr.kept_none gA) 24) (by rw[e24,gG]) (by omega) (by rw[e24];exact yD _ _ _) (by rw[e24,gG];omega) (by rw[e24];exact(mI _).1)).mono fun ev w1 hh=>?_;obtain⟨A1,n1,c1,rfl,o1,g1⟩:=hh;have b1:=aI bA g1;have He:=aA gA g1;refine⟨_,_,_,_,rfl,fun h=>(by cases h),fun _=>?_⟩
  -- the numbers
  have gd:=aH (aC w1 none);obtain⟨W0,O6⟩:∃ W0,W0=w1.drew:=⟨_,rfl⟩;rw[← O6]at gd ⊢;have g0:=aA He gd;have b0:=aI b1 gd;have rN:∀ W,w.grownBy W none->aZ W (bB A c 4 1) (bV (dL N 8)):=fun W hW=>by rw[← eN];exact fd (kV (hr.kept_none hW) (by omega)) 8
  have rK:∀ W,w.grownBy W none->aZ W (bB A c 12 1) (bV (dL K 4)):=fun W hW=>by rw[← eK];exact fd (kV (hr.kept_none hW) (by omega)) 4
  have rC:∀ W,w.grownBy W none->aZ W (bB A c 16 1) (bV (dL C 4)):=fun W hW=>by rw[← eC];exact fd (kV (hr.kept_none hW) (by omega)) 4
  have tN:∀ W,w.grownBy W none->∀ {R:Ending->World->Prop},R (.returned (.int .u64 N)) W->Calls P 84 #[.slice (bB A c 4 1) (12-4) (c-4)] W R:=fun W hW R hR=>(m0 (rN W hW) (by rw[bI]) (by rw[bI];omega) (By.fix _ _)).mono fun ev w' hh=>by
    obtain⟨rfl,rfl⟩:=hh;rw[jL 8 hN (by omega)];exact hR
  have tK:∀ W,w.grownBy W none->∀ {R:Ending->World->Prop},R (.returned (.int .u64 K)) W->Calls P 84 #[.slice (bB A c 12 1) (16-12) (c-12)] W R:=fun W hW R hR=>(m0 (rK W hW) (by rw[bI]) (by rw[bI];omega) (By.fix _ _)).mono fun ev w' hh=>by
    obtain⟨rfl,rfl⟩:=hh;rw[jL 4 (by omega) (by omega)];exact hR
  have tC:∀ W,w.grownBy W none->∀ {R:Ending->World->Prop},R (.returned (.int .u64 C)) W->Calls P 84 #[.slice (bB A c 16 1) (20-16) (c-16)] W R:=fun W hW R hR=>(m0 (rC W hW) (by rw[bI]) (by rw[bI];omega) (By.fix _ _)).mono fun ev w' hh=>by
    obtain⟨rfl,rfl⟩:=hh;rw[jL 4 (by omega) (by omega)];exact hR
  have z1:(0:Int)<=12/\(12:Int)<=(c:Int)/\(0:Int)<=4/\(4:Int)<=12:=by omega
  have z2:(0:Int)<=16/\(16:Int)<=(c:Int)/\(0:Int)<=12/\(12:Int)<=16:=by omega
  have z3:(0:Int)<=20/\(20:Int)<=(c:Int)/\(0:Int)<=16/\(16:Int)<=20:=by omega
  have iK:-9223372036854775808<=K/\K<=9223372036854775807:=by omega
  have iC:-9223372036854775808<=C/\C<=9223372036854775807:=by omega
  have gN:=World.grownBy_alloc W0 (.cells #[.int .u64 0,.int .i64 0,.int .i64 0] 51) none;have s0:=heap_alloc_new W0 (.cells #[.int .u64 0,.int .i64 0,.int .i64 0] 51);have s1:=aG s0 0 (.int .u64 N);have s2:=aG s1 1 (.int .i64 K);have s3:=aG s2 2 (.int .i64 C);have gS:W0.grownBy ((((W0.alloc (.cells #[.int .u64 0,.int .i64 0,.int .i64 0] 51)).setCell ⟨W0.heap.size,0,none⟩ (.int .u64 N)).setCell ⟨W0.heap.size,1,none⟩ (.int .i64 K)).setCell ⟨W0.heap.size,2,none⟩ (.int .i64 C)) none:=(dw (dw (dw (Kp.of_none (S:=fun q=>W0.heap.size<=q) gN) (Nat.le_refl _)) (Nat.le_refl _)) (Nat.le_refl _)).grown (fun q hq e=>by omega);have gNw:=aA g0 gN;refine⟨fun a W=>∃ b:Nat,a=⟨b,0,none⟩/\W.heap[b]?=some (.cells #[.int .u64 N,.int .i64 K,.int .i64 C] 51 (0,0))/\W0.grownBy W none,?_,?_⟩
  · refine⟨⟨⟨⟨z1,tN W0 g0 ⟨_,rfl,z2,tK W0 g0 ⟨_,rfl,iK,z3,tC W0 g0 ⟨_,rfl,iC,⟨_,aB s0 0⟩,aD s0 0,⟨_,aB s1 1⟩,aD s1 1,⟨_,aB s2 2⟩,aD s2 2,_,rfl,s3,gS⟩⟩⟩⟩,⟨z1,tN W0 g0 ⟨_,rfl,z2,tK W0 g0 ⟨_,rfl,iK,z3,tC _ gNw ⟨_,rfl,iC,⟨_,aB s0 0⟩,aD s0 0,⟨_,aB s1 1⟩,aD s1 1,⟨_,aB s2 2⟩,aD s2 2,_,rfl,s3,gS⟩⟩⟩⟩⟩,⟨z1,tN W0 g0 ⟨_,rfl,z2,z3,tK _ gNw ⟨_,rfl,iK,tC _ gNw ⟨_,rfl,iC,⟨_,aB s0 0⟩,aD s0 0,⟨_,aB s1 1⟩,aD s1 1,⟨_,aB s2 2⟩,aD s2 2,_,rfl,s3,gS⟩⟩⟩⟩⟩,⟨z1,z2,z3,tN _ gNw ⟨_,rfl,tK _ gNw ⟨_,rfl,iK,tC _ gNw ⟨_,rfl,iC,⟨_,aB s0 0⟩,aD s0 0,⟨_,aB s1 1⟩,aD s1 1,⟨_,aB s2 2⟩,aD s2 2,_,rfl,s3,gS⟩⟩⟩⟩⟩
  · rintro a W ⟨b,rfl,hB,gW⟩;refine⟨N,by simpa using aB hB 0,K,by rw[mr];exact aB hB 1,C,by rw[mr];exact aB hB 2,lS.mono fun ev W2 hh=>?_⟩;obtain⟨rfl,g2⟩:=hh;have KX:=aI hB g2;have bR:=aI (aI b0 gW) g2;have t1:=aG bR 0 (.int .u64 N);have t2:=aG t1 1 (.int .i64 K);have t3:=aG t2 2 (.int .i64 C);have gF:w.grownBy (((W2.setCell ⟨w.heap.size,0,none⟩ (.int .u64 N)).setCell ⟨w.heap.size,1,none⟩ (.int .i64 K)).setCell ⟨w.heap.size,2,none⟩ (.int .i64 C)) none:=(dw (dw (dw (Kp.of_none (S:=fun q=>w.heap.size<=q) (aA g0 (aA gW g2))) (Nat.le_refl _)) (Nat.le_refl _)) (Nat.le_refl _)).grown (fun q hq e=>by omega);exact⟨_,rfl,fun h=>absurd hok (of_decide_eq_false h),fun _=>⟨N,by simpa using aB KX 0,K,by rw[mr];exact aB KX 1,C,by rw[mr];exact aB KX 2,⟨_,aB bR 0⟩,aD bR 0,⟨_,aB t1 1⟩,aD t1 1,⟨_,aB t2 2⟩,aD t2 2,N,by rw[aB t3 0];rfl,K,by rw[aB t3 1];rfl,C,by rw[aB t3 2];rfl,rfl,gF⟩⟩
theorem zD(l:List fh):(mJ l).drop (16*l.length)=[88,71,84,49]:=by unfold mJ;exact List.drop_left' (kS l)
theorem zC(l:List fh):(mJ l).take (16*l.length)=l.flatMap jJ:=by unfold mJ;exact List.take_left' (kS l)
theorem yu {w:World} {A:OA} {n c:Nat} {x pre:List Int} {rows:List fh} {N K C:Int} (hr:aZ w A (bV x)) (hn:n=x.length) (hc:n<=c) (hb:By x) (Nv:x.length<=2^30) (hx:x=pre++mK rows) (UL:(pre.length:Int)=24+dr rows) (hok:fe N K C) (J6:(C+K-1) / K=(rows.length:Int)) (Qi:rowsOk rows=true) (hN:∀ r∈rows,AQ r) :
    Calls P 46 #[.slice A n c,jM N K C] w fun ev w'=>∃(A':OA)(n' c':Nat),ev=.returned (.tuple #[.slice A' n' c',.int .i64 0])/\aE w' w.heap.size 60 3 A' n' c' (eT rows)/\w.grownBy w' none:=by
  apply vc46;dsimp only[VC46,rt,Wt,Br,Bb,Rd,Rc,Ap,Eg,Cv,Ws,cI,cB,nb,iq]
  try simp only[aF]
  obtain⟨w1,FH,g1,b1⟩:=fZ w #[.int .u64 N,.int .i64 K,.int .i64 C] 51;rw[← FH];refine⟨N,aB b1 0,K,aB b1 1,C,aB b1 2,(jb hok).mono fun ev w2 hh=>?_⟩;obtain⟨rfl,g2⟩:=hh;rw[J6];have FI:x.length=pre.length+(16*rows.length+8):=by rw[hx,List.length_append,kD]
  have Kn:rows.length<=2^30:=by omega
  have FO:0<=dr rows:=by
    have:=lN (l:=rows) fun r hr=>(hN r hr).len.1;omega
  have Ic:=aA g1 g2;have tcut:((n:Int)-((rows.length:Int)*16+8)).toNat=pre.length:=by omega
  have rX:aZ w2 (bB A c pre.length 1) (bV (mK rows)):=by
    have:=kV (k:=pre.length) (hr.kept_none Ic) (show x.length<=c by omega);rw[hx,List.drop_left' rfl]at this;exact this
  refine⟨_,rfl,by omega,by omega,by omega,fun h=>absurd h (by omega),fun _=>⟨by omega,⟨by omega,by omega⟩,?_⟩⟩;rw[tcut];refine(tY rX (by rw[kD];omega) (by omega) (xT _) (by rw[kD];omega) (mI _).1).mono fun ev w3 hh=>?_;obtain⟨A3,n3,c3,rfl,o3,g3⟩:=hh;have e3:(mK rows).take ((mK rows).length-4)=mJ rows:=(mI _).2;rw[e3]at o3;have Jn:n3=16*rows.length+4:=by have h':=o3.cases.1;unfold bV at h';rw[List.length_map,nH]at h';omega
  have Kq:=eH o3;have FY:=aA Ic g3;have z03:=FY.size;have t3:((n3:Int)-4).toNat=16*rows.length:=by omega
  have rM:aZ w3 (bB A3 c3 (16*rows.length) 1) (bV [88,71,84,49]):=by
    have:=kV (c:=c3) (k:=16*rows.length) o3.row (by rw[nH];omega);rw[zD]at this;exact this
  have UW:n3-16*rows.length=4:=by omega
  have OS:=dg (n:=n3-16*rows.length) (c:=c3-16*rows.length) rM UW;refine⟨A3,n3,c3,true,rfl,fun h=>(by cases h),fun _=>⟨by omega,⟨by omega,by omega⟩,_,by rw[t3];exact OS,_,fun w=>kC _ _ _ _ w,fun h=>absurd h (by decide),fun _=>⟨by omega,by omega,⟨by omega,by omega⟩,?_⟩⟩⟩;rw[t3];have Ow:(n:Int)-24-((rows.length:Int)*16+8)=dr rows:=by omega
  rw[Ow];have rB:aZ w3 A3 (bV (rows.flatMap jJ)):=by rw[← zC];exact fd o3.row _
  refine⟨fun q B d e left R s t W=>∃ p:Nat,p<=rows.length/\q=rows.length-p/\aE W w3.heap.size 60 3 B d e (eT (rows.take p))/\left=dr (rows.drop p)/\aZ w3 R (bV ((rows.drop p).flatMap jJ))/\s=16*(rows.length-p)/\s<=t/\w3.grownBy W none,⟨_,0,by omega,rfl,aE.nil _ _ _ _,rfl,rB,by omega,by omega,aC _ _⟩,?_⟩;rintro q B d e left R s t W ⟨p,hp,rfl,oW,rfl,rW3,rfl,JB,gW⟩;have rW:=rW3.kept_none gW;have gWw:=aA FY gW;have zW:=gW.size;have hd:d=p:=by have h':=oW.cases.1;rw[fN,List.length_take]at h';omega
  refine⟨fun FE=>?_,fun FJ=>?_⟩
  · have lp:p<rows.length:=by omega
    have Q9:rows.drop p=rows[p] ::rows.drop (p+1):=List.drop_eq_getElem_cons lp;obtain⟨r,MQ⟩:∃ r,r=rows[p]:=⟨_,rfl⟩;rw[← MQ]at Q9;have Tp:AQ r:=by rw[MQ];exact hN _ (List.getElem_mem lp)
    rw[Q9,List.flatMap_cons]at rW rW3;obtain⟨f1,f2,f3⟩:=B8 Tp ((rows.drop (p+1)).flatMap jJ);obtain⟨q1,q2,q3⟩:=Tp;obtain⟨y,hy⟩:∃ y,y=jJ r++(rows.drop (p+1)).flatMap jJ:=⟨_,rfl⟩;have Sc:y.length=16*(rows.length-p):=by rw[hy,List.length_append,tG,kS,List.length_drop];omega
    have Kz:By y:=by rw[hy];exact(Bc r).append (yG _)
    have P3:y.drop 16=(rows.drop (p+1)).flatMap jJ:=by rw[hy];exact List.drop_left' (tG r)
    rw[← hy]at rW rW3 f1 f2 f3;have gd:=aH (aC W none);obtain⟨W0,O6⟩:∃ W0,W0=W.drew:=⟨_,rfl⟩;rw[← O6]at gd ⊢;have t1:∀ X,W.grownBy X none->∀ {Q:Ending->World->Prop},Q (.returned (.int .u64 r.len)) X->Calls P 85 #[.slice R 4 t] X Q:=fun X hX Q hQ=>(mX (fd (rW.kept_none hX) 4) (by rw[List.length_take];omega) (by rw[List.length_take];omega) (Kz.take _)).mono fun ev w' hh=>by
      obtain⟨rfl,rfl⟩:=hh;rw[f1];exact hQ
    have t2:∀ X,W.grownBy X none->∀ {Q:Ending->World->Prop},Q (.returned (.int .u64 r.first)) X->Calls P 85 #[.slice (bB R t 4 1) (12-4) (t-4)] X Q:=fun X hX Q hQ=>(mX (fd (kV (k:=4) (rW.kept_none hX) (by omega)) 8) (by rw[List.length_take,List.length_drop];omega) (by rw[List.length_take];omega) ((Kz.drop _).take _)).mono fun ev w' hh=>by
      obtain⟨rfl,rfl⟩:=hh;rw[f2];exact hQ
    have t3':∀ X,W.grownBy X none->∀ {Q:Ending->World->Prop},Q (.returned (.int .u64 r.sum)) X->Calls P 85 #[.slice (bB R t 12 1) (16-12) (t-12)] X Q:=fun X hX Q hQ=>(mX (fd (kV (k:=12) (rW.kept_none hX) (by omega)) 4) (by rw[List.length_take,List.length_drop];omega) (by rw[List.length_take];omega) ((Kz.drop _).take _)).mono fun ev w' hh=>by
      obtain⟨rfl,rfl⟩:=hh;rw[f3];exact hQ
    have z0:(0:Int)<=4/\(4:Int)<=(t:Int):=by omega
    have z1:(0:Int)<=12/\(12:Int)<=(t:Int)/\(0:Int)<=4/\(4:Int)<=12:=by omega
    have z2:(0:Int)<=16/\(16:Int)<=(t:Int)/\(0:Int)<=12/\(12:Int)<=16:=by omega
    have i1:-9223372036854775808<=r.len/\r.len<=9223372036854775807:=by omega
    have i2:-9223372036854775808<=r.first/\r.first<=9223372036854775807:=by omega
    have i3:0<=r.sum/\r.sum<=4294967295:=q3;have gN:=World.grownBy_alloc W0 (.cells #[.int .i64 0,.int .i64 0,.int .u32 0] 60) none;have s0:=heap_alloc_new W0 (.cells #[.int .i64 0,.int .i64 0,.int .u32 0] 60);have s1:=aG s0 0 (.int .i64 r.len);have s2:=aG s1 1 (.int .i64 r.first);have s3:=aG s2 2 (.int .u32 r.sum);have gS:W0.grownBy ((((W0.alloc (.cells #[.int .i64 0,.int .i64 0,.int .u32 0] 60)).setCell ⟨W0.heap.size,0,none⟩ (.int .i64 r.len)).setCell ⟨W0.heap.size,1,none⟩ (.int .i64 r.first)).setCell ⟨W0.heap.size,2,none⟩ (.int .u32 r.sum)) none:=(dw (dw (dw (Kp.of_none (S:=fun q=>W0.heap.size<=q) gN) (Nat.le_refl _)) (Nat.le_refl _)) (Nat.le_refl _)).grown (fun q hq e=>by omega);have gNw:=aA gd gN;have zd:=gd.size;refine⟨fun a X=>∃ b:Nat,a=⟨b,0,none⟩/\W.heap.size<=b/\X.heap[b]?=some (.cells #[.int .i64 r.len,.int .i64 r.first,.int .u32 r.sum] 60 (0,0))/\W.grownBy X none,?_,?_⟩
    · exact⟨⟨⟨⟨z0,t1 W0 gd ⟨_,rfl,i1,z1,t2 W0 gd ⟨_,rfl,i2,z2,t3' W0 gd ⟨_,rfl,i3,⟨_,aB s0 0⟩,aD s0 0,⟨_,aB s1 1⟩,aD s1 1,⟨_,aB s2 2⟩,aD s2 2,_,rfl,zd,s3,aA gd gS⟩⟩⟩⟩,⟨z0,t1 W0 gd ⟨_,rfl,i1,z1,t2 W0 gd ⟨_,rfl,i2,z2,t3' _ gNw ⟨_,rfl,i3,⟨_,aB s0 0⟩,aD s0 0,⟨_,aB s1 1⟩,aD s1 1,⟨_,aB s2 2⟩,aD s2 2,_,rfl,zd,s3,aA gd gS⟩⟩⟩⟩⟩,⟨z0,t1 W0 gd ⟨_,rfl,i1,z1,z2,t2 _ gNw ⟨_,rfl,i2,t3' _ gNw ⟨_,rfl,i3,⟨_,aB s0 0⟩,aD s0 0,⟨_,aB s1 1⟩,aD s1 1,⟨_,aB s2 2⟩,aD s2 2,_,rfl,zd,s3,aA gd gS⟩⟩⟩⟩⟩,⟨z0,z1,z2,t1 _ gNw ⟨_,rfl,i1,t2 _ gNw ⟨_,rfl,i2,t3' _ gNw ⟨_,rfl,i3,⟨_,aB s0 0⟩,aD s0 0,⟨_,aB s1 1⟩,aD s1 1,⟨_,aB s2 2⟩,aD s2 2,_,rfl,zd,s3,aA gd gS⟩⟩⟩⟩⟩
    · rintro a X ⟨b,rfl,Xy,hB,gX⟩;have gd2:=aH (aC X none);obtain⟨X1,KQ⟩:∃ X1,X1=X.drew:=⟨_,rfl⟩;rw[← KQ]at gd2 ⊢;have KY:=aI hB gd2;have gA:=World.grownBy_alloc X1 (.cells #[.int .i64 r.len,.int .i64 r.first,.int .u32 r.sum] 60) none;have rA:aZ (X1.alloc (.cells #[.int .i64 r.len,.int .i64 r.first,.int .u32 r.sum] 60)) (some ⟨X1.heap.size,0,none⟩) (eT [r]):=jr X1 #[.int .i64 r.len,.int .i64 r.first,.int .u32 r.sum] 60;have gW2:=aA gX (aA gd2 gA);have oW2:=oW.kp (S:=fun _=>False) (Kp.of_none gW2) (fun _ _ e=>e);have gWz:=aA gW gW2;obtain⟨A5,n5,c5,W5,r5,o5,g5⟩:=uQ (d:=1) oW2 rA (by omega) gWz.size;have ob:=fun q hq=>(World.ownsRow.lt oW2 q hq).1;have Kg:=bZ gWz g5 fun q hq=>ob q hq;have KX:=aI KY gA;have IT:W5.heap[b]?=some (.cells #[.int .i64 r.len,.int .i64 r.first,.int .u32 r.sum] 60 (0,0)):=by
        rw[g5.block _ (Array.getElem?_eq_some_iff.1 KX).1 (fun e=>by have:=oW.block_lt b e.symm;omega)];exact KX
      have L3:dr (rows.drop p)-r.len=dr (rows.drop (p+1)):=by
        rw[Q9];unfold dr;simp;omega
      have FW:0<=dr (rows.drop (p+1)):=by
        have:=lN (l:=rows.drop (p+1)) fun r hr=>(hN r (List.mem_of_mem_drop hr)).len.1;omega
      have Vd:dr (rows.drop p)<=dr rows:=by
        have h1:=i9 (rows.take p) (rows.drop p);rw[List.take_append_drop]at h1;have:=lN (l:=rows.take p) fun r hr=>(hN r (List.mem_of_mem_take hr)).len.1;omega
      refine⟨fun X=>X.heap[b]?=some (.cells #[.int .i64 r.len,.int .i64 r.first,.int .u32 r.sum] 60 (0,0)),KY,r.len,by simpa using aB KY 0,r.first,by rw[mr];exact aB KY 1,r.sum,by rw[mr];exact aB KY 2,KX,A5,n5,c5,W5,r5,IT,r.len,fun X hX=>by simpa using aB hX 0,by omega,⟨by omega,by omega⟩,rows.length-(p+1),by omega,p+1,by omega,rfl,?_,L3,?_,by omega,by omega,Kg⟩
      · rw[List.take_succ_eq_append_getElem lp,← MQ];exact o5
      · rw[← P3];exact kV (k:=16) rW3 (by omega)
  · have Lj:p=rows.length:=by omega
    subst Lj;rw[List.take_length]at oW;rw[List.drop_length];refine(lQ oW.row hd (by omega)).mono fun ev W1 hh=>?_;obtain⟨rfl,g4⟩:=hh;refine⟨_,rfl,fun h=>absurd (Qi.symm.trans h) (by decide),fun _=>⟨fun h=>absurd rfl h,fun _=>⟨_,_,_,rfl,(oW.kp (S:=fun _=>False) (Kp.of_none g4) (fun _ _ e=>e)).mono z03,aA gWw g4⟩⟩⟩
theorem xx{w:World}{A:OA}{n c:Nat}{l:List Int}(hr:aZ w A (bV l))(hn:n=l.length)(hl:l.length<=2^38):
    Calls P 48 #[.slice A n c] w fun ev w'=>∃(A':OA)(n' c':Nat),ev=.returned (.slice A' n' c')/\aE w' w.heap.size 5 1 A' n' c' (bV l)/\w.grownBy w' none:=by
  apply vc48;dsimp only[VC48,Br,Ap,nb];refine⟨fun h=>?_,fun h=>?_⟩
  · subst h;have:l=[]:=by
      cases l with
      | nil=>rfl
      | cons x l=>obtain⟨a,e,_⟩:=hr 0 _ rfl;cases e
    subst this;exact⟨none,0,0,rfl,aE.nil _ _ _ _,aC _ _⟩
  · obtain⟨a,rfl⟩:∃ a,A=some a:=by cases A with
      | none=>exact absurd rfl h
      | some a=>exact⟨a,rfl⟩
    have hg:=World.grownBy_alloc w (.cells #[] 5) none;have ho:aE (w.alloc (.cells #[] 5)) w.heap.size 5 1 (some ⟨w.heap.size,0,none⟩) 0 0 (bV []):=⟨rfl,.inr ⟨w.heap.size,0,#[],rfl,Nat.le_refl _,heap_alloc_new w _,Nat.le_refl _,Nat.zero_le _,rfl,rfl⟩⟩;obtain⟨A',n',c',w',h1,h2,h3,_⟩:=aV ho (hr.kept_none hg) hn (fun e=>by cases e) (by omega) hg.size;exact⟨A',n',c',w',h1,A',n',c',rfl,by simpa using h2,bZ hg h3 fun q hq=>(World.ownsRow.lt ho q hq).1⟩
theorem cJ.hok{N:Int}{l:List aW}{k:Nat}(h:cJ N l)(hk:1<=k/\k<=1048576):fe N k l.length:=by have:=h.n;have:=h.len;unfold fe;omega
theorem cJ.rowsN{N:Int}{l:List aW}{k:Nat}(h:cJ N l)(hk:0<k):∀ r∈eu l k (fC l.length k),AQ r:=fun r hr=>by
 unfold eu at hr;obtain⟨i,hi,rfl⟩:=List.mem_map.1 hr;exact h.rowN hk ((io hk).1 (by simpa using hi))
theorem cJ.flen{N:Int}{l:List aW}{k:Nat}(h:cJ N l)(hk:0<k):(gg N l k).length<=1000000:=by
 have h1:=h.bodiesLen hk (Nat.le_refl (fC l.length k));have h2:=pP (n:=l.length) hk;have h3:=h.len;rw[qJ];omega
theorem lI{w:World}{A:OA}{n c:Nat}{N:Int}{l:List aW}{k:Nat}(hr:aZ w A (bV (gg N l k)))(hn:n=(gg N l k).length)(hc:n<=c)(h:cJ N l)(hk:1<=k/\k<=1048576):
    Calls P 20 #[.slice A n c] w fun ev w'=>∃(B:OA)(m d:Nat),ev=.returned (.tuple #[jM N k l.length,.slice B m d,.int .i64 0])/\aE w' w.heap.size 60 3 B m d (eT (eu l k (fC l.length k)))/\w.grownBy w' none:=by
  apply vc20;dsimp only[VC20,rt,Wt,Br,Rd,Ws,cT,nb,iq];have g0:=World.grownBy_alloc w (.cells #[.int .u64 0,.int .i64 0,.int .i64 0] 51) none;have b0:=heap_alloc_new w (.cells #[.int .u64 0,.int .i64 0,.int .i64 0] 51);obtain⟨w0,IL⟩:∃ w0,w0=w.alloc (.cells #[.int .u64 0,.int .i64 0,.int .i64 0] 51):=⟨_,rfl⟩;rw[← IL]at g0 b0 ⊢;have hok:=h.hok hk;refine(vm (hr.kept_none g0) hn hc pZ rfl h.n.1 hok).mono fun ev w1 hh=>?_;obtain⟨rfl,g1⟩:=hh;have b1:=aI b0 g1;have ga:=World.grownBy_alloc w1 (.cells #[.int .u64 0,.int .i64 0,.int .i64 0] 51) none;have s0:=heap_alloc_new w1 (.cells #[.int .u64 0,.int .i64 0,.int .i64 0] 51);have s1:=aG s0 0 (.int .u64 N);have s2:=aG s1 1 (.int .i64 (k:Int));have s3:=aG s2 2 (.int .i64 (l.length:Int));have g3:w1.grownBy ((((w1.alloc (.cells #[.int .u64 0,.int .i64 0,.int .i64 0] 51)).setCell ⟨w1.heap.size,0,none⟩ (.int .u64 N)).setCell ⟨w1.heap.size,1,none⟩ (.int .i64 (k:Int))).setCell ⟨w1.heap.size,2,none⟩ (.int .i64 (l.length:Int))) none:=(dw (dw (dw (Kp.of_none (S:=fun q=>w1.heap.size<=q) ga) (Nat.le_refl _)) (Nat.le_refl _)) (Nat.le_refl _)).grown (fun q hq e=>by omega);refine⟨_,_,_,_,rfl,⟨_,aB s0 0⟩,aD s0 0,⟨_,aB s1 1⟩,aD s1 1,⟨_,aB s2 2⟩,aD s2 2,fun e=>absurd rfl e,fun _=>?_⟩;obtain⟨w3,GF⟩:∃ w3,w3=(((w1.alloc (.cells #[.int .u64 0,.int .i64 0,.int .i64 0] 51)).setCell ⟨w1.heap.size,0,none⟩ (.int .u64 N)).setCell ⟨w1.heap.size,1,none⟩ (.int .i64 (k:Int))).setCell ⟨w1.heap.size,2,none⟩ (.int .i64 (l.length:Int)):=⟨_,rfl⟩;have h3:w3.heap[w1.heap.size]?=some (.cells #[.int .u64 N,.int .i64 (k:Int),.int .i64 (l.length:Int)] 51 (0,0)):=by rw[GF];exact s3
  rw[← GF]at g3 ⊢;have FY:=aA g0 (aA g1 g3);have Ov:=uk (l:=l) (k:=k) (fC l.length k);refine⟨N,aB h3 0,(k:Int),aB h3 1,(l.length:Int),aB h3 2,(yu (pre:=ji N k l.length++du l k (fC l.length k)) (hr.kept_none FY) hn hc pZ (by have:=h.flen hk.1;omega) (by unfold gg;rw[List.append_assoc]) (by rw[Ov,List.length_append,gG];omega) hok (by rw[mT hk.1,eG]) (h.rowsOk hk.1 (Nat.le_refl _)) (h.rowsN hk.1)).mono fun ev w4 hh=>?_⟩;obtain⟨A4,n4,c4,rfl,o4,g4⟩:=hh;have h4:=aI h3 g4;have b4:=aI (aI b1 g3) g4;have t1:=aG b4 0 (.int .u64 N);have t2:=aG t1 1 (.int .i64 (k:Int));have t3:=aG t2 2 (.int .i64 (l.length:Int));have Ij:=aA FY g4;have z03:=FY.size;have z3:w.heap.size<w3.heap.size:=by
    have:=(Array.getElem?_eq_some_iff.1 (aI b1 g3)).1;exact this
  have K4:Kp w4 (((w4.setCell ⟨w.heap.size,0,none⟩ (.int .u64 N)).setCell ⟨w.heap.size,1,none⟩ (.int .i64 (k:Int))).setCell ⟨w.heap.size,2,none⟩ (.int .i64 (l.length:Int))) (fun q=>q=w.heap.size):=dw (dw (dw (Kp.refl _ _) rfl) rfl) rfl;have gF:=((Kp.of_none (S:=fun q=>w.heap.size<=q) Ij).then K4 fun q _ e=>by omega).grown fun q hq e=>by omega
  refine⟨_,_,_,_,rfl,fun e=>absurd rfl e,fun _=>⟨N,aB h4 0,(k:Int),aB h4 1,(l.length:Int),aB h4 2,⟨_,aB b4 0⟩,aD b4 0,⟨_,aB t1 1⟩,aD t1 1,⟨_,aB t2 2⟩,aD t2 2,N,by rw[aB t3 0];rfl,(k:Int),by rw[aB t3 1];rfl,(l.length:Int),by rw[aB t3 2];rfl,A4,n4,c4,rfl,?_,gF⟩⟩;exact(o4.kp K4 (fun q hq e=>by have:=(World.ownsRow.lt o4 q hq).1;omega)).mono (by omega)
theorem qS{l:List aW}{k m i:Nat}(hi:i<=m):dr ((eu l k m).take i)=((du l k i).length:Int):=by
 have:(eu l k m).take i=eu l k i:=by
  unfold eu;rw[← List.map_take,List.take_range,Nat.min_eq_left hi]
 rw[this,uk]
theorem mj{w:World}{A B:OA}{n c m d:Nat}{N:Int}{l:List aW}{k i:Nat}(hr:aZ w A (bV (gg N l k)))(hn:n=(gg N l k).length)(hc:n<=c)(h:cJ N l)(hk:1<=k/\k<=1048576)(hB:aZ w B (eT (eu l k (fC l.length k))))(hm:m=fC l.length k)(hd:m<=d)(hi:i<fC l.length k):
    Calls P 21 #[.slice A n c,.slice B m d,.int .i64 (i:Int)] w fun ev w'=>∃(C:OA)(n' c':Nat),ev=.returned (.tuple #[.slice C n' c',.int .i64 0])/\aE w' w.heap.size 5 1 C n' c' (bV (dQ l k i))/\w.grownBy w' none:=by
  apply vc21;dsimp only[VC21,rt,Br,Rd,Rc,Ix,cI,cS,ad,al,iq]
  try simp only[aF]
  have Hw:(eu l k (fC l.length k)).length=fC l.length k:=eG;have MZ:=pP (n:=l.length) (k:=k) hk.1;have hl:=h.len;have Hx:=(io hk.1).1 hi;have IC:=h.blen hk.1 Hx;have Gm:(eu l k (fC l.length k))[i]'(by rw[Hw];exact hi)=je l k i:=by unfold eu;simp
  refine(vl hB (by rw[Hw];exact hm) hd (by rw[Hw];omega) (h.rowsOk hk.1 (Nat.le_refl _)) (by rw[Hw];exact hi)).mono fun ev w1 hh=>?_;obtain⟨rfl,g1⟩:=hh;rw[qS (by omega)];have M8:=h.flen hk.1;obtain⟨s,hs⟩:=pD (l:=l) (k:=k) hi;have Uv:24+(du l k i).length+(dQ l k i).length<=n:=by
    rw[hn,qJ,hs,List.length_append,List.length_append];omega
  have ti:(i:Int).toNat=i:=by omega
  rw[ti];have cellR:∀ X,w.grownBy X none->∃ a,B=some a/\X.cell? (a.add (i*3))=some (.int .i64 ((dQ l k i).length:Int))/\X.cell? (Addr.add (a.add (i*3)) 2)=some (.int .u32 (px (dQ l k i))):=fun X hX=>by
    obtain⟨a,e0,e1,e2,e3⟩:=nG (hB.kept_none hX) (j:=i) (by rw[Hw];exact hi);rw[Gm]at e1 e3;exact⟨a,e0,e1,e3⟩
  obtain⟨a,e0,e1,e2⟩:=cellR w1 g1;have t1:(24+((du l k i).length:Int)).toNat=24+(du l k i).length:=by omega
  have t2:(24+((du l k i).length:Int)+((dQ l k i).length:Int)).toNat-(24+((du l k i).length:Int)).toNat=(dQ l k i).length:=by omega
  have rX:aZ w1 (bB A c (24+(du l k i).length) 1) (bV (dQ l k i)):=by
    have:=fd (kV (c:=c) (k:=24+(du l k i).length) (hr.kept_none g1) (by omega)) (dQ l k i).length;rw[Am hi]at this;exact this
  refine⟨_,rfl,fun e=>absurd e (by omega),fun _=>⟨fun e=>absurd e (by omega),fun _=>⟨a,e0,by omega,by omega,_,e1,by omega,fun e=>absurd e (by omega),fun _=>⟨a,e0,by omega,by omega,_,e1,by omega,⟨by omega,by omega,by omega,by omega⟩,?_⟩⟩⟩⟩;rw[t2,t1];refine(xx rX rfl (by omega)).mono fun ev w2 hh=>?_;obtain⟨C,n',c',rfl,o2,g2⟩:=hh;have GA:n'=(dQ l k i).length:=by have h':=o2.cases.1;unfold bV at h';rw[List.length_map]at h';omega
  have gd:=aH (aC w2 none);obtain⟨w3,GF⟩:∃ w3,w3=w2.drew:=⟨_,rfl⟩;rw[← GF]at gd ⊢;have gA:=World.grownBy_alloc w3 (.cells #[.slice C n' c'] 26) none;have rA:aZ (w3.alloc (.cells #[.slice C n' c'] 26)) (some ⟨w3.heap.size,0,none⟩) [.slice C n' c']:=jr w3 #[.slice C n' c'] 26;have Gv:=aA g1 (aA g2 gd);have o4:=o2.kp (S:=fun _=>False) (Kp.of_none (aA gd gA)) (fun _ _ e=>e);refine⟨C,n',c',rfl,fun X=>w.grownBy X none,Gv,aA Gv gA,(mg rA o4.row GA h.bodyBy (by omega)).mono fun ev w5 hh=>?_⟩;obtain⟨rfl,rfl⟩:=hh;refine⟨_,rfl,aA Gv gA,a,e0,by omega,by omega,_,fun X hX=>?_,fun e=>absurd rfl e,fun _=>⟨C,n',c',rfl,o4.mono g1.size,aA Gv gA⟩⟩;obtain⟨a',e0',_,e2'⟩:=cellR X hX;rw[e0]at e0';cases e0';exact e2'
theorem cJ.blen13{N:Int}{l:List aW}{k i:Nat}(h:cJ N l)(hk:0<k)(hi:i*k<l.length):(dQ l k i).length<=6540:=by
 have h1:(ki l k i).length<=i*k:=by
  have:=iW (l.take (i*k)) [];unfold ki;rw[List.length_take]at *;simp only[List.length_nil]at *;omega
 have h2:(jV l k i).length<=l.length-i*k:=by rw[mb];omega
 have h5:=h.len;have h3:=uN (h.blk hk hi) (by omega) (by omega);unfold dQ;omega
theorem CV{l:List aW}{k p:Nat}:l.take (p*k)++jV l k p=l.take ((p+1)*k):=by
 unfold jV;rw[Nat.add_mul,Nat.one_mul,List.take_add]
theorem uI {w:World} {A:OA} {n c:Nat} {N:Int} {l:List aW} {k:Nat} (hr:aZ w A (bV (gg N l k))) (hn:n=(gg N l k).length) (hc:n<=c) (h:cJ N l) (hk:1<=k/\k<=1048576) :
    Calls P 22 #[.slice A n c] w fun ev w'=>∃(B:OA)(d e:Nat),ev=.returned (.tuple #[.agg #[.int .u64 N,.slice B d e],.int .i64 (k:Int),.int .i64 0])/\aE w' w.heap.size 62 4 B d e (cE l)/\w.grownBy w' none:=by
  apply vc22;dsimp only[VC22,rt,Wt,Br,Rd,Rc,Rs,Ix,Ap,Ws,cI,cB,cT,nb,ad,al,iq]
  try simp only[aF]
  have hl:=h.len;have hok:=h.hok hk;have g0:=World.grownBy_alloc w (.cells #[.int .u64 0,.slice none 0 0] 25) none;have b0:=heap_alloc_new w (.cells #[.int .u64 0,.slice none 0 0] 25);obtain⟨w0,IL⟩:∃ w0,w0=w.alloc (.cells #[.int .u64 0,.slice none 0 0] 25):=⟨_,rfl⟩;rw[← IL]at g0 b0 ⊢;refine(lI (hr.kept_none g0) hn hc h hk).mono fun ev w1 hh=>?_;obtain⟨X,xm,xd,rfl,oX,g1⟩:=hh;have Sf:xm=fC l.length k:=by have h':=oX.cases.1;rw[fN,eG]at h';omega
  have Xa:=eH oX;have b1:=aI b0 g1;have ga:=World.grownBy_alloc w1 (.cells #[.int .u64 0,.int .i64 0,.int .i64 0] 51) none;have s0:=heap_alloc_new w1 (.cells #[.int .u64 0,.int .i64 0,.int .i64 0] 51);have s1:=aG s0 0 (.int .u64 N);have s2:=aG s1 1 (.int .i64 (k:Int));have s3:=aG s2 2 (.int .i64 (l.length:Int));have g3:w1.grownBy ((((w1.alloc (.cells #[.int .u64 0,.int .i64 0,.int .i64 0] 51)).setCell ⟨w1.heap.size,0,none⟩ (.int .u64 N)).setCell ⟨w1.heap.size,1,none⟩ (.int .i64 (k:Int))).setCell ⟨w1.heap.size,2,none⟩ (.int .i64 (l.length:Int))) none:=(dw (dw (dw (Kp.of_none (S:=fun q=>w1.heap.size<=q) ga) (Nat.le_refl _)) (Nat.le_refl _)) (Nat.le_refl _)).grown (fun q hq e=>by omega);refine⟨_,_,_,_,_,_,_,rfl,⟨_,aB s0 0⟩,aD s0 0,⟨_,aB s1 1⟩,aD s1 1,⟨_,aB s2 2⟩,aD s2 2,fun e=>absurd rfl e,fun _=>?_⟩;obtain⟨w3,GF⟩:∃ w3,w3=(((w1.alloc (.cells #[.int .u64 0,.int .i64 0,.int .i64 0] 51)).setCell ⟨w1.heap.size,0,none⟩ (.int .u64 N)).setCell ⟨w1.heap.size,1,none⟩ (.int .i64 (k:Int))).setCell ⟨w1.heap.size,2,none⟩ (.int .i64 (l.length:Int)):=⟨_,rfl⟩;have h3:w3.heap[w1.heap.size]?=some (.cells #[.int .u64 N,.int .i64 (k:Int),.int .i64 (l.length:Int)] 51 (0,0)):=by rw[GF];exact s3
  rw[← GF]at g3 ⊢;have FY:=aA g0 (aA g1 g3);have b3:=aI b1 g3;refine⟨N,aB h3 0,?_⟩;have gh:=World.grownBy_alloc w3 (.cells #[.int .u64 0,.slice none 0 0] 25) none;have t0:=heap_alloc_new w3 (.cells #[.int .u64 0,.slice none 0 0] 25);have t1:=aG t0 0 (.int .u64 N);have t2:=aG t1 1 (.slice none 0 0);have g4:w3.grownBy (((w3.alloc (.cells #[.int .u64 0,.slice none 0 0] 25)).setCell ⟨w3.heap.size,0,none⟩ (.int .u64 N)).setCell ⟨w3.heap.size,1,none⟩ (.slice none 0 0)) none:=(dw (dw (Kp.of_none (S:=fun q=>w3.heap.size<=q) gh) (Nat.le_refl _)) (Nat.le_refl _)).grown (fun q hq e=>by omega);refine⟨⟨_,aB t0 0⟩,aD t0 0,⟨_,aB t1 1⟩,aD t1 1,?_⟩;obtain⟨w4,Il⟩:∃ w4,w4=((w3.alloc (.cells #[.int .u64 0,.slice none 0 0] 25)).setCell ⟨w3.heap.size,0,none⟩ (.int .u64 N)).setCell ⟨w3.heap.size,1,none⟩ (.slice none 0 0):=⟨_,rfl⟩;have h4:w4.heap[w3.heap.size]?=some (.cells #[.int .u64 N,.slice none 0 0] 25 (0,0)):=by rw[Il];exact t2
  rw[← Il]at g4 ⊢;have z01:=g0.size;have zb0:w.heap.size<w1.heap.size:=(Array.getElem?_eq_some_iff.1 b1).1;have zh3:w1.heap.size<w3.heap.size:=(Array.getElem?_eq_some_iff.1 h3).1;have zh4:w3.heap.size<w4.heap.size:=(Array.getElem?_eq_some_iff.1 h4).1;have Ij:=aA FY g4;have Ib:=aA g3 g4;obtain⟨m,hm⟩:∃ m,m=fC l.length k:=⟨_,rfl⟩;rw[← hm]at oX Sf;have MZ:m<=l.length:=by rw[hm];exact pP hk.1
  refine⟨fun q x W=>∃(p:Nat)(B:OA)(d e:Nat),x=(p:Int)/\p<=m/\q=m-p/\Kp w4 W (fun q=>q=w3.heap.size)/\W.heap[w3.heap.size]?=some (.cells #[.int .u64 N,.slice B d e] 25 (0,0))/\aE W w4.heap.size 62 4 B d e (cE (l.take (p*k))),⟨_,0,none,0,0,rfl,by omega,rfl,Kp.refl _ _,h4,by rw[Nat.zero_mul];exact aE.nil _ _ _ _⟩,?_⟩;rintro q x W ⟨p,B,d,e,rfl,hp,rfl,kW,hB,oW⟩;have gB:=((Kp.of_none (S:=fun q=>w.heap.size<=q) Ij).then kW fun q _ e=>by omega).grown fun q hq e=>by omega
  have gB1:=((Kp.of_none (S:=fun q=>w1.heap.size<=q) Ib).then kW fun q _ e=>by omega).grown fun q hq e=>by omega
  have hH:W.heap[w1.heap.size]?=some (.cells #[.int .u64 N,.int .i64 (k:Int),.int .i64 (l.length:Int)] 51 (0,0)):=by
    rw[kW.block _ (by omega) (by omega)];exact aI h3 g4
  have hb:W.heap[w.heap.size]?=some (.cells #[.int .u64 0,.slice none 0 0] 25 (0,0)):=by
    rw[kW.block _ (by omega) (by omega)];exact aI b3 g4
  have hd:d=(l.take (p*k)).length:=by have h':=oW.cases.1;rw[dz]at h';omega
  have zW:=kW.size;refine⟨fun FE=>?_,fun FJ=>?_⟩
  · have lp:p<m:=by omega
    have Hx:p*k<l.length:=(io hk.1).1 (by omega);have tp:(p:Int).toNat=p:=by omega
    rw[tp];have Hw:(eu l k m).length=m:=eG;have Gm:(eu l k m)[p]'(by rw[Hw];exact lp)=je l k p:=by unfold eu;simp
    obtain⟨a,e0,e1,e2,e3⟩:=nG (oX.row.kept_none gB1) (j:=p) (by rw[Hw];exact lp);rw[Gm]at e1 e2 e3;refine⟨a,e0,by omega,by omega,_,e1,_,e2,_,e3,?_⟩;have gc:=World.grownBy_alloc W (.cells #[.int .i64 0,.int .i64 0,.int .u32 0] 60) none;have u0:=heap_alloc_new W (.cells #[.int .i64 0,.int .i64 0,.int .u32 0] 60);have u1:=aG u0 0 (.int .i64 (je l k p).len);have u2:=aG u1 1 (.int .i64 (je l k p).first);have u3:=aG u2 2 (.int .u32 (je l k p).sum);have gR:W.grownBy ((((W.alloc (.cells #[.int .i64 0,.int .i64 0,.int .u32 0] 60)).setCell ⟨W.heap.size,0,none⟩ (.int .i64 (je l k p).len)).setCell ⟨W.heap.size,1,none⟩ (.int .i64 (je l k p).first)).setCell ⟨W.heap.size,2,none⟩ (.int .u32 (je l k p).sum)) none:=(dw (dw (dw (Kp.of_none (S:=fun q=>W.heap.size<=q) gc) (Nat.le_refl _)) (Nat.le_refl _)) (Nat.le_refl _)).grown (fun q hq e=>by omega);refine⟨⟨_,aB u0 0⟩,aD u0 0,⟨_,aB u1 1⟩,aD u1 1,⟨_,aB u2 2⟩,aD u2 2,?_⟩;obtain⟨W1,Tm⟩:∃ W1,W1=(((W.alloc (.cells #[.int .i64 0,.int .i64 0,.int .u32 0] 60)).setCell ⟨W.heap.size,0,none⟩ (.int .i64 (je l k p).len)).setCell ⟨W.heap.size,1,none⟩ (.int .i64 (je l k p).first)).setCell ⟨W.heap.size,2,none⟩ (.int .u32 (je l k p).sum):=⟨_,rfl⟩;have Wv:W1.heap[W.heap.size]?=some (.cells #[.int .i64 (je l k p).len,.int .i64 (je l k p).first,.int .u32 (je l k p).sum] 60 (0,0)):=by rw[Tm];exact u3
    rw[← Tm]at gR ⊢;have gW1:=aA gB gR;refine(mj (hr.kept_none gW1) hn hc h hk (by rw[← hm];exact oX.row.kept_none (aA gB1 gR)) (by rw[← hm];exact Sf) (by omega) (by omega)).mono fun ev W2 hh=>?_;obtain⟨Y,yn,yc,rfl,oY,gY⟩:=hh;have Kj:yn=(dQ l k p).length:=by have h':=oY.cases.1;unfold bV at h';rw[List.length_map]at h';omega
    have Nu:=eH oY;refine⟨_,_,_,_,rfl,fun e=>absurd rfl e,fun _=>?_⟩;have gd:=aH (aC W2 none);obtain⟨W3,PO⟩:∃ W3,W3=W2.drew:=⟨_,rfl⟩;rw[← PO]at gd ⊢;have gW3:W.grownBy W3 none:=aA gR (aA gY gd);have Wu:=aI Wv (aA gY gd);have MC:=aI hH gW3;have Ha:min (k:Int) ((l.length:Int)-(p:Int)*(k:Int))=(((jV l k p).length:Nat):Int):=by
      rw[mb,show(p:Int)*(k:Int)=((p*k:Nat):Int) by simp];omega
    have OB:(p:Int)<((l.length:Int)+(k:Int)-1) / (k:Int):=by rw[mT hk.1];omega
    refine⟨fun X=>W3.grownBy X none,aC _ _,N,fun X hX=>aB (aI MC hX) 0,(je l k p).first,fun X hX=>aB (aI Wu hX) 1,N,aB MC 0,(k:Int),aB MC 1,(l.length:Int),aB MC 2,(lR hok (by omega) OB).mono fun ev W4 hh=>?_⟩;obtain⟨rfl,gs⟩:=hh;rw[Ha];have ON:=h.evLen (k:=k) (i:=p);have oY4:=oY.kp (S:=fun _=>False) (Kp.of_none (aA gd gs)) (fun _ _ e=>e);have V0:=h.blen13 hk.1 Hx;refine⟨_,rfl,gs,(y8 oY4.row Kj Nu (fun x hx=>h.bodyBy x hx) (by omega) (by omega)).mono fun ev W5 hh=>?_⟩;obtain⟨g5,NP⟩:=hh;have RO:=h.is hk.1 Hx;obtain⟨A7,n7,c7,A8,n8,c8,rfl,r7,PG,r8,JS,WM⟩:∃(A1:OA)(n1 c1:Nat)(A2:OA)(n2 c2:Nat),ev=.returned (.tuple #[.slice A1 n1 c1,.slice A2 n2 c2,.int .i64 0])/\aZ W5 A1 (edges (ki l k p))/\n1=(ki l k p).length/\aZ W5 A2 (cE (jV l k p))/\n2=(jV l k p).length/\(A2=none->c2=0):=by
      rcases NP with⟨A1,n1,c1,A2,n2,c2,key',l',rfl,⟨h1,h2,_⟩,⟨h3,h4,_,RX⟩,h5,h6⟩ | ⟨rfl,GK⟩
      · obtain⟨e1,e2⟩:=RO.uniq h6 (by omega) (by omega);have e3:=uG RO.ok.del h6.ok.del e2;subst e3;rw[← e1]at h1 h2;exact⟨_,_,_,_,_,_,rfl,h1,h2,h3,h4,RX⟩
      · exact absurd RO (GK _ _)
    have gW5:=aA gW3 (aA gs g5);have IT:=aI hB gW5;have oW5:=oW.kp (S:=fun _=>False) (Kp.of_none gW5) (fun _ _ e=>e);have JA:(l.take (p*k)).length<=49:=by rw[List.length_take];omega
    obtain⟨B',d',e',W6,r6,o6,g6,_⟩:=eh oW5 r8 JS WM (by omega) (Nat.le_trans zW gW5.size);rw[CV]at o6;have Pi:W6.heap[w3.heap.size]?=some (.cells #[.int .u64 N,.slice B d e] 25 (0,0)):=by
      rw[g6.block _ (Array.getElem?_eq_some_iff.1 IT).1 (fun e=>by have:=(World.ownsRow.lt oW5 _ e.symm).1;omega)];exact IT
    have k6:Kp w4 W6 (fun q=>q=w3.heap.size):=Kp.step (kW.then (Kp.of_none (S:=fun q=>q=w3.heap.size) gW5) fun q _ e=>e) g6 (fun q hq=>.inl (World.ownsRow.lt oW5 q hq).1);refine⟨_,_,_,_,_,_,_,rfl,aA gs g5,fun e=>absurd rfl e,fun _=>⟨B,d,e,aB IT 1,B',d',e',W6,r6,⟨_,aB Pi 1⟩,aD Pi 1,by omega,m-(p+1),by omega,p+1,B',d',e',by omega,by omega,rfl,dw k6 rfl,aG Pi 1 _,?_⟩⟩;exact o6.kp (dw (S:=fun q=>q=w3.heap.size) (Kp.refl _ _) rfl) (fun q hq e=>by have:=(World.ownsRow.lt o6 q hq).1;omega)
  · have Lj:p=m:=by omega
    subst Lj;have FQ:l.take (p*k)=l:=List.take_of_length_le (by have:=ud (n:=l.length) (k:=k) hk.1;rw[hm];exact this);rw[FQ]at oW hd;refine⟨N,aB hB 0,B,d,e,aB hB 1,(k:Int),aB hH 1,(ju oW.row hd (eH oW) (dp oW) h hk).mono fun ev W1 hh=>?_⟩;obtain⟨C,cn,cc,rfl,oC,gC⟩:=hh;have VQ:cn=(gg N l k).length:=by have h':=oC.cases.1;unfold bV at h';rw[List.length_map]at h';omega
    have gW1:=aA gB gC;refine⟨_,_,_,_,rfl,fun e=>absurd rfl e,fun _=>(jk oC.row VQ (hr.kept_none gW1) hn (fun x hx=>pZ x hx) (fun x hx=>pZ x hx)).mono fun ev W2 hh=>?_⟩;obtain⟨rfl,rfl⟩:=hh;have gd:=aH (aC W2 none);obtain⟨W3,PO⟩:∃ W3,W3=W2.drew:=⟨_,rfl⟩;have gW3:W.grownBy W3 none:=by rw[PO];exact aA gC gd
    refine⟨_,rfl,fun e=>by simp at e,fun _=>?_⟩;rw[← PO];have Lt:=aI hb gW3;have v1:=aG Lt 0 (.int .u64 N);have v2:=aG v1 1 (.slice B d e);have MC:=aI hH gW3;have Lv:=aI hB gW3;have K3:Kp W3 ((W3.setCell ⟨w.heap.size,0,none⟩ (.int .u64 N)).setCell ⟨w.heap.size,1,none⟩ (.slice B d e)) (fun q=>q=w.heap.size):=dw (dw (Kp.refl _ _) rfl) rfl;have oW3:=(oW.kp (S:=fun _=>False) (Kp.of_none gW3) (fun _ _ e=>e)).kp K3 (fun q hq e=>by have:=(World.ownsRow.lt oW q hq).1;omega);have gF:=((Kp.of_none (S:=fun q=>w.heap.size<=q) (aA gB gW3)).then K3 fun q _ e=>by omega).grown fun q hq e=>by omega
    refine⟨fun X=>X.heap[w1.heap.size]?=some (.cells #[.int .u64 N,.int .i64 (k:Int),.int .i64 (l.length:Int)] 51 (0,0)),MC,N,aB Lv 0,B,d,e,aB Lv 1,(k:Int),fun X hX=>aB hX 1,⟨_,aB Lt 0⟩,aD Lt 0,⟨_,aB v1 1⟩,aD v1 1,?_,N,by rw[aB v2 0];rfl,B,d,e,by rw[aB v2 1];rfl,B,d,e,rfl,oW3.mono (by omega),gF⟩;exact nR (nR MC (by show w.heap.size≠_;omega) _) (by show w.heap.size≠_;omega) _
def Bh(N:Int)(l:List aW)(k:Int):Int:=if(dO N l).2≠0 then(dO N l).2 else if k<1∨1048576<k then 26 else 0
theorem tZ{N:Int}{l:List aW}{k:Int}:Bh N l k=0↔(dO N l).2=0/\1<=k/\k<=1048576:=by
 unfold Bh;split
 ·omega
 ·split <;>omega
def DV(N:Int)(l:List aW)(k:Int):Value:=if Bh N l k=0 then jM N k l.length else jM 0 0 0
theorem yf{w:World}{A:OA}{n c:Nat}{l:List aW}{N k:Int}(hr:aZ w A (cE l))(hn:n=l.length)(hl:n<=2^20)(hb:uX l):
    Calls P 31 #[.agg #[.int .u64 N,.slice A n c],.int .i64 k] w fun ev w'=>ev=.returned (.tuple #[DV N l k,.int .i64 (Bh N l k)])/\w.grownBy w' none:=by
  by_cases h0:Bh N l k=0
  · have h1:=tZ.1 h0;refine(t9 hr hn hl hb h1.1 h1.2).mono fun ev w1 hh=>?_;obtain⟨rfl,g⟩:=hh;refine⟨?_,g⟩;unfold DV;rw[if_pos h0,h0]
  have hV:DV N l k=jM 0 0 0:=by unfold DV;rw[if_neg h0]
  rw[hV];apply vc31;dsimp only[VC31,rt,Wt,Br,Rd,Rs,Ws,nb,iq];obtain⟨w1,FH,g1,b1⟩:=fZ w #[.int .u64 N,.slice A n c] 25;rw[← FH];obtain⟨w2,GG,g2,b2⟩:=fZ w1 #[.int .u64 0,.int .i64 0,.int .i64 0] 51;rw[← GG];have b1':=aI b1 g2;refine⟨N,aB b1' 0,A,n,c,aB b1' 1,(lT ((hr.kept_none g1).kept_none g2) hn hl hb).mono fun ev w3 hh=>?_⟩;obtain⟨rfl,g3⟩:=hh;have b2':=aI b2 g3;have s1:=aG b2' 0 (.int .u64 0);have s2:=aG s1 1 (.int .i64 0);have s3:=aG s2 2 (.int .i64 0);have gS:w1.grownBy (((w3.setCell ⟨w1.heap.size,0,none⟩ (.int .u64 0)).setCell ⟨w1.heap.size,1,none⟩ (.int .i64 0)).setCell ⟨w1.heap.size,2,none⟩ (.int .i64 0)) none:=(dw (dw (dw (Kp.of_none (S:=fun q=>w1.heap.size<=q) (aA g2 g3)) (Nat.le_refl _)) (Nat.le_refl _)) (Nat.le_refl _)).grown (fun q hq e=>by omega);have gE:=aA g1 gS;have e0:(dO N l).2=0->Bh N l k=if k<1∨1048576<k then 26 else 0:=fun h=>by unfold Bh;rw[if_neg (fun e=>e h)]
  refine⟨_,_,rfl,fun h=>⟨⟨_,aB b2' 0⟩,aD b2' 0,⟨_,aB s1 1⟩,aD s1 1,⟨_,aB s2 2⟩,aD s2 2,0,by rw[aB s3 0];rfl,0,by rw[aB s3 1];rfl,0,by rw[aB s3 2];rfl,?_,gE⟩,fun h=>⟨fun h2=>⟨⟨_,aB b2' 0⟩,aD b2' 0,⟨_,aB s1 1⟩,aD s1 1,⟨_,aB s2 2⟩,aD s2 2,0,by rw[aB s3 0];rfl,0,by rw[aB s3 1];rfl,0,by rw[aB s3 2];rfl,?_,gE⟩,fun h2=>⟨fun h3=>⟨⟨_,aB b2' 0⟩,aD b2' 0,⟨_,aB s1 1⟩,aD s1 1,⟨_,aB s2 2⟩,aD s2 2,0,by rw[aB s3 0];rfl,0,by rw[aB s3 1];rfl,0,by rw[aB s3 2];rfl,?_,gE⟩,fun h3=>?_⟩⟩⟩
  · unfold Bh;rw[if_pos h]
  · rw[e0 (by omega),if_pos (.inl h2)]
  · rw[e0 (by omega),if_pos (.inr (by omega))]
  · exact absurd (tZ.2 ⟨by omega,by omega,by omega⟩) h0
theorem Av{w:World}{A:OA}{n c:Nat}{l:List aW}{N k:Int}(hr:aZ w A (cE l))(hn:n=l.length)(hl:n<=2^20)(hb:uX l)(he:Bh N l k≠0):
    Calls P 13 #[.agg #[.int .u64 N,.slice A n c],.int .i64 k] w fun ev w'=>ev=.returned (.tuple #[.slice none 0 0,.int .i64 (Bh N l k)])/\w.grownBy w' none:=by
  apply vc13;dsimp only[VC13,rt,Br,Rd,Rc,Rs,Ix,Ap,Ws,cI,cS,cT,nb,iq];obtain⟨w1,FH,g1,b1⟩:=fZ w #[.int .u64 N,.slice A n c] 25;rw[← FH];refine⟨N,aB b1 0,A,n,c,aB b1 1,(yf (hr.kept_none g1) hn hl hb).mono fun ev w2 hh=>?_⟩;obtain⟨rfl,g2⟩:=hh;have hV:DV N l k=jM 0 0 0:=by unfold DV;rw[if_neg he]
  rw[hV];have ga:=World.grownBy_alloc w2 (.cells #[.int .u64 0,.int .i64 0,.int .i64 0] 51) none;have s0:=heap_alloc_new w2 (.cells #[.int .u64 0,.int .i64 0,.int .i64 0] 51);have s1:=aG s0 0 (.int .u64 0);have s2:=aG s1 1 (.int .i64 0);have g3:w2.grownBy ((((w2.alloc (.cells #[.int .u64 0,.int .i64 0,.int .i64 0] 51)).setCell ⟨w2.heap.size,0,none⟩ (.int .u64 0)).setCell ⟨w2.heap.size,1,none⟩ (.int .i64 0)).setCell ⟨w2.heap.size,2,none⟩ (.int .i64 0)) none:=(dw (dw (dw (Kp.of_none (S:=fun q=>w2.heap.size<=q) ga) (Nat.le_refl _)) (Nat.le_refl _)) (Nat.le_refl _)).grown (fun q hq e=>by omega);exact⟨_,_,_,_,rfl,⟨_,aB s0 0⟩,aD s0 0,⟨_,aB s1 1⟩,aD s1 1,⟨_,aB s2 2⟩,aD s2 2,fun _=>⟨rfl,aA g1 (aA g2 g3)⟩,fun h=>absurd he h⟩
theorem xa{w:World}{N K C:Int}{i:Int}(h:fe N K C)(hi:i<0∨(C+K-1) / K<=i):Calls P 34 #[jM N K C,.int .i64 i] w fun ev w'=>ev=.returned (.int .i64 0)/\w.grownBy w' none:=by
 apply vc34;dsimp only[VC34,Br,Rd,cI,nb,iq]
 try simp only[aF,mnI]
 obtain⟨w1,FH,g1,b1⟩:=fZ w #[.int .u64 N,.int .i64 K,.int .i64 C] 51;rw[← FH];refine⟨fun h'=>⟨by trivial,g1⟩,fun h'=>⟨N,aB b1 0,K,aB b1 1,C,aB b1 2,(jb h).mono fun ev w2 hh=>?_⟩⟩;obtain⟨rfl,g2⟩:=hh;exact⟨_,rfl,fun _=>⟨by trivial,aA g1 g2⟩,fun h2=>absurd (hi.resolve_left h') (by omega)⟩
def vk(N:Int)(l:List aW)(k i:Int):List Edge:=if Bh N l k=0/\0<=i/\i<((l.length:Int)+k-1) / k then iF N l (i*k) else []
theorem Ch{N k:Int}{l:List aW}(hN:0<=N)(hl:l.length<=2^20)(h:Bh N l k=0):fe N k l.length:=by
 have h1:=tZ.1 h;have h2:=nQ.1 h1.1;unfold fe;omega
theorem rH {w:World} {A:OA} {n c:Nat} {l:List aW} {N k i:Int} (hr:aZ w A (cE l)) (hn:n=l.length) (hc:n<=c) (hA:A=none->c=0) (hN:0<=N) (hl:n<50) (hb:uX l) :
    Calls P 16 #[.agg #[.int .u64 N,.slice A n c],.int .i64 k,.int .i64 i] w fun ev w'=>∃(B:OA)(m d:Nat),ev=.returned (.slice B m d)/\aE w' w.heap.size 45 2 B m d (edges (vk N l k i))/\w.grownBy w' none:=by
  apply vc16;dsimp only[VC16,Br,Rd,Rs,Ws,cI,cT,nb,iq]
  try simp only[aF]
  obtain⟨w1,FH,g1,b1⟩:=fZ w #[.int .u64 N,.slice A n c] 25;rw[← FH];refine⟨N,aB b1 0,A,n,c,aB b1 1,(yf (hr.kept_none g1) hn (by omega) hb).mono fun ev w2 hh=>?_⟩;obtain⟨rfl,g2⟩:=hh;by_cases he:Bh N l k=0
  · have hV:DV N l k=jM N k l.length:=by unfold DV;rw[if_pos he]
    rw[hV];have hok:=Ch hN (by omega) he;have L7:=tZ.1 he;have ga:=World.grownBy_alloc w2 (.cells #[.int .u64 0,.int .i64 0,.int .i64 0] 51) none;have s0:=heap_alloc_new w2 (.cells #[.int .u64 0,.int .i64 0,.int .i64 0] 51);have s1:=aG s0 0 (.int .u64 N);have s2:=aG s1 1 (.int .i64 k);have s3:=aG s2 2 (.int .i64 (l.length:Int));have g3:w2.grownBy ((((w2.alloc (.cells #[.int .u64 0,.int .i64 0,.int .i64 0] 51)).setCell ⟨w2.heap.size,0,none⟩ (.int .u64 N)).setCell ⟨w2.heap.size,1,none⟩ (.int .i64 k)).setCell ⟨w2.heap.size,2,none⟩ (.int .i64 (l.length:Int))) none:=(dw (dw (dw (Kp.of_none (S:=fun q=>w2.heap.size<=q) ga) (Nat.le_refl _)) (Nat.le_refl _)) (Nat.le_refl _)).grown (fun q hq e=>by omega);refine⟨_,_,_,_,rfl,⟨_,aB s0 0⟩,aD s0 0,⟨_,aB s1 1⟩,aD s1 1,⟨_,aB s2 2⟩,aD s2 2,fun h=>absurd he h,fun _=>?_⟩;obtain⟨w3,GF⟩:∃ w3,w3=(((w2.alloc (.cells #[.int .u64 0,.int .i64 0,.int .i64 0] 51)).setCell ⟨w2.heap.size,0,none⟩ (.int .u64 N)).setCell ⟨w2.heap.size,1,none⟩ (.int .i64 k)).setCell ⟨w2.heap.size,2,none⟩ (.int .i64 (l.length:Int)):=⟨_,rfl⟩;rw[← GF]at s3 g3 ⊢;have FY:=aA g1 (aA g2 g3);by_cases hi:0<=i/\i<((l.length:Int)+k-1) / k
    · have h3:i*k<=(l.length:Int)-1:=by
        have:i+1<=((l.length:Int)+k-1) / k:=by omega
        have:=(Int.le_ediv_iff_mul_le (by omega)).1 this;rw[Int.add_mul,Int.one_mul]at this;omega
      have h4:0<=i*k:=Int.mul_nonneg hi.1 (by omega);have L4:vk N l k i=iF N l (i*k):=by unfold vk;rw[if_pos ⟨he,hi⟩]
      rw[L4];refine⟨N,by rw[aB s3 0];rfl,k,by rw[aB s3 1];rfl,(l.length:Int),by rw[aB s3 2];rfl,(lR hok hi.1 hi.2).mono fun ev w4 hh=>?_⟩;obtain⟨rfl,g4⟩:=hh;have b4:=aI b1 (aA g2 (aA g3 g4));refine⟨_,rfl,fun h=>absurd h (by omega),fun _=>⟨N,aB b4 0,A,n,c,aB b4 1,by omega,(pJ ((hr.kept_none FY).kept_none g4) hn hc hA hl hb).mono fun ev w5 hh=>?_⟩⟩;obtain⟨B,m,d,rfl,o5,g5⟩:=hh;exact⟨_,_,_,_,rfl,B,m,d,rfl,o5.mono (aA FY g4).size,aA FY (aA g4 g5)⟩
    · have L4:vk N l k i=[]:=by unfold vk;rw[if_neg fun h=>hi h.2]
      rw[L4];refine⟨N,by rw[aB s3 0];rfl,k,by rw[aB s3 1];rfl,(l.length:Int),by rw[aB s3 2];rfl,(xa hok (by omega)).mono fun ev w4 hh=>?_⟩;obtain⟨rfl,g4⟩:=hh;exact⟨_,rfl,fun _=>⟨none,0,0,rfl,aE.nil _ _ _ _,aA FY g4⟩,fun h=>absurd rfl h⟩
  · have hV:DV N l k=jM 0 0 0:=by unfold DV;rw[if_neg he]
    have L4:vk N l k i=[]:=by unfold vk;rw[if_neg fun h=>he h.1]
    rw[hV,L4];have ga:=World.grownBy_alloc w2 (.cells #[.int .u64 0,.int .i64 0,.int .i64 0] 51) none;have s0:=heap_alloc_new w2 (.cells #[.int .u64 0,.int .i64 0,.int .i64 0] 51);have s1:=aG s0 0 (.int .u64 0);have s2:=aG s1 1 (.int .i64 0);have g3:w2.grownBy ((((w2.alloc (.cells #[.int .u64 0,.int .i64 0,.int .i64 0] 51)).setCell ⟨w2.heap.size,0,none⟩ (.int .u64 0)).setCell ⟨w2.heap.size,1,none⟩ (.int .i64 0)).setCell ⟨w2.heap.size,2,none⟩ (.int .i64 0)) none:=(dw (dw (dw (Kp.of_none (S:=fun q=>w2.heap.size<=q) ga) (Nat.le_refl _)) (Nat.le_refl _)) (Nat.le_refl _)).grown (fun q hq e=>by omega);exact⟨_,_,_,_,rfl,⟨_,aB s0 0⟩,aD s0 0,⟨_,aB s1 1⟩,aD s1 1,⟨_,aB s2 2⟩,aD s2 2,fun _=>⟨none,0,0,rfl,aE.nil _ _ _ _,aA g1 (aA g2 g3)⟩,fun h=>absurd he h⟩
end Go.Proofs.YtlieaecnllkefaaGreat

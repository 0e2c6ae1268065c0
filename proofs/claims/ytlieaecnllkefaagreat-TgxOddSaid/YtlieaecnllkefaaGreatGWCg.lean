/- Own texts, packed: W10, W11, W12, W13, W14. -/
import Derived.Test.YtlieaecnllkefaaGreatGWBg
set_option linter.unusedVariables false
set_option linter.unusedSimpArgs false
set_option maxHeartbeats 8000000
set_option maxRecDepth 100000
namespace Go.Proofs.YtlieaecnllkefaaGreat
open Go Go.V Go.RowKit
theorem wX(p:Nat):(2:Int)^(8*p)=256^p:=by rw[Int.pow_mul];rfl
theorem Di(x:Int):im [x]=x:=by simp[im]
theorem Bm{l:List Int}{p:Nat}(hl:l.length<=8)(hb:By l)(hp:p<l.length):(0<=l[p]*2^(min (Int.toNat (8*(p:Int))) 64)/\l[p]*2^(min (Int.toNat (8*(p:Int))) 64)<=18446744073709551615)/\dD .or .u64 (im (l.take p)) (l[p]*2^(min (Int.toNat (8*(p:Int))) 64))=im (l.take (p+1)):=by
 have e1:min (Int.toNat (8*(p:Int))) 64=8*p:=by omega
 rw[e1];have hx:=hb _ (List.getElem_mem hp);have h1:=Bw (hb.take p);have Jj:(l.take p).length=p:=by rw[List.length_take];omega
 rw[Jj]at h1;have h2:im (l.take (p+1))=im (l.take p)+256^p*l[p]:=by rw[List.take_succ_eq_append_getElem hp,yB,Jj,Di]
 have UL:p=0∨p=1∨p=2∨p=3∨p=4∨p=5∨p=6∨p=7:=by omega
 have h3:0<=l[p]*256^p/\im (l.take p)+l[p]*256^p<18446744073709551616:=by
  refine⟨Int.mul_nonneg hx.1 (Int.le_of_lt (lW p)),?_⟩;clear h2 Jj e1;rcases UL with rfl | rfl | rfl | rfl | rfl | rfl | rfl | rfl <;>omega
 have h4:=xh (x:=im (l.take p)) (c:=l[p]) (j:=8*p) h1.1 (by rw[wX];exact h1.2) hx.1 (by rw[wX];exact h3.2);refine⟨by rw[wX];omega,?_⟩;rw[h4,h2,wX,Int.mul_comm]
theorem m7{w:World}{A:OA}{n c:Nat}{l:List Int}(hr:aZ w A (bY l))(hn:n=l.length)(hl:l.length<=8)(hb:By l):Calls P 84 #[.slice A n c] w fun ev w'=>ev=.returned (.int .u64 (im l))/\w'=w:=by
 apply vc84;dsimp only[VC84,Br,Rd,Ix]
 try simp only[aG]
 refine⟨fun m v i W=>∃ p:Nat,i=(p:Int)/\p<=l.length/\m=l.length-p/\v=im (l.take p)/\W=w,⟨_,0,rfl,by omega,rfl,rfl,rfl⟩,?_⟩;rintro m v i W ⟨p,rfl,hp,rfl,rfl,rfl⟩;have tp:(p:Int).toNat=p:=by omega
 refine⟨fun FP=>?_,fun FU=>?_⟩
 ·have lp:p<l.length:=by omega
  obtain⟨a,e1,e2⟩:=hr p (.int .u8 l[p]) (by rw[List.getElem?_map,List.getElem?_eq_getElem lp];rfl);have hx:=hb _ (List.getElem_mem lp);obtain⟨q1,q2⟩:=Bm hl hb lp;refine⟨a,e1,by omega,by omega,l[p],by rw[tp];exact e2,by omega,by omega,⟨by omega,q1⟩,by omega,l.length-(p+1),by omega,p+1,by omega,by omega,rfl,q2,rfl⟩
 ·have:p=l.length:=by omega
  subst this;rw[List.take_length];exact⟨rfl,rfl⟩
theorem mZ{w:World}{A:OA}{n c:Nat}{l:List Int}(hr:aZ w A (bY l))(hn:n=l.length)(hl:l.length<=8)(hb:By l):Calls P 85 #[.slice A n c] w fun ev w'=>ev=.returned (.int .u64 (im l))/\w'=w:=by
 apply vc85;dsimp only[VC85,Br,Rd,Ix]
 try simp only[aG]
 refine⟨fun m v i W=>∃ p:Nat,i=(p:Int)/\p<=l.length/\m=l.length-p/\v=im (l.take p)/\W=w,⟨_,0,rfl,by omega,rfl,rfl,rfl⟩,?_⟩;rintro m v i W ⟨p,rfl,hp,rfl,rfl,rfl⟩;have tp:(p:Int).toNat=p:=by omega
 refine⟨fun FP=>?_,fun FU=>?_⟩
 ·have lp:p<l.length:=by omega
  obtain⟨a,e1,e2⟩:=hr p (.int .u8 l[p]) (by rw[List.getElem?_map,List.getElem?_eq_getElem lp];rfl);have hx:=hb _ (List.getElem_mem lp);obtain⟨q1,q2⟩:=Bm hl hb lp;refine⟨a,e1,by omega,by omega,l[p],by rw[tp];exact e2,by omega,by omega,⟨by omega,q1⟩,by omega,l.length-(p+1),by omega,p+1,by omega,by omega,rfl,q2,rfl⟩
 ·have:p=l.length:=by omega
  subst this;rw[List.take_length];exact⟨rfl,rfl⟩
theorem eV{w:World}{A:OA}{l:List Int}(h:aZ w A (bY l))(k:Nat):aZ w A (bY (l.take k)):=by
 intro j u hj;rw[List.getElem?_map,List.getElem?_take]at hj;split at hj
 ·exact h j u (by rw[List.getElem?_map];exact hj)
 ·simp at hj
theorem oe{w:World}{A:OA}{n c:Nat}{x r:List Int}{N K C:Int}(hr:aZ w A (bY x))(hn:n=x.length)(hc:n<=c)(hb:By x)(hx:x=fE N K C++r)(hN:0<=N)(hok:dJ N K C):
    Calls P 45 #[.slice A n c] w fun ev w'=>ev=.returned (.tuple #[iT N K C,.int .i64 0])/\w.grownBy w' none:=by
  apply vc45;dsimp only[VC45,rt,Wt,Br,Bb,Rd,Eg,Cv,Ws,cI,cB,nb,iq]
  try simp only[aG]
  have hk:=hok;unfold dJ at hk;have FT:24<=x.length:=by rw[hx,List.length_append,eE];omega
  have e4:x.take 4=[84,71,88,49]:=by rw[hx];exact yR _ _ _ _
  have e24:x.take 24=fE N K C:=by rw[hx];exact List.take_left' (eE _ _ _)
  have eN:(x.drop 4).take 8=db N 8:=by rw[hx];exact EL _ _ _ _
  have eK:(x.drop 12).take 4=db K 4:=by rw[hx];exact EM _ _ _ _
  have eC:(x.drop 16).take 4=db C 4:=by rw[hx];exact EN _ _ _ _
  have gA:=World.grownBy_alloc w (.cells #[.int .u64 0,.int .i64 0,.int .i64 0] 51) none;have bA:=heap_alloc_new w (.cells #[.int .u64 0,.int .i64 0,.int .i64 0] 51);refine⟨fun h=>absurd h (by omega),fun _=>⟨⟨by omega,by omega⟩,ry (x.take 4),ji (eV (hr.kept_none gA) 4) (by rw[e4];rfl),_,fun w=>yg _ _ _ _ w,fun h=>?_,fun _=>⟨⟨by omega,by omega⟩,?_⟩⟩⟩
  · rw[e4]at h;exact absurd h (by decide)
  refine(um (eV (hr.kept_none gA) 24) (by rw[e24,eE]) (by omega) (by rw[e24];exact uK _ _ _) (by rw[e24,eE];omega) (by rw[e24];exact(mQ _).1)).mono fun ev w1 hh=>?_;obtain⟨A1,n1,c1,rfl,o1,g1⟩:=hh;have b1:=aF bA g1;have Hg:=aA gA g1;refine⟨_,_,_,_,rfl,fun h=>(by cases h),fun _=>?_⟩
  -- the numbers
  have gd:=aI (aC w1 none);obtain⟨W0,Pc⟩:∃ W0,W0=w1.drew:=⟨_,rfl⟩;rw[← Pc]at gd ⊢;have g0:=aA Hg gd;have b0:=aF b1 gd;have rN:∀ W,w.grownBy W none->aZ W (bK A c 4 1) (bY (db N 8)):=fun W hW=>by rw[← eN];exact eV (qg (hr.kept_none hW) (by omega)) 8
  have rK:∀ W,w.grownBy W none->aZ W (bK A c 12 1) (bY (db K 4)):=fun W hW=>by rw[← eK];exact eV (qg (hr.kept_none hW) (by omega)) 4
  have rC:∀ W,w.grownBy W none->aZ W (bK A c 16 1) (bY (db C 4)):=fun W hW=>by rw[← eC];exact eV (qg (hr.kept_none hW) (by omega)) 4
  have tN:∀ W,w.grownBy W none->∀ {R:Ending->World->Prop},R (.returned (.int .u64 N)) W->Calls P 84 #[.slice (bK A c 4 1) (12-4) (c-4)] W R:=fun W hW R hR=>(m7 (rN W hW) (by rw[aU]) (by rw[aU];omega) (By.fix _ _)).mono fun ev w' hh=>by
    obtain⟨rfl,rfl⟩:=hh;rw[j4 8 hN (by omega)];exact hR
  have tK:∀ W,w.grownBy W none->∀ {R:Ending->World->Prop},R (.returned (.int .u64 K)) W->Calls P 84 #[.slice (bK A c 12 1) (16-12) (c-12)] W R:=fun W hW R hR=>(m7 (rK W hW) (by rw[aU]) (by rw[aU];omega) (By.fix _ _)).mono fun ev w' hh=>by
    obtain⟨rfl,rfl⟩:=hh;rw[j4 4 (by omega) (by omega)];exact hR
  have tC:∀ W,w.grownBy W none->∀ {R:Ending->World->Prop},R (.returned (.int .u64 C)) W->Calls P 84 #[.slice (bK A c 16 1) (20-16) (c-16)] W R:=fun W hW R hR=>(m7 (rC W hW) (by rw[aU]) (by rw[aU];omega) (By.fix _ _)).mono fun ev w' hh=>by
    obtain⟨rfl,rfl⟩:=hh;rw[j4 4 (by omega) (by omega)];exact hR
  have z1:(0:Int)<=12/\(12:Int)<=(c:Int)/\(0:Int)<=4/\(4:Int)<=12:=by omega
  have z2:(0:Int)<=16/\(16:Int)<=(c:Int)/\(0:Int)<=12/\(12:Int)<=16:=by omega
  have z3:(0:Int)<=20/\(20:Int)<=(c:Int)/\(0:Int)<=16/\(16:Int)<=20:=by omega
  have iK:-9223372036854775808<=K/\K<=9223372036854775807:=by omega
  have iC:-9223372036854775808<=C/\C<=9223372036854775807:=by omega
  have gN:=World.grownBy_alloc W0 (.cells #[.int .u64 0,.int .i64 0,.int .i64 0] 51) none;have s0:=heap_alloc_new W0 (.cells #[.int .u64 0,.int .i64 0,.int .i64 0] 51);have s1:=aH s0 0 (.int .u64 N);have s2:=aH s1 1 (.int .i64 K);have s3:=aH s2 2 (.int .i64 C);have gS:W0.grownBy ((((W0.alloc (.cells #[.int .u64 0,.int .i64 0,.int .i64 0] 51)).setCell ⟨W0.heap.size,0,none⟩ (.int .u64 N)).setCell ⟨W0.heap.size,1,none⟩ (.int .i64 K)).setCell ⟨W0.heap.size,2,none⟩ (.int .i64 C)) none:=(cH (cH (cH (Kp.of_none (S:=fun q=>W0.heap.size<=q) gN) (Nat.le_refl _)) (Nat.le_refl _)) (Nat.le_refl _)).grown (fun q hq e=>by omega);have gNw:=aA g0 gN;refine⟨fun a W=>∃ b:Nat,a=⟨b,0,none⟩/\W.heap[b]?=some (.cells #[.int .u64 N,.int .i64 K,.int .i64 C] 51 (0,0))/\W0.grownBy W none,?_,?_⟩
  · refine⟨⟨⟨⟨z1,tN W0 g0 ⟨_,rfl,z2,tK W0 g0 ⟨_,rfl,iK,z3,tC W0 g0 ⟨_,rfl,iC,⟨_,aB s0 0⟩,aD s0 0,⟨_,aB s1 1⟩,aD s1 1,⟨_,aB s2 2⟩,aD s2 2,_,rfl,s3,gS⟩⟩⟩⟩,⟨z1,tN W0 g0 ⟨_,rfl,z2,tK W0 g0 ⟨_,rfl,iK,z3,tC _ gNw ⟨_,rfl,iC,⟨_,aB s0 0⟩,aD s0 0,⟨_,aB s1 1⟩,aD s1 1,⟨_,aB s2 2⟩,aD s2 2,_,rfl,s3,gS⟩⟩⟩⟩⟩,⟨z1,tN W0 g0 ⟨_,rfl,z2,z3,tK _ gNw ⟨_,rfl,iK,tC _ gNw ⟨_,rfl,iC,⟨_,aB s0 0⟩,aD s0 0,⟨_,aB s1 1⟩,aD s1 1,⟨_,aB s2 2⟩,aD s2 2,_,rfl,s3,gS⟩⟩⟩⟩⟩,⟨z1,z2,z3,tN _ gNw ⟨_,rfl,tK _ gNw ⟨_,rfl,iK,tC _ gNw ⟨_,rfl,iC,⟨_,aB s0 0⟩,aD s0 0,⟨_,aB s1 1⟩,aD s1 1,⟨_,aB s2 2⟩,aD s2 2,_,rfl,s3,gS⟩⟩⟩⟩⟩
  · rintro a W ⟨b,rfl,hB,gW⟩;refine⟨N,by simpa using aB hB 0,K,by rw[mE];exact aB hB 1,C,by rw[mE];exact aB hB 2,mq.mono fun ev W2 hh=>?_⟩;obtain⟨rfl,g2⟩:=hh;have Lb:=aF hB g2;have bR:=aF (aF b0 gW) g2;have t1:=aH bR 0 (.int .u64 N);have t2:=aH t1 1 (.int .i64 K);have t3:=aH t2 2 (.int .i64 C);have gF:w.grownBy (((W2.setCell ⟨w.heap.size,0,none⟩ (.int .u64 N)).setCell ⟨w.heap.size,1,none⟩ (.int .i64 K)).setCell ⟨w.heap.size,2,none⟩ (.int .i64 C)) none:=(cH (cH (cH (Kp.of_none (S:=fun q=>w.heap.size<=q) (aA g0 (aA gW g2))) (Nat.le_refl _)) (Nat.le_refl _)) (Nat.le_refl _)).grown (fun q hq e=>by omega);exact⟨_,rfl,fun h=>absurd hok (of_decide_eq_false h),fun _=>⟨N,by simpa using aB Lb 0,K,by rw[mE];exact aB Lb 1,C,by rw[mE];exact aB Lb 2,⟨_,aB bR 0⟩,aD bR 0,⟨_,aB t1 1⟩,aD t1 1,⟨_,aB t2 2⟩,aD t2 2,N,by rw[aB t3 0];rfl,K,by rw[aB t3 1];rfl,C,by rw[aB t3 2];rfl,rfl,gF⟩⟩
theorem zU(l:List el):(kS l).drop (16*l.length)=[88,71,84,49]:=by unfold kS;exact List.drop_left' (jO l)
theorem zT(l:List el):(kS l).take (16*l.length)=l.flatMap iZ:=by unfold kS;exact List.take_left' (jO l)
theorem sp {w:World} {A:OA} {n c:Nat} {x pre:List Int} {rows:List el} {N K C:Int} (hr:aZ w A (bY x)) (hn:n=x.length) (hc:n<=c) (hb:By x) (Sj:x.length<=2^30) (hx:x=pre++jY rows) (UG:(pre.length:Int)=24+da rows) (hok:dJ N K C) (Mq:(C+K-1) / K=(rows.length:Int)) (Qu:rowsOk rows=true) (hN:∀ r∈rows,vi r) :
    Calls P 46 #[.slice A n c,iT N K C] w fun ev w'=>∃(A':OA)(n' c':Nat),ev=.returned (.tuple #[.slice A' n' c',.int .i64 0])/\aE w' w.heap.size 60 3 A' n' c' (dM rows)/\w.grownBy w' none:=by
  apply vc46;dsimp only[VC46,rt,Wt,Br,Bb,Rd,Rc,Ap,Eg,Cv,Ws,cI,cB,nb,iq]
  try simp only[aG]
  obtain⟨w1,FQ,g1,b1⟩:=fQ w #[.int .u64 N,.int .i64 K,.int .i64 C] 51;rw[← FQ];refine⟨N,aB b1 0,K,aB b1 1,C,aB b1 2,(jg hok).mono fun ev w2 hh=>?_⟩;obtain⟨rfl,g2⟩:=hh;rw[Mq];have FT:x.length=pre.length+(16*rows.length+8):=by rw[hx,List.length_append,iY]
  have KF:rows.length<=2^30:=by omega
  have FX:0<=da rows:=by
    have:=mh (l:=rows) fun r hr=>(hN r hr).len.1;omega
  have HA:=aA g1 g2;have tcut:((n:Int)-((rows.length:Int)*16+8)).toNat=pre.length:=by omega
  have rX:aZ w2 (bK A c pre.length 1) (bY (jY rows)):=by
    have:=qg (k:=pre.length) (hr.kept_none HA) (show x.length<=c by omega);rw[hx,List.drop_left' rfl]at this;exact this
  refine⟨_,rfl,by omega,by omega,by omega,fun h=>absurd h (by omega),fun _=>⟨by omega,⟨by omega,by omega⟩,?_⟩⟩;rw[tcut];refine(um rX (by rw[iY];omega) (by omega) (tU _) (by rw[iY];omega) (mQ _).1).mono fun ev w3 hh=>?_;obtain⟨A3,n3,c3,rfl,o3,g3⟩:=hh;have e3:(jY rows).take ((jY rows).length-4)=kS rows:=(mQ _).2;rw[e3]at o3;have IS:n3=16*rows.length+4:=by have h':=o3.cases.1;unfold bY at h';rw[List.length_map,kR]at h';omega
  have Mo:=eD o3;have F9:=aA HA g3;have z03:=F9.size;have t3:((n3:Int)-4).toNat=16*rows.length:=by omega
  have rM:aZ w3 (bK A3 c3 (16*rows.length) 1) (bY [88,71,84,49]):=by
    have:=qg (c:=c3) (k:=16*rows.length) o3.row (by rw[kR];omega);rw[zU]at this;exact this
  have US:n3-16*rows.length=4:=by omega
  have OV:=ji (n:=n3-16*rows.length) (c:=c3-16*rows.length) rM US;refine⟨A3,n3,c3,true,rfl,fun h=>(by cases h),fun _=>⟨by omega,⟨by omega,by omega⟩,_,by rw[t3];exact OV,_,fun w=>yg _ _ _ _ w,fun h=>absurd h (by decide),fun _=>⟨by omega,by omega,⟨by omega,by omega⟩,?_⟩⟩⟩;rw[t3];have Oy:(n:Int)-24-((rows.length:Int)*16+8)=da rows:=by omega
  rw[Oy];have rB:aZ w3 A3 (bY (rows.flatMap iZ)):=by rw[← zT];exact eV o3.row _
  refine⟨fun q B d e left R s t W=>∃ p:Nat,p<=rows.length/\q=rows.length-p/\aE W w3.heap.size 60 3 B d e (dM (rows.take p))/\left=da (rows.drop p)/\aZ w3 R (bY ((rows.drop p).flatMap iZ))/\s=16*(rows.length-p)/\s<=t/\w3.grownBy W none,⟨_,0,by omega,rfl,aE.nil _ _ _ _,rfl,rB,by omega,by omega,aC _ _⟩,?_⟩;rintro q B d e left R s t W ⟨p,hp,rfl,oW,rfl,rW3,rfl,Jz,gW⟩;have rW:=rW3.kept_none gW;have gWw:=aA F9 gW;have zW:=gW.size;have hd:d=p:=by have h':=oW.cases.1;rw[eG,List.length_take]at h';omega
  refine⟨fun FP=>?_,fun FU=>?_⟩
  · have lp:p<rows.length:=by omega
    have Rg:rows.drop p=rows[p] ::rows.drop (p+1):=List.drop_eq_getElem_cons lp;obtain⟨r,Qt⟩:∃ r,r=rows[p]:=⟨_,rfl⟩;rw[← Qt]at Rg;have Tm:vi r:=by rw[Qt];exact hN _ (List.getElem_mem lp)
    rw[Rg,List.flatMap_cons]at rW rW3;obtain⟨f1,f2,f3⟩:=Cj Tm ((rows.drop (p+1)).flatMap iZ);obtain⟨q1,q2,q3⟩:=Tm;obtain⟨y,hy⟩:∃ y,y=iZ r++(rows.drop (p+1)).flatMap iZ:=⟨_,rfl⟩;have Sf:y.length=16*(rows.length-p):=by rw[hy,List.length_append,tV,jO,List.length_drop];omega
    have Kx:By y:=by rw[hy];exact(Bq r).append (yU _)
    have Qd:y.drop 16=(rows.drop (p+1)).flatMap iZ:=by rw[hy];exact List.drop_left' (tV r)
    rw[← hy]at rW rW3 f1 f2 f3;have gd:=aI (aC W none);obtain⟨W0,Pc⟩:∃ W0,W0=W.drew:=⟨_,rfl⟩;rw[← Pc]at gd ⊢;have t1:∀ X,W.grownBy X none->∀ {Q:Ending->World->Prop},Q (.returned (.int .u64 r.len)) X->Calls P 85 #[.slice R 4 t] X Q:=fun X hX Q hQ=>(mZ (eV (rW.kept_none hX) 4) (by rw[List.length_take];omega) (by rw[List.length_take];omega) (Kx.take _)).mono fun ev w' hh=>by
      obtain⟨rfl,rfl⟩:=hh;rw[f1];exact hQ
    have t2:∀ X,W.grownBy X none->∀ {Q:Ending->World->Prop},Q (.returned (.int .u64 r.first)) X->Calls P 85 #[.slice (bK R t 4 1) (12-4) (t-4)] X Q:=fun X hX Q hQ=>(mZ (eV (qg (k:=4) (rW.kept_none hX) (by omega)) 8) (by rw[List.length_take,List.length_drop];omega) (by rw[List.length_take];omega) ((Kx.drop _).take _)).mono fun ev w' hh=>by
      obtain⟨rfl,rfl⟩:=hh;rw[f2];exact hQ
    have t3':∀ X,W.grownBy X none->∀ {Q:Ending->World->Prop},Q (.returned (.int .u64 r.sum)) X->Calls P 85 #[.slice (bK R t 12 1) (16-12) (t-12)] X Q:=fun X hX Q hQ=>(mZ (eV (qg (k:=12) (rW.kept_none hX) (by omega)) 4) (by rw[List.length_take,List.length_drop];omega) (by rw[List.length_take];omega) ((Kx.drop _).take _)).mono fun ev w' hh=>by
      obtain⟨rfl,rfl⟩:=hh;rw[f3];exact hQ
    have z0:(0:Int)<=4/\(4:Int)<=(t:Int):=by omega
    have z1:(0:Int)<=12/\(12:Int)<=(t:Int)/\(0:Int)<=4/\(4:Int)<=12:=by omega
    have z2:(0:Int)<=16/\(16:Int)<=(t:Int)/\(0:Int)<=12/\(12:Int)<=16:=by omega
    have i1:-9223372036854775808<=r.len/\r.len<=9223372036854775807:=by omega
    have i2:-9223372036854775808<=r.first/\r.first<=9223372036854775807:=by omega
    have i3:0<=r.sum/\r.sum<=4294967295:=q3;have gN:=World.grownBy_alloc W0 (.cells #[.int .i64 0,.int .i64 0,.int .u32 0] 60) none;have s0:=heap_alloc_new W0 (.cells #[.int .i64 0,.int .i64 0,.int .u32 0] 60);have s1:=aH s0 0 (.int .i64 r.len);have s2:=aH s1 1 (.int .i64 r.first);have s3:=aH s2 2 (.int .u32 r.sum);have gS:W0.grownBy ((((W0.alloc (.cells #[.int .i64 0,.int .i64 0,.int .u32 0] 60)).setCell ⟨W0.heap.size,0,none⟩ (.int .i64 r.len)).setCell ⟨W0.heap.size,1,none⟩ (.int .i64 r.first)).setCell ⟨W0.heap.size,2,none⟩ (.int .u32 r.sum)) none:=(cH (cH (cH (Kp.of_none (S:=fun q=>W0.heap.size<=q) gN) (Nat.le_refl _)) (Nat.le_refl _)) (Nat.le_refl _)).grown (fun q hq e=>by omega);have gNw:=aA gd gN;have zd:=gd.size;refine⟨fun a X=>∃ b:Nat,a=⟨b,0,none⟩/\W.heap.size<=b/\X.heap[b]?=some (.cells #[.int .i64 r.len,.int .i64 r.first,.int .u32 r.sum] 60 (0,0))/\W.grownBy X none,?_,?_⟩
    · exact⟨⟨⟨⟨z0,t1 W0 gd ⟨_,rfl,i1,z1,t2 W0 gd ⟨_,rfl,i2,z2,t3' W0 gd ⟨_,rfl,i3,⟨_,aB s0 0⟩,aD s0 0,⟨_,aB s1 1⟩,aD s1 1,⟨_,aB s2 2⟩,aD s2 2,_,rfl,zd,s3,aA gd gS⟩⟩⟩⟩,⟨z0,t1 W0 gd ⟨_,rfl,i1,z1,t2 W0 gd ⟨_,rfl,i2,z2,t3' _ gNw ⟨_,rfl,i3,⟨_,aB s0 0⟩,aD s0 0,⟨_,aB s1 1⟩,aD s1 1,⟨_,aB s2 2⟩,aD s2 2,_,rfl,zd,s3,aA gd gS⟩⟩⟩⟩⟩,⟨z0,t1 W0 gd ⟨_,rfl,i1,z1,z2,t2 _ gNw ⟨_,rfl,i2,t3' _ gNw ⟨_,rfl,i3,⟨_,aB s0 0⟩,aD s0 0,⟨_,aB s1 1⟩,aD s1 1,⟨_,aB s2 2⟩,aD s2 2,_,rfl,zd,s3,aA gd gS⟩⟩⟩⟩⟩,⟨z0,z1,z2,t1 _ gNw ⟨_,rfl,i1,t2 _ gNw ⟨_,rfl,i2,t3' _ gNw ⟨_,rfl,i3,⟨_,aB s0 0⟩,aD s0 0,⟨_,aB s1 1⟩,aD s1 1,⟨_,aB s2 2⟩,aD s2 2,_,rfl,zd,s3,aA gd gS⟩⟩⟩⟩⟩
    · rintro a X ⟨b,rfl,Xy,hB,gX⟩;have gd2:=aI (aC X none);obtain⟨X1,KR⟩:∃ X1,X1=X.drew:=⟨_,rfl⟩;rw[← KR]at gd2 ⊢;have Ld:=aF hB gd2;have gA:=World.grownBy_alloc X1 (.cells #[.int .i64 r.len,.int .i64 r.first,.int .u32 r.sum] 60) none;have rA:aZ (X1.alloc (.cells #[.int .i64 r.len,.int .i64 r.first,.int .u32 r.sum] 60)) (some ⟨X1.heap.size,0,none⟩) (dM [r]):=iB X1 #[.int .i64 r.len,.int .i64 r.first,.int .u32 r.sum] 60;have gW2:=aA gX (aA gd2 gA);have oW2:=oW.kp (S:=fun _=>False) (Kp.of_none gW2) (fun _ _ e=>e);have gWz:=aA gW gW2;obtain⟨A5,n5,c5,W5,r5,o5,g5⟩:=pJ (d:=1) oW2 rA (by omega) gWz.size;have ob:=fun q hq=>(World.ownsRow.lt oW2 q hq).1;have Kj:=aY gWz g5 fun q hq=>ob q hq;have Lb:=aF Ld gA;have Ib:W5.heap[b]?=some (.cells #[.int .i64 r.len,.int .i64 r.first,.int .u32 r.sum] 60 (0,0)):=by
        rw[g5.block _ (Array.getElem?_eq_some_iff.1 Lb).1 (fun e=>by have:=oW.block_lt b e.symm;omega)];exact Lb
      have L6:da (rows.drop p)-r.len=da (rows.drop (p+1)):=by
        rw[Rg];unfold da;simp;omega
      have Ga:0<=da (rows.drop (p+1)):=by
        have:=mh (l:=rows.drop (p+1)) fun r hr=>(hN r (List.mem_of_mem_drop hr)).len.1;omega
      have U0:da (rows.drop p)<=da rows:=by
        have h1:=gi (rows.take p) (rows.drop p);rw[List.take_append_drop]at h1;have:=mh (l:=rows.take p) fun r hr=>(hN r (List.mem_of_mem_take hr)).len.1;omega
      refine⟨fun X=>X.heap[b]?=some (.cells #[.int .i64 r.len,.int .i64 r.first,.int .u32 r.sum] 60 (0,0)),Ld,r.len,by simpa using aB Ld 0,r.first,by rw[mE];exact aB Ld 1,r.sum,by rw[mE];exact aB Ld 2,Lb,A5,n5,c5,W5,r5,Ib,r.len,fun X hX=>by simpa using aB hX 0,by omega,⟨by omega,by omega⟩,rows.length-(p+1),by omega,p+1,by omega,rfl,?_,L6,?_,by omega,by omega,Kj⟩
      · rw[List.take_succ_eq_append_getElem lp,← Qt];exact o5
      · rw[← Qd];exact qg (k:=16) rW3 (by omega)
  · have Jm:p=rows.length:=by omega
    subst Jm;rw[List.take_length]at oW;rw[List.drop_length];refine(ml oW.row hd (by omega)).mono fun ev W1 hh=>?_;obtain⟨rfl,g4⟩:=hh;refine⟨_,rfl,fun h=>absurd (Qu.symm.trans h) (by decide),fun _=>⟨fun h=>absurd rfl h,fun _=>⟨_,_,_,rfl,(oW.kp (S:=fun _=>False) (Kp.of_none g4) (fun _ _ e=>e)).mono z03,aA gWw g4⟩⟩⟩
theorem qr{w:World}{A:OA}{n c:Nat}{l:List Int}(hr:aZ w A (bY l))(hn:n=l.length)(hl:l.length<=2^38):
    Calls P 48 #[.slice A n c] w fun ev w'=>∃(A':OA)(n' c':Nat),ev=.returned (.slice A' n' c')/\aE w' w.heap.size 5 1 A' n' c' (bY l)/\w.grownBy w' none:=by
  apply vc48;dsimp only[VC48,Br,Ap,nb];refine⟨fun h=>?_,fun h=>?_⟩
  · subst h;have:l=[]:=by
      cases l with
      | nil=>rfl
      | cons x l=>obtain⟨a,e,_⟩:=hr 0 _ rfl;cases e
    subst this;exact⟨none,0,0,rfl,aE.nil _ _ _ _,aC _ _⟩
  · obtain⟨a,rfl⟩:∃ a,A=some a:=by cases A with
      | none=>exact absurd rfl h
      | some a=>exact⟨a,rfl⟩
    have hg:=World.grownBy_alloc w (.cells #[] 5) none;have ho:aE (w.alloc (.cells #[] 5)) w.heap.size 5 1 (some ⟨w.heap.size,0,none⟩) 0 0 (bY []):=⟨rfl,.inr ⟨w.heap.size,0,#[],rfl,Nat.le_refl _,heap_alloc_new w _,Nat.le_refl _,Nat.zero_le _,rfl,rfl⟩⟩;obtain⟨A',n',c',w',h1,h2,h3,_⟩:=aO ho (hr.kept_none hg) hn (fun e=>by cases e) (by omega) hg.size;exact⟨A',n',c',w',h1,A',n',c',rfl,by simpa using h2,aY hg h3 fun q hq=>(World.ownsRow.lt ho q hq).1⟩
theorem cu.hok{N:Int}{l:List aS}{k:Nat}(h:cu N l)(hk:1<=k/\k<=1048576):dJ N k l.length:=by have:=h.n;have:=h.len;unfold dJ;omega
theorem cu.rowsN{N:Int}{l:List aS}{k:Nat}(h:cu N l)(hk:0<k):∀ r∈eO l k (dy l.length k),vi r:=fun r hr=>by
 unfold eO at hr;obtain⟨i,hi,rfl⟩:=List.mem_map.1 hr;exact h.rowN hk ((dU hk).1 (by simpa using hi))
theorem cu.flen{N:Int}{l:List aS}{k:Nat}(h:cu N l)(hk:0<k):(fx N l k).length<=1000000:=by
 have h1:=h.bodiesLen hk (Nat.le_refl (dy l.length k));have h2:=jF (n:=l.length) hk;have h3:=h.len;rw[qV];omega
theorem pV{w:World}{A:OA}{n c:Nat}{N:Int}{l:List aS}{k:Nat}(hr:aZ w A (bY (fx N l k)))(hn:n=(fx N l k).length)(hc:n<=c)(h:cu N l)(hk:1<=k/\k<=1048576):
    Calls P 20 #[.slice A n c] w fun ev w'=>∃(B:OA)(m d:Nat),ev=.returned (.tuple #[iT N k l.length,.slice B m d,.int .i64 0])/\aE w' w.heap.size 60 3 B m d (dM (eO l k (dy l.length k)))/\w.grownBy w' none:=by
  apply vc20;dsimp only[VC20,rt,Wt,Br,Rd,Ws,cT,nb,iq];have g0:=World.grownBy_alloc w (.cells #[.int .u64 0,.int .i64 0,.int .i64 0] 51) none;have b0:=heap_alloc_new w (.cells #[.int .u64 0,.int .i64 0,.int .i64 0] 51);obtain⟨w0,HZ⟩:∃ w0,w0=w.alloc (.cells #[.int .u64 0,.int .i64 0,.int .i64 0] 51):=⟨_,rfl⟩;rw[← HZ]at g0 b0 ⊢;have hok:=h.hok hk;refine(oe (hr.kept_none g0) hn hc ng rfl h.n.1 hok).mono fun ev w1 hh=>?_;obtain⟨rfl,g1⟩:=hh;have b1:=aF b0 g1;have ga:=World.grownBy_alloc w1 (.cells #[.int .u64 0,.int .i64 0,.int .i64 0] 51) none;have s0:=heap_alloc_new w1 (.cells #[.int .u64 0,.int .i64 0,.int .i64 0] 51);have s1:=aH s0 0 (.int .u64 N);have s2:=aH s1 1 (.int .i64 (k:Int));have s3:=aH s2 2 (.int .i64 (l.length:Int));have g3:w1.grownBy ((((w1.alloc (.cells #[.int .u64 0,.int .i64 0,.int .i64 0] 51)).setCell ⟨w1.heap.size,0,none⟩ (.int .u64 N)).setCell ⟨w1.heap.size,1,none⟩ (.int .i64 (k:Int))).setCell ⟨w1.heap.size,2,none⟩ (.int .i64 (l.length:Int))) none:=(cH (cH (cH (Kp.of_none (S:=fun q=>w1.heap.size<=q) ga) (Nat.le_refl _)) (Nat.le_refl _)) (Nat.le_refl _)).grown (fun q hq e=>by omega);refine⟨_,_,_,_,rfl,⟨_,aB s0 0⟩,aD s0 0,⟨_,aB s1 1⟩,aD s1 1,⟨_,aB s2 2⟩,aD s2 2,fun e=>absurd rfl e,fun _=>?_⟩;obtain⟨w3,Gr⟩:∃ w3,w3=(((w1.alloc (.cells #[.int .u64 0,.int .i64 0,.int .i64 0] 51)).setCell ⟨w1.heap.size,0,none⟩ (.int .u64 N)).setCell ⟨w1.heap.size,1,none⟩ (.int .i64 (k:Int))).setCell ⟨w1.heap.size,2,none⟩ (.int .i64 (l.length:Int)):=⟨_,rfl⟩;have h3:w3.heap[w1.heap.size]?=some (.cells #[.int .u64 N,.int .i64 (k:Int),.int .i64 (l.length:Int)] 51 (0,0)):=by rw[Gr];exact s3
  rw[← Gr]at g3 ⊢;have F9:=aA g0 (aA g1 g3);have JZ:=uA (l:=l) (k:=k) (dy l.length k);refine⟨N,aB h3 0,(k:Int),aB h3 1,(l.length:Int),aB h3 2,(sp (pre:=fE N k l.length++dl l k (dy l.length k)) (hr.kept_none F9) hn hc ng (by have:=h.flen hk.1;omega) (by unfold fx;rw[List.append_assoc]) (by rw[JZ,List.length_append,eE];omega) hok (by rw[j5 hk.1,fo]) (h.rowsOk hk.1 (Nat.le_refl _)) (h.rowsN hk.1)).mono fun ev w4 hh=>?_⟩;obtain⟨A4,n4,c4,rfl,o4,g4⟩:=hh;have h4:=aF h3 g4;have b4:=aF (aF b1 g3) g4;have t1:=aH b4 0 (.int .u64 N);have t2:=aH t1 1 (.int .i64 (k:Int));have t3:=aH t2 2 (.int .i64 (l.length:Int));have HS:=aA F9 g4;have z03:=F9.size;have z3:w.heap.size<w3.heap.size:=by
    have:=(Array.getElem?_eq_some_iff.1 (aF b1 g3)).1;exact this
  have K4:Kp w4 (((w4.setCell ⟨w.heap.size,0,none⟩ (.int .u64 N)).setCell ⟨w.heap.size,1,none⟩ (.int .i64 (k:Int))).setCell ⟨w.heap.size,2,none⟩ (.int .i64 (l.length:Int))) (fun q=>q=w.heap.size):=cH (cH (cH (Kp.refl _ _) rfl) rfl) rfl;have gF:=((Kp.of_none (S:=fun q=>w.heap.size<=q) HS).then K4 fun q _ e=>by omega).grown fun q hq e=>by omega
  refine⟨_,_,_,_,rfl,fun e=>absurd rfl e,fun _=>⟨N,aB h4 0,(k:Int),aB h4 1,(l.length:Int),aB h4 2,⟨_,aB b4 0⟩,aD b4 0,⟨_,aB t1 1⟩,aD t1 1,⟨_,aB t2 2⟩,aD t2 2,N,by rw[aB t3 0];rfl,(k:Int),by rw[aB t3 1];rfl,(l.length:Int),by rw[aB t3 2];rfl,A4,n4,c4,rfl,?_,gF⟩⟩;exact(o4.kp K4 (fun q hq e=>by have:=(World.ownsRow.lt o4 q hq).1;omega)).mono (by omega)
theorem rf{l:List aS}{k m i:Nat}(hi:i<=m):da ((eO l k m).take i)=((dl l k i).length:Int):=by
 have:(eO l k m).take i=eO l k i:=by
  unfold eO;rw[← List.map_take,List.take_range,Nat.min_eq_left hi]
 rw[this,uA]
theorem qq{w:World}{A B:OA}{n c m d:Nat}{N:Int}{l:List aS}{k i:Nat}(hr:aZ w A (bY (fx N l k)))(hn:n=(fx N l k).length)(hc:n<=c)(h:cu N l)(hk:1<=k/\k<=1048576)(hB:aZ w B (dM (eO l k (dy l.length k))))(hm:m=dy l.length k)(hd:m<=d)(hi:i<dy l.length k):
    Calls P 21 #[.slice A n c,.slice B m d,.int .i64 (i:Int)] w fun ev w'=>∃(C:OA)(n' c':Nat),ev=.returned (.tuple #[.slice C n' c',.int .i64 0])/\aE w' w.heap.size 5 1 C n' c' (bY (dO l k i))/\w.grownBy w' none:=by
  apply vc21;dsimp only[VC21,rt,Br,Rd,Rc,Ix,cI,cS,ad,al,iq]
  try simp only[aG]
  have Hs:(eO l k (dy l.length k)).length=dy l.length k:=fo;have KE:=jF (n:=l.length) (k:=k) hk.1;have hl:=h.len;have Hc:=(dU hk.1).1 hi;have Ip:=h.blen hk.1 Hc;have Gj:(eO l k (dy l.length k))[i]'(by rw[Hs];exact hi)=jD l k i:=by unfold eO;simp
  refine(od hB (by rw[Hs];exact hm) hd (by rw[Hs];omega) (h.rowsOk hk.1 (Nat.le_refl _)) (by rw[Hs];exact hi)).mono fun ev w1 hh=>?_;obtain⟨rfl,g1⟩:=hh;rw[rf (by omega)];have Mf:=h.flen hk.1;obtain⟨s,hs⟩:=pH (l:=l) (k:=k) hi;have Ql:24+(dl l k i).length+(dO l k i).length<=n:=by
    rw[hn,qV,hs,List.length_append,List.length_append];omega
  have ti:(i:Int).toNat=i:=by omega
  rw[ti];have cellR:∀ X,w.grownBy X none->∃ a,B=some a/\X.cell? (a.add (i*3))=some (.int .i64 ((dO l k i).length:Int))/\X.cell? (Addr.add (a.add (i*3)) 2)=some (.int .u32 (jw (dO l k i))):=fun X hX=>by
    obtain⟨a,e0,e1,e2,e3⟩:=iA (hB.kept_none hX) (j:=i) (by rw[Hs];exact hi);rw[Gj]at e1 e3;exact⟨a,e0,e1,e3⟩
  obtain⟨a,e0,e1,e2⟩:=cellR w1 g1;have t1:(24+((dl l k i).length:Int)).toNat=24+(dl l k i).length:=by omega
  have t2:(24+((dl l k i).length:Int)+((dO l k i).length:Int)).toNat-(24+((dl l k i).length:Int)).toNat=(dO l k i).length:=by omega
  have rX:aZ w1 (bK A c (24+(dl l k i).length) 1) (bY (dO l k i)):=by
    have:=eV (qg (c:=c) (k:=24+(dl l k i).length) (hr.kept_none g1) (by omega)) (dO l k i).length;rw[AK hi]at this;exact this
  refine⟨_,rfl,fun e=>absurd e (by omega),fun _=>⟨fun e=>absurd e (by omega),fun _=>⟨a,e0,by omega,by omega,_,e1,by omega,fun e=>absurd e (by omega),fun _=>⟨a,e0,by omega,by omega,_,e1,by omega,⟨by omega,by omega,by omega,by omega⟩,?_⟩⟩⟩⟩;rw[t2,t1];refine(qr rX rfl (by omega)).mono fun ev w2 hh=>?_;obtain⟨C,n',c',rfl,o2,g2⟩:=hh;have GG:n'=(dO l k i).length:=by have h':=o2.cases.1;unfold bY at h';rw[List.length_map]at h';omega
  have gd:=aI (aC w2 none);obtain⟨w3,Gr⟩:∃ w3,w3=w2.drew:=⟨_,rfl⟩;rw[← Gr]at gd ⊢;have gA:=World.grownBy_alloc w3 (.cells #[.slice C n' c'] 26) none;have rA:aZ (w3.alloc (.cells #[.slice C n' c'] 26)) (some ⟨w3.heap.size,0,none⟩) [.slice C n' c']:=iB w3 #[.slice C n' c'] 26;have Gu:=aA g1 (aA g2 gd);have o4:=o2.kp (S:=fun _=>False) (Kp.of_none (aA gd gA)) (fun _ _ e=>e);refine⟨C,n',c',rfl,fun X=>w.grownBy X none,Gu,aA Gu gA,(jJ rA o4.row GG h.bodyBy (by omega)).mono fun ev w5 hh=>?_⟩;obtain⟨rfl,rfl⟩:=hh;refine⟨_,rfl,aA Gu gA,a,e0,by omega,by omega,_,fun X hX=>?_,fun e=>absurd rfl e,fun _=>⟨C,n',c',rfl,o4.mono g1.size,aA Gu gA⟩⟩;obtain⟨a',e0',_,e2'⟩:=cellR X hX;rw[e0]at e0';cases e0';exact e2'
theorem cu.blen13{N:Int}{l:List aS}{k i:Nat}(h:cu N l)(hk:0<k)(hi:i*k<l.length):(dO l k i).length<=6540:=by
 have h1:(eW l k i).length<=i*k:=by
  have:=ig (l.take (i*k)) [];unfold eW;rw[List.length_take]at *;simp only[List.length_nil]at *;omega
 have h2:(fC l k i).length<=l.length-i*k:=by rw[iN];omega
 have h5:=h.len;have h3:=kb (h.blk hk hi) (by omega) (by omega);unfold dO;omega
theorem xX{l:List aS}{k p:Nat}:l.take (p*k)++fC l k p=l.take ((p+1)*k):=by
 unfold fC;rw[Nat.add_mul,Nat.one_mul,List.take_add]
theorem uZ {w:World} {A:OA} {n c:Nat} {N:Int} {l:List aS} {k:Nat} (hr:aZ w A (bY (fx N l k))) (hn:n=(fx N l k).length) (hc:n<=c) (h:cu N l) (hk:1<=k/\k<=1048576) :
    Calls P 22 #[.slice A n c] w fun ev w'=>∃(B:OA)(d e:Nat),ev=.returned (.tuple #[.agg #[.int .u64 N,.slice B d e],.int .i64 (k:Int),.int .i64 0])/\aE w' w.heap.size 62 4 B d e (cE l)/\w.grownBy w' none:=by
  apply vc22;dsimp only[VC22,rt,Wt,Br,Rd,Rc,Rs,Ix,Ap,Ws,cI,cB,cT,nb,ad,al,iq]
  try simp only[aG]
  have hl:=h.len;have hok:=h.hok hk;have g0:=World.grownBy_alloc w (.cells #[.int .u64 0,.slice none 0 0] 25) none;have b0:=heap_alloc_new w (.cells #[.int .u64 0,.slice none 0 0] 25);obtain⟨w0,HZ⟩:∃ w0,w0=w.alloc (.cells #[.int .u64 0,.slice none 0 0] 25):=⟨_,rfl⟩;rw[← HZ]at g0 b0 ⊢;refine(pV (hr.kept_none g0) hn hc h hk).mono fun ev w1 hh=>?_;obtain⟨X,xm,xd,rfl,oX,g1⟩:=hh;have Nx:xm=dy l.length k:=by have h':=oX.cases.1;rw[eG,fo]at h';omega
  have T0:=eD oX;have b1:=aF b0 g1;have ga:=World.grownBy_alloc w1 (.cells #[.int .u64 0,.int .i64 0,.int .i64 0] 51) none;have s0:=heap_alloc_new w1 (.cells #[.int .u64 0,.int .i64 0,.int .i64 0] 51);have s1:=aH s0 0 (.int .u64 N);have s2:=aH s1 1 (.int .i64 (k:Int));have s3:=aH s2 2 (.int .i64 (l.length:Int));have g3:w1.grownBy ((((w1.alloc (.cells #[.int .u64 0,.int .i64 0,.int .i64 0] 51)).setCell ⟨w1.heap.size,0,none⟩ (.int .u64 N)).setCell ⟨w1.heap.size,1,none⟩ (.int .i64 (k:Int))).setCell ⟨w1.heap.size,2,none⟩ (.int .i64 (l.length:Int))) none:=(cH (cH (cH (Kp.of_none (S:=fun q=>w1.heap.size<=q) ga) (Nat.le_refl _)) (Nat.le_refl _)) (Nat.le_refl _)).grown (fun q hq e=>by omega);refine⟨_,_,_,_,_,_,_,rfl,⟨_,aB s0 0⟩,aD s0 0,⟨_,aB s1 1⟩,aD s1 1,⟨_,aB s2 2⟩,aD s2 2,fun e=>absurd rfl e,fun _=>?_⟩;obtain⟨w3,Gr⟩:∃ w3,w3=(((w1.alloc (.cells #[.int .u64 0,.int .i64 0,.int .i64 0] 51)).setCell ⟨w1.heap.size,0,none⟩ (.int .u64 N)).setCell ⟨w1.heap.size,1,none⟩ (.int .i64 (k:Int))).setCell ⟨w1.heap.size,2,none⟩ (.int .i64 (l.length:Int)):=⟨_,rfl⟩;have h3:w3.heap[w1.heap.size]?=some (.cells #[.int .u64 N,.int .i64 (k:Int),.int .i64 (l.length:Int)] 51 (0,0)):=by rw[Gr];exact s3
  rw[← Gr]at g3 ⊢;have F9:=aA g0 (aA g1 g3);have b3:=aF b1 g3;refine⟨N,aB h3 0,?_⟩;have gh:=World.grownBy_alloc w3 (.cells #[.int .u64 0,.slice none 0 0] 25) none;have t0:=heap_alloc_new w3 (.cells #[.int .u64 0,.slice none 0 0] 25);have t1:=aH t0 0 (.int .u64 N);have t2:=aH t1 1 (.slice none 0 0);have g4:w3.grownBy (((w3.alloc (.cells #[.int .u64 0,.slice none 0 0] 25)).setCell ⟨w3.heap.size,0,none⟩ (.int .u64 N)).setCell ⟨w3.heap.size,1,none⟩ (.slice none 0 0)) none:=(cH (cH (Kp.of_none (S:=fun q=>w3.heap.size<=q) gh) (Nat.le_refl _)) (Nat.le_refl _)).grown (fun q hq e=>by omega);refine⟨⟨_,aB t0 0⟩,aD t0 0,⟨_,aB t1 1⟩,aD t1 1,?_⟩;obtain⟨w4,HY⟩:∃ w4,w4=((w3.alloc (.cells #[.int .u64 0,.slice none 0 0] 25)).setCell ⟨w3.heap.size,0,none⟩ (.int .u64 N)).setCell ⟨w3.heap.size,1,none⟩ (.slice none 0 0):=⟨_,rfl⟩;have h4:w4.heap[w3.heap.size]?=some (.cells #[.int .u64 N,.slice none 0 0] 25 (0,0)):=by rw[HY];exact t2
  rw[← HY]at g4 ⊢;have z01:=g0.size;have zb0:w.heap.size<w1.heap.size:=(Array.getElem?_eq_some_iff.1 b1).1;have zh3:w1.heap.size<w3.heap.size:=(Array.getElem?_eq_some_iff.1 h3).1;have zh4:w3.heap.size<w4.heap.size:=(Array.getElem?_eq_some_iff.1 h4).1;have HS:=aA F9 g4;have Hz:=aA g3 g4;obtain⟨m,hm⟩:∃ m,m=dy l.length k:=⟨_,rfl⟩;rw[← hm]at oX Nx;have KE:m<=l.length:=by rw[hm];exact jF hk.1
  refine⟨fun q x W=>∃(p:Nat)(B:OA)(d e:Nat),x=(p:Int)/\p<=m/\q=m-p/\Kp w4 W (fun q=>q=w3.heap.size)/\W.heap[w3.heap.size]?=some (.cells #[.int .u64 N,.slice B d e] 25 (0,0))/\aE W w4.heap.size 62 4 B d e (cE (l.take (p*k))),⟨_,0,none,0,0,rfl,by omega,rfl,Kp.refl _ _,h4,by rw[Nat.zero_mul];exact aE.nil _ _ _ _⟩,?_⟩;rintro q x W ⟨p,B,d,e,rfl,hp,rfl,kW,hB,oW⟩;have gB:=((Kp.of_none (S:=fun q=>w.heap.size<=q) HS).then kW fun q _ e=>by omega).grown fun q hq e=>by omega
  have gB1:=((Kp.of_none (S:=fun q=>w1.heap.size<=q) Hz).then kW fun q _ e=>by omega).grown fun q hq e=>by omega
  have hH:W.heap[w1.heap.size]?=some (.cells #[.int .u64 N,.int .i64 (k:Int),.int .i64 (l.length:Int)] 51 (0,0)):=by
    rw[kW.block _ (by omega) (by omega)];exact aF h3 g4
  have hb:W.heap[w.heap.size]?=some (.cells #[.int .u64 0,.slice none 0 0] 25 (0,0)):=by
    rw[kW.block _ (by omega) (by omega)];exact aF b3 g4
  have hd:d=(l.take (p*k)).length:=by have h':=oW.cases.1;rw[dR]at h';omega
  have zW:=kW.size;refine⟨fun FP=>?_,fun FU=>?_⟩
  · have lp:p<m:=by omega
    have Hc:p*k<l.length:=(dU hk.1).1 (by omega);have tp:(p:Int).toNat=p:=by omega
    rw[tp];have Hs:(eO l k m).length=m:=fo;have Gj:(eO l k m)[p]'(by rw[Hs];exact lp)=jD l k p:=by unfold eO;simp
    obtain⟨a,e0,e1,e2,e3⟩:=iA (oX.row.kept_none gB1) (j:=p) (by rw[Hs];exact lp);rw[Gj]at e1 e2 e3;refine⟨a,e0,by omega,by omega,_,e1,_,e2,_,e3,?_⟩;have gc:=World.grownBy_alloc W (.cells #[.int .i64 0,.int .i64 0,.int .u32 0] 60) none;have u0:=heap_alloc_new W (.cells #[.int .i64 0,.int .i64 0,.int .u32 0] 60);have u1:=aH u0 0 (.int .i64 (jD l k p).len);have u2:=aH u1 1 (.int .i64 (jD l k p).first);have u3:=aH u2 2 (.int .u32 (jD l k p).sum);have gR:W.grownBy ((((W.alloc (.cells #[.int .i64 0,.int .i64 0,.int .u32 0] 60)).setCell ⟨W.heap.size,0,none⟩ (.int .i64 (jD l k p).len)).setCell ⟨W.heap.size,1,none⟩ (.int .i64 (jD l k p).first)).setCell ⟨W.heap.size,2,none⟩ (.int .u32 (jD l k p).sum)) none:=(cH (cH (cH (Kp.of_none (S:=fun q=>W.heap.size<=q) gc) (Nat.le_refl _)) (Nat.le_refl _)) (Nat.le_refl _)).grown (fun q hq e=>by omega);refine⟨⟨_,aB u0 0⟩,aD u0 0,⟨_,aB u1 1⟩,aD u1 1,⟨_,aB u2 2⟩,aD u2 2,?_⟩;obtain⟨W1,Pb⟩:∃ W1,W1=(((W.alloc (.cells #[.int .i64 0,.int .i64 0,.int .u32 0] 60)).setCell ⟨W.heap.size,0,none⟩ (.int .i64 (jD l k p).len)).setCell ⟨W.heap.size,1,none⟩ (.int .i64 (jD l k p).first)).setCell ⟨W.heap.size,2,none⟩ (.int .u32 (jD l k p).sum):=⟨_,rfl⟩;have RM:W1.heap[W.heap.size]?=some (.cells #[.int .i64 (jD l k p).len,.int .i64 (jD l k p).first,.int .u32 (jD l k p).sum] 60 (0,0)):=by rw[Pb];exact u3
    rw[← Pb]at gR ⊢;have gW1:=aA gB gR;refine(qq (hr.kept_none gW1) hn hc h hk (by rw[← hm];exact oX.row.kept_none (aA gB1 gR)) (by rw[← hm];exact Nx) (by omega) (by omega)).mono fun ev W2 hh=>?_;obtain⟨Y,yn,yc,rfl,oY,gY⟩:=hh;have Km:yn=(dO l k p).length:=by have h':=oY.cases.1;unfold bY at h';rw[List.length_map]at h';omega
    have Lg:=eD oY;refine⟨_,_,_,_,rfl,fun e=>absurd rfl e,fun _=>?_⟩;have gd:=aI (aC W2 none);obtain⟨W3,Nc⟩:∃ W3,W3=W2.drew:=⟨_,rfl⟩;rw[← Nc]at gd ⊢;have gW3:W.grownBy W3 none:=aA gR (aA gY gd);have RL:=aF RM (aA gY gd);have JF:=aF hH gW3;have Hi:min (k:Int) ((l.length:Int)-(p:Int)*(k:Int))=(((fC l k p).length:Nat):Int):=by
      rw[iN,show(p:Int)*(k:Int)=((p*k:Nat):Int) by simp];omega
    have Mb:(p:Int)<((l.length:Int)+(k:Int)-1) / (k:Int):=by rw[j5 hk.1];omega
    refine⟨fun X=>W3.grownBy X none,aC _ _,N,fun X hX=>aB (aF JF hX) 0,(jD l k p).first,fun X hX=>aB (aF RL hX) 1,N,aB JF 0,(k:Int),aB JF 1,(l.length:Int),aB JF 2,(jG hok (by omega) Mb).mono fun ev W4 hh=>?_⟩;obtain⟨rfl,gs⟩:=hh;rw[Hi];have Mh:=h.evLen (k:=k) (i:=p);have oY4:=oY.kp (S:=fun _=>False) (Kp.of_none (aA gd gs)) (fun _ _ e=>e);have Ry:=h.blen13 hk.1 Hc;refine⟨_,rfl,gs,(sF oY4.row Km Lg (fun x hx=>h.bodyBy x hx) (by omega) (by omega)).mono fun ev W5 hh=>?_⟩;obtain⟨g5,LW⟩:=hh;have MG:=h.is hk.1 Hc;obtain⟨A7,n7,c7,A8,n8,c8,rfl,r7,Jp,r8,IJ,R6⟩:∃(A1:OA)(n1 c1:Nat)(A2:OA)(n2 c2:Nat),ev=.returned (.tuple #[.slice A1 n1 c1,.slice A2 n2 c2,.int .i64 0])/\aZ W5 A1 (edges (eW l k p))/\n1=(eW l k p).length/\aZ W5 A2 (cE (fC l k p))/\n2=(fC l k p).length/\(A2=none->c2=0):=by
      rcases LW with⟨A1,n1,c1,A2,n2,c2,key',l',rfl,⟨h1,h2,_⟩,⟨h3,h4,_,Pp⟩,h5,h6⟩ | ⟨rfl,Hm⟩
      · obtain⟨e1,e2⟩:=MG.uniq h6 (by omega) (by omega);have e3:=pD MG.ok.del h6.ok.del e2;subst e3;rw[← e1]at h1 h2;exact⟨_,_,_,_,_,_,rfl,h1,h2,h3,h4,Pp⟩
      · exact absurd MG (Hm _ _)
    have gW5:=aA gW3 (aA gs g5);have Ib:=aF hB gW5;have oW5:=oW.kp (S:=fun _=>False) (Kp.of_none gW5) (fun _ _ e=>e);have Jj:(l.take (p*k)).length<=49:=by rw[List.length_take];omega
    obtain⟨B',d',e',W6,r6,o6,g6,_⟩:=eh oW5 r8 IJ R6 (by omega) (Nat.le_trans zW gW5.size);rw[xX]at o6;have La:W6.heap[w3.heap.size]?=some (.cells #[.int .u64 N,.slice B d e] 25 (0,0)):=by
      rw[g6.block _ (Array.getElem?_eq_some_iff.1 Ib).1 (fun e=>by have:=(World.ownsRow.lt oW5 _ e.symm).1;omega)];exact Ib
    have k6:Kp w4 W6 (fun q=>q=w3.heap.size):=Kp.step (kW.then (Kp.of_none (S:=fun q=>q=w3.heap.size) gW5) fun q _ e=>e) g6 (fun q hq=>.inl (World.ownsRow.lt oW5 q hq).1);refine⟨_,_,_,_,_,_,_,rfl,aA gs g5,fun e=>absurd rfl e,fun _=>⟨B,d,e,aB Ib 1,B',d',e',W6,r6,⟨_,aB La 1⟩,aD La 1,by omega,m-(p+1),by omega,p+1,B',d',e',by omega,by omega,rfl,cH k6 rfl,aH La 1 _,?_⟩⟩;exact o6.kp (cH (S:=fun q=>q=w3.heap.size) (Kp.refl _ _) rfl) (fun q hq e=>by have:=(World.ownsRow.lt o6 q hq).1;omega)
  · have Jm:p=m:=by omega
    subst Jm;have FZ:l.take (p*k)=l:=List.take_of_length_le (by have:=oV (n:=l.length) (k:=k) hk.1;rw[hm];exact this);rw[FZ]at oW hd;refine⟨N,aB hB 0,B,d,e,aB hB 1,(k:Int),aB hH 1,(jI oW.row hd (eD oW) (bI oW) h hk).mono fun ev W1 hh=>?_⟩;obtain⟨C,cn,cc,rfl,oC,gC⟩:=hh;have Rm:cn=(fx N l k).length:=by have h':=oC.cases.1;unfold bY at h';rw[List.length_map]at h';omega
    have gW1:=aA gB gC;refine⟨_,_,_,_,rfl,fun e=>absurd rfl e,fun _=>(ij oC.row Rm (hr.kept_none gW1) hn (fun x hx=>ng x hx) (fun x hx=>ng x hx)).mono fun ev W2 hh=>?_⟩;obtain⟨rfl,rfl⟩:=hh;have gd:=aI (aC W2 none);obtain⟨W3,Nc⟩:∃ W3,W3=W2.drew:=⟨_,rfl⟩;have gW3:W.grownBy W3 none:=by rw[Nc];exact aA gC gd
    refine⟨_,rfl,fun e=>by simp at e,fun _=>?_⟩;rw[← Nc];have Mr:=aF hb gW3;have v1:=aH Mr 0 (.int .u64 N);have v2:=aH v1 1 (.slice B d e);have JF:=aF hH gW3;have LI:=aF hB gW3;have K3:Kp W3 ((W3.setCell ⟨w.heap.size,0,none⟩ (.int .u64 N)).setCell ⟨w.heap.size,1,none⟩ (.slice B d e)) (fun q=>q=w.heap.size):=cH (cH (Kp.refl _ _) rfl) rfl;have oW3:=(oW.kp (S:=fun _=>False) (Kp.of_none gW3) (fun _ _ e=>e)).kp K3 (fun q hq e=>by have:=(World.ownsRow.lt oW q hq).1;omega);have gF:=((Kp.of_none (S:=fun q=>w.heap.size<=q) (aA gB gW3)).then K3 fun q _ e=>by omega).grown fun q hq e=>by omega
    refine⟨fun X=>X.heap[w1.heap.size]?=some (.cells #[.int .u64 N,.int .i64 (k:Int),.int .i64 (l.length:Int)] 51 (0,0)),JF,N,aB LI 0,B,d,e,aB LI 1,(k:Int),fun X hX=>aB hX 1,⟨_,aB Mr 0⟩,aD Mr 0,⟨_,aB v1 1⟩,aD v1 1,?_,N,by rw[aB v2 0];rfl,B,d,e,by rw[aB v2 1];rfl,B,d,e,rfl,oW3.mono (by omega),gF⟩;exact tg (tg JF (by show w.heap.size≠_;omega) _) (by show w.heap.size≠_;omega) _
def Ae(N:Int)(l:List aS)(k:Int):Int:=if(dF N l).2≠0 then(dF N l).2 else if k<1∨1048576<k then 26 else 0
theorem ma{N:Int}{l:List aS}{k:Int}:Ae N l k=0↔(dF N l).2=0/\1<=k/\k<=1048576:=by
 unfold Ae;split
 ·omega
 ·split <;>omega
def Eb(N:Int)(l:List aS)(k:Int):Value:=if Ae N l k=0 then iT N k l.length else iT 0 0 0
theorem yA{w:World}{A:OA}{n c:Nat}{l:List aS}{N k:Int}(hr:aZ w A (cE l))(hn:n=l.length)(hl:n<=2^20)(hb:sN l):
    Calls P 31 #[.agg #[.int .u64 N,.slice A n c],.int .i64 k] w fun ev w'=>ev=.returned (.tuple #[Eb N l k,.int .i64 (Ae N l k)])/\w.grownBy w' none:=by
  by_cases h0:Ae N l k=0
  · have h1:=ma.1 h0;refine(uo hr hn hl hb h1.1 h1.2).mono fun ev w1 hh=>?_;obtain⟨rfl,g⟩:=hh;refine⟨?_,g⟩;unfold Eb;rw[if_pos h0,h0]
  have hV:Eb N l k=iT 0 0 0:=by unfold Eb;rw[if_neg h0]
  rw[hV];apply vc31;dsimp only[VC31,rt,Wt,Br,Rd,Rs,Ws,nb,iq];obtain⟨w1,FQ,g1,b1⟩:=fQ w #[.int .u64 N,.slice A n c] 25;rw[← FQ];obtain⟨w2,GP,g2,b2⟩:=fQ w1 #[.int .u64 0,.int .i64 0,.int .i64 0] 51;rw[← GP];have b1':=aF b1 g2;refine⟨N,aB b1' 0,A,n,c,aB b1' 1,(mr ((hr.kept_none g1).kept_none g2) hn hl hb).mono fun ev w3 hh=>?_⟩;obtain⟨rfl,g3⟩:=hh;have b2':=aF b2 g3;have s1:=aH b2' 0 (.int .u64 0);have s2:=aH s1 1 (.int .i64 0);have s3:=aH s2 2 (.int .i64 0);have gS:w1.grownBy (((w3.setCell ⟨w1.heap.size,0,none⟩ (.int .u64 0)).setCell ⟨w1.heap.size,1,none⟩ (.int .i64 0)).setCell ⟨w1.heap.size,2,none⟩ (.int .i64 0)) none:=(cH (cH (cH (Kp.of_none (S:=fun q=>w1.heap.size<=q) (aA g2 g3)) (Nat.le_refl _)) (Nat.le_refl _)) (Nat.le_refl _)).grown (fun q hq e=>by omega);have gE:=aA g1 gS;have e0:(dF N l).2=0->Ae N l k=if k<1∨1048576<k then 26 else 0:=fun h=>by unfold Ae;rw[if_neg (fun e=>e h)]
  refine⟨_,_,rfl,fun h=>⟨⟨_,aB b2' 0⟩,aD b2' 0,⟨_,aB s1 1⟩,aD s1 1,⟨_,aB s2 2⟩,aD s2 2,0,by rw[aB s3 0];rfl,0,by rw[aB s3 1];rfl,0,by rw[aB s3 2];rfl,?_,gE⟩,fun h=>⟨fun h2=>⟨⟨_,aB b2' 0⟩,aD b2' 0,⟨_,aB s1 1⟩,aD s1 1,⟨_,aB s2 2⟩,aD s2 2,0,by rw[aB s3 0];rfl,0,by rw[aB s3 1];rfl,0,by rw[aB s3 2];rfl,?_,gE⟩,fun h2=>⟨fun h3=>⟨⟨_,aB b2' 0⟩,aD b2' 0,⟨_,aB s1 1⟩,aD s1 1,⟨_,aB s2 2⟩,aD s2 2,0,by rw[aB s3 0];rfl,0,by rw[aB s3 1];rfl,0,by rw[aB s3 2];rfl,?_,gE⟩,fun h3=>?_⟩⟩⟩
  · unfold Ae;rw[if_pos h]
  · rw[e0 (by omega),if_pos (.inl h2)]
  · rw[e0 (by omega),if_pos (.inr (by omega))]
  · exact absurd (ma.2 ⟨by omega,by omega,by omega⟩) h0
theorem AO{w:World}{A:OA}{n c:Nat}{l:List aS}{N k:Int}(hr:aZ w A (cE l))(hn:n=l.length)(hl:n<=2^20)(hb:sN l)(he:Ae N l k≠0):
    Calls P 13 #[.agg #[.int .u64 N,.slice A n c],.int .i64 k] w fun ev w'=>ev=.returned (.tuple #[.slice none 0 0,.int .i64 (Ae N l k)])/\w.grownBy w' none:=by
  apply vc13;dsimp only[VC13,rt,Br,Rd,Rc,Rs,Ix,Ap,Ws,cI,cS,cT,nb,iq];obtain⟨w1,FQ,g1,b1⟩:=fQ w #[.int .u64 N,.slice A n c] 25;rw[← FQ];refine⟨N,aB b1 0,A,n,c,aB b1 1,(yA (hr.kept_none g1) hn hl hb).mono fun ev w2 hh=>?_⟩;obtain⟨rfl,g2⟩:=hh;have hV:Eb N l k=iT 0 0 0:=by unfold Eb;rw[if_neg he]
  rw[hV];have ga:=World.grownBy_alloc w2 (.cells #[.int .u64 0,.int .i64 0,.int .i64 0] 51) none;have s0:=heap_alloc_new w2 (.cells #[.int .u64 0,.int .i64 0,.int .i64 0] 51);have s1:=aH s0 0 (.int .u64 0);have s2:=aH s1 1 (.int .i64 0);have g3:w2.grownBy ((((w2.alloc (.cells #[.int .u64 0,.int .i64 0,.int .i64 0] 51)).setCell ⟨w2.heap.size,0,none⟩ (.int .u64 0)).setCell ⟨w2.heap.size,1,none⟩ (.int .i64 0)).setCell ⟨w2.heap.size,2,none⟩ (.int .i64 0)) none:=(cH (cH (cH (Kp.of_none (S:=fun q=>w2.heap.size<=q) ga) (Nat.le_refl _)) (Nat.le_refl _)) (Nat.le_refl _)).grown (fun q hq e=>by omega);exact⟨_,_,_,_,rfl,⟨_,aB s0 0⟩,aD s0 0,⟨_,aB s1 1⟩,aD s1 1,⟨_,aB s2 2⟩,aD s2 2,fun _=>⟨rfl,aA g1 (aA g2 g3)⟩,fun h=>absurd he h⟩
theorem xw{w:World}{N K C:Int}{i:Int}(h:dJ N K C)(hi:i<0∨(C+K-1) / K<=i):Calls P 34 #[iT N K C,.int .i64 i] w fun ev w'=>ev=.returned (.int .i64 0)/\w.grownBy w' none:=by
 apply vc34;dsimp only[VC34,Br,Rd,cI,nb,iq]
 try simp only[aG,mnI]
 obtain⟨w1,FQ,g1,b1⟩:=fQ w #[.int .u64 N,.int .i64 K,.int .i64 C] 51;rw[← FQ];refine⟨fun h'=>⟨by trivial,g1⟩,fun h'=>⟨N,aB b1 0,K,aB b1 1,C,aB b1 2,(jg h).mono fun ev w2 hh=>?_⟩⟩;obtain⟨rfl,g2⟩:=hh;exact⟨_,rfl,fun _=>⟨by trivial,aA g1 g2⟩,fun h2=>absurd (hi.resolve_left h') (by omega)⟩
def nW(N:Int)(l:List aS)(k i:Int):List Edge:=if Ae N l k=0/\0<=i/\i<((l.length:Int)+k-1) / k then gG N l (i*k) else []
theorem Ct{N k:Int}{l:List aS}(hN:0<=N)(hl:l.length<=2^20)(h:Ae N l k=0):dJ N k l.length:=by
 have h1:=ma.1 h;have h2:=nU.1 h1.1;unfold dJ;omega
theorem yK {w:World} {A:OA} {n c:Nat} {l:List aS} {N k i:Int} (hr:aZ w A (cE l)) (hn:n=l.length) (hc:n<=c) (hA:A=none->c=0) (hN:0<=N) (hl:n<50) (hb:sN l) :
    Calls P 16 #[.agg #[.int .u64 N,.slice A n c],.int .i64 k,.int .i64 i] w fun ev w'=>∃(B:OA)(m d:Nat),ev=.returned (.slice B m d)/\aE w' w.heap.size 45 2 B m d (edges (nW N l k i))/\w.grownBy w' none:=by
  apply vc16;dsimp only[VC16,Br,Rd,Rs,Ws,cI,cT,nb,iq]
  try simp only[aG]
  obtain⟨w1,FQ,g1,b1⟩:=fQ w #[.int .u64 N,.slice A n c] 25;rw[← FQ];refine⟨N,aB b1 0,A,n,c,aB b1 1,(yA (hr.kept_none g1) hn (by omega) hb).mono fun ev w2 hh=>?_⟩;obtain⟨rfl,g2⟩:=hh;by_cases he:Ae N l k=0
  · have hV:Eb N l k=iT N k l.length:=by unfold Eb;rw[if_pos he]
    rw[hV];have hok:=Ct hN (by omega) he;have L7:=ma.1 he;have ga:=World.grownBy_alloc w2 (.cells #[.int .u64 0,.int .i64 0,.int .i64 0] 51) none;have s0:=heap_alloc_new w2 (.cells #[.int .u64 0,.int .i64 0,.int .i64 0] 51);have s1:=aH s0 0 (.int .u64 N);have s2:=aH s1 1 (.int .i64 k);have s3:=aH s2 2 (.int .i64 (l.length:Int));have g3:w2.grownBy ((((w2.alloc (.cells #[.int .u64 0,.int .i64 0,.int .i64 0] 51)).setCell ⟨w2.heap.size,0,none⟩ (.int .u64 N)).setCell ⟨w2.heap.size,1,none⟩ (.int .i64 k)).setCell ⟨w2.heap.size,2,none⟩ (.int .i64 (l.length:Int))) none:=(cH (cH (cH (Kp.of_none (S:=fun q=>w2.heap.size<=q) ga) (Nat.le_refl _)) (Nat.le_refl _)) (Nat.le_refl _)).grown (fun q hq e=>by omega);refine⟨_,_,_,_,rfl,⟨_,aB s0 0⟩,aD s0 0,⟨_,aB s1 1⟩,aD s1 1,⟨_,aB s2 2⟩,aD s2 2,fun h=>absurd he h,fun _=>?_⟩;obtain⟨w3,Gr⟩:∃ w3,w3=(((w2.alloc (.cells #[.int .u64 0,.int .i64 0,.int .i64 0] 51)).setCell ⟨w2.heap.size,0,none⟩ (.int .u64 N)).setCell ⟨w2.heap.size,1,none⟩ (.int .i64 k)).setCell ⟨w2.heap.size,2,none⟩ (.int .i64 (l.length:Int)):=⟨_,rfl⟩;rw[← Gr]at s3 g3 ⊢;have F9:=aA g1 (aA g2 g3);by_cases hi:0<=i/\i<((l.length:Int)+k-1) / k
    · have h3:i*k<=(l.length:Int)-1:=by
        have:i+1<=((l.length:Int)+k-1) / k:=by omega
        have:=(Int.le_ediv_iff_mul_le (by omega)).1 this;rw[Int.add_mul,Int.one_mul]at this;omega
      have h4:0<=i*k:=Int.mul_nonneg hi.1 (by omega);have KG:nW N l k i=gG N l (i*k):=by unfold nW;rw[if_pos ⟨he,hi⟩]
      rw[KG];refine⟨N,by rw[aB s3 0];rfl,k,by rw[aB s3 1];rfl,(l.length:Int),by rw[aB s3 2];rfl,(jG hok hi.1 hi.2).mono fun ev w4 hh=>?_⟩;obtain⟨rfl,g4⟩:=hh;have b4:=aF b1 (aA g2 (aA g3 g4));refine⟨_,rfl,fun h=>absurd h (by omega),fun _=>⟨N,aB b4 0,A,n,c,aB b4 1,by omega,(pR ((hr.kept_none F9).kept_none g4) hn hc hA hl hb).mono fun ev w5 hh=>?_⟩⟩;obtain⟨B,m,d,rfl,o5,g5⟩:=hh;exact⟨_,_,_,_,rfl,B,m,d,rfl,o5.mono (aA F9 g4).size,aA F9 (aA g4 g5)⟩
    · have KG:nW N l k i=[]:=by unfold nW;rw[if_neg fun h=>hi h.2]
      rw[KG];refine⟨N,by rw[aB s3 0];rfl,k,by rw[aB s3 1];rfl,(l.length:Int),by rw[aB s3 2];rfl,(xw hok (by omega)).mono fun ev w4 hh=>?_⟩;obtain⟨rfl,g4⟩:=hh;exact⟨_,rfl,fun _=>⟨none,0,0,rfl,aE.nil _ _ _ _,aA F9 g4⟩,fun h=>absurd rfl h⟩
  · have hV:Eb N l k=iT 0 0 0:=by unfold Eb;rw[if_neg he]
    have KG:nW N l k i=[]:=by unfold nW;rw[if_neg fun h=>he h.1]
    rw[hV,KG];have ga:=World.grownBy_alloc w2 (.cells #[.int .u64 0,.int .i64 0,.int .i64 0] 51) none;have s0:=heap_alloc_new w2 (.cells #[.int .u64 0,.int .i64 0,.int .i64 0] 51);have s1:=aH s0 0 (.int .u64 0);have s2:=aH s1 1 (.int .i64 0);have g3:w2.grownBy ((((w2.alloc (.cells #[.int .u64 0,.int .i64 0,.int .i64 0] 51)).setCell ⟨w2.heap.size,0,none⟩ (.int .u64 0)).setCell ⟨w2.heap.size,1,none⟩ (.int .i64 0)).setCell ⟨w2.heap.size,2,none⟩ (.int .i64 0)) none:=(cH (cH (cH (Kp.of_none (S:=fun q=>w2.heap.size<=q) ga) (Nat.le_refl _)) (Nat.le_refl _)) (Nat.le_refl _)).grown (fun q hq e=>by omega);exact⟨_,_,_,_,rfl,⟨_,aB s0 0⟩,aD s0 0,⟨_,aB s1 1⟩,aD s1 1,⟨_,aB s2 2⟩,aD s2 2,fun _=>⟨none,0,0,rfl,aE.nil _ _ _ _,aA g1 (aA g2 g3)⟩,fun h=>absurd he h⟩
end Go.Proofs.YtlieaecnllkefaaGreat

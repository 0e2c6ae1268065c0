/- Own texts, packed: W10, W11, W12, W13, W14. -/
import Derived.Test.YtlieaecnllkefaaGreatGWBg
namespace Go.Proofs.YtlieaecnllkefaaGreat
open Go Go.V Go.RowKit
set_option linter.unusedVariables false
set_option linter.unusedSimpArgs false
set_option maxHeartbeats 8000000
set_option maxRecDepth 100000
theorem qhw(p:Nat):(2:Int)^(8*p)=256^p:=by rw[Int.pow_mul];rfl
theorem qn0(x:Int):ud [x]=x:=by simp[ud]
theorem qk6{l:List Int}{p:Nat}(hl:l.length<=8)(hb:By l)(hp:p<l.length):(0<=l[p]*2^(min (Int.toNat (8*(p:Int))) 64)/\l[p]*2^(min (Int.toNat (8*(p:Int))) 64)<=18446744073709551615)/\bop .or .u64 (ud (l.take p)) (l[p]*2^(min (Int.toNat (8*(p:Int))) 64))=ud (l.take (p+1)):=by
 have e1:min (Int.toNat (8*(p:Int))) 64=8*p:=by omega
 rw[e1]
 have hx:=hb _ (List.getElem_mem hp)
 have h1:=qlu (hb.take p)
 have htl:(l.take p).length=p:=by rw[List.length_take];omega
 rw[htl]at h1
 have h2:ud (l.take (p+1))=ud (l.take p)+256^p*l[p]:=by rw[List.take_succ_eq_append_getElem hp,qgf,htl,qn0]
 have hp8:p=0∨p=1∨p=2∨p=3∨p=4∨p=5∨p=6∨p=7:=by omega
 have h3:0<=l[p]*256^p/\ud (l.take p)+l[p]*256^p<18446744073709551616:=by
  refine⟨Int.mul_nonneg hx.1 (Int.le_of_lt (qs p)),?_⟩
  clear h2 htl e1
  rcases hp8 with rfl | rfl | rfl | rfl | rfl | rfl | rfl | rfl <;>omega
 have h4:=qge (x:=ud (l.take p)) (c:=l[p]) (j:=8*p) h1.1 (by rw[qhw];exact h1.2) hx.1 (by rw[qhw];exact h3.2)
 refine⟨by rw[qhw];omega,?_⟩
 rw[h4,h2,qhw,Int.mul_comm]
theorem sq{w:World}{A:Option Addr}{n c:Nat}{l:List Int}(hr:Row w A (u8s l))(hn:n=l.length)(hl:l.length<=8)(hb:By l):Calls P 84 #[.slice A n c] w fun ev w'=>ev=.returned (.int .u64 (ud l))/\w'=w:=by
 apply vc84;dsimp only[VC84,Wt,Br,Bb,Rd,Rc,Rs,Ix,rI_,rB_,rS_]
 try simp only[InK]
 refine⟨fun m v i W=>∃ p:Nat,i=(p:Int)/\p<=l.length/\m=l.length-p/\v=ud (l.take p)/\W=w,⟨_,0,rfl,by omega,rfl,rfl,rfl⟩,?_⟩
 rintro m v i W ⟨p,rfl,hp,rfl,rfl,rfl⟩
 have tp:(p:Int).toNat=p:=by omega
 refine⟨fun hlt=>?_,fun hge=>?_⟩
 ·have lp:p<l.length:=by omega
  obtain⟨a,e1,e2⟩:=hr p (.int .u8 l[p]) (by rw[List.getElem?_map,List.getElem?_eq_getElem lp];rfl)
  have hx:=hb _ (List.getElem_mem lp)
  obtain⟨q1,q2⟩:=qk6 hl hb lp
  refine⟨a,e1,by omega,by omega,l[p],by rw[tp];exact e2,by omega,by omega,⟨by omega,q1⟩,by omega,l.length-(p+1),by omega,p+1,by omega,by omega,rfl,q2,rfl⟩
 ·have:p=l.length:=by omega
  subst this
  rw[List.take_length];exact⟨rfl,rfl⟩
theorem sl{w:World}{A:Option Addr}{n c:Nat}{l:List Int}(hr:Row w A (u8s l))(hn:n=l.length)(hl:l.length<=8)(hb:By l):Calls P 85 #[.slice A n c] w fun ev w'=>ev=.returned (.int .u64 (ud l))/\w'=w:=by
 apply vc85;dsimp only[VC85,Wt,Br,Bb,Rd,Rc,Rs,Ix,rI_,rB_,rS_]
 try simp only[InK]
 refine⟨fun m v i W=>∃ p:Nat,i=(p:Int)/\p<=l.length/\m=l.length-p/\v=ud (l.take p)/\W=w,⟨_,0,rfl,by omega,rfl,rfl,rfl⟩,?_⟩
 rintro m v i W ⟨p,rfl,hp,rfl,rfl,rfl⟩
 have tp:(p:Int).toNat=p:=by omega
 refine⟨fun hlt=>?_,fun hge=>?_⟩
 ·have lp:p<l.length:=by omega
  obtain⟨a,e1,e2⟩:=hr p (.int .u8 l[p]) (by rw[List.getElem?_map,List.getElem?_eq_getElem lp];rfl)
  have hx:=hb _ (List.getElem_mem lp)
  obtain⟨q1,q2⟩:=qk6 hl hb lp
  refine⟨a,e1,by omega,by omega,l[p],by rw[tp];exact e2,by omega,by omega,⟨by omega,q1⟩,by omega,l.length-(p+1),by omega,p+1,by omega,by omega,rfl,q2,rfl⟩
 ·have:p=l.length:=by omega
  subst this
  rw[List.take_length];exact⟨rfl,rfl⟩
theorem fy{w:World}{A:Option Addr}{l:List Int}(h:Row w A (u8s l))(k:Nat):Row w A (u8s (l.take k)):=by
 intro j u hj
 rw[List.getElem?_map,List.getElem?_take]at hj
 split at hj
 ·exact h j u (by rw[List.getElem?_map];exact hj)
 ·simp at hj
theorem qdi{w:World}{A:Option Addr}{n c:Nat}{x r:List Int}{N K C:Int}(hr:Row w A (u8s x))(hn:n=x.length)(hc:n<=c)(hb:By x)(hx:x=ng N K C++r)(hN:0<=N)(hok:ez N K C):
    Calls P 45 #[.slice A n c] w fun ev w'=>ev=.returned (.tuple #[su N K C,.int .i64 0])/\w.grownBy w' none:=by
  apply vc45;dsimp only[VC45,Wt,Br,Bb,Rd,Rc,Rs,Ix,rI_,rB_,rS_]
  try simp only[InK]
  have hk:=hok
  unfold ez at hk
  have hlen:24<=x.length:=by rw[hx,List.length_append,jk];omega
  have e4:x.take 4=[84,71,88,49]:=by rw[hx];exact qgq _ _ _ _
  have e24:x.take 24=ng N K C:=by rw[hx];exact List.take_left' (jk _ _ _)
  have eN:(x.drop 4).take 8=ii N 8:=by rw[hx];exact qgr _ _ _ _
  have eK:(x.drop 12).take 4=ii K 4:=by rw[hx];exact qgs _ _ _ _
  have eC:(x.drop 16).take 4=ii C 4:=by rw[hx];exact qgt _ _ _ _
  have gA:=World.grownBy_alloc w (.cells #[.int .u64 0,.int .i64 0,.int .i64 0] 51) none
  have bA:=heap_alloc_new w (.cells #[.int .u64 0,.int .i64 0,.int .i64 0] 51)
  refine⟨fun h=>absurd h (by omega),fun _=>⟨⟨by omega,by omega⟩,qa8 (x.take 4),du (fy (hr.kept_none gA) 4) (by rw[e4];rfl),_,fun w=>qhr _ _ _ _ w,fun h=>?_,fun _=>⟨⟨by omega,by omega⟩,?_⟩⟩⟩
  · rw[e4]at h;exact absurd h (by decide)
  refine(qby (fy (hr.kept_none gA) 24) (by rw[e24,jk]) (by omega) (by rw[e24];exact qii _ _ _) (by rw[e24,jk];omega) (by rw[e24];exact(se _).1)).mono fun ev w1 hh=>?_
  obtain⟨A1,n1,c1,rfl,o1,g1⟩:=hh
  have b1:=ai bA g1
  have g01:=ab gA g1
  refine⟨_,_,_,_,rfl,fun h=>(by cases h),fun _=>?_⟩
  -- the numbers
  have gd:=aj (af w1 none)
  obtain⟨W0,hW0⟩:∃ W0,W0=w1.drew:=⟨_,rfl⟩
  rw[← hW0]at gd ⊢
  have g0:=ab g01 gd
  have b0:=ai b1 gd
  have rN:∀ W,w.grownBy W none->Row W (dz A c 4 1) (u8s (ii N 8)):=fun W hW=>by rw[← eN];exact fy (qkc (hr.kept_none hW) (by omega)) 8
  have rK:∀ W,w.grownBy W none->Row W (dz A c 12 1) (u8s (ii K 4)):=fun W hW=>by rw[← eK];exact fy (qkc (hr.kept_none hW) (by omega)) 4
  have rC:∀ W,w.grownBy W none->Row W (dz A c 16 1) (u8s (ii C 4)):=fun W hW=>by rw[← eC];exact fy (qkc (hr.kept_none hW) (by omega)) 4
  have tN:∀ W,w.grownBy W none->∀ {R:Ending->World->Prop},R (.returned (.int .u64 N)) W->Calls P 84 #[.slice (dz A c 4 1) (12-4) (c-4)] W R:=fun W hW R hR=>(sq (rN W hW) (by rw[bj]) (by rw[bj];omega) (By.fix _ _)).mono fun ev w' hh=>by
    obtain⟨rfl,rfl⟩:=hh
    rw[j4 8 hN (by omega)];exact hR
  have tK:∀ W,w.grownBy W none->∀ {R:Ending->World->Prop},R (.returned (.int .u64 K)) W->Calls P 84 #[.slice (dz A c 12 1) (16-12) (c-12)] W R:=fun W hW R hR=>(sq (rK W hW) (by rw[bj]) (by rw[bj];omega) (By.fix _ _)).mono fun ev w' hh=>by
    obtain⟨rfl,rfl⟩:=hh
    rw[j4 4 (by omega) (by omega)];exact hR
  have tC:∀ W,w.grownBy W none->∀ {R:Ending->World->Prop},R (.returned (.int .u64 C)) W->Calls P 84 #[.slice (dz A c 16 1) (20-16) (c-16)] W R:=fun W hW R hR=>(sq (rC W hW) (by rw[bj]) (by rw[bj];omega) (By.fix _ _)).mono fun ev w' hh=>by
    obtain⟨rfl,rfl⟩:=hh
    rw[j4 4 (by omega) (by omega)];exact hR
  have z1:(0:Int)<=12/\(12:Int)<=(c:Int)/\(0:Int)<=4/\(4:Int)<=12:=by omega
  have z2:(0:Int)<=16/\(16:Int)<=(c:Int)/\(0:Int)<=12/\(12:Int)<=16:=by omega
  have z3:(0:Int)<=20/\(20:Int)<=(c:Int)/\(0:Int)<=16/\(16:Int)<=20:=by omega
  have iK:-9223372036854775808<=K/\K<=9223372036854775807:=by omega
  have iC:-9223372036854775808<=C/\C<=9223372036854775807:=by omega
  have gN:=World.grownBy_alloc W0 (.cells #[.int .u64 0,.int .i64 0,.int .i64 0] 51) none
  have s0:=heap_alloc_new W0 (.cells #[.int .u64 0,.int .i64 0,.int .i64 0] 51)
  have s1:=ah s0 0 (.int .u64 N)
  have s2:=ah s1 1 (.int .i64 K)
  have s3:=ah s2 2 (.int .i64 C)
  have gS:W0.grownBy ((((W0.alloc (.cells #[.int .u64 0,.int .i64 0,.int .i64 0] 51)).setCell ⟨W0.heap.size,0,none⟩ (.int .u64 N)).setCell ⟨W0.heap.size,1,none⟩ (.int .i64 K)).setCell ⟨W0.heap.size,2,none⟩ (.int .i64 C)) none:=(iy (iy (iy (Kp.of_none (S:=fun q=>W0.heap.size<=q) gN) (Nat.le_refl _)) (Nat.le_refl _)) (Nat.le_refl _)).grown (fun q hq e=>by omega)
  have gNw:=ab g0 gN
  refine⟨fun a W=>∃ b:Nat,a=⟨b,0,none⟩/\W.heap[b]?=some (.cells #[.int .u64 N,.int .i64 K,.int .i64 C] 51 (0,0))/\W0.grownBy W none,?_,?_⟩
  · refine⟨⟨⟨⟨z1,tN W0 g0 ⟨_,rfl,z2,tK W0 g0 ⟨_,rfl,iK,z3,tC W0 g0 ⟨_,rfl,iC,⟨_,aa s0 0⟩,ae s0 0,⟨_,aa s1 1⟩,ae s1 1,⟨_,aa s2 2⟩,ae s2 2,_,rfl,s3,gS⟩⟩⟩⟩,⟨z1,tN W0 g0 ⟨_,rfl,z2,tK W0 g0 ⟨_,rfl,iK,z3,tC _ gNw ⟨_,rfl,iC,⟨_,aa s0 0⟩,ae s0 0,⟨_,aa s1 1⟩,ae s1 1,⟨_,aa s2 2⟩,ae s2 2,_,rfl,s3,gS⟩⟩⟩⟩⟩,⟨z1,tN W0 g0 ⟨_,rfl,z2,z3,tK _ gNw ⟨_,rfl,iK,tC _ gNw ⟨_,rfl,iC,⟨_,aa s0 0⟩,ae s0 0,⟨_,aa s1 1⟩,ae s1 1,⟨_,aa s2 2⟩,ae s2 2,_,rfl,s3,gS⟩⟩⟩⟩⟩,⟨z1,z2,z3,tN _ gNw ⟨_,rfl,tK _ gNw ⟨_,rfl,iK,tC _ gNw ⟨_,rfl,iC,⟨_,aa s0 0⟩,ae s0 0,⟨_,aa s1 1⟩,ae s1 1,⟨_,aa s2 2⟩,ae s2 2,_,rfl,s3,gS⟩⟩⟩⟩⟩
  · rintro a W ⟨b,rfl,hB,gW⟩
    refine⟨N,by simpa using aa hB 0,K,by rw[tx];exact aa hB 1,C,by rw[tx];exact aa hB 2,po.mono fun ev W2 hh=>?_⟩
    obtain⟨rfl,g2⟩:=hh
    have hB2:=ai hB g2
    have bR:=ai (ai b0 gW) g2
    have t1:=ah bR 0 (.int .u64 N)
    have t2:=ah t1 1 (.int .i64 K)
    have t3:=ah t2 2 (.int .i64 C)
    have gF:w.grownBy (((W2.setCell ⟨w.heap.size,0,none⟩ (.int .u64 N)).setCell ⟨w.heap.size,1,none⟩ (.int .i64 K)).setCell ⟨w.heap.size,2,none⟩ (.int .i64 C)) none:=(iy (iy (iy (Kp.of_none (S:=fun q=>w.heap.size<=q) (ab g0 (ab gW g2))) (Nat.le_refl _)) (Nat.le_refl _)) (Nat.le_refl _)).grown (fun q hq e=>by omega)
    exact⟨_,rfl,fun h=>absurd hok (of_decide_eq_false h),fun _=>⟨N,by simpa using aa hB2 0,K,by rw[tx];exact aa hB2 1,C,by rw[tx];exact aa hB2 2,⟨_,aa bR 0⟩,ae bR 0,⟨_,aa t1 1⟩,ae t1 1,⟨_,aa t2 2⟩,ae t2 2,N,by rw[aa t3 0];rfl,K,by rw[aa t3 1];rfl,C,by rw[aa t3 2];rfl,rfl,gF⟩⟩
theorem qjc(l:List ly):(wg l).drop (16*l.length)=[88,71,84,49]:=by unfold wg;exact List.drop_left' (ks l)
theorem qjb(l:List ly):(wg l).take (16*l.length)=l.flatMap um:=by unfold wg;exact List.take_left' (ks l)
theorem qgm {w:World} {A:Option Addr} {n c:Nat} {x pre:List Int} {rows:List ly} {N K C:Int} (hr:Row w A (u8s x)) (hn:n=x.length) (hc:n<=c) (hb:By x) (hxl:x.length<=2^30) (hx:x=pre++oq rows) (hpre:(pre.length:Int)=24+de rows) (hok:ez N K C) (hblk:(C+K-1) / K=(rows.length:Int)) (hrok:rowsOk rows=true) (hN:∀ r∈rows,qni r) :
    Calls P 46 #[.slice A n c,su N K C] w fun ev w'=>∃(A':Option Addr)(n' c':Nat),ev=.returned (.tuple #[.slice A' n' c',.int .i64 0])/\am w' w.heap.size 60 3 A' n' c' (iz rows)/\w.grownBy w' none:=by
  apply vc46;dsimp only[VC46,Wt,Br,Bb,Rd,Rc,Rs,Ix,rI_,rB_,rS_]
  try simp only[InK]
  have g1:=World.grownBy_alloc w (.cells #[.int .u64 N,.int .i64 K,.int .i64 C] 51) none
  have b1:(w.alloc (.cells #[.int .u64 N,.int .i64 K,.int .i64 C] 51)).heap[w.heap.size]?=some (.cells #[.int .u64 N,.int .i64 K,.int .i64 C] 51 (0,0)):=heap_alloc_new w _
  obtain⟨w1,hw_w1⟩:∃ w1,w1=w.alloc (.cells #[.int .u64 N,.int .i64 K,.int .i64 C] 51):=⟨_,rfl⟩
  rw[← hw_w1]at g1 b1 ⊢
  refine⟨N,aa b1 0,K,aa b1 1,C,aa b1 2,(j6 hok).mono fun ev w2 hh=>?_⟩
  obtain⟨rfl,g2⟩:=hh
  rw[hblk]
  have hlen:x.length=pre.length+(16*rows.length+8):=by rw[hx,List.length_append,om]
  have hm0:rows.length<=2^30:=by omega
  have hpos:0<=de rows:=by
    have:=qu (l:=rows) fun r hr=>(hN r hr).len.1
    omega
  have g12:=ab g1 g2
  have tcut:((n:Int)-((rows.length:Int)*16+8)).toNat=pre.length:=by omega
  have rX:Row w2 (dz A c pre.length 1) (u8s (oq rows)):=by
    have:=qkc (k:=pre.length) (hr.kept_none g12) (show x.length<=c by omega)
    rw[hx,List.drop_left' rfl]at this;exact this
  refine⟨_,rfl,by omega,by omega,by omega,fun h=>absurd h (by omega),fun _=>⟨by omega,⟨by omega,by omega⟩,?_⟩⟩
  rw[tcut]
  refine(qby rX (by rw[om];omega) (by omega) (qht _) (by rw[om];omega) (se _).1).mono fun ev w3 hh=>?_
  obtain⟨A3,n3,c3,rfl,o3,g3⟩:=hh
  have e3:(oq rows).take ((oq rows).length-4)=wg rows:=(se _).2
  rw[e3]at o3
  have hn3:n3=16*rows.length+4:=by have h':=o3.cases.1;unfold u8s at h';rw[List.length_map,uk]at h';omega
  have hc3:=fm o3
  have g03:=ab g12 g3
  have z03:=g03.size
  have t3:((n3:Int)-4).toNat=16*rows.length:=by omega
  have rM:Row w3 (dz A3 c3 (16*rows.length) 1) (u8s [88,71,84,49]):=by
    have:=qkc (c:=c3) (k:=16*rows.length) o3.row (by rw[uk];omega)
    rw[qjc]at this;exact this
  have hnm:n3-16*rows.length=4:=by omega
  have hconv:=du (n:=n3-16*rows.length) (c:=c3-16*rows.length) rM hnm
  refine⟨A3,n3,c3,true,rfl,fun h=>(by cases h),fun _=>⟨by omega,⟨by omega,by omega⟩,_,by rw[t3];exact hconv,_,fun w=>qhr _ _ _ _ w,fun h=>absurd h (by decide),fun _=>⟨by omega,by omega,⟨by omega,by omega⟩,?_⟩⟩⟩
  rw[t3]
  have hleft:(n:Int)-24-((rows.length:Int)*16+8)=de rows:=by omega
  rw[hleft]
  have rB:Row w3 A3 (u8s (rows.flatMap um)):=by rw[← qjb];exact fy o3.row _
  refine⟨fun q B d e left R s t W=>∃ p:Nat,p<=rows.length/\q=rows.length-p/\am W w3.heap.size 60 3 B d e (iz (rows.take p))/\left=de (rows.drop p)/\Row w3 R (u8s ((rows.drop p).flatMap um))/\s=16*(rows.length-p)/\s<=t/\w3.grownBy W none,⟨_,0,by omega,rfl,am.nil _ _ _ _,rfl,rB,by omega,by omega,af _ _⟩,?_⟩
  rintro q B d e left R s t W ⟨p,hp,rfl,oW,rfl,rW3,rfl,hst,gW⟩
  have rW:=rW3.kept_none gW
  have gWw:=ab g03 gW
  have zW:=gW.size
  have hd:d=p:=by have h':=oW.cases.1;rw[gm,List.length_take]at h';omega
  refine⟨fun hlt=>?_,fun hge=>?_⟩
  · have lp:p<rows.length:=by omega
    have hdp:rows.drop p=rows[p] ::rows.drop (p+1):=List.drop_eq_getElem_cons lp
    obtain⟨r,hrr⟩:∃ r,r=rows[p]:=⟨_,rfl⟩
    rw[← hrr]at hdp
    have hRN:qni r:=by rw[hrr];exact hN _ (List.getElem_mem lp)
    rw[hdp,List.flatMap_cons]at rW rW3
    obtain⟨f1,f2,f3⟩:=zw hRN ((rows.drop (p+1)).flatMap um)
    obtain⟨q1,q2,q3⟩:=hRN
    obtain⟨y,hy⟩:∃ y,y=um r++(rows.drop (p+1)).flatMap um:=⟨_,rfl⟩
    have hyl:y.length=16*(rows.length-p):=by rw[hy,List.length_append,qc3,ks,List.length_drop];omega
    have hyb:By y:=by rw[hy];exact(qlk r).append (qik _)
    have hy16:y.drop 16=(rows.drop (p+1)).flatMap um:=by rw[hy];exact List.drop_left' (qc3 r)
    rw[← hy]at rW rW3 f1 f2 f3
    have gd:=aj (af W none)
    obtain⟨W0,hW0⟩:∃ W0,W0=W.drew:=⟨_,rfl⟩
    rw[← hW0]at gd ⊢
    have t1:∀ X,W.grownBy X none->∀ {Q:Ending->World->Prop},Q (.returned (.int .u64 r.len)) X->Calls P 85 #[.slice R 4 t] X Q:=fun X hX Q hQ=>(sl (fy (rW.kept_none hX) 4) (by rw[List.length_take];omega) (by rw[List.length_take];omega) (hyb.take _)).mono fun ev w' hh=>by
      obtain⟨rfl,rfl⟩:=hh
      rw[f1];exact hQ
    have t2:∀ X,W.grownBy X none->∀ {Q:Ending->World->Prop},Q (.returned (.int .u64 r.first)) X->Calls P 85 #[.slice (dz R t 4 1) (12-4) (t-4)] X Q:=fun X hX Q hQ=>(sl (fy (qkc (k:=4) (rW.kept_none hX) (by omega)) 8) (by rw[List.length_take,List.length_drop];omega) (by rw[List.length_take];omega) ((hyb.drop _).take _)).mono fun ev w' hh=>by
      obtain⟨rfl,rfl⟩:=hh
      rw[f2];exact hQ
    have t3':∀ X,W.grownBy X none->∀ {Q:Ending->World->Prop},Q (.returned (.int .u64 r.sum)) X->Calls P 85 #[.slice (dz R t 12 1) (16-12) (t-12)] X Q:=fun X hX Q hQ=>(sl (fy (qkc (k:=12) (rW.kept_none hX) (by omega)) 4) (by rw[List.length_take,List.length_drop];omega) (by rw[List.length_take];omega) ((hyb.drop _).take _)).mono fun ev w' hh=>by
      obtain⟨rfl,rfl⟩:=hh
      rw[f3];exact hQ
    have z0:(0:Int)<=4/\(4:Int)<=(t:Int):=by omega
    have z1:(0:Int)<=12/\(12:Int)<=(t:Int)/\(0:Int)<=4/\(4:Int)<=12:=by omega
    have z2:(0:Int)<=16/\(16:Int)<=(t:Int)/\(0:Int)<=12/\(12:Int)<=16:=by omega
    have i1:-9223372036854775808<=r.len/\r.len<=9223372036854775807:=by omega
    have i2:-9223372036854775808<=r.first/\r.first<=9223372036854775807:=by omega
    have i3:0<=r.sum/\r.sum<=4294967295:=q3
    have gN:=World.grownBy_alloc W0 (.cells #[.int .i64 0,.int .i64 0,.int .u32 0] 60) none
    have s0:=heap_alloc_new W0 (.cells #[.int .i64 0,.int .i64 0,.int .u32 0] 60)
    have s1:=ah s0 0 (.int .i64 r.len)
    have s2:=ah s1 1 (.int .i64 r.first)
    have s3:=ah s2 2 (.int .u32 r.sum)
    have gS:W0.grownBy ((((W0.alloc (.cells #[.int .i64 0,.int .i64 0,.int .u32 0] 60)).setCell ⟨W0.heap.size,0,none⟩ (.int .i64 r.len)).setCell ⟨W0.heap.size,1,none⟩ (.int .i64 r.first)).setCell ⟨W0.heap.size,2,none⟩ (.int .u32 r.sum)) none:=(iy (iy (iy (Kp.of_none (S:=fun q=>W0.heap.size<=q) gN) (Nat.le_refl _)) (Nat.le_refl _)) (Nat.le_refl _)).grown (fun q hq e=>by omega)
    have gNw:=ab gd gN
    have zd:=gd.size
    refine⟨fun a X=>∃ b:Nat,a=⟨b,0,none⟩/\W.heap.size<=b/\X.heap[b]?=some (.cells #[.int .i64 r.len,.int .i64 r.first,.int .u32 r.sum] 60 (0,0))/\W.grownBy X none,?_,?_⟩
    · exact⟨⟨⟨⟨z0,t1 W0 gd ⟨_,rfl,i1,z1,t2 W0 gd ⟨_,rfl,i2,z2,t3' W0 gd ⟨_,rfl,i3,⟨_,aa s0 0⟩,ae s0 0,⟨_,aa s1 1⟩,ae s1 1,⟨_,aa s2 2⟩,ae s2 2,_,rfl,zd,s3,ab gd gS⟩⟩⟩⟩,⟨z0,t1 W0 gd ⟨_,rfl,i1,z1,t2 W0 gd ⟨_,rfl,i2,z2,t3' _ gNw ⟨_,rfl,i3,⟨_,aa s0 0⟩,ae s0 0,⟨_,aa s1 1⟩,ae s1 1,⟨_,aa s2 2⟩,ae s2 2,_,rfl,zd,s3,ab gd gS⟩⟩⟩⟩⟩,⟨z0,t1 W0 gd ⟨_,rfl,i1,z1,z2,t2 _ gNw ⟨_,rfl,i2,t3' _ gNw ⟨_,rfl,i3,⟨_,aa s0 0⟩,ae s0 0,⟨_,aa s1 1⟩,ae s1 1,⟨_,aa s2 2⟩,ae s2 2,_,rfl,zd,s3,ab gd gS⟩⟩⟩⟩⟩,⟨z0,z1,z2,t1 _ gNw ⟨_,rfl,i1,t2 _ gNw ⟨_,rfl,i2,t3' _ gNw ⟨_,rfl,i3,⟨_,aa s0 0⟩,ae s0 0,⟨_,aa s1 1⟩,ae s1 1,⟨_,aa s2 2⟩,ae s2 2,_,rfl,zd,s3,ab gd gS⟩⟩⟩⟩⟩
    · rintro a X ⟨b,rfl,hbW,hB,gX⟩
      have gd2:=aj (af X none)
      obtain⟨X1,hX1⟩:∃ X1,X1=X.drew:=⟨_,rfl⟩
      rw[← hX1]at gd2 ⊢
      have hB1:=ai hB gd2
      have gA:=World.grownBy_alloc X1 (.cells #[.int .i64 r.len,.int .i64 r.first,.int .u32 r.sum] 60) none
      have rA:Row (X1.alloc (.cells #[.int .i64 r.len,.int .i64 r.first,.int .u32 r.sum] 60)) (some ⟨X1.heap.size,0,none⟩) (iz [r]):=wh X1 #[.int .i64 r.len,.int .i64 r.first,.int .u32 r.sum] 60
      have gW2:=ab gX (ab gd2 gA)
      have oW2:=oW.kp (S:=fun _=>False) (Kp.of_none gW2) (fun _ _ e=>e)
      have gWz:=ab gW gW2
      obtain⟨A5,n5,c5,W5,r5,o5,g5⟩:=qcq (d:=1) oW2 rA (by omega) gWz.size
      have ob:=fun q hq=>(World.ownsRow.lt oW2 q hq).1
      have g35:=cu gWz g5 fun q hq=>ob q hq
      have hB2:=ai hB1 gA
      have hB5:W5.heap[b]?=some (.cells #[.int .i64 r.len,.int .i64 r.first,.int .u32 r.sum] 60 (0,0)):=by
        rw[g5.block _ (Array.getElem?_eq_some_iff.1 hB2).1 (fun e=>by have:=oW.block_lt b e.symm;omega)];exact hB2
      have hleft2:de (rows.drop p)-r.len=de (rows.drop (p+1)):=by
        rw[hdp];unfold de;simp
        omega
      have hle:0<=de (rows.drop (p+1)):=by
        have:=qu (l:=rows.drop (p+1)) fun r hr=>(hN r (List.mem_of_mem_drop hr)).len.1
        omega
      have hle2:de (rows.drop p)<=de rows:=by
        have h1:=j5 (rows.take p) (rows.drop p)
        rw[List.take_append_drop]at h1
        have:=qu (l:=rows.take p) fun r hr=>(hN r (List.mem_of_mem_take hr)).len.1
        omega
      refine⟨fun X=>X.heap[b]?=some (.cells #[.int .i64 r.len,.int .i64 r.first,.int .u32 r.sum] 60 (0,0)),hB1,r.len,by simpa using aa hB1 0,r.first,by rw[tx];exact aa hB1 1,r.sum,by rw[tx];exact aa hB1 2,hB2,A5,n5,c5,W5,r5,hB5,r.len,fun X hX=>by simpa using aa hX 0,by omega,⟨by omega,by omega⟩,rows.length-(p+1),by omega,p+1,by omega,rfl,?_,hleft2,?_,by omega,by omega,g35⟩
      · rw[List.take_succ_eq_append_getElem lp,← hrr];exact o5
      · rw[← hy16]
        exact qkc (k:=16) rW3 (by omega)
  · have hpm:p=rows.length:=by omega
    subst hpm
    rw[List.take_length]at oW
    rw[List.drop_length]
    refine(pj oW.row hd (by omega)).mono fun ev W1 hh=>?_
    obtain⟨rfl,g4⟩:=hh
    refine⟨_,rfl,fun h=>absurd (hrok.symm.trans h) (by decide),fun _=>⟨fun h=>absurd rfl h,fun _=>⟨_,_,_,rfl,(oW.kp (S:=fun _=>False) (Kp.of_none g4) (fun _ _ e=>e)).mono z03,ab gWw g4⟩⟩⟩
theorem qfv{w:World}{A:Option Addr}{n c:Nat}{l:List Int}(hr:Row w A (u8s l))(hn:n=l.length)(hl:l.length<=2^38):
    Calls P 48 #[.slice A n c] w fun ev w'=>∃(A':Option Addr)(n' c':Nat),ev=.returned (.slice A' n' c')/\am w' w.heap.size 5 1 A' n' c' (u8s l)/\w.grownBy w' none:=by
  apply vc48;dsimp only[VC48,Wt,Br,Bb,Rd,Rc,Rs,Ix,rI_,rB_,rS_]
  refine⟨fun h=>?_,fun h=>?_⟩
  · subst h
    have:l=[]:=by
      cases l with
      | nil=>rfl
      | cons x l=>obtain⟨a,e,_⟩:=hr 0 _ rfl;cases e
    subst this
    exact⟨none,0,0,rfl,am.nil _ _ _ _,af _ _⟩
  · obtain⟨a,rfl⟩:∃ a,A=some a:=by cases A with
      | none=>exact absurd rfl h
      | some a=>exact⟨a,rfl⟩
    have hg:=World.grownBy_alloc w (.cells #[] 5) none
    have ho:am (w.alloc (.cells #[] 5)) w.heap.size 5 1 (some ⟨w.heap.size,0,none⟩) 0 0 (u8s []):=⟨rfl,.inr ⟨w.heap.size,0,#[],rfl,Nat.le_refl _,heap_alloc_new w _,Nat.le_refl _,Nat.zero_le _,rfl,rfl⟩⟩
    obtain⟨A',n',c',w',h1,h2,h3,_⟩:=bk ho (hr.kept_none hg) hn (fun e=>by cases e) (by omega) hg.size
    exact⟨A',n',c',w',h1,A',n',c',rfl,by simpa using h2,cu hg h3 fun q hq=>(World.ownsRow.lt ho q hq).1⟩
theorem ci.hok{N:Int}{l:List Evt}{k:Nat}(h:ci N l)(hk:1<=k/\k<=1048576):ez N k l.length:=by have:=h.n;have:=h.len;unfold ez;omega
theorem ci.rowsN{N:Int}{l:List Evt}{k:Nat}(h:ci N l)(hk:0<k):∀ r∈fj l k (lg l.length k),qni r:=fun r hr=>by
 unfold fj at hr
 obtain⟨i,hi,rfl⟩:=List.mem_map.1 hr
 exact h.rowN hk ((gk hk).1 (by simpa using hi))
theorem ci.flen{N:Int}{l:List Evt}{k:Nat}(h:ci N l)(hk:0<k):(fx N l k).length<=1000000:=by
 have h1:=h.bodiesLen hk (Nat.le_refl (lg l.length k))
 have h2:=qad (n:=l.length) hk
 have h3:=h.len
 rw[vc];omega
theorem pb{w:World}{A:Option Addr}{n c:Nat}{N:Int}{l:List Evt}{k:Nat}(hr:Row w A (u8s (fx N l k)))(hn:n=(fx N l k).length)(hc:n<=c)(h:ci N l)(hk:1<=k/\k<=1048576):
    Calls P 20 #[.slice A n c] w fun ev w'=>∃(B:Option Addr)(m d:Nat),ev=.returned (.tuple #[su N k l.length,.slice B m d,.int .i64 0])/\am w' w.heap.size 60 3 B m d (iz (fj l k (lg l.length k)))/\w.grownBy w' none:=by
  apply vc20;dsimp only[VC20,Wt,Br,Bb,Rd,Rc,Rs,Ix,rI_,rB_,rS_]
  have g0:=World.grownBy_alloc w (.cells #[.int .u64 0,.int .i64 0,.int .i64 0] 51) none
  have b0:=heap_alloc_new w (.cells #[.int .u64 0,.int .i64 0,.int .i64 0] 51)
  obtain⟨w0,hw0⟩:∃ w0,w0=w.alloc (.cells #[.int .u64 0,.int .i64 0,.int .i64 0] 51):=⟨_,rfl⟩
  rw[← hw0]at g0 b0 ⊢
  have hok:=h.hok hk
  refine(qdi (hr.kept_none g0) hn hc qw rfl h.n.1 hok).mono fun ev w1 hh=>?_
  obtain⟨rfl,g1⟩:=hh
  have b1:=ai b0 g1
  have ga:=World.grownBy_alloc w1 (.cells #[.int .u64 0,.int .i64 0,.int .i64 0] 51) none
  have s0:=heap_alloc_new w1 (.cells #[.int .u64 0,.int .i64 0,.int .i64 0] 51)
  have s1:=ah s0 0 (.int .u64 N)
  have s2:=ah s1 1 (.int .i64 (k:Int))
  have s3:=ah s2 2 (.int .i64 (l.length:Int))
  have g3:w1.grownBy ((((w1.alloc (.cells #[.int .u64 0,.int .i64 0,.int .i64 0] 51)).setCell ⟨w1.heap.size,0,none⟩ (.int .u64 N)).setCell ⟨w1.heap.size,1,none⟩ (.int .i64 (k:Int))).setCell ⟨w1.heap.size,2,none⟩ (.int .i64 (l.length:Int))) none:=(iy (iy (iy (Kp.of_none (S:=fun q=>w1.heap.size<=q) ga) (Nat.le_refl _)) (Nat.le_refl _)) (Nat.le_refl _)).grown (fun q hq e=>by omega)
  refine⟨_,_,_,_,rfl,⟨_,aa s0 0⟩,ae s0 0,⟨_,aa s1 1⟩,ae s1 1,⟨_,aa s2 2⟩,ae s2 2,fun e=>absurd rfl e,fun _=>?_⟩
  obtain⟨w3,hw3⟩:∃ w3,w3=(((w1.alloc (.cells #[.int .u64 0,.int .i64 0,.int .i64 0] 51)).setCell ⟨w1.heap.size,0,none⟩ (.int .u64 N)).setCell ⟨w1.heap.size,1,none⟩ (.int .i64 (k:Int))).setCell ⟨w1.heap.size,2,none⟩ (.int .i64 (l.length:Int)):=⟨_,rfl⟩
  have h3:w3.heap[w1.heap.size]?=some (.cells #[.int .u64 N,.int .i64 (k:Int),.int .i64 (l.length:Int)] 51 (0,0)):=by rw[hw3];exact s3
  rw[← hw3]at g3 ⊢
  have g03:=ab g0 (ab g1 g3)
  have hlenA:=qde (l:=l) (k:=k) (lg l.length k)
  refine⟨N,aa h3 0,(k:Int),aa h3 1,(l.length:Int),aa h3 2,(qgm (pre:=ng N k l.length++bx l k (lg l.length k)) (hr.kept_none g03) hn hc qw (by have:=h.flen hk.1;omega) (by unfold fx;rw[List.append_assoc]) (by rw[hlenA,List.length_append,jk];omega) hok (by rw[uw hk.1,dq]) (h.rowsOk hk.1 (Nat.le_refl _)) (h.rowsN hk.1)).mono fun ev w4 hh=>?_⟩
  obtain⟨A4,n4,c4,rfl,o4,g4⟩:=hh
  have h4:=ai h3 g4
  have b4:=ai (ai b1 g3) g4
  have t1:=ah b4 0 (.int .u64 N)
  have t2:=ah t1 1 (.int .i64 (k:Int))
  have t3:=ah t2 2 (.int .i64 (l.length:Int))
  have g04:=ab g03 g4
  have z03:=g03.size
  have z3:w.heap.size<w3.heap.size:=by
    have:=(Array.getElem?_eq_some_iff.1 (ai b1 g3)).1
    exact this
  have K4:Kp w4 (((w4.setCell ⟨w.heap.size,0,none⟩ (.int .u64 N)).setCell ⟨w.heap.size,1,none⟩ (.int .i64 (k:Int))).setCell ⟨w.heap.size,2,none⟩ (.int .i64 (l.length:Int))) (fun q=>q=w.heap.size):=iy (iy (iy (Kp.refl _ _) rfl) rfl) rfl
  have gF:=((Kp.of_none (S:=fun q=>w.heap.size<=q) g04).then K4 fun q _ e=>by omega).grown fun q hq e=>by omega
  refine⟨_,_,_,_,rfl,fun e=>absurd rfl e,fun _=>⟨N,aa h4 0,(k:Int),aa h4 1,(l.length:Int),aa h4 2,⟨_,aa b4 0⟩,ae b4 0,⟨_,aa t1 1⟩,ae t1 1,⟨_,aa t2 2⟩,ae t2 2,N,by rw[aa t3 0];rfl,(k:Int),by rw[aa t3 1];rfl,(l.length:Int),by rw[aa t3 2];rfl,A4,n4,c4,rfl,?_,gF⟩⟩
  exact(o4.kp K4 (fun q hq e=>by have:=(World.ownsRow.lt o4 q hq).1;omega)).mono (by omega)
theorem ym{l:List Evt}{k m i:Nat}(hi:i<=m):de ((fj l k m).take i)=((bx l k i).length:Int):=by
 have:(fj l k m).take i=fj l k i:=by
  unfold fj
  rw[← List.map_take,List.take_range,Nat.min_eq_left hi]
 rw[this,qde]
theorem p9{w:World}{A B:Option Addr}{n c m d:Nat}{N:Int}{l:List Evt}{k i:Nat}(hr:Row w A (u8s (fx N l k)))(hn:n=(fx N l k).length)(hc:n<=c)(h:ci N l)(hk:1<=k/\k<=1048576)(hB:Row w B (iz (fj l k (lg l.length k))))(hm:m=lg l.length k)(hd:m<=d)(hi:i<lg l.length k):
    Calls P 21 #[.slice A n c,.slice B m d,.int .i64 (i:Int)] w fun ev w'=>∃(C:Option Addr)(n' c':Nat),ev=.returned (.tuple #[.slice C n' c',.int .i64 0])/\am w' w.heap.size 5 1 C n' c' (u8s (ej l k i))/\w.grownBy w' none:=by
  apply vc21;dsimp only[VC21,Wt,Br,Bb,Rd,Rc,Rs,Ix,rI_,rB_,rS_]
  try simp only[InK]
  have hrl:(fj l k (lg l.length k)).length=lg l.length k:=dq
  have hmn:=qad (n:=l.length) (k:=k) hk.1
  have hl:=h.len
  have hpk:=(gk hk.1).1 hi
  have hbl:=h.blen hk.1 hpk
  have hrow:(fj l k (lg l.length k))[i]'(by rw[hrl];exact hi)=vq l k i:=by unfold fj;simp
  refine(qdf hB (by rw[hrl];exact hm) hd (by rw[hrl];omega) (h.rowsOk hk.1 (Nat.le_refl _)) (by rw[hrl];exact hi)).mono fun ev w1 hh=>?_
  obtain⟨rfl,g1⟩:=hh
  rw[ym (by omega)]
  have hfl:=h.flen hk.1
  obtain⟨s,hs⟩:=xt (l:=l) (k:=k) hi
  have hsum:24+(bx l k i).length+(ej l k i).length<=n:=by
    rw[hn,vc,hs,List.length_append,List.length_append];omega
  have ti:(i:Int).toNat=i:=by omega
  rw[ti]
  have cellR:∀ X,w.grownBy X none->∃ a,B=some a/\X.cell? (a.add (i*3))=some (.int .i64 ((ej l k i).length:Int))/\X.cell? (Addr.add (a.add (i*3)) 2)=some (.int .u32 (qg1 (ej l k i))):=fun X hX=>by
    obtain⟨a,e0,e1,e2,e3⟩:=we (hB.kept_none hX) (j:=i) (by rw[hrl];exact hi)
    rw[hrow]at e1 e3
    exact⟨a,e0,e1,e3⟩
  obtain⟨a,e0,e1,e2⟩:=cellR w1 g1
  have t1:(24+((bx l k i).length:Int)).toNat=24+(bx l k i).length:=by omega
  have t2:(24+((bx l k i).length:Int)+((ej l k i).length:Int)).toNat-(24+((bx l k i).length:Int)).toNat=(ej l k i).length:=by omega
  have rX:Row w1 (dz A c (24+(bx l k i).length) 1) (u8s (ej l k i)):=by
    have:=fy (qkc (c:=c) (k:=24+(bx l k i).length) (hr.kept_none g1) (by omega)) (ej l k i).length
    rw[qj5 hi]at this;exact this
  refine⟨_,rfl,fun e=>absurd e (by omega),fun _=>⟨fun e=>absurd e (by omega),fun _=>⟨a,e0,by omega,by omega,_,e1,by omega,fun e=>absurd e (by omega),fun _=>⟨a,e0,by omega,by omega,_,e1,by omega,⟨by omega,by omega,by omega,by omega⟩,?_⟩⟩⟩⟩
  rw[t2,t1]
  refine(qfv rX rfl (by omega)).mono fun ev w2 hh=>?_
  obtain⟨C,n',c',rfl,o2,g2⟩:=hh
  have hn':n'=(ej l k i).length:=by have h':=o2.cases.1;unfold u8s at h';rw[List.length_map]at h';omega
  have gd:=aj (af w2 none)
  obtain⟨w3,hw3⟩:∃ w3,w3=w2.drew:=⟨_,rfl⟩
  rw[← hw3]at gd ⊢
  have gA:=World.grownBy_alloc w3 (.cells #[.slice C n' c'] 26) none
  have rA:Row (w3.alloc (.cells #[.slice C n' c'] 26)) (some ⟨w3.heap.size,0,none⟩) [.slice C n' c']:=wh w3 #[.slice C n' c'] 26
  have g13:=ab g1 (ab g2 gd)
  have o4:=o2.kp (S:=fun _=>False) (Kp.of_none (ab gd gA)) (fun _ _ e=>e)
  refine⟨C,n',c',rfl,fun X=>w.grownBy X none,g13,ab g13 gA,(pt rA o4.row hn' h.bodyBy (by omega)).mono fun ev w5 hh=>?_⟩
  obtain⟨rfl,rfl⟩:=hh
  refine⟨_,rfl,ab g13 gA,a,e0,by omega,by omega,_,fun X hX=>?_,fun e=>absurd rfl e,fun _=>⟨C,n',c',rfl,o4.mono g1.size,ab g13 gA⟩⟩
  obtain⟨a',e0',_,e2'⟩:=cellR X hX
  rw[e0]at e0';cases e0'
  exact e2'
theorem qhc{w:World}{A B:Option Addr}{n c m d:Nat}{i:Int}(hi:(m:Int)<=i):
    Calls P 21 #[.slice A n c,.slice B m d,.int .i64 i] w fun ev w'=>ev=.returned (.tuple #[.slice none 0 0,.int .i64 20])/\w.grownBy w' none:=by
  apply vc21;dsimp only[VC21,Wt,Br,Bb,Rd,Rc,Rs,Ix,rI_,rB_,rS_]
  refine(qe4 hi).mono fun ev w1 hh=>?_
  obtain⟨rfl,g1⟩:=hh
  exact⟨_,rfl,fun _=>⟨rfl,g1⟩,fun h=>absurd rfl h⟩
theorem ci.blen13{N:Int}{l:List Evt}{k i:Nat}(h:ci N l)(hk:0<k)(hi:i*k<l.length):(ej l k i).length<=6540:=by
 have h1:(qba l k i).length<=i*k:=by
  have:=pq (l.take (i*k)) []
  unfold qba
  rw[List.length_take]at *
  simp only[List.length_nil]at *
  omega
 have h2:(evI l k i).length<=l.length-i*k:=by rw[xi];omega
 have h5:=h.len
 have h3:=qco (h.blk hk hi) (by omega) (by omega)
 unfold ej;omega
theorem qnq{l:List Evt}{k p:Nat}:l.take (p*k)++evI l k p=l.take ((p+1)*k):=by
 unfold evI
 rw[Nat.add_mul,Nat.one_mul,List.take_add]
theorem qbe {w:World} {A:Option Addr} {n c:Nat} {N:Int} {l:List Evt} {k:Nat} (hr:Row w A (u8s (fx N l k))) (hn:n=(fx N l k).length) (hc:n<=c) (h:ci N l) (hk:1<=k/\k<=1048576) :
    Calls P 22 #[.slice A n c] w fun ev w'=>∃(B:Option Addr)(d e:Nat),ev=.returned (.tuple #[.agg #[.int .u64 N,.slice B d e],.int .i64 (k:Int),.int .i64 0])/\am w' w.heap.size 62 4 B d e (fh l)/\w.grownBy w' none:=by
  apply vc22;dsimp only[VC22,Wt,Br,Bb,Rd,Rc,Rs,Ix,rI_,rB_,rS_]
  try simp only[InK]
  have hl:=h.len
  have hok:=h.hok hk
  have g0:=World.grownBy_alloc w (.cells #[.int .u64 0,.slice none 0 0] 25) none
  have b0:=heap_alloc_new w (.cells #[.int .u64 0,.slice none 0 0] 25)
  obtain⟨w0,hw0⟩:∃ w0,w0=w.alloc (.cells #[.int .u64 0,.slice none 0 0] 25):=⟨_,rfl⟩
  rw[← hw0]at g0 b0 ⊢
  refine(pb (hr.kept_none g0) hn hc h hk).mono fun ev w1 hh=>?_
  obtain⟨X,xm,xd,rfl,oX,g1⟩:=hh
  have hxm:xm=lg l.length k:=by have h':=oX.cases.1;rw[gm,dq]at h';omega
  have hxd:=fm oX
  have b1:=ai b0 g1
  have ga:=World.grownBy_alloc w1 (.cells #[.int .u64 0,.int .i64 0,.int .i64 0] 51) none
  have s0:=heap_alloc_new w1 (.cells #[.int .u64 0,.int .i64 0,.int .i64 0] 51)
  have s1:=ah s0 0 (.int .u64 N)
  have s2:=ah s1 1 (.int .i64 (k:Int))
  have s3:=ah s2 2 (.int .i64 (l.length:Int))
  have g3:w1.grownBy ((((w1.alloc (.cells #[.int .u64 0,.int .i64 0,.int .i64 0] 51)).setCell ⟨w1.heap.size,0,none⟩ (.int .u64 N)).setCell ⟨w1.heap.size,1,none⟩ (.int .i64 (k:Int))).setCell ⟨w1.heap.size,2,none⟩ (.int .i64 (l.length:Int))) none:=(iy (iy (iy (Kp.of_none (S:=fun q=>w1.heap.size<=q) ga) (Nat.le_refl _)) (Nat.le_refl _)) (Nat.le_refl _)).grown (fun q hq e=>by omega)
  refine⟨_,_,_,_,_,_,_,rfl,⟨_,aa s0 0⟩,ae s0 0,⟨_,aa s1 1⟩,ae s1 1,⟨_,aa s2 2⟩,ae s2 2,fun e=>absurd rfl e,fun _=>?_⟩
  obtain⟨w3,hw3⟩:∃ w3,w3=(((w1.alloc (.cells #[.int .u64 0,.int .i64 0,.int .i64 0] 51)).setCell ⟨w1.heap.size,0,none⟩ (.int .u64 N)).setCell ⟨w1.heap.size,1,none⟩ (.int .i64 (k:Int))).setCell ⟨w1.heap.size,2,none⟩ (.int .i64 (l.length:Int)):=⟨_,rfl⟩
  have h3:w3.heap[w1.heap.size]?=some (.cells #[.int .u64 N,.int .i64 (k:Int),.int .i64 (l.length:Int)] 51 (0,0)):=by rw[hw3];exact s3
  rw[← hw3]at g3 ⊢
  have g03:=ab g0 (ab g1 g3)
  have b3:=ai b1 g3
  refine⟨N,aa h3 0,?_⟩
  have gh:=World.grownBy_alloc w3 (.cells #[.int .u64 0,.slice none 0 0] 25) none
  have t0:=heap_alloc_new w3 (.cells #[.int .u64 0,.slice none 0 0] 25)
  have t1:=ah t0 0 (.int .u64 N)
  have t2:=ah t1 1 (.slice none 0 0)
  have g4:w3.grownBy (((w3.alloc (.cells #[.int .u64 0,.slice none 0 0] 25)).setCell ⟨w3.heap.size,0,none⟩ (.int .u64 N)).setCell ⟨w3.heap.size,1,none⟩ (.slice none 0 0)) none:=(iy (iy (Kp.of_none (S:=fun q=>w3.heap.size<=q) gh) (Nat.le_refl _)) (Nat.le_refl _)).grown (fun q hq e=>by omega)
  refine⟨⟨_,aa t0 0⟩,ae t0 0,⟨_,aa t1 1⟩,ae t1 1,?_⟩
  obtain⟨w4,hw4⟩:∃ w4,w4=((w3.alloc (.cells #[.int .u64 0,.slice none 0 0] 25)).setCell ⟨w3.heap.size,0,none⟩ (.int .u64 N)).setCell ⟨w3.heap.size,1,none⟩ (.slice none 0 0):=⟨_,rfl⟩
  have h4:w4.heap[w3.heap.size]?=some (.cells #[.int .u64 N,.slice none 0 0] 25 (0,0)):=by rw[hw4];exact t2
  rw[← hw4]at g4 ⊢
  have z01:=g0.size
  have zb0:w.heap.size<w1.heap.size:=(Array.getElem?_eq_some_iff.1 b1).1
  have zh3:w1.heap.size<w3.heap.size:=(Array.getElem?_eq_some_iff.1 h3).1
  have zh4:w3.heap.size<w4.heap.size:=(Array.getElem?_eq_some_iff.1 h4).1
  have g04:=ab g03 g4
  have g14:=ab g3 g4
  obtain⟨m,hm⟩:∃ m,m=lg l.length k:=⟨_,rfl⟩
  rw[← hm]at oX hxm
  have hmn:m<=l.length:=by rw[hm];exact qad hk.1
  refine⟨fun q x W=>∃(p:Nat)(B:Option Addr)(d e:Nat),x=(p:Int)/\p<=m/\q=m-p/\Kp w4 W (fun q=>q=w3.heap.size)/\W.heap[w3.heap.size]?=some (.cells #[.int .u64 N,.slice B d e] 25 (0,0))/\am W w4.heap.size 62 4 B d e (fh (l.take (p*k))),⟨_,0,none,0,0,rfl,by omega,rfl,Kp.refl _ _,h4,by rw[Nat.zero_mul];exact am.nil _ _ _ _⟩,?_⟩
  rintro q x W ⟨p,B,d,e,rfl,hp,rfl,kW,hB,oW⟩
  have gB:=((Kp.of_none (S:=fun q=>w.heap.size<=q) g04).then kW fun q _ e=>by omega).grown fun q hq e=>by omega
  have gB1:=((Kp.of_none (S:=fun q=>w1.heap.size<=q) g14).then kW fun q _ e=>by omega).grown fun q hq e=>by omega
  have hH:W.heap[w1.heap.size]?=some (.cells #[.int .u64 N,.int .i64 (k:Int),.int .i64 (l.length:Int)] 51 (0,0)):=by
    rw[kW.block _ (by omega) (by omega)];exact ai h3 g4
  have hb:W.heap[w.heap.size]?=some (.cells #[.int .u64 0,.slice none 0 0] 25 (0,0)):=by
    rw[kW.block _ (by omega) (by omega)];exact ai b3 g4
  have hd:d=(l.take (p*k)).length:=by have h':=oW.cases.1;rw[cw]at h';omega
  have zW:=kW.size
  refine⟨fun hlt=>?_,fun hge=>?_⟩
  · have lp:p<m:=by omega
    have hpk:p*k<l.length:=(gk hk.1).1 (by omega)
    have tp:(p:Int).toNat=p:=by omega
    rw[tp]
    have hrl:(fj l k m).length=m:=dq
    have hrow:(fj l k m)[p]'(by rw[hrl];exact lp)=vq l k p:=by unfold fj;simp
    obtain⟨a,e0,e1,e2,e3⟩:=we (oX.row.kept_none gB1) (j:=p) (by rw[hrl];exact lp)
    rw[hrow]at e1 e2 e3
    refine⟨a,e0,by omega,by omega,_,e1,_,e2,_,e3,?_⟩
    have gc:=World.grownBy_alloc W (.cells #[.int .i64 0,.int .i64 0,.int .u32 0] 60) none
    have u0:=heap_alloc_new W (.cells #[.int .i64 0,.int .i64 0,.int .u32 0] 60)
    have u1:=ah u0 0 (.int .i64 (vq l k p).len)
    have u2:=ah u1 1 (.int .i64 (vq l k p).first)
    have u3:=ah u2 2 (.int .u32 (vq l k p).sum)
    have gR:W.grownBy ((((W.alloc (.cells #[.int .i64 0,.int .i64 0,.int .u32 0] 60)).setCell ⟨W.heap.size,0,none⟩ (.int .i64 (vq l k p).len)).setCell ⟨W.heap.size,1,none⟩ (.int .i64 (vq l k p).first)).setCell ⟨W.heap.size,2,none⟩ (.int .u32 (vq l k p).sum)) none:=(iy (iy (iy (Kp.of_none (S:=fun q=>W.heap.size<=q) gc) (Nat.le_refl _)) (Nat.le_refl _)) (Nat.le_refl _)).grown (fun q hq e=>by omega)
    refine⟨⟨_,aa u0 0⟩,ae u0 0,⟨_,aa u1 1⟩,ae u1 1,⟨_,aa u2 2⟩,ae u2 2,?_⟩
    obtain⟨W1,hW1⟩:∃ W1,W1=(((W.alloc (.cells #[.int .i64 0,.int .i64 0,.int .u32 0] 60)).setCell ⟨W.heap.size,0,none⟩ (.int .i64 (vq l k p).len)).setCell ⟨W.heap.size,1,none⟩ (.int .i64 (vq l k p).first)).setCell ⟨W.heap.size,2,none⟩ (.int .u32 (vq l k p).sum):=⟨_,rfl⟩
    have hR1:W1.heap[W.heap.size]?=some (.cells #[.int .i64 (vq l k p).len,.int .i64 (vq l k p).first,.int .u32 (vq l k p).sum] 60 (0,0)):=by rw[hW1];exact u3
    rw[← hW1]at gR ⊢
    have gW1:=ab gB gR
    refine(p9 (hr.kept_none gW1) hn hc h hk (by rw[← hm];exact oX.row.kept_none (ab gB1 gR)) (by rw[← hm];exact hxm) (by omega) (by omega)).mono fun ev W2 hh=>?_
    obtain⟨Y,yn,yc,rfl,oY,gY⟩:=hh
    have hyn:yn=(ej l k p).length:=by have h':=oY.cases.1;unfold u8s at h';rw[List.length_map]at h';omega
    have hyc:=fm oY
    refine⟨_,_,_,_,rfl,fun e=>absurd rfl e,fun _=>?_⟩
    have gd:=aj (af W2 none)
    obtain⟨W3,hW3⟩:∃ W3,W3=W2.drew:=⟨_,rfl⟩
    rw[← hW3]at gd ⊢
    have gW3:W.grownBy W3 none:=ab gR (ab gY gd)
    have hR3:=ai hR1 (ab gY gd)
    have hH3:=ai hH gW3
    have hmin:min (k:Int) ((l.length:Int)-(p:Int)*(k:Int))=(((evI l k p).length:Nat):Int):=by
      rw[xi,show(p:Int)*(k:Int)=((p*k:Nat):Int) by simp];omega
    have hi2:(p:Int)<((l.length:Int)+(k:Int)-1) / (k:Int):=by rw[uw hk.1];omega
    refine⟨fun X=>W3.grownBy X none,af _ _,N,fun X hX=>aa (ai hH3 hX) 0,(vq l k p).first,fun X hX=>aa (ai hR3 hX) 1,N,aa hH3 0,(k:Int),aa hH3 1,(l.length:Int),aa hH3 2,(pk hok (by omega) hi2).mono fun ev W4 hh=>?_⟩
    obtain⟨rfl,gs⟩:=hh
    rw[hmin]
    have hevl:=h.evLen (k:=k) (i:=p)
    have oY4:=oY.kp (S:=fun _=>False) (Kp.of_none (ab gd gs)) (fun _ _ e=>e)
    have hb13:=h.blen13 hk.1 hpk
    refine⟨_,rfl,gs,(qha oY4.row hyn hyc (fun x hx=>h.bodyBy x hx) (by omega) (by omega)).mono fun ev W5 hh=>?_⟩
    obtain⟨g5,hr5⟩:=hh
    have hIs:=h.is hk.1 hpk
    obtain⟨A7,n7,c7,A8,n8,c8,rfl,r7,hn7,r8,hn8,hA8⟩:∃(A1:Option Addr)(n1 c1:Nat)(A2:Option Addr)(n2 c2:Nat),ev=.returned (.tuple #[.slice A1 n1 c1,.slice A2 n2 c2,.int .i64 0])/\Row W5 A1 (edges (qba l k p))/\n1=(qba l k p).length/\Row W5 A2 (fh (evI l k p))/\n2=(evI l k p).length/\(A2=none->c2=0):=by
      rcases hr5 with⟨A1,n1,c1,A2,n2,c2,key',l',rfl,⟨h1,h2,_⟩,⟨h3,h4,_,h4'⟩,h5,h6⟩ | ⟨rfl,hno⟩
      · obtain⟨e1,e2⟩:=hIs.uniq h6 (by omega) (by omega)
        have e3:=xo hIs.ok.del h6.ok.del e2
        subst e3
        rw[← e1]at h1 h2
        exact⟨_,_,_,_,_,_,rfl,h1,h2,h3,h4,h4'⟩
      · exact absurd hIs (hno _ _)
    have gW5:=ab gW3 (ab gs g5)
    have hB5:=ai hB gW5
    have oW5:=oW.kp (S:=fun _=>False) (Kp.of_none gW5) (fun _ _ e=>e)
    have htl:(l.take (p*k)).length<=49:=by rw[List.length_take];omega
    obtain⟨B',d',e',W6,r6,o6,g6,_⟩:=ew oW5 r8 hn8 hA8 (by omega) (Nat.le_trans zW gW5.size)
    rw[qnq]at o6
    have hB6:W6.heap[w3.heap.size]?=some (.cells #[.int .u64 N,.slice B d e] 25 (0,0)):=by
      rw[g6.block _ (Array.getElem?_eq_some_iff.1 hB5).1 (fun e=>by have:=(World.ownsRow.lt oW5 _ e.symm).1;omega)];exact hB5
    have k6:Kp w4 W6 (fun q=>q=w3.heap.size):=Kp.step (kW.then (Kp.of_none (S:=fun q=>q=w3.heap.size) gW5) fun q _ e=>e) g6 (fun q hq=>.inl (World.ownsRow.lt oW5 q hq).1)
    refine⟨_,_,_,_,_,_,_,rfl,ab gs g5,fun e=>absurd rfl e,fun _=>⟨B,d,e,aa hB5 1,B',d',e',W6,r6,⟨_,aa hB6 1⟩,ae hB6 1,by omega,m-(p+1),by omega,p+1,B',d',e',by omega,by omega,rfl,iy k6 rfl,ah hB6 1 _,?_⟩⟩
    exact o6.kp (iy (S:=fun q=>q=w3.heap.size) (Kp.refl _ _) rfl) (fun q hq e=>by have:=(World.ownsRow.lt o6 q hq).1;omega)
  · have hpm:p=m:=by omega
    subst hpm
    have hall:l.take (p*k)=l:=List.take_of_length_le (by have:=qb0 (n:=l.length) (k:=k) hk.1;rw[hm];exact this)
    rw[hall]at oW hd
    refine⟨N,aa hB 0,B,d,e,aa hB 1,(k:Int),aa hH 1,(gu oW.row hd (fm oW) (fv oW) h hk).mono fun ev W1 hh=>?_⟩
    obtain⟨C,cn,cc,rfl,oC,gC⟩:=hh
    have hcn:cn=(fx N l k).length:=by have h':=oC.cases.1;unfold u8s at h';rw[List.length_map]at h';omega
    have gW1:=ab gB gC
    refine⟨_,_,_,_,rfl,fun e=>absurd rfl e,fun _=>(kv oC.row hcn (hr.kept_none gW1) hn (fun x hx=>qw x hx) (fun x hx=>qw x hx)).mono fun ev W2 hh=>?_⟩
    obtain⟨rfl,rfl⟩:=hh
    have gd:=aj (af W2 none)
    obtain⟨W3,hW3⟩:∃ W3,W3=W2.drew:=⟨_,rfl⟩
    have gW3:W.grownBy W3 none:=by rw[hW3];exact ab gC gd
    refine⟨_,rfl,fun e=>by simp at e,fun _=>?_⟩
    rw[← hW3]
    have hb3:=ai hb gW3
    have v1:=ah hb3 0 (.int .u64 N)
    have v2:=ah v1 1 (.slice B d e)
    have hH3:=ai hH gW3
    have hB3:=ai hB gW3
    have K3:Kp W3 ((W3.setCell ⟨w.heap.size,0,none⟩ (.int .u64 N)).setCell ⟨w.heap.size,1,none⟩ (.slice B d e)) (fun q=>q=w.heap.size):=iy (iy (Kp.refl _ _) rfl) rfl
    have oW3:=(oW.kp (S:=fun _=>False) (Kp.of_none gW3) (fun _ _ e=>e)).kp K3 (fun q hq e=>by have:=(World.ownsRow.lt oW q hq).1;omega)
    have gF:=((Kp.of_none (S:=fun q=>w.heap.size<=q) (ab gB gW3)).then K3 fun q _ e=>by omega).grown fun q hq e=>by omega
    refine⟨fun X=>X.heap[w1.heap.size]?=some (.cells #[.int .u64 N,.int .i64 (k:Int),.int .i64 (l.length:Int)] 51 (0,0)),hH3,N,aa hB3 0,B,d,e,aa hB3 1,(k:Int),fun X hX=>aa hX 1,⟨_,aa hb3 0⟩,ae hb3 0,⟨_,aa v1 1⟩,ae v1 1,?_,N,by rw[aa v2 0];rfl,B,d,e,by rw[aa v2 1];rfl,B,d,e,rfl,oW3.mono (by omega),gF⟩
    exact qb (qb hH3 (by show w.heap.size≠_;omega) _) (by show w.heap.size≠_;omega) _
def ofE(N:Int)(l:List Evt)(k:Int):Int:=if(jw N l).2≠0 then(jw N l).2 else if k<1∨1048576<k then 26 else 0
theorem qh7{N:Int}{l:List Evt}{k:Int}:ofE N l k=0↔(jw N l).2=0/\1<=k/\k<=1048576:=by
 unfold ofE
 split
 ·omega
 ·split <;>omega
def ofV(N:Int)(l:List Evt)(k:Int):Value:=if ofE N l k=0 then su N k l.length else su 0 0 0
theorem qh6{w:World}{A:Option Addr}{n c:Nat}{l:List Evt}{N k:Int}(hr:Row w A (fh l))(hn:n=l.length)(hl:n<=2^20)(hb:qhi l):
    Calls P 31 #[.agg #[.int .u64 N,.slice A n c],.int .i64 k] w fun ev w'=>ev=.returned (.tuple #[ofV N l k,.int .i64 (ofE N l k)])/\w.grownBy w' none:=by
  by_cases h0:ofE N l k=0
  · have h1:=qh7.1 h0
    refine(qbz hr hn hl hb h1.1 h1.2).mono fun ev w1 hh=>?_
    obtain⟨rfl,g⟩:=hh
    refine⟨?_,g⟩
    unfold ofV
    rw[if_pos h0,h0]
  have hV:ofV N l k=su 0 0 0:=by unfold ofV;rw[if_neg h0]
  rw[hV]
  apply vc31;dsimp only[VC31,Wt,Br,Bb,Rd,Rc,Rs,Ix,rI_,rB_,rS_]
  have g1:=World.grownBy_alloc w (.cells #[.int .u64 N,.slice A n c] 25) none
  have b1:(w.alloc (.cells #[.int .u64 N,.slice A n c] 25)).heap[w.heap.size]?=some (.cells #[.int .u64 N,.slice A n c] 25 (0,0)):=heap_alloc_new w _
  obtain⟨w1,hw_w1⟩:∃ w1,w1=w.alloc (.cells #[.int .u64 N,.slice A n c] 25):=⟨_,rfl⟩
  rw[← hw_w1]at g1 b1 ⊢
  have g2:=World.grownBy_alloc w1 (.cells #[.int .u64 0,.int .i64 0,.int .i64 0] 51) none
  have b2:(w1.alloc (.cells #[.int .u64 0,.int .i64 0,.int .i64 0] 51)).heap[w1.heap.size]?=some (.cells #[.int .u64 0,.int .i64 0,.int .i64 0] 51 (0,0)):=heap_alloc_new w1 _
  obtain⟨w2,hw_w2⟩:∃ w2,w2=w1.alloc (.cells #[.int .u64 0,.int .i64 0,.int .i64 0] 51):=⟨_,rfl⟩
  rw[← hw_w2]at g2 b2 ⊢
  have b1':=ai b1 g2
  refine⟨N,aa b1' 0,A,n,c,aa b1' 1,(pp ((hr.kept_none g1).kept_none g2) hn hl hb).mono fun ev w3 hh=>?_⟩
  obtain⟨rfl,g3⟩:=hh
  have b2':=ai b2 g3
  have s1:=ah b2' 0 (.int .u64 0)
  have s2:=ah s1 1 (.int .i64 0)
  have s3:=ah s2 2 (.int .i64 0)
  have gS:w1.grownBy (((w3.setCell ⟨w1.heap.size,0,none⟩ (.int .u64 0)).setCell ⟨w1.heap.size,1,none⟩ (.int .i64 0)).setCell ⟨w1.heap.size,2,none⟩ (.int .i64 0)) none:=(iy (iy (iy (Kp.of_none (S:=fun q=>w1.heap.size<=q) (ab g2 g3)) (Nat.le_refl _)) (Nat.le_refl _)) (Nat.le_refl _)).grown (fun q hq e=>by omega)
  have gE:=ab g1 gS
  have e0:(jw N l).2=0->ofE N l k=if k<1∨1048576<k then 26 else 0:=fun h=>by unfold ofE;rw[if_neg (fun e=>e h)]
  refine⟨_,_,rfl,fun h=>⟨⟨_,aa b2' 0⟩,ae b2' 0,⟨_,aa s1 1⟩,ae s1 1,⟨_,aa s2 2⟩,ae s2 2,0,by rw[aa s3 0];rfl,0,by rw[aa s3 1];rfl,0,by rw[aa s3 2];rfl,?_,gE⟩,fun h=>⟨fun h2=>⟨⟨_,aa b2' 0⟩,ae b2' 0,⟨_,aa s1 1⟩,ae s1 1,⟨_,aa s2 2⟩,ae s2 2,0,by rw[aa s3 0];rfl,0,by rw[aa s3 1];rfl,0,by rw[aa s3 2];rfl,?_,gE⟩,fun h2=>⟨fun h3=>⟨⟨_,aa b2' 0⟩,ae b2' 0,⟨_,aa s1 1⟩,ae s1 1,⟨_,aa s2 2⟩,ae s2 2,0,by rw[aa s3 0];rfl,0,by rw[aa s3 1];rfl,0,by rw[aa s3 2];rfl,?_,gE⟩,fun h3=>?_⟩⟩⟩
  · unfold ofE;rw[if_pos h]
  · rw[e0 (by omega),if_pos (.inl h2)]
  · rw[e0 (by omega),if_pos (.inr (by omega))]
  · exact absurd (qh7.2 ⟨by omega,by omega,by omega⟩) h0
theorem qj8{w:World}{A:Option Addr}{n c:Nat}{l:List Evt}{N k:Int}(hr:Row w A (fh l))(hn:n=l.length)(hl:n<=2^20)(hb:qhi l)(he:ofE N l k≠0):
    Calls P 13 #[.agg #[.int .u64 N,.slice A n c],.int .i64 k] w fun ev w'=>ev=.returned (.tuple #[.slice none 0 0,.int .i64 (ofE N l k)])/\w.grownBy w' none:=by
  apply vc13;dsimp only[VC13,Wt,Br,Bb,Rd,Rc,Rs,Ix,rI_,rB_,rS_]
  have g1:=World.grownBy_alloc w (.cells #[.int .u64 N,.slice A n c] 25) none
  have b1:(w.alloc (.cells #[.int .u64 N,.slice A n c] 25)).heap[w.heap.size]?=some (.cells #[.int .u64 N,.slice A n c] 25 (0,0)):=heap_alloc_new w _
  obtain⟨w1,hw_w1⟩:∃ w1,w1=w.alloc (.cells #[.int .u64 N,.slice A n c] 25):=⟨_,rfl⟩
  rw[← hw_w1]at g1 b1 ⊢
  refine⟨N,aa b1 0,A,n,c,aa b1 1,(qh6 (hr.kept_none g1) hn hl hb).mono fun ev w2 hh=>?_⟩
  obtain⟨rfl,g2⟩:=hh
  have hV:ofV N l k=su 0 0 0:=by unfold ofV;rw[if_neg he]
  rw[hV]
  have ga:=World.grownBy_alloc w2 (.cells #[.int .u64 0,.int .i64 0,.int .i64 0] 51) none
  have s0:=heap_alloc_new w2 (.cells #[.int .u64 0,.int .i64 0,.int .i64 0] 51)
  have s1:=ah s0 0 (.int .u64 0)
  have s2:=ah s1 1 (.int .i64 0)
  have g3:w2.grownBy ((((w2.alloc (.cells #[.int .u64 0,.int .i64 0,.int .i64 0] 51)).setCell ⟨w2.heap.size,0,none⟩ (.int .u64 0)).setCell ⟨w2.heap.size,1,none⟩ (.int .i64 0)).setCell ⟨w2.heap.size,2,none⟩ (.int .i64 0)) none:=(iy (iy (iy (Kp.of_none (S:=fun q=>w2.heap.size<=q) ga) (Nat.le_refl _)) (Nat.le_refl _)) (Nat.le_refl _)).grown (fun q hq e=>by omega)
  exact⟨_,_,_,_,rfl,⟨_,aa s0 0⟩,ae s0 0,⟨_,aa s1 1⟩,ae s1 1,⟨_,aa s2 2⟩,ae s2 2,fun _=>⟨rfl,ab g1 (ab g2 g3)⟩,fun h=>absurd he h⟩
theorem qe7{w:World}{N K C:Int}{i:Int}(h:ez N K C)(hi:i<0∨(C+K-1) / K<=i):Calls P 34 #[su N K C,.int .i64 i] w fun ev w'=>ev=.returned (.int .i64 0)/\w.grownBy w' none:=by
 apply vc34;dsimp only[VC34,Wt,Br,Bb,Rd,Rc,Rs,Ix,rI_,rB_,rS_]
 try simp only[InK,mnI]
 have g1:=World.grownBy_alloc w (.cells #[.int .u64 N,.int .i64 K,.int .i64 C] 51) none
 have b1:(w.alloc (.cells #[.int .u64 N,.int .i64 K,.int .i64 C] 51)).heap[w.heap.size]?=some (.cells #[.int .u64 N,.int .i64 K,.int .i64 C] 51 (0,0)):=heap_alloc_new w _
 obtain⟨w1,hw_w1⟩:∃ w1,w1=w.alloc (.cells #[.int .u64 N,.int .i64 K,.int .i64 C] 51):=⟨_,rfl⟩
 rw[← hw_w1]at g1 b1 ⊢
 refine⟨fun h'=>⟨by trivial,g1⟩,fun h'=>⟨N,aa b1 0,K,aa b1 1,C,aa b1 2,(j6 h).mono fun ev w2 hh=>?_⟩⟩
 obtain⟨rfl,g2⟩:=hh
 exact⟨_,rfl,fun _=>⟨by trivial,ab g1 g2⟩,fun h2=>absurd (hi.resolve_left h') (by omega)⟩
def qo3(N:Int)(l:List Evt)(k i:Int):List Edge:=if ofE N l k=0/\0<=i/\i<((l.length:Int)+k-1) / k then vo N l (i*k) else []
theorem ql6{N k:Int}{l:List Evt}(hN:0<=N)(hl:l.length<=2^20)(h:ofE N l k=0):ez N k l.length:=by
 have h1:=qh7.1 h
 have h2:=vk.1 h1.1
 unfold ez;omega
theorem qgl {w:World} {A:Option Addr} {n c:Nat} {l:List Evt} {N k i:Int} (hr:Row w A (fh l)) (hn:n=l.length) (hc:n<=c) (hA:A=none->c=0) (hN:0<=N) (hl:n<50) (hb:qhi l) :
    Calls P 16 #[.agg #[.int .u64 N,.slice A n c],.int .i64 k,.int .i64 i] w fun ev w'=>∃(B:Option Addr)(m d:Nat),ev=.returned (.slice B m d)/\am w' w.heap.size 45 2 B m d (edges (qo3 N l k i))/\w.grownBy w' none:=by
  apply vc16;dsimp only[VC16,Wt,Br,Bb,Rd,Rc,Rs,Ix,rI_,rB_,rS_]
  try simp only[InK]
  have g1:=World.grownBy_alloc w (.cells #[.int .u64 N,.slice A n c] 25) none
  have b1:(w.alloc (.cells #[.int .u64 N,.slice A n c] 25)).heap[w.heap.size]?=some (.cells #[.int .u64 N,.slice A n c] 25 (0,0)):=heap_alloc_new w _
  obtain⟨w1,hw_w1⟩:∃ w1,w1=w.alloc (.cells #[.int .u64 N,.slice A n c] 25):=⟨_,rfl⟩
  rw[← hw_w1]at g1 b1 ⊢
  refine⟨N,aa b1 0,A,n,c,aa b1 1,(qh6 (hr.kept_none g1) hn (by omega) hb).mono fun ev w2 hh=>?_⟩
  obtain⟨rfl,g2⟩:=hh
  by_cases he:ofE N l k=0
  · have hV:ofV N l k=su N k l.length:=by unfold ofV;rw[if_pos he]
    rw[hV]
    have hok:=ql6 hN (by omega) he
    have hke:=qh7.1 he
    have ga:=World.grownBy_alloc w2 (.cells #[.int .u64 0,.int .i64 0,.int .i64 0] 51) none
    have s0:=heap_alloc_new w2 (.cells #[.int .u64 0,.int .i64 0,.int .i64 0] 51)
    have s1:=ah s0 0 (.int .u64 N)
    have s2:=ah s1 1 (.int .i64 k)
    have s3:=ah s2 2 (.int .i64 (l.length:Int))
    have g3:w2.grownBy ((((w2.alloc (.cells #[.int .u64 0,.int .i64 0,.int .i64 0] 51)).setCell ⟨w2.heap.size,0,none⟩ (.int .u64 N)).setCell ⟨w2.heap.size,1,none⟩ (.int .i64 k)).setCell ⟨w2.heap.size,2,none⟩ (.int .i64 (l.length:Int))) none:=(iy (iy (iy (Kp.of_none (S:=fun q=>w2.heap.size<=q) ga) (Nat.le_refl _)) (Nat.le_refl _)) (Nat.le_refl _)).grown (fun q hq e=>by omega)
    refine⟨_,_,_,_,rfl,⟨_,aa s0 0⟩,ae s0 0,⟨_,aa s1 1⟩,ae s1 1,⟨_,aa s2 2⟩,ae s2 2,fun h=>absurd he h,fun _=>?_⟩
    obtain⟨w3,hw3⟩:∃ w3,w3=(((w2.alloc (.cells #[.int .u64 0,.int .i64 0,.int .i64 0] 51)).setCell ⟨w2.heap.size,0,none⟩ (.int .u64 N)).setCell ⟨w2.heap.size,1,none⟩ (.int .i64 k)).setCell ⟨w2.heap.size,2,none⟩ (.int .i64 (l.length:Int)):=⟨_,rfl⟩
    rw[← hw3]at s3 g3 ⊢
    have g03:=ab g1 (ab g2 g3)
    by_cases hi:0<=i/\i<((l.length:Int)+k-1) / k
    · have h3:i*k<=(l.length:Int)-1:=by
        have:i+1<=((l.length:Int)+k-1) / k:=by omega
        have:=(Int.le_ediv_iff_mul_le (by omega)).1 this
        rw[Int.add_mul,Int.one_mul]at this
        omega
      have h4:0<=i*k:=Int.mul_nonneg hi.1 (by omega)
      have hkq:qo3 N l k i=vo N l (i*k):=by unfold qo3;rw[if_pos ⟨he,hi⟩]
      rw[hkq]
      refine⟨N,by rw[aa s3 0];rfl,k,by rw[aa s3 1];rfl,(l.length:Int),by rw[aa s3 2];rfl,(pk hok hi.1 hi.2).mono fun ev w4 hh=>?_⟩
      obtain⟨rfl,g4⟩:=hh
      have b4:=ai b1 (ab g2 (ab g3 g4))
      refine⟨_,rfl,fun h=>absurd h (by omega),fun _=>⟨N,aa b4 0,A,n,c,aa b4 1,by omega,(xx ((hr.kept_none g03).kept_none g4) hn hc hA hl hb).mono fun ev w5 hh=>?_⟩⟩
      obtain⟨B,m,d,rfl,o5,g5⟩:=hh
      exact⟨_,_,_,_,rfl,B,m,d,rfl,o5.mono (ab g03 g4).size,ab g03 (ab g4 g5)⟩
    · have hkq:qo3 N l k i=[]:=by unfold qo3;rw[if_neg fun h=>hi h.2]
      rw[hkq]
      refine⟨N,by rw[aa s3 0];rfl,k,by rw[aa s3 1];rfl,(l.length:Int),by rw[aa s3 2];rfl,(qe7 hok (by omega)).mono fun ev w4 hh=>?_⟩
      obtain⟨rfl,g4⟩:=hh
      exact⟨_,rfl,fun _=>⟨none,0,0,rfl,am.nil _ _ _ _,ab g03 g4⟩,fun h=>absurd rfl h⟩
  · have hV:ofV N l k=su 0 0 0:=by unfold ofV;rw[if_neg he]
    have hkq:qo3 N l k i=[]:=by unfold qo3;rw[if_neg fun h=>he h.1]
    rw[hV,hkq]
    have ga:=World.grownBy_alloc w2 (.cells #[.int .u64 0,.int .i64 0,.int .i64 0] 51) none
    have s0:=heap_alloc_new w2 (.cells #[.int .u64 0,.int .i64 0,.int .i64 0] 51)
    have s1:=ah s0 0 (.int .u64 0)
    have s2:=ah s1 1 (.int .i64 0)
    have g3:w2.grownBy ((((w2.alloc (.cells #[.int .u64 0,.int .i64 0,.int .i64 0] 51)).setCell ⟨w2.heap.size,0,none⟩ (.int .u64 0)).setCell ⟨w2.heap.size,1,none⟩ (.int .i64 0)).setCell ⟨w2.heap.size,2,none⟩ (.int .i64 0)) none:=(iy (iy (iy (Kp.of_none (S:=fun q=>w2.heap.size<=q) ga) (Nat.le_refl _)) (Nat.le_refl _)) (Nat.le_refl _)).grown (fun q hq e=>by omega)
    exact⟨_,_,_,_,rfl,⟨_,aa s0 0⟩,ae s0 0,⟨_,aa s1 1⟩,ae s1 1,⟨_,aa s2 2⟩,ae s2 2,fun _=>⟨none,0,0,rfl,am.nil _ _ _ _,ab g1 (ab g2 g3)⟩,fun h=>absurd he h⟩
end Go.Proofs.YtlieaecnllkefaaGreat

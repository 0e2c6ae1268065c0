/- The reference's sums, fixed numbers, seals, head, rows: the walks. -/
import Derived.Test.YtdlomlmijdifbaaGreatDoorGWEg
import Derived.Test.YtdlomlmijdifbaaGreatDoorGWZg
set_option linter.unusedVariables false
set_option linter.unusedSimpArgs false
set_option maxHeartbeats 8000000
set_option maxRecDepth 100000
namespace Go.Proofs.YtdlomlmijdifbaaGreatDoor
open Go Go.V Go.RowKit
abbrev zT(x:Int):Int:=jR .xor .u32 4294967295 x
theorem CC:zT 4294967295=0:=by decide +kernel
theorem uO{w:World}{s b:Int}(hb:0<=b/\b<=255)(hs:0<=s/\s<=4294967295):Calls P 78 #[.int .u32 (zT s),.int .u8 b] w fun ev w'=>ev=.returned (.int .u32 (zT (lN s b)))/\w'=w:=by
 apply vc78;dsimp only[VC78,Br];rw[wK hs];simp only[aI];refine⟨by omega,fun m c i w'=>∃ p:Nat,i=(p:Int)/\p<=8/\m=8-p/\c=tM p (jR .xor .u32 s b)/\w'=w,⟨_,0,rfl,by omega,rfl,rfl,rfl⟩,?_⟩;rintro m c i w' ⟨p,rfl,hp,rfl,rfl,rfl⟩;have hr:=lO p (fS s b);have hn:=rL p (jR .xor .u32 s b);unfold wD at hn;rw[wN hr];refine⟨fun Dp=>⟨fun h1=>⟨by omega,by omega,8-(p+1),by omega,p+1,by omega,by omega,rfl,?_,rfl⟩,fun h1=>⟨by omega,by omega,8-(p+1),by omega,p+1,by omega,by omega,rfl,?_,rfl⟩⟩,fun Du=>?_⟩
 ·rw[hn,if_pos h1];rfl
 ·rw[hn,if_neg h1];rfl
 ·have:p=8:=by omega
  subst this;exact⟨rfl,rfl⟩
theorem xE{w:World}{A B:OA}{n c d:Nat}{l:List Int}(hp:bF w B [.slice A n c])(hr:bF w A (dB l))(hn:n=l.length)(hb:By l)(hl:l.length<=2^40):
    Calls P 54 #[.slice B 1 d] w fun ev w'=>ev=.returned (.int .u32 (mK l))/\w'=w:=by
  apply vc54;dsimp only[VC54,Br,Rd,Rs,Ix,cI]
  try simp only[aI]
  refine⟨fun m s i w'=>(i=0/\m=1/\s=0/\w'=w)∨(i=1/\m=0/\s=mK l/\w'=w),⟨_,.inl ⟨rfl,rfl,rfl,rfl⟩⟩,?_⟩;rintro m s i w' (⟨rfl,rfl,rfl,rfl⟩ | ⟨rfl,rfl,rfl,rfl⟩)
  · refine⟨fun _=>?_,fun h=>absurd (show(0:Int)<((1:Nat):Int) by omega) h⟩;obtain⟨b,eB,fB⟩:=hp 0 (.slice A n c) rfl;refine⟨fun m s i w''=>∃ p:Nat,i=(p:Int)/\p<=l.length/\m=l.length-p/\s=zT (jM 4294967295 (l.take p))/\w''=w',⟨_,0,rfl,by omega,rfl,CC.symm,rfl⟩,?_⟩;rintro m s i w'' ⟨p,rfl,Eu,rfl,rfl,rfl⟩;have tp:(p:Int).toNat=p:=by omega
    rw[tp];refine⟨b,eB,by omega,by omega,A,n,c,fB,fun Dp=>?_,fun Du=>?_⟩
    · have lp:p<l.length:=by omega
      obtain⟨a,eA,fA⟩:=hr p (.int .u8 l[p]) (by rw[List.getElem?_map,List.getElem?_eq_getElem lp];rfl);refine⟨b,eB,by omega,by omega,A,n,c,fB,a,eA,by omega,by omega,l[p],fA,(uO (hb _ (List.getElem_mem lp)) (rO _ (by omega))).mono fun ev w3 hh=>?_⟩;obtain⟨rfl,rfl⟩:=hh;refine⟨_,rfl,by omega,l.length-(p+1),by omega,p+1,by omega,by omega,rfl,?_,rfl⟩;rw[List.take_succ_eq_append_getElem lp,lP];rfl
    · have EV:p=l.length:=by omega
      subst EV;rw[List.take_length];exact⟨by omega,0,by omega,.inr ⟨rfl,rfl,rfl,rfl⟩⟩
  · refine⟨fun h=>absurd h (by omega),fun _=>?_⟩;exact⟨rfl,rfl⟩
theorem cV{w:World}{v:Int}{n:Nat}(hn:n<=8):Calls P 72 #[.int .u64 v,.int .i64 (n:Int)] w fun ev w'=>∃(A:OA)(m k:Nat),ev=.returned (.slice A m k)/\aE w' w.heap.size 5 1 A m k (dB (bL v n))/\w.grownBy w' none:=by
 apply vc72;dsimp only[VC72,Br,Ap,nb]
 try simp only[aI]
 refine⟨fun m B k d i W=>∃ p:Nat,i=(p:Int)/\p<=n/\m=n-p/\aE W w.heap.size 5 1 B k d (dB (bL v p))/\w.grownBy W none,⟨_,0,rfl,by omega,rfl,aE.nil _ _ _ _,aF _ _⟩,?_⟩;rintro m B k d i W ⟨p,rfl,hp,rfl,oW,gW⟩;refine⟨fun Dp=>?_,fun Du=>?_⟩
 ·have Dx:k=p:=by have:=oW.cases.1;simp[aK]at this;omega
  have e1:min (8*(p:Int)).toNat 64=8*p:=by omega
  have e2:(2:Int)^(8*p)=256^p:=by rw[Int.pow_mul];rfl
  rw[e1,e2];obtain⟨A3,n3,c3,w3,r3,o3,g3,_⟩:=nB (x:=IntKind.wrap .u8 (v / 256^p)) oW (by omega) gW.size;have ob:=fun q hq=>(World.ownsRow.lt oW q hq).1;refine⟨by omega,by omega,A3,n3,c3,w3,r3,by omega,n-(p+1),by omega,p+1,by omega,by omega,rfl,?_,aN gW g3 fun q hq=>ob q hq⟩;rw[qY,← CU];exact o3
 ·have:p=n:=by omega
  subst this;exact⟨_,_,_,rfl,oW,gW⟩
theorem mP{w:World}{A:OA}{n c:Nat}{l:List Int}(hr:bF w A (dB l))(hn:n=l.length)(hA:A=none->c=0)(hb:By l)(hl:l.length<=2^30):
    Calls P 73 #[.slice A n c] w fun ev w'=>∃(A':OA)(n' c':Nat),ev=.returned (.slice A' n' c')/\aE w' w.heap.size 5 1 A' n' c' (dB (fJ l))/\w.grownBy w' none:=by
  apply vc73;dsimp only[VC73,Ap,cI,cS,nb,iq]
  try simp only[aI]
  obtain⟨A1,n1,c1,w1,r1,o1,g1,e1⟩:=bQ (base:=w.heap.size) (xs:=[]) (aE.nil w _ _ _) hr hn hA (by omega) (Nat.le_refl _);have g1':=aN (aF w none) g1 fun q hq=>by cases hq
  have g2:=World.grownBy_alloc w1 (.cells #[.slice A n c] 22) none;have rP:bF (w1.alloc (.cells #[.slice A n c] 22)) (some ⟨w1.heap.size,0,none⟩) [.slice A n c]:=kY w1 #[.slice A n c] 22;refine⟨A1,n1,c1,w1,r1,(xE rP ((hr.kept_none g1').kept_none g2) hn hb (by omega)).mono fun ev w2 hh=>?_⟩;obtain⟨rfl,rfl⟩:=hh;have Hz:=wC l;refine⟨_,rfl,by omega,(cV (v:=mK l) (n:=4) (by omega)).mono fun ev w3 hh=>?_⟩;obtain⟨A3,n3,c3,rfl,o3,g3⟩:=hh;have FT:n3=(bL (mK l) 4).length:=by have:=o3.cases.1;simp at this;omega
  have DF:=aB g2 g3;have HY:=o1.kp (S:=fun _=>False) (Kp.of_none DF) (fun _ _ e=>e);have DI:=aB g1' DF;obtain⟨A4,n4,c4,w4,r4,o4,g4,_⟩:=bQ HY o3.row FT (cW o3) (by rw[FT,aK];omega) DI.size;refine⟨_,_,_,rfl,A4,n4,c4,w4,r4,A4,n4,c4,rfl,?_,aN DI g4 fun q hq=>(World.ownsRow.lt HY q hq).1⟩;exact o4
theorem pR{w:World}{N K C:Int}:Calls P 71 #[pC N K C] w fun ev w'=>ev=.returned (.bool (decide (dV N K C)))/\w.grownBy w' none:=by
 apply vc71;dsimp only[VC71,rb,Br,Rd,nb,iq];obtain⟨w1,Dz,g1,b1⟩:=cC w #[.int .u64 N,.int .i64 K,.int .i64 C] 113;rw[← Dz];have key:dV N K C↔N<=4294967296/\1<=K/\K<=1048576/\0<=C/\C<=2147483648:=Iff.rfl;refine⟨N,aA b1 0,fun h1=>⟨K,aA b1 1,fun h2=>⟨K,aA b1 1,fun h3=>⟨C,aA b1 2,fun h4=>⟨C,aA b1 2,?_,g1⟩,fun h4=>⟨?_,g1⟩⟩,fun h3=>⟨?_,g1⟩⟩,fun h2=>⟨?_,g1⟩⟩,fun h1=>⟨?_,g1⟩⟩
 ·rw[decide_eq_decide.2 (show C<=2147483648↔dV N K C by rw[key];omega)]
 all_goals rw[decide_eq_false (by rw[key];omega)]
theorem oI{w:World}{N K C:Int}(h:dV N K C):Calls P 52 #[pC N K C] w fun ev w'=>∃(A:OA)(m k:Nat),ev=.returned (.slice A m k)/\aE w' w.heap.size 5 1 A m k (dB (fX N K C))/\w.grownBy w' none:=by
 apply vc52;dsimp only[VC52,Br,Rd,Rc,Ap,cB,cS,nb,iq]
 try simp only[aI]
 obtain⟨w1,Dz,g1,b1⟩:=cC w #[.int .u64 N,.int .i64 K,.int .i64 C] 113;rw[← Dz];have hk:=h;unfold dV at hk;refine⟨N,aA b1 0,K,aA b1 1,C,aA b1 2,pR.mono fun ev w2 hh=>?_⟩;obtain⟨rfl,g2⟩:=hh;refine⟨_,rfl,fun hf=>absurd h (of_decide_eq_false hf),fun _=>?_⟩;have Ef:=aB g1 g2;have b2:=aD b1 g2;have hl:=wE w2 #[.int .u8 84,.int .u8 71,.int .u8 88,.int .u8 49] 4 4;have rl:=xJ w2 #[.int .u8 84,.int .u8 71,.int .u8 88,.int .u8 49] 5 (4,5);have g3:=World.grownBy_alloc w2 (.cells #[.int .u8 84,.int .u8 71,.int .u8 88,.int .u8 49] 5 (4,5)) none;obtain⟨w3,Ea⟩:∃ w3,w3=w2.alloc (.cells #[.int .u8 84,.int .u8 71,.int .u8 88,.int .u8 49] 5 (4,5)):=⟨_,rfl⟩;have FA:Sem.run P (Go.convert 22 22 (.slice (some ⟨w2.heap.size,0,none⟩) 4 4)) (w2.alloc (.cells #[.int .u8 84,.int .u8 71,.int .u8 88,.int .u8 49] 5))=.ok (.slice (some ⟨w2.heap.size,0,none⟩) 4 4) w3:=by rw[Ea];exact hl
 rw[← Ea]at rl g3;have rl':bF w3 (some ⟨w2.heap.size,0,none⟩) (dB [84,71,88,49]):=rl;have b3:=aD b2 g3;have DF:=aB Ef g3;have z13:=DF.size;refine⟨_,_,_,w3,FA,N,aA b3 0,(cV (v:=N) (n:=8) (by omega)).mono fun ev w4 hh=>?_⟩;obtain⟨A4,n4,c4,rfl,o4,g4⟩:=hh;have EG:n4=(bL N 8).length:=by have:=o4.cases.1;simp at this;omega
 have ED:=aB DF g4;obtain⟨A5,n5,c5,w5,r5,o5,g5⟩:=wO (base:=w.heap.size) ED.size (rl'.kept_none g4) (n:=4) (c:=4) rfl o4.row EG (by rw[EG,aK];omega) (by rw[EG,aK];omega) (by rw[EG,aK];omega);have EQ:=aB ED g5;have b5:=aD (aD b3 g4) g5;have Fg:n5=([84,71,88,49]++bL N 8).length:=by have:=o5.cases.1;simp at this ⊢;omega
 have gd:=aG (aF w5 none);obtain⟨w6,Jo⟩:∃ w6,w6=w5.drew:=⟨_,rfl⟩;refine⟨_,_,_,rfl,A5,n5,c5,w5,r5,?_⟩;rw[← Jo]at gd ⊢;have b6:=aD b5 gd;have HR:=aB EQ gd;have o6:=o5.kp (S:=fun _=>False) (Kp.of_none gd) (fun _ _ e=>e);have far:∀ {X Y:World} {n c:Nat} {A:OA} {xs:List Value},aE X w.heap.size 5 1 A n c xs->X.heap[w.heap.size]?=some (.cells #[.int .u64 N,.int .i64 K,.int .i64 C] 113 (0,0))->X.grownBy Y (Value.slice A n c).ownBlock->Y.heap[w.heap.size]?=some (.cells #[.int .u64 N,.int .i64 K,.int .i64 C] 113 (0,0)):=fun h hb hg=>by
  rw[hg.block _ (Array.getElem?_eq_some_iff.1 hb).1 (fun e=>zE h hb (by decide) e.symm)];exact hb
 refine⟨fun X=>X.heap[w.heap.size]?=some (.cells #[.int .u64 N,.int .i64 K,.int .i64 C] 113 (0,0)),b6,K,aA b6 1,by omega,(cV (v:=K) (n:=4) (by omega)).mono fun ev w7 hh=>?_⟩;obtain⟨A7,n7,c7,rfl,o7,g7⟩:=hh;have Hj:n7=(bL K 4).length:=by have:=o7.cases.1;simp at this;omega
 have g17:=aB HR g7;have GR:=o6.kp (S:=fun _=>False) (Kp.of_none g7) (fun _ _ e=>e);have b7:=aD b6 g7;obtain⟨A8,n8,c8,w8,r8,o8,g8,e8⟩:=bQ GR o7.row Hj (cW o7) (by rw[Fg,Hj];simp[aK]) g17.size;have Kx:=aN g17 g8 fun q hq=>(World.ownsRow.lt GR q hq).1;have b8:=far GR b7 g8;refine⟨_,_,_,rfl,b7,A8,n8,c8,w8,r8,b8,C,fun X hX=>aA hX 2,by omega,(cV (v:=C) (n:=4) (by omega)).mono fun ev w9 hh=>?_⟩;obtain⟨A9,n9,c9,rfl,o9,g9⟩:=hh;have FS:n9=(bL C 4).length:=by have:=o9.cases.1;simp at this;omega
 have Je:=aB Kx g9;have GQ:=o8.kp (S:=fun _=>False) (Kp.of_none g9) (fun _ _ e=>e);have b9:=aD b8 g9;obtain⟨Jg,GS,c10,En,r10,FE,EJ,_⟩:=bQ GQ o9.row FS (cW o9) (by rw[e8,Fg,Hj,FS];simp[aK]) Je.size;have Jd:=aN Je EJ fun q hq=>(World.ownsRow.lt GQ q hq).1;have GP:=far GQ b9 EJ;have FE:aE En w.heap.size 5 1 Jg GS c10 (dB (lG N K C)):=FE;have Hk:GS=(lG N K C).length:=by have:=FE.cases.1;simp at this;omega
 refine⟨_,_,_,rfl,b9,Jg,GS,c10,En,r10,GP,(mP FE.row Hk (cW FE) (vI _ _ _) (by rw[qX];omega)).mono fun ev DC hh=>?_⟩;obtain⟨Lg,Kz,c11,rfl,Jh,HS⟩:=hh;exact⟨_,_,_,rfl,_,_,_,rfl,Jh.mono Jd.size,aB Jd HS⟩
theorem xI{l:List dE}(h:kB l=true):(∀ r∈l,1<=r.len/\r.len<=4294967295/\0<=r.first/\r.first<=4611686018427387903)/\∀ i (h:i+1<l.length),l[i].first<=l[i+1].first:=by
 refine⟨fun r hr=>by have:=kC h r hr;omega,?_⟩;have key:∀ {l:List dE} {last:Int},jD last l=true->∀ i (h:i+1<l.length),l[i].first<=l[i+1].first:=by
  intro l
  induction l with
  | nil=>intro _ _ i hi;simp at hi
  | cons a l ih =>
   intro last h i hi;unfold jD at h;rw[Bool.and_eq_true]at h;cases i with
   | zero =>
    cases l with
    | nil=>simp at hi
    | cons b l=>exact(kC h.2 b (by simp)).2.1
   | succ i=>exact ih h.2 i (by simpa using hi)
 exact key h
theorem uJ{w:World}{A:OA}{n c:Nat}{l:List dE}(hr:bF w A (dC l))(hn:n=l.length)(hl:l.length<=2^40)(DL:kB l=true):
    Calls P 79 #[.slice A n c] w fun ev w'=>ev=.returned (.bool true)/\w.grownBy w' none:=by
  apply vc79;dsimp only[VC79,rb,Br,Rd,Ix,ad,al]
  try simp only[aI]
  obtain⟨hm,hs⟩:=xI DL;refine⟨fun m i W=>∃ p:Nat,i=(p:Int)/\p<=l.length/\m=l.length-p/\w.grownBy W none,⟨_,0,rfl,by omega,rfl,aF _ _⟩,?_⟩;rintro m i W ⟨p,rfl,hp,rfl,gW⟩;have tp:(p:Int).toNat=p:=by omega
  rw[tp];refine⟨fun Dp=>?_,fun Du=>⟨by trivial,gW⟩⟩;have lp:p<l.length:=by omega
  have gd:=aB gW (aG (aF W none));obtain⟨a,e0,f0,f1,f2⟩:=kW (hr.kept_none gd) lp;have KF:=hm _ (List.getElem_mem lp);refine⟨a,e0,by omega,by omega,_,f0,fun h=>by omega,fun _=>⟨a,e0,by omega,by omega,_,f0,fun h=>by omega,fun _=>⟨a,e0,by omega,by omega,_,f1,fun h=>by omega,fun _=>⟨a,e0,by omega,by omega,_,f1,fun h=>by omega,fun _=>⟨fun DQ=>?_,fun hz=>⟨by omega,_,?_,p+1,by omega,by omega,rfl,gd⟩⟩⟩⟩⟩⟩
  · obtain⟨q,rfl⟩:∃ q,p=q+1:=⟨p-1,by omega⟩;have e:(((q+1:Nat):Int)-1).toNat=q:=by omega
    rw[e];obtain⟨b,e0',f0',f1',f2'⟩:=kW (hr.kept_none gd) (show q<l.length by omega);have:=hs q lp;refine⟨a,e0,by omega,by omega,_,f1,by omega,b,e0',by omega,by omega,_,f1',fun h=>by omega,fun _=>⟨by omega,_,?_,q+1+1,by omega,by omega,rfl,gd⟩⟩;omega
  · omega
theorem uP{w:World}{A:OA}{n c:Nat}{l:List dE}(hr:bF w A (dC l))(hn:n=l.length)(hl:l.length<=2^20)(DL:kB l=true)(hN:∀ r∈l,CO r):
    Calls P 55 #[.slice A n c] w fun ev w'=>∃(A':OA)(m k:Nat),ev=.returned (.tuple #[.slice A' m k,.bool true])/\aE w' w.heap.size 5 1 A' m k (dB (jW l))/\w.grownBy w' none:=by
  apply vc55;dsimp only[VC55,rt,Br,Rd,Rc,Ix,Ap,cB,cS,ad,al,iq]
  try simp only[aI]
  refine(uJ hr hn (by omega) DL).mono fun ev w1 hh=>?_;obtain⟨rfl,g1⟩:=hh;refine⟨_,rfl,fun h=>(by cases h),fun _=>?_⟩;refine⟨fun m B k d i W=>∃ p:Nat,i=(p:Int)/\p<=l.length/\m=l.length-p/\aE W w.heap.size 5 1 B k d (dB ((l.take p).flatMap fO))/\w.grownBy W none,⟨_,0,rfl,by omega,rfl,aE.nil _ _ _ _,g1⟩,?_⟩;rintro m B k d i W ⟨p,rfl,hp,rfl,oW,gW⟩;have tp:(p:Int).toNat=p:=by omega
  rw[tp];have hk:k=16*p:=by have h:=oW.cases.1;unfold dB at h;rw[List.length_map,hY,List.length_take]at h;omega
  refine⟨fun Dp=>?_,fun Du=>?_⟩
  · have lp:p<l.length:=by omega
    obtain⟨a,e0,f0,f1,f2⟩:=kW (hr.kept_none gW) lp;obtain⟨q1,q2,q3⟩:=hN _ (List.getElem_mem lp);have ob:=fun {X:World} {n c:Nat} {A:OA} {xs:List Value} (h:aE X w.heap.size 5 1 A n c xs) q (hq:(Value.slice A n c).ownBlock=some q)=>(World.ownsRow.lt h q hq).1;refine⟨a,e0,by omega,by omega,_,f0,by omega,(cV (v:=l[p].len) (n:=4) (by omega)).mono fun ev w4 hh=>?_⟩;obtain⟨A4,n4,c4,rfl,o4,g4⟩:=hh;have EG:n4=(bL l[p].len 4).length:=by have:=o4.cases.1;simp at this;omega
    have oW4:=oW.kp (S:=fun _=>False) (Kp.of_none g4) (fun _ _ e=>e);have D9:=aB gW g4;obtain⟨A5,n5,c5,w5,r5,o5,g5,e5⟩:=bQ oW4 o4.row EG (cW o4) (by rw[hk,EG,aK];omega) D9.size;have GN:=aN D9 g5 fun q hq=>ob oW4 q hq;have gd:=aG (aF w5 none);refine⟨_,_,_,rfl,A5,n5,c5,w5,r5,?_⟩;obtain⟨w5',GZ⟩:∃ w5',w5'=w5.drew:=⟨_,rfl⟩;rw[← GZ]at gd ⊢;have g05':=aB GN gd;have o5':=o5.kp (S:=fun _=>False) (Kp.of_none gd) (fun _ _ e=>e);have at_:∀ {X:World},w.grownBy X none->∃ a,A=some a/\X.cell? (a.add (p*3))=some (.int .i64 l[p].len)/\X.cell? (Addr.add (a.add (p*3)) 1)=some (.int .i64 l[p].first)/\X.cell? (Addr.add (a.add (p*3)) 2)=some (.int .u32 l[p].sum):=fun hX=>kW (hr.kept_none hX) lp;obtain⟨a5,k0,k1,k2,k3⟩:=at_ g05';refine⟨fun X=>w.grownBy X none,g05',a5,k0,by omega,by omega,_,k2,by omega,(cV (v:=l[p].first) (n:=8) (by omega)).mono fun ev w6 hh=>?_⟩;obtain⟨A6,n6,c6,rfl,o6,g6⟩:=hh;have Fy:n6=(bL l[p].first 8).length:=by have:=o6.cases.1;simp at this;omega
    have HW:=o5'.kp (S:=fun _=>False) (Kp.of_none g6) (fun _ _ e=>e);have Gv:=aB g05' g6;obtain⟨A7,n7,c7,w7,r7,o7,g7,e7⟩:=bQ HW o6.row Fy (cW o6) (by rw[e5,hk,EG,Fy,aK,aK];omega) Gv.size;have Jf:=aN Gv g7 fun q hq=>ob HW q hq;refine⟨_,_,_,rfl,Gv,A7,n7,c7,w7,r7,Jf,a5,k0,by omega,by omega,l[p].sum,fun X hX=>?_,by omega,(cV (v:=l[p].sum) (n:=4) (by omega)).mono fun ev w8 hh=>?_⟩
    · obtain⟨b,j0,j1,j2,j3⟩:=at_ hX;rw[k0]at j0;cases j0;exact j3
    obtain⟨A8,n8,c8,rfl,o8,g8⟩:=hh;have Hi:n8=(bL l[p].sum 4).length:=by have:=o8.cases.1;simp at this;omega
    have HV:=o7.kp (S:=fun _=>False) (Kp.of_none g8) (fun _ _ e=>e);have HT:=aB Jf g8;obtain⟨A9,n9,c9,w9,r9,o9,g9,e9⟩:=bQ HV o8.row Hi (cW o8) (by rw[e7,e5,hk,EG,Fy,Hi,aK,aK,aK];omega) HT.size;have GM:=aN HT g9 fun q hq=>ob HV q hq;refine⟨_,_,_,rfl,HT,A9,n9,c9,w9,r9,GM,by omega,l.length-(p+1),by omega,p+1,by omega,by omega,rfl,?_,GM⟩;rw[List.take_succ_eq_append_getElem lp,List.flatMap_append];have:[l[p]].flatMap fO=bL l[p].len 4++(bL l[p].first 8++bL l[p].sum 4):=by simp[fO]
    rw[this,← List.append_assoc,← List.append_assoc];exact o9
  · have EV:p=l.length:=by omega
    subst EV;rw[List.take_length]at oW;obtain⟨A5,n5,c5,w5,r5,o5,g5⟩:=yW gW.size oW (by omega);have GN:=aN gW g5 fun q hq=>(World.ownsRow.lt oW q hq).1;have hP:l.flatMap fO++[88,71,84,49]=jC l:=rfl;rw[hP]at o5;have Fg:n5=(jC l).length:=by have:=o5.cases.1;simp at this;omega
    refine⟨A5,n5,c5,w5,r5,(mP o5.row Fg (cW o5) (uK l) (by rw[jQ];omega)).mono fun ev w6 hh=>?_⟩;obtain⟨A6,n6,c6,rfl,o6,g6⟩:=hh;exact⟨_,_,_,rfl,A6,n6,c6,rfl,o6.mono GN.size,aB GN g6⟩
end Go.Proofs.YtdlomlmijdifbaaGreatDoor

/- The reference's sums, fixed numbers, seals, head, rows: the walks. -/
import Derived.Test.YtdlomlmijdifbaaGreatDoorGWEg
import Derived.Test.YtdlomlmijdifbaaGreatDoorGWZg
set_option linter.unusedVariables false
set_option linter.unusedSimpArgs false
set_option maxHeartbeats 8000000
set_option maxRecDepth 100000
namespace Go.Proofs.YtdlomlmijdifbaaGreatDoor
open Go Go.V Go.RowKit
abbrev AK(x:Int):Int:=kD .xor .u32 4294967295 x
theorem CW:AK 4294967295=0:=by decide +kernel
theorem vR{w:World}{s b:Int}(hb:0<=b/\b<=255)(hs:0<=s/\s<=4294967295):Calls P 78 #[.int .u32 (AK s),.int .u8 b] w fun ev w'=>ev=.returned (.int .u32 (AK (mA s b)))/\w'=w:=by
 apply vc78;dsimp only[VC78,Br];rw[xM hs];simp only[aI];refine⟨by omega,fun m c i w'=>∃ p:Nat,i=(p:Int)/\p<=8/\m=8-p/\c=uN p (kD .xor .u32 s b)/\w'=w,⟨_,0,rfl,by omega,rfl,rfl,rfl⟩,?_⟩;rintro m c i w' ⟨p,rfl,hp,rfl,rfl,rfl⟩;have hr:=mB p (fZ s b);have hn:=sQ p (kD .xor .u32 s b);unfold xG at hn;rw[xP hr];refine⟨fun DL=>⟨fun h1=>⟨by omega,by omega,8-(p+1),by omega,p+1,by omega,by omega,rfl,?_,rfl⟩,fun h1=>⟨by omega,by omega,8-(p+1),by omega,p+1,by omega,by omega,rfl,?_,rfl⟩⟩,fun DR=>?_⟩
 ·rw[hn,if_pos h1];rfl
 ·rw[hn,if_neg h1];rfl
 ·have:p=8:=by omega
  subst this;exact⟨rfl,rfl⟩
theorem yK{w:World}{A B:OA}{n c d:Nat}{l:List Int}(hp:bC w B [.slice A n c])(hr:bC w A (bY l))(hn:n=l.length)(hb:By l)(hl:l.length<=2^40):
    Calls P 54 #[.slice B 1 d] w fun ev w'=>ev=.returned (.int .u32 (nC l))/\w'=w:=by
  apply vc54;dsimp only[VC54,Br,Rd,Rs,Ix,cI]
  try simp only[aI]
  refine⟨fun m s i w'=>(i=0/\m=1/\s=0/\w'=w)∨(i=1/\m=0/\s=nC l/\w'=w),⟨_,.inl ⟨rfl,rfl,rfl,rfl⟩⟩,?_⟩;rintro m s i w' (⟨rfl,rfl,rfl,rfl⟩ | ⟨rfl,rfl,rfl,rfl⟩)
  · refine⟨fun _=>?_,fun h=>absurd (show(0:Int)<((1:Nat):Int) by omega) h⟩;obtain⟨b,eB,fB⟩:=hp 0 (.slice A n c) rfl;refine⟨fun m s i w''=>∃ p:Nat,i=(p:Int)/\p<=l.length/\m=l.length-p/\s=AK (jW 4294967295 (l.take p))/\w''=w',⟨_,0,rfl,by omega,rfl,CW.symm,rfl⟩,?_⟩;rintro m s i w'' ⟨p,rfl,E7,rfl,rfl,rfl⟩;have tp:(p:Int).toNat=p:=by omega
    rw[tp];refine⟨b,eB,by omega,by omega,A,n,c,fB,fun DL=>?_,fun DR=>?_⟩
    · have lp:p<l.length:=by omega
      obtain⟨a,eA,fA⟩:=hr p (.int .u8 l[p]) (by rw[List.getElem?_map,List.getElem?_eq_getElem lp];rfl);refine⟨b,eB,by omega,by omega,A,n,c,fB,a,eA,by omega,by omega,l[p],fA,(vR (hb _ (List.getElem_mem lp)) (sR _ (by omega))).mono fun ev w3 hh=>?_⟩;obtain⟨rfl,rfl⟩:=hh;refine⟨_,rfl,by omega,l.length-(p+1),by omega,p+1,by omega,by omega,rfl,?_,rfl⟩;rw[List.take_succ_eq_append_getElem lp,mC];rfl
    · have Fv:p=l.length:=by omega
      subst Fv;rw[List.take_length];exact⟨by omega,0,by omega,.inr ⟨rfl,rfl,rfl,rfl⟩⟩
  · refine⟨fun h=>absurd h (by omega),fun _=>?_⟩;exact⟨rfl,rfl⟩
theorem dD{w:World}{v:Int}{n:Nat}(hn:n<=8):Calls P 72 #[.int .u64 v,.int .i64 (n:Int)] w fun ev w'=>∃(A:OA)(m k:Nat),ev=.returned (.slice A m k)/\aD w' w.heap.size 5 1 A m k (bY (bP v n))/\w.grownBy w' none:=by
 apply vc72;dsimp only[VC72,Br,Ap,nb]
 try simp only[aI]
 refine⟨fun m B k d i W=>∃ p:Nat,i=(p:Int)/\p<=n/\m=n-p/\aD W w.heap.size 5 1 B k d (bY (bP v p))/\w.grownBy W none,⟨_,0,rfl,by omega,rfl,aD.nil _ _ _ _,aF _ _⟩,?_⟩;rintro m B k d i W ⟨p,rfl,hp,rfl,oW,gW⟩;refine⟨fun DL=>?_,fun DR=>?_⟩
 ·have DO:k=p:=by have:=oW.cases.1;simp[aM]at this;omega
  have e1:min (8*(p:Int)).toNat 64=8*p:=by omega
  have e2:(2:Int)^(8*p)=256^p:=by rw[Int.pow_mul];rfl
  rw[e1,e2];obtain⟨A3,n3,c3,w3,r3,o3,g3,_⟩:=nV (x:=IntKind.wrap .u8 (v / 256^p)) oW (by omega) gW.size;have ob:=fun q hq=>(World.ownsRow.lt oW q hq).1;refine⟨by omega,by omega,A3,n3,c3,w3,r3,by omega,n-(p+1),by omega,p+1,by omega,by omega,rfl,?_,aP gW g3 fun q hq=>ob q hq⟩;rw[sH,← Dg];exact o3
 ·have:p=n:=by omega
  subst this;exact⟨_,_,_,rfl,oW,gW⟩
theorem nI{w:World}{A:OA}{n c:Nat}{l:List Int}(hr:bC w A (bY l))(hn:n=l.length)(hA:A=none->c=0)(hb:By l)(hl:l.length<=2^30):
    Calls P 73 #[.slice A n c] w fun ev w'=>∃(A':OA)(n' c':Nat),ev=.returned (.slice A' n' c')/\aD w' w.heap.size 5 1 A' n' c' (bY (fO l))/\w.grownBy w' none:=by
  apply vc73;dsimp only[VC73,Ap,cI,cS,nb,iq]
  try simp only[aI]
  obtain⟨A1,n1,c1,w1,r1,o1,g1,e1⟩:=cA (base:=w.heap.size) (xs:=[]) (aD.nil w _ _ _) hr hn hA (by omega) (Nat.le_refl _);have g1':=aP (aF w none) g1 fun q hq=>by cases hq
  have g2:=World.grownBy_alloc w1 (.cells #[.slice A n c] 22) none;have rP:bC (w1.alloc (.cells #[.slice A n c] 22)) (some ⟨w1.heap.size,0,none⟩) [.slice A n c]:=lO w1 #[.slice A n c] 22;refine⟨A1,n1,c1,w1,r1,(yK rP ((hr.kept_none g1').kept_none g2) hn hb (by omega)).mono fun ev w2 hh=>?_⟩;obtain⟨rfl,rfl⟩:=hh;have Hu:=xF l;refine⟨_,rfl,by omega,(dD (v:=nC l) (n:=4) (by omega)).mono fun ev w3 hh=>?_⟩;obtain⟨A3,n3,c3,rfl,o3,g3⟩:=hh;have F9:n3=(bP (nC l) 4).length:=by have:=o3.cases.1;simp at this;omega
  have D9:=aB g2 g3;have Jb:=o1.kp (S:=fun _=>False) (Kp.of_none D9) (fun _ _ e=>e);have Ec:=aB g1' D9;obtain⟨A4,n4,c4,w4,r4,o4,g4,_⟩:=cA Jb o3.row F9 (dE o3) (by rw[F9,aM];omega) Ec.size;refine⟨_,_,_,rfl,A4,n4,c4,w4,r4,A4,n4,c4,rfl,?_,aP Ec g4 fun q hq=>(World.ownsRow.lt Jb q hq).1⟩;exact o4
theorem qO{w:World}{N K C:Int}:Calls P 71 #[pZ N K C] w fun ev w'=>ev=.returned (.bool (decide (dX N K C)))/\w.grownBy w' none:=by
 apply vc71;dsimp only[VC71,rb,Br,Rd,nb,iq];obtain⟨w1,DX,g1,b1⟩:=bZ w #[.int .u64 N,.int .i64 K,.int .i64 C] 113;rw[← DX];have key:dX N K C↔N<=4294967296/\1<=K/\K<=1048576/\0<=C/\C<=2147483648:=Iff.rfl;refine⟨N,aA b1 0,fun h1=>⟨K,aA b1 1,fun h2=>⟨K,aA b1 1,fun h3=>⟨C,aA b1 2,fun h4=>⟨C,aA b1 2,?_,g1⟩,fun h4=>⟨?_,g1⟩⟩,fun h3=>⟨?_,g1⟩⟩,fun h2=>⟨?_,g1⟩⟩,fun h1=>⟨?_,g1⟩⟩
 ·rw[decide_eq_decide.2 (show C<=2147483648↔dX N K C by rw[key];omega)]
 all_goals rw[decide_eq_false (by rw[key];omega)]
theorem pE{w:World}{N K C:Int}(h:dX N K C):Calls P 52 #[pZ N K C] w fun ev w'=>∃(A:OA)(m k:Nat),ev=.returned (.slice A m k)/\aD w' w.heap.size 5 1 A m k (bY (gM N K C))/\w.grownBy w' none:=by
 apply vc52;dsimp only[VC52,Br,Rd,Rc,Ap,cB,cS,nb,iq]
 try simp only[aI]
 obtain⟨w1,DX,g1,b1⟩:=bZ w #[.int .u64 N,.int .i64 K,.int .i64 C] 113;rw[← DX];have hk:=h;unfold dX at hk;refine⟨N,aA b1 0,K,aA b1 1,C,aA b1 2,qO.mono fun ev w2 hh=>?_⟩;obtain⟨rfl,g2⟩:=hh;refine⟨_,rfl,fun hf=>absurd h (of_decide_eq_false hf),fun _=>?_⟩;have EN:=aB g1 g2;have b2:=aE b1 g2;have hl:=xH w2 #[.int .u8 84,.int .u8 71,.int .u8 88,.int .u8 49] 4 4;have rl:=yP w2 #[.int .u8 84,.int .u8 71,.int .u8 88,.int .u8 49] 5 (4,5);have g3:=World.grownBy_alloc w2 (.cells #[.int .u8 84,.int .u8 71,.int .u8 88,.int .u8 49] 5 (4,5)) none;obtain⟨w3,EJ⟩:∃ w3,w3=w2.alloc (.cells #[.int .u8 84,.int .u8 71,.int .u8 88,.int .u8 49] 5 (4,5)):=⟨_,rfl⟩;have KD:Sem.run P (Go.convert 22 22 (.slice (some ⟨w2.heap.size,0,none⟩) 4 4)) (w2.alloc (.cells #[.int .u8 84,.int .u8 71,.int .u8 88,.int .u8 49] 5))=.ok (.slice (some ⟨w2.heap.size,0,none⟩) 4 4) w3:=by rw[EJ];exact hl
 rw[← EJ]at rl g3;have rl':bC w3 (some ⟨w2.heap.size,0,none⟩) (bY [84,71,88,49]):=rl;have b3:=aE b2 g3;have D9:=aB EN g3;have z13:=D9.size;refine⟨_,_,_,w3,KD,N,aA b3 0,(dD (v:=N) (n:=8) (by omega)).mono fun ev w4 hh=>?_⟩;obtain⟨A4,n4,c4,rfl,o4,g4⟩:=hh;have ET:n4=(bP N 8).length:=by have:=o4.cases.1;simp at this;omega
 have Ff:=aB D9 g4;obtain⟨A5,n5,c5,w5,r5,o5,g5⟩:=xQ (base:=w.heap.size) Ff.size (rl'.kept_none g4) (n:=4) (c:=4) rfl o4.row ET (by rw[ET,aM];omega) (by rw[ET,aM];omega) (by rw[ET,aM];omega);have Fp:=aB Ff g5;have b5:=aE (aE b3 g4) g5;have Fl:n5=([84,71,88,49]++bP N 8).length:=by have:=o5.cases.1;simp at this ⊢;omega
 have gd:=aG (aF w5 none);obtain⟨w6,Ke⟩:∃ w6,w6=w5.drew:=⟨_,rfl⟩;refine⟨_,_,_,rfl,A5,n5,c5,w5,r5,?_⟩;rw[← Ke]at gd ⊢;have b6:=aE b5 gd;have He:=aB Fp gd;have o6:=o5.kp (S:=fun _=>False) (Kp.of_none gd) (fun _ _ e=>e);have far:∀ {X Y:World} {n c:Nat} {A:OA} {xs:List Value},aD X w.heap.size 5 1 A n c xs->X.heap[w.heap.size]?=some (.cells #[.int .u64 N,.int .i64 K,.int .i64 C] 113 (0,0))->X.grownBy Y (Value.slice A n c).ownBlock->Y.heap[w.heap.size]?=some (.cells #[.int .u64 N,.int .i64 K,.int .i64 C] 113 (0,0)):=fun h hb hg=>by
  rw[hg.block _ (Array.getElem?_eq_some_iff.1 hb).1 (fun e=>Az h hb (by decide) e.symm)];exact hb
 refine⟨fun X=>X.heap[w.heap.size]?=some (.cells #[.int .u64 N,.int .i64 K,.int .i64 C] 113 (0,0)),b6,K,aA b6 1,by omega,(dD (v:=K) (n:=4) (by omega)).mono fun ev w7 hh=>?_⟩;obtain⟨A7,n7,c7,rfl,o7,g7⟩:=hh;have Gz:n7=(bP K 4).length:=by have:=o7.cases.1;simp at this;omega
 have g17:=aB He g7;have HE:=o6.kp (S:=fun _=>False) (Kp.of_none g7) (fun _ _ e=>e);have b7:=aE b6 g7;obtain⟨A8,n8,c8,w8,r8,o8,g8,e8⟩:=cA HE o7.row Gz (dE o7) (by rw[Fl,Gz];simp[aM]) g17.size;have HA:=aP g17 g8 fun q hq=>(World.ownsRow.lt HE q hq).1;have b8:=far HE b7 g8;refine⟨_,_,_,rfl,b7,A8,n8,c8,w8,r8,b8,C,fun X hX=>aA hX 2,by omega,(dD (v:=C) (n:=4) (by omega)).mono fun ev w9 hh=>?_⟩;obtain⟨A9,n9,c9,rfl,o9,g9⟩:=hh;have Ih:n9=(bP C 4).length:=by have:=o9.cases.1;simp at this;omega
 have Hz:=aB HA g9;have HD:=o8.kp (S:=fun _=>False) (Kp.of_none g9) (fun _ _ e=>e);have b9:=aE b8 g9;obtain⟨J6,HF,c10,Eo,r10,Gi,EO,_⟩:=cA HD o9.row Ih (dE o9) (by rw[e8,Fl,Gz,Ih];simp[aM]) Hz.size;have J4:=aP Hz EO fun q hq=>(World.ownsRow.lt HD q hq).1;have FX:=far HD b9 EO;have Gi:aD Eo w.heap.size 5 1 J6 HF c10 (bY (lV N K C)):=Gi;have Ij:HF=(lV N K C).length:=by have:=Gi.cases.1;simp at this;omega
 refine⟨_,_,_,rfl,b9,J6,HF,c10,Eo,r10,FX,(nI Gi.row Ij (dE Gi) (wM _ _ _) (by rw[sG];omega)).mono fun ev D0 hh=>?_⟩;obtain⟨Ma,Ly,c11,rfl,J7,IV⟩:=hh;exact⟨_,_,_,rfl,_,_,_,rfl,J7.mono J4.size,aB J4 IV⟩
theorem yO{l:List dI}(h:kO l=true):(∀ r∈l,1<=r.len/\r.len<=4294967295/\0<=r.first/\r.first<=4611686018427387903)/\∀ i (h:i+1<l.length),l[i].first<=l[i+1].first:=by
 refine⟨fun r hr=>by have:=kP h r hr;omega,?_⟩;have key:∀ {l:List dI} {last:Int},jO last l=true->∀ i (h:i+1<l.length),l[i].first<=l[i+1].first:=by
  intro l
  induction l with
  | nil=>intro _ _ i hi;simp at hi
  | cons a l ih =>
   intro last h i hi;unfold jO at h;rw[Bool.and_eq_true]at h;cases i with
   | zero =>
    cases l with
    | nil=>simp at hi
    | cons b l=>exact(kP h.2 b (by simp)).2.1
   | succ i=>exact ih h.2 i (by simpa using hi)
 exact key h
theorem vN{w:World}{A:OA}{n c:Nat}{l:List dI}(hr:bC w A (dH l))(hn:n=l.length)(hl:l.length<=2^40)(Er:kO l=true):
    Calls P 79 #[.slice A n c] w fun ev w'=>ev=.returned (.bool true)/\w.grownBy w' none:=by
  apply vc79;dsimp only[VC79,rb,Br,Rd,Ix,ad,al]
  try simp only[aI]
  obtain⟨hm,hs⟩:=yO Er;refine⟨fun m i W=>∃ p:Nat,i=(p:Int)/\p<=l.length/\m=l.length-p/\w.grownBy W none,⟨_,0,rfl,by omega,rfl,aF _ _⟩,?_⟩;rintro m i W ⟨p,rfl,hp,rfl,gW⟩;have tp:(p:Int).toNat=p:=by omega
  rw[tp];refine⟨fun DL=>?_,fun DR=>⟨by trivial,gW⟩⟩;have lp:p<l.length:=by omega
  have gd:=aB gW (aG (aF W none));obtain⟨a,e0,f0,f1,f2⟩:=lM (hr.kept_none gd) lp;have LF:=hm _ (List.getElem_mem lp);refine⟨a,e0,by omega,by omega,_,f0,fun h=>by omega,fun _=>⟨a,e0,by omega,by omega,_,f0,fun h=>by omega,fun _=>⟨a,e0,by omega,by omega,_,f1,fun h=>by omega,fun _=>⟨a,e0,by omega,by omega,_,f1,fun h=>by omega,fun _=>⟨fun Ed=>?_,fun hz=>⟨by omega,_,?_,p+1,by omega,by omega,rfl,gd⟩⟩⟩⟩⟩⟩
  · obtain⟨q,rfl⟩:∃ q,p=q+1:=⟨p-1,by omega⟩;have e:(((q+1:Nat):Int)-1).toNat=q:=by omega
    rw[e];obtain⟨b,e0',f0',f1',f2'⟩:=lM (hr.kept_none gd) (show q<l.length by omega);have:=hs q lp;refine⟨a,e0,by omega,by omega,_,f1,by omega,b,e0',by omega,by omega,_,f1',fun h=>by omega,fun _=>⟨by omega,_,?_,q+1+1,by omega,by omega,rfl,gd⟩⟩;omega
  · omega
theorem vS{w:World}{A:OA}{n c:Nat}{l:List dI}(hr:bC w A (dH l))(hn:n=l.length)(hl:l.length<=2^20)(Er:kO l=true)(hN:∀ r∈l,C9 r):
    Calls P 55 #[.slice A n c] w fun ev w'=>∃(A':OA)(m k:Nat),ev=.returned (.tuple #[.slice A' m k,.bool true])/\aD w' w.heap.size 5 1 A' m k (bY (kJ l))/\w.grownBy w' none:=by
  apply vc55;dsimp only[VC55,rt,Br,Rd,Rc,Ix,Ap,cB,cS,ad,al,iq]
  try simp only[aI]
  refine(vN hr hn (by omega) Er).mono fun ev w1 hh=>?_;obtain⟨rfl,g1⟩:=hh;refine⟨_,rfl,fun h=>(by cases h),fun _=>?_⟩;refine⟨fun m B k d i W=>∃ p:Nat,i=(p:Int)/\p<=l.length/\m=l.length-p/\aD W w.heap.size 5 1 B k d (bY ((l.take p).flatMap fU))/\w.grownBy W none,⟨_,0,rfl,by omega,rfl,aD.nil _ _ _ _,g1⟩,?_⟩;rintro m B k d i W ⟨p,rfl,hp,rfl,oW,gW⟩;have tp:(p:Int).toNat=p:=by omega
  rw[tp];have hk:k=16*p:=by have h:=oW.cases.1;unfold bY at h;rw[List.length_map,iL,List.length_take]at h;omega
  refine⟨fun DL=>?_,fun DR=>?_⟩
  · have lp:p<l.length:=by omega
    obtain⟨a,e0,f0,f1,f2⟩:=lM (hr.kept_none gW) lp;obtain⟨q1,q2,q3⟩:=hN _ (List.getElem_mem lp);have ob:=fun {X:World} {n c:Nat} {A:OA} {xs:List Value} (h:aD X w.heap.size 5 1 A n c xs) q (hq:(Value.slice A n c).ownBlock=some q)=>(World.ownsRow.lt h q hq).1;refine⟨a,e0,by omega,by omega,_,f0,by omega,(dD (v:=l[p].len) (n:=4) (by omega)).mono fun ev w4 hh=>?_⟩;obtain⟨A4,n4,c4,rfl,o4,g4⟩:=hh;have ET:n4=(bP l[p].len 4).length:=by have:=o4.cases.1;simp at this;omega
    have oW4:=oW.kp (S:=fun _=>False) (Kp.of_none g4) (fun _ _ e=>e);have EI:=aB gW g4;obtain⟨A5,n5,c5,w5,r5,o5,g5,e5⟩:=cA oW4 o4.row ET (dE o4) (by rw[hk,ET,aM];omega) EI.size;have HB:=aP EI g5 fun q hq=>ob oW4 q hq;have gd:=aG (aF w5 none);refine⟨_,_,_,rfl,A5,n5,c5,w5,r5,?_⟩;obtain⟨w5',HO⟩:∃ w5',w5'=w5.drew:=⟨_,rfl⟩;rw[← HO]at gd ⊢;have g05':=aB HB gd;have o5':=o5.kp (S:=fun _=>False) (Kp.of_none gd) (fun _ _ e=>e);have at_:∀ {X:World},w.grownBy X none->∃ a,A=some a/\X.cell? (a.add (p*3))=some (.int .i64 l[p].len)/\X.cell? (Addr.add (a.add (p*3)) 1)=some (.int .i64 l[p].first)/\X.cell? (Addr.add (a.add (p*3)) 2)=some (.int .u32 l[p].sum):=fun hX=>lM (hr.kept_none hX) lp;obtain⟨a5,k0,k1,k2,k3⟩:=at_ g05';refine⟨fun X=>w.grownBy X none,g05',a5,k0,by omega,by omega,_,k2,by omega,(dD (v:=l[p].first) (n:=8) (by omega)).mono fun ev w6 hh=>?_⟩;obtain⟨A6,n6,c6,rfl,o6,g6⟩:=hh;have F8:n6=(bP l[p].first 8).length:=by have:=o6.cases.1;simp at this;omega
    have I0:=o5'.kp (S:=fun _=>False) (Kp.of_none g6) (fun _ _ e=>e);have Hf:=aB g05' g6;obtain⟨A7,n7,c7,w7,r7,o7,g7,e7⟩:=cA I0 o6.row F8 (dE o6) (by rw[e5,hk,ET,F8,aM,aM];omega) Hf.size;have J5:=aP Hf g7 fun q hq=>ob I0 q hq;refine⟨_,_,_,rfl,Hf,A7,n7,c7,w7,r7,J5,a5,k0,by omega,by omega,l[p].sum,fun X hX=>?_,by omega,(dD (v:=l[p].sum) (n:=4) (by omega)).mono fun ev w8 hh=>?_⟩
    · obtain⟨b,j0,j1,j2,j3⟩:=at_ hX;rw[k0]at j0;cases j0;exact j3
    obtain⟨A8,n8,c8,rfl,o8,g8⟩:=hh;have Ii:n8=(bP l[p].sum 4).length:=by have:=o8.cases.1;simp at this;omega
    have IZ:=o7.kp (S:=fun _=>False) (Kp.of_none g8) (fun _ _ e=>e);have IW:=aB J5 g8;obtain⟨A9,n9,c9,w9,r9,o9,g9,e9⟩:=cA IZ o8.row Ii (dE o8) (by rw[e7,e5,hk,ET,F8,Ii,aM,aM,aM];omega) IW.size;have Gg:=aP IW g9 fun q hq=>ob IZ q hq;refine⟨_,_,_,rfl,IW,A9,n9,c9,w9,r9,Gg,by omega,l.length-(p+1),by omega,p+1,by omega,by omega,rfl,?_,Gg⟩;rw[List.take_succ_eq_append_getElem lp,List.flatMap_append];have:[l[p]].flatMap fU=bP l[p].len 4++(bP l[p].first 8++bP l[p].sum 4):=by simp[fU]
    rw[this,← List.append_assoc,← List.append_assoc];exact o9
  · have Fv:p=l.length:=by omega
    subst Fv;rw[List.take_length]at oW;obtain⟨A5,n5,c5,w5,r5,o5,g5⟩:=Am gW.size oW (by omega);have HB:=aP gW g5 fun q hq=>(World.ownsRow.lt oW q hq).1;have hP:l.flatMap fU++[88,71,84,49]=jN l:=rfl;rw[hP]at o5;have Fl:n5=(jN l).length:=by have:=o5.cases.1;simp at this;omega
    refine⟨A5,n5,c5,w5,r5,(nI o5.row Fl (dE o5) (vO l) (by rw[kB];omega)).mono fun ev w6 hh=>?_⟩;obtain⟨A6,n6,c6,rfl,o6,g6⟩:=hh;exact⟨_,_,_,rfl,A6,n6,c6,rfl,o6.mono HB.size,aB HB g6⟩
end Go.Proofs.YtdlomlmijdifbaaGreatDoor

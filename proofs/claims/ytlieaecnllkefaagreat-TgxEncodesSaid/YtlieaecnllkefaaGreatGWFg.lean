/- Own texts, packed: W21, W22, W23, W24. -/
import Derived.Test.YtlieaecnllkefaaGreatGWEg
import Derived.Test.YtlieaecnllkefaaGreatGWZg
import Derived.Test.YtlieaecnllkefaaGreatGTg
import Derived.Test.YtlieaecnllkefaaGreatR3g
set_option linter.unusedVariables false
set_option linter.unusedSimpArgs false
set_option maxHeartbeats 8000000
set_option maxRecDepth 100000
namespace Go.Proofs.YtlieaecnllkefaaGreat
open Go Go.V Go.RowKit
abbrev BP(x:Int):Int:=dE .xor .u32 4294967295 x
theorem E6:BP 4294967295=0:=by decide +kernel
theorem yj{w:World}{s b:Int}(hb:0<=b/\b<=255)(hs:0<=s/\s<=4294967295):Calls P 81 #[.int .u32 (BP s),.int .u8 b] w fun ev w'=>ev=.returned (.int .u32 (BP (qa s b)))/\w'=w:=by
 apply vc81;dsimp only[VC81,Br];rw[zr hs];simp only[aG];refine⟨by omega,fun m c i w'=>∃ p:Nat,i=(p:Int)/\p<=8/\m=8-p/\c=xL p (dE .xor .u32 s b)/\w'=w,⟨_,0,rfl,by omega,rfl,rfl,rfl⟩,?_⟩;rintro m c i w' ⟨p,rfl,hp,rfl,rfl,rfl⟩;have hr:=qb p (j4 s b);have hn:=wz p (dE .xor .u32 s b);unfold zf at hn;rw[zA hr];refine⟨fun Ge=>⟨fun h1=>⟨by omega,by omega,8-(p+1),by omega,p+1,by omega,by omega,rfl,?_,rfl⟩,fun h1=>⟨by omega,by omega,8-(p+1),by omega,p+1,by omega,by omega,rfl,?_,rfl⟩⟩,fun Gj=>?_⟩
 ·rw[hn,if_pos h1];rfl
 ·rw[hn,if_neg h1];rfl
 ·have:p=8:=by omega
  subst this;exact⟨rfl,rfl⟩
theorem tP{w:World}{A B:OA}{n c d:Nat}{l:List Int}(hp:aY w B [.slice A n c])(hr:aY w A (cy l))(hn:n=l.length)(hb:By l)(hl:l.length<=2^40):
    Calls P 42 #[.slice B 1 d] w fun ev w'=>ev=.returned (.int .u32 (jY l))/\w'=w:=by
  apply vc42;dsimp only[VC42,Br,Rd,Rs,Ix,cI]
  try simp only[aG]
  refine⟨fun m s i w'=>(i=0/\m=1/\s=0/\w'=w)∨(i=1/\m=0/\s=jY l/\w'=w),⟨_,.inl ⟨rfl,rfl,rfl,rfl⟩⟩,?_⟩;rintro m s i w' (⟨rfl,rfl,rfl,rfl⟩ | ⟨rfl,rfl,rfl,rfl⟩)
  · refine⟨fun _=>?_,fun h=>absurd (show(0:Int)<((1:Nat):Int) by omega) h⟩;obtain⟨b,eB,fB⟩:=hp 0 (.slice A n c) rfl;refine⟨fun m s i w''=>∃ p:Nat,i=(p:Int)/\p<=l.length/\m=l.length-p/\s=BP (np 4294967295 (l.take p))/\w''=w',⟨_,0,rfl,by omega,rfl,E6.symm,rfl⟩,?_⟩;rintro m s i w'' ⟨p,rfl,JG,rfl,rfl,rfl⟩;have tp:(p:Int).toNat=p:=by omega
    rw[tp];refine⟨b,eB,by omega,by omega,A,n,c,fB,fun Ge=>?_,fun Gj=>?_⟩
    · have lp:p<l.length:=by omega
      obtain⟨a,eA,fA⟩:=hr p (.int .u8 l[p]) (by rw[List.getElem?_map,List.getElem?_eq_getElem lp];rfl);refine⟨b,eB,by omega,by omega,A,n,c,fB,a,eA,by omega,by omega,l[p],fA,(yj (hb _ (List.getElem_mem lp)) (wA _ (by omega))).mono fun ev w3 hh=>?_⟩;obtain⟨rfl,rfl⟩:=hh;refine⟨_,rfl,by omega,l.length-(p+1),by omega,p+1,by omega,by omega,rfl,?_,rfl⟩;rw[List.take_succ_eq_append_getElem lp,qd];rfl
    · have Ig:p=l.length:=by omega
      subst Ig;rw[List.take_length];exact⟨by omega,0,by omega,.inr ⟨rfl,rfl,rfl,rfl⟩⟩
  · refine⟨fun h=>absurd h (by omega),fun _=>?_⟩;exact⟨rfl,rfl⟩
theorem fh{w:World}{v:Int}{n:Nat}(hn:n<=8):Calls P 75 #[.int .u64 v,.int .i64 (n:Int)] w fun ev w'=>∃(A:OA)(m k:Nat),ev=.returned (.slice A m k)/\aE w' w.heap.size 5 1 A m k (cy (df v n))/\w.grownBy w' none:=by
 apply vc75;dsimp only[VC75,Br,Ap,nb]
 try simp only[aG]
 refine⟨fun m B k d i W=>∃ p:Nat,i=(p:Int)/\p<=n/\m=n-p/\aE W w.heap.size 5 1 B k d (cy (df v p))/\w.grownBy W none,⟨_,0,rfl,by omega,rfl,aE.nil _ _ _ _,aC _ _⟩,?_⟩;rintro m B k d i W ⟨p,rfl,hp,rfl,oW,gW⟩;refine⟨fun Ge=>?_,fun Gj=>?_⟩
 ·have Gi:k=p:=by have:=oW.cases.1;simp[aU]at this;omega
  have e1:min (8*(p:Int)).toNat 64=8*p:=by omega
  have e2:(2:Int)^(8*p)=256^p:=by rw[Int.pow_mul];rfl
  rw[e1,e2];obtain⟨A3,n3,c3,w3,r3,o3,g3,_⟩:=eO (x:=IntKind.wrap .u8 (v / 256^p)) oW (by omega) gW.size;have ob:=fun q hq=>(World.ownsRow.lt oW q hq).1;refine⟨by omega,by omega,A3,n3,c3,w3,r3,by omega,n-(p+1),by omega,p+1,by omega,by omega,rfl,?_,aX gW g3 fun q hq=>ob q hq⟩;rw[nO,← Bv];exact o3
 ·have:p=n:=by omega
  subst this;exact⟨_,_,_,rfl,oW,gW⟩
theorem ru{w:World}{A:OA}{n c:Nat}{l:List Int}(hr:aY w A (cy l))(hn:n=l.length)(hA:A=none->c=0)(hb:By l)(hl:l.length<=2^30):
    Calls P 76 #[.slice A n c] w fun ev w'=>∃(A':OA)(n' c':Nat),ev=.returned (.slice A' n' c')/\aE w' w.heap.size 5 1 A' n' c' (cy (jw l))/\w.grownBy w' none:=by
  apply vc76;dsimp only[VC76,Ap,cI,cS,nb,iq]
  try simp only[aG]
  obtain⟨A1,n1,c1,w1,r1,o1,g1,e1⟩:=aO (base:=w.heap.size) (xs:=[]) (aE.nil w _ _ _) hr hn hA (by omega) (Nat.le_refl _);have g1':=aX (aC w none) g1 fun q hq=>by cases hq
  have g2:=World.grownBy_alloc w1 (.cells #[.slice A n c] 26) none;have rP:aY (w1.alloc (.cells #[.slice A n c] 26)) (some ⟨w1.heap.size,0,none⟩) [.slice A n c]:=im w1 #[.slice A n c] 26;refine⟨A1,n1,c1,w1,r1,(tP rP ((hr.kept_none g1').kept_none g2) hn hb (by omega)).mono fun ev w2 hh=>?_⟩;obtain⟨rfl,rfl⟩:=hh;have Wl:=uT l;refine⟨_,rfl,by omega,(fh (v:=jY l) (n:=4) (by omega)).mono fun ev w3 hh=>?_⟩;obtain⟨A3,n3,c3,rfl,o3,g3⟩:=hh;have I5:n3=(df (jY l) 4).length:=by have:=o3.cases.1;simp at this;omega
  have GO:=aA g2 g3;have SI:=o1.kp (S:=fun _=>False) (Kp.of_none GO) (fun _ _ e=>e);have Gw:=aA g1' GO;obtain⟨A4,n4,c4,w4,r4,o4,g4,_⟩:=aO SI o3.row I5 (bC o3) (by rw[I5,aU];omega) Gw.size;refine⟨_,_,_,rfl,A4,n4,c4,w4,r4,A4,n4,c4,rfl,?_,aX Gw g4 fun q hq=>(World.ownsRow.lt SI q hq).1⟩;exact o4
theorem vn{w:World}{N K C:Int}:Calls P 74 #[jh N K C] w fun ev w'=>ev=.returned (.bool (decide (dP N K C)))/\w.grownBy w' none:=by
 apply vc74;dsimp only[VC74,rb,Br,Rd,nb,iq];obtain⟨w1,Gf,g1,b1⟩:=eT w #[.int .u64 N,.int .i64 K,.int .i64 C] 51;rw[← Gf];have key:dP N K C↔N<=4294967296/\1<=K/\K<=1048576/\0<=C/\C<=2147483648:=Iff.rfl;refine⟨N,aB b1 0,fun h1=>⟨K,aB b1 1,fun h2=>⟨K,aB b1 1,fun h3=>⟨C,aB b1 2,fun h4=>⟨C,aB b1 2,?_,g1⟩,fun h4=>⟨?_,g1⟩⟩,fun h3=>⟨?_,g1⟩⟩,fun h2=>⟨?_,g1⟩⟩,fun h1=>⟨?_,g1⟩⟩
 ·rw[decide_eq_decide.2 (show C<=2147483648↔dP N K C by rw[key];omega)]
 all_goals rw[decide_eq_false (by rw[key];omega)]
theorem tU{w:World}{N K C:Int}(h:dP N K C):Calls P 40 #[jh N K C] w fun ev w'=>∃(A:OA)(m k:Nat),ev=.returned (.slice A m k)/\aE w' w.heap.size 5 1 A m k (cy (gM N K C))/\w.grownBy w' none:=by
 apply vc40;dsimp only[VC40,Br,Rd,Rc,Ap,cB,cS,nb,iq]
 try simp only[aG]
 obtain⟨w1,Gf,g1,b1⟩:=eT w #[.int .u64 N,.int .i64 K,.int .i64 C] 51;rw[← Gf];have hk:=h;unfold dP at hk;refine⟨N,aB b1 0,K,aB b1 1,C,aB b1 2,vn.mono fun ev w2 hh=>?_⟩;obtain⟨rfl,g2⟩:=hh;refine⟨_,rfl,fun hf=>absurd h (of_decide_eq_false hf),fun _=>?_⟩;have HD:=aA g1 g2;have b2:=aF b1 g2;have hl:=sA w2 #[.int .u8 84,.int .u8 71,.int .u8 88,.int .u8 49] 4 4;have rl:=ff w2 #[.int .u8 84,.int .u8 71,.int .u8 88,.int .u8 49] 5 (4,5);have g3:=World.grownBy_alloc w2 (.cells #[.int .u8 84,.int .u8 71,.int .u8 88,.int .u8 49] 5 (4,5)) none;obtain⟨w3,G0⟩:∃ w3,w3=w2.alloc (.cells #[.int .u8 84,.int .u8 71,.int .u8 88,.int .u8 49] 5 (4,5)):=⟨_,rfl⟩;have Ju:Sem.run P (Go.convert 26 26 (.slice (some ⟨w2.heap.size,0,none⟩) 4 4)) (w2.alloc (.cells #[.int .u8 84,.int .u8 71,.int .u8 88,.int .u8 49] 5))=.ok (.slice (some ⟨w2.heap.size,0,none⟩) 4 4) w3:=by rw[G0];exact hl
 rw[← G0]at rl g3;have rl':aY w3 (some ⟨w2.heap.size,0,none⟩) (cy [84,71,88,49]):=rl;have b3:=aF b2 g3;have GO:=aA HD g3;have z13:=GO.size;refine⟨_,_,_,w3,Ju,N,aB b3 0,(fh (v:=N) (n:=8) (by omega)).mono fun ev w4 hh=>?_⟩;obtain⟨A4,n4,c4,rfl,o4,g4⟩:=hh;have Ii:n4=(df N 8).length:=by have:=o4.cases.1;simp at this;omega
 have HN:=aA GO g4;obtain⟨A5,n5,c5,w5,r5,o5,g5⟩:=sF (base:=w.heap.size) HN.size (rl'.kept_none g4) (n:=4) (c:=4) rfl o4.row Ii (by rw[Ii,aU];omega) (by rw[Ii,aU];omega) (by rw[Ii,aU];omega);have JP:=aA HN g5;have b5:=aF (aF b3 g4) g5;have HR:n5=([84,71,88,49]++df N 8).length:=by have:=o5.cases.1;simp at this ⊢;omega
 have gd:=aH (aC w5 none);obtain⟨w6,NU⟩:∃ w6,w6=w5.drew:=⟨_,rfl⟩;refine⟨_,_,_,rfl,A5,n5,c5,w5,r5,?_⟩;rw[← NU]at gd ⊢;have b6:=aF b5 gd;have KN:=aA JP gd;have o6:=o5.kp (S:=fun _=>False) (Kp.of_none gd) (fun _ _ e=>e);have far:∀ {X Y:World} {n c:Nat} {A:OA} {xs:List Value},aE X w.heap.size 5 1 A n c xs->X.heap[w.heap.size]?=some (.cells #[.int .u64 N,.int .i64 K,.int .i64 C] 51 (0,0))->X.grownBy Y (Value.slice A n c).ownBlock->Y.heap[w.heap.size]?=some (.cells #[.int .u64 N,.int .i64 K,.int .i64 C] 51 (0,0)):=fun h hb hg=>by
  rw[hg.block _ (Array.getElem?_eq_some_iff.1 hb).1 (fun e=>eJ h hb (by decide) e.symm)];exact hb
 refine⟨fun X=>X.heap[w.heap.size]?=some (.cells #[.int .u64 N,.int .i64 K,.int .i64 C] 51 (0,0)),b6,K,aB b6 1,by omega,(fh (v:=K) (n:=4) (by omega)).mono fun ev w7 hh=>?_⟩;obtain⟨A7,n7,c7,rfl,o7,g7⟩:=hh;have LF:n7=(df K 4).length:=by have:=o7.cases.1;simp at this;omega
 have Ic:=aA KN g7;have Qz:=o6.kp (S:=fun _=>False) (Kp.of_none g7) (fun _ _ e=>e);have b7:=aF b6 g7;obtain⟨A8,n8,c8,w8,r8,o8,g8,e8⟩:=aO Qz o7.row LF (bC o7) (by rw[HR,LF];simp[aU]) Ic.size;have NI:=aX Ic g8 fun q hq=>(World.ownsRow.lt Qz q hq).1;have b8:=far Qz b7 g8;refine⟨_,_,_,rfl,b7,A8,n8,c8,w8,r8,b8,C,fun X hX=>aB hX 2,by omega,(fh (v:=C) (n:=4) (by omega)).mono fun ev w9 hh=>?_⟩;obtain⟨A9,n9,c9,rfl,o9,g9⟩:=hh;have Nn:n9=(df C 4).length:=by have:=o9.cases.1;simp at this;omega
 have LY:=aA NI g9;have Qy:=o8.kp (S:=fun _=>False) (Kp.of_none g9) (fun _ _ e=>e);have b9:=aF b8 g9;obtain⟨L4,Lr,c10,Gx,r10,J1,HO,_⟩:=aO Qy o9.row Nn (bC o9) (by rw[e8,HR,LF,Nn];simp[aU]) LY.size;have PR:=aX LY HO fun q hq=>(World.ownsRow.lt Qy q hq).1;have Qx:=far Qy b9 HO;have J1:aE Gx w.heap.size 5 1 L4 Lr c10 (cy (na N K C)):=J1;have ON:Lr=(na N K C).length:=by have:=J1.cases.1;simp at this;omega
 refine⟨_,_,_,rfl,b9,L4,Lr,c10,Gx,r10,Qx,(ru J1.row ON (bC J1) (uB _ _ _) (by rw[qL];omega)).mono fun ev GQ hh=>?_⟩;obtain⟨YN,X5,c11,rfl,Uk,KD⟩:=hh;exact⟨_,_,_,rfl,_,_,_,rfl,Uk.mono PR.size,aA PR KD⟩
theorem z6{l:List eG}(h:rowsOk l=true):(∀ r∈l,1<=r.len/\r.len<=4294967295/\0<=r.first/\r.first<=4611686018427387903)/\∀ i (h:i+1<l.length),l[i].first<=l[i+1].first:=by
 refine⟨fun r hr=>by have:=lG h r hr;omega,?_⟩;have key:∀ {l:List eG} {last:Int},gk last l=true->∀ i (h:i+1<l.length),l[i].first<=l[i+1].first:=by
  intro l
  induction l with
  | nil=>intro _ _ i hi;simp at hi
  | cons a l ih =>
   intro last h i hi;unfold gk at h;rw[Bool.and_eq_true]at h;cases i with
   | zero =>
    cases l with
    | nil=>simp at hi
    | cons b l=>exact(lG h.2 b (by simp)).2.1
   | succ i=>exact ih h.2 i (by simpa using hi)
 exact key h
theorem yh{w:World}{A:OA}{n c:Nat}{l:List eG}(hr:aY w A (dX l))(hn:n=l.length)(hl:l.length<=2^40)(hok:rowsOk l=true):
    Calls P 82 #[.slice A n c] w fun ev w'=>ev=.returned (.bool true)/\w.grownBy w' none:=by
  apply vc82;dsimp only[VC82,rb,Br,Rd,Ix,ad,al]
  try simp only[aG]
  obtain⟨hm,hs⟩:=z6 hok;refine⟨fun m i W=>∃ p:Nat,i=(p:Int)/\p<=l.length/\m=l.length-p/\w.grownBy W none,⟨_,0,rfl,by omega,rfl,aC _ _⟩,?_⟩;rintro m i W ⟨p,rfl,hp,rfl,gW⟩;have tp:(p:Int).toNat=p:=by omega
  rw[tp];refine⟨fun Ge=>?_,fun Gj=>⟨by trivial,gW⟩⟩;have lp:p<l.length:=by omega
  have gd:=aA gW (aH (aC W none));obtain⟨a,e0,f0,f1,f2⟩:=jy (hr.kept_none gd) lp;have Yf:=hm _ (List.getElem_mem lp);refine⟨a,e0,by omega,by omega,_,f0,fun h=>by omega,fun _=>⟨a,e0,by omega,by omega,_,f0,fun h=>by omega,fun _=>⟨a,e0,by omega,by omega,_,f1,fun h=>by omega,fun _=>⟨a,e0,by omega,by omega,_,f1,fun h=>by omega,fun _=>⟨fun Gm=>?_,fun hz=>⟨by omega,_,?_,p+1,by omega,by omega,rfl,gd⟩⟩⟩⟩⟩⟩
  · obtain⟨q,rfl⟩:∃ q,p=q+1:=⟨p-1,by omega⟩;have e:(((q+1:Nat):Int)-1).toNat=q:=by omega
    rw[e];obtain⟨b,e0',f0',f1',f2'⟩:=jy (hr.kept_none gd) (show q<l.length by omega);have:=hs q lp;refine⟨a,e0,by omega,by omega,_,f1,by omega,b,e0',by omega,by omega,_,f1',fun h=>by omega,fun _=>⟨by omega,_,?_,q+1+1,by omega,by omega,rfl,gd⟩⟩;omega
  · omega
theorem ym{w:World}{A:OA}{n c:Nat}{l:List eG}(hr:aY w A (dX l))(hn:n=l.length)(hl:l.length<=2^20)(hok:rowsOk l=true)(hN:∀ r∈l,xS r):
    Calls P 43 #[.slice A n c] w fun ev w'=>∃(A':OA)(m k:Nat),ev=.returned (.tuple #[.slice A' m k,.bool true])/\aE w' w.heap.size 5 1 A' m k (cy (kh l))/\w.grownBy w' none:=by
  apply vc43;dsimp only[VC43,rt,Br,Rd,Rc,Ix,Ap,cB,cS,ad,al,iq]
  try simp only[aG]
  refine(yh hr hn (by omega) hok).mono fun ev w1 hh=>?_;obtain⟨rfl,g1⟩:=hh;refine⟨_,rfl,fun h=>(by cases h),fun _=>?_⟩;refine⟨fun m B k d i W=>∃ p:Nat,i=(p:Int)/\p<=l.length/\m=l.length-p/\aE W w.heap.size 5 1 B k d (cy ((l.take p).flatMap iR))/\w.grownBy W none,⟨_,0,rfl,by omega,rfl,aE.nil _ _ _ _,g1⟩,?_⟩;rintro m B k d i W ⟨p,rfl,hp,rfl,oW,gW⟩;have tp:(p:Int).toNat=p:=by omega
  rw[tp];have hk:k=16*p:=by have h:=oW.cases.1;unfold cy at h;rw[List.length_map,jJ,List.length_take]at h;omega
  refine⟨fun Ge=>?_,fun Gj=>?_⟩
  · have lp:p<l.length:=by omega
    obtain⟨a,e0,f0,f1,f2⟩:=jy (hr.kept_none gW) lp;obtain⟨q1,q2,q3⟩:=hN _ (List.getElem_mem lp);have ob:=fun {X:World} {n c:Nat} {A:OA} {xs:List Value} (h:aE X w.heap.size 5 1 A n c xs) q (hq:(Value.slice A n c).ownBlock=some q)=>(World.ownsRow.lt h q hq).1;refine⟨a,e0,by omega,by omega,_,f0,by omega,(fh (v:=l[p].len) (n:=4) (by omega)).mono fun ev w4 hh=>?_⟩;obtain⟨A4,n4,c4,rfl,o4,g4⟩:=hh;have Ii:n4=(df l[p].len 4).length:=by have:=o4.cases.1;simp at this;omega
    have oW4:=oW.kp (S:=fun _=>False) (Kp.of_none g4) (fun _ _ e=>e);have IM:=aA gW g4;obtain⟨A5,n5,c5,w5,r5,o5,g5,e5⟩:=aO oW4 o4.row Ii (bC o4) (by rw[hk,Ii,aU];omega) IM.size;have Jn:=aX IM g5 fun q hq=>ob oW4 q hq;have gd:=aH (aC w5 none);refine⟨_,_,_,rfl,A5,n5,c5,w5,r5,?_⟩;obtain⟨w5',Nd⟩:∃ w5',w5'=w5.drew:=⟨_,rfl⟩;rw[← Nd]at gd ⊢;have g05':=aA Jn gd;have o5':=o5.kp (S:=fun _=>False) (Kp.of_none gd) (fun _ _ e=>e);have at_:∀ {X:World},w.grownBy X none->∃ a,A=some a/\X.cell? (a.add (p*3))=some (.int .i64 l[p].len)/\X.cell? (Addr.add (a.add (p*3)) 1)=some (.int .i64 l[p].first)/\X.cell? (Addr.add (a.add (p*3)) 2)=some (.int .u32 l[p].sum):=fun hX=>jy (hr.kept_none hX) lp;obtain⟨a5,k0,k1,k2,k3⟩:=at_ g05';refine⟨fun X=>w.grownBy X none,g05',a5,k0,by omega,by omega,_,k2,by omega,(fh (v:=l[p].first) (n:=8) (by omega)).mono fun ev w6 hh=>?_⟩;obtain⟨A6,n6,c6,rfl,o6,g6⟩:=hh;have Js:n6=(df l[p].first 8).length:=by have:=o6.cases.1;simp at this;omega
    have J0:=o5'.kp (S:=fun _=>False) (Kp.of_none g6) (fun _ _ e=>e);have NJ:=aA g05' g6;obtain⟨A7,n7,c7,w7,r7,o7,g7,e7⟩:=aO J0 o6.row Js (bC o6) (by rw[e5,hk,Ii,Js,aU,aU];omega) NJ.size;have Nb:=aX NJ g7 fun q hq=>ob J0 q hq;refine⟨_,_,_,rfl,NJ,A7,n7,c7,w7,r7,Nb,a5,k0,by omega,by omega,l[p].sum,fun X hX=>?_,by omega,(fh (v:=l[p].sum) (n:=4) (by omega)).mono fun ev w8 hh=>?_⟩
    · obtain⟨b,j0,j1,j2,j3⟩:=at_ hX;rw[k0]at j0;cases j0;exact j3
    obtain⟨A8,n8,c8,rfl,o8,g8⟩:=hh;have Jr:n8=(df l[p].sum 4).length:=by have:=o8.cases.1;simp at this;omega
    have Lq:=o7.kp (S:=fun _=>False) (Kp.of_none g8) (fun _ _ e=>e);have L3:=aA Nb g8;obtain⟨A9,n9,c9,w9,r9,o9,g9,e9⟩:=aO Lq o8.row Jr (bC o8) (by rw[e7,e5,hk,Ii,Js,Jr,aU,aU,aU];omega) L3.size;have Qw:=aX L3 g9 fun q hq=>ob Lq q hq;refine⟨_,_,_,rfl,L3,A9,n9,c9,w9,r9,Qw,by omega,l.length-(p+1),by omega,p+1,by omega,by omega,rfl,?_,Qw⟩;rw[List.take_succ_eq_append_getElem lp,List.flatMap_append];have:[l[p]].flatMap iR=df l[p].len 4++(df l[p].first 8++df l[p].sum 4):=by simp[iR]
    rw[this,← List.append_assoc,← List.append_assoc];exact o9
  · have Ig:p=l.length:=by omega
    subst Ig;rw[List.take_length]at oW;obtain⟨A5,n5,c5,w5,r5,o5,g5⟩:=va gW.size oW (by omega);have Jn:=aX gW g5 fun q hq=>(World.ownsRow.lt oW q hq).1;have hP:l.flatMap iR++[88,71,84,49]=kN l:=rfl;rw[hP]at o5;have HR:n5=(kN l).length:=by have:=o5.cases.1;simp at this;omega
    refine⟨A5,n5,c5,w5,r5,(ru o5.row HR (bC o5) (tQ l) (by rw[kM];omega)).mono fun ev w6 hh=>?_⟩;obtain⟨A6,n6,c6,rfl,o6,g6⟩:=hh;exact⟨_,_,_,rfl,A6,n6,c6,rfl,o6.mono Jn.size,aA Jn g6⟩
theorem CF(l:List aR)(k p:Nat):dt (gi l k p) (iw l k p)=iw l k (p+1):=by
 unfold iw gi;rw[← pV,Nat.add_mul,Nat.one_mul,List.take_add]
theorem z7{w:World}{A:OA}{n c:Nat}{l:List aR}{N k i:Int}(hr:aY w A (bB l))(hn:n=l.length)(hl:n<=2^20)(hb:f9 l):
    Calls P 17 #[.agg #[.int .u64 N,.slice A n c],.int .i64 k,.int .i64 i] w fun ev w'=>∃(B:OA)(m d:Nat),ev=.returned (.slice B m d)/\aE w' w.heap.size 45 2 B m d (edges (mE N l k i))/\w.grownBy w' none:=by
  apply vc17;dsimp only[VC17,Br,Rd,Rs,cT,nb,iq]
  try simp only[aG]
  obtain⟨w1,Gf,g1,b1⟩:=eT w #[.int .u64 N,.slice A n c] 25;rw[← Gf];refine⟨N,aB b1 0,A,n,c,aB b1 1,(jD (hr.kept_none g1) hn hl hb).mono fun ev w2 hh=>?_⟩;obtain⟨rfl,g2⟩:=hh;have b2:=aF b1 g2;have GP:=aA g1 g2;have no:¬ (rO N l k=0/\0<=i/\i<((l.length:Int)+k-1) / k)->∃(B:OA)(m d:Nat),Ending.returned (.slice none 0 0)=Ending.returned (.slice B m d)/\aE w2 w.heap.size 45 2 B m d (edges (mE N l k i))/\w.grownBy w2 none:=fun h=>by
    have:mE N l k i=[]:=by unfold mE;rw[if_neg h]
    rw[this];exact⟨none,0,0,rfl,aE.nil _ _ _ _,GP⟩
  refine⟨_,_,rfl,fun h=>no fun h'=>h (jr.1 h'.1).1,fun h0=>⟨fun h=>no fun h'=>by have:=jr.1 h'.1;omega,fun h1=>⟨fun h=>no fun h'=>by have:=jr.1 h'.1;omega,fun h2=>⟨fun h=>no fun h'=>by omega,fun h3=>?_⟩⟩⟩⟩;have hd:0<=((n:Int)+k-1) / k:=Int.ediv_nonneg (by omega) (by omega);have JW:((n:Int)+k-1) / k<=(n:Int)+k-1:=Int.ediv_le_self _ (by omega);have Xa:rO N l k=0:=jr.2 ⟨by omega,by omega,by omega⟩;refine⟨A,n,c,aB b2 1,by omega,by omega,⟨by omega,by omega,by omega⟩,fun h=>no fun h'=>by rw[hn]at h;omega,fun h4=>?_⟩;have hi:0<=i/\i<((l.length:Int)+k-1) / k:=by rw[hn]at h4;omega
  have h5:i*k<=(l.length:Int)-1:=by
    have:i+1<=((l.length:Int)+k-1) / k:=by omega
    have:=(Int.le_ediv_iff_mul_le (by omega)).1 this;rw[Int.add_mul,Int.one_mul]at this;omega
  have h6:0<=i*k:=Int.mul_nonneg hi.1 (by omega);have Mv:mE N l k i=fU N l (i*k):=by unfold mE;rw[if_pos ⟨Xa,hi⟩]
  rw[Mv];refine⟨N,aB b2 0,A,n,c,aB b2 1,by omega,(zC (hr.kept_none GP) hn hl hb).mono fun ev w3 hh=>?_⟩;obtain⟨B,m,d,rfl,o3,g3⟩:=hh;exact⟨_,_,_,_,rfl,B,m,d,rfl,o3.mono GP.size,aA GP g3⟩
theorem yp{w:World}{A:OA}{n c:Nat}{l:List aR}{N k:Int}(hr:aY w A (bB l))(hn:n=l.length)(hl:n<=2^20)(hb:f9 l)(he:rO N l k≠0):
    Calls P 14 #[.agg #[.int .u64 N,.slice A n c],.int .i64 k] w fun ev w'=>ev=.returned (.tuple #[.slice none 0 0,.int .i64 (rO N l k)])/\w.grownBy w' none:=by
  apply vc14;dsimp only[VC14,rt,Br,Rd,Rc,Rs,Ix,Ap,cI,cS,cT,nb,ad,al,iq]
  try simp only[aG]
  obtain⟨w1,Gf,g1,b1⟩:=eT w #[.int .u64 N,.slice A n c] 25;rw[← Gf];refine⟨N,aB b1 0,A,n,c,aB b1 1,(jD (hr.kept_none g1) hn hl hb).mono fun ev w2 hh=>?_⟩;obtain⟨rfl,g2⟩:=hh;have GP:=aA g1 g2;refine⟨_,_,rfl,fun h=>⟨?_,GP⟩,fun h0=>⟨fun h=>⟨?_,GP⟩,fun h1=>⟨fun h=>⟨?_,GP⟩,fun h2=>absurd (jr.2 ⟨by omega,by omega,by omega⟩) he⟩⟩⟩
  · unfold rO;rw[if_pos h]
  · unfold rO;rw[if_neg h0,if_pos (.inl h)]
  · unfold rO;rw[if_neg h0,if_pos (.inr (by omega))]
theorem vp{w:World}{A:OA}{n c:Nat}{l:List aR}{N:Int}{k:Nat}(hr:aY w A (bB l))(hn:n=l.length)(hc:n<=c)(hA:A=none->c=0)(h:cH N l)(hk:1<=k/\k<=1048576):
    Calls P 14 #[.agg #[.int .u64 N,.slice A n c],.int .i64 (k:Int)] w fun ev w'=>∃(A':OA)(n' c':Nat),ev=.returned (.tuple #[.slice A' n' c',.int .i64 0])/\aE w' w.heap.size 5 1 A' n' c' (cy (fe N l k))/\w.grownBy w' none:=by
  apply vc14;dsimp only[VC14,rt,Br,Rd,Rc,Rs,Ix,Ap,cI,cS,cT,nb,ad,al,iq]
  try simp only[aG,mnI]
  have hl:=h.len;obtain⟨w1,Gf,g1,b1⟩:=eT w #[.int .u64 N,.slice A n c] 25;rw[← Gf];refine⟨N,aB b1 0,A,n,c,aB b1 1,(jD (hr.kept_none g1) hn (by omega) h.evtsU).mono fun ev w2 hh=>?_⟩;obtain⟨rfl,g2⟩:=hh;have O5:dP N k l.length:=by have:=h.n;unfold dP;omega
  have b2:=aF b1 g2;have GP:=aA g1 g2;refine⟨_,_,rfl,fun e=>absurd h.chk e,fun _=>⟨fun e=>absurd e (by omega),fun _=>⟨fun e=>absurd e (by omega),fun _=>⟨N,aB b2 0,A,n,c,aB b2 1,?_⟩⟩⟩⟩;rw[hn];refine(tU O5).mono fun ev w4 hh=>?_;obtain⟨A4,n4,c4,rfl,o4,g4⟩:=hh;have b4:=aF b2 g4;have IM:=aA GP g4;have e00:iw l k 0=[]:=by simp[iw,dt]
  obtain⟨m,hm⟩:∃ m,m=fL l.length k:=⟨_,rfl⟩;have Nq:m<=l.length:=by rw[hm];exact pN hk.1
  refine⟨_,_,_,rfl,fun q B d e R s t NA nn nc x W=>∃ p:Nat,x=((p*k:Nat):Int)/\p<=m/\q=m-p/\aE W w2.heap.size 5 1 B d e (cy (gM N k l.length++cV l k p))/\aE W w2.heap.size 60 3 R s t (dX (d9 l k p))/\aE W w2.heap.size 45 2 NA nn nc (edges (iw l k p))/\w2.grownBy W none,
    ⟨_,0,by simp,by omega,rfl,by simpa[cV]using o4,aE.nil _ _ _ _,by rw[e00];exact aE.nil _ _ _ _,g4⟩,?_⟩
  rintro q B d e R s t NA nn nc x W ⟨p,rfl,hp,rfl,oW,rW,oK,gW⟩;obtain⟨IE,LC,Xd⟩:=yB oK;have MA:∀ X,w2.grownBy X none->X.heap[w.heap.size]?=some (.cells #[.int .u64 N,.slice A n c] 25 (0,0)):=fun X hX=>aF b2 hX;have Pt:(cV l k p).length<=9480*p:=h.bodiesLen hk.1 (by omega);have hd:d=24+(cV l k p).length:=by have h':=oW.cases.1;unfold cy at h';rw[List.length_map,List.length_append,fM]at h';omega
  have hs:s=p:=by have h':=rW.cases.1;rw[fH,dY]at h';omega
  have ob:=fun {X:World} {n c sz:Nat} {ty:TypeId} {A:OA} {xs:List Value} (h:aE X w2.heap.size ty sz A n c xs) q (hq:(Value.slice A n c).ownBlock=some q)=>(World.ownsRow.lt h q hq).1;have tpk:((p*k:Nat):Int).toNat=p*k:=by omega
  rw[tpk];refine⟨A,n,c,aB (MA W gW) 1,fun Ge=>?_,fun Gj=>?_⟩
  · have HK:p*k<l.length:=by omega
    have lp:p<m:=by rw[hm];exact(fK hk.1).2 HK
    have HY:(min (((p*k:Nat):Int)+(k:Int)) (n:Int)).toNat-p*k=(gi l k p).length:=by rw[ko];omega
    have Pm:(gi l k p).length<=l.length-p*k:=by rw[ko];omega
    have rows:=AY (k:=p*k) ((hr.kept_none GP).kept_none gW) hA (by omega:l.length<=c);have rev:aY W (bK A c (p*k) 4) (bB (gi l k p)):=qB rows.1 k;have Nr:=h.keyLen (k:=k) (i:=p);have Pj:=h.evLen (k:=k) (i:=p);have IU:=h.blk hk.1 HK;have Gh:=xE (l:=l) hk.1 HK;have Gm:0<(gi l k p).length:=List.length_pos_iff.2 Gh;refine⟨A,n,c,aB (MA W gW) 1,by omega,A,n,c,aB (MA W gW) 1,⟨by omega,by omega,by omega,by omega⟩,?_⟩;rw[HY];refine(Aa oK.row IE LC Xd rev rfl (by omega) (by omega) IU.adj IU.del Gh).mono fun ev W1 hh=>?_;obtain⟨A3,n3,c3,rfl,o3,g3⟩:=hh;have Su:CY (iw l k p) (gi l k p)=0:=by unfold CY;rw[if_pos IU.fit]
    have Sd:CX (nQ (gi l k p)) (iw l k p) (gi l k p)=dy l k p:=by unfold CX;rw[if_pos IU.fit];rfl
    rw[Sd]at o3;rw[Su];have gW1:=aA gW g3;have I6:=h.blen hk.1 HK;have I5:n3=(dy l k p).length:=by have h':=o3.cases.1;unfold cy at h';rw[List.length_map]at h';omega
    have gd:=aH (aC W1 none);obtain⟨W2,JX⟩:∃ W2,W2=W1.drew:=⟨_,rfl⟩;refine⟨_,_,_,_,rfl,?_⟩;rw[← JX]at gd ⊢;have gW2:=aA gW1 gd;obtain⟨a68,ea⟩:∃ a,bK A c (p*k) 4=some a:=by
      obtain⟨a,e1,_⟩:=dz rev Gm;exact⟨a,e1⟩
    rw[ea]at rev ⊢;have rev0:aY w2 (some a68) (bB (gi l k p)):=by rw[← ea];exact qB (AY (k:=p*k) (hr.kept_none GP) hA (by omega:l.length<=c)).1 k
    have gA:=World.grownBy_alloc W2 (.cells #[.slice A3 n3 c3] 26) none;have rA:aY (W2.alloc (.cells #[.slice A3 n3 c3] 26)) (some ⟨W2.heap.size,0,none⟩) [.slice A3 n3 c3]:=im W2 #[.slice A3 n3 c3] 26;have gW3:=aA gW2 gA;have QA:=o3.kp (S:=fun _=>False) (Kp.of_none (aA gd gA)) (fun _ _ e=>e);refine⟨fun X=>w2.grownBy X none,gW2,a68,rfl,by omega,by omega,nQ (gi l k p),fun X hX=>xC rev0 Gh hX,gW3,(tP rA QA.row I5 h.bodyBy (by omega)).mono fun ev W3' hh=>?_⟩;obtain⟨rfl,rfl⟩:=hh;obtain⟨W3,LS⟩:∃ W3,W3=W2.alloc (.cells #[.slice A3 n3 c3] 26):=⟨_,rfl⟩;rw[← LS]at gA gW3 QA ⊢;have gB:=World.grownBy_alloc W3 (.cells #[.int .i64 (n3:Int),.int .i64 (nQ (gi l k p)),.int .u32 (jY (dy l k p))] 60) none;have rB:=im W3 #[.int .i64 (n3:Int),.int .i64 (nQ (gi l k p)),.int .u32 (jY (dy l k p))] 60;refine⟨_,rfl,gW3,?_⟩;obtain⟨W4,Lg⟩:∃ W4,W4=W3.alloc (.cells #[.int .i64 (n3:Int),.int .i64 (nQ (gi l k p)),.int .u32 (jY (dy l k p))] 60):=⟨_,rfl⟩;rw[← Lg]at gB rB;have gW4:=aA gW3 gB;have rB':aY W4 (some ⟨W3.heap.size,0,none⟩) (dX [iQ l k p]):=by
      have:dX [iQ l k p]=[.int .i64 (n3:Int),.int .i64 (nQ (gi l k p)),.int .u32 (jY (dy l k p))]:=by simp[dX,wQ,iQ,I5]
      rw[this];exact rB
    have g04':=aA g3 (aA gd (aA gA gB));have rW4:=rW.kp (S:=fun _=>False) (Kp.of_none g04') (fun _ _ e=>e);have oW4:=oW.kp (S:=fun _=>False) (Kp.of_none g04') (fun _ _ e=>e);have PV:=QA.kp (S:=fun _=>False) (Kp.of_none gB) (fun _ _ e=>e);obtain⟨R',s',t',W5,r5,o5,g5⟩:=pz (d:=1) rW4 rB' (by omega) gW4.size;have gW5:=aX gW4 g5 fun q hq=>ob rW4 q hq;rw[← Lg];have lowA:∀ q,(Value.slice A3 n3 c3).ownBlock=some q->W.heap.size<=q:=fun q hq=>(World.ownsRow.lt o3 q hq).1;have oW5:=oW4.kp (Kp.of_grown g5) (fun q hq e=>by
      obtain⟨cur,Gt⟩:=oW4.block_type q hq;exact eJ rW4 Gt (by decide) e.symm)
    have PU:=PV.kp (Kp.of_grown g5) (fun q hq e=>by
      obtain⟨cur,Gt⟩:=PV.block_type q hq;exact eJ rW4 Gt (by decide) e.symm)
    obtain⟨A6,n6,c6,W6,r6,o6,g6,_⟩:=aO oW5 PU.row I5 (bC PU) (by omega) gW5.size;have gW6:=aX gW5 g6 fun q hq=>ob oW5 q hq;have J0:=o5.kp (Kp.of_grown g6) (fun q hq e=>by
      obtain⟨cur,Gt⟩:=o5.block_type q hq;exact eJ oW5 Gt (by decide) e.symm)
    have oK4:=oK.kp (S:=fun _=>False) (Kp.of_none g04') (fun _ _ e=>e);have oK5:=oK4.kp (Kp.of_grown g5) (fun q hq e=>by
      obtain⟨cur,Gt⟩:=oK4.block_type q hq;exact eJ rW4 Gt (by decide) e.symm)
    have oK6:=oK5.kp (Kp.of_grown g6) (fun q hq e=>by
      obtain⟨cur,Gt⟩:=oK5.block_type q hq;exact eJ oW5 Gt (by decide) e.symm)
    refine⟨gW4,R',s',t',W5,r5,gW5,A6,n6,c6,W6,r6,fun q2 NB nb cb j X=>∃ jj:Nat,j=(jj:Int)/\jj<=(gi l k p).length/\q2=(gi l k p).length-jj/\aE X w2.heap.size 45 2 NB nb cb (edges (dt ((gi l k p).take jj) (iw l k p)))/\W6.grownBy X none,⟨_,0,rfl,by omega,rfl,by simpa[dt]using oK6,aC _ _⟩,?_⟩;rintro q2 NB nb cb j X ⟨jj,rfl,Tn,rfl,oB,gX⟩;obtain⟨Mp,Q9,Sf⟩:=yB oB;have tj:(jj:Int).toNat=jj:=by omega
    rw[tj];have gX2:=aA gW6 gX;have LN:=fN ((gi l k p).take jj) (iw l k p);rw[List.length_take]at LN;refine⟨fun GK=>?_,fun IS=>?_⟩
    · have lj:jj<(gi l k p).length:=by omega
      obtain⟨a,e1,e2,e3,e4,e5⟩:=dz (rev0.kept_none gX2) lj;refine⟨a,e1,by omega,by omega,_,e2,_,e3,_,e4,_,e5,(jN (e:=(gi l k p)[jj]) oB.row Mp Q9 Sf (by omega)).mono fun ev X1 hh=>?_⟩;obtain⟨A7,n7,c7,rfl,o7,g7⟩:=hh;have I2:(gi l k p).take (jj+1)=(gi l k p).take jj++[(gi l k p)[jj]]:=List.take_succ_eq_append_getElem lj;refine⟨_,_,_,_,rfl,by omega,_,?_,jj+1,by omega,by omega,rfl,?_,aA gX g7⟩
      · omega
      · rw[I2,md];exact o7.mono gX2.size
    · have:jj=(gi l k p).length:=by omega
      subst this;rw[List.take_length,CF]at oB;have oX:=o6.kp (S:=fun _=>False) (Kp.of_none gX) (fun _ _ e=>e);have rX:=J0.kp (S:=fun _=>False) (Kp.of_none gX) (fun _ _ e=>e);refine⟨by omega,m-(p+1),by omega,p+1,?_,by omega,rfl,?_,?_,oB,gX2⟩
      · rw[Nat.add_mul,Nat.one_mul];omega
      · rw[iF,← List.append_assoc];exact oX
      · rw[jS];exact rX
  · have KG:p=m:=by
      have:¬ p<m:=by rw[hm,fK hk.1];omega
      omega
    subst KG;have hR:∀ r∈d9 l k p,xS r:=fun r hr=>by
      unfold d9 at hr;obtain⟨i,hi,rfl⟩:=List.mem_map.1 hr;exact h.rowN hk.1 ((fK hk.1).1 (by rw[← hm];simpa using hi))
    refine(ym rW.row (by rw[dY];exact hs) (by rw[dY];omega) (h.rowsOk hk.1 (by omega)) hR).mono fun ev W1 hh=>?_;obtain⟨A5,n5,c5,rfl,o5,g5'⟩:=hh;have oW1:=oW.kp (S:=fun _=>False) (Kp.of_none g5') (fun _ _ e=>e);have gW1:=aA gW g5';have HR:n5=(kh (d9 l k p)).length:=by have h':=o5.cases.1;unfold cy at h';rw[List.length_map]at h';omega
    obtain⟨A6,n6,c6,W2,r6,o6,g6,_⟩:=aO oW1 o5.row HR (bC o5) (by rw[HR,jG,dY];omega) gW1.size;have gW2:=aX gW1 g6 fun q hq=>ob oW1 q hq;refine⟨_,_,_,_,rfl,A6,n6,c6,W2,r6,A6,n6,c6,rfl,?_,aA GP gW2⟩;rw[List.append_assoc]at o6;have Kj:fe N l k=gM N k l.length++(cV l k p++kh (d9 l k p)):=by unfold fe;rw[← hm]
    rw[Kj];exact o6.mono GP.size
theorem FX{w:World}{a:Addr}{v:Value}(h:w.cell? a=some v):a.block<w.heap.size:=by
 unfold World.cell? at h;split at h
 ·rename_i hb;exact(Array.getElem?_eq_some_iff.1 hb).1
 ·cases h
theorem AB {w:World} {A:OA} {n c:Nat} {l:List aR} {N:Int} (hr:aY w A (bB l)) (hn:n=l.length) (hc:n<=c) (hA:A=none->c=0) (hl:n<=2^20) (hU:f9 l) (hT:∀ e∈l,0<=e.t/\e.t<=4611686018427387903) :
    Calls P 10 #[.agg #[.int .u64 N,.slice A n c]] w fun ev w'=>∃(A':OA)(n' c':Nat)(l':List aR),ev=.returned (.agg #[.int .u64 N,.slice A' n' c'])/\aY w' A' (bB l')/\n'=l'.length/\n'<=c'/\(A'=none->c'=0)/\f9 l'/\l'.length=l.length/\w.grownBy w' none:=by
  apply vc10;dsimp only[VC10,Wt,Br,Rd,Rs,Ix,Ap,Ws,nb,ad,al,iq]
  try simp only[aG]
  obtain⟨w0,Hd,g0,b0⟩:=eT w #[.int .u64 N,.slice A n c] 25;rw[← Hd];obtain⟨w1,Gf,g1,b1⟩:=eT w0 #[.int .u64 0,.slice none 0 0] 25;rw[← Gf];have G7:=aA g0 g1;have NL:=aF b0 g1
  -- Mk it ends
  have fin:∀(W:World)(A':OA)(n' c':Nat)(l':List aR),W.heap[w0.heap.size]?=some (.cells #[.int .u64 0,.slice none 0 0] 25 (0,0))->aY W A' (bB l')->(∀ a,A'=some a->l'=[]∨a.block≠w0.heap.size)->w.grownBy W none →
      (∃ uv_:Value,W.cell? ⟨w0.heap.size,0,none⟩=some uv_)/\W.frozen? ⟨w0.heap.size,0,none⟩=false/\(∃ uv_:Value,(W.setCell ⟨w0.heap.size,0,none⟩ (.int .u64 N)).cell? ⟨w0.heap.size,1,none⟩=some uv_)/\(W.setCell ⟨w0.heap.size,0,none⟩ (.int .u64 N)).frozen? ⟨w0.heap.size,1,none⟩=false ∧
      ((W.setCell ⟨w0.heap.size,0,none⟩ (.int .u64 N)).setCell ⟨w0.heap.size,1,none⟩ (.slice A' n' c')).cell? ⟨w0.heap.size,0,none⟩=some (.int .u64 N)/\((W.setCell ⟨w0.heap.size,0,none⟩ (.int .u64 N)).setCell ⟨w0.heap.size,1,none⟩ (.slice A' n' c')).cell? ⟨w0.heap.size,1,none⟩=some (.slice A' n' c') ∧
      aY ((W.setCell ⟨w0.heap.size,0,none⟩ (.int .u64 N)).setCell ⟨w0.heap.size,1,none⟩ (.slice A' n' c')) A' (bB l')/\w.grownBy ((W.setCell ⟨w0.heap.size,0,none⟩ (.int .u64 N)).setCell ⟨w0.heap.size,1,none⟩ (.slice A' n' c')) none:=by
    intro W A' n' c' l' Hq ho Gh hg;have s1:=aI Hq 0 (.int .u64 N);have s2:=aI s1 1 (.slice A' n' c');refine⟨⟨_,aB Hq 0⟩,aD Hq 0,⟨_,aB s1 1⟩,aD s1 1,by rw[aB s2 0];rfl,by rw[aB s2 1];rfl,?_,?_⟩
    · exact ho.kpE (bL (bL (Kp.refl W (fun q=>q=w0.heap.size)) rfl) rfl) (fun a ha=>(Gh a ha).imp (fun e=>by rw[e];rfl) id)
    · exact(bL (bL (Kp.of_none (S:=fun q=>w.heap.size<=q) hg) g0.size) g0.size).grown (fun q hq e=>by omega)
  have rowlt:∀ {X:World} {A':OA} {l':List aR},aY X A' (bB l')->∀ a,A'=some a->l'=[]∨a.block<X.heap.size:=by
    intro X A' l' h a ha;cases l' with
    | nil=>exact .inl rfl
    | cons e r =>
      right;obtain⟨b,e1,e2,_⟩:=dz h (show 0<(e ::r).length by simp);rw[ha]at e1;cases e1;rw[Nat.zero_mul,F7]at e2;exact FX e2
  refine⟨A,n,c,aB NL 1,fun h0=>?_,fun h0=>?_⟩
  · obtain⟨f1,f2,f3,f4,f5,f6,f7,f8⟩:=fin w1 A n c l b1 (hr.kept_none G7) (fun a ha=>(rowlt hr a ha).imp id (fun h=>by have:=g0.size;omega)) G7;exact⟨N,aB NL 0,A,n,c,aB NL 1,f1,f2,f3,f4,N,f5,A,n,c,f6,A,n,c,l,rfl,f7,hn,hc,hA,hU,rfl,f8⟩
  have lpos:n-1<l.length:=by omega
  have e1:((n:Int)-1).toNat=n-1:=by omega
  rw[e1];obtain⟨a0,q1,q2,_⟩:=dz (hr.kept_none G7) lpos;have ht:=hT _ (List.getElem_mem lpos);obtain⟨d,hd⟩:∃ d:Int,d=4611686018427387903-l[n-1].t:=⟨_,rfl⟩;refine⟨A,n,c,aB NL 1,by omega,a0,q1,by omega,by omega,_,q2,by omega,N,aB NL 0,?_⟩;rw[← hd];obtain⟨w2,hO,pO0,qO0,pO1,qO1,bO,gO⟩:=se w1 25 (.int .u64 0) (.slice none 0 0) (.int .u64 N) (.slice none 0 0);refine⟨pO0,qO0,pO1,qO1,?_⟩;rw[← hO];have z1:w.heap.size<w0.heap.size:=(Array.getElem?_eq_some_iff.1 b0).1;have z2:w0.heap.size<w1.heap.size:=(Array.getElem?_eq_some_iff.1 b1).1;have GP:=aA G7 gO;have oc:=fun {X:World} {n c:Nat} {A:OA} {xs:List Value} (h:aE X w.heap.size 62 4 A n c xs) q (hq:(Value.slice A n c).ownBlock=some q)=>(World.ownsRow.lt h q hq).1;refine⟨fun m i W=>∃(p:Nat)(B:OA)(bn bc:Nat),i=(p:Int)/\p<=l.length/\m=l.length-p/\W.heap[w.heap.size]?=some (.cells #[.int .u64 N,.slice A n c] 25 (0,0))/\W.heap[w0.heap.size]?=some (.cells #[.int .u64 0,.slice none 0 0] 25 (0,0))/\W.heap[w1.heap.size]?=some (.cells #[.int .u64 N,.slice B bn bc] 25 (0,0))/\aE W w.heap.size 62 4 B bn bc (bB ((l.take p).map (xr d)))/\w.grownBy W none,
    ⟨_,0,none,0,0,rfl,by omega,rfl,aF NL gO,aF b1 gO,bO,aE.nil _ _ _ _,GP⟩,?_⟩
  rintro m i W ⟨p,B,bn,bc,rfl,hp,rfl,k0,k1,k2,oB,gW⟩;have tp:(p:Int).toNat=p:=by omega
  rw[tp];have Kr:bn=p:=by have h':=oB.cases.1;rw[dg,List.length_map,List.length_take]at h';omega
  refine⟨fun Ge=>?_,fun Gj=>?_⟩
  · have lp:p<l.length:=by omega
    obtain⟨a,f1,f2,f3,f4,f5⟩:=dz (hr.kept_none gW) lp;have WP:=hT _ (List.getElem_mem lp);refine⟨A,n,c,aB k0 1,a,f1,by omega,by omega,_,f2,_,f3,_,f4,_,f5,?_⟩;obtain⟨e,he⟩:∃ e,e=l[p]:=⟨_,rfl⟩;rw[← he]at WP ⊢;obtain⟨w5,hE,pE0,qE0,pE1,qE1,pE2,qE2,pE3,qE3,bE,gE⟩:=sc W 62 (.int .i64 0) (.int .u32 0) (.int .u32 0) (.bool false) (.int .i64 e.t) (.int .u32 e.u) (.int .u32 e.v) (.bool e.add);refine⟨pE0,qE0,pE1,qE1,pE2,qE2,pE3,qE3,e.t,?_⟩;rw[← hE];have s1:=aI bE 0 (.int .i64 (e.t+d));have z5:W.heap.size<w5.heap.size:=(Array.getElem?_eq_some_iff.1 bE).1;have zW:=gW.size;have gS:W.grownBy (w5.setCell ⟨W.heap.size,0,none⟩ (.int .i64 (e.t+d))) none:=(bL (Kp.of_none (S:=fun q=>W.heap.size<=q) gE) (Nat.le_refl _)).grown (fun q hq e=>by omega);refine⟨aB bE 0,by omega,⟨_,aB bE 0⟩,aD bE 0,B,bn,bc,?_⟩;obtain⟨w6,NU⟩:∃ w6,w6=w5.setCell ⟨W.heap.size,0,none⟩ (.int .i64 (e.t+d)):=⟨_,rfl⟩;rw[← NU]at gS s1 ⊢;have s1:w6.heap[W.heap.size]?=some (.cells #[.int .i64 (e.t+d),.int .u32 e.u,.int .u32 e.v,.bool e.add] 62 (0,0)):=s1;have k0':=aF k0 gS;have k1':=aF k1 gS;have k2':=aF k2 gS;refine⟨aB k2' 1,_,aB s1 0,_,aB s1 1,_,aB s1 2,_,aB s1 3,?_⟩;have gA:=World.grownBy_alloc w6 (.cells #[.int .i64 (e.t+d),.int .u32 e.u,.int .u32 e.v,.bool e.add] 62) none;have rA:=im w6 #[.int .i64 (e.t+d),.int .u32 e.u,.int .u32 e.v,.bool e.add] 62;have rA':aY (w6.alloc (.cells #[.int .i64 (e.t+d),.int .u32 e.u,.int .u32 e.v,.bool e.add] 62)) (some ⟨w6.heap.size,0,none⟩) (bB [xr d e]):=rA;have g7:=aA gS gA;have oB7:=oB.kp (S:=fun _=>False) (Kp.of_none g7) (fun _ _ e=>e);obtain⟨A8,n8,c8,w8,r8,o8,g8,_⟩:=dJ (m:=1) (d:=1) oB7 rA' rfl (fun h=>by cases h) (by omega) (aA gW g7).size;have L3:=aX (aA gW g7) g8 fun q hq=>oc oB7 q hq;have far:∀ {k:Nat} {cur:Array Value},W.heap[k]?=some (.cells cur 25 (0,0))->w8.heap[k]?=some (.cells cur 25 (0,0)):=fun hb=>by
      have Hr:=aF hb g7;rw[g8.block _ (Array.getElem?_eq_some_iff.1 Hr).1 (fun e=>eJ oB7 Hr (by decide) e.symm)];exact Hr
    have m0:=far k0;have m1:=far k1;have m2:=far k2;have t2:=aI m2 1 (.slice A8 n8 c8);have Gh:=eJ o8 m2 (by decide);refine⟨A8,n8,c8,w8,r8,⟨_,aB m2 1⟩,aD m2 1,by omega,_,?_,p+1,A8,n8,c8,by omega,by omega,rfl,jF m0 (p:=⟨w1.heap.size,1,none⟩) (by show w1.heap.size≠_;omega) _,jF m1 (p:=⟨w1.heap.size,1,none⟩) (by show w1.heap.size≠_;omega) _,by simpa using t2,?_,(bL (Kp.of_none (S:=fun q=>w.heap.size<=q) L3) G7.size).grown (fun q hq e=>by omega)⟩
    · omega
    · have I2:l.take (p+1)=l.take p++[e]:=by rw[he];exact List.take_succ_eq_append_getElem lp
      rw[I2,List.map_append];exact aE.kp o8 (bL (Kp.refl w8 (fun q=>q=w1.heap.size)) rfl) (fun q hq e=>by subst e;exact Gh hq)
  · have Ig:p=l.length:=by omega
    subst Ig;rw[List.take_length]at oB;have TT:f9 (l.map (xr d)):=fun x hx=>by
      obtain⟨e,he,rfl⟩:=List.mem_map.1 hx;exact hU e he
    obtain⟨f1,f2,f3,f4,f5,f6,f7,f8⟩:=fin W B bn bc (l.map (xr d)) k1 oB.row (fun a ha=>by
      rcases oB.cases.2 with⟨h1,_⟩ | ⟨gq,cur,h1,_,_,_,h2,_⟩
      · rw[h1]at ha;cases ha
      · rw[h1]at ha;cases ha;right;intro e;rw[show gq=w0.heap.size from e,k1]at h2;cases h2) gW
    exact⟨N,aB k2 0,B,bn,bc,aB k2 1,f1,f2,f3,f4,N,f5,B,bn,bc,f6,B,bn,bc,_,rfl,f7,by rw[Kr,List.length_map],fl oB,bC oB,TT,by simp,f8⟩
structure kw(w:World)(N:Int)(A:OA)(n c:Nat)(L:List aR):Prop where
 row:aY w A (bB L)
 len:n=L.length
 le:n<=c
 nil:A=none->c=0
 few:L.length<=49
 u:f9 L
 pos:0<=N
theorem kw.kept{w w':World}{N:Int}{A:OA}{n c:Nat}{L:List aR}(h:kw w N A n c L)(g:w.grownBy w' none):kw w' N A n c L:=⟨h.row.kept_none g,h.len,h.le,h.nil,h.few,h.u,h.pos⟩
def mC(N:Int)(L:List aR)(k:Int):List Int:=if rO N L k=0 then fe N L k.toNat else []
theorem kw.good{w:World}{N k:Int}{A:OA}{n c:Nat}{L:List aR}(h:kw w N A n c L)(he:rO N L k=0):cH N L:=by
 have h1:=lg.1 (jr.1 he).1;exact⟨h1.2.2,fun e he=>(h.u e he).1.1,h.few,h.pos,h1.1⟩
theorem kw.enc{w:World}{N k:Int}{A:OA}{n c:Nat}{L:List aR}(h:kw w N A n c L):
    Calls P 13 #[.agg #[.int .u64 N,.slice A n c],.int .i64 k] w fun ev w'=>∃(A':OA)(n' c':Nat),ev=.returned (.tuple #[.slice A' n' c',.int .i64 (rO N L k)])/\n'=(mC N L k).length/\aY w' A' (cy (mC N L k))/\w.grownBy w' none:=by
  by_cases he:rO N L k=0
  · have hk:=(jr.1 he).2;obtain⟨q,hq⟩:∃ q:Nat,k=(q:Int):=⟨k.toNat,by omega⟩;subst hq;refine(jB h.row h.len h.le h.nil (h.good he) (by omega)).mono fun ev w1 hh=>?_;obtain⟨A',n',c',rfl,o,g⟩:=hh;have hf:mC N L (q:Int)=fe N L q:=by unfold mC;rw[if_pos he];rfl
    rw[hf,he];exact⟨_,_,_,rfl,by have h':=o.cases.1;unfold cy at h';rw[List.length_map]at h';omega,o.row,g⟩
  · refine(uN h.row h.len (by have:=h.few;have:=h.len;omega) h.u he).mono fun ev w1 hh=>?_;obtain⟨rfl,g⟩:=hh;have hf:mC N L k=[]:=by unfold mC;rw[if_neg he]
    rw[hf];exact⟨_,_,_,rfl,rfl,aY.nil _ _,g⟩
theorem kw.renc{w:World}{N k:Int}{A:OA}{n c:Nat}{L:List aR}(h:kw w N A n c L):
    Calls P 14 #[.agg #[.int .u64 N,.slice A n c],.int .i64 k] w fun ev w'=>∃(A':OA)(n' c':Nat),ev=.returned (.tuple #[.slice A' n' c',.int .i64 (rO N L k)])/\n'=(mC N L k).length/\aY w' A' (cy (mC N L k))/\w.grownBy w' none:=by
  by_cases he:rO N L k=0
  · have hk:=(jr.1 he).2;obtain⟨q,hq⟩:∃ q:Nat,k=(q:Int):=⟨k.toNat,by omega⟩;subst hq;refine(vp h.row h.len h.le h.nil (h.good he) (by omega)).mono fun ev w1 hh=>?_;obtain⟨A',n',c',rfl,o,g⟩:=hh;have hf:mC N L (q:Int)=fe N L q:=by unfold mC;rw[if_pos he];rfl
    rw[hf,he];exact⟨_,_,_,rfl,by have h':=o.cases.1;unfold cy at h';rw[List.length_map]at h';omega,o.row,g⟩
  · refine(yp h.row h.len (by have:=h.few;have:=h.len;omega) h.u he).mono fun ev w1 hh=>?_;obtain⟨rfl,g⟩:=hh;have hf:mC N L k=[]:=by unfold mC;rw[if_neg he]
    rw[hf];exact⟨_,_,_,rfl,rfl,aY.nil _ _,g⟩
theorem kw.key{w:World}{N k i:Int}{A:OA}{n c:Nat}{L:List aR}(h:kw w N A n c L):
    Calls P 16 #[.agg #[.int .u64 N,.slice A n c],.int .i64 k,.int .i64 i] w fun ev w'=>∃(B:OA)(m d:Nat),ev=.returned (.slice B m d)/\aE w' w.heap.size 45 2 B m d (edges (mE N L k i))/\w.grownBy w' none :=
  sg h.row h.len h.le h.nil h.pos (by have:=h.few;have:=h.len;omega) h.u
theorem kw.rkey{w:World}{N k i:Int}{A:OA}{n c:Nat}{L:List aR}(h:kw w N A n c L):
    Calls P 17 #[.agg #[.int .u64 N,.slice A n c],.int .i64 k,.int .i64 i] w fun ev w'=>∃(B:OA)(m d:Nat),ev=.returned (.slice B m d)/\aE w' w.heap.size 45 2 B m d (edges (mE N L k i))/\w.grownBy w' none :=
  z7 h.row h.len (by have:=h.few;have:=h.len;omega) h.u
open Go Go.V Go.ChangeShapes Go.WideShapes Go.ChangeAt Go.RowKit
theorem Am{H:Type}{enc:TypeId×Value->H}{W:World}{r:Reach}{b:Nat}{v:Value}{d:DataW H}{p:List MemPlace}(hok:Value.okWide P W r b 25 v)(h:DataW.Trod enc P W 0 (fun _=>true) true 25 v d p):
    ∃(N:Int)(A:OA)(n c:Nat)(l:List aR),v=.agg #[.int .u64 N,.slice A n c]/\n=l.length/\n<=c/\(A=none->c=0)/\aY W A (bB l)/\f9 l/\0<=N:=by
  obtain⟨v0,v1,y0,y1,k,rfl,rfl,rfl,h0,h1⟩:=Go.Joins.open_agg2 Tryz.underlying25 (by kernel_rfl) (by kernel_rfl) hok h;obtain⟨N,e0,_,w0⟩:=DataW.trod_int Tryz.underlying22 h0;obtain⟨A,n,c,l,e1,q1,q2,q3,q4,q5⟩:=Ck h1;cases e0;cases e1;exact⟨N,A,n,c,l,rfl,q1,q2,q3,q4,q5,(FH w0).1⟩
theorem yM(N:Int)(L:List aR)(k i:Int):(mE N L k i).length<=L.length:=by
 unfold mE;split
 ·unfold fU;split
  ·simp
  ·have h1:=fN (L.take (i*k).toNat) [];have h2:(L.take (i*k).toNat).length<=L.length:=by rw[List.length_take];omega
   simp only[List.length_nil,Nat.zero_add]at h1;omega
 ·simp
theorem tg{w:World}{RN k what at_ v size i:Int}{RA A:OA}{rn rc n c:Nat}{RL:List aR}{l:List Int}
    (hR:aY w RA (bB RL)) (WU:rn=RL.length) (WV:rn<=rc) (WX:RA=none->rc=0) (WW:f9 RL) (Qo:0<=RN) (hk:0<=k/\k<=255) (GM:aY w A (cy l)) (hn:n=l.length) (hb:aW l) (hw:0<=what/\what<=255) (Iz:0<=at_/\at_<=255) (hv:-9223372036854775808<=v/\v<=9223372036854775807) (HF:-9223372036854775808<=size/\size<=9223372036854775807) (hi:-9223372036854775808<=i/\i<=9223372036854775807) :
    Calls P 3 #[.agg #[.int .u64 RN,.slice RA rn rc],.int .u8 k,.slice A n c,.int .u8 what,.int .u8 at_,.int .i64 v,.int .i64 size,.int .i64 i] w fun ev w'=>ev=.returned (.bool true)/\w.grownBy w' none:=by
  apply vc3;dsimp only[VC3,rb,Wt,Br,Bb,Rd,Rc,Rs,Ix,Eg,Cv,Ws,cI,cB,cS,cT,nb,ad,al,iq]
  try simp only[aG]
  obtain⟨w0,Hd,g0,b0⟩:=eT w #[.int .u64 RN,.slice RA rn rc] 25;rw[← Hd];refine vu.mono fun ev w1 hh=>?_;obtain⟨rfl,G7⟩:=hh;have g1:=aA g0 G7;have b1:=aF b0 G7;refine⟨true,rfl,fun h=>absurd h (by simp),fun _=>⟨_,_,_,aB b1 1,fun _=>⟨by trivial,g1⟩,fun YL=>⟨fun _=>⟨by trivial,g1⟩,fun YJ=>?_⟩⟩⟩;have hG:=AH (k:=k) hb (by omega);have T5:=sj (k:=k) hb (by omega);refine(vy (GM.kept_none g1) hn hb hk (by omega)).mono fun ev w2 hh=>?_;have Xj:=mB k l;obtain⟨L,hL⟩:∃ L,L=iB k l:=⟨_,rfl⟩;obtain⟨N,hN⟩:∃ N,N=j9 k:=⟨_,rfl⟩;rw[← hL,← hN]at hh hG T5;rw[← hL]at Xj;obtain⟨A2,n2,c2,rfl,o2,g2⟩:=hh;have Ir:n2=L.length:=by have:=o2.cases.1;rw[dg]at this;omega
  have hU:f9 L:=hG.evtsU;have hT:∀ e∈L,0<=e.t/\e.t<=4611686018427387903:=fun e he=>by have:=T5.2 e he;omega
  obtain⟨w3,hH,pH0,qH0,pH1,qH1,bH,gH⟩:=se w2 25 (.int .u64 0) (.slice none 0 0) (.int .u64 N) (.slice A2 n2 c2);refine⟨_,_,_,_,rfl,pH0,qH0,pH1,qH1,?_⟩;rw[← hH];have gd:=aH (aC w3 none);obtain⟨w4,HU⟩:∃ w4,w4=w3.drew:=⟨_,rfl⟩;rw[← HU]at gd ⊢;have b4:=aF bH gd;have JY:=aA gH gd;have r4:=aF b1 (aA g2 JY);have row4:=o2.row.kept_none JY;refine⟨fun W=>w4.grownBy W none,aC _ _,_,fun W g=>aB (aF r4 g) 0,_,_,_,fun W g=>aB (aF r4 g) 1,_,fun W g=>aB (aF b4 g) 0,_,_,_,fun W g=>aB (aF b4 g) 1,_,aB b4 0,_,_,_,aB b4 1,(AB row4 Ir (fl o2) (bC o2) (by omega) hU hT).mono fun ev w5 hh=>?_⟩;obtain⟨A5,n5,c5,L5,rfl,row5,HR,Wu,Up,WO,Mu,g5⟩:=hh;refine⟨_,_,_,_,rfl,g5,_,fun W g=>aB (aF b4 g) 0,_,_,_,fun W g=>aB (aF b4 g) 1,(Bk (N:=N) (v:=v) (row4.kept_none g5) Ir (bC o2) (by omega) hU hw Iz).mono fun ev w6 hh=>?_⟩;obtain⟨N6,A6,n6,c6,L6,rfl,o6,⟨WN,Sg⟩,Ym,g6⟩:=hh;have Js:n6=L6.length:=by have:=o6.cases.1;rw[dg]at this;omega
  have JO:=aA g5 g6;refine⟨_,_,_,_,rfl,JO,?_⟩;obtain⟨w7,NT,g7,b7⟩:=eT w6 #[.int .u64 RN,.slice RA rn rc,.int .u64 N,.slice A2 n2 c2,.int .u64 N,.slice A5 n5 c5,.int .u64 N6,.slice A6 n6 c6] 25;rw[← NT];have Jm:=aA JO g7;have Nb:=aA g1 (aA g2 (aA JY Jm));have VM:∀ j:Nat,j<4->∃(NX:Int)(AX:OA)(nX cX:Nat)(LX:List aR),(∀ W,w7.grownBy W none->W.cell? ⟨w6.heap.size,j*2,none⟩=some (.int .u64 NX)/\W.cell? ⟨w6.heap.size,j*2+1,none⟩=some (.slice AX nX cX))/\kw w7 NX AX nX cX LX:=by
    intro j hj;have:j=0∨j=1∨j=2∨j=3:=by omega
    rcases this with rfl | rfl | rfl | rfl
    · exact⟨RN,RA,rn,rc,RL,fun W g=>⟨aB (aF b7 g) 0,aB (aF b7 g) 1⟩,hR.kept_none Nb,WU,WV,WX,by omega,WW,Qo⟩
    · exact⟨N,A2,n2,c2,L,fun W g=>⟨aB (aF b7 g) 2,aB (aF b7 g) 3⟩,row4.kept_none Jm,Ir,fl o2,bC o2,by omega,hU,hG.n.1⟩
    · exact⟨N,A5,n5,c5,L5,fun W g=>⟨aB (aF b7 g) 4,aB (aF b7 g) 5⟩,row5.kept_none (aA g6 g7),HR,Wu,Up,by omega,WO,hG.n.1⟩
    · exact⟨N6,A6,n6,c6,L6,fun W g=>⟨aB (aF b7 g) 6,aB (aF b7 g) 7⟩,o6.row.kept_none g7,Js,fl o6,bC o6,by omega,WN,Sg hG.n.1⟩
  refine⟨Jm,fun q x W=>∃ j:Nat,x=(j:Int)/\j<=4/\q=4-j/\w7.grownBy W none,⟨_,0,rfl,by omega,rfl,aC _ _⟩,?_⟩;rintro q x w8 ⟨j,rfl,hj,rfl,g8⟩;have tj:(j:Int).toNat=j:=by omega
  rw[tj];refine⟨fun Ge=>?_,fun Gj=>⟨by trivial,aA Nb g8⟩⟩;obtain⟨NX,AX,nX,cX,LX,TM,okX⟩:=VM j (by omega);refine⟨_,rfl,by omega,by omega,NX,by rw[iG];exact(TM w8 g8).1,AX,nX,cX,by rw[dw,iG];exact(TM w8 g8).2,?_⟩;obtain⟨w9,hX,pX0,qX0,pX1,qX1,bX,gX⟩:=se w8 25 (.int .u64 0) (.slice none 0 0) (.int .u64 NX) (.slice AX nX cX);refine⟨pX0,qX0,pX1,qX1,?_⟩;rw[← hX];refine(yg hw.1).mono fun ev Gx hh=>?_;obtain⟨rfl,HO⟩:=hh;refine⟨_,rfl,?_⟩;obtain⟨GQ,Mb,KD,Uj⟩:=eT Gx #[.int .i64 size,.int .i64 (BC what:Int)] 3;rw[← Mb];have bX11:=aF bX (aA HO KD);have PP:=aA gX (aA HO KD);have okX11:=(okX.kept g8).kept PP;have ks:∀ jj:Nat,jj<2->∃ z:Int,∀ W,GQ.grownBy W none->W.cell? ⟨Gx.heap.size,jj,none⟩=some (.int .i64 z):=by
    intro jj Tn;have:jj=0∨jj=1:=by omega
    rcases this with rfl | rfl
    · exact⟨_,fun W g=>aB (aF Uj g) 0⟩
    · exact⟨_,fun W g=>aB (aF Uj g) 1⟩
  refine⟨fun q2 y W=>∃ jj:Nat,y=(jj:Int)/\jj<=2/\q2=2-jj/\GQ.grownBy W none,⟨_,0,rfl,by omega,rfl,aC _ _⟩,?_⟩;rintro q2 y HQ ⟨jj,rfl,Tn,rfl,HD⟩;have tjj:(jj:Int).toNat=jj:=by omega
  rw[tjj];refine⟨fun GK=>?_,fun IS=>⟨by omega,_,?_,j+1,by omega,by omega,rfl,aA g8 (aA PP HD)⟩⟩
  · obtain⟨z,hz⟩:=ks jj (by omega);have bX12:=aF bX11 HD;have okX12:=okX11.kept HD;refine⟨_,rfl,by omega,by omega,z,by rw[iG];exact hz HQ HD,NX,aB bX12 0,AX,nX,cX,aB bX12 1,(okX12.enc (k:=z)).mono fun ev HP hh=>?_⟩;obtain⟨F,fn,fc,rfl,Pe,rF,GO⟩:=hh;have bX13:=aF bX12 GO;have okX13:=okX12.kept GO;refine⟨_,_,_,_,rfl,NX,aB bX13 0,AX,nX,cX,aB bX13 1,(okX13.renc (k:=z)).mono fun ev JZ hh=>?_⟩;obtain⟨E,en,ec,rfl,Tw,rE,HN⟩:=hh;have gd14:=aH (aC JZ none);obtain⟨Lp,NV⟩:∃ Lp,Lp=JZ.drew:=⟨_,rfl⟩;have JP:JZ.grownBy Lp none:=by rw[NV];exact gd14
    have KB:=aA GO (aA HN JP);have bX15:=aF bX12 KB;have okX15:=okX12.kept KB;refine⟨_,_,_,_,rfl,fun h=>absurd rfl h,fun _=>⟨_,fp (rF.kept_none HN) Pe,_,fp rE Tw,_,fun w=>tO _ _ _ _ w,fun h=>by simp at h,fun _=>?_⟩⟩;rw[← NV];refine⟨fun X=>Lp.grownBy X none,aC _ _,NX,aB bX15 0,AX,nX,cX,aB bX15 1,(okX15.key (k:=z) (i:=i)).mono fun ev L7 hh=>?_⟩;obtain⟨K1,kn1,kc1,rfl,oK1,KN⟩:=hh;refine⟨_,_,_,rfl,KN,NX,fun W g=>aB (aF bX15 g) 0,AX,nX,cX,fun W g=>aB (aF bX15 g) 1,((okX15.kept KN).rkey (k:=z) (i:=i)).mono fun ev X4 hh=>?_⟩;obtain⟨K2,kn2,kc2,rfl,oK2,Ic⟩:=hh;have Nr:=yM NX LX z i;have V0:=okX.few;have L2:=aA KN Ic;refine⟨_,_,_,rfl,L2,(my (oK1.row.kept_none Ic) (yB oK1).1 oK2.row (yB oK2).1 (by have:=(yB oK1).1;omega)).mono fun ev X0 hh=>?_⟩;obtain⟨rfl,NI⟩:=hh;have JC:=aA L2 NI;have bX18:=aF bX15 JC;have okX18:=okX15.kept JC;refine⟨_,rfl,JC,fun h=>by simp at h,fun _=>⟨NX,aB bX18 0,AX,nX,cX,aB bX18 1,(okX18.key (k:=z) (i:=dE .and .i64 i 7)).mono fun ev XY hh=>?_⟩⟩;obtain⟨K3,kn3,kc3,rfl,oK3,LY⟩:=hh;have L1:=aA JC LY;refine⟨_,_,_,rfl,L1,NX,fun W g=>aB (aF bX15 g) 0,AX,nX,cX,fun W g=>aB (aF bX15 g) 1,((okX18.kept LY).rkey (k:=z) (i:=dE .and .i64 i 7)).mono fun ev XX hh=>?_⟩;obtain⟨K4,kn4,kc4,rfl,oK4,PR⟩:=hh;have VD:=yM NX LX z (dE .and .i64 i 7);have L0:=aA L1 PR;refine⟨_,_,_,rfl,L0,(my (oK3.row.kept_none PR) (yB oK3).1 oK4.row (yB oK4).1 (by have:=(yB oK3).1;omega)).mono fun ev XU hh=>?_⟩;obtain⟨rfl,XI⟩:=hh;have LZ:=aA L0 XI;refine⟨_,rfl,LZ,fun h=>by simp at h,fun _=>⟨by omega,_,?_,jj+1,by omega,by omega,rfl,aA HD (aA KB LZ)⟩⟩;omega
  · omega
end Go.Proofs.YtlieaecnllkefaaGreat

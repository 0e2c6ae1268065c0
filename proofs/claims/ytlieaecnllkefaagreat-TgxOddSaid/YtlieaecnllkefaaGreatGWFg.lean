/- Own texts, packed: W21, W22. -/
import Derived.Test.YtlieaecnllkefaaGreatGWEg
import Derived.Test.YtlieaecnllkefaaGreatGWZg
set_option linter.unusedVariables false
set_option linter.unusedSimpArgs false
set_option maxHeartbeats 8000000
set_option maxRecDepth 100000
namespace Go.Proofs.YtlieaecnllkefaaGreat
open Go Go.V Go.RowKit
abbrev BC(x:Int):Int:=dD .xor .u32 4294967295 x
theorem EK:BC 4294967295=0:=by decide +kernel
theorem yi{w:World}{s b:Int}(hb:0<=b/\b<=255)(hs:0<=s/\s<=4294967295):Calls P 81 #[.int .u32 (BC s),.int .u8 b] w fun ev w'=>ev=.returned (.int .u32 (BC (qh s b)))/\w'=w:=by
 apply vc81;dsimp only[VC81,Br];rw[zm hs];simp only[aG];refine⟨by omega,fun m c i w'=>∃ p:Nat,i=(p:Int)/\p<=8/\m=8-p/\c=xK p (dD .xor .u32 s b)/\w'=w,⟨_,0,rfl,by omega,rfl,rfl,rfl⟩,?_⟩;rintro m c i w' ⟨p,rfl,hp,rfl,rfl,rfl⟩;have hr:=qk p (j9 s b);have hn:=wC p (dD .xor .u32 s b);unfold y9 at hn;rw[zu hr];refine⟨fun FP=>⟨fun h1=>⟨by omega,by omega,8-(p+1),by omega,p+1,by omega,by omega,rfl,?_,rfl⟩,fun h1=>⟨by omega,by omega,8-(p+1),by omega,p+1,by omega,by omega,rfl,?_,rfl⟩⟩,fun FU=>?_⟩
 ·rw[hn,if_pos h1];rfl
 ·rw[hn,if_neg h1];rfl
 ·have:p=8:=by omega
  subst this;exact⟨rfl,rfl⟩
theorem tS{w:World}{A B:OA}{n c d:Nat}{l:List Int}(hp:aZ w B [.slice A n c])(hr:aZ w A (bY l))(hn:n=l.length)(hb:By l)(hl:l.length<=2^40):
    Calls P 42 #[.slice B 1 d] w fun ev w'=>ev=.returned (.int .u32 (jw l))/\w'=w:=by
  apply vc42;dsimp only[VC42,Br,Rd,Rs,Ix,cI]
  try simp only[aG]
  refine⟨fun m s i w'=>(i=0/\m=1/\s=0/\w'=w)∨(i=1/\m=0/\s=jw l/\w'=w),⟨_,.inl ⟨rfl,rfl,rfl,rfl⟩⟩,?_⟩;rintro m s i w' (⟨rfl,rfl,rfl,rfl⟩ | ⟨rfl,rfl,rfl,rfl⟩)
  · refine⟨fun _=>?_,fun h=>absurd (show(0:Int)<((1:Nat):Int) by omega) h⟩;obtain⟨b,eB,fB⟩:=hp 0 (.slice A n c) rfl;refine⟨fun m s i w''=>∃ p:Nat,i=(p:Int)/\p<=l.length/\m=l.length-p/\s=BC (nt 4294967295 (l.take p))/\w''=w',⟨_,0,rfl,by omega,rfl,EK.symm,rfl⟩,?_⟩;rintro m s i w'' ⟨p,rfl,Jn,rfl,rfl,rfl⟩;have tp:(p:Int).toNat=p:=by omega
    rw[tp];refine⟨b,eB,by omega,by omega,A,n,c,fB,fun FP=>?_,fun FU=>?_⟩
    · have lp:p<l.length:=by omega
      obtain⟨a,eA,fA⟩:=hr p (.int .u8 l[p]) (by rw[List.getElem?_map,List.getElem?_eq_getElem lp];rfl);refine⟨b,eB,by omega,by omega,A,n,c,fB,a,eA,by omega,by omega,l[p],fA,(yi (hb _ (List.getElem_mem lp)) (wD _ (by omega))).mono fun ev w3 hh=>?_⟩;obtain⟨rfl,rfl⟩:=hh;refine⟨_,rfl,by omega,l.length-(p+1),by omega,p+1,by omega,by omega,rfl,?_,rfl⟩;rw[List.take_succ_eq_append_getElem lp,qo];rfl
    · have HO:p=l.length:=by omega
      subst HO;rw[List.take_length];exact⟨by omega,0,by omega,.inr ⟨rfl,rfl,rfl,rfl⟩⟩
  · refine⟨fun h=>absurd h (by omega),fun _=>?_⟩;exact⟨rfl,rfl⟩
theorem fj{w:World}{v:Int}{n:Nat}(hn:n<=8):Calls P 75 #[.int .u64 v,.int .i64 (n:Int)] w fun ev w'=>∃(A:OA)(m k:Nat),ev=.returned (.slice A m k)/\aE w' w.heap.size 5 1 A m k (bY (db v n))/\w.grownBy w' none:=by
 apply vc75;dsimp only[VC75,Br,Ap,nb]
 try simp only[aG]
 refine⟨fun m B k d i W=>∃ p:Nat,i=(p:Int)/\p<=n/\m=n-p/\aE W w.heap.size 5 1 B k d (bY (db v p))/\w.grownBy W none,⟨_,0,rfl,by omega,rfl,aE.nil _ _ _ _,aC _ _⟩,?_⟩;rintro m B k d i W ⟨p,rfl,hp,rfl,oW,gW⟩;refine⟨fun FP=>?_,fun FU=>?_⟩
 ·have FT:k=p:=by have:=oW.cases.1;simp[aU]at this;omega
  have e1:min (8*(p:Int)).toNat 64=8*p:=by omega
  have e2:(2:Int)^(8*p)=256^p:=by rw[Int.pow_mul];rfl
  rw[e1,e2];obtain⟨A3,n3,c3,w3,r3,o3,g3,_⟩:=eJ (x:=IntKind.wrap .u8 (v / 256^p)) oW (by omega) gW.size;have ob:=fun q hq=>(World.ownsRow.lt oW q hq).1;refine⟨by omega,by omega,A3,n3,c3,w3,r3,by omega,n-(p+1),by omega,p+1,by omega,by omega,rfl,?_,aY gW g3 fun q hq=>ob q hq⟩;rw[nT,← Bj];exact o3
 ·have:p=n:=by omega
  subst this;exact⟨_,_,_,rfl,oW,gW⟩
theorem rD{w:World}{A:OA}{n c:Nat}{l:List Int}(hr:aZ w A (bY l))(hn:n=l.length)(hA:A=none->c=0)(hb:By l)(hl:l.length<=2^30):
    Calls P 76 #[.slice A n c] w fun ev w'=>∃(A':OA)(n' c':Nat),ev=.returned (.slice A' n' c')/\aE w' w.heap.size 5 1 A' n' c' (bY (jA l))/\w.grownBy w' none:=by
  apply vc76;dsimp only[VC76,Ap,cI,cS,nb,iq]
  try simp only[aG]
  obtain⟨A1,n1,c1,w1,r1,o1,g1,e1⟩:=aO (base:=w.heap.size) (xs:=[]) (aE.nil w _ _ _) hr hn hA (by omega) (Nat.le_refl _);have g1':=aY (aC w none) g1 fun q hq=>by cases hq
  have g2:=World.grownBy_alloc w1 (.cells #[.slice A n c] 26) none;have rP:aZ (w1.alloc (.cells #[.slice A n c] 26)) (some ⟨w1.heap.size,0,none⟩) [.slice A n c]:=iB w1 #[.slice A n c] 26;refine⟨A1,n1,c1,w1,r1,(tS rP ((hr.kept_none g1').kept_none g2) hn hb (by omega)).mono fun ev w2 hh=>?_⟩;obtain⟨rfl,rfl⟩:=hh;have VJ:=qm l;refine⟨_,rfl,by omega,(fj (v:=jw l) (n:=4) (by omega)).mono fun ev w3 hh=>?_⟩;obtain⟨A3,n3,c3,rfl,o3,g3⟩:=hh;have IS:n3=(db (jw l) 4).length:=by have:=o3.cases.1;simp at this;omega
  have Gu:=aA g2 g3;have Se:=o1.kp (S:=fun _=>False) (Kp.of_none Gu) (fun _ _ e=>e);have F9:=aA g1' Gu;obtain⟨A4,n4,c4,w4,r4,o4,g4,_⟩:=aO Se o3.row IS (bI o3) (by rw[IS,aU];omega) F9.size;refine⟨_,_,_,rfl,A4,n4,c4,w4,r4,A4,n4,c4,rfl,?_,aY F9 g4 fun q hq=>(World.ownsRow.lt Se q hq).1⟩;exact o4
theorem vt{w:World}{N K C:Int}:Calls P 74 #[iT N K C] w fun ev w'=>ev=.returned (.bool (decide (dJ N K C)))/\w.grownBy w' none:=by
 apply vc74;dsimp only[VC74,rb,Br,Rd,nb,iq];obtain⟨w1,FQ,g1,b1⟩:=fQ w #[.int .u64 N,.int .i64 K,.int .i64 C] 51;rw[← FQ];have key:dJ N K C↔N<=4294967296/\1<=K/\K<=1048576/\0<=C/\C<=2147483648:=Iff.rfl;refine⟨N,aB b1 0,fun h1=>⟨K,aB b1 1,fun h2=>⟨K,aB b1 1,fun h3=>⟨C,aB b1 2,fun h4=>⟨C,aB b1 2,?_,g1⟩,fun h4=>⟨?_,g1⟩⟩,fun h3=>⟨?_,g1⟩⟩,fun h2=>⟨?_,g1⟩⟩,fun h1=>⟨?_,g1⟩⟩
 ·rw[decide_eq_decide.2 (show C<=2147483648↔dJ N K C by rw[key];omega)]
 all_goals rw[decide_eq_false (by rw[key];omega)]
theorem tX{w:World}{N K C:Int}(h:dJ N K C):Calls P 40 #[iT N K C] w fun ev w'=>∃(A:OA)(m k:Nat),ev=.returned (.slice A m k)/\aE w' w.heap.size 5 1 A m k (bY (fE N K C))/\w.grownBy w' none:=by
 apply vc40;dsimp only[VC40,Br,Rd,Rc,Ap,cB,cS,nb,iq]
 try simp only[aG]
 obtain⟨w1,FQ,g1,b1⟩:=fQ w #[.int .u64 N,.int .i64 K,.int .i64 C] 51;rw[← FQ];have hk:=h;unfold dJ at hk;refine⟨N,aB b1 0,K,aB b1 1,C,aB b1 2,vt.mono fun ev w2 hh=>?_⟩;obtain⟨rfl,g2⟩:=hh;refine⟨_,rfl,fun hf=>absurd h (of_decide_eq_false hf),fun _=>?_⟩;have HA:=aA g1 g2;have b2:=aF b1 g2;have hl:=sB w2 #[.int .u8 84,.int .u8 71,.int .u8 88,.int .u8 49] 4 4;have rl:=fh w2 #[.int .u8 84,.int .u8 71,.int .u8 88,.int .u8 49] 5 (4,5);have g3:=World.grownBy_alloc w2 (.cells #[.int .u8 84,.int .u8 71,.int .u8 88,.int .u8 49] 5 (4,5)) none;obtain⟨w3,Gr⟩:∃ w3,w3=w2.alloc (.cells #[.int .u8 84,.int .u8 71,.int .u8 88,.int .u8 49] 5 (4,5)):=⟨_,rfl⟩;have Ja:Sem.run P (Go.convert 26 26 (.slice (some ⟨w2.heap.size,0,none⟩) 4 4)) (w2.alloc (.cells #[.int .u8 84,.int .u8 71,.int .u8 88,.int .u8 49] 5))=.ok (.slice (some ⟨w2.heap.size,0,none⟩) 4 4) w3:=by rw[Gr];exact hl
 rw[← Gr]at rl g3;have rl':aZ w3 (some ⟨w2.heap.size,0,none⟩) (bY [84,71,88,49]):=rl;have b3:=aF b2 g3;have Gu:=aA HA g3;have z13:=Gu.size;refine⟨_,_,_,w3,Ja,N,aB b3 0,(fj (v:=N) (n:=8) (by omega)).mono fun ev w4 hh=>?_⟩;obtain⟨A4,n4,c4,rfl,o4,g4⟩:=hh;have HQ:n4=(db N 8).length:=by have:=o4.cases.1;simp at this;omega
 have Hz:=aA Gu g4;obtain⟨A5,n5,c5,w5,r5,o5,g5⟩:=sJ (base:=w.heap.size) Hz.size (rl'.kept_none g4) (n:=4) (c:=4) rfl o4.row HQ (by rw[HQ,aU];omega) (by rw[HQ,aU];omega) (by rw[HQ,aU];omega);have Kk:=aA Hz g5;have b5:=aF (aF b3 g4) g5;have HP:n5=([84,71,88,49]++db N 8).length:=by have:=o5.cases.1;simp at this ⊢;omega
 have gd:=aI (aC w5 none);obtain⟨w6,Nz⟩:∃ w6,w6=w5.drew:=⟨_,rfl⟩;refine⟨_,_,_,rfl,A5,n5,c5,w5,r5,?_⟩;rw[← Nz]at gd ⊢;have b6:=aF b5 gd;have Nl:=aA Kk gd;have o6:=o5.kp (S:=fun _=>False) (Kp.of_none gd) (fun _ _ e=>e);have far:∀ {X Y:World} {n c:Nat} {A:OA} {xs:List Value},aE X w.heap.size 5 1 A n c xs->X.heap[w.heap.size]?=some (.cells #[.int .u64 N,.int .i64 K,.int .i64 C] 51 (0,0))->X.grownBy Y (Value.slice A n c).ownBlock->Y.heap[w.heap.size]?=some (.cells #[.int .u64 N,.int .i64 K,.int .i64 C] 51 (0,0)):=fun h hb hg=>by
  rw[hg.block _ (Array.getElem?_eq_some_iff.1 hb).1 (fun e=>ks h hb (by decide) e.symm)];exact hb
 refine⟨fun X=>X.heap[w.heap.size]?=some (.cells #[.int .u64 N,.int .i64 K,.int .i64 C] 51 (0,0)),b6,K,aB b6 1,by omega,(fj (v:=K) (n:=4) (by omega)).mono fun ev w7 hh=>?_⟩;obtain⟨A7,n7,c7,rfl,o7,g7⟩:=hh;have Jp:n7=(db K 4).length:=by have:=o7.cases.1;simp at this;omega
 have Ic:=aA Nl g7;have Qa:=o6.kp (S:=fun _=>False) (Kp.of_none g7) (fun _ _ e=>e);have b7:=aF b6 g7;obtain⟨A8,n8,c8,w8,r8,o8,g8,e8⟩:=aO Qa o7.row Jp (bI o7) (by rw[HP,Jp];simp[aU]) Ic.size;have P3:=aY Ic g8 fun q hq=>(World.ownsRow.lt Qa q hq).1;have b8:=far Qa b7 g8;refine⟨_,_,_,rfl,b7,A8,n8,c8,w8,r8,b8,C,fun X hX=>aB hX 2,by omega,(fj (v:=C) (n:=4) (by omega)).mono fun ev w9 hh=>?_⟩;obtain⟨A9,n9,c9,rfl,o9,g9⟩:=hh;have M0:n9=(db C 4).length:=by have:=o9.cases.1;simp at this;omega
 have Pt:=aA P3 g9;have P8:=o8.kp (S:=fun _=>False) (Kp.of_none g9) (fun _ _ e=>e);have b9:=aF b8 g9;obtain⟨LK,Lf,c10,Gd,r10,JI,HB,_⟩:=aO P8 o9.row M0 (bI o9) (by rw[e8,HP,Jp,M0];simp[aU]) Pt.size;have TM:=aY Pt HB fun q hq=>(World.ownsRow.lt P8 q hq).1;have P6:=far P8 b9 HB;have JI:aE Gd w.heap.size 5 1 LK Lf c10 (bY (nd N K C)):=JI;have Om:Lf=(nd N K C).length:=by have:=JI.cases.1;simp at this;omega
 refine⟨_,_,_,rfl,b9,LK,Lf,c10,Gd,r10,P6,(rD JI.row Om (bI JI) (uJ _ _ _) (by rw[qT];omega)).mono fun ev GC hh=>?_⟩;obtain⟨X9,WV,c11,rfl,Pv,JG⟩:=hh;exact⟨_,_,_,rfl,_,_,_,rfl,Pv.mono TM.size,aA TM JG⟩
theorem zV{l:List el}(h:rowsOk l=true):(∀ r∈l,1<=r.len/\r.len<=4294967295/\0<=r.first/\r.first<=4611686018427387903)/\∀ i (h:i+1<l.length),l[i].first<=l[i+1].first:=by
 refine⟨fun r hr=>by have:=lR h r hr;omega,?_⟩;have key:∀ {l:List el} {last:Int},fX last l=true->∀ i (h:i+1<l.length),l[i].first<=l[i+1].first:=by
  intro l
  induction l with
  | nil=>intro _ _ i hi;simp at hi
  | cons a l ih =>
   intro last h i hi;unfold fX at h;rw[Bool.and_eq_true]at h;cases i with
   | zero =>
    cases l with
    | nil=>simp at hi
    | cons b l=>exact(lR h.2 b (by simp)).2.1
   | succ i=>exact ih h.2 i (by simpa using hi)
 exact key h
theorem yh{w:World}{A:OA}{n c:Nat}{l:List el}(hr:aZ w A (dM l))(hn:n=l.length)(hl:l.length<=2^40)(hok:rowsOk l=true):
    Calls P 82 #[.slice A n c] w fun ev w'=>ev=.returned (.bool true)/\w.grownBy w' none:=by
  apply vc82;dsimp only[VC82,rb,Br,Rd,Ix,ad,al]
  try simp only[aG]
  obtain⟨hm,hs⟩:=zV hok;refine⟨fun m i W=>∃ p:Nat,i=(p:Int)/\p<=l.length/\m=l.length-p/\w.grownBy W none,⟨_,0,rfl,by omega,rfl,aC _ _⟩,?_⟩;rintro m i W ⟨p,rfl,hp,rfl,gW⟩;have tp:(p:Int).toNat=p:=by omega
  rw[tp];refine⟨fun FP=>?_,fun FU=>⟨by trivial,gW⟩⟩;have lp:p<l.length:=by omega
  have gd:=aA gW (aI (aC W none));obtain⟨a,e0,f0,f1,f2⟩:=iA (hr.kept_none gd) lp;have Xc:=hm _ (List.getElem_mem lp);refine⟨a,e0,by omega,by omega,_,f0,fun h=>by omega,fun _=>⟨a,e0,by omega,by omega,_,f0,fun h=>by omega,fun _=>⟨a,e0,by omega,by omega,_,f1,fun h=>by omega,fun _=>⟨a,e0,by omega,by omega,_,f1,fun h=>by omega,fun _=>⟨fun FX=>?_,fun hz=>⟨by omega,_,?_,p+1,by omega,by omega,rfl,gd⟩⟩⟩⟩⟩⟩
  · obtain⟨q,rfl⟩:∃ q,p=q+1:=⟨p-1,by omega⟩;have e:(((q+1:Nat):Int)-1).toNat=q:=by omega
    rw[e];obtain⟨b,e0',f0',f1',f2'⟩:=iA (hr.kept_none gd) (show q<l.length by omega);have:=hs q lp;refine⟨a,e0,by omega,by omega,_,f1,by omega,b,e0',by omega,by omega,_,f1',fun h=>by omega,fun _=>⟨by omega,_,?_,q+1+1,by omega,by omega,rfl,gd⟩⟩;omega
  · omega
theorem yj{w:World}{A:OA}{n c:Nat}{l:List el}(hr:aZ w A (dM l))(hn:n=l.length)(hl:l.length<=2^20)(hok:rowsOk l=true)(hN:∀ r∈l,vi r):
    Calls P 43 #[.slice A n c] w fun ev w'=>∃(A':OA)(m k:Nat),ev=.returned (.tuple #[.slice A' m k,.bool true])/\aE w' w.heap.size 5 1 A' m k (bY (jY l))/\w.grownBy w' none:=by
  apply vc43;dsimp only[VC43,rt,Br,Rd,Rc,Ix,Ap,cB,cS,ad,al,iq]
  try simp only[aG]
  refine(yh hr hn (by omega) hok).mono fun ev w1 hh=>?_;obtain⟨rfl,g1⟩:=hh;refine⟨_,rfl,fun h=>(by cases h),fun _=>?_⟩;refine⟨fun m B k d i W=>∃ p:Nat,i=(p:Int)/\p<=l.length/\m=l.length-p/\aE W w.heap.size 5 1 B k d (bY ((l.take p).flatMap iZ))/\w.grownBy W none,⟨_,0,rfl,by omega,rfl,aE.nil _ _ _ _,g1⟩,?_⟩;rintro m B k d i W ⟨p,rfl,hp,rfl,oW,gW⟩;have tp:(p:Int).toNat=p:=by omega
  rw[tp];have hk:k=16*p:=by have h:=oW.cases.1;unfold bY at h;rw[List.length_map,jO,List.length_take]at h;omega
  refine⟨fun FP=>?_,fun FU=>?_⟩
  · have lp:p<l.length:=by omega
    obtain⟨a,e0,f0,f1,f2⟩:=iA (hr.kept_none gW) lp;obtain⟨q1,q2,q3⟩:=hN _ (List.getElem_mem lp);have ob:=fun {X:World} {n c:Nat} {A:OA} {xs:List Value} (h:aE X w.heap.size 5 1 A n c xs) q (hq:(Value.slice A n c).ownBlock=some q)=>(World.ownsRow.lt h q hq).1;refine⟨a,e0,by omega,by omega,_,f0,by omega,(fj (v:=l[p].len) (n:=4) (by omega)).mono fun ev w4 hh=>?_⟩;obtain⟨A4,n4,c4,rfl,o4,g4⟩:=hh;have HQ:n4=(db l[p].len 4).length:=by have:=o4.cases.1;simp at this;omega
    have oW4:=oW.kp (S:=fun _=>False) (Kp.of_none g4) (fun _ _ e=>e);have HS:=aA gW g4;obtain⟨A5,n5,c5,w5,r5,o5,g5,e5⟩:=aO oW4 o4.row HQ (bI o4) (by rw[hk,HQ,aU];omega) HS.size;have I5:=aY HS g5 fun q hq=>ob oW4 q hq;have gd:=aI (aC w5 none);refine⟨_,_,_,rfl,A5,n5,c5,w5,r5,?_⟩;obtain⟨w5',MP⟩:∃ w5',w5'=w5.drew:=⟨_,rfl⟩;rw[← MP]at gd ⊢;have g05':=aA I5 gd;have o5':=o5.kp (S:=fun _=>False) (Kp.of_none gd) (fun _ _ e=>e);have at_:∀ {X:World},w.grownBy X none->∃ a,A=some a/\X.cell? (a.add (p*3))=some (.int .i64 l[p].len)/\X.cell? (Addr.add (a.add (p*3)) 1)=some (.int .i64 l[p].first)/\X.cell? (Addr.add (a.add (p*3)) 2)=some (.int .u32 l[p].sum):=fun hX=>iA (hr.kept_none hX) lp;obtain⟨a5,k0,k1,k2,k3⟩:=at_ g05';refine⟨fun X=>w.grownBy X none,g05',a5,k0,by omega,by omega,_,k2,by omega,(fj (v:=l[p].first) (n:=8) (by omega)).mono fun ev w6 hh=>?_⟩;obtain⟨A6,n6,c6,rfl,o6,g6⟩:=hh;have IK:n6=(db l[p].first 8).length:=by have:=o6.cases.1;simp at this;omega
    have JH:=o5'.kp (S:=fun _=>False) (Kp.of_none g6) (fun _ _ e=>e);have Nm:=aA g05' g6;obtain⟨A7,n7,c7,w7,r7,o7,g7,e7⟩:=aO JH o6.row IK (bI o6) (by rw[e5,hk,HQ,IK,aU,aU];omega) Nm.size;have P5:=aY Nm g7 fun q hq=>ob JH q hq;refine⟨_,_,_,rfl,Nm,A7,n7,c7,w7,r7,P5,a5,k0,by omega,by omega,l[p].sum,fun X hX=>?_,by omega,(fj (v:=l[p].sum) (n:=4) (by omega)).mono fun ev w8 hh=>?_⟩
    · obtain⟨b,j0,j1,j2,j3⟩:=at_ hX;rw[k0]at j0;cases j0;exact j3
    obtain⟨A8,n8,c8,rfl,o8,g8⟩:=hh;have IJ:n8=(db l[p].sum 4).length:=by have:=o8.cases.1;simp at this;omega
    have Le:=o7.kp (S:=fun _=>False) (Kp.of_none g8) (fun _ _ e=>e);have Ku:=aA P5 g8;obtain⟨A9,n9,c9,w9,r9,o9,g9,e9⟩:=aO Le o8.row IJ (bI o8) (by rw[e7,e5,hk,HQ,IK,IJ,aU,aU,aU];omega) Ku.size;have P4:=aY Ku g9 fun q hq=>ob Le q hq;refine⟨_,_,_,rfl,Ku,A9,n9,c9,w9,r9,P4,by omega,l.length-(p+1),by omega,p+1,by omega,by omega,rfl,?_,P4⟩;rw[List.take_succ_eq_append_getElem lp,List.flatMap_append];have:[l[p]].flatMap iZ=db l[p].len 4++(db l[p].first 8++db l[p].sum 4):=by simp[iZ]
    rw[this,← List.append_assoc,← List.append_assoc];exact o9
  · have HO:p=l.length:=by omega
    subst HO;rw[List.take_length]at oW;obtain⟨A5,n5,c5,w5,r5,o5,g5⟩:=ve gW.size oW (by omega);have I5:=aY gW g5 fun q hq=>(World.ownsRow.lt oW q hq).1;have hP:l.flatMap iZ++[88,71,84,49]=kS l:=rfl;rw[hP]at o5;have HP:n5=(kS l).length:=by have:=o5.cases.1;simp at this;omega
    refine⟨A5,n5,c5,w5,r5,(rD o5.row HP (bI o5) (tT l) (by rw[kR];omega)).mono fun ev w6 hh=>?_⟩;obtain⟨A6,n6,c6,rfl,o6,g6⟩:=hh;exact⟨_,_,_,rfl,A6,n6,c6,rfl,o6.mono I5.size,aA I5 g6⟩
theorem zX{w:World}{A:OA}{n c:Nat}{l:List aS}{N k i:Int}(hr:aZ w A (cE l))(hn:n=l.length)(hl:n<=2^20)(hb:sN l):
    Calls P 17 #[.agg #[.int .u64 N,.slice A n c],.int .i64 k,.int .i64 i] w fun ev w'=>∃(B:OA)(m d:Nat),ev=.returned (.slice B m d)/\aE w' w.heap.size 45 2 B m d (edges (nW N l k i))/\w.grownBy w' none:=by
  apply vc17;dsimp only[VC17,Br,Rd,Rs,cT,nb,iq]
  try simp only[aG]
  obtain⟨w1,FQ,g1,b1⟩:=fQ w #[.int .u64 N,.slice A n c] 25;rw[← FQ];refine⟨N,aB b1 0,A,n,c,aB b1 1,(mB (hr.kept_none g1) hn hl hb).mono fun ev w2 hh=>?_⟩;obtain⟨rfl,g2⟩:=hh;have b2:=aF b1 g2;have GH:=aA g1 g2;have no:¬ (Ae N l k=0/\0<=i/\i<((l.length:Int)+k-1) / k)->∃(B:OA)(m d:Nat),Ending.returned (.slice none 0 0)=Ending.returned (.slice B m d)/\aE w2 w.heap.size 45 2 B m d (edges (nW N l k i))/\w.grownBy w2 none:=fun h=>by
    have:nW N l k i=[]:=by unfold nW;rw[if_neg h]
    rw[this];exact⟨none,0,0,rfl,aE.nil _ _ _ _,GH⟩
  refine⟨_,_,rfl,fun h=>no fun h'=>h (ma.1 h'.1).1,fun h0=>⟨fun h=>no fun h'=>by have:=ma.1 h'.1;omega,fun h1=>⟨fun h=>no fun h'=>by have:=ma.1 h'.1;omega,fun h2=>⟨fun h=>no fun h'=>by omega,fun h3=>?_⟩⟩⟩⟩;have hd:0<=((n:Int)+k-1) / k:=Int.ediv_nonneg (by omega) (by omega);have JE:((n:Int)+k-1) / k<=(n:Int)+k-1:=Int.ediv_le_self _ (by omega);have Wl:Ae N l k=0:=ma.2 ⟨by omega,by omega,by omega⟩;refine⟨A,n,c,aB b2 1,by omega,by omega,⟨by omega,by omega,by omega⟩,fun h=>no fun h'=>by rw[hn]at h;omega,fun h4=>?_⟩;have hi:0<=i/\i<((l.length:Int)+k-1) / k:=by rw[hn]at h4;omega
  have h5:i*k<=(l.length:Int)-1:=by
    have:i+1<=((l.length:Int)+k-1) / k:=by omega
    have:=(Int.le_ediv_iff_mul_le (by omega)).1 this;rw[Int.add_mul,Int.one_mul]at this;omega
  have h6:0<=i*k:=Int.mul_nonneg hi.1 (by omega);have KG:nW N l k i=gG N l (i*k):=by unfold nW;rw[if_pos ⟨Wl,hi⟩]
  rw[KG];refine⟨N,aB b2 0,A,n,c,aB b2 1,by omega,(zw (hr.kept_none GH) hn hl hb).mono fun ev w3 hh=>?_⟩;obtain⟨B,m,d,rfl,o3,g3⟩:=hh;exact⟨_,_,_,_,rfl,B,m,d,rfl,o3.mono GH.size,aA GH g3⟩
end Go.Proofs.YtlieaecnllkefaaGreat

/- Own texts, packed: W15, W16, W17. -/
import Derived.Test.YtlieaecnllkefaaGreatGWCg
import Derived.Test.YtlieaecnllkefaaGreatGWXg
set_option linter.unusedVariables false
set_option linter.unusedSimpArgs false
set_option maxHeartbeats 8000000
set_option maxRecDepth 100000
namespace Go.Proofs.YtlieaecnllkefaaGreat
open Go Go.V Go.RowKit
def tR(k:Int):Nat:=([1,2,3,5,8,100,1048576]:List Nat).getD (k % 7).toNat 1
theorem mod7(k:Int):k % 7=0∨k % 7=1∨k % 7=2∨k % 7=3∨k % 7=4∨k % 7=5∨k % 7=6:=by omega
theorem Cg(k:Int):1<=tR k/\tR k<=1048576:=by
 unfold tR;rcases mod7 k with h | h | h | h | h | h | h <;>rw[h] <;>decide
theorem yf{w:World}{k:Int}(hk:0<=k):Calls P 12 #[.int .u8 k] w fun ev w'=>ev=.returned (.int .i64 (tR k:Int))/\w.grownBy w' none:=by
 apply vc12;dsimp only[VC12,Ix,nb,iq];obtain⟨w1,FQ,g1,b1⟩:=fQ w #[.int .i64 1,.int .i64 2,.int .i64 3,.int .i64 5,.int .i64 8,.int .i64 100,.int .i64 1048576] 3;rw[← FQ];refine⟨⟨hk,by decide⟩,_,rfl,by omega,by omega,(tR k:Int),?_,rfl,g1⟩;rw[mE,aB b1];unfold tR;rcases mod7 k with h | h | h | h | h | h | h <;>rw[h] <;>rfl
theorem zS{w:World}{A B:OA}{n c m d:Nat}{l k:List aS}{N M:Int}(hA:aZ w A (cE l))(hn:n=l.length)(hB:aZ w B (cE k))(hm:m=k.length)(hl:n<=2^40):
    Calls P 26 #[.agg #[.int .u64 N,.slice A n c],.agg #[.int .u64 M,.slice B m d]] w fun ev w'=>ev=.returned (.bool (decide (N=M/\l=k)))/\w.grownBy w' none:=by
  apply vc26;dsimp only[VC26,rb,Br,Rd,Rs,cB,nb];obtain⟨w1,FQ,g1,b1⟩:=fQ w #[.int .u64 N,.slice A n c] 25;rw[← FQ];obtain⟨w2,GP,g2,b2⟩:=fQ w1 #[.int .u64 M,.slice B m d] 25;rw[← GP];have b1':=aF b1 g2;have HA:=aA g1 g2;refine⟨N,aB b1' 0,M,aB b2 0,fun h=>⟨A,n,c,aB b1' 1,B,m,d,aB b2 1,(qM (hA.kept_none HA) hn (hB.kept_none HA) hm hl).mono fun ev w3 hh=>?_⟩,fun h=>⟨?_,HA⟩⟩
  · obtain⟨rfl,g3⟩:=hh;refine⟨_,rfl,?_,aA HA g3⟩;simp[h]
  · simp[h]
theorem Az{k:Int}{l:List Int}(hb:aW l)(hl:l.length<=150):cu (kh k) (iJ k l):=by
 have h:=yP (k:=k) hb (by omega);have h2:=pM k;exact⟨h.1,fun e he=>(h.2 e he).2.1,by have:=sT k l;omega,by omega⟩
def Ec:List aS:=[⟨1,0,1,true⟩,⟨2,1,2,true⟩]
theorem mu:cu 3 Ec:=⟨(nU.1 (by decide)).2.2,by decide,by decide,by decide⟩
theorem good0:cu 0 []:=⟨trivial,by simp,by simp,by omega⟩
theorem EJ:(nW 3 Ec 1 1).length=1:=by decide
theorem vz{w:World}:Calls P 8 #[] w fun ev w'=>ev=.returned (.bool true)/\w.grownBy w' none:=by
 apply vc8;dsimp only[VC8,rb,Wt,Br,Bb,Rd,Rs,Ws,cB,cS,cT,nb,iq];have r1':=iB w #[.int .i64 1,.int .u32 0,.int .u32 1,.bool true,.int .i64 2,.int .u32 1,.int .u32 2,.bool true] 62;obtain⟨w1,FQ,g1,b1⟩:=fQ w #[.int .i64 1,.int .u32 0,.int .u32 1,.bool true,.int .i64 2,.int .u32 1,.int .u32 2,.bool true] 62;rw[← FQ];obtain⟨A0,Ni⟩:∃ A0:OA,A0=some ⟨w.heap.size,0,none⟩:=⟨_,rfl⟩;rw[← Ni];have r1:aZ w1 A0 (cE Ec):=by rw[Ni,FQ];exact r1'
 obtain⟨w2,hH,pH0,qH0,pH1,qH1,bH,gH⟩:=uD w1 25 (.int .u64 0) (.slice none 0 0) (.int .u64 3) (.slice A0 2 2);refine⟨pH0,qH0,pH1,qH1,?_⟩;rw[← hH];have Hd:A0=none->2=0:=fun e=>by rw[Ni]at e;cases e
 refine⟨3,aB bH 0,A0,2,2,aB bH 1,(jI (k:=1) (r1.kept_none gH) rfl (Nat.le_refl _) Hd mu (by omega)).mono fun ev w3 hh=>?_⟩;obtain⟨F,fn,fc,rfl,oF,g3⟩:=hh;have Me:fn=(fx 3 Ec 1).length:=by have h':=oF.cases.1;unfold bY at h';rw[List.length_map]at h';omega
 have Mg:=eD oF;refine⟨_,_,_,_,rfl,(uZ oF.row Me Mg mu (by omega)).mono fun ev w4 hh=>?_⟩;obtain⟨D,dn,dc,rfl,oD,g4⟩:=hh;have PR:dn=Ec.length:=by have h':=oD.cases.1;rw[dR]at h';omega
 have X8:=g4;obtain⟨w5,hJ,pJ0,qJ0,pJ1,qJ1,bJ,gJ⟩:=uD w4 25 (.int .u64 0) (.slice none 0 0) (.int .u64 3) (.slice D dn dc);refine⟨_,_,_,_,_,_,rfl,pJ0,qJ0,pJ1,qJ1,?_⟩;rw[← hJ];have Kj:=aA g4 gJ;refine(pV (oF.row.kept_none Kj) Me Mg mu (by omega)).mono fun ev w6 hh=>?_;obtain⟨Y,yn,yc,rfl,oY,g6⟩:=hh;have Km:yn=dy 2 1:=by have h':=oY.cases.1;rw[eG,fo]at h';rw[show Ec.length=2 from rfl]at h';omega
 have Lg:=eD oY;have Lw:(Ec.length:Int)=2:=rfl;rw[Lw];have MM:((1:Nat):Int)=1:=rfl;rw[MM];obtain⟨w7,hT,pT0,qT0,pT1,qT1,pT2,qT2,bT,gT⟩:=Fj w6 51 (.int .u64 0) (.int .i64 0) (.int .i64 0) (.int .u64 3) (.int .i64 1) (.int .i64 2);refine⟨_,_,_,_,_,_,_,rfl,pT0,qT0,pT1,qT1,pT2,qT2,?_⟩;rw[← hT];have R9:=gT;have bH7:=aF bH (aA g3 (aA Kj (aA g6 gT)));have Ic:=aA gH (aA g3 (aA Kj (aA g6 gT)));refine⟨3,aB bH7 0,A0,2,2,aB bH7 1,(AO (l:=Ec) (k:=0) (r1.kept_none Ic) rfl (by omega) mu.evtsU (by decide)).mono fun ev w8 hh=>?_⟩;obtain⟨rfl,g8⟩:=hh;have WR:=aA Kj (aA g6 (aA gT g8));refine⟨_,_,_,_,rfl,(qq (i:=1) (oF.row.kept_none WR) Me Mg mu (by omega) (oY.row.kept_none (aA gT g8)) Km (by rw[Km]at Lg;rw[Km];exact Lg) (by decide)).mono fun ev w9 hh=>?_⟩;obtain⟨Z,zn,zc,rfl,oZ,g9⟩:=hh;have WX:zn=(dO Ec 1 1).length:=by have h':=oZ.cases.1;unfold bY at h';rw[List.length_map]at h';omega
 have WY:=(mu.blen (k:=1) (i:=1) (by omega) (by decide)).1;refine⟨_,_,_,_,rfl,(jI (k:=1) (A:=none) (n:=0) (c:=0) (l:=[]) (N:=0) (aE.nil w9 0 62 4).row rfl (by omega) (fun _=>rfl) good0 (by omega)).mono fun ev Gd hh=>?_⟩;obtain⟨E,en,ec,rfl,oE,HB⟩:=hh;have Xv:en=(fx 0 [] 1).length:=by have h':=oE.cases.1;unfold bY at h';rw[List.length_map]at h';omega
 have TI:(fx 0 [] 1).length=32:=by rw[qV];rfl
 have Sb:=aA gJ (aA g6 (aA gT (aA g8 (aA g9 HB))));have bJ10:=aF bJ (aA g6 (aA gT (aA g8 (aA g9 HB))));have Kh:=aA g8 (aA g9 HB);have bH10:=aF bH7 Kh;refine⟨_,_,_,_,rfl,fun _=>⟨fun _=>⟨fun _=>⟨3,aB bJ10 0,D,dn,dc,aB bJ10 1,3,aB bH10 0,A0,2,2,aB bH10 1,(zS (oD.row.kept_none Sb) PR (r1.kept_none (aA Ic Kh)) rfl (by rw[PR];decide)).mono fun ev GC hh=>?_⟩,fun h=>absurd rfl h⟩,fun h=>absurd rfl h⟩,fun h=>absurd rfl h⟩;obtain⟨rfl,JG⟩:=hh;have bT11:=aF bT (aA Kh JG);have bH11:=aF bH10 JG;have TX:yn=2:=by rw[Km];rfl
 refine⟨_,rfl,fun _=>⟨fun _=>⟨2,aB bT11 2,fun _=>⟨fun _=>⟨fun _=>⟨fun _=>⟨fun _=>⟨fun _=>⟨3,aB bH11 0,A0,2,2,aB bH11 1,(yK (l:=Ec) (k:=1) (i:=1) ((r1.kept_none (aA Ic Kh)).kept_none JG) rfl (by omega) Hd (by omega) (by omega) mu.evtsU).mono fun ev HM hh=>?_⟩,fun h=>absurd (by omega) h⟩,fun h=>absurd (by omega) h⟩,fun h=>absurd rfl h⟩,fun h=>absurd (by decide) h⟩,fun h=>absurd (by omega) h⟩,fun h=>absurd rfl h⟩,fun h=>absurd rfl h⟩,fun h=>by simp at h⟩;obtain⟨Q,qn,qc,rfl,oQ,HA⟩:=hh;have Su:qn=1:=by have h':=oQ.cases.1;rw[dk,EJ]at h';omega
 refine⟨_,_,_,rfl,?_,aA g1 (aA Ic (aA Kh (aA JG HA)))⟩;rw[Su];rfl
end Go.Proofs.YtlieaecnllkefaaGreat

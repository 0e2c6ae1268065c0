/- Own texts, packed: W15, W16, W17. -/
import Derived.Test.YtlieaecnllkefaaGreatGWCg
import Derived.Test.YtlieaecnllkefaaGreatGWXg
set_option linter.unusedVariables false
set_option linter.unusedSimpArgs false
set_option maxHeartbeats 8000000
set_option maxRecDepth 100000
namespace Go.Proofs.YtlieaecnllkefaaGreat
open Go Go.V Go.RowKit
def tD(k:Int):Nat:=([1,2,3,5,8,100,1048576]:List Nat).getD (k % 7).toNat 1
theorem mod7(k:Int):k % 7=0∨k % 7=1∨k % 7=2∨k % 7=3∨k % 7=4∨k % 7=5∨k % 7=6:=by omega
theorem BZ(k:Int):1<=tD k/\tD k<=1048576:=by
 unfold tD;rcases mod7 k with h | h | h | h | h | h | h <;>rw[h] <;>decide
theorem xR{w:World}{k:Int}(hk:0<=k):Calls P 12 #[.int .u8 k] w fun ev w'=>ev=.returned (.int .i64 (tD k:Int))/\w.grownBy w' none:=by
 apply vc12;dsimp only[VC12,Ix,nb,iq];obtain⟨w1,FH,g1,b1⟩:=fZ w #[.int .i64 1,.int .i64 2,.int .i64 3,.int .i64 5,.int .i64 8,.int .i64 100,.int .i64 1048576] 3;rw[← FH];refine⟨⟨hk,by decide⟩,_,rfl,by omega,by omega,(tD k:Int),?_,rfl,g1⟩;rw[mr,aB b1];unfold tD;rcases mod7 k with h | h | h | h | h | h | h <;>rw[h] <;>rfl
theorem zB{w:World}{A B:OA}{n c m d:Nat}{l k:List aW}{N M:Int}(hA:aZ w A (cE l))(hn:n=l.length)(hB:aZ w B (cE k))(hm:m=k.length)(hl:n<=2^40):
    Calls P 26 #[.agg #[.int .u64 N,.slice A n c],.agg #[.int .u64 M,.slice B m d]] w fun ev w'=>ev=.returned (.bool (decide (N=M/\l=k)))/\w.grownBy w' none:=by
  apply vc26;dsimp only[VC26,rb,Br,Rd,Rs,cB,nb];obtain⟨w1,FH,g1,b1⟩:=fZ w #[.int .u64 N,.slice A n c] 25;rw[← FH];obtain⟨w2,GG,g2,b2⟩:=fZ w1 #[.int .u64 M,.slice B m d] 25;rw[← GG];have b1':=aI b1 g2;have Ic:=aA g1 g2;refine⟨N,aB b1' 0,M,aB b2 0,fun h=>⟨A,n,c,aB b1' 1,B,m,d,aB b2 1,(kB (hA.kept_none Ic) hn (hB.kept_none Ic) hm hl).mono fun ev w3 hh=>?_⟩,fun h=>⟨?_,Ic⟩⟩
  · obtain⟨rfl,g3⟩:=hh;refine⟨_,rfl,?_,aA Ic g3⟩;simp[h]
  · simp[h]
theorem Aa{k:Int}{l:List Int}(hb:aQ l)(hl:l.length<=150):cJ (jW k) (iz k l):=by
 have h:=yz (k:=k) hb (by omega);have h2:=sW k;exact⟨h.1,fun e he=>(h.2 e he).2.1,by have:=sE k l;omega,by omega⟩
def DX:List aW:=[⟨1,0,1,true⟩,⟨2,1,2,true⟩]
theorem lW:cJ 3 DX:=⟨(nQ.1 (by decide)).2.2,by decide,by decide,by decide⟩
theorem good0:cJ 0 []:=⟨trivial,by simp,by simp,by omega⟩
theorem EC:(vk 3 DX 1 1).length=1:=by decide
theorem vj{w:World}:Calls P 8 #[] w fun ev w'=>ev=.returned (.bool true)/\w.grownBy w' none:=by
 apply vc8;dsimp only[VC8,rb,Wt,Br,Bb,Rd,Rs,Ws,cB,cS,cT,nb,iq];have r1':=jr w #[.int .i64 1,.int .u32 0,.int .u32 1,.bool true,.int .i64 2,.int .u32 1,.int .u32 2,.bool true] 62;obtain⟨w1,FH,g1,b1⟩:=fZ w #[.int .i64 1,.int .u32 0,.int .u32 1,.bool true,.int .i64 2,.int .u32 1,.int .u32 2,.bool true] 62;rw[← FH];obtain⟨A0,Ni⟩:∃ A0:OA,A0=some ⟨w.heap.size,0,none⟩:=⟨_,rfl⟩;rw[← Ni];have r1:aZ w1 A0 (cE DX):=by rw[Ni,FH];exact r1'
 obtain⟨w2,hH,pH0,qH0,pH1,qH1,bH,gH⟩:=yq w1 25 (.int .u64 0) (.slice none 0 0) (.int .u64 3) (.slice A0 2 2);refine⟨pH0,qH0,pH1,qH1,?_⟩;rw[← hH];have G6:A0=none->2=0:=fun e=>by rw[Ni]at e;cases e
 refine⟨3,aB bH 0,A0,2,2,aB bH 1,(ju (k:=1) (r1.kept_none gH) rfl (Nat.le_refl _) G6 lW (by omega)).mono fun ev w3 hh=>?_⟩;obtain⟨F,fn,fc,rfl,oF,g3⟩:=hh;have M7:fn=(gg 3 DX 1).length:=by have h':=oF.cases.1;unfold bV at h';rw[List.length_map]at h';omega
 have M9:=eH oF;refine⟨_,_,_,_,rfl,(uI oF.row M7 M9 lW (by omega)).mono fun ev w4 hh=>?_⟩;obtain⟨D,dn,dc,rfl,oD,g4⟩:=hh;have PK:dn=DX.length:=by have h':=oD.cases.1;rw[dz]at h';omega
 have X9:=g4;obtain⟨w5,hJ,pJ0,qJ0,pJ1,qJ1,bJ,gJ⟩:=yq w4 25 (.int .u64 0) (.slice none 0 0) (.int .u64 3) (.slice D dn dc);refine⟨_,_,_,_,_,_,rfl,pJ0,qJ0,pJ1,qJ1,?_⟩;rw[← hJ];have Kg:=aA g4 gJ;refine(lI (oF.row.kept_none Kg) M7 M9 lW (by omega)).mono fun ev w6 hh=>?_;obtain⟨Y,yn,yc,rfl,oY,g6⟩:=hh;have Kj:yn=fC 2 1:=by have h':=oY.cases.1;rw[fN,eG]at h';rw[show DX.length=2 from rfl]at h';omega
 have Nu:=eH oY;have JW:(DX.length:Int)=2:=rfl;rw[JW];have MI:((1:Nat):Int)=1:=rfl;rw[MI];obtain⟨w7,hT,pT0,qT0,pT1,qT1,pT2,qT2,bT,gT⟩:=Fa w6 51 (.int .u64 0) (.int .i64 0) (.int .i64 0) (.int .u64 3) (.int .i64 1) (.int .i64 2);refine⟨_,_,_,_,_,_,_,rfl,pT0,qT0,pT1,qT1,pT2,qT2,?_⟩;rw[← hT];have RZ:=gT;have bH7:=aI bH (aA g3 (aA Kg (aA g6 gT)));have IJ:=aA gH (aA g3 (aA Kg (aA g6 gT)));refine⟨3,aB bH7 0,A0,2,2,aB bH7 1,(Av (l:=DX) (k:=0) (r1.kept_none IJ) rfl (by omega) lW.evtsU (by decide)).mono fun ev w8 hh=>?_⟩;obtain⟨rfl,g8⟩:=hh;have WT:=aA Kg (aA g6 (aA gT g8));refine⟨_,_,_,_,rfl,(mj (i:=1) (oF.row.kept_none WT) M7 M9 lW (by omega) (oY.row.kept_none (aA gT g8)) Kj (by rw[Kj]at Nu;rw[Kj];exact Nu) (by decide)).mono fun ev w9 hh=>?_⟩;obtain⟨Z,zn,zc,rfl,oZ,g9⟩:=hh;have Sa:zn=(dQ DX 1 1).length:=by have h':=oZ.cases.1;unfold bV at h';rw[List.length_map]at h';omega
 have WZ:=(lW.blen (k:=1) (i:=1) (by omega) (by decide)).1;refine⟨_,_,_,_,rfl,(ju (k:=1) (A:=none) (n:=0) (c:=0) (l:=[]) (N:=0) (aE.nil w9 0 62 4).row rfl (by omega) (fun _=>rfl) good0 (by omega)).mono fun ev FZ hh=>?_⟩;obtain⟨E,en,ec,rfl,oE,Ie⟩:=hh;have Xu:en=(gg 0 [] 1).length:=by have h':=oE.cases.1;unfold bV at h';rw[List.length_map]at h';omega
 have TJ:(gg 0 [] 1).length=32:=by rw[qJ];rfl
 have R1:=aA gJ (aA g6 (aA gT (aA g8 (aA g9 Ie))));have bJ10:=aI bJ (aA g6 (aA gT (aA g8 (aA g9 Ie))));have Ke:=aA g8 (aA g9 Ie);have bH10:=aI bH7 Ke;refine⟨_,_,_,_,rfl,fun _=>⟨fun _=>⟨fun _=>⟨3,aB bJ10 0,D,dn,dc,aB bJ10 1,3,aB bH10 0,A0,2,2,aB bH10 1,(zB (oD.row.kept_none R1) PK (r1.kept_none (aA IJ Ke)) rfl (by rw[PK];decide)).mono fun ev Gw hh=>?_⟩,fun h=>absurd rfl h⟩,fun h=>absurd rfl h⟩,fun h=>absurd rfl h⟩;obtain⟨rfl,Nl⟩:=hh;have bT11:=aI bT (aA Ke Nl);have bH11:=aI bH10 Nl;have T7:yn=2:=by rw[Kj];rfl
 refine⟨_,rfl,fun _=>⟨fun _=>⟨2,aB bT11 2,fun _=>⟨fun _=>⟨fun _=>⟨fun _=>⟨fun _=>⟨fun _=>⟨3,aB bH11 0,A0,2,2,aB bH11 1,(rH (l:=DX) (k:=1) (i:=1) ((r1.kept_none (aA IJ Ke)).kept_none Nl) rfl (by omega) G6 (by omega) (by omega) lW.evtsU).mono fun ev HD hh=>?_⟩,fun h=>absurd (by omega) h⟩,fun h=>absurd (by omega) h⟩,fun h=>absurd rfl h⟩,fun h=>absurd (by decide) h⟩,fun h=>absurd (by omega) h⟩,fun h=>absurd rfl h⟩,fun h=>absurd rfl h⟩,fun h=>by simp at h⟩;obtain⟨Q,qn,qc,rfl,oQ,Ic⟩:=hh;have Ss:qn=1:=by have h':=oQ.cases.1;rw[dl,EC]at h';omega
 refine⟨_,_,_,rfl,?_,aA g1 (aA IJ (aA Ke (aA Nl Ic)))⟩;rw[Ss];rfl
end Go.Proofs.YtlieaecnllkefaaGreat

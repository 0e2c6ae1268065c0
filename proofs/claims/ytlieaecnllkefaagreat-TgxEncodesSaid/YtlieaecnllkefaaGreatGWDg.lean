/- Own texts, packed: W15, W16, W17. -/
import Derived.Test.YtlieaecnllkefaaGreatGWCg
import Derived.Test.YtlieaecnllkefaaGreatGWXg
set_option linter.unusedVariables false
set_option linter.unusedSimpArgs false
set_option maxHeartbeats 8000000
set_option maxRecDepth 100000
namespace Go.Proofs.YtlieaecnllkefaaGreat
open Go Go.V Go.RowKit
def BC(k:Int):Nat:=([1,2,3,5,8,100,1048576]:List Nat).getD (k % 7).toNat 1
theorem mod7(k:Int):k % 7=0∨k % 7=1∨k % 7=2∨k % 7=3∨k % 7=4∨k % 7=5∨k % 7=6:=by omega
theorem yg{w:World}{k:Int}(hk:0<=k):Calls P 12 #[.int .u8 k] w fun ev w'=>ev=.returned (.int .i64 (BC k:Int))/\w.grownBy w' none:=by
 apply vc12;dsimp only[VC12,Ix,nb,iq];obtain⟨w1,Gf,g1,b1⟩:=eT w #[.int .i64 1,.int .i64 2,.int .i64 3,.int .i64 5,.int .i64 8,.int .i64 100,.int .i64 1048576] 3;rw[← Gf];refine⟨⟨hk,by decide⟩,_,rfl,by omega,by omega,(BC k:Int),?_,rfl,g1⟩;rw[iG,aB b1];unfold BC;rcases mod7 k with h | h | h | h | h | h | h <;>rw[h] <;>rfl
theorem zY{w:World}{A B:OA}{n c m d:Nat}{l k:List aR}{N M:Int}(hA:aY w A (bB l))(hn:n=l.length)(hB:aY w B (bB k))(hm:m=k.length)(hl:n<=2^40):
    Calls P 26 #[.agg #[.int .u64 N,.slice A n c],.agg #[.int .u64 M,.slice B m d]] w fun ev w'=>ev=.returned (.bool (decide (N=M/\l=k)))/\w.grownBy w' none:=by
  apply vc26;dsimp only[VC26,rb,Br,Rd,Rs,cB,nb];obtain⟨w1,Gf,g1,b1⟩:=eT w #[.int .u64 N,.slice A n c] 25;rw[← Gf];obtain⟨w2,Hc,g2,b2⟩:=eT w1 #[.int .u64 M,.slice B m d] 25;rw[← Hc];have b1':=aF b1 g2;have HD:=aA g1 g2;refine⟨N,aB b1' 0,M,aB b2 0,fun h=>⟨A,n,c,aB b1' 1,B,m,d,aB b2 1,(qE (hA.kept_none HD) hn (hB.kept_none HD) hm hl).mono fun ev w3 hh=>?_⟩,fun h=>⟨?_,HD⟩⟩
  · obtain⟨rfl,g3⟩:=hh;refine⟨_,rfl,?_,aA HD g3⟩;simp[h]
  · simp[h]
theorem AH{k:Int}{l:List Int}(hb:aW l)(hl:l.length<=150):cH (j9 k) (iB k l):=by
 have h:=sj (k:=k) hb (by omega);have h2:=tw k;exact⟨h.1,fun e he=>(h.2 e he).2.1,by have:=mB k l;omega,by omega⟩
def Et:List aR:=[⟨1,0,1,true⟩,⟨2,1,2,true⟩]
theorem mc:cH 3 Et:=⟨(lg.1 (by decide)).2.2,by decide,by decide,by decide⟩
theorem good0:cH 0 []:=⟨trivial,by simp,by simp,by omega⟩
theorem E5:(mE 3 Et 1 1).length=1:=by decide
theorem vu{w:World}:Calls P 8 #[] w fun ev w'=>ev=.returned (.bool true)/\w.grownBy w' none:=by
 apply vc8;dsimp only[VC8,rb,Wt,Br,Bb,Rd,Rs,Ws,cB,cS,cT,nb,iq];have r1':=im w #[.int .i64 1,.int .u32 0,.int .u32 1,.bool true,.int .i64 2,.int .u32 1,.int .u32 2,.bool true] 62;obtain⟨w1,Gf,g1,b1⟩:=eT w #[.int .i64 1,.int .u32 0,.int .u32 1,.bool true,.int .i64 2,.int .u32 1,.int .u32 2,.bool true] 62;rw[← Gf];obtain⟨A0,NF⟩:∃ A0:OA,A0=some ⟨w.heap.size,0,none⟩:=⟨_,rfl⟩;rw[← NF];have r1:aY w1 A0 (bB Et):=by rw[NF,Gf];exact r1'
 obtain⟨w2,hH,pH0,qH0,pH1,qH1,bH,gH⟩:=se w1 25 (.int .u64 0) (.slice none 0 0) (.int .u64 3) (.slice A0 2 2);refine⟨pH0,qH0,pH1,qH1,?_⟩;rw[← hH];have Hx:A0=none->2=0:=fun e=>by rw[NF]at e;cases e
 refine⟨3,aB bH 0,A0,2,2,aB bH 1,(jB (k:=1) (r1.kept_none gH) rfl (Nat.le_refl _) Hx mc (by omega)).mono fun ev w3 hh=>?_⟩;obtain⟨F,fn,fc,rfl,oF,g3⟩:=hh;have Pe:fn=(fe 3 Et 1).length:=by have h':=oF.cases.1;unfold cy at h';rw[List.length_map]at h';omega
 have RG:=fl oF;refine⟨_,_,_,_,rfl,(uS oF.row Pe RG mc (by omega)).mono fun ev w4 hh=>?_⟩;obtain⟨D,dn,dc,rfl,oD,g4⟩:=hh;have Qi:dn=Et.length:=by have h':=oD.cases.1;rw[dg]at h';omega
 have YM:=g4;obtain⟨w5,hJ,pJ0,qJ0,pJ1,qJ1,bJ,gJ⟩:=se w4 25 (.int .u64 0) (.slice none 0 0) (.int .u64 3) (.slice D dn dc);refine⟨_,_,_,_,_,_,rfl,pJ0,qJ0,pJ1,qJ1,?_⟩;rw[← hJ];have KA:=aA g4 gJ;refine(pL (oF.row.kept_none KA) Pe RG mc (by omega)).mono fun ev w6 hh=>?_;obtain⟨Y,yn,yc,rfl,oY,g6⟩:=hh;have Nc:yn=fL 2 1:=by have h':=oY.cases.1;rw[fH,dY]at h';rw[show Et.length=2 from rfl]at h';omega
 have PW:=fl oY;have LK:(Et.length:Int)=2:=rfl;rw[LK];have Na:((1:Nat):Int)=1:=rfl;rw[Na];obtain⟨w7,hT,pT0,qT0,pT1,qT1,pT2,qT2,bT,gT⟩:=layB3 w6 51 (.int .u64 0) (.int .i64 0) (.int .i64 0) (.int .u64 3) (.int .i64 1) (.int .i64 2);refine⟨_,_,_,_,_,_,_,rfl,pT0,qT0,pT1,qT1,pT2,qT2,?_⟩;rw[← hT];have SD:=gT;have bH7:=aF bH (aA g3 (aA KA (aA g6 gT)));have Ic:=aA gH (aA g3 (aA KA (aA g6 gT)));refine⟨3,aB bH7 0,A0,2,2,aB bH7 1,(uN (l:=Et) (k:=0) (r1.kept_none Ic) rfl (by omega) mc.evtsU (by decide)).mono fun ev w8 hh=>?_⟩;obtain⟨rfl,g8⟩:=hh;have Xz:=aA KA (aA g6 (aA gT g8));refine⟨_,_,_,_,rfl,(qf (i:=1) (oF.row.kept_none Xz) Pe RG mc (by omega) (oY.row.kept_none (aA gT g8)) Nc (by rw[Nc]at PW;rw[Nc];exact PW) (by decide)).mono fun ev w9 hh=>?_⟩;obtain⟨Z,zn,zc,rfl,oZ,g9⟩:=hh;have X9:zn=(dy Et 1 1).length:=by have h':=oZ.cases.1;unfold cy at h';rw[List.length_map]at h';omega
 have Ya:=(mc.blen (k:=1) (i:=1) (by omega) (by decide)).1;refine⟨_,_,_,_,rfl,(jB (k:=1) (A:=none) (n:=0) (c:=0) (l:=[]) (N:=0) (aE.nil w9 0 62 4).row rfl (by omega) (fun _=>rfl) good0 (by omega)).mono fun ev Gx hh=>?_⟩;obtain⟨E,en,ec,rfl,oE,HO⟩:=hh;have Tw:en=(fe 0 [] 1).length:=by have h':=oE.cases.1;unfold cy at h';rw[List.length_map]at h';omega
 have Ug:(fe 0 [] 1).length=32:=by rw[qN];rfl
 have SF:=aA gJ (aA g6 (aA gT (aA g8 (aA g9 HO))));have bJ10:=aF bJ (aA g6 (aA gT (aA g8 (aA g9 HO))));have Kz:=aA g8 (aA g9 HO);have bH10:=aF bH7 Kz;refine⟨_,_,_,_,rfl,fun _=>⟨fun _=>⟨fun _=>⟨3,aB bJ10 0,D,dn,dc,aB bJ10 1,3,aB bH10 0,A0,2,2,aB bH10 1,(zY (oD.row.kept_none SF) Qi (r1.kept_none (aA Ic Kz)) rfl (by rw[Qi];decide)).mono fun ev GQ hh=>?_⟩,fun h=>absurd rfl h⟩,fun h=>absurd rfl h⟩,fun h=>absurd rfl h⟩;obtain⟨rfl,KD⟩:=hh;have bT11:=aF bT (aA Kz KD);have bH11:=aF bH10 KD;have Ur:yn=2:=by rw[Nc];rfl
 refine⟨_,rfl,fun _=>⟨fun _=>⟨2,aB bT11 2,fun _=>⟨fun _=>⟨fun _=>⟨fun _=>⟨fun _=>⟨fun _=>⟨3,aB bH11 0,A0,2,2,aB bH11 1,(sg (l:=Et) (k:=1) (i:=1) ((r1.kept_none (aA Ic Kz)).kept_none KD) rfl (by omega) Hx (by omega) (by omega) mc.evtsU).mono fun ev HQ hh=>?_⟩,fun h=>absurd (by omega) h⟩,fun h=>absurd (by omega) h⟩,fun h=>absurd rfl h⟩,fun h=>absurd (by decide) h⟩,fun h=>absurd (by omega) h⟩,fun h=>absurd rfl h⟩,fun h=>absurd rfl h⟩,fun h=>by simp at h⟩;obtain⟨Q,qn,qc,rfl,oQ,HD⟩:=hh;have SW:qn=1:=by have h':=oQ.cases.1;rw[dp,E5]at h';omega
 refine⟨_,_,_,rfl,?_,aA g1 (aA Ic (aA Kz (aA KD HD)))⟩;rw[SW];rfl
end Go.Proofs.YtlieaecnllkefaaGreat

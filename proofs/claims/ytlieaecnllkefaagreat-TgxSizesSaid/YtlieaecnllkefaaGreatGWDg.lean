/- Own texts, packed: W15, W16, W17. -/
import Derived.Test.YtlieaecnllkefaaGreatGWCg
import Derived.Test.YtlieaecnllkefaaGreatGWXg
namespace Go.Proofs.YtlieaecnllkefaaGreat
open Go Go.V Go.RowKit
set_option linter.unusedVariables false
set_option linter.unusedSimpArgs false
set_option maxHeartbeats 8000000
set_option maxRecDepth 100000
def nt(k:Int):Nat:=([1,2,3,5,8,100,1048576]:List Nat).getD (k % 7).toNat 1
theorem mod7(k:Int):k % 7=0∨k % 7=1∨k % 7=2∨k % 7=3∨k % 7=4∨k % 7=5∨k % 7=6:=by omega
theorem oe(k:Int):1<=nt k/\nt k<=1048576:=by
 unfold nt
 rcases mod7 k with h | h | h | h | h | h | h <;>rw[h] <;>decide
theorem qef(k j:Int):nt k=nt j↔k % 7=j % 7:=by
 unfold nt
 constructor
 ·rcases mod7 k with h | h | h | h | h | h | h <;>rcases mod7 j with h' | h' | h' | h' | h' | h' | h' <;>rw[h,h'] <;>decide
 ·intro h;rw[h]
theorem sb{w:World}{k:Int}(hk:0<=k):Calls P 12 #[.int .u8 k] w fun ev w'=>ev=.returned (.int .i64 (nt k:Int))/\w.grownBy w' none:=by
 apply vc12;dsimp only[VC12,Wt,Br,Bb,Rd,Rc,Rs,Ix,rI_,rB_,rS_]
 have g1:=World.grownBy_alloc w (.cells #[.int .i64 1,.int .i64 2,.int .i64 3,.int .i64 5,.int .i64 8,.int .i64 100,.int .i64 1048576] 3) none
 have b1:(w.alloc (.cells #[.int .i64 1,.int .i64 2,.int .i64 3,.int .i64 5,.int .i64 8,.int .i64 100,.int .i64 1048576] 3)).heap[w.heap.size]?=some (.cells #[.int .i64 1,.int .i64 2,.int .i64 3,.int .i64 5,.int .i64 8,.int .i64 100,.int .i64 1048576] 3 (0,0)):=heap_alloc_new w _
 obtain⟨w1,hw_w1⟩:∃ w1,w1=w.alloc (.cells #[.int .i64 1,.int .i64 2,.int .i64 3,.int .i64 5,.int .i64 8,.int .i64 100,.int .i64 1048576] 3):=⟨_,rfl⟩
 rw[← hw_w1]at g1 b1 ⊢
 refine⟨⟨hk,by decide⟩,_,rfl,by omega,by omega,(nt k:Int),?_,rfl,g1⟩
 rw[tx,aa b1]
 unfold nt
 rcases mod7 k with h | h | h | h | h | h | h <;>rw[h] <;>rfl
theorem qbs{w:World}{A B:Option Addr}{n c m d:Nat}{l k:List Evt}{N M:Int}(hA:Row w A (fh l))(hn:n=l.length)(hB:Row w B (fh k))(hm:m=k.length)(hl:n<=2^40):
    Calls P 26 #[.agg #[.int .u64 N,.slice A n c],.agg #[.int .u64 M,.slice B m d]] w fun ev w'=>ev=.returned (.bool (decide (N=M/\l=k)))/\w.grownBy w' none:=by
  apply vc26;dsimp only[VC26,Wt,Br,Bb,Rd,Rc,Rs,Ix,rI_,rB_,rS_]
  have g1:=World.grownBy_alloc w (.cells #[.int .u64 N,.slice A n c] 25) none
  have b1:(w.alloc (.cells #[.int .u64 N,.slice A n c] 25)).heap[w.heap.size]?=some (.cells #[.int .u64 N,.slice A n c] 25 (0,0)):=heap_alloc_new w _
  obtain⟨w1,hw_w1⟩:∃ w1,w1=w.alloc (.cells #[.int .u64 N,.slice A n c] 25):=⟨_,rfl⟩
  rw[← hw_w1]at g1 b1 ⊢
  have g2:=World.grownBy_alloc w1 (.cells #[.int .u64 M,.slice B m d] 25) none
  have b2:(w1.alloc (.cells #[.int .u64 M,.slice B m d] 25)).heap[w1.heap.size]?=some (.cells #[.int .u64 M,.slice B m d] 25 (0,0)):=heap_alloc_new w1 _
  obtain⟨w2,hw_w2⟩:∃ w2,w2=w1.alloc (.cells #[.int .u64 M,.slice B m d] 25):=⟨_,rfl⟩
  rw[← hw_w2]at g2 b2 ⊢
  have b1':=ai b1 g2
  have g12:=ab g1 g2
  refine⟨N,aa b1' 0,M,aa b2 0,fun h=>⟨A,n,c,aa b1' 1,B,m,d,aa b2 1,(yi (hA.kept_none g12) hn (hB.kept_none g12) hm hl).mono fun ev w3 hh=>?_⟩,fun h=>⟨?_,g12⟩⟩
  · obtain⟨rfl,g3⟩:=hh
    refine⟨_,rfl,?_,ab g12 g3⟩
    simp[h]
  · simp[h]
theorem xf{k:Int}{l:List Int}(hb:bf l)(hl:l.length<=150):ci (rb k) (ir k l):=by
 have h:=qgp (k:=k) hb (by omega)
 have h2:=qcu k
 exact⟨h.1,fun e he=>(h.2 e he).2.1,by have:=qan k l;omega,by omega⟩
def K20:List Evt:=[⟨1,0,1,true⟩,⟨2,1,2,true⟩]
theorem sx:ci 3 K20:=⟨(vk.1 (by decide)).2.2,by decide,by decide,by decide⟩
theorem good0:ci 0 []:=⟨trivial,by simp,by simp,by omega⟩
theorem qqh:(qo3 3 K20 1 1).length=1:=by decide
theorem uz{w:World}:Calls P 8 #[] w fun ev w'=>ev=.returned (.bool true)/\w.grownBy w' none:=by
 apply vc8;dsimp only[VC8,Wt,Br,Bb,Rd,Rc,Rs,Ix,rI_,rB_,rS_]
 have r1':=wh w #[.int .i64 1,.int .u32 0,.int .u32 1,.bool true,.int .i64 2,.int .u32 1,.int .u32 2,.bool true] 62
 have g1:=World.grownBy_alloc w (.cells #[.int .i64 1,.int .u32 0,.int .u32 1,.bool true,.int .i64 2,.int .u32 1,.int .u32 2,.bool true] 62) none
 have b1:(w.alloc (.cells #[.int .i64 1,.int .u32 0,.int .u32 1,.bool true,.int .i64 2,.int .u32 1,.int .u32 2,.bool true] 62)).heap[w.heap.size]?=some (.cells #[.int .i64 1,.int .u32 0,.int .u32 1,.bool true,.int .i64 2,.int .u32 1,.int .u32 2,.bool true] 62 (0,0)):=heap_alloc_new w _
 obtain⟨w1,hw_w1⟩:∃ w1,w1=w.alloc (.cells #[.int .i64 1,.int .u32 0,.int .u32 1,.bool true,.int .i64 2,.int .u32 1,.int .u32 2,.bool true] 62):=⟨_,rfl⟩
 rw[← hw_w1]at g1 b1 ⊢
 obtain⟨A0,hA0⟩:∃ A0:Option Addr,A0=some ⟨w.heap.size,0,none⟩:=⟨_,rfl⟩
 rw[← hA0]
 have r1:Row w1 A0 (fh K20):=by rw[hA0,hw_w1];exact r1'
 have sH0:(w1.alloc (.cells #[.int .u64 0,.slice none 0 0] 25)).heap[w1.heap.size]?=some (.cells #[.int .u64 0,.slice none 0 0] 25 (0,0)):=heap_alloc_new w1 _
 have sH1:=ah sH0 0 (.int .u64 3)
 have sH2:=ah sH1 1 (.slice A0 2 2)
 have bH:(((w1.alloc (.cells #[.int .u64 0,.slice none 0 0] 25)).setCell ⟨w1.heap.size,0,none⟩ (.int .u64 3)).setCell ⟨w1.heap.size,1,none⟩ (.slice A0 2 2)).heap[w1.heap.size]?=some (.cells #[.int .u64 3,.slice A0 2 2] 25 (0,0)):=by simpa using sH2
 have gH:w1.grownBy (((w1.alloc (.cells #[.int .u64 0,.slice none 0 0] 25)).setCell ⟨w1.heap.size,0,none⟩ (.int .u64 3)).setCell ⟨w1.heap.size,1,none⟩ (.slice A0 2 2)) none:=(Kp.grown (ck (ck (Kp.of_none (S:=fun k=>w1.heap.size<=k) (cf (af w1 none) _)) (Nat.le_refl _)) (Nat.le_refl _)) (fun k hk e=>by omega))
 obtain⟨w2,hH⟩:∃ w2,w2=(((w1.alloc (.cells #[.int .u64 0,.slice none 0 0] 25)).setCell ⟨w1.heap.size,0,none⟩ (.int .u64 3)).setCell ⟨w1.heap.size,1,none⟩ (.slice A0 2 2)):=⟨_,rfl⟩
 rw[← hH]at bH gH
 refine⟨⟨_,aa sH0 0⟩,ae sH0 0,⟨_,aa sH1 1⟩,ae sH1 1,?_⟩
 rw[← hH]
 have hnone:A0=none->2=0:=fun e=>by rw[hA0]at e;cases e
 refine⟨3,aa bH 0,A0,2,2,aa bH 1,(gu (k:=1) (r1.kept_none gH) rfl (Nat.le_refl _) hnone sx (by omega)).mono fun ev w3 hh=>?_⟩
 obtain⟨F,fn,fc,rfl,oF,g3⟩:=hh
 have hfn:fn=(fx 3 K20 1).length:=by have h':=oF.cases.1;unfold u8s at h';rw[List.length_map]at h';omega
 have hfc:=fm oF
 refine⟨_,_,_,_,rfl,(qbe oF.row hfn hfc sx (by omega)).mono fun ev w4 hh=>?_⟩
 obtain⟨D,dn,dc,rfl,oD,g4⟩:=hh
 have hdn:dn=K20.length:=by have h':=oD.cases.1;rw[cw]at h';omega
 have g34:=g4
 have sJ0:(w4.alloc (.cells #[.int .u64 0,.slice none 0 0] 25)).heap[w4.heap.size]?=some (.cells #[.int .u64 0,.slice none 0 0] 25 (0,0)):=heap_alloc_new w4 _
 have sJ1:=ah sJ0 0 (.int .u64 3)
 have sJ2:=ah sJ1 1 (.slice D dn dc)
 have bJ:(((w4.alloc (.cells #[.int .u64 0,.slice none 0 0] 25)).setCell ⟨w4.heap.size,0,none⟩ (.int .u64 3)).setCell ⟨w4.heap.size,1,none⟩ (.slice D dn dc)).heap[w4.heap.size]?=some (.cells #[.int .u64 3,.slice D dn dc] 25 (0,0)):=by simpa using sJ2
 have gJ:w4.grownBy (((w4.alloc (.cells #[.int .u64 0,.slice none 0 0] 25)).setCell ⟨w4.heap.size,0,none⟩ (.int .u64 3)).setCell ⟨w4.heap.size,1,none⟩ (.slice D dn dc)) none:=(Kp.grown (ck (ck (Kp.of_none (S:=fun k=>w4.heap.size<=k) (cf (af w4 none) _)) (Nat.le_refl _)) (Nat.le_refl _)) (fun k hk e=>by omega))
 obtain⟨w5,hJ⟩:∃ w5,w5=(((w4.alloc (.cells #[.int .u64 0,.slice none 0 0] 25)).setCell ⟨w4.heap.size,0,none⟩ (.int .u64 3)).setCell ⟨w4.heap.size,1,none⟩ (.slice D dn dc)):=⟨_,rfl⟩
 rw[← hJ]at bJ gJ
 refine⟨_,_,_,_,_,_,rfl,⟨_,aa sJ0 0⟩,ae sJ0 0,⟨_,aa sJ1 1⟩,ae sJ1 1,?_⟩
 rw[← hJ]
 have g35:=ab g4 gJ
 refine(pb (oF.row.kept_none g35) hfn hfc sx (by omega)).mono fun ev w6 hh=>?_
 obtain⟨Y,yn,yc,rfl,oY,g6⟩:=hh
 have hyn:yn=lg 2 1:=by have h':=oY.cases.1;rw[gm,dq]at h';rw[show K20.length=2 from rfl]at h';omega
 have hyc:=fm oY
 have hlen2:(K20.length:Int)=2:=rfl
 rw[hlen2]
 have h11:((1:Nat):Int)=1:=rfl
 rw[h11]
 have sT0:(w6.alloc (.cells #[.int .u64 0,.int .i64 0,.int .i64 0] 51)).heap[w6.heap.size]?=some (.cells #[.int .u64 0,.int .i64 0,.int .i64 0] 51 (0,0)):=heap_alloc_new w6 _
 have sT1:=ah sT0 0 (.int .u64 3)
 have sT2:=ah sT1 1 (.int .i64 1)
 have sT3:=ah sT2 2 (.int .i64 2)
 have bT:((((w6.alloc (.cells #[.int .u64 0,.int .i64 0,.int .i64 0] 51)).setCell ⟨w6.heap.size,0,none⟩ (.int .u64 3)).setCell ⟨w6.heap.size,1,none⟩ (.int .i64 1)).setCell ⟨w6.heap.size,2,none⟩ (.int .i64 2)).heap[w6.heap.size]?=some (.cells #[.int .u64 3,.int .i64 1,.int .i64 2] 51 (0,0)):=by simpa using sT3
 have gT:w6.grownBy ((((w6.alloc (.cells #[.int .u64 0,.int .i64 0,.int .i64 0] 51)).setCell ⟨w6.heap.size,0,none⟩ (.int .u64 3)).setCell ⟨w6.heap.size,1,none⟩ (.int .i64 1)).setCell ⟨w6.heap.size,2,none⟩ (.int .i64 2)) none:=(Kp.grown (ck (ck (ck (Kp.of_none (S:=fun k=>w6.heap.size<=k) (cf (af w6 none) _)) (Nat.le_refl _)) (Nat.le_refl _)) (Nat.le_refl _)) (fun k hk e=>by omega))
 obtain⟨w7,hT⟩:∃ w7,w7=((((w6.alloc (.cells #[.int .u64 0,.int .i64 0,.int .i64 0] 51)).setCell ⟨w6.heap.size,0,none⟩ (.int .u64 3)).setCell ⟨w6.heap.size,1,none⟩ (.int .i64 1)).setCell ⟨w6.heap.size,2,none⟩ (.int .i64 2)):=⟨_,rfl⟩
 rw[← hT]at bT gT
 refine⟨_,_,_,_,_,_,_,rfl,⟨_,aa sT0 0⟩,ae sT0 0,⟨_,aa sT1 1⟩,ae sT1 1,⟨_,aa sT2 2⟩,ae sT2 2,?_⟩
 rw[← hT]
 have g67:=gT
 have bH7:=ai bH (ab g3 (ab g35 (ab g6 gT)))
 have g17:=ab gH (ab g3 (ab g35 (ab g6 gT)))
 refine⟨3,aa bH7 0,A0,2,2,aa bH7 1,(qj8 (l:=K20) (k:=0) (r1.kept_none g17) rfl (by omega) sx.evtsU (by decide)).mono fun ev w8 hh=>?_⟩
 obtain⟨rfl,g8⟩:=hh
 have g38:=ab g35 (ab g6 (ab gT g8))
 refine⟨_,_,_,_,rfl,(p9 (i:=1) (oF.row.kept_none g38) hfn hfc sx (by omega) (oY.row.kept_none (ab gT g8)) hyn (by rw[hyn]at hyc;rw[hyn];exact hyc) (by decide)).mono fun ev w9 hh=>?_⟩
 obtain⟨Z,zn,zc,rfl,oZ,g9⟩:=hh
 have hzn:zn=(ej K20 1 1).length:=by have h':=oZ.cases.1;unfold u8s at h';rw[List.length_map]at h';omega
 have hz1:=(sx.blen (k:=1) (i:=1) (by omega) (by decide)).1
 refine⟨_,_,_,_,rfl,(gu (k:=1) (A:=none) (n:=0) (c:=0) (l:=[]) (N:=0) (am.nil w9 0 62 4).row rfl (by omega) (fun _=>rfl) good0 (by omega)).mono fun ev w10 hh=>?_⟩
 obtain⟨E,en,ec,rfl,oE,g10⟩:=hh
 have hen:en=(fx 0 [] 1).length:=by have h':=oE.cases.1;unfold u8s at h';rw[List.length_map]at h';omega
 have h32:(fx 0 [] 1).length=32:=by rw[vc];rfl
 have g410:=ab gJ (ab g6 (ab gT (ab g8 (ab g9 g10))))
 have bJ10:=ai bJ (ab g6 (ab gT (ab g8 (ab g9 g10))))
 have g710:=ab g8 (ab g9 g10)
 have bH10:=ai bH7 g710
 refine⟨_,_,_,_,rfl,fun _=>⟨fun _=>⟨fun _=>⟨3,aa bJ10 0,D,dn,dc,aa bJ10 1,3,aa bH10 0,A0,2,2,aa bH10 1,(qbs (oD.row.kept_none g410) hdn (r1.kept_none (ab g17 g710)) rfl (by rw[hdn];decide)).mono fun ev w11 hh=>?_⟩,fun h=>absurd rfl h⟩,fun h=>absurd rfl h⟩,fun h=>absurd rfl h⟩
 obtain⟨rfl,g11⟩:=hh
 have bT11:=ai bT (ab g710 g11)
 have bH11:=ai bH10 g11
 have hyn2:yn=2:=by rw[hyn];rfl
 refine⟨_,rfl,fun _=>⟨fun _=>⟨2,aa bT11 2,fun _=>⟨fun _=>⟨fun _=>⟨fun _=>⟨fun _=>⟨fun _=>⟨3,aa bH11 0,A0,2,2,aa bH11 1,(qgl (l:=K20) (k:=1) (i:=1) ((r1.kept_none (ab g17 g710)).kept_none g11) rfl (by omega) hnone (by omega) (by omega) sx.evtsU).mono fun ev w12 hh=>?_⟩,fun h=>absurd (by omega) h⟩,fun h=>absurd (by omega) h⟩,fun h=>absurd rfl h⟩,fun h=>absurd (by decide) h⟩,fun h=>absurd (by omega) h⟩,fun h=>absurd rfl h⟩,fun h=>absurd rfl h⟩,fun h=>by simp at h⟩
 obtain⟨Q,qn,qc,rfl,oQ,g12⟩:=hh
 have hqn:qn=1:=by have h':=oQ.cases.1;rw[dt,qqh]at h';omega
 refine⟨_,_,_,rfl,?_,ab g1 (ab g17 (ab g710 (ab g11 g12)))⟩
 rw[hqn];rfl
theorem qob{N M:Int}{l q:List Evt}{s t:Int}(h:ci N l)(h':ci M q):decide (fx N l (nt s)=fx M q (nt t))=(decide (N=M/\l=q) && decide (s % 7=t % 7)):=by
 rw[Bool.eq_iff_iff,Bool.and_eq_true,decide_eq_true_iff,decide_eq_true_iff,decide_eq_true_iff]
 constructor
 ·intro e
  obtain⟨a,b,c⟩:=qmf h h' (oe s) (oe t) e
  exact⟨⟨a,c⟩,(qef s t).1 b⟩
 ·rintro⟨⟨a,b⟩,c⟩
  rw[a,b,(qef s t).2 c]
theorem qnl{w:World}{A B:Option Addr}{n c m d:Nat}{l q:List Int}{k j s t:Int}(hk:0<=k/\k<=255)(hj:0<=j/\j<=255)(hrow:Row w A (u8s l))(hn:n=l.length)(hb:bf l)(hrow2:Row w B (u8s q))(hm:m=q.length)(hb2:bf q)(hs:0<=s/\s<=255)(ht:0<=t/\t<=255):
    Calls P 7 #[.int .u8 k,.int .u8 j,.slice A n c,.slice B m d,.int .u8 s,.int .u8 t] w fun ev w'=>ev=.returned (.bool true)/\w.grownBy w' none:=by
  apply vc7;dsimp only[VC7,Wt,Br,Bb,Rd,Rc,Rs,Ix,rI_,rB_,rS_]
  refine uz.mono fun ev w1 hh=>?_
  obtain⟨rfl,g1⟩:=hh
  refine⟨true,rfl,fun h=>absurd h (by simp),fun _=>⟨fun _=>⟨rfl,g1⟩,fun h60=>⟨fun _=>⟨rfl,g1⟩,fun h61=>?_⟩⟩⟩
  have hG1:=xf (k:=k) hb (by omega)
  have hG2:=xf (k:=j) hb2 (by omega)
  refine(nd (hrow.kept_none g1) hn hb hk (by omega)).mono fun ev w2 hh=>?_
  obtain⟨L,hL⟩:∃ L,L=ir k l:=⟨_,rfl⟩
  obtain⟨N,hN⟩:∃ N,N=rb k:=⟨_,rfl⟩
  rw[← hL,← hN]at hh hG1
  obtain⟨A2,n2,c2,rfl,o2,g2⟩:=hh
  have hn2:n2=L.length:=by have:=o2.cases.1;rw[cw]at this;omega
  refine⟨_,_,_,_,rfl,?_⟩
  have g12:=ab g1 g2
  refine(nd (hrow2.kept_none g12) hm hb2 hj (by omega)).mono fun ev w3 hh=>?_
  obtain⟨Q,hQ⟩:∃ Q,Q=ir j q:=⟨_,rfl⟩
  obtain⟨M,hM⟩:∃ M,M=rb j:=⟨_,rfl⟩
  rw[← hQ,← hM]at hh hG2
  obtain⟨A3,n3,c3,rfl,o3,g3⟩:=hh
  have hn3:n3=Q.length:=by have:=o3.cases.1;rw[cw]at this;omega
  refine⟨_,_,_,_,rfl,?_⟩
  have gx1:=World.grownBy_alloc w3 (.cells #[.int .u64 0,.slice none 0 0] 25) none
  have bx1:(w3.alloc (.cells #[.int .u64 0,.slice none 0 0] 25)).heap[w3.heap.size]?=some (.cells #[.int .u64 0,.slice none 0 0] 25 (0,0)):=heap_alloc_new w3 _
  obtain⟨x1,hw_x1⟩:∃ x1,x1=w3.alloc (.cells #[.int .u64 0,.slice none 0 0] 25):=⟨_,rfl⟩
  rw[← hw_x1]at gx1 bx1 ⊢
  have gx2:=World.grownBy_alloc x1 (.cells #[.int .u64 0,.slice none 0 0] 25) none
  have bx2:(x1.alloc (.cells #[.int .u64 0,.slice none 0 0] 25)).heap[x1.heap.size]?=some (.cells #[.int .u64 0,.slice none 0 0] 25 (0,0)):=heap_alloc_new x1 _
  obtain⟨x2,hw_x2⟩:∃ x2,x2=x1.alloc (.cells #[.int .u64 0,.slice none 0 0] 25):=⟨_,rfl⟩
  rw[← hw_x2]at gx2 bx2 ⊢
  have zx:w3.heap.size<x1.heap.size:=(Array.getElem?_eq_some_iff.1 bx1).1
  have p0:=ai bx1 gx2
  have p1:=ah p0 0 (.int .u64 N)
  have p2:=ah p1 1 (.slice A2 n2 c2)
  have q0:=qb (qb bx2 (p:=⟨w3.heap.size,0,none⟩) (by show w3.heap.size≠_;omega) (.int .u64 N)) (p:=⟨w3.heap.size,1,none⟩) (by show w3.heap.size≠_;omega) (.slice A2 n2 c2)
  have q1:=ah q0 0 (.int .u64 M)
  have q2:=ah q1 1 (.slice A3 n3 c3)
  have p3:=qb (qb p2 (p:=⟨x1.heap.size,0,none⟩) (by show x1.heap.size≠_;omega) (.int .u64 M)) (p:=⟨x1.heap.size,1,none⟩) (by show x1.heap.size≠_;omega) (.slice A3 n3 c3)
  have gS:w3.grownBy ((((x2.setCell ⟨w3.heap.size,0,none⟩ (.int .u64 N)).setCell ⟨w3.heap.size,1,none⟩ (.slice A2 n2 c2)).setCell ⟨x1.heap.size,0,none⟩ (.int .u64 M)).setCell ⟨x1.heap.size,1,none⟩ (.slice A3 n3 c3)) none:=(iy (iy (iy (iy (Kp.of_none (S:=fun q=>w3.heap.size<=q) (ab gx1 gx2)) (Nat.le_refl _)) (Nat.le_refl _)) (Nat.le_of_lt zx)) (Nat.le_of_lt zx)).grown (fun q hq e=>by omega)
  refine⟨⟨_,aa p0 0⟩,ae p0 0,⟨_,aa p1 1⟩,ae p1 1,⟨_,aa q0 0⟩,ae q0 0,⟨_,aa q1 1⟩,ae q1 1,?_⟩
  obtain⟨x3,hx3⟩:∃ x3,x3=(((x2.setCell ⟨w3.heap.size,0,none⟩ (.int .u64 N)).setCell ⟨w3.heap.size,1,none⟩ (.slice A2 n2 c2)).setCell ⟨x1.heap.size,0,none⟩ (.int .u64 M)).setCell ⟨x1.heap.size,1,none⟩ (.slice A3 n3 c3):=⟨_,rfl⟩
  have p4:x3.heap[w3.heap.size]?=some (.cells #[.int .u64 N,.slice A2 n2 c2] 25 (0,0)):=by rw[hx3];exact p3
  have q4:x3.heap[x1.heap.size]?=some (.cells #[.int .u64 M,.slice A3 n3 c3] 25 (0,0)):=by rw[hx3];exact q2
  rw[← hx3]at gS ⊢
  have gd:=aj (af x3 none)
  obtain⟨y0,hy0⟩:∃ y0,y0=x3.drew:=⟨_,rfl⟩
  rw[← hy0]at gd ⊢
  have p5:=ai p4 gd
  have q5:=ai q4 gd
  have g3y:=ab gS gd
  have r2:=(o2.row.kept_none g3).kept_none g3y
  have r3:=o3.row.kept_none g3y
  refine⟨fun X=>y0.grownBy X none,af _ _,N,fun X hX=>aa (ai p5 hX) 0,A2,n2,c2,fun X hX=>aa (ai p5 hX) 1,(sb hs.1).mono fun ev w4 hh=>?_⟩
  obtain⟨rfl,g4⟩:=hh
  refine⟨_,rfl,g4,(gu (r2.kept_none g4) hn2 (fm o2) (fv o2) hG1 (oe s)).mono fun ev w5 hh=>?_⟩
  obtain⟨F,fn,fc,rfl,oF,g5⟩:=hh
  have hfn:fn=(fx N L (nt s)).length:=by have h':=oF.cases.1;unfold u8s at h';rw[List.length_map]at h';omega
  have g45:=ab g4 g5
  have gd5:=aj (af w5 none)
  obtain⟨y1,hy1⟩:∃ y1,y1=w5.drew:=⟨_,rfl⟩
  have g5y:w5.grownBy y1 none:=by rw[hy1];exact gd5
  have gy1:=ab g45 g5y
  have p6:=ai p5 gy1
  have q6:=ai q5 gy1
  refine⟨_,_,_,_,rfl,g45,?_⟩
  rw[← hy1]
  refine⟨fun X=>y1.grownBy X none,af _ _,M,fun X hX=>aa (ai q6 hX) 0,A3,n3,c3,fun X hX=>aa (ai q6 hX) 1,(sb ht.1).mono fun ev w6 hh=>?_⟩
  obtain⟨rfl,g6⟩:=hh
  refine⟨_,rfl,g6,(gu ((r3.kept_none gy1).kept_none g6) hn3 (fm o3) (fv o3) hG2 (oe t)).mono fun ev w7 hh=>?_⟩
  obtain⟨E,en,ec,rfl,oE,g7⟩:=hh
  have hen:en=(fx M Q (nt t)).length:=by have h':=oE.cases.1;unfold u8s at h';rw[List.length_map]at h';omega
  have g67:=ab g6 g7
  have p7:=ai p6 g67
  have q7:=ai q6 g67
  have gy7:=ab gy1 g67
  refine⟨_,_,_,_,rfl,g67,N,aa p7 0,A2,n2,c2,aa p7 1,M,aa q7 0,A3,n3,c3,aa q7 1,(qbs (r2.kept_none gy7) hn2 (r3.kept_none gy7) hn3 (by have:=hG1.len;omega)).mono fun ev w8 hh=>?_⟩
  obtain⟨rfl,g8⟩:=hh
  have rF:=oF.row.kept_none (ab g5y (ab g67 g8))
  have rE:=oE.row.kept_none g8
  have gAll:=ab g12 (ab g3 (ab g3y (ab gy7 g8)))
  have hstr:decide (qa8 (fx N L (nt s))=qa8 (fx M Q (nt t)))=decide (fx N L (nt s)=fx M Q (nt t)):=by
    rw[decide_eq_decide]
    exact⟨qec (fun x hx=>qw x hx) (fun x hx=>qw x hx),fun h=>by rw[h]⟩
  rw[qob hG1 hG2]at hstr
  refine⟨_,rfl,fun h=>⟨⟨hs.1,by decide⟩,⟨ht.1,by decide⟩,fun _=>⟨fun _=>⟨_,du rF hfn,_,du rE hen,_,fun w=>qc1 _ _ _ _ w,_,fun w=>qc2 _ _ _ _ w,?_,gAll⟩,fun h=>absurd rfl h⟩,fun h=>absurd rfl h⟩,fun h=>⟨fun _=>⟨fun _=>⟨_,du rF hfn,_,du rE hen,_,fun w=>qc1 _ _ _ _ w,_,fun w=>qc2 _ _ _ _ w,?_,gAll⟩,fun h=>absurd rfl h⟩,fun h=>absurd rfl h⟩⟩
  · rw[hstr,h,Bool.true_and];simp
  · rw[hstr,h,Bool.false_and];simp
theorem qj6(a b c d e f:Int)(w:World):(Op.equalIn 10000 51 (.agg #[.int .u64 a,.int .i64 b,.int .i64 c]) (.agg #[.int .u64 d,.int .i64 e,.int .i64 f])).run P w=.ok (decide (a=d/\b=e/\c=f)) w:=by
 rw[run_equalIn_struct w 9999 51 _ _ (by kernel_rfl) (by kernel_rfl)]
 obtain ⟨f0, g0, h0, hfg, hf1, hf2, hf3, hg1, hg2, hg3, hh1, hh2, hh3⟩ : ∃ f g h : Field, (P.fieldsOf 51).toList = [f, g, h] ∧ f.name = "N" ∧ f.type = 22 ∧ f.offset = 0 ∧ g.name = "K" ∧ g.type = 3 ∧ g.offset = 1 ∧ h.name = "Count" ∧ h.type = 3 ∧ h.offset = 2 :=
  ⟨((P.fieldsOf 51).toList)[0]!,((P.fieldsOf 51).toList)[1]!,((P.fieldsOf 51).toList)[2]!,by kernel_rfl,by kernel_rfl,by kernel_rfl,by kernel_rfl,by kernel_rfl,by kernel_rfl,by kernel_rfl,by kernel_rfl,by kernel_rfl,by kernel_rfl⟩
 rw[hfg]
 have hu:P.underlying 22=some (.int .u64):=by kernel_rfl
 have hi:P.underlying 3=some (.int .i64):=by kernel_rfl
 have hp:P.plainKey 22=true:=by kernel_rfl
 have hq:P.plainKey 3=true:=by kernel_rfl
 have e1:∀(x y z:Int)(w:World),(part 22 #[.int .u64 x,.int .i64 y,.int .i64 z] 0).run P w=.ok (.int .u64 x) w:=fun x y z w=>run_part_plain w hp rfl
 have e2:∀(x y z:Int)(w:World),(part 3 #[.int .u64 x,.int .i64 y,.int .i64 z] 1).run P w=.ok (.int .i64 y) w:=fun x y z w=>run_part_plain w hq rfl
 have e3:∀(x y z:Int)(w:World),(part 3 #[.int .u64 x,.int .i64 y,.int .i64 z] 2).run P w=.ok (.int .i64 z) w:=fun x y z w=>run_part_plain w hq rfl
 have q:∀(x y:Int)(w:World),(Op.equalIn 9999 22 (.int .u64 x) (.int .u64 y)).run P w=.ok (x ==y) w:=fun x y w=>run_equalIn_int w 9998 _ _ _ _ _ hu
 have q':∀(x y:Int)(w:World),(Op.equalIn 9999 3 (.int .i64 x) (.int .i64 y)).run P w=.ok (x ==y) w:=fun x y w=>run_equalIn_int w 9998 _ _ _ _ _ hi
 simp only[Op.eqFields,hf1,hf2,hf3,hg1,hg2,hg3,hh1,hh2,hh3,Sem.run_bind,Sem.run_ite,e1,e2,e3,q,q',Result.andThen_ok]
 by_cases h1:a=d
 ·by_cases h2:b=e
  ·by_cases h3:c=f
   ·simp[h1,h2,h3]
   ·simp[h1,h2,h3]
  ·simp[h1,h2]
 ·simp[h1]
theorem qp4(s t:Operand)(a b c d e f:Int)(w:World):Sem.run P (do eqGuard .eql 51 s t (.agg #[.int .u64 a,.int .i64 b,.int .i64 c]) (.agg #[.int .u64 d,.int .i64 e,.int .i64 f]);Go.binOp .eql 51 (.agg #[.int .u64 a,.int .i64 b,.int .i64 c]) (.agg #[.int .u64 d,.int .i64 e,.int .i64 f]):Sem Value) w=.ok (.bool (decide (a=d/\b=e/\c=f))) w:=by
 rw[Sem.run_bind,run_eqGuard_agg w .eql 51 s t _ _ (by kernel_rfl),Result.andThen_ok,run_eql_struct w,qj6]
 rfl
theorem qbg{l:List Evt}{k p:Nat}:(bx l k (p+1)).length=(bx l k p).length+(ej l k p).length:=by rw[fp,List.length_append]
theorem qd5{w:World}{A:Option Addr}{n c:Nat}{l:List Int}{k s:Int}(hk:0<=k/\k<=255)(hrow:Row w A (u8s l))(hn:n=l.length)(hb:bf l)(hs:0<=s/\s<=255):
    Calls P 5 #[.int .u8 k,.slice A n c,.int .u8 s] w fun ev w'=>ev=.returned (.bool true)/\w.grownBy w' none:=by
  apply vc5;dsimp only[VC5,Wt,Br,Bb,Rd,Rc,Rs,Ix,rI_,rB_,rS_]
  try simp only[InK]
  refine uz.mono fun ev w1 hh=>?_
  obtain⟨rfl,g1⟩:=hh
  refine⟨true,rfl,fun h=>absurd h (by simp),fun _=>⟨fun _=>⟨by trivial,g1⟩,fun h90=>?_⟩⟩
  have hG:=xf (k:=k) hb (by omega)
  refine(nd (hrow.kept_none g1) hn hb hk (by omega)).mono fun ev w2 hh=>?_
  obtain⟨L,hL⟩:∃ L,L=ir k l:=⟨_,rfl⟩
  obtain⟨N,hN⟩:∃ N,N=rb k:=⟨_,rfl⟩
  rw[← hL,← hN]at hh hG
  obtain⟨A2,n2,c2,rfl,o2,g2⟩:=hh
  have hn2:n2=L.length:=by have:=o2.cases.1;rw[cw]at this;omega
  have hlen:=hG.len
  have sH0:(w2.alloc (.cells #[.int .u64 0,.slice none 0 0] 25)).heap[w2.heap.size]?=some (.cells #[.int .u64 0,.slice none 0 0] 25 (0,0)):=heap_alloc_new w2 _
  have sH1:=ah sH0 0 (.int .u64 N)
  have sH2:=ah sH1 1 (.slice A2 n2 c2)
  have bH:(((w2.alloc (.cells #[.int .u64 0,.slice none 0 0] 25)).setCell ⟨w2.heap.size,0,none⟩ (.int .u64 N)).setCell ⟨w2.heap.size,1,none⟩ (.slice A2 n2 c2)).heap[w2.heap.size]?=some (.cells #[.int .u64 N,.slice A2 n2 c2] 25 (0,0)):=by simpa using sH2
  have gH:w2.grownBy (((w2.alloc (.cells #[.int .u64 0,.slice none 0 0] 25)).setCell ⟨w2.heap.size,0,none⟩ (.int .u64 N)).setCell ⟨w2.heap.size,1,none⟩ (.slice A2 n2 c2)) none:=(Kp.grown (ck (ck (Kp.of_none (S:=fun k=>w2.heap.size<=k) (cf (af w2 none) _)) (Nat.le_refl _)) (Nat.le_refl _)) (fun k hk e=>by omega))
  obtain⟨w3,hH⟩:∃ w3,w3=(((w2.alloc (.cells #[.int .u64 0,.slice none 0 0] 25)).setCell ⟨w2.heap.size,0,none⟩ (.int .u64 N)).setCell ⟨w2.heap.size,1,none⟩ (.slice A2 n2 c2)):=⟨_,rfl⟩
  rw[← hH]at bH gH
  refine⟨_,_,_,_,rfl,⟨_,aa sH0 0⟩,ae sH0 0,⟨_,aa sH1 1⟩,ae sH1 1,?_⟩
  rw[← hH]
  obtain⟨z,hz⟩:∃ z,z=nt s:=⟨_,rfl⟩
  have hzr:1<=z/\z<=1048576:=by rw[hz];exact oe s
  refine(sb hs.1).mono fun ev w4 hh=>?_
  rw[← hz]at hh
  obtain⟨rfl,g4⟩:=hh
  have b4:=ai bH g4
  refine⟨_,rfl,N,aa b4 0,A2,n2,c2,aa b4 1,(gu ((o2.row.kept_none gH).kept_none g4) hn2 (fm o2) (fv o2) hG hzr).mono fun ev w5 hh=>?_⟩
  obtain⟨F,fn,fc,rfl,oF,g5⟩:=hh
  have hfn:fn=(fx N L z).length:=by have h':=oF.cases.1;unfold u8s at h';rw[List.length_map]at h';omega
  have hfc:=fm oF
  refine⟨_,_,_,_,rfl,(pb oF.row hfn hfc hG hzr).mono fun ev w6 hh=>?_⟩
  obtain⟨Y,yn,yc,rfl,oY,g6⟩:=hh
  have hyn:yn=lg L.length z:=by have h':=oY.cases.1;rw[gm,dq]at h';omega
  have hyc:=fm oY
  have b6:=ai b4 (ab g5 g6)
  obtain⟨Lc,hLc⟩:∃ Lc,Lc=(L.length:Int):=⟨_,rfl⟩
  obtain⟨zc,hzc⟩:∃ zc,zc=(z:Int):=⟨_,rfl⟩
  rw[← hLc,← hzc]
  have sT0:(w6.alloc (.cells #[.int .u64 0,.int .i64 0,.int .i64 0] 51)).heap[w6.heap.size]?=some (.cells #[.int .u64 0,.int .i64 0,.int .i64 0] 51 (0,0)):=heap_alloc_new w6 _
  have sT1:=ah sT0 0 (.int .u64 N)
  have sT2:=ah sT1 1 (.int .i64 zc)
  have sT3:=ah sT2 2 (.int .i64 Lc)
  have bT:((((w6.alloc (.cells #[.int .u64 0,.int .i64 0,.int .i64 0] 51)).setCell ⟨w6.heap.size,0,none⟩ (.int .u64 N)).setCell ⟨w6.heap.size,1,none⟩ (.int .i64 zc)).setCell ⟨w6.heap.size,2,none⟩ (.int .i64 Lc)).heap[w6.heap.size]?=some (.cells #[.int .u64 N,.int .i64 zc,.int .i64 Lc] 51 (0,0)):=by simpa using sT3
  have gT:w6.grownBy ((((w6.alloc (.cells #[.int .u64 0,.int .i64 0,.int .i64 0] 51)).setCell ⟨w6.heap.size,0,none⟩ (.int .u64 N)).setCell ⟨w6.heap.size,1,none⟩ (.int .i64 zc)).setCell ⟨w6.heap.size,2,none⟩ (.int .i64 Lc)) none:=(Kp.grown (ck (ck (ck (Kp.of_none (S:=fun k=>w6.heap.size<=k) (cf (af w6 none) _)) (Nat.le_refl _)) (Nat.le_refl _)) (Nat.le_refl _)) (fun k hk e=>by omega))
  obtain⟨w7,hT⟩:∃ w7,w7=((((w6.alloc (.cells #[.int .u64 0,.int .i64 0,.int .i64 0] 51)).setCell ⟨w6.heap.size,0,none⟩ (.int .u64 N)).setCell ⟨w6.heap.size,1,none⟩ (.int .i64 zc)).setCell ⟨w6.heap.size,2,none⟩ (.int .i64 Lc)):=⟨_,rfl⟩
  rw[← hT]at bT gT
  refine⟨_,_,_,_,_,_,_,rfl,⟨_,aa sT0 0⟩,ae sT0 0,⟨_,aa sT1 1⟩,ae sT1 1,⟨_,aa sT2 2⟩,ae sT2 2,?_⟩
  rw[← hT]
  have b7:=ai b6 gT
  have gpre:=ab g1 (ab g2 (ab gH (ab g4 (ab g5 (ab g6 gT)))))
  have g57:=ab g6 gT
  have g37:=ab g4 (ab g5 g57)
  obtain⟨m,hm⟩:∃ m,m=lg L.length z:=⟨_,rfl⟩
  rw[← hm]at hyn oY
  have hdiv:((n2:Int)+zc-1) / zc=(m:Int):=by rw[hn2,hzc,hm];exact uw hzr.1
  have hmn:m<=L.length:=by rw[hm];exact qad hzr.1
  refine⟨A2,n2,c2,aa b7 1,by omega,by omega,⟨by omega,by omega,by rw[hdiv];omega⟩,fun h=>absurd (by rw[hdiv,hyn]) h,fun _=>?_⟩
  have hfl:=hG.flen (k:=z) hzr.1
  have hfe:(fx N L z).length=24+((bx L z m).length+(16*m+8)):=by rw[hm];exact vc
  refine⟨fun q x i W=>∃ p:Nat,i=(p:Int)/\p<=m/\q=m-p/\x=32+16*(p:Int)+((bx L z p).length:Int)/\w7.grownBy W none,⟨_,0,rfl,by omega,rfl,by simp[bx],af _ _⟩,?_⟩
  rintro q x i W ⟨p,rfl,hp,rfl,rfl,gW⟩
  have hblen:∀ q,q<=m->(bx L z q).length<=9480*q:=fun q hq=>hG.bodiesLen hzr.1 (by omega)
  have g5W:=ab g57 gW
  refine⟨fun hlt=>?_,fun hge=>?_⟩
  · have lp:p<m:=by omega
    have hpk:p*z<L.length:=(gk hzr.1).1 (by omega)
    have tp:(p:Int).toNat=p:=by omega
    have hrl:(fj L z m).length=m:=dq
    have hrow:(fj L z m)[p]'(by rw[hrl];exact lp)=vq L z p:=by unfold fj;simp
    have rY:=fun {X:World} (hX:w7.grownBy X none)=>we ((oY.row.kept_none gT).kept_none hX) (j:=p) (by rw[hrl];exact lp)
    rw[hrow]at rY
    obtain⟨a,e0,e1,e2,e3⟩:=rY gW
    have hbl:=hG.blen hzr.1 hpk
    have hbp:=hblen p hp
    have hbp1:=hblen (p+1) (by omega)
    have hsucc:=qbg (l:=L) (k:=z) (p:=p)
    have hri:(vq L z p).len=((ej L z p).length:Int):=rfl
    rw[tp]
    refine⟨a,e0,by omega,by omega,_,e1,by omega,by omega,(p9 (i:=p) (oF.row.kept_none g5W) hfn hfc hG hzr (by rw[← hm];exact(oY.row.kept_none gT).kept_none gW) (by rw[← hm];exact hyn) (by omega) (by omega)).mono fun ev W1 hh=>?_⟩
    obtain⟨Z,zn,zc',rfl,oZ,gZ⟩:=hh
    have hzn:zn=(ej L z p).length:=by have h':=oZ.cases.1;unfold u8s at h';rw[List.length_map]at h';omega
    have gd:=aj (af W1 none)
    obtain⟨W2,hW2⟩:∃ W2,W2=W1.drew:=⟨_,rfl⟩
    rw[← hW2]at gd ⊢
    have gW2:w7.grownBy W2 none:=ab gW (ab gZ gd)
    obtain⟨a',e0',e1',e2',e3'⟩:=rY gW2
    rw[e0]at e0';cases e0'
    have b72:=ai b7 gW2
    have hrowE:=((o2.row.kept_none gH).kept_none g37).kept_none gW2
    obtain⟨ea,f0,f1,_⟩:=jm hrowE (j:=p*z) hpk
    have tpz:((p:Int)*zc)=((p*z:Nat):Int):=by rw[hzc];simp
    have tpz2:((p:Int)*zc).toNat=p*z:=by rw[tpz];omega
    refine⟨_,_,_,_,rfl,fun h=>absurd rfl h,fun _=>⟨a,e0,by omega,by omega,_,e1',fun h=>absurd (by rw[hzn,hri]) h,fun _=>⟨a,e0,by omega,by omega,_,e2',A2,n2,c2,aa b72 1,by omega,ea,f0,by omega,by omega,L[p*z].t,by rw[tpz2];exact f1,fun h=>absurd (vd hzr.1 hpk) h,fun _=>⟨by omega,m-(p+1),by omega,p+1,by omega,by omega,rfl,by omega,gW2⟩⟩⟩⟩
  · have hpm:p=m:=by omega
    subst hpm
    refine(qhc (by omega)).mono fun ev W1 hh=>?_
    obtain⟨rfl,gZ⟩:=hh
    have gW1:=ab gW gZ
    have b71:=ai b7 gW1
    have bT1:=ai bT gW1
    refine⟨_,_,_,_,rfl,fun _=>⟨fun _=>⟨fun _=>⟨N,aa bT1 0,zc,aa bT1 1,Lc,aa bT1 2,N,aa b71 0,A2,n2,c2,aa b71 1,_,fun w=>qp4 _ _ _ _ _ _ _ _ w,fun _=>⟨by simp,ab gpre gW1⟩,fun h=>?_⟩,fun h=>absurd (by omega) h⟩,fun h=>absurd rfl h⟩,fun h=>absurd rfl h⟩
    rw[hLc,hn2]at h
    simp at h
end Go.Proofs.YtlieaecnllkefaaGreat

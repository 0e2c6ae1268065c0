/- Own texts, packed: W15, W16, W17. -/
import Derived.Test.YtlieaecnllkefaaGreatGWCg
import Derived.Test.YtlieaecnllkefaaGreatGWXg
set_option linter.unusedVariables false
set_option linter.unusedSimpArgs false
set_option maxHeartbeats 8000000
set_option maxRecDepth 100000
namespace Go.Proofs.YtlieaecnllkefaaGreat
open Go Go.V Go.RowKit
def gD(k:Int):Nat:=([1,2,3,5,8,100,1048576]:List Nat).getD (k % 7).toNat 1
theorem CE(k:Int):k % 7=0∨k % 7=1∨k % 7=2∨k % 7=3∨k % 7=4∨k % 7=5∨k % 7=6:=by omega
theorem jJ(k:Int):1<=gD k/\gD k<=1048576:=by
 unfold gD;rcases CE k with h | h | h | h | h | h | h <;>rw[h] <;>decide
theorem tL(k j:Int):gD k=gD j↔k % 7=j % 7:=by
 unfold gD;constructor
 ·rcases CE k with h | h | h | h | h | h | h <;>rcases CE j with h' | h' | h' | h' | h' | h' | h' <;>rw[h,h'] <;>decide
 ·intro h;rw[h]
theorem kX{w:World}{k:Int}(hk:0<=k):Calls P 12 #[.int .u8 k] w fun ev w'=>ev=.returned (.int .i64 (gD k:Int))/\w.grownBy w' none:=by
 apply vc12;dsimp only[VC12,Ix,nb,iq];obtain⟨w1,DG,g1,b1⟩:=fQ w #[.int .i64 1,.int .i64 2,.int .i64 3,.int .i64 5,.int .i64 8,.int .i64 100,.int .i64 1048576] 3;rw[← DG];refine⟨⟨hk,by decide⟩,_,rfl,by omega,by omega,(gD k:Int),?_,rfl,g1⟩;rw[kK,aA b1];unfold gD;rcases CE k with h | h | h | h | h | h | h <;>rw[h] <;>rfl
theorem qR{w:World}{A B:OA}{n c m d:Nat}{l k:List aU}{N M:Int}(hA:bB w A (cw l))(hn:n=l.length)(hB:bB w B (cw k))(hm:m=k.length)(hl:n<=2^40):
    Calls P 26 #[.agg #[.int .u64 N,.slice A n c],.agg #[.int .u64 M,.slice B m d]] w fun ev w'=>ev=.returned (.bool (decide (N=M/\l=k)))/\w.grownBy w' none:=by
  apply vc26;dsimp only[VC26,rb,Br,Rd,Rs,cB,nb];obtain⟨w1,DG,g1,b1⟩:=fQ w #[.int .u64 N,.slice A n c] 25;rw[← DG];obtain⟨w2,Es,g2,b2⟩:=fQ w1 #[.int .u64 M,.slice B m d] 25;rw[← Es];have b1':=aE b1 g2;have Fd:=aB g1 g2;refine⟨N,aA b1' 0,M,aA b2 0,fun h=>⟨A,n,c,aA b1' 1,B,m,d,aA b2 1,(oM (hA.kept_none Fd) hn (hB.kept_none Fd) hm hl).mono fun ev w3 hh=>?_⟩,fun h=>⟨?_,Fd⟩⟩
  · obtain⟨rfl,g3⟩:=hh;refine⟨_,rfl,?_,aB Fd g3⟩;simp[h]
  · simp[h]
theorem ni{k:Int}{l:List Int}(hb:aR l)(hl:l.length<=150):bF (iI k) (eR k l):=by
 have h:=wx (k:=k) hb (by omega);have h2:=qF k;exact⟨h.1,fun e he=>(h.2 e he).2.1,by have:=qp k l;omega,by omega⟩
def Cd:List aU:=[⟨1,0,1,true⟩,⟨2,1,2,true⟩]
theorem kz:bF 3 Cd:=⟨(my.1 (by decide)).2.2,by decide,by decide,by decide⟩
theorem good0:bF 0 []:=⟨trivial,by simp,by simp,by omega⟩
theorem CK:(wk 3 Cd 1 1).length=1:=by decide
theorem mH{w:World}:Calls P 8 #[] w fun ev w'=>ev=.returned (.bool true)/\w.grownBy w' none:=by
 apply vc8;dsimp only[VC8,rb,Wt,Br,Bb,Rd,Rs,Ws,cB,cS,cT,nb,iq];have r1':=mb w #[.int .i64 1,.int .u32 0,.int .u32 1,.bool true,.int .i64 2,.int .u32 1,.int .u32 2,.bool true] 62;obtain⟨w1,DG,g1,b1⟩:=fQ w #[.int .i64 1,.int .u32 0,.int .u32 1,.bool true,.int .i64 2,.int .u32 1,.int .u32 2,.bool true] 62;rw[← DG];obtain⟨A0,JT⟩:∃ A0:OA,A0=some ⟨w.heap.size,0,none⟩:=⟨_,rfl⟩;rw[← JT];have r1:bB w1 A0 (cw Cd):=by rw[JT,DG];exact r1'
 obtain⟨w2,hH,pH0,qH0,pH1,qH1,bH,gH⟩:=wg w1 25 (.int .u64 0) (.slice none 0 0) (.int .u64 3) (.slice A0 2 2);refine⟨pH0,qH0,pH1,qH1,?_⟩;rw[← hH];have Fm:A0=none->2=0:=fun e=>by rw[JT]at e;cases e
 refine⟨3,aA bH 0,A0,2,2,aA bH 1,(fg (k:=1) (r1.kept_none gH) rfl (Nat.le_refl _) Fm kz (by omega)).mono fun ev w3 hh=>?_⟩;obtain⟨F,fn,fc,rfl,oF,g3⟩:=hh;have HJ:fn=(dz 3 Cd 1).length:=by have h':=oF.cases.1;unfold cz at h';rw[List.length_map]at h';omega
 have JJ:=d9 oF;refine⟨_,_,_,_,rfl,(sl oF.row HJ JJ kz (by omega)).mono fun ev w4 hh=>?_⟩;obtain⟨D,dn,dc,rfl,oD,g4⟩:=hh;have Po:dn=Cd.length:=by have h':=oD.cases.1;rw[dg]at h';omega
 have TO:=g4;obtain⟨w5,hJ,pJ0,qJ0,pJ1,qJ1,bJ,gJ⟩:=wg w4 25 (.int .u64 0) (.slice none 0 0) (.int .u64 3) (.slice D dn dc);refine⟨_,_,_,_,_,_,rfl,pJ0,qJ0,pJ1,qJ1,?_⟩;rw[← hJ];have Hh:=aB g4 gJ;refine(ki (oF.row.kept_none Hh) HJ JJ kz (by omega)).mono fun ev w6 hh=>?_;obtain⟨Y,yn,yc,rfl,oY,g6⟩:=hh;have Hm:yn=dP 2 1:=by have h':=oY.cases.1;rw[fd,dv]at h';rw[show Cd.length=2 from rfl]at h';omega
 have J1:=d9 oY;have Ip:(Cd.length:Int)=2:=rfl;rw[Ip];have Mp:((1:Nat):Int)=1:=rfl;rw[Mp];obtain⟨w7,hT,pT0,qT0,pT1,qT1,pT2,qT2,bT,gT⟩:=Da w6 51 (.int .u64 0) (.int .i64 0) (.int .i64 0) (.int .u64 3) (.int .i64 1) (.int .i64 2);refine⟨_,_,_,_,_,_,_,rfl,pT0,qT0,pT1,qT1,pT2,qT2,?_⟩;rw[← hT];have JW:=gT;have bH7:=aE bH (aB g3 (aB Hh (aB g6 gT)));have Hu:=aB gH (aB g3 (aB Hh (aB g6 gT)));refine⟨3,aA bH7 0,A0,2,2,aA bH7 1,(yC (l:=Cd) (k:=0) (r1.kept_none Hu) rfl (by omega) kz.evtsU (by decide)).mono fun ev w8 hh=>?_⟩;obtain⟨rfl,g8⟩:=hh;have SK:=aB Hh (aB g6 (aB gT g8));refine⟨_,_,_,_,rfl,(kF (i:=1) (oF.row.kept_none SK) HJ JJ kz (by omega) (oY.row.kept_none (aB gT g8)) Hm (by rw[Hm]at J1;rw[Hm];exact J1) (by decide)).mono fun ev w9 hh=>?_⟩;obtain⟨Z,zn,zc,rfl,oZ,g9⟩:=hh;have OB:zn=(cR Cd 1 1).length:=by have h':=oZ.cases.1;unfold cz at h';rw[List.length_map]at h';omega
 have ST:=(kz.blen (k:=1) (i:=1) (by omega) (by decide)).1;refine⟨_,_,_,_,rfl,(fg (k:=1) (A:=none) (n:=0) (c:=0) (l:=[]) (N:=0) (aH.nil w9 0 62 4).row rfl (by omega) (fun _=>rfl) good0 (by omega)).mono fun ev DX hh=>?_⟩;obtain⟨E,en,ec,rfl,oE,FV⟩:=hh;have NE:en=(dz 0 [] 1).length:=by have h':=oE.cases.1;unfold cz at h';rw[List.length_map]at h';omega
 have PX:(dz 0 [] 1).length=32:=by rw[mr];rfl
 have Ow:=aB gJ (aB g6 (aB gT (aB g8 (aB g9 FV))));have bJ10:=aE bJ (aB g6 (aB gT (aB g8 (aB g9 FV))));have Hg:=aB g8 (aB g9 FV);have bH10:=aE bH7 Hg;refine⟨_,_,_,_,rfl,fun _=>⟨fun _=>⟨fun _=>⟨3,aA bJ10 0,D,dn,dc,aA bJ10 1,3,aA bH10 0,A0,2,2,aA bH10 1,(qR (oD.row.kept_none Ow) Po (r1.kept_none (aB Hu Hg)) rfl (by rw[Po];decide)).mono fun ev Ej hh=>?_⟩,fun h=>absurd rfl h⟩,fun h=>absurd rfl h⟩,fun h=>absurd rfl h⟩;obtain⟨rfl,JX⟩:=hh;have bT11:=aE bT (aB Hg JX);have bH11:=aE bH10 JX;have Qe:yn=2:=by rw[Hm];rfl
 refine⟨_,rfl,fun _=>⟨fun _=>⟨2,aA bT11 2,fun _=>⟨fun _=>⟨fun _=>⟨fun _=>⟨fun _=>⟨fun _=>⟨3,aA bH11 0,A0,2,2,aA bH11 1,(wl (l:=Cd) (k:=1) (i:=1) ((r1.kept_none (aB Hu Hg)).kept_none JX) rfl (by omega) Fm (by omega) (by omega) kz.evtsU).mono fun ev Hk hh=>?_⟩,fun h=>absurd (by omega) h⟩,fun h=>absurd (by omega) h⟩,fun h=>absurd rfl h⟩,fun h=>absurd (by decide) h⟩,fun h=>absurd (by omega) h⟩,fun h=>absurd rfl h⟩,fun h=>absurd rfl h⟩,fun h=>by simp at h⟩;obtain⟨Q,qn,qc,rfl,oQ,Fd⟩:=hh;have OT:qn=1:=by have h':=oQ.cases.1;rw[dA,CK]at h';omega
 refine⟨_,_,_,rfl,?_,aB g1 (aB Hu (aB Hg (aB JX Fd)))⟩;rw[OT];rfl
theorem BH{N M:Int}{l q:List aU}{s t:Int}(h:bF N l)(h':bF M q):decide (dz N l (gD s)=dz M q (gD t))=(decide (N=M/\l=q) && decide (s % 7=t % 7)):=by
 rw[Bool.eq_iff_iff,Bool.and_eq_true,decide_eq_true_iff,decide_eq_true_iff,decide_eq_true_iff];constructor
 ·intro e;obtain⟨a,b,c⟩:=Av h h' (jJ s) (jJ t) e;exact⟨⟨a,c⟩,(tL s t).1 b⟩
 ·rintro⟨⟨a,b⟩,c⟩;rw[a,b,(tL s t).2 c]
theorem sM{w:World}{A B:OA}{n c m d:Nat}{l q:List Int}{k j s t:Int}(hk:0<=k/\k<=255)(hj:0<=j/\j<=255)(Ed:bB w A (cz l))(hn:n=l.length)(hb:aR l)(GR:bB w B (cz q))(hm:m=q.length)(Ek:aR q)(hs:0<=s/\s<=255)(ht:0<=t/\t<=255):
    Calls P 7 #[.int .u8 k,.int .u8 j,.slice A n c,.slice B m d,.int .u8 s,.int .u8 t] w fun ev w'=>ev=.returned (.bool true)/\w.grownBy w' none:=by
  apply vc7;dsimp only[VC7,rb,Wt,Br,Bb,Rd,Rc,Rs,Eg,Cv,Ws,cI,cB,cT,nb,iq];refine mH.mono fun ev w1 hh=>?_;obtain⟨rfl,g1⟩:=hh;refine⟨true,rfl,fun h=>absurd h (by simp),fun _=>⟨fun _=>⟨rfl,g1⟩,fun TM=>⟨fun _=>⟨rfl,g1⟩,fun TL=>?_⟩⟩⟩;have Ml:=ni (k:=k) hb (by omega);have Oj:=ni (k:=j) Ek (by omega);refine(jy (Ed.kept_none g1) hn hb hk (by omega)).mono fun ev w2 hh=>?_;obtain⟨L,hL⟩:∃ L,L=eR k l:=⟨_,rfl⟩;obtain⟨N,hN⟩:∃ N,N=iI k:=⟨_,rfl⟩;rw[← hL,← hN]at hh Ml;obtain⟨A2,n2,c2,rfl,o2,g2⟩:=hh;have FQ:n2=L.length:=by have:=o2.cases.1;rw[dg]at this;omega
  refine⟨_,_,_,_,rfl,?_⟩;have Fd:=aB g1 g2;refine(jy (GR.kept_none Fd) hm Ek hj (by omega)).mono fun ev w3 hh=>?_;obtain⟨Q,hQ⟩:∃ Q,Q=eR j q:=⟨_,rfl⟩;obtain⟨M,hM⟩:∃ M,M=iI j:=⟨_,rfl⟩;rw[← hQ,← hM]at hh Oj;obtain⟨A3,n3,c3,rfl,o3,g3⟩:=hh;have Gs:n3=Q.length:=by have:=o3.cases.1;rw[dg]at this;omega
  refine⟨_,_,_,_,rfl,?_⟩;obtain⟨x1,J7,gx1,bx1⟩:=fQ w3 #[.int .u64 0,.slice none 0 0] 25;rw[← J7];obtain⟨x2,J6,gx2,bx2⟩:=fQ x1 #[.int .u64 0,.slice none 0 0] 25;rw[← J6];have zx:w3.heap.size<x1.heap.size:=(Array.getElem?_eq_some_iff.1 bx1).1;have p0:=aE bx1 gx2;have p1:=aF p0 0 (.int .u64 N);have p2:=aF p1 1 (.slice A2 n2 c2);have q0:=js (js bx2 (p:=⟨w3.heap.size,0,none⟩) (by show w3.heap.size≠_;omega) (.int .u64 N)) (p:=⟨w3.heap.size,1,none⟩) (by show w3.heap.size≠_;omega) (.slice A2 n2 c2);have q1:=aF q0 0 (.int .u64 M);have q2:=aF q1 1 (.slice A3 n3 c3);have p3:=js (js p2 (p:=⟨x1.heap.size,0,none⟩) (by show x1.heap.size≠_;omega) (.int .u64 M)) (p:=⟨x1.heap.size,1,none⟩) (by show x1.heap.size≠_;omega) (.slice A3 n3 c3);have gS:w3.grownBy ((((x2.setCell ⟨w3.heap.size,0,none⟩ (.int .u64 N)).setCell ⟨w3.heap.size,1,none⟩ (.slice A2 n2 c2)).setCell ⟨x1.heap.size,0,none⟩ (.int .u64 M)).setCell ⟨x1.heap.size,1,none⟩ (.slice A3 n3 c3)) none:=(cF (cF (cF (cF (Kp.of_none (S:=fun q=>w3.heap.size<=q) (aB gx1 gx2)) (Nat.le_refl _)) (Nat.le_refl _)) (Nat.le_of_lt zx)) (Nat.le_of_lt zx)).grown (fun q hq e=>by omega);refine⟨⟨_,aA p0 0⟩,aC p0 0,⟨_,aA p1 1⟩,aC p1 1,⟨_,aA q0 0⟩,aC q0 0,⟨_,aA q1 1⟩,aC q1 1,?_⟩;obtain⟨x3,Mw⟩:∃ x3,x3=(((x2.setCell ⟨w3.heap.size,0,none⟩ (.int .u64 N)).setCell ⟨w3.heap.size,1,none⟩ (.slice A2 n2 c2)).setCell ⟨x1.heap.size,0,none⟩ (.int .u64 M)).setCell ⟨x1.heap.size,1,none⟩ (.slice A3 n3 c3):=⟨_,rfl⟩;have p4:x3.heap[w3.heap.size]?=some (.cells #[.int .u64 N,.slice A2 n2 c2] 25 (0,0)):=by rw[Mw];exact p3
  have q4:x3.heap[x1.heap.size]?=some (.cells #[.int .u64 M,.slice A3 n3 c3] 25 (0,0)):=by rw[Mw];exact q2
  rw[← Mw]at gS ⊢;have gd:=aI (aD x3 none);obtain⟨y0,Mv⟩:∃ y0,y0=x3.drew:=⟨_,rfl⟩;rw[← Mv]at gd ⊢;have p5:=aE p4 gd;have q5:=aE q4 gd;have g3y:=aB gS gd;have r2:=(o2.row.kept_none g3).kept_none g3y;have r3:=o3.row.kept_none g3y;refine⟨fun X=>y0.grownBy X none,aD _ _,N,fun X hX=>aA (aE p5 hX) 0,A2,n2,c2,fun X hX=>aA (aE p5 hX) 1,(kX hs.1).mono fun ev w4 hh=>?_⟩;obtain⟨rfl,g4⟩:=hh;refine⟨_,rfl,g4,(fg (r2.kept_none g4) FQ (d9 o2) (ew o2) Ml (jJ s)).mono fun ev w5 hh=>?_⟩;obtain⟨F,fn,fc,rfl,oF,g5⟩:=hh;have HJ:fn=(dz N L (gD s)).length:=by have h':=oF.cases.1;unfold cz at h';rw[List.length_map]at h';omega
  have GB:=aB g4 g5;have gd5:=aI (aD w5 none);obtain⟨y1,OE⟩:∃ y1,y1=w5.drew:=⟨_,rfl⟩;have g5y:w5.grownBy y1 none:=by rw[OE];exact gd5
  have gy1:=aB GB g5y;have p6:=aE p5 gy1;have q6:=aE q5 gy1;refine⟨_,_,_,_,rfl,GB,?_⟩;rw[← OE];refine⟨fun X=>y1.grownBy X none,aD _ _,M,fun X hX=>aA (aE q6 hX) 0,A3,n3,c3,fun X hX=>aA (aE q6 hX) 1,(kX ht.1).mono fun ev w6 hh=>?_⟩;obtain⟨rfl,g6⟩:=hh;refine⟨_,rfl,g6,(fg ((r3.kept_none gy1).kept_none g6) Gs (d9 o3) (ew o3) Oj (jJ t)).mono fun ev w7 hh=>?_⟩;obtain⟨E,en,ec,rfl,oE,g7⟩:=hh;have NE:en=(dz M Q (gD t)).length:=by have h':=oE.cases.1;unfold cz at h';rw[List.length_map]at h';omega
  have JW:=aB g6 g7;have p7:=aE p6 JW;have q7:=aE q6 JW;have gy7:=aB gy1 JW;refine⟨_,_,_,_,rfl,JW,N,aA p7 0,A2,n2,c2,aA p7 1,M,aA q7 0,A3,n3,c3,aA q7 1,(qR (r2.kept_none gy7) FQ (r3.kept_none gy7) Gs (by have:=Ml.len;omega)).mono fun ev w8 hh=>?_⟩;obtain⟨rfl,g8⟩:=hh;have rF:=oF.row.kept_none (aB g5y (aB JW g8));have rE:=oE.row.kept_none g8;have gAll:=aB Fd (aB g3 (aB g3y (aB gy7 g8)));have II:decide (mF (dz N L (gD s))=mF (dz M Q (gD t)))=decide (dz N L (gD s)=dz M Q (gD t)):=by
    rw[decide_eq_decide];exact⟨tH (fun x hx=>jU x hx) (fun x hx=>jU x hx),fun h=>by rw[h]⟩
  rw[BH Ml Oj]at II;refine⟨_,rfl,fun h=>⟨⟨hs.1,by decide⟩,⟨ht.1,by decide⟩,fun _=>⟨fun _=>⟨_,dG rF HJ,_,dG rE NE,_,fun w=>qS _ _ _ _ w,_,fun w=>qw _ _ _ _ w,?_,gAll⟩,fun h=>absurd rfl h⟩,fun h=>absurd rfl h⟩,fun h=>⟨fun _=>⟨fun _=>⟨_,dG rF HJ,_,dG rE NE,_,fun w=>qS _ _ _ _ w,_,fun w=>qw _ _ _ _ w,?_,gAll⟩,fun h=>absurd rfl h⟩,fun h=>absurd rfl h⟩⟩
  · rw[II,h,Bool.true_and];simp
  · rw[II,h,Bool.false_and];simp
theorem yA(a b c d e f:Int)(w:World):(Op.equalIn 10000 51 (.agg #[.int .u64 a,.int .i64 b,.int .i64 c]) (.agg #[.int .u64 d,.int .i64 e,.int .i64 f])).run P w=.ok (decide (a=d/\b=e/\c=f)) w:=by
 rw[run_equalIn_struct w 9999 51 _ _ (by kernel_rfl) (by kernel_rfl)];obtain ⟨f0, g0, h0, I4, I7, I6, I5, E5, DR, D9, I1, Nw, Nv⟩ : ∃ f g h : Field, (P.fieldsOf 51).toList = [f, g, h] ∧ f.name = "N" ∧ f.type = 22 ∧ f.offset = 0 ∧ g.name = "K" ∧ g.type = 3 ∧ g.offset = 1 ∧ h.name = "Count" ∧ h.type = 3 ∧ h.offset = 2 :=
  ⟨((P.fieldsOf 51).toList)[0]!,((P.fieldsOf 51).toList)[1]!,((P.fieldsOf 51).toList)[2]!,by kernel_rfl,by kernel_rfl,by kernel_rfl,by kernel_rfl,by kernel_rfl,by kernel_rfl,by kernel_rfl,by kernel_rfl,by kernel_rfl,by kernel_rfl⟩
 rw[I4];have hu:P.underlying 22=some (.int .u64):=by kernel_rfl
 have hi:P.underlying 3=some (.int .i64):=by kernel_rfl
 have hp:P.plainKey 22=true:=by kernel_rfl
 have hq:P.plainKey 3=true:=by kernel_rfl
 have e1:∀(x y z:Int)(w:World),(part 22 #[.int .u64 x,.int .i64 y,.int .i64 z] 0).run P w=.ok (.int .u64 x) w:=fun x y z w=>run_part_plain w hp rfl;have e2:∀(x y z:Int)(w:World),(part 3 #[.int .u64 x,.int .i64 y,.int .i64 z] 1).run P w=.ok (.int .i64 y) w:=fun x y z w=>run_part_plain w hq rfl;have e3:∀(x y z:Int)(w:World),(part 3 #[.int .u64 x,.int .i64 y,.int .i64 z] 2).run P w=.ok (.int .i64 z) w:=fun x y z w=>run_part_plain w hq rfl;have q:∀(x y:Int)(w:World),(Op.equalIn 9999 22 (.int .u64 x) (.int .u64 y)).run P w=.ok (x ==y) w:=fun x y w=>run_equalIn_int w 9998 _ _ _ _ _ hu;have q':∀(x y:Int)(w:World),(Op.equalIn 9999 3 (.int .i64 x) (.int .i64 y)).run P w=.ok (x ==y) w:=fun x y w=>run_equalIn_int w 9998 _ _ _ _ _ hi;simp only[Op.eqFields,I7,I6,I5,E5,DR,D9,I1,Nw,Nv,Sem.run_bind,Sem.run_ite,e1,e2,e3,q,q',Result.andThen_ok];by_cases h1:a=d
 ·by_cases h2:b=e
  ·by_cases h3:c=f
   ·simp[h1,h2,h3]
   ·simp[h1,h2,h3]
  ·simp[h1,h2]
 ·simp[h1]
theorem Cz(s t:Operand)(a b c d e f:Int)(w:World):Sem.run P (do eqGuard .eql 51 s t (.agg #[.int .u64 a,.int .i64 b,.int .i64 c]) (.agg #[.int .u64 d,.int .i64 e,.int .i64 f]);Go.binOp .eql 51 (.agg #[.int .u64 a,.int .i64 b,.int .i64 c]) (.agg #[.int .u64 d,.int .i64 e,.int .i64 f]):Sem Value) w=.ok (.bool (decide (a=d/\b=e/\c=f))) w:=by
 rw[Sem.run_bind,run_eqGuard_agg w .eql 51 s t _ _ (by kernel_rfl),Result.andThen_ok,run_eql_struct w,yA];rfl
theorem sx{l:List aU}{k p:Nat}:(bP l k (p+1)).length=(bP l k p).length+(cR l k p).length:=by rw[eE,List.length_append]
theorem Ch{w:World}{A:OA}{n c:Nat}{l:List Int}{k s:Int}(hk:0<=k/\k<=255)(Ed:bB w A (cz l))(hn:n=l.length)(hb:aR l)(hs:0<=s/\s<=255):
    Calls P 5 #[.int .u8 k,.slice A n c,.int .u8 s] w fun ev w'=>ev=.returned (.bool true)/\w.grownBy w' none:=by
  apply vc5;dsimp only[VC5,rb,Wt,Br,Bb,Rd,Rs,Ix,Eg,Ws,cI,cB,cT,nb,ad,al,iq]
  try simp only[aG]
  refine mH.mono fun ev w1 hh=>?_;obtain⟨rfl,g1⟩:=hh;refine⟨true,rfl,fun h=>absurd h (by simp),fun _=>⟨fun _=>⟨by trivial,g1⟩,fun TK=>?_⟩⟩;have hG:=ni (k:=k) hb (by omega);refine(jy (Ed.kept_none g1) hn hb hk (by omega)).mono fun ev w2 hh=>?_;obtain⟨L,hL⟩:∃ L,L=eR k l:=⟨_,rfl⟩;obtain⟨N,hN⟩:∃ N,N=iI k:=⟨_,rfl⟩;rw[← hL,← hN]at hh hG;obtain⟨A2,n2,c2,rfl,o2,g2⟩:=hh;have FQ:n2=L.length:=by have:=o2.cases.1;rw[dg]at this;omega
  have DH:=hG.len;obtain⟨w3,hH,pH0,qH0,pH1,qH1,bH,gH⟩:=wg w2 25 (.int .u64 0) (.slice none 0 0) (.int .u64 N) (.slice A2 n2 c2);refine⟨_,_,_,_,rfl,pH0,qH0,pH1,qH1,?_⟩;rw[← hH];obtain⟨z,hz⟩:∃ z,z=gD s:=⟨_,rfl⟩;have Hl:1<=z/\z<=1048576:=by rw[hz];exact jJ s
  refine(kX hs.1).mono fun ev w4 hh=>?_;rw[← hz]at hh;obtain⟨rfl,g4⟩:=hh;have b4:=aE bH g4;refine⟨_,rfl,N,aA b4 0,A2,n2,c2,aA b4 1,(fg ((o2.row.kept_none gH).kept_none g4) FQ (d9 o2) (ew o2) hG Hl).mono fun ev w5 hh=>?_⟩;obtain⟨F,fn,fc,rfl,oF,g5⟩:=hh;have HJ:fn=(dz N L z).length:=by have h':=oF.cases.1;unfold cz at h';rw[List.length_map]at h';omega
  have JJ:=d9 oF;refine⟨_,_,_,_,rfl,(ki oF.row HJ JJ hG Hl).mono fun ev w6 hh=>?_⟩;obtain⟨Y,yn,yc,rfl,oY,g6⟩:=hh;have Hm:yn=dP L.length z:=by have h':=oY.cases.1;rw[fd,dv]at h';omega
  have J1:=d9 oY;have b6:=aE b4 (aB g5 g6);obtain⟨Lc,PK⟩:∃ Lc,Lc=(L.length:Int):=⟨_,rfl⟩;obtain⟨zc,Mt⟩:∃ zc,zc=(z:Int):=⟨_,rfl⟩;rw[← PK,← Mt];obtain⟨w7,hT,pT0,qT0,pT1,qT1,pT2,qT2,bT,gT⟩:=Da w6 51 (.int .u64 0) (.int .i64 0) (.int .i64 0) (.int .u64 N) (.int .i64 zc) (.int .i64 Lc);refine⟨_,_,_,_,_,_,_,rfl,pT0,qT0,pT1,qT1,pT2,qT2,?_⟩;rw[← hT];have b7:=aE b6 gT;have gpre:=aB g1 (aB g2 (aB gH (aB g4 (aB g5 (aB g6 gT)))));have P0:=aB g6 gT;have Mq:=aB g4 (aB g5 P0);obtain⟨m,hm⟩:∃ m,m=dP L.length z:=⟨_,rfl⟩;rw[← hm]at Hm oY;have Lf:((n2:Int)+zc-1) / zc=(m:Int):=by rw[FQ,Mt,hm];exact lq Hl.1
  have JF:m<=L.length:=by rw[hm];exact nM Hl.1
  refine⟨A2,n2,c2,aA b7 1,by omega,by omega,⟨by omega,by omega,by rw[Lf];omega⟩,fun h=>absurd (by rw[Lf,Hm]) h,fun _=>?_⟩;have Mc:=hG.flen (k:=z) Hl.1;have Ts:(dz N L z).length=24+((bP L z m).length+(16*m+8)):=by rw[hm];exact mr
  refine⟨fun q x i W=>∃ p:Nat,i=(p:Int)/\p<=m/\q=m-p/\x=32+16*(p:Int)+((bP L z p).length:Int)/\w7.grownBy W none,⟨_,0,rfl,by omega,rfl,by simp[bP],aD _ _⟩,?_⟩;rintro q x i W ⟨p,rfl,hp,rfl,rfl,gW⟩;have Ha:∀ q,q<=m->(bP L z q).length<=9480*q:=fun q hq=>hG.bodiesLen Hl.1 (by omega);have g5W:=aB P0 gW;refine⟨fun DF=>?_,fun DK=>?_⟩
  · have lp:p<m:=by omega
    have Fl:p*z<L.length:=(ey Hl.1).1 (by omega);have tp:(p:Int).toNat=p:=by omega
    have FO:(dm L z m).length=m:=dv;have Ed:(dm L z m)[p]'(by rw[FO];exact lp)=gu L z p:=by unfold dm;simp
    have rY:=fun {X:World} (hX:w7.grownBy X none)=>l9 ((oY.row.kept_none gT).kept_none hX) (j:=p) (by rw[FO];exact lp);rw[Ed]at rY;obtain⟨a,e0,e1,e2,e3⟩:=rY gW;have Gb:=hG.blen Hl.1 Fl;have Pw:=Ha p hp;have RS:=Ha (p+1) (by omega);have OL:=sx (l:=L) (k:=z) (p:=p);have QF:(gu L z p).len=((cR L z p).length:Int):=rfl;rw[tp];refine⟨a,e0,by omega,by omega,_,e1,by omega,by omega,(kF (i:=p) (oF.row.kept_none g5W) HJ JJ hG Hl (by rw[← hm];exact(oY.row.kept_none gT).kept_none gW) (by rw[← hm];exact Hm) (by omega) (by omega)).mono fun ev W1 hh=>?_⟩;obtain⟨Z,zn,zc',rfl,oZ,gZ⟩:=hh;have OB:zn=(cR L z p).length:=by have h':=oZ.cases.1;unfold cz at h';rw[List.length_map]at h';omega
    have gd:=aI (aD W1 none);obtain⟨W2,Iw⟩:∃ W2,W2=W1.drew:=⟨_,rfl⟩;rw[← Iw]at gd ⊢;have gW2:w7.grownBy W2 none:=aB gW (aB gZ gd);obtain⟨a',e0',e1',e2',e3'⟩:=rY gW2;rw[e0]at e0';cases e0';have SN:=aE b7 gW2;have Ki:=((o2.row.kept_none gH).kept_none Mq).kept_none gW2;obtain⟨ea,f0,f1,_⟩:=eS Ki (j:=p*z) Fl;have tpz:((p:Int)*zc)=((p*z:Nat):Int):=by rw[Mt];simp
    have tpz2:((p:Int)*zc).toNat=p*z:=by rw[tpz];omega
    refine⟨_,_,_,_,rfl,fun h=>absurd rfl h,fun _=>⟨a,e0,by omega,by omega,_,e1',fun h=>absurd (by rw[OB,QF]) h,fun _=>⟨a,e0,by omega,by omega,_,e2',A2,n2,c2,aA SN 1,by omega,ea,f0,by omega,by omega,L[p*z].t,by rw[tpz2];exact f1,fun h=>absurd (mv Hl.1 Fl) h,fun _=>⟨by omega,m-(p+1),by omega,p+1,by omega,by omega,rfl,by omega,gW2⟩⟩⟩⟩
  · have Ho:p=m:=by omega
    subst Ho;refine(xh (by omega)).mono fun ev W1 hh=>?_;obtain⟨rfl,gZ⟩:=hh;have gW1:=aB gW gZ;have P6:=aE b7 gW1;have bT1:=aE bT gW1;refine⟨_,_,_,_,rfl,fun _=>⟨fun _=>⟨fun _=>⟨N,aA bT1 0,zc,aA bT1 1,Lc,aA bT1 2,N,aA P6 0,A2,n2,c2,aA P6 1,_,fun w=>Cz _ _ _ _ _ _ _ _ w,fun _=>⟨by simp,aB gpre gW1⟩,fun h=>?_⟩,fun h=>absurd (by omega) h⟩,fun h=>absurd rfl h⟩,fun h=>absurd rfl h⟩;rw[PK,FQ]at h;simp at h
end Go.Proofs.YtlieaecnllkefaaGreat

/- Own texts, packed: W6, W7, W8, W9. -/
import Derived.Test.YtlieaecnllkefaaGreatGWAg
import Derived.Test.YtlieaecnllkefaaGreatGIg
import Derived.Lib.AppendStr
import Derived.Test.YtlieaecnllkefaaGreatGTg
import Derived.Test.YtlieaecnllkefaaGreatGRg
set_option linter.unusedVariables false
set_option linter.unusedSimpArgs false
set_option maxHeartbeats 8000000
set_option maxRecDepth 100000
namespace Go.Proofs.YtlieaecnllkefaaGreat
open Go Go.V Go.RowKit
theorem mnI(u v:Int):mn u v=min u v:=by unfold mn;split <;>omega
abbrev iT(N K C:Int):Value:=.agg #[.int .u64 N,.int .i64 K,.int .i64 C]
theorem mq{w:World}{N K C:Int}:Calls P 60 #[iT N K C] w fun ev w'=>ev=.returned (.bool (decide (dJ N K C)))/\w.grownBy w' none:=by
 apply vc60;dsimp only[VC60,rb,Br,Rd,nb,iq];obtain⟨w1,FQ,g1,b1⟩:=fQ w #[.int .u64 N,.int .i64 K,.int .i64 C] 51;rw[← FQ];have key:dJ N K C↔N<=4294967296/\1<=K/\K<=1048576/\0<=C/\C<=2147483648:=Iff.rfl;refine⟨N,aB b1 0,fun h1=>⟨K,aB b1 1,fun h2=>⟨K,aB b1 1,fun h3=>⟨C,aB b1 2,fun h4=>⟨C,aB b1 2,?_,g1⟩,fun h4=>⟨?_,g1⟩⟩,fun h3=>⟨?_,g1⟩⟩,fun h2=>⟨?_,g1⟩⟩,fun h1=>⟨?_,g1⟩⟩
 ·rw[decide_eq_decide.2 (show C<=2147483648↔dJ N K C by rw[key];omega)]
 all_goals rw[decide_eq_false (by rw[key];omega)]
theorem Ax{w:World}{v:Int}{n:Nat}(hn:n<=100):Calls P 61 #[.int .u64 v,.int .i64 (n:Int)] w fun ev w'=>∃(A:OA)(m k:Nat),ev=.returned (.slice A m k)/\aE w' w.heap.size 5 1 A m k (bY (db v n))/\w.grownBy w' none:=by
 apply vc61;dsimp only[VC61,Br,Ap,nb]
 try simp only[aG]
 refine⟨fun m s B k d i W=>∃ p:Nat,i=(p:Int)/\p<=n/\m=n-p/\aE W w.heap.size 5 1 B k d (bY (db v p))/\s=v / 256^p/\w.grownBy W none,⟨_,0,rfl,by omega,rfl,aE.nil _ _ _ _,by simp,aC _ _⟩,?_⟩;rintro m s B k d i W ⟨p,rfl,hp,rfl,oW,rfl,gW⟩;refine⟨fun FP=>?_,fun FU=>?_⟩
 ·have FT:k=p:=by have:=oW.cases.1;simp[aU]at this;omega
  obtain⟨A3,n3,c3,w3,r3,o3,g3,_⟩:=eJ (x:=IntKind.wrap .u8 (v / 256^p)) oW (by omega) gW.size;have ob:=fun q hq=>(World.ownsRow.lt oW q hq).1;refine⟨A3,n3,c3,w3,r3,by omega,by omega,n-(p+1),by omega,p+1,by omega,by omega,rfl,?_,?_,aY gW g3 fun q hq=>ob q hq⟩
  ·rw[nT,← Bj];exact o3
  ·rw[show(2:Int)^8=256 by decide,Int.ediv_ediv_of_nonneg (Int.le_of_lt (lW p)),← Int.pow_succ]
 ·have:p=n:=by omega
  subst this;exact⟨_,_,_,rfl,oW,gW⟩
theorem Av{w:World}{v:Int}{n:Nat}(hn:n<=100):Calls P 73 #[.int .u64 v,.int .i64 (n:Int)] w fun ev w'=>∃(A:OA)(m k:Nat),ev=.returned (.slice A m k)/\aE w' w.heap.size 5 1 A m k (bY (db v n))/\w.grownBy w' none:=by
 apply vc73;dsimp only[VC73,Br,Ap,nb]
 try simp only[aG]
 refine⟨fun m s B k d i W=>∃ p:Nat,i=(p:Int)/\p<=n/\m=n-p/\aE W w.heap.size 5 1 B k d (bY (db v p))/\s=v / 256^p/\w.grownBy W none,⟨_,0,rfl,by omega,rfl,aE.nil _ _ _ _,by simp,aC _ _⟩,?_⟩;rintro m s B k d i W ⟨p,rfl,hp,rfl,oW,rfl,gW⟩;refine⟨fun FP=>?_,fun FU=>?_⟩
 ·have FT:k=p:=by have:=oW.cases.1;simp[aU]at this;omega
  obtain⟨A3,n3,c3,w3,r3,o3,g3,_⟩:=eJ (x:=IntKind.wrap .u8 (v / 256^p)) oW (by omega) gW.size;have ob:=fun q hq=>(World.ownsRow.lt oW q hq).1;refine⟨A3,n3,c3,w3,r3,by omega,by omega,n-(p+1),by omega,p+1,by omega,by omega,rfl,?_,?_,aY gW g3 fun q hq=>ob q hq⟩
  ·rw[nT,← Bj];exact o3
  ·rw[show(2:Int)^8=256 by decide,Int.ediv_ediv_of_nonneg (Int.le_of_lt (lW p)),← Int.pow_succ]
 ·have:p=n:=by omega
  subst this;exact⟨_,_,_,rfl,oW,gW⟩
theorem jg{w:World}{N K C:Int}(h:dJ N K C):Calls P 33 #[iT N K C] w fun ev w'=>ev=.returned (.int .i64 ((C+K-1) / K))/\w.grownBy w' none:=by
 apply vc33;dsimp only[VC33,Br,Rd,cB,nb,iq]
 try simp only[aG]
 obtain⟨w1,FQ,g1,b1⟩:=fQ w #[.int .u64 N,.int .i64 K,.int .i64 C] 51;rw[← FQ];refine⟨N,aB b1 0,K,aB b1 1,C,aB b1 2,mq.mono fun ev w2 hh=>?_⟩;obtain⟨rfl,g2⟩:=hh;have b2:=aF b1 g2;have hk:=h;unfold dJ at hk;have hd:0<=(C+K-1) / K:=Int.ediv_nonneg (by omega) (by omega);have JE:(C+K-1) / K<=C+K-1:=Int.ediv_le_self _ (by omega);refine⟨_,rfl,fun hf=>absurd h (of_decide_eq_false hf),fun _=>⟨C,aB b2 2,K,aB b2 1,by omega,by omega,K,aB b2 1,⟨by omega,by omega,by omega⟩,rfl,aA g1 g2⟩⟩
theorem jG{w:World}{N K C:Int}{i:Int}(h:dJ N K C)(hi:0<=i)(Mb:i<(C+K-1) / K):Calls P 34 #[iT N K C,.int .i64 i] w fun ev w'=>ev=.returned (.int .i64 (min K (C-i*K)))/\w.grownBy w' none:=by
 apply vc34;dsimp only[VC34,Br,Rd,cI,nb,iq]
 try simp only[aG,mnI]
 obtain⟨w1,FQ,g1,b1⟩:=fQ w #[.int .u64 N,.int .i64 K,.int .i64 C] 51;rw[← FQ];have hk:=h;unfold dJ at hk;refine⟨fun h'=>absurd h' (by omega),fun _=>⟨N,aB b1 0,K,aB b1 1,C,aB b1 2,(jg h).mono fun ev w2 hh=>?_⟩⟩;obtain⟨rfl,g2⟩:=hh;have b2:=aF b1 g2;have h3:i*K<=C-1:=by
  have:i+1<=(C+K-1) / K:=by omega
  have:=(Int.le_ediv_iff_mul_le (by omega)).1 this;rw[Int.add_mul,Int.one_mul]at this;omega
 have h4:0<=i*K:=Int.mul_nonneg hi (by omega);exact⟨_,rfl,fun h'=>absurd h' (by omega),fun _=>⟨K,aB b2 1,C,aB b2 2,K,aB b2 1,by omega,by omega,rfl,aA g1 g2⟩⟩
theorem sJ{w:World}{base:Nat}(hb:base<=w.heap.size){A:Addr}{B:OA}{n c m d:Nat}{xs ys:List Int}(hA:aZ w (some A) (bY xs))(hn:n=xs.length)(hB:aZ w B (bY ys))(hm:m=ys.length)(hy:0<m)(hc:c<n+m)(hl:n+m<=2^39):
    ∃ (A':OA) (n' c':Nat) (w':World),Sem.run P (Builtin.append_ #[26,26] 26 #[.slice (some A) n c,.slice B m d]) w=.ok (.slice A' n' c') w' ∧
      aE w' base 5 1 A' n' c' (bY (xs++ys))/\w.grownBy w' none:=by
  obtain⟨i,h1,h2,h3,h4,h5,h6⟩:=qZ.ex;have TZ:0<ys.length:=by omega
  obtain⟨a,rfl⟩:∃ a,B=some a:=by
    obtain⟨a,e,_⟩:=hB 0 (.int .u8 ys[0]) (by rw[List.getElem?_map,List.getElem?_eq_getElem TZ];rfl);exact⟨a,e⟩
  have Io:Builtin.nextslicecap (n+m) c*i.bytes<=281474976710656:=by
    rw[h5];have:=nextslicecap_le hc;omega
  have hr:=run_append_grow (P:=P) (w:=w) 26 26 5 i (.int .u8 0) h1 h2 h3 A n c (bY xs) (by rw[h4];simp[hn]) (fun j v hj=>by obtain⟨b,q1,q2⟩:=hA j v hj;cases q1;exact q2) a m d (bY ys) (by rw[h4];simp[hm]) (fun j v hj=>by obtain⟨b,q1,q2⟩:=hB j v hj;cases q1;exact q2) hc (by omega) Io;refine⟨_,_,_,_,hr,?_,?_⟩
  · have FU:=grownCap_ge w (n+m) c 5;have Ga:=grownCap_le_maxLen w (n+m) c 5 (by simp only[maxLen];omega);refine aE.of_block (by exact hb) (heap_alloc_new w.drew _) FU Ga ?_ (by simp[hn,hm]) ?_
    · rw[h6];simp[size_zeroCells,← hn,← hm];omega
    · simp only[Array.toList_append,List.append_assoc];rw[← List.append_assoc,List.take_left' (by simp[hn,hm])];simp
  · exact aA (aI (aC w none)) (World.grownBy_alloc w.drew _ none)
theorem vB{w:World}{N K C:Int}(h:dJ N K C):Calls P 32 #[iT N K C] w fun ev w'=>∃(A:OA)(m k:Nat),ev=.returned (.slice A m k)/\aE w' w.heap.size 5 1 A m k (bY (fE N K C))/\w.grownBy w' none:=by
 apply vc32;dsimp only[VC32,Br,Rd,Ap,cB,cS,nb,iq]
 try simp only[aG]
 obtain⟨w1,FQ,g1,b1⟩:=fQ w #[.int .u64 N,.int .i64 K,.int .i64 C] 51;rw[← FQ];have hk:=h;unfold dJ at hk;refine⟨N,aB b1 0,K,aB b1 1,C,aB b1 2,mq.mono fun ev w2 hh=>?_⟩;obtain⟨rfl,g2⟩:=hh;refine⟨_,rfl,fun hf=>absurd h (of_decide_eq_false hf),fun _=>?_⟩;have HA:=aA g1 g2;have b2:=aF b1 g2;have hl:=sB w2 #[.int .u8 84,.int .u8 71,.int .u8 88,.int .u8 49] 4 4;have rl:=fh w2 #[.int .u8 84,.int .u8 71,.int .u8 88,.int .u8 49] 5 (4,5);have g3:=World.grownBy_alloc w2 (.cells #[.int .u8 84,.int .u8 71,.int .u8 88,.int .u8 49] 5 (4,5)) none;obtain⟨w3,Gr⟩:∃ w3,w3=w2.alloc (.cells #[.int .u8 84,.int .u8 71,.int .u8 88,.int .u8 49] 5 (4,5)):=⟨_,rfl⟩;have Ja:Sem.run P (Go.convert 26 26 (.slice (some ⟨w2.heap.size,0,none⟩) 4 4)) (w2.alloc (.cells #[.int .u8 84,.int .u8 71,.int .u8 88,.int .u8 49] 5))=.ok (.slice (some ⟨w2.heap.size,0,none⟩) 4 4) w3:=by rw[Gr];exact hl
 rw[← Gr]at rl g3;have rl':aZ w3 (some ⟨w2.heap.size,0,none⟩) (bY [84,71,88,49]):=rl;have b3:=aF b2 g3;have Gu:=aA HA g3;have z13:=Gu.size;refine⟨_,_,_,w3,Ja,N,aB b3 0,(Ax (v:=N) (n:=8) (by omega)).mono fun ev w4 hh=>?_⟩;obtain⟨A4,n4,c4,rfl,o4,g4⟩:=hh;have HQ:n4=(db N 8).length:=by have:=o4.cases.1;simp at this;omega
 have Hz:=aA Gu g4;obtain⟨A5,n5,c5,w5,r5,o5,g5⟩:=sJ (base:=w.heap.size) Hz.size (rl'.kept_none g4) (n:=4) (c:=4) rfl o4.row HQ (by rw[HQ,aU];omega) (by rw[HQ,aU];omega) (by rw[HQ,aU];omega);have Kk:=aA Hz g5;have b5:=aF (aF b3 g4) g5;refine⟨_,_,_,rfl,A5,n5,c5,w5,r5,K,aB b5 1,by omega,(Ax (v:=K) (n:=4) (by omega)).mono fun ev w6 hh=>?_⟩;obtain⟨A6,n6,c6,rfl,o6,g6⟩:=hh;have IK:n6=(db K 4).length:=by have:=o6.cases.1;simp at this;omega
 have HP:n5=([84,71,88,49]++db N 8).length:=by have:=o5.cases.1;simp at this ⊢;omega
 have Nl:=aA Kk g6;have nilc:∀ {W:World} {bs n c:Nat} {A:OA} {xs:List Value},aE W bs 5 1 A n c xs->A=none->c=0:=fun h e=>by
  obtain⟨_,⟨h1,h2,h3⟩ | ⟨g,cur,h1,_⟩⟩:=h.cases
  ·exact h3.1
  ·rw[e]at h1;cases h1
 obtain⟨A7,n7,c7,w7,r7,o7,g7,e7⟩:=aO (o5.kp (S:=fun _=>False) (Kp.of_none g6) (fun _ _ e=>e)) o6.row IK (nilc o6) (by rw[HP,IK];simp[aU]) Nl.size;have ob5:=fun q hq=>(World.ownsRow.lt (o5.kp (S:=fun _=>False) (Kp.of_none g6) (fun _ _ e=>e)) q hq).1;have Ic:=aY Nl g7 fun q hq=>ob5 q hq;have kn:∀ {W W':World} {r:Option Nat},W.grownBy W' r->(∀ k,r=some k->w.heap.size<=k/\W.heap[k]?≠W.heap[w.heap.size]?)->True:=fun _ _=>trivial;have far:∀ {W:World} {bs n c:Nat} {A:OA} {xs:List Value},aE W bs 5 1 A n c xs->W.heap[w.heap.size]?=some (.cells #[.int .u64 N,.int .i64 K,.int .i64 C] 51 (0,0))->∀ {W'},W.grownBy W' (Value.slice A n c).ownBlock->W'.heap[w.heap.size]?=some (.cells #[.int .u64 N,.int .i64 K,.int .i64 C] 51 (0,0)):=fun h hb W' hg=>by
  rw[hg.block _ (Array.getElem?_eq_some_iff.1 hb).1 (fun e=>ks h hb (by decide) e.symm)];exact hb
 have b7:=far (o5.kp (S:=fun _=>False) (Kp.of_none g6) (fun _ _ e=>e)) (aF b5 g6) g7;refine⟨_,_,_,rfl,A7,n7,c7,w7,r7,C,aB b7 2,by omega,(Ax (v:=C) (n:=4) (by omega)).mono fun ev w8 hh=>?_⟩;obtain⟨A8,n8,c8,rfl,o8,g8⟩:=hh;have IJ:n8=(db C 4).length:=by have:=o8.cases.1;simp at this;omega
 have P3:=aA Ic g8;have o7':=o7.kp (S:=fun _=>False) (Kp.of_none g8) (fun _ _ e=>e);obtain⟨A9,n9,c9,w9,r9,o9,g9,e9⟩:=aO o7' o8.row IJ (nilc o8) (by rw[e7,HP,IK,IJ];simp[aU]) P3.size;have ob7:=fun q hq=>(World.ownsRow.lt o7' q hq).1;have Pt:=aY P3 g9 fun q hq=>ob7 q hq;have hP:[84,71,88,49]++db N 8++db K 4++db C 4=nd N K C:=rfl;rw[hP]at o9;have M0:n9=(nd N K C).length:=by have:=o9.cases.1;simp at this;omega
 refine⟨_,_,_,rfl,A9,n9,c9,w9,r9,(oG o9.row M0 (uJ N K C) (by rw[qT];omega)).mono fun ev Gd hh=>?_⟩;obtain⟨LK,Lf,c10,rfl,JI,HB⟩:=hh;exact⟨_,_,_,rfl,LK,Lf,c10,rfl,JI.mono Pt.size,aA Pt HB⟩
def wR(r:el):List Value:=[.int .i64 r.len,.int .i64 r.first,.int .u32 r.sum]
def dM(l:List el):List Value:=l.flatMap wR
theorem eG(l:List el):(dM l).length=l.length*3:=by
 induction l with
 | nil=>rfl
 | cons e l ih=>simp[dM,wR]at ih ⊢;omega
theorem vV:∀ {l:List el} {i:Nat} (h:i<l.length),(dM l)[i*3]?=some (.int .i64 l[i].len)/\(dM l)[i*3+1]?=some (.int .i64 l[i].first)/\(dM l)[i*3+2]?=some (.int .u32 l[i].sum)
 | e ::l,0,_=>by simp[dM,wR]
 | e ::l,i+1,h=>by
  have ih:=vV (l:=l) (i:=i) (by simpa using h);rw[show(i+1)*3=i*3+1+1+1 by omega];exact ih
theorem wQ(l m:List el):dM (l++m)=dM l++dM m:=by simp[dM]
theorem iA{w:World}{A:OA}{l:List el}(h:aZ w A (dM l)){j:Nat}(hj:j<l.length):∃ a,A=some a/\w.cell? (a.add (j*3))=some (.int .i64 l[j].len)/\w.cell? (Addr.add (a.add (j*3)) 1)=some (.int .i64 l[j].first)/\w.cell? (Addr.add (a.add (j*3)) 2)=some (.int .u32 l[j].sum):=by
 obtain⟨h1,h2,h3⟩:=vV hj;obtain⟨a,e0,f0⟩:=h _ _ h1;obtain⟨a1,e1,f1⟩:=h _ _ h2;obtain⟨a2,e2,f2⟩:=h _ _ h3;rw[e0]at e1 e2;cases e1;cases e2;exact⟨a,e0,f0,by rw[fl];exact f1,by rw[fl];exact f2⟩
theorem ml{w:World}{A:OA}{n c:Nat}{l:List el}(hr:aZ w A (dM l))(hn:n=l.length)(hl:l.length<=2^40):
    Calls P 72 #[.slice A n c] w fun ev w'=>ev=.returned (.bool (rowsOk l))/\w.grownBy w' none:=by
  apply vc72;dsimp only[VC72,rb,Wt,Br,Rd,Ix,Ws,nb,ad,al,iq]
  try simp only[aG]
  refine⟨fun m last i W=>∃ p:Nat,i=(p:Int)/\p<=l.length/\m=l.length-p/\fX last (l.drop p)=rowsOk l/\w.grownBy W none,⟨_,0,rfl,by omega,rfl,rfl,aC _ _⟩,?_⟩;rintro m last i W ⟨p,rfl,hp,rfl,hg,gW⟩;have tp:(p:Int).toNat=p:=by omega
  rw[tp];refine⟨fun FP=>?_,fun FU=>?_⟩
  · have lp:p<l.length:=by omega
    obtain⟨a,e0,f0,f1,f2⟩:=iA (hr.kept_none gW) lp;have ga:=World.grownBy_alloc W (.cells #[.int .i64 0,.int .i64 0,.int .u32 0] 60) none;have s0:=heap_alloc_new W (.cells #[.int .i64 0,.int .i64 0,.int .u32 0] 60);have s1:=aH s0 0 (.int .i64 l[p].len);have s2:=aH s1 1 (.int .i64 l[p].first);have s3:=aH s2 2 (.int .u32 l[p].sum);have g3:W.grownBy ((((W.alloc (.cells #[.int .i64 0,.int .i64 0,.int .u32 0] 60)).setCell ⟨W.heap.size,0,none⟩ (.int .i64 l[p].len)).setCell ⟨W.heap.size,1,none⟩ (.int .i64 l[p].first)).setCell ⟨W.heap.size,2,none⟩ (.int .u32 l[p].sum)) none:=(cH (cH (cH (Kp.of_none (S:=fun q=>W.heap.size<=q) ga) (Nat.le_refl _)) (Nat.le_refl _)) (Nat.le_refl _)).grown (fun q hq e=>by omega);have F9:=aA gW g3;rw[List.drop_eq_getElem_cons lp]at hg;unfold fX at hg;have bad:¬ (1<=l[p].len/\l[p].len<=4294967295/\last<=l[p].first/\l[p].first<=4611686018427387903)->rowsOk l=false:=fun h=>by rw[← hg,decide_eq_false h];rfl
    refine⟨a,e0,by omega,by omega,_,f0,_,f1,_,f2,⟨_,aB s0 0⟩,aD s0 0,⟨_,aB s1 1⟩,aD s1 1,⟨_,aB s2 2⟩,aD s2 2,l[p].len,by rw[aB s3 0];rfl,fun h1=>⟨by rw[bad (by omega)],F9⟩,fun h1=>⟨l[p].len,by rw[aB s3 0];rfl,fun h2=>⟨by rw[bad (by omega)],F9⟩,fun h2=>⟨l[p].first,by rw[aB s3 1];rfl,fun h3=>⟨by rw[bad (by omega)],F9⟩,fun h3=>⟨l[p].first,by rw[aB s3 1];rfl,fun h4=>⟨by rw[bad (by omega)],F9⟩,fun h4=>⟨l[p].first,by rw[aB s3 1];rfl,by omega,l.length-(p+1),by omega,p+1,by omega,by omega,rfl,?_,F9⟩⟩⟩⟩⟩;rw[← hg,decide_eq_true ⟨by omega,by omega,by omega,by omega⟩,Bool.true_and]
  · have:p=l.length:=by omega
    subst this;rw[List.drop_length]at hg;exact⟨by rw[← hg];rfl,gW⟩
theorem od{w:World}{A:OA}{n c:Nat}{l:List el}{i:Nat}(hr:aZ w A (dM l))(hn:n=l.length)(hc:n<=c)(hl:l.length<=2^20)(hok:rowsOk l=true)(hi:i<l.length):
    Calls P 47 #[.slice A n c,.int .i64 (i:Int)] w fun ev w'=>ev=.returned (.int .i64 (24+da (l.take i)))/\w.grownBy w' none:=by
  apply vc47;dsimp only[VC47,Wt,Br,Rd,Ix,Ws,cB,nb,ad,al,iq]
  try simp only[aG]
  have ti:(i:Int).toNat=i:=by omega
  rw[ti];refine⟨fun h=>absurd h (by omega),fun _=>⟨fun h=>absurd h (by omega),fun _=>(ml hr hn (by omega)).mono fun ev w1 hh=>?_⟩⟩;obtain⟨rfl,g1⟩:=hh;have Gl:=lR hok;have bound:∀ p,p<=l.length->0<=da (l.take p)/\da (l.take p)<=4294967295*p:=by
    intro p
    induction p with
    | zero=>intro _;simp[da]
    | succ p ih =>
      intro hp;have:=ih (by omega);have hm:=(Gl _ (List.getElem_mem (show p<l.length by omega))).1;rw[List.take_succ_eq_append_getElem (by omega),gi];have:da [l[p]]=l[p].len:=by simp[da]
      omega
  refine⟨_,rfl,fun h=>absurd (hok.symm.trans h) (by decide),fun _=>⟨⟨by omega,by omega⟩,fun m k x W=>∃ p:Nat,x=(p:Int)/\p<=i/\m=i-p/\k=24+da (l.take p)/\w.grownBy W none,⟨_,0,rfl,by omega,rfl,by simp[da],g1⟩,?_⟩⟩;rintro m k x W ⟨p,rfl,hp,rfl,rfl,gW⟩;have tp:(p:Int).toNat=p:=by omega
  rw[tp];refine⟨fun FP=>?_,fun FU=>?_⟩
  · have lp:p<l.length:=by omega
    obtain⟨a,e0,f0,f1,f2⟩:=iA (hr.kept_none gW) lp;have ga:=World.grownBy_alloc W (.cells #[.int .i64 0,.int .i64 0,.int .u32 0] 60) none;have s0:=heap_alloc_new W (.cells #[.int .i64 0,.int .i64 0,.int .u32 0] 60);have s1:=aH s0 0 (.int .i64 l[p].len);have s2:=aH s1 1 (.int .i64 l[p].first);have s3:=aH s2 2 (.int .u32 l[p].sum);have g3:W.grownBy ((((W.alloc (.cells #[.int .i64 0,.int .i64 0,.int .u32 0] 60)).setCell ⟨W.heap.size,0,none⟩ (.int .i64 l[p].len)).setCell ⟨W.heap.size,1,none⟩ (.int .i64 l[p].first)).setCell ⟨W.heap.size,2,none⟩ (.int .u32 l[p].sum)) none:=(cH (cH (cH (Kp.of_none (S:=fun q=>W.heap.size<=q) ga) (Nat.le_refl _)) (Nat.le_refl _)) (Nat.le_refl _)).grown (fun q hq e=>by omega);have hb:=bound p (by omega);have hm:=(Gl _ (List.getElem_mem lp)).1;have Ih:da [l[p]]=l[p].len:=by simp[da]
    refine⟨a,e0,by omega,by omega,_,f0,_,f1,_,f2,⟨_,aB s0 0⟩,aD s0 0,⟨_,aB s1 1⟩,aD s1 1,⟨_,aB s2 2⟩,aD s2 2,l[p].len,by rw[aB s3 0];rfl,by omega,by omega,i-(p+1),by omega,p+1,by omega,by omega,rfl,?_,aA gW g3⟩;rw[List.take_succ_eq_append_getElem lp,gi,Ih];omega
  · have:p=i:=by omega
    subst this;exact⟨rfl,gW⟩
theorem ve{w:World}{base:Nat}(hb:base<=w.heap.size){A:OA}{n c:Nat}{xs:List Int}(ho:aE w base 5 1 A n c (bY xs))(hn:n<=2^39):
    ∃(A':OA)(n' c':Nat)(w':World),Sem.run P (Builtin.append_ #[26,9] 26 #[.slice A n c,.string ⟨#[88,71,84,49]⟩]) w=.ok (.slice A' n' c') w'/\aE w' base 5 1 A' n' c' (bY (xs++[88,71,84,49]))/\w.grownBy w' (Value.slice A n c).ownBlock:=by
  obtain⟨i,h1,h2,h3,h4,h5,h6⟩:=qZ.ex;obtain⟨v',w',r,o,g,_⟩:=Lib.run_append_own_string (P:=P) (w:=w) base 26 9 26 5 i h1 (by kernel_rfl) h2 h3 h4 h5 _ n (bY xs) ho ⟨#[88,71,84,49]⟩ (by simp only[maxLen];show n+4<=_;omega) (by show n+4<=_;omega) hb;have hx:bY xs++Lib.strCells ⟨#[88,71,84,49]⟩=bY (xs++[88,71,84,49]):=by
    unfold bY;rw[List.map_append];rfl
  rw[hx]at o;rcases o.2 with⟨rfl,hz⟩ | ⟨gq,cap,cur,rfl,rest⟩
  · exact⟨none,0,0,w',r,by rw[hz]at o;exact o,g⟩
  · exact⟨_,_,_,w',r,o,g⟩
theorem bI{W:World}{bs n c s:Nat}{ty:TypeId}{A:OA}{xs:List Value}(h:aE W bs ty s A n c xs)(e:A=none):c=0:=by
 obtain⟨_,⟨h1,h2,h3⟩ | ⟨g,cur,h1,_⟩⟩:=h.cases
 ·exact h3.1
 ·rw[e]at h1;cases h1
theorem Aw{w:World}{A:OA}{n c:Nat}{l:List el}(hr:aZ w A (dM l))(hn:n=l.length)(hl:l.length<=2^20)(hok:rowsOk l=true)(hN:∀ r∈l,vi r):
    Calls P 38 #[.slice A n c] w fun ev w'=>∃(A':OA)(m k:Nat),ev=.returned (.tuple #[.slice A' m k,.bool true])/\aE w' w.heap.size 5 1 A' m k (bY (jY l))/\w.grownBy w' none:=by
  apply vc38;dsimp only[VC38,rt,Wt,Br,Rd,Ix,Ap,Ws,cB,cS,nb,ad,al,iq]
  try simp only[aG]
  refine(ml hr hn (by omega)).mono fun ev w1 hh=>?_;obtain⟨rfl,g1⟩:=hh;refine⟨_,rfl,fun h=>absurd (hok.symm.trans h) (by decide),fun _=>?_⟩;refine⟨fun m B k d i W=>∃ p:Nat,i=(p:Int)/\p<=l.length/\m=l.length-p/\aE W w.heap.size 5 1 B k d (bY ((l.take p).flatMap iZ))/\w.grownBy W none,⟨_,0,rfl,by omega,rfl,aE.nil _ _ _ _,g1⟩,?_⟩;rintro m B k d i W ⟨p,rfl,hp,rfl,oW,gW⟩;have tp:(p:Int).toNat=p:=by omega
  rw[tp];have hk:k=16*p:=by have h:=oW.cases.1;unfold bY at h;rw[List.length_map,jO,List.length_take]at h;omega
  have zW:=gW.size;refine⟨fun FP=>?_,fun FU=>?_⟩
  · have lp:p<l.length:=by omega
    obtain⟨a,e0,f0,f1,f2⟩:=iA (hr.kept_none gW) lp;obtain⟨q1,q2,q3⟩:=hN _ (List.getElem_mem lp);have ga:=World.grownBy_alloc W (.cells #[.int .i64 0,.int .i64 0,.int .u32 0] 60) none;have s0:=heap_alloc_new W (.cells #[.int .i64 0,.int .i64 0,.int .u32 0] 60);have s1:=aH s0 0 (.int .i64 l[p].len);have s2:=aH s1 1 (.int .i64 l[p].first);have s3:=aH s2 2 (.int .u32 l[p].sum);have g3:W.grownBy ((((W.alloc (.cells #[.int .i64 0,.int .i64 0,.int .u32 0] 60)).setCell ⟨W.heap.size,0,none⟩ (.int .i64 l[p].len)).setCell ⟨W.heap.size,1,none⟩ (.int .i64 l[p].first)).setCell ⟨W.heap.size,2,none⟩ (.int .u32 l[p].sum)) none:=(cH (cH (cH (Kp.of_none (S:=fun q=>W.heap.size<=q) ga) (Nat.le_refl _)) (Nat.le_refl _)) (Nat.le_refl _)).grown (fun q hq e=>by omega);refine⟨a,e0,by omega,by omega,_,f0,_,f1,_,f2,⟨_,aB s0 0⟩,aD s0 0,⟨_,aB s1 1⟩,aD s1 1,⟨_,aB s2 2⟩,aD s2 2,l[p].len,by rw[aB s3 0];rfl,by omega,?_⟩;obtain⟨w3,Gr⟩:∃ w3,w3=(((W.alloc (.cells #[.int .i64 0,.int .i64 0,.int .u32 0] 60)).setCell ⟨W.heap.size,0,none⟩ (.int .i64 l[p].len)).setCell ⟨W.heap.size,1,none⟩ (.int .i64 l[p].first)).setCell ⟨W.heap.size,2,none⟩ (.int .u32 l[p].sum):=⟨_,rfl⟩;have s3':w3.heap[W.heap.size]?=some (.cells #[.int .i64 l[p].len,.int .i64 l[p].first,.int .u32 l[p].sum] 60 (0,0)):=by rw[Gr];exact s3
    rw[← Gr]at g3 ⊢;have F9:=aA gW g3;have far:∀ {X X':World} {bs n c:Nat} {A:OA} {xs:List Value},aE X bs 5 1 A n c xs->X.heap[W.heap.size]?=some (.cells #[.int .i64 l[p].len,.int .i64 l[p].first,.int .u32 l[p].sum] 60 (0,0))->X.grownBy X' (Value.slice A n c).ownBlock->X'.heap[W.heap.size]?=some (.cells #[.int .i64 l[p].len,.int .i64 l[p].first,.int .u32 l[p].sum] 60 (0,0)):=fun h hb hg=>by
      rw[hg.block _ (Array.getElem?_eq_some_iff.1 hb).1 (fun e=>ks h hb (by decide) e.symm)];exact hb
    have ob:=fun {X:World} {n c:Nat} {A:OA} {xs:List Value} (h:aE X w.heap.size 5 1 A n c xs) q (hq:(Value.slice A n c).ownBlock=some q)=>(World.ownsRow.lt h q hq).1;refine(Av (v:=l[p].len) (n:=4) (by omega)).mono fun ev w4 hh=>?_;obtain⟨A4,n4,c4,rfl,o4,g4⟩:=hh;have HQ:n4=(db l[p].len 4).length:=by have:=o4.cases.1;simp at this;omega
    have oW4:=oW.kp (S:=fun _=>False) (Kp.of_none (aA g3 g4)) (fun _ _ e=>e);have HS:=aA F9 g4;obtain⟨A5,n5,c5,w5,r5,o5,g5,e5⟩:=aO oW4 o4.row HQ (bI o4) (by rw[hk,HQ,aU];omega) HS.size;have I5:=aY HS g5 fun q hq=>ob oW4 q hq;have s5:=far oW4 (aF s3' g4) g5;refine⟨_,_,_,rfl,A5,n5,c5,w5,r5,l[p].first,aB s5 1,by omega,(Av (v:=l[p].first) (n:=8) (by omega)).mono fun ev w6 hh=>?_⟩;obtain⟨A6,n6,c6,rfl,o6,g6⟩:=hh;have IK:n6=(db l[p].first 8).length:=by have:=o6.cases.1;simp at this;omega
    have JH:=o5.kp (S:=fun _=>False) (Kp.of_none g6) (fun _ _ e=>e);have Nm:=aA I5 g6;obtain⟨A7,n7,c7,w7,r7,o7,g7,e7⟩:=aO JH o6.row IK (bI o6) (by rw[e5,hk,HQ,IK,aU,aU];omega) Nm.size;have P5:=aY Nm g7 fun q hq=>ob JH q hq;have s7:=far JH (aF s5 g6) g7;refine⟨_,_,_,rfl,A7,n7,c7,w7,r7,l[p].sum,aB s7 2,by omega,(Av (v:=l[p].sum) (n:=4) (by omega)).mono fun ev w8 hh=>?_⟩;obtain⟨A8,n8,c8,rfl,o8,g8⟩:=hh;have IJ:n8=(db l[p].sum 4).length:=by have:=o8.cases.1;simp at this;omega
    have Le:=o7.kp (S:=fun _=>False) (Kp.of_none g8) (fun _ _ e=>e);have Ku:=aA P5 g8;obtain⟨A9,n9,c9,w9,r9,o9,g9,e9⟩:=aO Le o8.row IJ (bI o8) (by rw[e7,e5,hk,HQ,IK,IJ,aU,aU,aU];omega) Ku.size;have P4:=aY Ku g9 fun q hq=>ob Le q hq;refine⟨_,_,_,rfl,A9,n9,c9,w9,r9,by omega,l.length-(p+1),by omega,p+1,by omega,by omega,rfl,?_,P4⟩;rw[List.take_succ_eq_append_getElem lp,List.flatMap_append];have:[l[p]].flatMap iZ=db l[p].len 4++(db l[p].first 8++db l[p].sum 4):=by simp[iZ]
    rw[this,← List.append_assoc,← List.append_assoc];exact o9
  · have HO:p=l.length:=by omega
    subst HO;rw[List.take_length]at oW;obtain⟨A5,n5,c5,w5,r5,o5,g5⟩:=ve gW.size oW (by omega);have I5:=aY gW g5 fun q hq=>(World.ownsRow.lt oW q hq).1;have hP:l.flatMap iZ++[88,71,84,49]=kS l:=rfl;rw[hP]at o5;have HP:n5=(kS l).length:=by have:=o5.cases.1;simp at this;omega
    refine⟨A5,n5,c5,w5,r5,(oG o5.row HP (tT l) (by rw[kR];omega)).mono fun ev w6 hh=>?_⟩;obtain⟨A6,n6,c6,rfl,o6,g6⟩:=hh;exact⟨_,_,_,rfl,A6,n6,c6,rfl,o6.mono I5.size,aA I5 g6⟩
theorem uo{w:World}{A:OA}{n c:Nat}{l:List aS}{N k:Int}(hr:aZ w A (cE l))(hn:n=l.length)(hl:n<=2^20)(hb:sN l)(Ro:(dF N l).2=0)(hk:1<=k/\k<=1048576):
    Calls P 31 #[.agg #[.int .u64 N,.slice A n c],.int .i64 k] w fun ev w'=>ev=.returned (.tuple #[iT N k l.length,.int .i64 0])/\w.grownBy w' none:=by
  apply vc31;dsimp only[VC31,rt,Wt,Br,Rd,Rs,Ws,nb,iq];obtain⟨w1,FQ,g1,b1⟩:=fQ w #[.int .u64 N,.slice A n c] 25;rw[← FQ];obtain⟨w2,GP,g2,b2⟩:=fQ w1 #[.int .u64 0,.int .i64 0,.int .i64 0] 51;rw[← GP];have b1':=aF b1 g2;refine⟨N,aB b1' 0,A,n,c,aB b1' 1,(mr ((hr.kept_none g1).kept_none g2) hn hl hb).mono fun ev w3 hh=>?_⟩;obtain⟨rfl,g3⟩:=hh;have b1'':=aF b1' g3;have b2':=aF b2 g3;have s1:=aH b2' 0 (.int .u64 N);have s2:=aH s1 1 (.int .i64 k);have s3:=aH s2 2 (.int .i64 (n:Int));have gS:w1.grownBy (((w3.setCell ⟨w1.heap.size,0,none⟩ (.int .u64 N)).setCell ⟨w1.heap.size,1,none⟩ (.int .i64 k)).setCell ⟨w1.heap.size,2,none⟩ (.int .i64 (n:Int))) none:=(cH (cH (cH (Kp.of_none (S:=fun q=>w1.heap.size<=q) (aA g2 g3)) (Nat.le_refl _)) (Nat.le_refl _)) (Nat.le_refl _)).grown (fun q hq e=>by omega);refine⟨_,_,rfl,fun h=>absurd Ro h,fun _=>⟨fun h=>absurd h (by omega),fun _=>⟨fun h=>absurd h (by omega),fun _=>⟨N,aB b1'' 0,A,n,c,aB b1'' 1,⟨_,aB b2' 0⟩,aD b2' 0,⟨_,aB s1 1⟩,aD s1 1,⟨_,aB s2 2⟩,aD s2 2,N,by rw[aB s3 0];rfl,k,by rw[aB s3 1];rfl,(n:Int),by rw[aB s3 2];rfl,?_,aA g1 gS⟩⟩⟩⟩;rw[hn]
theorem ER:qw P 52 60 3 (P.bytesOf 60):=⟨(P.info? 60).getD default,((P.info? 60).getD default).zero.getD undef,by kernel_rfl,by kernel_rfl,by kernel_rfl,by kernel_rfl,by kernel_rfl,by kernel_rfl,by decide⟩
theorem DN:P.bytesOf 60<=64:=of_decide_eq_true (by kernel_rfl)
theorem pJ{w:World}{base:Nat}{A:OA}{b:Addr}{n c d:Nat}{xs:List el}{y:el}(ho:aE w base 60 3 A n c (dM xs))(hB:aZ w (some b) (dM [y]))(hn:n+1<=2^39)(hb:base<=w.heap.size):
    ∃ (A':OA) (n' c':Nat) (w':World),Sem.run P (Builtin.append_ #[52,52] 52 #[.slice A n c,.slice (some b) 1 d]) w=.ok (.slice A' n' c') w' ∧
      aE w' base 60 3 A' n' c' (dM (xs++[y]))/\w.grownBy w' (Value.slice A n c).ownBlock:=by
  obtain⟨A',n',c',w',h1,h2,h3,h4,_⟩:=ho.appends (ty:=52) ER DN (a:=b) (m:=1) (cc:=d) (us:=dM [y]) (by rw[eG];rfl) (fun j u hj=>by obtain⟨b,q1,q2⟩:=hB j u hj;cases q1;exact q2) (fun u hu=>by
    simp[dM,wR]at hu;rcases hu with rfl | rfl | rfl <;>rfl) (by omega) hb
  exact⟨A',n',c',w',h1,by rw[wQ];exact h2,h4⟩
theorem xC{w:World}{a:Addr}{l:List aS}(h:aZ w (some a) (cE l))(FS:l≠[]){w':World}(hg:w.grownBy w' none):w'.cell? a=some (.int .i64 (kM l)):=by
 cases l with
 | nil=>exact absurd rfl FS
 | cons e l =>
  obtain⟨b,e1,e2,_⟩:=ey (h.kept_none hg) (show 0<(e ::l).length by simp);cases e1;rw[Nat.zero_mul,add0]at e2;exact e2
theorem cu.evtsU{N:Int}{l:List aS}(h:cu N l):sN l:=fun e he=>by have:=h.mem e he;have:=h.n;omega
theorem cu.chk{N:Int}{l:List aS}(h:cu N l):(dF N l).2=0:=nU.2 ⟨h.n.2,by have:=h.len;omega,h.ok⟩
theorem cu.after{N:Int}{l:List aS}(h:cu N l)(k i:Nat):gG N l ((i*k:Nat):Int)=eW l k i:=by
 unfold gG eW;rw[if_neg (fun e=>e h.chk),show((i*k:Nat):Int).toNat=i*k by omega]
theorem jI{w:World}{A:OA}{n c:Nat}{l:List aS}{N:Int}{k:Nat}(hr:aZ w A (cE l))(hn:n=l.length)(hc:n<=c)(hA:A=none->c=0)(h:cu N l)(hk:1<=k/\k<=1048576):
    Calls P 13 #[.agg #[.int .u64 N,.slice A n c],.int .i64 (k:Int)] w fun ev w'=>∃(A':OA)(n' c':Nat),ev=.returned (.tuple #[.slice A' n' c',.int .i64 0])/\aE w' w.heap.size 5 1 A' n' c' (bY (fx N l k))/\w.grownBy w' none:=by
  apply vc13;dsimp only[VC13,rt,Br,Rd,Rc,Rs,Ix,Ap,Ws,cI,cS,cT,nb,iq]
  try simp only[aG]
  have hl:=h.len;obtain⟨w1,FQ,g1,b1⟩:=fQ w #[.int .u64 N,.slice A n c] 25;rw[← FQ];refine⟨N,aB b1 0,A,n,c,aB b1 1,(uo (hr.kept_none g1) hn (by omega) h.evtsU h.chk (by omega)).mono fun ev w2 hh=>?_⟩;obtain⟨rfl,g2⟩:=hh;have OE:dJ N k l.length:=by have:=h.n;unfold dJ;omega
  have ga:=World.grownBy_alloc w2 (.cells #[.int .u64 0,.int .i64 0,.int .i64 0] 51) none;have s0:=heap_alloc_new w2 (.cells #[.int .u64 0,.int .i64 0,.int .i64 0] 51);have s1:=aH s0 0 (.int .u64 N);have s2:=aH s1 1 (.int .i64 (k:Int));have s3:=aH s2 2 (.int .i64 (l.length:Int));have g3:w2.grownBy ((((w2.alloc (.cells #[.int .u64 0,.int .i64 0,.int .i64 0] 51)).setCell ⟨w2.heap.size,0,none⟩ (.int .u64 N)).setCell ⟨w2.heap.size,1,none⟩ (.int .i64 (k:Int))).setCell ⟨w2.heap.size,2,none⟩ (.int .i64 (l.length:Int))) none:=(cH (cH (cH (Kp.of_none (S:=fun q=>w2.heap.size<=q) ga) (Nat.le_refl _)) (Nat.le_refl _)) (Nat.le_refl _)).grown (fun q hq e=>by omega);refine⟨_,_,_,_,rfl,⟨_,aB s0 0⟩,aD s0 0,⟨_,aB s1 1⟩,aD s1 1,⟨_,aB s2 2⟩,aD s2 2,fun e=>absurd rfl e,fun _=>?_⟩;obtain⟨w3,Gr⟩:∃ w3,w3=(((w2.alloc (.cells #[.int .u64 0,.int .i64 0,.int .i64 0] 51)).setCell ⟨w2.heap.size,0,none⟩ (.int .u64 N)).setCell ⟨w2.heap.size,1,none⟩ (.int .i64 (k:Int))).setCell ⟨w2.heap.size,2,none⟩ (.int .i64 (l.length:Int)):=⟨_,rfl⟩;have h3:w3.heap[w2.heap.size]?=some (.cells #[.int .u64 N,.int .i64 (k:Int),.int .i64 (l.length:Int)] 51 (0,0)):=by rw[Gr];exact s3
  rw[← Gr]at g3 ⊢;have b3:=aF (aF b1 g2) g3;have F9:=aA g1 (aA g2 g3);have z03:=F9.size;refine⟨N,aB h3 0,(k:Int),aB h3 1,(l.length:Int),aB h3 2,(vB OE).mono fun ev w4 hh=>?_⟩;obtain⟨A4,n4,c4,rfl,o4,g4⟩:=hh;have h4:=aF h3 g4;refine⟨_,_,_,rfl,N,aB h4 0,(k:Int),aB h4 1,(l.length:Int),aB h4 2,(jg OE).mono fun ev w5 hh=>?_⟩;obtain⟨rfl,g5⟩:=hh;rw[j5 hk.1];obtain⟨m,hm⟩:∃ m,m=dy l.length k:=⟨_,rfl⟩;rw[← hm];have KE:m<=l.length:=by rw[hm];exact jF hk.1
  refine⟨_,rfl,fun q B d e R s t x W=>∃ p:Nat,x=(p:Int)/\p<=m/\q=m-p/\aE W w3.heap.size 5 1 B d e (bY (fE N k l.length++dl l k p))/\aE W w3.heap.size 60 3 R s t (dM (eO l k p))/\w3.grownBy W none,⟨_,0,rfl,by omega,rfl,by simpa[dl]using o4.kp (S:=fun _=>False) (Kp.of_none g5) (fun _ _ e=>e),aE.nil _ _ _ _,aA g4 g5⟩,?_⟩;rintro q B d e R s t x W ⟨p,rfl,hp,rfl,oW,rW,gW⟩;have zW:=gW.size;have OY:(dl l k p).length<=9480*p:=h.bodiesLen hk.1 (by omega);have hd:d=24+(dl l k p).length:=by have h':=oW.cases.1;unfold bY at h';rw[List.length_map,List.length_append,eE]at h';omega
  have hs:s=p:=by have h':=rW.cases.1;rw[eG,fo]at h';omega
  have ob:=fun {X:World} {n c sz:Nat} {ty:TypeId} {A:OA} {xs:List Value} (h:aE X w3.heap.size ty sz A n c xs) q (hq:(Value.slice A n c).ownBlock=some q)=>(World.ownsRow.lt h q hq).1;refine⟨fun FP=>?_,fun FU=>?_⟩
  · have lp:p<m:=by omega
    have Hc:p*k<l.length:=(dU hk.1).1 (by omega);have Sz:(p:Int)*(k:Int)=((p*k:Nat):Int):=by simp
    rw[Sz];have tpk:((p*k:Nat):Int).toNat=p*k:=by omega
    rw[tpk];have gd:=aI (aC W none);obtain⟨W0,Pc⟩:∃ W0,W0=W.drew:=⟨_,rfl⟩;rw[← Pc]at gd ⊢;have gW0:=aA gW gd;have KI:∀ X,w3.grownBy X none->X.heap[w.heap.size]?=some (.cells #[.int .u64 N,.slice A n c] 25 (0,0)):=fun X hX=>aF b3 hX;have Hp:=aF h3 gW0;have Mb:(p:Int)<((l.length:Int)+(k:Int)-1) / (k:Int):=by rw[j5 hk.1];omega
    refine⟨fun X=>w3.grownBy X none,gW0,A,n,c,fun X hX=>aB (KI X hX) 1,by omega,⟨by omega,by omega⟩,N,aB Hp 0,(k:Int),aB Hp 1,(l.length:Int),aB Hp 2,(jG OE (by omega) Mb).mono fun ev W1 hh=>?_⟩;obtain⟨rfl,gs1⟩:=hh;have gW1:=aA gW0 gs1;have Hi:min (k:Int) ((l.length:Int)-(p:Int)*(k:Int))=(((fC l k p).length:Nat):Int):=by rw[Sz,iN];omega
    rw[Hi];have OS:(fC l k p).length<=l.length-p*k:=by rw[iN];omega
    refine⟨_,rfl,gW1,⟨by omega,by omega⟩,N,aB (KI W1 gW1) 0,A,n,c,aB (KI W1 gW1) 1,by omega,(pR ((hr.kept_none F9).kept_none gW1) hn hc hA (by omega) h.evtsU).mono fun ev W2 hh=>?_⟩;obtain⟨A2,n2,c2,rfl,o2,g2'⟩:=hh;rw[h.after]at o2;have gW2:=aA gW1 g2';have IT:n2=(eW l k p).length:=by have h':=o2.cases.1;rw[dk]at h';omega
    have rows:=CG (k:=p*k) ((hr.kept_none F9).kept_none gW2) hA (by omega:l.length<=c);have rev:aZ W2 (bK A c (p*k) 4) (cE (fC l k p)):=qJ rows.1 k;have Oz:=h.keyLen (k:=k) (i:=p);have Mh:=h.evLen (k:=k) (i:=p);have Mq:=h.blk hk.1 Hc;refine⟨_,_,_,_,rfl,(u7 o2.row IT rev rfl (by omega) (by omega) h.edgesB h.evtsB (fun _=>by have:=nD h.edgesB (by omega:(eW l k p).length<=2^30);omega) (fun _=>by have:=(i9 Mq.del).1;omega)).mono fun ev W3 hh=>?_⟩;obtain⟨A3,n3,c3,rfl,o3,g3'⟩:=hh;rw[h.err hk.1 Hc,if_pos rfl]at o3;have gW3:=aA gW2 g3';have Ip:=h.blen hk.1 Hc;have IS:n3=(dO l k p).length:=by have h':=o3.cases.1;unfold bY at h';rw[List.length_map]at h';unfold dO;omega
    have o3:aE W3 W2.heap.size 5 1 A3 n3 c3 (bY (dO l k p)):=o3;refine⟨_,_,_,_,rfl,fun e=>absurd (h.err hk.1 Hc) e,fun _=>?_⟩;have gs03:=aA gd (aA gs1 (aA g2' g3'));have oW3:=oW.kp (S:=fun _=>False) (Kp.of_none gs03) (fun _ _ e=>e);have rW3:=rW.kp (S:=fun _=>False) (Kp.of_none gs03) (fun _ _ e=>e);obtain⟨A4',n4',c4',W4,r4,o4',g4',e4⟩:=aO oW3 o3.row IS (bI o3) (by omega) gW3.size;have rne:∀ q,(Value.slice R s t).ownBlock=some q->(Value.slice B d e).ownBlock≠some q:=fun q hq=>by
      obtain⟨cur,Gc⟩:=rW3.block_type q hq;exact ks oW3 Gc (by decide)
    have gW4:=aY gW3 g4' fun q hq=>ob oW3 q hq;have rW4:=rW3.kp (Kp.of_grown g4') (fun q hq e=>rne q hq e.symm);have gd4:=aI (aC W4 none);obtain⟨W5,RI⟩:∃ W5,W5=W4.drew:=⟨_,rfl⟩;have gW5:w3.grownBy W5 none:=by rw[RI];exact aA gW4 gd4
    have rev3:aZ w3 (bK A c (p*k) 4) (cE (fC l k p)):=qJ (CG (k:=p*k) (hr.kept_none F9) hA (by omega:l.length<=c)).1 k;obtain⟨a68,ea⟩:∃ a,bK A c (p*k) 4=some a:=by
      have FS:=qX (l:=l) hk.1 Hc;have FX:0<(fC l k p).length:=List.length_pos_iff.2 FS;obtain⟨a,e1,_⟩:=ey rev3 FX;exact⟨a,e1⟩
    have FS:=qX (l:=l) hk.1 Hc;have FX:0<(fC l k p).length:=List.length_pos_iff.2 FS;rw[ea]at rev3;have TO:aE W4 W2.heap.size 5 1 A3 n3 c3 (bY (dO l k p)):=o3.kp (Kp.of_grown g4') (fun q hq e=>by
      have h1:=(World.ownsRow.lt o3 q hq).1;have h2:=oW.block_lt q e.symm;have TJ:=(aA gd (aA gs1 g2')).size;omega)
    have gA:=World.grownBy_alloc W5 (.cells #[.slice A3 n3 c3] 26) none;have rA:aZ (W5.alloc (.cells #[.slice A3 n3 c3] 26)) (some ⟨W5.heap.size,0,none⟩) [.slice A3 n3 c3]:=iB W5 #[.slice A3 n3 c3] 26;have Jh:W4.grownBy W5 none:=by rw[RI];exact gd4
    have TN:=TO.kp (S:=fun _=>False) (Kp.of_none (aA Jh gA)) (fun _ _ e=>e);refine⟨A4',n4',c4',W4,r4,fun X=>w3.grownBy X none,aA gW4 gd4,a68,ea,by omega,by show(0:Int)<(((fC l k p).length:Nat):Int);omega,kM (fC l k p),fun X hX=>xC rev3 FS hX,?_⟩;rw[← RI];have gW6:=aA gW5 gA;refine⟨gW6,(jJ rA TN.row IS h.bodyBy (by omega)).mono fun ev W6 hh=>?_⟩;obtain⟨rfl,rfl⟩:=hh;have gB:=World.grownBy_alloc (W5.alloc (.cells #[.slice A3 n3 c3] 26)) (.cells #[.int .i64 (n3:Int),.int .i64 (kM (fC l k p)),.int .u32 (jw (dO l k p))] 60) none;have rB:=iB (W5.alloc (.cells #[.slice A3 n3 c3] 26)) #[.int .i64 (n3:Int),.int .i64 (kM (fC l k p)),.int .u32 (jw (dO l k p))] 60;obtain⟨W6,Wf⟩:∃ W6,W6=W5.alloc (.cells #[.slice A3 n3 c3] 26):=⟨_,rfl⟩;rw[← Wf]at gB rB gW6 gA ⊢;obtain⟨W7,PU⟩:∃ W7,W7=W6.alloc (.cells #[.int .i64 (n3:Int),.int .i64 (kM (fC l k p)),.int .u32 (jw (dO l k p))] 60):=⟨_,rfl⟩;rw[← PU]at gB rB;have gW7:=aA gW6 gB;have rB':aZ W7 (some ⟨W6.heap.size,0,none⟩) (dM [jD l k p]):=by
      have:dM [jD l k p]=[.int .i64 (n3:Int),.int .i64 (kM (fC l k p)),.int .u32 (jw (dO l k p))]:=by simp[dM,wR,jD,IS]
      rw[this];exact rB
    have Ki:=aA Jh (aA gA gB);have rW7:=rW4.kp (S:=fun _=>False) (Kp.of_none Ki) (fun _ _ e=>e);have oW7:=o4'.kp (S:=fun _=>False) (Kp.of_none Ki) (fun _ _ e=>e);obtain⟨R',s',t',W8,r8,o8,g8⟩:=pJ (d:=1) rW7 rB' (by omega) gW7.size;have gW8:=aY gW7 g8 fun q hq=>ob rW7 q hq;have oW8:=oW7.kp (Kp.of_grown g8) (fun q hq e=>by
      obtain⟨cur,Gc⟩:=oW7.block_type q hq;exact ks rW7 Gc (by decide) e.symm)
    refine⟨_,rfl,gW6,?_⟩;rw[← PU];refine⟨gW7,R',s',t',W8,r8,gW8,by omega,m-(p+1),by omega,p+1,by omega,by omega,rfl,?_,?_,gW8⟩
    · rw[iO,← List.append_assoc];exact oW8
    · rw[lP];exact o8
  · have Jm:p=m:=by omega
    subst Jm;have hR:∀ r∈eO l k p,vi r:=fun r hr=>by
      unfold eO at hr;obtain⟨i,hi,rfl⟩:=List.mem_map.1 hr;exact h.rowN hk.1 ((dU hk.1).1 (by rw[← hm];simpa using hi))
    refine(Aw rW.row (by rw[fo];exact hs) (by rw[fo];omega) (h.rowsOk hk.1 (by omega)) hR).mono fun ev W1 hh=>?_;obtain⟨A5,n5,c5,rfl,o5,g5'⟩:=hh;have oW1:=oW.kp (S:=fun _=>False) (Kp.of_none g5') (fun _ _ e=>e);have gW1:=aA gW g5';have HP:n5=(jY (eO l k p)).length:=by have h':=o5.cases.1;unfold bY at h';rw[List.length_map]at h';omega
    obtain⟨A6,n6,c6,W2,r6,o6,g6,_⟩:=aO oW1 o5.row HP (bI o5) (by rw[HP,iY,fo];omega) gW1.size;have gW2:=aY gW1 g6 fun q hq=>ob oW1 q hq;refine⟨_,_,_,_,rfl,A6,n6,c6,W2,r6,A6,n6,c6,rfl,?_,aA F9 gW2⟩;rw[List.append_assoc]at o6;have J5:fx N l k=fE N k l.length++(dl l k p++jY (eO l k p)):=by unfold fx;rw[← hm]
    rw[J5];exact o6.mono z03
end Go.Proofs.YtlieaecnllkefaaGreat

/- Own texts, packed: W6, W7, W8, W9. -/
import Derived.Test.YtlieaecnllkefaaGreatGWAg
import Derived.Test.YtlieaecnllkefaaGreatGIg
import Derived.Lib.AppendStr
import Derived.Test.YtlieaecnllkefaaGreatGTg
import Derived.Test.YtlieaecnllkefaaGreatGRg
set_option linter.unusedVariables false
set_option linter.unusedSimpArgs false
set_option maxHeartbeats 8000000
set_option maxRecDepth 100000
namespace Go.Proofs.YtlieaecnllkefaaGreat
open Go Go.V Go.RowKit
theorem mnI(u v:Int):mn u v=min u v:=by unfold mn;split <;>omega
abbrev i9(N K C:Int):Value:=.agg #[.int .u64 N,.int .i64 K,.int .i64 C]
theorem kv{w:World}{N K C:Int}:Calls P 60 #[i9 N K C] w fun ev w'=>ev=.returned (.bool (decide (dx N K C)))/\w.grownBy w' none:=by
 apply vc60;dsimp only[VC60,rb,Br,Rd,nb,iq];obtain⟨w1,DG,g1,b1⟩:=fQ w #[.int .u64 N,.int .i64 K,.int .i64 C] 51;rw[← DG];have key:dx N K C↔N<=4294967296/\1<=K/\K<=1048576/\0<=C/\C<=2147483648:=Iff.rfl;refine⟨N,aA b1 0,fun h1=>⟨K,aA b1 1,fun h2=>⟨K,aA b1 1,fun h3=>⟨C,aA b1 2,fun h4=>⟨C,aA b1 2,?_,g1⟩,fun h4=>⟨?_,g1⟩⟩,fun h3=>⟨?_,g1⟩⟩,fun h2=>⟨?_,g1⟩⟩,fun h1=>⟨?_,g1⟩⟩
 ·rw[decide_eq_decide.2 (show C<=2147483648↔dx N K C by rw[key];omega)]
 all_goals rw[decide_eq_false (by rw[key];omega)]
theorem yj{w:World}{v:Int}{n:Nat}(hn:n<=100):Calls P 61 #[.int .u64 v,.int .i64 (n:Int)] w fun ev w'=>∃(A:OA)(m k:Nat),ev=.returned (.slice A m k)/\aH w' w.heap.size 5 1 A m k (cz (cZ v n))/\w.grownBy w' none:=by
 apply vc61;dsimp only[VC61,Br,Ap,nb]
 try simp only[aG]
 refine⟨fun m s B k d i W=>∃ p:Nat,i=(p:Int)/\p<=n/\m=n-p/\aH W w.heap.size 5 1 B k d (cz (cZ v p))/\s=v / 256^p/\w.grownBy W none,⟨_,0,rfl,by omega,rfl,aH.nil _ _ _ _,by simp,aD _ _⟩,?_⟩;rintro m s B k d i W ⟨p,rfl,hp,rfl,oW,rfl,gW⟩;refine⟨fun DF=>?_,fun DK=>?_⟩
 ·have DH:k=p:=by have:=oW.cases.1;simp[aW]at this;omega
  obtain⟨A3,n3,c3,w3,r3,o3,g3,_⟩:=fM (x:=IntKind.wrap .u8 (v / 256^p)) oW (by omega) gW.size;have ob:=fun q hq=>(World.ownsRow.lt oW q hq).1;refine⟨A3,n3,c3,w3,r3,by omega,by omega,n-(p+1),by omega,p+1,by omega,by omega,rfl,?_,?_,de gW g3 fun q hq=>ob q hq⟩
  ·rw[pg,← AU];exact o3
  ·rw[show(2:Int)^8=256 by decide,Int.ediv_ediv_of_nonneg (Int.le_of_lt (kf p)),← Int.pow_succ]
 ·have:p=n:=by omega
  subst this;exact⟨_,_,_,rfl,oW,gW⟩
theorem yh{w:World}{v:Int}{n:Nat}(hn:n<=100):Calls P 73 #[.int .u64 v,.int .i64 (n:Int)] w fun ev w'=>∃(A:OA)(m k:Nat),ev=.returned (.slice A m k)/\aH w' w.heap.size 5 1 A m k (cz (cZ v n))/\w.grownBy w' none:=by
 apply vc73;dsimp only[VC73,Br,Ap,nb]
 try simp only[aG]
 refine⟨fun m s B k d i W=>∃ p:Nat,i=(p:Int)/\p<=n/\m=n-p/\aH W w.heap.size 5 1 B k d (cz (cZ v p))/\s=v / 256^p/\w.grownBy W none,⟨_,0,rfl,by omega,rfl,aH.nil _ _ _ _,by simp,aD _ _⟩,?_⟩;rintro m s B k d i W ⟨p,rfl,hp,rfl,oW,rfl,gW⟩;refine⟨fun DF=>?_,fun DK=>?_⟩
 ·have DH:k=p:=by have:=oW.cases.1;simp[aW]at this;omega
  obtain⟨A3,n3,c3,w3,r3,o3,g3,_⟩:=fM (x:=IntKind.wrap .u8 (v / 256^p)) oW (by omega) gW.size;have ob:=fun q hq=>(World.ownsRow.lt oW q hq).1;refine⟨A3,n3,c3,w3,r3,by omega,by omega,n-(p+1),by omega,p+1,by omega,by omega,rfl,?_,?_,de gW g3 fun q hq=>ob q hq⟩
  ·rw[pg,← AU];exact o3
  ·rw[show(2:Int)^8=256 by decide,Int.ediv_ediv_of_nonneg (Int.le_of_lt (kf p)),← Int.pow_succ]
 ·have:p=n:=by omega
  subst this;exact⟨_,_,_,rfl,oW,gW⟩
theorem il{w:World}{N K C:Int}(h:dx N K C):Calls P 33 #[i9 N K C] w fun ev w'=>ev=.returned (.int .i64 ((C+K-1) / K))/\w.grownBy w' none:=by
 apply vc33;dsimp only[VC33,Br,Rd,cB,nb,iq]
 try simp only[aG]
 obtain⟨w1,DG,g1,b1⟩:=fQ w #[.int .u64 N,.int .i64 K,.int .i64 C] 51;rw[← DG];refine⟨N,aA b1 0,K,aA b1 1,C,aA b1 2,kv.mono fun ev w2 hh=>?_⟩;obtain⟨rfl,g2⟩:=hh;have b2:=aE b1 g2;have hk:=h;unfold dx at hk;have hd:0<=(C+K-1) / K:=Int.ediv_nonneg (by omega) (by omega);have G4:(C+K-1) / K<=C+K-1:=Int.ediv_le_self _ (by omega);refine⟨_,rfl,fun hf=>absurd h (of_decide_eq_false hf),fun _=>⟨C,aA b2 2,K,aA b2 1,by omega,by omega,K,aA b2 1,⟨by omega,by omega,by omega⟩,rfl,aB g1 g2⟩⟩
theorem ku{w:World}{N K C:Int}{i:Int}(h:dx N K C)(hi:0<=i)(KV:i<(C+K-1) / K):Calls P 34 #[i9 N K C,.int .i64 i] w fun ev w'=>ev=.returned (.int .i64 (min K (C-i*K)))/\w.grownBy w' none:=by
 apply vc34;dsimp only[VC34,Br,Rd,cI,nb,iq]
 try simp only[aG,mnI]
 obtain⟨w1,DG,g1,b1⟩:=fQ w #[.int .u64 N,.int .i64 K,.int .i64 C] 51;rw[← DG];have hk:=h;unfold dx at hk;refine⟨fun h'=>absurd h' (by omega),fun _=>⟨N,aA b1 0,K,aA b1 1,C,aA b1 2,(il h).mono fun ev w2 hh=>?_⟩⟩;obtain⟨rfl,g2⟩:=hh;have b2:=aE b1 g2;have h3:i*K<=C-1:=by
  have:i+1<=(C+K-1) / K:=by omega
  have:=(Int.le_ediv_iff_mul_le (by omega)).1 this;rw[Int.add_mul,Int.one_mul]at this;omega
 have h4:0<=i*K:=Int.mul_nonneg hi (by omega);exact⟨_,rfl,fun h'=>absurd h' (by omega),fun _=>⟨K,aA b2 1,C,aA b2 2,K,aA b2 1,by omega,by omega,rfl,aB g1 g2⟩⟩
theorem xp{w:World}{base:Nat}(hb:base<=w.heap.size){A:Addr}{B:OA}{n c m d:Nat}{xs ys:List Int}(hA:bB w (some A) (cz xs))(hn:n=xs.length)(hB:bB w B (cz ys))(hm:m=ys.length)(hy:0<m)(hc:c<n+m)(hl:n+m<=2^39):
    ∃ (A':OA) (n' c':Nat) (w':World),Sem.run P (Builtin.append_ #[26,26] 26 #[.slice (some A) n c,.slice B m d]) w=.ok (.slice A' n' c') w' ∧
      aH w' base 5 1 A' n' c' (cz (xs++ys))/\w.grownBy w' none:=by
  obtain⟨i,h1,h2,h3,h4,h5,h6⟩:=ui.ex;have Mv:0<ys.length:=by omega
  obtain⟨a,rfl⟩:∃ a,B=some a:=by
    obtain⟨a,e,_⟩:=hB 0 (.int .u8 ys[0]) (by rw[List.getElem?_map,List.getElem?_eq_getElem Mv];rfl);exact⟨a,e⟩
  have Jb:Builtin.nextslicecap (n+m) c*i.bytes<=281474976710656:=by
    rw[h5];have:=nextslicecap_le hc;omega
  have hr:=run_append_grow (P:=P) (w:=w) 26 26 5 i (.int .u8 0) h1 h2 h3 A n c (cz xs) (by rw[h4];simp[hn]) (fun j v hj=>by obtain⟨b,q1,q2⟩:=hA j v hj;cases q1;exact q2) a m d (cz ys) (by rw[h4];simp[hm]) (fun j v hj=>by obtain⟨b,q1,q2⟩:=hB j v hj;cases q1;exact q2) hc (by omega) Jb;refine⟨_,_,_,_,hr,?_,?_⟩
  · have DK:=grownCap_ge w (n+m) c 5;have DQ:=grownCap_le_maxLen w (n+m) c 5 (by simp only[maxLen];omega);refine aH.of_block (by exact hb) (heap_alloc_new w.drew _) DK DQ ?_ (by simp[hn,hm]) ?_
    · rw[h6];simp[size_zeroCells,← hn,← hm];omega
    · simp only[Array.toList_append,List.append_assoc];rw[← List.append_assoc,List.take_left' (by simp[hn,hm])];simp
  · exact aB (aI (aD w none)) (World.grownBy_alloc w.drew _ none)
theorem sW{w:World}{N K C:Int}(h:dx N K C):Calls P 32 #[i9 N K C] w fun ev w'=>∃(A:OA)(m k:Nat),ev=.returned (.slice A m k)/\aH w' w.heap.size 5 1 A m k (cz (gg N K C))/\w.grownBy w' none:=by
 apply vc32;dsimp only[VC32,Br,Rd,Ap,cB,cS,nb,iq]
 try simp only[aG]
 obtain⟨w1,DG,g1,b1⟩:=fQ w #[.int .u64 N,.int .i64 K,.int .i64 C] 51;rw[← DG];have hk:=h;unfold dx at hk;refine⟨N,aA b1 0,K,aA b1 1,C,aA b1 2,kv.mono fun ev w2 hh=>?_⟩;obtain⟨rfl,g2⟩:=hh;refine⟨_,rfl,fun hf=>absurd h (of_decide_eq_false hf),fun _=>?_⟩;have Fd:=aB g1 g2;have b2:=aE b1 g2;have hl:=wU w2 #[.int .u8 84,.int .u8 71,.int .u8 88,.int .u8 49] 4 4;have rl:=eP w2 #[.int .u8 84,.int .u8 71,.int .u8 88,.int .u8 49] 5 (4,5);have g3:=World.grownBy_alloc w2 (.cells #[.int .u8 84,.int .u8 71,.int .u8 88,.int .u8 49] 5 (4,5)) none;obtain⟨w3,Ep⟩:∃ w3,w3=w2.alloc (.cells #[.int .u8 84,.int .u8 71,.int .u8 88,.int .u8 49] 5 (4,5)):=⟨_,rfl⟩;have GK:Sem.run P (Go.convert 26 26 (.slice (some ⟨w2.heap.size,0,none⟩) 4 4)) (w2.alloc (.cells #[.int .u8 84,.int .u8 71,.int .u8 88,.int .u8 49] 5))=.ok (.slice (some ⟨w2.heap.size,0,none⟩) 4 4) w3:=by rw[Ep];exact hl
 rw[← Ep]at rl g3;have rl':bB w3 (some ⟨w2.heap.size,0,none⟩) (cz [84,71,88,49]):=rl;have b3:=aE b2 g3;have EO:=aB Fd g3;have z13:=EO.size;refine⟨_,_,_,w3,GK,N,aA b3 0,(yj (v:=N) (n:=8) (by omega)).mono fun ev w4 hh=>?_⟩;obtain⟨A4,n4,c4,rfl,o4,g4⟩:=hh;have GJ:n4=(cZ N 8).length:=by have:=o4.cases.1;simp at this;omega
 have IB:=aB EO g4;obtain⟨A5,n5,c5,w5,r5,o5,g5⟩:=xp (base:=w.heap.size) IB.size (rl'.kept_none g4) (n:=4) (c:=4) rfl o4.row GJ (by rw[GJ,aW];omega) (by rw[GJ,aW];omega) (by rw[GJ,aW];omega);have Jx:=aB IB g5;have b5:=aE (aE b3 g4) g5;refine⟨_,_,_,rfl,A5,n5,c5,w5,r5,K,aA b5 1,by omega,(yj (v:=K) (n:=4) (by omega)).mono fun ev w6 hh=>?_⟩;obtain⟨A6,n6,c6,rfl,o6,g6⟩:=hh;have IU:n6=(cZ K 4).length:=by have:=o6.cases.1;simp at this;omega
 have HF:n5=([84,71,88,49]++cZ N 8).length:=by have:=o5.cases.1;simp at this ⊢;omega
 have Mr:=aB Jx g6;have nilc:∀ {W:World} {bs n c:Nat} {A:OA} {xs:List Value},aH W bs 5 1 A n c xs->A=none->c=0:=fun h e=>by
  obtain⟨_,⟨h1,h2,h3⟩ | ⟨g,cur,h1,_⟩⟩:=h.cases
  ·exact h3.1
  ·rw[e]at h1;cases h1
 obtain⟨A7,n7,c7,w7,r7,o7,g7,e7⟩:=bD (o5.kp (S:=fun _=>False) (Kp.of_none g6) (fun _ _ e=>e)) o6.row IU (nilc o6) (by rw[HF,IU];simp[aW]) Mr.size;have ob5:=fun q hq=>(World.ownsRow.lt (o5.kp (S:=fun _=>False) (Kp.of_none g6) (fun _ _ e=>e)) q hq).1;have Hu:=de Mr g7 fun q hq=>ob5 q hq;have kn:∀ {W W':World} {r:Option Nat},W.grownBy W' r->(∀ k,r=some k->w.heap.size<=k/\W.heap[k]?≠W.heap[w.heap.size]?)->True:=fun _ _=>trivial;have far:∀ {W:World} {bs n c:Nat} {A:OA} {xs:List Value},aH W bs 5 1 A n c xs->W.heap[w.heap.size]?=some (.cells #[.int .u64 N,.int .i64 K,.int .i64 C] 51 (0,0))->∀ {W'},W.grownBy W' (Value.slice A n c).ownBlock->W'.heap[w.heap.size]?=some (.cells #[.int .u64 N,.int .i64 K,.int .i64 C] 51 (0,0)):=fun h hb W' hg=>by
  rw[hg.block _ (Array.getElem?_eq_some_iff.1 hb).1 (fun e=>qx h hb (by decide) e.symm)];exact hb
 have b7:=far (o5.kp (S:=fun _=>False) (Kp.of_none g6) (fun _ _ e=>e)) (aE b5 g6) g7;refine⟨_,_,_,rfl,A7,n7,c7,w7,r7,C,aA b7 2,by omega,(yj (v:=C) (n:=4) (by omega)).mono fun ev w8 hh=>?_⟩;obtain⟨A8,n8,c8,rfl,o8,g8⟩:=hh;have Ii:n8=(cZ C 4).length:=by have:=o8.cases.1;simp at this;omega
 have P3:=aB Hu g8;have o7':=o7.kp (S:=fun _=>False) (Kp.of_none g8) (fun _ _ e=>e);obtain⟨A9,n9,c9,w9,r9,o9,g9,e9⟩:=bD o7' o8.row Ii (nilc o8) (by rw[e7,HF,IU,Ii];simp[aW]) P3.size;have ob7:=fun q hq=>(World.ownsRow.lt o7' q hq).1;have P2:=de P3 g9 fun q hq=>ob7 q hq;have hP:[84,71,88,49]++cZ N 8++cZ K 4++cZ C 4=nR N K C:=rfl;rw[hP]at o9;have O5:n9=(nR N K C).length:=by have:=o9.cases.1;simp at this;omega
 refine⟨_,_,_,rfl,A9,n9,c9,w9,r9,(mU o9.row O5 (wz N K C) (by rw[ug];omega)).mono fun ev DX hh=>?_⟩;obtain⟨SO,Qd,c10,rfl,Qc,FV⟩:=hh;exact⟨_,_,_,rfl,SO,Qd,c10,rfl,Qc.mono P2.size,aB P2 FV⟩
def Bk(r:dV):List Value:=[.int .i64 r.len,.int .i64 r.first,.int .u32 r.sum]
def dZ(l:List dV):List Value:=l.flatMap Bk
theorem fd(l:List dV):(dZ l).length=l.length*3:=by
 induction l with
 | nil=>rfl
 | cons e l ih=>simp[dZ,Bk]at ih ⊢;omega
theorem tP:∀ {l:List dV} {i:Nat} (h:i<l.length),(dZ l)[i*3]?=some (.int .i64 l[i].len)/\(dZ l)[i*3+1]?=some (.int .i64 l[i].first)/\(dZ l)[i*3+2]?=some (.int .u32 l[i].sum)
 | e ::l,0,_=>by simp[dZ,Bk]
 | e ::l,i+1,h=>by
  have ih:=tP (l:=l) (i:=i) (by simpa using h);rw[show(i+1)*3=i*3+1+1+1 by omega];exact ih
theorem uE(l m:List dV):dZ (l++m)=dZ l++dZ m:=by simp[dZ]
theorem l9{w:World}{A:OA}{l:List dV}(h:bB w A (dZ l)){j:Nat}(hj:j<l.length):∃ a,A=some a/\w.cell? (a.add (j*3))=some (.int .i64 l[j].len)/\w.cell? (Addr.add (a.add (j*3)) 1)=some (.int .i64 l[j].first)/\w.cell? (Addr.add (a.add (j*3)) 2)=some (.int .u32 l[j].sum):=by
 obtain⟨h1,h2,h3⟩:=tP hj;obtain⟨a,e0,f0⟩:=h _ _ h1;obtain⟨a1,e1,f1⟩:=h _ _ h2;obtain⟨a2,e2,f2⟩:=h _ _ h3;rw[e0]at e1 e2;cases e1;cases e2;exact⟨a,e0,f0,by rw[eL];exact f1,by rw[eL];exact f2⟩
theorem ks{w:World}{A:OA}{n c:Nat}{l:List dV}(hr:bB w A (dZ l))(hn:n=l.length)(hl:l.length<=2^40):
    Calls P 72 #[.slice A n c] w fun ev w'=>ev=.returned (.bool (rowsOk l))/\w.grownBy w' none:=by
  apply vc72;dsimp only[VC72,rb,Wt,Br,Rd,Ix,Ws,nb,ad,al,iq]
  try simp only[aG]
  refine⟨fun m last i W=>∃ p:Nat,i=(p:Int)/\p<=l.length/\m=l.length-p/\gQ last (l.drop p)=rowsOk l/\w.grownBy W none,⟨_,0,rfl,by omega,rfl,rfl,aD _ _⟩,?_⟩;rintro m last i W ⟨p,rfl,hp,rfl,hg,gW⟩;have tp:(p:Int).toNat=p:=by omega
  rw[tp];refine⟨fun DF=>?_,fun DK=>?_⟩
  · have lp:p<l.length:=by omega
    obtain⟨a,e0,f0,f1,f2⟩:=l9 (hr.kept_none gW) lp;have ga:=World.grownBy_alloc W (.cells #[.int .i64 0,.int .i64 0,.int .u32 0] 60) none;have s0:=heap_alloc_new W (.cells #[.int .i64 0,.int .i64 0,.int .u32 0] 60);have s1:=aF s0 0 (.int .i64 l[p].len);have s2:=aF s1 1 (.int .i64 l[p].first);have s3:=aF s2 2 (.int .u32 l[p].sum);have g3:W.grownBy ((((W.alloc (.cells #[.int .i64 0,.int .i64 0,.int .u32 0] 60)).setCell ⟨W.heap.size,0,none⟩ (.int .i64 l[p].len)).setCell ⟨W.heap.size,1,none⟩ (.int .i64 l[p].first)).setCell ⟨W.heap.size,2,none⟩ (.int .u32 l[p].sum)) none:=(cF (cF (cF (Kp.of_none (S:=fun q=>W.heap.size<=q) ga) (Nat.le_refl _)) (Nat.le_refl _)) (Nat.le_refl _)).grown (fun q hq e=>by omega);have DP:=aB gW g3;rw[List.drop_eq_getElem_cons lp]at hg;unfold gQ at hg;have bad:¬ (1<=l[p].len/\l[p].len<=4294967295/\last<=l[p].first/\l[p].first<=4611686018427387903)->rowsOk l=false:=fun h=>by rw[← hg,decide_eq_false h];rfl
    refine⟨a,e0,by omega,by omega,_,f0,_,f1,_,f2,⟨_,aA s0 0⟩,aC s0 0,⟨_,aA s1 1⟩,aC s1 1,⟨_,aA s2 2⟩,aC s2 2,l[p].len,by rw[aA s3 0];rfl,fun h1=>⟨by rw[bad (by omega)],DP⟩,fun h1=>⟨l[p].len,by rw[aA s3 0];rfl,fun h2=>⟨by rw[bad (by omega)],DP⟩,fun h2=>⟨l[p].first,by rw[aA s3 1];rfl,fun h3=>⟨by rw[bad (by omega)],DP⟩,fun h3=>⟨l[p].first,by rw[aA s3 1];rfl,fun h4=>⟨by rw[bad (by omega)],DP⟩,fun h4=>⟨l[p].first,by rw[aA s3 1];rfl,by omega,l.length-(p+1),by omega,p+1,by omega,by omega,rfl,?_,DP⟩⟩⟩⟩⟩;rw[← hg,decide_eq_true ⟨by omega,by omega,by omega,by omega⟩,Bool.true_and]
  · have:p=l.length:=by omega
    subst this;rw[List.drop_length]at hg;exact⟨by rw[← hg];rfl,gW⟩
theorem sU{w:World}{A:OA}{n c:Nat}{l:List dV}{i:Nat}(hr:bB w A (dZ l))(hn:n=l.length)(hc:n<=c)(hl:l.length<=2^20)(hok:rowsOk l=true)(hi:i<l.length):
    Calls P 47 #[.slice A n c,.int .i64 (i:Int)] w fun ev w'=>ev=.returned (.int .i64 (24+cK (l.take i)))/\w.grownBy w' none:=by
  apply vc47;dsimp only[VC47,Wt,Br,Rd,Ix,Ws,cB,nb,ad,al,iq]
  try simp only[aG]
  have ti:(i:Int).toNat=i:=by omega
  rw[ti];refine⟨fun h=>absurd h (by omega),fun _=>⟨fun h=>absurd h (by omega),fun _=>(ks hr hn (by omega)).mono fun ev w1 hh=>?_⟩⟩;obtain⟨rfl,g1⟩:=hh;have DU:=qT hok;have bound:∀ p,p<=l.length->0<=cK (l.take p)/\cK (l.take p)<=4294967295*p:=by
    intro p
    induction p with
    | zero=>intro _;simp[cK]
    | succ p ih =>
      intro hp;have:=ih (by omega);have hm:=(DU _ (List.getElem_mem (show p<l.length by omega))).1;rw[List.take_succ_eq_append_getElem (by omega),ij];have:cK [l[p]]=l[p].len:=by simp[cK]
      omega
  refine⟨_,rfl,fun h=>absurd (hok.symm.trans h) (by decide),fun _=>⟨⟨by omega,by omega⟩,fun m k x W=>∃ p:Nat,x=(p:Int)/\p<=i/\m=i-p/\k=24+cK (l.take p)/\w.grownBy W none,⟨_,0,rfl,by omega,rfl,by simp[cK],g1⟩,?_⟩⟩;rintro m k x W ⟨p,rfl,hp,rfl,rfl,gW⟩;have tp:(p:Int).toNat=p:=by omega
  rw[tp];refine⟨fun DF=>?_,fun DK=>?_⟩
  · have lp:p<l.length:=by omega
    obtain⟨a,e0,f0,f1,f2⟩:=l9 (hr.kept_none gW) lp;have ga:=World.grownBy_alloc W (.cells #[.int .i64 0,.int .i64 0,.int .u32 0] 60) none;have s0:=heap_alloc_new W (.cells #[.int .i64 0,.int .i64 0,.int .u32 0] 60);have s1:=aF s0 0 (.int .i64 l[p].len);have s2:=aF s1 1 (.int .i64 l[p].first);have s3:=aF s2 2 (.int .u32 l[p].sum);have g3:W.grownBy ((((W.alloc (.cells #[.int .i64 0,.int .i64 0,.int .u32 0] 60)).setCell ⟨W.heap.size,0,none⟩ (.int .i64 l[p].len)).setCell ⟨W.heap.size,1,none⟩ (.int .i64 l[p].first)).setCell ⟨W.heap.size,2,none⟩ (.int .u32 l[p].sum)) none:=(cF (cF (cF (Kp.of_none (S:=fun q=>W.heap.size<=q) ga) (Nat.le_refl _)) (Nat.le_refl _)) (Nat.le_refl _)).grown (fun q hq e=>by omega);have hb:=bound p (by omega);have hm:=(DU _ (List.getElem_mem lp)).1;have GV:cK [l[p]]=l[p].len:=by simp[cK]
    refine⟨a,e0,by omega,by omega,_,f0,_,f1,_,f2,⟨_,aA s0 0⟩,aC s0 0,⟨_,aA s1 1⟩,aC s1 1,⟨_,aA s2 2⟩,aC s2 2,l[p].len,by rw[aA s3 0];rfl,by omega,by omega,i-(p+1),by omega,p+1,by omega,by omega,rfl,?_,aB gW g3⟩;rw[List.take_succ_eq_append_getElem lp,ij,GV];omega
  · have:p=i:=by omega
    subst this;exact⟨rfl,gW⟩
theorem uZ{w:World}{A:OA}{n c:Nat}{i:Int}(hi:(n:Int)<=i):
    Calls P 47 #[.slice A n c,.int .i64 i] w fun ev w'=>ev=.returned (.int .i64 0)/\w.grownBy w' none:=by
  apply vc47;dsimp only[VC47,Wt,Br,Rd,Ix,Ws,cB,nb,ad,al,iq];exact⟨fun h=>absurd h (by omega),fun _=>⟨fun _=>⟨rfl,aD _ _⟩,fun h=>absurd hi h⟩⟩
theorem yQ{w:World}{base:Nat}(hb:base<=w.heap.size){A:OA}{n c:Nat}{xs:List Int}(ho:aH w base 5 1 A n c (cz xs))(hn:n<=2^39):
    ∃(A':OA)(n' c':Nat)(w':World),Sem.run P (Builtin.append_ #[26,9] 26 #[.slice A n c,.string ⟨#[88,71,84,49]⟩]) w=.ok (.slice A' n' c') w'/\aH w' base 5 1 A' n' c' (cz (xs++[88,71,84,49]))/\w.grownBy w' (Value.slice A n c).ownBlock:=by
  obtain⟨i,h1,h2,h3,h4,h5,h6⟩:=ui.ex;obtain⟨v',w',r,o,g,_⟩:=Lib.run_append_own_string (P:=P) (w:=w) base 26 9 26 5 i h1 (by kernel_rfl) h2 h3 h4 h5 _ n (cz xs) ho ⟨#[88,71,84,49]⟩ (by simp only[maxLen];show n+4<=_;omega) (by show n+4<=_;omega) hb;have hx:cz xs++Lib.strCells ⟨#[88,71,84,49]⟩=cz (xs++[88,71,84,49]):=by
    unfold cz;rw[List.map_append];rfl
  rw[hx]at o;rcases o.2 with⟨rfl,hz⟩ | ⟨gq,cap,cur,rfl,rest⟩
  · exact⟨none,0,0,w',r,by rw[hz]at o;exact o,g⟩
  · exact⟨_,_,_,w',r,o,g⟩
theorem ew{W:World}{bs n c s:Nat}{ty:TypeId}{A:OA}{xs:List Value}(h:aH W bs ty s A n c xs)(e:A=none):c=0:=by
 obtain⟨_,⟨h1,h2,h3⟩ | ⟨g,cur,h1,_⟩⟩:=h.cases
 ·exact h3.1
 ·rw[e]at h1;cases h1
theorem yi{w:World}{A:OA}{n c:Nat}{l:List dV}(hr:bB w A (dZ l))(hn:n=l.length)(hl:l.length<=2^20)(hok:rowsOk l=true)(hN:∀ r∈l,td r):
    Calls P 38 #[.slice A n c] w fun ev w'=>∃(A':OA)(m k:Nat),ev=.returned (.tuple #[.slice A' m k,.bool true])/\aH w' w.heap.size 5 1 A' m k (cz (iw l))/\w.grownBy w' none:=by
  apply vc38;dsimp only[VC38,rt,Wt,Br,Rd,Ix,Ap,Ws,cB,cS,nb,ad,al,iq]
  try simp only[aG]
  refine(ks hr hn (by omega)).mono fun ev w1 hh=>?_;obtain⟨rfl,g1⟩:=hh;refine⟨_,rfl,fun h=>absurd (hok.symm.trans h) (by decide),fun _=>?_⟩;refine⟨fun m B k d i W=>∃ p:Nat,i=(p:Int)/\p<=l.length/\m=l.length-p/\aH W w.heap.size 5 1 B k d (cz ((l.take p).flatMap fW))/\w.grownBy W none,⟨_,0,rfl,by omega,rfl,aH.nil _ _ _ _,g1⟩,?_⟩;rintro m B k d i W ⟨p,rfl,hp,rfl,oW,gW⟩;have tp:(p:Int).toNat=p:=by omega
  rw[tp];have hk:k=16*p:=by have h:=oW.cases.1;unfold cz at h;rw[List.length_map,gV,List.length_take]at h;omega
  have zW:=gW.size;refine⟨fun DF=>?_,fun DK=>?_⟩
  · have lp:p<l.length:=by omega
    obtain⟨a,e0,f0,f1,f2⟩:=l9 (hr.kept_none gW) lp;obtain⟨q1,q2,q3⟩:=hN _ (List.getElem_mem lp);have ga:=World.grownBy_alloc W (.cells #[.int .i64 0,.int .i64 0,.int .u32 0] 60) none;have s0:=heap_alloc_new W (.cells #[.int .i64 0,.int .i64 0,.int .u32 0] 60);have s1:=aF s0 0 (.int .i64 l[p].len);have s2:=aF s1 1 (.int .i64 l[p].first);have s3:=aF s2 2 (.int .u32 l[p].sum);have g3:W.grownBy ((((W.alloc (.cells #[.int .i64 0,.int .i64 0,.int .u32 0] 60)).setCell ⟨W.heap.size,0,none⟩ (.int .i64 l[p].len)).setCell ⟨W.heap.size,1,none⟩ (.int .i64 l[p].first)).setCell ⟨W.heap.size,2,none⟩ (.int .u32 l[p].sum)) none:=(cF (cF (cF (Kp.of_none (S:=fun q=>W.heap.size<=q) ga) (Nat.le_refl _)) (Nat.le_refl _)) (Nat.le_refl _)).grown (fun q hq e=>by omega);refine⟨a,e0,by omega,by omega,_,f0,_,f1,_,f2,⟨_,aA s0 0⟩,aC s0 0,⟨_,aA s1 1⟩,aC s1 1,⟨_,aA s2 2⟩,aC s2 2,l[p].len,by rw[aA s3 0];rfl,by omega,?_⟩;obtain⟨w3,Ep⟩:∃ w3,w3=(((W.alloc (.cells #[.int .i64 0,.int .i64 0,.int .u32 0] 60)).setCell ⟨W.heap.size,0,none⟩ (.int .i64 l[p].len)).setCell ⟨W.heap.size,1,none⟩ (.int .i64 l[p].first)).setCell ⟨W.heap.size,2,none⟩ (.int .u32 l[p].sum):=⟨_,rfl⟩;have s3':w3.heap[W.heap.size]?=some (.cells #[.int .i64 l[p].len,.int .i64 l[p].first,.int .u32 l[p].sum] 60 (0,0)):=by rw[Ep];exact s3
    rw[← Ep]at g3 ⊢;have DP:=aB gW g3;have far:∀ {X X':World} {bs n c:Nat} {A:OA} {xs:List Value},aH X bs 5 1 A n c xs->X.heap[W.heap.size]?=some (.cells #[.int .i64 l[p].len,.int .i64 l[p].first,.int .u32 l[p].sum] 60 (0,0))->X.grownBy X' (Value.slice A n c).ownBlock->X'.heap[W.heap.size]?=some (.cells #[.int .i64 l[p].len,.int .i64 l[p].first,.int .u32 l[p].sum] 60 (0,0)):=fun h hb hg=>by
      rw[hg.block _ (Array.getElem?_eq_some_iff.1 hb).1 (fun e=>qx h hb (by decide) e.symm)];exact hb
    have ob:=fun {X:World} {n c:Nat} {A:OA} {xs:List Value} (h:aH X w.heap.size 5 1 A n c xs) q (hq:(Value.slice A n c).ownBlock=some q)=>(World.ownsRow.lt h q hq).1;refine(yh (v:=l[p].len) (n:=4) (by omega)).mono fun ev w4 hh=>?_;obtain⟨A4,n4,c4,rfl,o4,g4⟩:=hh;have GJ:n4=(cZ l[p].len 4).length:=by have:=o4.cases.1;simp at this;omega
    have oW4:=oW.kp (S:=fun _=>False) (Kp.of_none (aB g3 g4)) (fun _ _ e=>e);have Hj:=aB DP g4;obtain⟨A5,n5,c5,w5,r5,o5,g5,e5⟩:=bD oW4 o4.row GJ (ew o4) (by rw[hk,GJ,aW];omega) Hj.size;have Hv:=de Hj g5 fun q hq=>ob oW4 q hq;have s5:=far oW4 (aE s3' g4) g5;refine⟨_,_,_,rfl,A5,n5,c5,w5,r5,l[p].first,aA s5 1,by omega,(yh (v:=l[p].first) (n:=8) (by omega)).mono fun ev w6 hh=>?_⟩;obtain⟨A6,n6,c6,rfl,o6,g6⟩:=hh;have IU:n6=(cZ l[p].first 8).length:=by have:=o6.cases.1;simp at this;omega
    have Ms:=o5.kp (S:=fun _=>False) (Kp.of_none g6) (fun _ _ e=>e);have P5:=aB Hv g6;obtain⟨A7,n7,c7,w7,r7,o7,g7,e7⟩:=bD Ms o6.row IU (ew o6) (by rw[e5,hk,GJ,IU,aW,aW];omega) P5.size;have SM:=de P5 g7 fun q hq=>ob Ms q hq;have s7:=far Ms (aE s5 g6) g7;refine⟨_,_,_,rfl,A7,n7,c7,w7,r7,l[p].sum,aA s7 2,by omega,(yh (v:=l[p].sum) (n:=4) (by omega)).mono fun ev w8 hh=>?_⟩;obtain⟨A8,n8,c8,rfl,o8,g8⟩:=hh;have Ii:n8=(cZ l[p].sum 4).length:=by have:=o8.cases.1;simp at this;omega
    have Ox:=o7.kp (S:=fun _=>False) (Kp.of_none g8) (fun _ _ e=>e);have P4:=aB SM g8;obtain⟨A9,n9,c9,w9,r9,o9,g9,e9⟩:=bD Ox o8.row Ii (ew o8) (by rw[e7,e5,hk,GJ,IU,Ii,aW,aW,aW];omega) P4.size;have SL:=de P4 g9 fun q hq=>ob Ox q hq;refine⟨_,_,_,rfl,A9,n9,c9,w9,r9,by omega,l.length-(p+1),by omega,p+1,by omega,by omega,rfl,?_,SL⟩;rw[List.take_succ_eq_append_getElem lp,List.flatMap_append];have:[l[p]].flatMap fW=cZ l[p].len 4++(cZ l[p].first 8++cZ l[p].sum 4):=by simp[fW]
    rw[this,← List.append_assoc,← List.append_assoc];exact o9
  · have GG:p=l.length:=by omega
    subst GG;rw[List.take_length]at oW;obtain⟨A5,n5,c5,w5,r5,o5,g5⟩:=yQ gW.size oW (by omega);have Hv:=de gW g5 fun q hq=>(World.ownsRow.lt oW q hq).1;have hP:l.flatMap fW++[88,71,84,49]=jL l:=rfl;rw[hP]at o5;have HF:n5=(jL l).length:=by have:=o5.cases.1;simp at this;omega
    refine⟨A5,n5,c5,w5,r5,(mU o5.row HF (vL l) (by rw[ma];omega)).mono fun ev w6 hh=>?_⟩;obtain⟨A6,n6,c6,rfl,o6,g6⟩:=hh;exact⟨_,_,_,rfl,A6,n6,c6,rfl,o6.mono Hv.size,aB Hv g6⟩
theorem ri{w:World}{A:OA}{n c:Nat}{l:List aU}{N k:Int}(hr:bB w A (cw l))(hn:n=l.length)(hl:n<=2^20)(hb:sI l)(NJ:(fm N l).2=0)(hk:1<=k/\k<=1048576):
    Calls P 31 #[.agg #[.int .u64 N,.slice A n c],.int .i64 k] w fun ev w'=>ev=.returned (.tuple #[i9 N k l.length,.int .i64 0])/\w.grownBy w' none:=by
  apply vc31;dsimp only[VC31,rt,Wt,Br,Rd,Rs,Ws,nb,iq];obtain⟨w1,DG,g1,b1⟩:=fQ w #[.int .u64 N,.slice A n c] 25;rw[← DG];obtain⟨w2,Es,g2,b2⟩:=fQ w1 #[.int .u64 0,.int .i64 0,.int .i64 0] 51;rw[← Es];have b1':=aE b1 g2;refine⟨N,aA b1' 0,A,n,c,aA b1' 1,(kw ((hr.kept_none g1).kept_none g2) hn hl hb).mono fun ev w3 hh=>?_⟩;obtain⟨rfl,g3⟩:=hh;have b1'':=aE b1' g3;have b2':=aE b2 g3;have s1:=aF b2' 0 (.int .u64 N);have s2:=aF s1 1 (.int .i64 k);have s3:=aF s2 2 (.int .i64 (n:Int));have gS:w1.grownBy (((w3.setCell ⟨w1.heap.size,0,none⟩ (.int .u64 N)).setCell ⟨w1.heap.size,1,none⟩ (.int .i64 k)).setCell ⟨w1.heap.size,2,none⟩ (.int .i64 (n:Int))) none:=(cF (cF (cF (Kp.of_none (S:=fun q=>w1.heap.size<=q) (aB g2 g3)) (Nat.le_refl _)) (Nat.le_refl _)) (Nat.le_refl _)).grown (fun q hq e=>by omega);refine⟨_,_,rfl,fun h=>absurd NJ h,fun _=>⟨fun h=>absurd h (by omega),fun _=>⟨fun h=>absurd h (by omega),fun _=>⟨N,aA b1'' 0,A,n,c,aA b1'' 1,⟨_,aA b2' 0⟩,aC b2' 0,⟨_,aA s1 1⟩,aC s1 1,⟨_,aA s2 2⟩,aC s2 2,N,by rw[aA s3 0];rfl,k,by rw[aA s3 1];rfl,(n:Int),by rw[aA s3 2];rfl,?_,aB g1 gS⟩⟩⟩⟩;rw[hn]
theorem CP:uw P 52 60 3 (P.bytesOf 60):=⟨(P.info? 60).getD default,((P.info? 60).getD default).zero.getD undef,by kernel_rfl,by kernel_rfl,by kernel_rfl,by kernel_rfl,by kernel_rfl,by kernel_rfl,by decide⟩
theorem BU:P.bytesOf 60<=64:=of_decide_eq_true (by kernel_rfl)
theorem sD{w:World}{base:Nat}{A:OA}{b:Addr}{n c d:Nat}{xs:List dV}{y:dV}(ho:aH w base 60 3 A n c (dZ xs))(hB:bB w (some b) (dZ [y]))(hn:n+1<=2^39)(hb:base<=w.heap.size):
    ∃ (A':OA) (n' c':Nat) (w':World),Sem.run P (Builtin.append_ #[52,52] 52 #[.slice A n c,.slice (some b) 1 d]) w=.ok (.slice A' n' c') w' ∧
      aH w' base 60 3 A' n' c' (dZ (xs++[y]))/\w.grownBy w' (Value.slice A n c).ownBlock:=by
  obtain⟨A',n',c',w',h1,h2,h3,h4,_⟩:=ho.appends (ty:=52) CP BU (a:=b) (m:=1) (cc:=d) (us:=dZ [y]) (by rw[fd];rfl) (fun j u hj=>by obtain⟨b,q1,q2⟩:=hB j u hj;cases q1;exact q2) (fun u hu=>by
    simp[dZ,Bk]at hu;rcases hu with rfl | rfl | rfl <;>rfl) (by omega) hb
  exact⟨A',n',c',w',h1,by rw[uE];exact h2,h4⟩
theorem CN{w:World}{a:Addr}{l:List aU}(h:bB w (some a) (cw l))(DJ:l≠[]){w':World}(hg:w.grownBy w' none):w'.cell? a=some (.int .i64 (mR l)):=by
 cases l with
 | nil=>exact absurd rfl DJ
 | cons e l =>
  obtain⟨b,e1,e2,_⟩:=eS (h.kept_none hg) (show 0<(e ::l).length by simp);cases e1;rw[Nat.zero_mul,add0]at e2;exact e2
theorem bF.evtsU{N:Int}{l:List aU}(h:bF N l):sI l:=fun e he=>by have:=h.mem e he;have:=h.n;omega
theorem bF.chk{N:Int}{l:List aU}(h:bF N l):(fm N l).2=0:=my.2 ⟨h.n.2,by have:=h.len;omega,h.ok⟩
theorem bF.after{N:Int}{l:List aU}(h:bF N l)(k i:Nat):kI N l ((i*k:Nat):Int)=jx l k i:=by
 unfold kI jx;rw[if_neg (fun e=>e h.chk),show((i*k:Nat):Int).toNat=i*k by omega]
theorem fg{w:World}{A:OA}{n c:Nat}{l:List aU}{N:Int}{k:Nat}(hr:bB w A (cw l))(hn:n=l.length)(hc:n<=c)(hA:A=none->c=0)(h:bF N l)(hk:1<=k/\k<=1048576):
    Calls P 13 #[.agg #[.int .u64 N,.slice A n c],.int .i64 (k:Int)] w fun ev w'=>∃(A':OA)(n' c':Nat),ev=.returned (.tuple #[.slice A' n' c',.int .i64 0])/\aH w' w.heap.size 5 1 A' n' c' (cz (dz N l k))/\w.grownBy w' none:=by
  apply vc13;dsimp only[VC13,rt,Br,Rd,Rc,Rs,Ix,Ap,Ws,cI,cS,cT,nb,iq]
  try simp only[aG]
  have hl:=h.len;obtain⟨w1,DG,g1,b1⟩:=fQ w #[.int .u64 N,.slice A n c] 25;rw[← DG];refine⟨N,aA b1 0,A,n,c,aA b1 1,(ri (hr.kept_none g1) hn (by omega) h.evtsU h.chk (by omega)).mono fun ev w2 hh=>?_⟩;obtain⟨rfl,g2⟩:=hh;have Nu:dx N k l.length:=by have:=h.n;unfold dx;omega
  have ga:=World.grownBy_alloc w2 (.cells #[.int .u64 0,.int .i64 0,.int .i64 0] 51) none;have s0:=heap_alloc_new w2 (.cells #[.int .u64 0,.int .i64 0,.int .i64 0] 51);have s1:=aF s0 0 (.int .u64 N);have s2:=aF s1 1 (.int .i64 (k:Int));have s3:=aF s2 2 (.int .i64 (l.length:Int));have g3:w2.grownBy ((((w2.alloc (.cells #[.int .u64 0,.int .i64 0,.int .i64 0] 51)).setCell ⟨w2.heap.size,0,none⟩ (.int .u64 N)).setCell ⟨w2.heap.size,1,none⟩ (.int .i64 (k:Int))).setCell ⟨w2.heap.size,2,none⟩ (.int .i64 (l.length:Int))) none:=(cF (cF (cF (Kp.of_none (S:=fun q=>w2.heap.size<=q) ga) (Nat.le_refl _)) (Nat.le_refl _)) (Nat.le_refl _)).grown (fun q hq e=>by omega);refine⟨_,_,_,_,rfl,⟨_,aA s0 0⟩,aC s0 0,⟨_,aA s1 1⟩,aC s1 1,⟨_,aA s2 2⟩,aC s2 2,fun e=>absurd rfl e,fun _=>?_⟩;obtain⟨w3,Ep⟩:∃ w3,w3=(((w2.alloc (.cells #[.int .u64 0,.int .i64 0,.int .i64 0] 51)).setCell ⟨w2.heap.size,0,none⟩ (.int .u64 N)).setCell ⟨w2.heap.size,1,none⟩ (.int .i64 (k:Int))).setCell ⟨w2.heap.size,2,none⟩ (.int .i64 (l.length:Int)):=⟨_,rfl⟩;have h3:w3.heap[w2.heap.size]?=some (.cells #[.int .u64 N,.int .i64 (k:Int),.int .i64 (l.length:Int)] 51 (0,0)):=by rw[Ep];exact s3
  rw[← Ep]at g3 ⊢;have b3:=aE (aE b1 g2) g3;have DP:=aB g1 (aB g2 g3);have z03:=DP.size;refine⟨N,aA h3 0,(k:Int),aA h3 1,(l.length:Int),aA h3 2,(sW Nu).mono fun ev w4 hh=>?_⟩;obtain⟨A4,n4,c4,rfl,o4,g4⟩:=hh;have h4:=aE h3 g4;refine⟨_,_,_,rfl,N,aA h4 0,(k:Int),aA h4 1,(l.length:Int),aA h4 2,(il Nu).mono fun ev w5 hh=>?_⟩;obtain⟨rfl,g5⟩:=hh;rw[lq hk.1];obtain⟨m,hm⟩:∃ m,m=dP l.length k:=⟨_,rfl⟩;rw[← hm];have JF:m<=l.length:=by rw[hm];exact nM hk.1
  refine⟨_,rfl,fun q B d e R s t x W=>∃ p:Nat,x=(p:Int)/\p<=m/\q=m-p/\aH W w3.heap.size 5 1 B d e (cz (gg N k l.length++bP l k p))/\aH W w3.heap.size 60 3 R s t (dZ (dm l k p))/\w3.grownBy W none,⟨_,0,rfl,by omega,rfl,by simpa[bP]using o4.kp (S:=fun _=>False) (Kp.of_none g5) (fun _ _ e=>e),aH.nil _ _ _ _,aB g4 g5⟩,?_⟩;rintro q B d e R s t x W ⟨p,rfl,hp,rfl,oW,rW,gW⟩;have zW:=gW.size;have Ha:(bP l k p).length<=9480*p:=h.bodiesLen hk.1 (by omega);have hd:d=24+(bP l k p).length:=by have h':=oW.cases.1;unfold cz at h';rw[List.length_map,List.length_append,fK]at h';omega
  have hs:s=p:=by have h':=rW.cases.1;rw[fd,dv]at h';omega
  have ob:=fun {X:World} {n c sz:Nat} {ty:TypeId} {A:OA} {xs:List Value} (h:aH X w3.heap.size ty sz A n c xs) q (hq:(Value.slice A n c).ownBlock=some q)=>(World.ownsRow.lt h q hq).1;refine⟨fun DF=>?_,fun DK=>?_⟩
  · have lp:p<m:=by omega
    have Fl:p*k<l.length:=(ey hk.1).1 (by omega);have OX:(p:Int)*(k:Int)=((p*k:Nat):Int):=by simp
    rw[OX];have tpk:((p*k:Nat):Int).toNat=p*k:=by omega
    rw[tpk];have gd:=aI (aD W none);obtain⟨W0,Lt⟩:∃ W0,W0=W.drew:=⟨_,rfl⟩;rw[← Lt]at gd ⊢;have gW0:=aB gW gd;have Nq:∀ X,w3.grownBy X none->X.heap[w.heap.size]?=some (.cells #[.int .u64 N,.slice A n c] 25 (0,0)):=fun X hX=>aE b3 hX;have FR:=aE h3 gW0;have KV:(p:Int)<((l.length:Int)+(k:Int)-1) / (k:Int):=by rw[lq hk.1];omega
    refine⟨fun X=>w3.grownBy X none,gW0,A,n,c,fun X hX=>aA (Nq X hX) 1,by omega,⟨by omega,by omega⟩,N,aA FR 0,(k:Int),aA FR 1,(l.length:Int),aA FR 2,(ku Nu (by omega) KV).mono fun ev W1 hh=>?_⟩;obtain⟨rfl,gs1⟩:=hh;have gW1:=aB gW0 gs1;have FZ:min (k:Int) ((l.length:Int)-(p:Int)*(k:Int))=(((iG l k p).length:Nat):Int):=by rw[OX,mu];omega
    rw[FZ];have Pl:(iG l k p).length<=l.length-p*k:=by rw[mu];omega
    refine⟨_,rfl,gW1,⟨by omega,by omega⟩,N,aA (Nq W1 gW1) 0,A,n,c,aA (Nq W1 gW1) 1,by omega,(nG ((hr.kept_none DP).kept_none gW1) hn hc hA (by omega) h.evtsU).mono fun ev W2 hh=>?_⟩;obtain⟨A2,n2,c2,rfl,o2,g2'⟩:=hh;rw[h.after]at o2;have gW2:=aB gW1 g2';have FQ:n2=(jx l k p).length:=by have h':=o2.cases.1;rw[dA]at h';omega
    have rows:=CR (k:=p*k) ((hr.kept_none DP).kept_none gW2) hA (by omega:l.length<=c);have rev:bB W2 (bN A c (p*k) 4) (cw (iG l k p)):=uz rows.1 k;have Mb:=h.keyLen (k:=k) (i:=p);have NC:=h.evLen (k:=k) (i:=p);have Jd:=h.blk hk.1 Fl;refine⟨_,_,_,_,rfl,(su o2.row FQ rev rfl (by omega) (by omega) h.edgesB h.evtsB (fun _=>by have:=oa h.edgesB (by omega:(jx l k p).length<=2^30);omega) (fun _=>by have:=(jb Jd.del).1;omega)).mono fun ev W3 hh=>?_⟩;obtain⟨A3,n3,c3,rfl,o3,g3'⟩:=hh;rw[h.err hk.1 Fl,if_pos rfl]at o3;have gW3:=aB gW2 g3';have Gb:=h.blen hk.1 Fl;have Gs:n3=(cR l k p).length:=by have h':=o3.cases.1;unfold cz at h';rw[List.length_map]at h';unfold cR;omega
    have o3:aH W3 W2.heap.size 5 1 A3 n3 c3 (cz (cR l k p)):=o3;refine⟨_,_,_,_,rfl,fun e=>absurd (h.err hk.1 Fl) e,fun _=>?_⟩;have gs03:=aB gd (aB gs1 (aB g2' g3'));have oW3:=oW.kp (S:=fun _=>False) (Kp.of_none gs03) (fun _ _ e=>e);have rW3:=rW.kp (S:=fun _=>False) (Kp.of_none gs03) (fun _ _ e=>e);obtain⟨A4',n4',c4',W4,r4,o4',g4',e4⟩:=bD oW3 o3.row Gs (ew o3) (by omega) gW3.size;have rne:∀ q,(Value.slice R s t).ownBlock=some q->(Value.slice B d e).ownBlock≠some q:=fun q hq=>by
      obtain⟨cur,Em⟩:=rW3.block_type q hq;exact qx oW3 Em (by decide)
    have gW4:=de gW3 g4' fun q hq=>ob oW3 q hq;have rW4:=rW3.kp (Kp.of_grown g4') (fun q hq e=>rne q hq e.symm);have gd4:=aI (aD W4 none);obtain⟨W5,NW⟩:∃ W5,W5=W4.drew:=⟨_,rfl⟩;have gW5:w3.grownBy W5 none:=by rw[NW];exact aB gW4 gd4
    have rev3:bB w3 (bN A c (p*k) 4) (cw (iG l k p)):=uz (CR (k:=p*k) (hr.kept_none DP) hA (by omega:l.length<=c)).1 k;obtain⟨a68,ea⟩:∃ a,bN A c (p*k) 4=some a:=by
      have DJ:=yz (l:=l) hk.1 Fl;have DZ:0<(iG l k p).length:=List.length_pos_iff.2 DJ;obtain⟨a,e1,_⟩:=eS rev3 DZ;exact⟨a,e1⟩
    have DJ:=yz (l:=l) hk.1 Fl;have DZ:0<(iG l k p).length:=List.length_pos_iff.2 DJ;rw[ea]at rev3;have Qb:aH W4 W2.heap.size 5 1 A3 n3 c3 (cz (cR l k p)):=o3.kp (Kp.of_grown g4') (fun q hq e=>by
      have h1:=(World.ownsRow.lt o3 q hq).1;have h2:=oW.block_lt q e.symm;have PY:=(aB gd (aB gs1 g2')).size;omega)
    have gA:=World.grownBy_alloc W5 (.cells #[.slice A3 n3 c3] 26) none;have rA:bB (W5.alloc (.cells #[.slice A3 n3 c3] 26)) (some ⟨W5.heap.size,0,none⟩) [.slice A3 n3 c3]:=mb W5 #[.slice A3 n3 c3] 26;have GB:W4.grownBy W5 none:=by rw[NW];exact gd4
    have Qa:=Qb.kp (S:=fun _=>False) (Kp.of_none (aB GB gA)) (fun _ _ e=>e);refine⟨A4',n4',c4',W4,r4,fun X=>w3.grownBy X none,aB gW4 gd4,a68,ea,by omega,by show(0:Int)<(((iG l k p).length:Nat):Int);omega,mR (iG l k p),fun X hX=>CN rev3 DJ hX,?_⟩;rw[← NW];have gW6:=aB gW5 gA;refine⟨gW6,(kB rA Qa.row Gs h.bodyBy (by omega)).mono fun ev W6 hh=>?_⟩;obtain⟨rfl,rfl⟩:=hh;have gB:=World.grownBy_alloc (W5.alloc (.cells #[.slice A3 n3 c3] 26)) (.cells #[.int .i64 (n3:Int),.int .i64 (mR (iG l k p)),.int .u32 (nu (cR l k p))] 60) none;have rB:=mb (W5.alloc (.cells #[.slice A3 n3 c3] 26)) #[.int .i64 (n3:Int),.int .i64 (mR (iG l k p)),.int .u32 (nu (cR l k p))] 60;obtain⟨W6,Sb⟩:∃ W6,W6=W5.alloc (.cells #[.slice A3 n3 c3] 26):=⟨_,rfl⟩;rw[← Sb]at gB rB gW6 gA ⊢;obtain⟨W7,Me⟩:∃ W7,W7=W6.alloc (.cells #[.int .i64 (n3:Int),.int .i64 (mR (iG l k p)),.int .u32 (nu (cR l k p))] 60):=⟨_,rfl⟩;rw[← Me]at gB rB;have gW7:=aB gW6 gB;have rB':bB W7 (some ⟨W6.heap.size,0,none⟩) (dZ [gu l k p]):=by
      have:dZ [gu l k p]=[.int .i64 (n3:Int),.int .i64 (mR (iG l k p)),.int .u32 (nu (cR l k p))]:=by simp[dZ,Bk,gu,Gs]
      rw[this];exact rB
    have IA:=aB GB (aB gA gB);have rW7:=rW4.kp (S:=fun _=>False) (Kp.of_none IA) (fun _ _ e=>e);have oW7:=o4'.kp (S:=fun _=>False) (Kp.of_none IA) (fun _ _ e=>e);obtain⟨R',s',t',W8,r8,o8,g8⟩:=sD (d:=1) rW7 rB' (by omega) gW7.size;have gW8:=de gW7 g8 fun q hq=>ob rW7 q hq;have oW8:=oW7.kp (Kp.of_grown g8) (fun q hq e=>by
      obtain⟨cur,Em⟩:=oW7.block_type q hq;exact qx rW7 Em (by decide) e.symm)
    refine⟨_,rfl,gW6,?_⟩;rw[← Me];refine⟨gW7,R',s',t',W8,r8,gW8,by omega,m-(p+1),by omega,p+1,by omega,by omega,rfl,?_,?_,gW8⟩
    · rw[eE,← List.append_assoc];exact oW8
    · rw[kb];exact o8
  · have Ho:p=m:=by omega
    subst Ho;have hR:∀ r∈dm l k p,td r:=fun r hr=>by
      unfold dm at hr;obtain⟨i,hi,rfl⟩:=List.mem_map.1 hr;exact h.rowN hk.1 ((ey hk.1).1 (by rw[← hm];simpa using hi))
    refine(yi rW.row (by rw[dv];exact hs) (by rw[dv];omega) (h.rowsOk hk.1 (by omega)) hR).mono fun ev W1 hh=>?_;obtain⟨A5,n5,c5,rfl,o5,g5'⟩:=hh;have oW1:=oW.kp (S:=fun _=>False) (Kp.of_none g5') (fun _ _ e=>e);have gW1:=aB gW g5';have HF:n5=(iw (dm l k p)).length:=by have h':=o5.cases.1;unfold cz at h';rw[List.length_map]at h';omega
    obtain⟨A6,n6,c6,W2,r6,o6,g6,_⟩:=bD oW1 o5.row HF (ew o5) (by rw[HF,jM,dv];omega) gW1.size;have gW2:=de gW1 g6 fun q hq=>ob oW1 q hq;refine⟨_,_,_,_,rfl,A6,n6,c6,W2,r6,A6,n6,c6,rfl,?_,aB DP gW2⟩;rw[List.append_assoc]at o6;have Lb:dz N l k=gg N k l.length++(bP l k p++iw (dm l k p)):=by unfold dz;rw[← hm]
    rw[Lb];exact o6.mono z03
end Go.Proofs.YtlieaecnllkefaaGreat

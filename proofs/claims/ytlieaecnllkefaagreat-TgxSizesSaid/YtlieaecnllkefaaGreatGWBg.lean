/- Own texts, packed: W6, W7, W8, W9. -/
import Derived.Test.YtlieaecnllkefaaGreatGWAg
import Derived.Test.YtlieaecnllkefaaGreatGIg
import Derived.Lib.AppendStr
import Derived.Test.YtlieaecnllkefaaGreatGTg
import Derived.Test.YtlieaecnllkefaaGreatGRg
namespace Go.Proofs.YtlieaecnllkefaaGreat
open Go Go.V Go.RowKit
set_option linter.unusedVariables false
set_option linter.unusedSimpArgs false
set_option maxHeartbeats 8000000
set_option maxRecDepth 100000
theorem mnI(u v:Int):mn u v=min u v:=by unfold mn;split <;>omega
abbrev su(N K C:Int):Value:=.agg #[.int .u64 N,.int .i64 K,.int .i64 C]
theorem po{w:World}{N K C:Int}:Calls P 60 #[su N K C] w fun ev w'=>ev=.returned (.bool (decide (ez N K C)))/\w.grownBy w' none:=by
 apply vc60;dsimp only[VC60,Wt,Br,Bb,Rd,Rc,Rs,Ix,rI_,rB_,rS_]
 have g1:=World.grownBy_alloc w (.cells #[.int .u64 N,.int .i64 K,.int .i64 C] 51) none
 have b1:(w.alloc (.cells #[.int .u64 N,.int .i64 K,.int .i64 C] 51)).heap[w.heap.size]?=some (.cells #[.int .u64 N,.int .i64 K,.int .i64 C] 51 (0,0)):=heap_alloc_new w _
 obtain⟨w1,hw_w1⟩:∃ w1,w1=w.alloc (.cells #[.int .u64 N,.int .i64 K,.int .i64 C] 51):=⟨_,rfl⟩
 rw[← hw_w1]at g1 b1 ⊢
 have key:ez N K C↔N<=4294967296/\1<=K/\K<=1048576/\0<=C/\C<=2147483648:=Iff.rfl
 refine⟨N,aa b1 0,fun h1=>⟨K,aa b1 1,fun h2=>⟨K,aa b1 1,fun h3=>⟨C,aa b1 2,fun h4=>⟨C,aa b1 2,?_,g1⟩,fun h4=>⟨?_,g1⟩⟩,fun h3=>⟨?_,g1⟩⟩,fun h2=>⟨?_,g1⟩⟩,fun h1=>⟨?_,g1⟩⟩
 ·rw[decide_eq_decide.2 (show C<=2147483648↔ez N K C by rw[key];omega)]
 all_goals rw[decide_eq_false (by rw[key];omega)]
theorem ql5{w:World}{v:Int}{n:Nat}(hn:n<=100):Calls P 61 #[.int .u64 v,.int .i64 (n:Int)] w fun ev w'=>∃(A:Option Addr)(m k:Nat),ev=.returned (.slice A m k)/\am w' w.heap.size 5 1 A m k (u8s (ii v n))/\w.grownBy w' none:=by
 apply vc61;dsimp only[VC61,Wt,Br,Bb,Rd,Rc,Rs,Ix,rI_,rB_,rS_]
 try simp only[InK]
 refine⟨fun m s B k d i W=>∃ p:Nat,i=(p:Int)/\p<=n/\m=n-p/\am W w.heap.size 5 1 B k d (u8s (ii v p))/\s=v / 256^p/\w.grownBy W none,⟨_,0,rfl,by omega,rfl,am.nil _ _ _ _,by simp,af _ _⟩,?_⟩
 rintro m s B k d i W ⟨p,rfl,hp,rfl,oW,rfl,gW⟩
 refine⟨fun hlt=>?_,fun hge=>?_⟩
 ·have hlen:k=p:=by have:=oW.cases.1;simp[bj]at this;omega
  obtain⟨A3,n3,c3,w3,r3,o3,g3,_⟩:=je (x:=IntKind.wrap .u8 (v / 256^p)) oW (by omega) gW.size
  have ob:=fun q hq=>(World.ownsRow.lt oW q hq).1
  refine⟨A3,n3,c3,w3,r3,by omega,by omega,n-(p+1),by omega,p+1,by omega,by omega,rfl,?_,?_,cu gW g3 fun q hq=>ob q hq⟩
  ·rw[qao,← qph];exact o3
  ·rw[show(2:Int)^8=256 by decide,Int.ediv_ediv_of_nonneg (Int.le_of_lt (qs p)),← Int.pow_succ]
 ·have:p=n:=by omega
  subst this
  exact⟨_,_,_,rfl,oW,gW⟩
theorem ql1{w:World}{v:Int}{n:Nat}(hn:n<=100):Calls P 73 #[.int .u64 v,.int .i64 (n:Int)] w fun ev w'=>∃(A:Option Addr)(m k:Nat),ev=.returned (.slice A m k)/\am w' w.heap.size 5 1 A m k (u8s (ii v n))/\w.grownBy w' none:=by
 apply vc73;dsimp only[VC73,Wt,Br,Bb,Rd,Rc,Rs,Ix,rI_,rB_,rS_]
 try simp only[InK]
 refine⟨fun m s B k d i W=>∃ p:Nat,i=(p:Int)/\p<=n/\m=n-p/\am W w.heap.size 5 1 B k d (u8s (ii v p))/\s=v / 256^p/\w.grownBy W none,⟨_,0,rfl,by omega,rfl,am.nil _ _ _ _,by simp,af _ _⟩,?_⟩
 rintro m s B k d i W ⟨p,rfl,hp,rfl,oW,rfl,gW⟩
 refine⟨fun hlt=>?_,fun hge=>?_⟩
 ·have hlen:k=p:=by have:=oW.cases.1;simp[bj]at this;omega
  obtain⟨A3,n3,c3,w3,r3,o3,g3,_⟩:=je (x:=IntKind.wrap .u8 (v / 256^p)) oW (by omega) gW.size
  have ob:=fun q hq=>(World.ownsRow.lt oW q hq).1
  refine⟨A3,n3,c3,w3,r3,by omega,by omega,n-(p+1),by omega,p+1,by omega,by omega,rfl,?_,?_,cu gW g3 fun q hq=>ob q hq⟩
  ·rw[qao,← qph];exact o3
  ·rw[show(2:Int)^8=256 by decide,Int.ediv_ediv_of_nonneg (Int.le_of_lt (qs p)),← Int.pow_succ]
 ·have:p=n:=by omega
  subst this
  exact⟨_,_,_,rfl,oW,gW⟩
theorem j6{w:World}{N K C:Int}(h:ez N K C):Calls P 33 #[su N K C] w fun ev w'=>ev=.returned (.int .i64 ((C+K-1) / K))/\w.grownBy w' none:=by
 apply vc33;dsimp only[VC33,Wt,Br,Bb,Rd,Rc,Rs,Ix,rI_,rB_,rS_]
 try simp only[InK]
 have g1:=World.grownBy_alloc w (.cells #[.int .u64 N,.int .i64 K,.int .i64 C] 51) none
 have b1:(w.alloc (.cells #[.int .u64 N,.int .i64 K,.int .i64 C] 51)).heap[w.heap.size]?=some (.cells #[.int .u64 N,.int .i64 K,.int .i64 C] 51 (0,0)):=heap_alloc_new w _
 obtain⟨w1,hw_w1⟩:∃ w1,w1=w.alloc (.cells #[.int .u64 N,.int .i64 K,.int .i64 C] 51):=⟨_,rfl⟩
 rw[← hw_w1]at g1 b1 ⊢
 refine⟨N,aa b1 0,K,aa b1 1,C,aa b1 2,po.mono fun ev w2 hh=>?_⟩
 obtain⟨rfl,g2⟩:=hh
 have b2:=ai b1 g2
 have hk:=h
 unfold ez at hk
 have hd:0<=(C+K-1) / K:=Int.ediv_nonneg (by omega) (by omega)
 have hd2:(C+K-1) / K<=C+K-1:=Int.ediv_le_self _ (by omega)
 refine⟨_,rfl,fun hf=>absurd h (of_decide_eq_false hf),fun _=>⟨C,aa b2 2,K,aa b2 1,by omega,by omega,K,aa b2 1,⟨by omega,by omega,by omega⟩,rfl,ab g1 g2⟩⟩
theorem pk{w:World}{N K C:Int}{i:Int}(h:ez N K C)(hi:0<=i)(hi2:i<(C+K-1) / K):Calls P 34 #[su N K C,.int .i64 i] w fun ev w'=>ev=.returned (.int .i64 (min K (C-i*K)))/\w.grownBy w' none:=by
 apply vc34;dsimp only[VC34,Wt,Br,Bb,Rd,Rc,Rs,Ix,rI_,rB_,rS_]
 try simp only[InK,mnI]
 have g1:=World.grownBy_alloc w (.cells #[.int .u64 N,.int .i64 K,.int .i64 C] 51) none
 have b1:(w.alloc (.cells #[.int .u64 N,.int .i64 K,.int .i64 C] 51)).heap[w.heap.size]?=some (.cells #[.int .u64 N,.int .i64 K,.int .i64 C] 51 (0,0)):=heap_alloc_new w _
 obtain⟨w1,hw_w1⟩:∃ w1,w1=w.alloc (.cells #[.int .u64 N,.int .i64 K,.int .i64 C] 51):=⟨_,rfl⟩
 rw[← hw_w1]at g1 b1 ⊢
 have hk:=h
 unfold ez at hk
 refine⟨fun h'=>absurd h' (by omega),fun _=>⟨N,aa b1 0,K,aa b1 1,C,aa b1 2,(j6 h).mono fun ev w2 hh=>?_⟩⟩
 obtain⟨rfl,g2⟩:=hh
 have b2:=ai b1 g2
 have h3:i*K<=C-1:=by
  have:i+1<=(C+K-1) / K:=by omega
  have:=(Int.le_ediv_iff_mul_le (by omega)).1 this
  rw[Int.add_mul,Int.one_mul]at this
  omega
 have h4:0<=i*K:=Int.mul_nonneg hi (by omega)
 exact⟨_,rfl,fun h'=>absurd h' (by omega),fun _=>⟨K,aa b2 1,C,aa b2 2,K,aa b2 1,by omega,by omega,rfl,ab g1 g2⟩⟩
theorem qhg{w:World}{base:Nat}(hb:base<=w.heap.size){A:Addr}{B:Option Addr}{n c m d:Nat}{xs ys:List Int}(hA:Row w (some A) (u8s xs))(hn:n=xs.length)(hB:Row w B (u8s ys))(hm:m=ys.length)(hy:0<m)(hc:c<n+m)(hl:n+m<=2^39):
    ∃ (A':Option Addr) (n' c':Nat) (w':World),Sem.run P (Builtin.append_ #[26,26] 26 #[.slice (some A) n c,.slice B m d]) w=.ok (.slice A' n' c') w' ∧
      am w' base 5 1 A' n' c' (u8s (xs++ys))/\w.grownBy w' none:=by
  obtain⟨i,h1,h2,h3,h4,h5,h6⟩:=qfg.ex
  have hy0:0<ys.length:=by omega
  obtain⟨a,rfl⟩:∃ a,B=some a:=by
    obtain⟨a,e,_⟩:=hB 0 (.int .u8 ys[0]) (by rw[List.getElem?_map,List.getElem?_eq_getElem hy0];rfl)
    exact⟨a,e⟩
  have hcap:Builtin.nextslicecap (n+m) c*i.bytes<=281474976710656:=by
    rw[h5]
    have:=nextslicecap_le hc
    omega
  have hr:=run_append_grow (P:=P) (w:=w) 26 26 5 i (.int .u8 0) h1 h2 h3 A n c (u8s xs) (by rw[h4];simp[hn]) (fun j v hj=>by obtain⟨b,q1,q2⟩:=hA j v hj;cases q1;exact q2) a m d (u8s ys) (by rw[h4];simp[hm]) (fun j v hj=>by obtain⟨b,q1,q2⟩:=hB j v hj;cases q1;exact q2) hc (by omega) hcap
  refine⟨_,_,_,_,hr,?_,?_⟩
  · have hge:=grownCap_ge w (n+m) c 5
    have hle:=grownCap_le_maxLen w (n+m) c 5 (by simp only[maxLen];omega)
    refine am.of_block (by exact hb) (heap_alloc_new w.drew _) hge hle ?_ (by simp[hn,hm]) ?_
    · rw[h6];simp[size_zeroCells,← hn,← hm];omega
    · simp only[Array.toList_append,List.append_assoc]
      rw[← List.append_assoc,List.take_left' (by simp[hn,hm])]
      simp
  · exact ab (aj (af w none)) (World.grownBy_alloc w.drew _ none)
theorem qdj{w:World}{N K C:Int}(h:ez N K C):Calls P 32 #[su N K C] w fun ev w'=>∃(A:Option Addr)(m k:Nat),ev=.returned (.slice A m k)/\am w' w.heap.size 5 1 A m k (u8s (ng N K C))/\w.grownBy w' none:=by
 apply vc32;dsimp only[VC32,Wt,Br,Bb,Rd,Rc,Rs,Ix,rI_,rB_,rS_]
 try simp only[InK]
 have g1:=World.grownBy_alloc w (.cells #[.int .u64 N,.int .i64 K,.int .i64 C] 51) none
 have b1:(w.alloc (.cells #[.int .u64 N,.int .i64 K,.int .i64 C] 51)).heap[w.heap.size]?=some (.cells #[.int .u64 N,.int .i64 K,.int .i64 C] 51 (0,0)):=heap_alloc_new w _
 obtain⟨w1,hw_w1⟩:∃ w1,w1=w.alloc (.cells #[.int .u64 N,.int .i64 K,.int .i64 C] 51):=⟨_,rfl⟩
 rw[← hw_w1]at g1 b1 ⊢
 have hk:=h
 unfold ez at hk
 refine⟨N,aa b1 0,K,aa b1 1,C,aa b1 2,po.mono fun ev w2 hh=>?_⟩
 obtain⟨rfl,g2⟩:=hh
 refine⟨_,rfl,fun hf=>absurd h (of_decide_eq_false hf),fun _=>?_⟩
 have g12:=ab g1 g2
 have b2:=ai b1 g2
 have hl:=qg3 w2 #[.int .u8 84,.int .u8 71,.int .u8 88,.int .u8 49] 4 4
 have rl:=gn w2 #[.int .u8 84,.int .u8 71,.int .u8 88,.int .u8 49] 5 (4,5)
 have g3:=World.grownBy_alloc w2 (.cells #[.int .u8 84,.int .u8 71,.int .u8 88,.int .u8 49] 5 (4,5)) none
 obtain⟨w3,hw3⟩:∃ w3,w3=w2.alloc (.cells #[.int .u8 84,.int .u8 71,.int .u8 88,.int .u8 49] 5 (4,5)):=⟨_,rfl⟩
 have hl':Sem.run P (Go.convert 26 26 (.slice (some ⟨w2.heap.size,0,none⟩) 4 4)) (w2.alloc (.cells #[.int .u8 84,.int .u8 71,.int .u8 88,.int .u8 49] 5))=.ok (.slice (some ⟨w2.heap.size,0,none⟩) 4 4) w3:=by rw[hw3];exact hl
 rw[← hw3]at rl g3
 have rl':Row w3 (some ⟨w2.heap.size,0,none⟩) (u8s [84,71,88,49]):=rl
 have b3:=ai b2 g3
 have g13:=ab g12 g3
 have z13:=g13.size
 refine⟨_,_,_,w3,hl',N,aa b3 0,(ql5 (v:=N) (n:=8) (by omega)).mono fun ev w4 hh=>?_⟩
 obtain⟨A4,n4,c4,rfl,o4,g4⟩:=hh
 have hn4:n4=(ii N 8).length:=by have:=o4.cases.1;simp at this;omega
 have g14:=ab g13 g4
 obtain⟨A5,n5,c5,w5,r5,o5,g5⟩:=qhg (base:=w.heap.size) g14.size (rl'.kept_none g4) (n:=4) (c:=4) rfl o4.row hn4 (by rw[hn4,bj];omega) (by rw[hn4,bj];omega) (by rw[hn4,bj];omega)
 have g15:=ab g14 g5
 have b5:=ai (ai b3 g4) g5
 refine⟨_,_,_,rfl,A5,n5,c5,w5,r5,K,aa b5 1,by omega,(ql5 (v:=K) (n:=4) (by omega)).mono fun ev w6 hh=>?_⟩
 obtain⟨A6,n6,c6,rfl,o6,g6⟩:=hh
 have hn6:n6=(ii K 4).length:=by have:=o6.cases.1;simp at this;omega
 have hn5:n5=([84,71,88,49]++ii N 8).length:=by have:=o5.cases.1;simp at this ⊢;omega
 have g16:=ab g15 g6
 have nilc:∀ {W:World} {bs n c:Nat} {A:Option Addr} {xs:List Value},am W bs 5 1 A n c xs->A=none->c=0:=fun h e=>by
  obtain⟨_,⟨h1,h2,h3⟩ | ⟨g,cur,h1,_⟩⟩:=h.cases
  ·exact h3.1
  ·rw[e]at h1;cases h1
 obtain⟨A7,n7,c7,w7,r7,o7,g7,e7⟩:=bk (o5.kp (S:=fun _=>False) (Kp.of_none g6) (fun _ _ e=>e)) o6.row hn6 (nilc o6) (by rw[hn5,hn6];simp[bj]) g16.size
 have ob5:=fun q hq=>(World.ownsRow.lt (o5.kp (S:=fun _=>False) (Kp.of_none g6) (fun _ _ e=>e)) q hq).1
 have g17:=cu g16 g7 fun q hq=>ob5 q hq
 have kn:∀ {W W':World} {r:Option Nat},W.grownBy W' r->(∀ k,r=some k->w.heap.size<=k/\W.heap[k]?≠W.heap[w.heap.size]?)->True:=fun _ _=>trivial
 have far:∀ {W:World} {bs n c:Nat} {A:Option Addr} {xs:List Value},am W bs 5 1 A n c xs->W.heap[w.heap.size]?=some (.cells #[.int .u64 N,.int .i64 K,.int .i64 C] 51 (0,0))->∀ {W'},W.grownBy W' (Value.slice A n c).ownBlock->W'.heap[w.heap.size]?=some (.cells #[.int .u64 N,.int .i64 K,.int .i64 C] 51 (0,0)):=fun h hb W' hg=>by
  rw[hg.block _ (Array.getElem?_eq_some_iff.1 hb).1 (fun e=>qda h hb (by decide) e.symm)];exact hb
 have b7:=far (o5.kp (S:=fun _=>False) (Kp.of_none g6) (fun _ _ e=>e)) (ai b5 g6) g7
 refine⟨_,_,_,rfl,A7,n7,c7,w7,r7,C,aa b7 2,by omega,(ql5 (v:=C) (n:=4) (by omega)).mono fun ev w8 hh=>?_⟩
 obtain⟨A8,n8,c8,rfl,o8,g8⟩:=hh
 have hn8:n8=(ii C 4).length:=by have:=o8.cases.1;simp at this;omega
 have g18:=ab g17 g8
 have o7':=o7.kp (S:=fun _=>False) (Kp.of_none g8) (fun _ _ e=>e)
 obtain⟨A9,n9,c9,w9,r9,o9,g9,e9⟩:=bk o7' o8.row hn8 (nilc o8) (by rw[e7,hn5,hn6,hn8];simp[bj]) g18.size
 have ob7:=fun q hq=>(World.ownsRow.lt o7' q hq).1
 have g19:=cu g18 g9 fun q hq=>ob7 q hq
 have hP:[84,71,88,49]++ii N 8++ii K 4++ii C 4=qdk N K C:=rfl
 rw[hP]at o9
 have hn9:n9=(qdk N K C).length:=by have:=o9.cases.1;simp at this;omega
 refine⟨_,_,_,rfl,A9,n9,c9,w9,r9,(wc o9.row hn9 (qih N K C) (by rw[qe9];omega)).mono fun ev w10 hh=>?_⟩
 obtain⟨A10,n10,c10,rfl,o10,g10⟩:=hh
 exact⟨_,_,_,rfl,A10,n10,c10,rfl,o10.mono g19.size,ab g19 g10⟩
def rowC(r:ly):List Value:=[.int .i64 r.len,.int .i64 r.first,.int .u32 r.sum]
def iz(l:List ly):List Value:=l.flatMap rowC
theorem gm(l:List ly):(iz l).length=l.length*3:=by
 induction l with
 | nil=>rfl
 | cons e l ih=>simp[iz,rowC]at ih ⊢;omega
theorem qei:∀ {l:List ly} {i:Nat} (h:i<l.length),(iz l)[i*3]?=some (.int .i64 l[i].len)/\(iz l)[i*3+1]?=some (.int .i64 l[i].first)/\(iz l)[i*3+2]?=some (.int .u32 l[i].sum)
 | e ::l,0,_=>by simp[iz,rowC]
 | e ::l,i+1,h=>by
  have ih:=qei (l:=l) (i:=i) (by simpa using h)
  rw[show(i+1)*3=i*3+1+1+1 by omega]
  exact ih
theorem qej(l m:List ly):iz (l++m)=iz l++iz m:=by simp[iz]
theorem we{w:World}{A:Option Addr}{l:List ly}(h:Row w A (iz l)){j:Nat}(hj:j<l.length):∃ a,A=some a/\w.cell? (a.add (j*3))=some (.int .i64 l[j].len)/\w.cell? (Addr.add (a.add (j*3)) 1)=some (.int .i64 l[j].first)/\w.cell? (Addr.add (a.add (j*3)) 2)=some (.int .u32 l[j].sum):=by
 obtain⟨h1,h2,h3⟩:=qei hj
 obtain⟨a,e0,f0⟩:=h _ _ h1
 obtain⟨a1,e1,f1⟩:=h _ _ h2
 obtain⟨a2,e2,f2⟩:=h _ _ h3
 rw[e0]at e1 e2
 cases e1;cases e2
 exact⟨a,e0,f0,by rw[iw];exact f1,by rw[iw];exact f2⟩
theorem pj{w:World}{A:Option Addr}{n c:Nat}{l:List ly}(hr:Row w A (iz l))(hn:n=l.length)(hl:l.length<=2^40):
    Calls P 72 #[.slice A n c] w fun ev w'=>ev=.returned (.bool (rowsOk l))/\w.grownBy w' none:=by
  apply vc72;dsimp only[VC72,Wt,Br,Bb,Rd,Rc,Rs,Ix,rI_,rB_,rS_]
  try simp only[InK]
  refine⟨fun m last i W=>∃ p:Nat,i=(p:Int)/\p<=l.length/\m=l.length-p/\mg last (l.drop p)=rowsOk l/\w.grownBy W none,⟨_,0,rfl,by omega,rfl,rfl,af _ _⟩,?_⟩
  rintro m last i W ⟨p,rfl,hp,rfl,hg,gW⟩
  have tp:(p:Int).toNat=p:=by omega
  rw[tp]
  refine⟨fun hlt=>?_,fun hge=>?_⟩
  · have lp:p<l.length:=by omega
    obtain⟨a,e0,f0,f1,f2⟩:=we (hr.kept_none gW) lp
    have ga:=World.grownBy_alloc W (.cells #[.int .i64 0,.int .i64 0,.int .u32 0] 60) none
    have s0:=heap_alloc_new W (.cells #[.int .i64 0,.int .i64 0,.int .u32 0] 60)
    have s1:=ah s0 0 (.int .i64 l[p].len)
    have s2:=ah s1 1 (.int .i64 l[p].first)
    have s3:=ah s2 2 (.int .u32 l[p].sum)
    have g3:W.grownBy ((((W.alloc (.cells #[.int .i64 0,.int .i64 0,.int .u32 0] 60)).setCell ⟨W.heap.size,0,none⟩ (.int .i64 l[p].len)).setCell ⟨W.heap.size,1,none⟩ (.int .i64 l[p].first)).setCell ⟨W.heap.size,2,none⟩ (.int .u32 l[p].sum)) none:=(iy (iy (iy (Kp.of_none (S:=fun q=>W.heap.size<=q) ga) (Nat.le_refl _)) (Nat.le_refl _)) (Nat.le_refl _)).grown (fun q hq e=>by omega)
    have g03:=ab gW g3
    rw[List.drop_eq_getElem_cons lp]at hg
    unfold mg at hg
    have bad:¬ (1<=l[p].len/\l[p].len<=4294967295/\last<=l[p].first/\l[p].first<=4611686018427387903)->rowsOk l=false:=fun h=>by rw[← hg,decide_eq_false h];rfl
    refine⟨a,e0,by omega,by omega,_,f0,_,f1,_,f2,⟨_,aa s0 0⟩,ae s0 0,⟨_,aa s1 1⟩,ae s1 1,⟨_,aa s2 2⟩,ae s2 2,l[p].len,by rw[aa s3 0];rfl,fun h1=>⟨by rw[bad (by omega)],g03⟩,fun h1=>⟨l[p].len,by rw[aa s3 0];rfl,fun h2=>⟨by rw[bad (by omega)],g03⟩,fun h2=>⟨l[p].first,by rw[aa s3 1];rfl,fun h3=>⟨by rw[bad (by omega)],g03⟩,fun h3=>⟨l[p].first,by rw[aa s3 1];rfl,fun h4=>⟨by rw[bad (by omega)],g03⟩,fun h4=>⟨l[p].first,by rw[aa s3 1];rfl,by omega,l.length-(p+1),by omega,p+1,by omega,by omega,rfl,?_,g03⟩⟩⟩⟩⟩
    rw[← hg,decide_eq_true ⟨by omega,by omega,by omega,by omega⟩,Bool.true_and]
  · have:p=l.length:=by omega
    subst this
    rw[List.drop_length]at hg
    exact⟨by rw[← hg];rfl,gW⟩
theorem qdf{w:World}{A:Option Addr}{n c:Nat}{l:List ly}{i:Nat}(hr:Row w A (iz l))(hn:n=l.length)(hc:n<=c)(hl:l.length<=2^20)(hok:rowsOk l=true)(hi:i<l.length):
    Calls P 47 #[.slice A n c,.int .i64 (i:Int)] w fun ev w'=>ev=.returned (.int .i64 (24+de (l.take i)))/\w.grownBy w' none:=by
  apply vc47;dsimp only[VC47,Wt,Br,Bb,Rd,Rc,Rs,Ix,rI_,rB_,rS_]
  try simp only[InK]
  have ti:(i:Int).toNat=i:=by omega
  rw[ti]
  refine⟨fun h=>absurd h (by omega),fun _=>⟨fun h=>absurd h (by omega),fun _=>(pj hr hn (by omega)).mono fun ev w1 hh=>?_⟩⟩
  obtain⟨rfl,g1⟩:=hh
  have hmem:=qbt hok
  have bound:∀ p,p<=l.length->0<=de (l.take p)/\de (l.take p)<=4294967295*p:=by
    intro p
    induction p with
    | zero=>intro _;simp[de]
    | succ p ih =>
      intro hp
      have:=ih (by omega)
      have hm:=(hmem _ (List.getElem_mem (show p<l.length by omega))).1
      rw[List.take_succ_eq_append_getElem (by omega),j5]
      have:de [l[p]]=l[p].len:=by simp[de]
      omega
  refine⟨_,rfl,fun h=>absurd (hok.symm.trans h) (by decide),fun _=>⟨⟨by omega,by omega⟩,fun m k x W=>∃ p:Nat,x=(p:Int)/\p<=i/\m=i-p/\k=24+de (l.take p)/\w.grownBy W none,⟨_,0,rfl,by omega,rfl,by simp[de],g1⟩,?_⟩⟩
  rintro m k x W ⟨p,rfl,hp,rfl,rfl,gW⟩
  have tp:(p:Int).toNat=p:=by omega
  rw[tp]
  refine⟨fun hlt=>?_,fun hge=>?_⟩
  · have lp:p<l.length:=by omega
    obtain⟨a,e0,f0,f1,f2⟩:=we (hr.kept_none gW) lp
    have ga:=World.grownBy_alloc W (.cells #[.int .i64 0,.int .i64 0,.int .u32 0] 60) none
    have s0:=heap_alloc_new W (.cells #[.int .i64 0,.int .i64 0,.int .u32 0] 60)
    have s1:=ah s0 0 (.int .i64 l[p].len)
    have s2:=ah s1 1 (.int .i64 l[p].first)
    have s3:=ah s2 2 (.int .u32 l[p].sum)
    have g3:W.grownBy ((((W.alloc (.cells #[.int .i64 0,.int .i64 0,.int .u32 0] 60)).setCell ⟨W.heap.size,0,none⟩ (.int .i64 l[p].len)).setCell ⟨W.heap.size,1,none⟩ (.int .i64 l[p].first)).setCell ⟨W.heap.size,2,none⟩ (.int .u32 l[p].sum)) none:=(iy (iy (iy (Kp.of_none (S:=fun q=>W.heap.size<=q) ga) (Nat.le_refl _)) (Nat.le_refl _)) (Nat.le_refl _)).grown (fun q hq e=>by omega)
    have hb:=bound p (by omega)
    have hm:=(hmem _ (List.getElem_mem lp)).1
    have hone:de [l[p]]=l[p].len:=by simp[de]
    refine⟨a,e0,by omega,by omega,_,f0,_,f1,_,f2,⟨_,aa s0 0⟩,ae s0 0,⟨_,aa s1 1⟩,ae s1 1,⟨_,aa s2 2⟩,ae s2 2,l[p].len,by rw[aa s3 0];rfl,by omega,by omega,i-(p+1),by omega,p+1,by omega,by omega,rfl,?_,ab gW g3⟩
    rw[List.take_succ_eq_append_getElem lp,j5,hone];omega
  · have:p=i:=by omega
    subst this
    exact⟨rfl,gW⟩
theorem qe4{w:World}{A:Option Addr}{n c:Nat}{i:Int}(hi:(n:Int)<=i):
    Calls P 47 #[.slice A n c,.int .i64 i] w fun ev w'=>ev=.returned (.int .i64 0)/\w.grownBy w' none:=by
  apply vc47;dsimp only[VC47,Wt,Br,Bb,Rd,Rc,Rs,Ix,rI_,rB_,rS_]
  exact⟨fun h=>absurd h (by omega),fun _=>⟨fun _=>⟨rfl,af _ _⟩,fun h=>absurd hi h⟩⟩
theorem qkl{w:World}{base:Nat}(hb:base<=w.heap.size){A:Option Addr}{n c:Nat}{xs:List Int}(ho:am w base 5 1 A n c (u8s xs))(hn:n<=2^39):
    ∃(A':Option Addr)(n' c':Nat)(w':World),Sem.run P (Builtin.append_ #[26,9] 26 #[.slice A n c,.string ⟨#[88,71,84,49]⟩]) w=.ok (.slice A' n' c') w'/\am w' base 5 1 A' n' c' (u8s (xs++[88,71,84,49]))/\w.grownBy w' (Value.slice A n c).ownBlock:=by
  obtain⟨i,h1,h2,h3,h4,h5,h6⟩:=qfg.ex
  obtain⟨v',w',r,o,g,_⟩:=Lib.run_append_own_string (P:=P) (w:=w) base 26 9 26 5 i h1 (by kernel_rfl) h2 h3 h4 h5 _ n (u8s xs) ho ⟨#[88,71,84,49]⟩ (by simp only[maxLen];show n+4<=_;omega) (by show n+4<=_;omega) hb
  have hx:u8s xs++Lib.strCells ⟨#[88,71,84,49]⟩=u8s (xs++[88,71,84,49]):=by
    unfold u8s;rw[List.map_append];rfl
  rw[hx]at o
  rcases o.2 with⟨rfl,hz⟩ | ⟨gq,cap,cur,rfl,rest⟩
  · exact⟨none,0,0,w',r,by rw[hz]at o;exact o,g⟩
  · exact⟨_,_,_,w',r,o,g⟩
theorem fv{W:World}{bs n c s:Nat}{ty:TypeId}{A:Option Addr}{xs:List Value}(h:am W bs ty s A n c xs)(e:A=none):c=0:=by
 obtain⟨_,⟨h1,h2,h3⟩ | ⟨g,cur,h1,_⟩⟩:=h.cases
 ·exact h3.1
 ·rw[e]at h1;cases h1
theorem qjv{w:World}{A:Option Addr}{n c:Nat}{l:List ly}(hr:Row w A (iz l))(hn:n=l.length)(hl:l.length<=2^20)(hok:rowsOk l=true)(hN:∀ r∈l,qni r):
    Calls P 38 #[.slice A n c] w fun ev w'=>∃(A':Option Addr)(m k:Nat),ev=.returned (.tuple #[.slice A' m k,.bool true])/\am w' w.heap.size 5 1 A' m k (u8s (oq l))/\w.grownBy w' none:=by
  apply vc38;dsimp only[VC38,Wt,Br,Bb,Rd,Rc,Rs,Ix,rI_,rB_,rS_]
  try simp only[InK]
  refine(pj hr hn (by omega)).mono fun ev w1 hh=>?_
  obtain⟨rfl,g1⟩:=hh
  refine⟨_,rfl,fun h=>absurd (hok.symm.trans h) (by decide),fun _=>?_⟩
  refine⟨fun m B k d i W=>∃ p:Nat,i=(p:Int)/\p<=l.length/\m=l.length-p/\am W w.heap.size 5 1 B k d (u8s ((l.take p).flatMap um))/\w.grownBy W none,⟨_,0,rfl,by omega,rfl,am.nil _ _ _ _,g1⟩,?_⟩
  rintro m B k d i W ⟨p,rfl,hp,rfl,oW,gW⟩
  have tp:(p:Int).toNat=p:=by omega
  rw[tp]
  have hk:k=16*p:=by have h:=oW.cases.1;unfold u8s at h;rw[List.length_map,ks,List.length_take]at h;omega
  have zW:=gW.size
  refine⟨fun hlt=>?_,fun hge=>?_⟩
  · have lp:p<l.length:=by omega
    obtain⟨a,e0,f0,f1,f2⟩:=we (hr.kept_none gW) lp
    obtain⟨q1,q2,q3⟩:=hN _ (List.getElem_mem lp)
    have ga:=World.grownBy_alloc W (.cells #[.int .i64 0,.int .i64 0,.int .u32 0] 60) none
    have s0:=heap_alloc_new W (.cells #[.int .i64 0,.int .i64 0,.int .u32 0] 60)
    have s1:=ah s0 0 (.int .i64 l[p].len)
    have s2:=ah s1 1 (.int .i64 l[p].first)
    have s3:=ah s2 2 (.int .u32 l[p].sum)
    have g3:W.grownBy ((((W.alloc (.cells #[.int .i64 0,.int .i64 0,.int .u32 0] 60)).setCell ⟨W.heap.size,0,none⟩ (.int .i64 l[p].len)).setCell ⟨W.heap.size,1,none⟩ (.int .i64 l[p].first)).setCell ⟨W.heap.size,2,none⟩ (.int .u32 l[p].sum)) none:=(iy (iy (iy (Kp.of_none (S:=fun q=>W.heap.size<=q) ga) (Nat.le_refl _)) (Nat.le_refl _)) (Nat.le_refl _)).grown (fun q hq e=>by omega)
    refine⟨a,e0,by omega,by omega,_,f0,_,f1,_,f2,⟨_,aa s0 0⟩,ae s0 0,⟨_,aa s1 1⟩,ae s1 1,⟨_,aa s2 2⟩,ae s2 2,l[p].len,by rw[aa s3 0];rfl,by omega,?_⟩
    obtain⟨w3,hw3⟩:∃ w3,w3=(((W.alloc (.cells #[.int .i64 0,.int .i64 0,.int .u32 0] 60)).setCell ⟨W.heap.size,0,none⟩ (.int .i64 l[p].len)).setCell ⟨W.heap.size,1,none⟩ (.int .i64 l[p].first)).setCell ⟨W.heap.size,2,none⟩ (.int .u32 l[p].sum):=⟨_,rfl⟩
    have s3':w3.heap[W.heap.size]?=some (.cells #[.int .i64 l[p].len,.int .i64 l[p].first,.int .u32 l[p].sum] 60 (0,0)):=by rw[hw3];exact s3
    rw[← hw3]at g3 ⊢
    have g03:=ab gW g3
    have far:∀ {X X':World} {bs n c:Nat} {A:Option Addr} {xs:List Value},am X bs 5 1 A n c xs->X.heap[W.heap.size]?=some (.cells #[.int .i64 l[p].len,.int .i64 l[p].first,.int .u32 l[p].sum] 60 (0,0))->X.grownBy X' (Value.slice A n c).ownBlock->X'.heap[W.heap.size]?=some (.cells #[.int .i64 l[p].len,.int .i64 l[p].first,.int .u32 l[p].sum] 60 (0,0)):=fun h hb hg=>by
      rw[hg.block _ (Array.getElem?_eq_some_iff.1 hb).1 (fun e=>qda h hb (by decide) e.symm)];exact hb
    have ob:=fun {X:World} {n c:Nat} {A:Option Addr} {xs:List Value} (h:am X w.heap.size 5 1 A n c xs) q (hq:(Value.slice A n c).ownBlock=some q)=>(World.ownsRow.lt h q hq).1
    refine(ql1 (v:=l[p].len) (n:=4) (by omega)).mono fun ev w4 hh=>?_
    obtain⟨A4,n4,c4,rfl,o4,g4⟩:=hh
    have hn4:n4=(ii l[p].len 4).length:=by have:=o4.cases.1;simp at this;omega
    have oW4:=oW.kp (S:=fun _=>False) (Kp.of_none (ab g3 g4)) (fun _ _ e=>e)
    have g04:=ab g03 g4
    obtain⟨A5,n5,c5,w5,r5,o5,g5,e5⟩:=bk oW4 o4.row hn4 (fv o4) (by rw[hk,hn4,bj];omega) g04.size
    have g05:=cu g04 g5 fun q hq=>ob oW4 q hq
    have s5:=far oW4 (ai s3' g4) g5
    refine⟨_,_,_,rfl,A5,n5,c5,w5,r5,l[p].first,aa s5 1,by omega,(ql1 (v:=l[p].first) (n:=8) (by omega)).mono fun ev w6 hh=>?_⟩
    obtain⟨A6,n6,c6,rfl,o6,g6⟩:=hh
    have hn6:n6=(ii l[p].first 8).length:=by have:=o6.cases.1;simp at this;omega
    have o56:=o5.kp (S:=fun _=>False) (Kp.of_none g6) (fun _ _ e=>e)
    have g06:=ab g05 g6
    obtain⟨A7,n7,c7,w7,r7,o7,g7,e7⟩:=bk o56 o6.row hn6 (fv o6) (by rw[e5,hk,hn4,hn6,bj,bj];omega) g06.size
    have g07:=cu g06 g7 fun q hq=>ob o56 q hq
    have s7:=far o56 (ai s5 g6) g7
    refine⟨_,_,_,rfl,A7,n7,c7,w7,r7,l[p].sum,aa s7 2,by omega,(ql1 (v:=l[p].sum) (n:=4) (by omega)).mono fun ev w8 hh=>?_⟩
    obtain⟨A8,n8,c8,rfl,o8,g8⟩:=hh
    have hn8:n8=(ii l[p].sum 4).length:=by have:=o8.cases.1;simp at this;omega
    have o78:=o7.kp (S:=fun _=>False) (Kp.of_none g8) (fun _ _ e=>e)
    have g08:=ab g07 g8
    obtain⟨A9,n9,c9,w9,r9,o9,g9,e9⟩:=bk o78 o8.row hn8 (fv o8) (by rw[e7,e5,hk,hn4,hn6,hn8,bj,bj,bj];omega) g08.size
    have g09:=cu g08 g9 fun q hq=>ob o78 q hq
    refine⟨_,_,_,rfl,A9,n9,c9,w9,r9,by omega,l.length-(p+1),by omega,p+1,by omega,by omega,rfl,?_,g09⟩
    rw[List.take_succ_eq_append_getElem lp,List.flatMap_append]
    have:[l[p]].flatMap um=ii l[p].len 4++(ii l[p].first 8++ii l[p].sum 4):=by simp[um]
    rw[this,← List.append_assoc,← List.append_assoc]
    exact o9
  · have hpe:p=l.length:=by omega
    subst hpe
    rw[List.take_length]at oW
    obtain⟨A5,n5,c5,w5,r5,o5,g5⟩:=qkl gW.size oW (by omega)
    have g05:=cu gW g5 fun q hq=>(World.ownsRow.lt oW q hq).1
    have hP:l.flatMap um++[88,71,84,49]=wg l:=rfl
    rw[hP]at o5
    have hn5:n5=(wg l).length:=by have:=o5.cases.1;simp at this;omega
    refine⟨A5,n5,c5,w5,r5,(wc o5.row hn5 (qhs l) (by rw[uk];omega)).mono fun ev w6 hh=>?_⟩
    obtain⟨A6,n6,c6,rfl,o6,g6⟩:=hh
    exact⟨_,_,_,rfl,A6,n6,c6,rfl,o6.mono g05.size,ab g05 g6⟩
theorem qbz{w:World}{A:Option Addr}{n c:Nat}{l:List Evt}{N k:Int}(hr:Row w A (fh l))(hn:n=l.length)(hl:n<=2^20)(hb:qhi l)(hchk:(jw N l).2=0)(hk:1<=k/\k<=1048576):
    Calls P 31 #[.agg #[.int .u64 N,.slice A n c],.int .i64 k] w fun ev w'=>ev=.returned (.tuple #[su N k l.length,.int .i64 0])/\w.grownBy w' none:=by
  apply vc31;dsimp only[VC31,Wt,Br,Bb,Rd,Rc,Rs,Ix,rI_,rB_,rS_]
  have g1:=World.grownBy_alloc w (.cells #[.int .u64 N,.slice A n c] 25) none
  have b1:(w.alloc (.cells #[.int .u64 N,.slice A n c] 25)).heap[w.heap.size]?=some (.cells #[.int .u64 N,.slice A n c] 25 (0,0)):=heap_alloc_new w _
  obtain⟨w1,hw_w1⟩:∃ w1,w1=w.alloc (.cells #[.int .u64 N,.slice A n c] 25):=⟨_,rfl⟩
  rw[← hw_w1]at g1 b1 ⊢
  have g2:=World.grownBy_alloc w1 (.cells #[.int .u64 0,.int .i64 0,.int .i64 0] 51) none
  have b2:(w1.alloc (.cells #[.int .u64 0,.int .i64 0,.int .i64 0] 51)).heap[w1.heap.size]?=some (.cells #[.int .u64 0,.int .i64 0,.int .i64 0] 51 (0,0)):=heap_alloc_new w1 _
  obtain⟨w2,hw_w2⟩:∃ w2,w2=w1.alloc (.cells #[.int .u64 0,.int .i64 0,.int .i64 0] 51):=⟨_,rfl⟩
  rw[← hw_w2]at g2 b2 ⊢
  have b1':=ai b1 g2
  refine⟨N,aa b1' 0,A,n,c,aa b1' 1,(pp ((hr.kept_none g1).kept_none g2) hn hl hb).mono fun ev w3 hh=>?_⟩
  obtain⟨rfl,g3⟩:=hh
  have b1'':=ai b1' g3
  have b2':=ai b2 g3
  have s1:=ah b2' 0 (.int .u64 N)
  have s2:=ah s1 1 (.int .i64 k)
  have s3:=ah s2 2 (.int .i64 (n:Int))
  have gS:w1.grownBy (((w3.setCell ⟨w1.heap.size,0,none⟩ (.int .u64 N)).setCell ⟨w1.heap.size,1,none⟩ (.int .i64 k)).setCell ⟨w1.heap.size,2,none⟩ (.int .i64 (n:Int))) none:=(iy (iy (iy (Kp.of_none (S:=fun q=>w1.heap.size<=q) (ab g2 g3)) (Nat.le_refl _)) (Nat.le_refl _)) (Nat.le_refl _)).grown (fun q hq e=>by omega)
  refine⟨_,_,rfl,fun h=>absurd hchk h,fun _=>⟨fun h=>absurd h (by omega),fun _=>⟨fun h=>absurd h (by omega),fun _=>⟨N,aa b1'' 0,A,n,c,aa b1'' 1,⟨_,aa b2' 0⟩,ae b2' 0,⟨_,aa s1 1⟩,ae s1 1,⟨_,aa s2 2⟩,ae s2 2,N,by rw[aa s3 0];rfl,k,by rw[aa s3 1];rfl,(n:Int),by rw[aa s3 2];rfl,?_,ab g1 gS⟩⟩⟩⟩
  rw[hn]
theorem qqm:qkp P 52 60 3 (P.bytesOf 60):=⟨(P.info? 60).getD default,((P.info? 60).getD default).zero.getD undef,by kernel_rfl,by kernel_rfl,by kernel_rfl,by kernel_rfl,by kernel_rfl,by kernel_rfl,by decide⟩
theorem qom:P.bytesOf 60<=64:=of_decide_eq_true (by kernel_rfl)
theorem qcq{w:World}{base:Nat}{A:Option Addr}{b:Addr}{n c d:Nat}{xs:List ly}{y:ly}(ho:am w base 60 3 A n c (iz xs))(hB:Row w (some b) (iz [y]))(hn:n+1<=2^39)(hb:base<=w.heap.size):
    ∃ (A':Option Addr) (n' c':Nat) (w':World),Sem.run P (Builtin.append_ #[52,52] 52 #[.slice A n c,.slice (some b) 1 d]) w=.ok (.slice A' n' c') w' ∧
      am w' base 60 3 A' n' c' (iz (xs++[y]))/\w.grownBy w' (Value.slice A n c).ownBlock:=by
  obtain⟨A',n',c',w',h1,h2,h3,h4,_⟩:=ho.appends (ty:=52) qqm qom (a:=b) (m:=1) (cc:=d) (us:=iz [y]) (by rw[gm];rfl) (fun j u hj=>by obtain⟨b,q1,q2⟩:=hB j u hj;cases q1;exact q2) (fun u hu=>by
    simp[iz,rowC]at hu
    rcases hu with rfl | rfl | rfl <;>rfl) (by omega) hb
  exact⟨A',n',c',w',h1,by rw[qej];exact h2,h4⟩
theorem qqk{w:World}{a:Addr}{l:List Evt}(h:Row w (some a) (fh l))(hne:l≠[]){w':World}(hg:w.grownBy w' none):w'.cell? a=some (.int .i64 (t0E l)):=by
 cases l with
 | nil=>exact absurd rfl hne
 | cons e l =>
  obtain⟨b,e1,e2,_⟩:=jm (h.kept_none hg) (show 0<(e ::l).length by simp)
  cases e1
  rw[Nat.zero_mul,add0]at e2
  exact e2
theorem ci.evtsU{N:Int}{l:List Evt}(h:ci N l):qhi l:=fun e he=>by have:=h.mem e he;have:=h.n;omega
theorem ci.chk{N:Int}{l:List Evt}(h:ci N l):(jw N l).2=0:=vk.2 ⟨h.n.2,by have:=h.len;omega,h.ok⟩
theorem ci.after{N:Int}{l:List Evt}(h:ci N l)(k i:Nat):vo N l ((i*k:Nat):Int)=qba l k i:=by
 unfold vo qba
 rw[if_neg (fun e=>e h.chk),show((i*k:Nat):Int).toNat=i*k by omega]
theorem gu{w:World}{A:Option Addr}{n c:Nat}{l:List Evt}{N:Int}{k:Nat}(hr:Row w A (fh l))(hn:n=l.length)(hc:n<=c)(hA:A=none->c=0)(h:ci N l)(hk:1<=k/\k<=1048576):
    Calls P 13 #[.agg #[.int .u64 N,.slice A n c],.int .i64 (k:Int)] w fun ev w'=>∃(A':Option Addr)(n' c':Nat),ev=.returned (.tuple #[.slice A' n' c',.int .i64 0])/\am w' w.heap.size 5 1 A' n' c' (u8s (fx N l k))/\w.grownBy w' none:=by
  apply vc13;dsimp only[VC13,Wt,Br,Bb,Rd,Rc,Rs,Ix,rI_,rB_,rS_]
  try simp only[InK]
  have hl:=h.len
  have g1:=World.grownBy_alloc w (.cells #[.int .u64 N,.slice A n c] 25) none
  have b1:(w.alloc (.cells #[.int .u64 N,.slice A n c] 25)).heap[w.heap.size]?=some (.cells #[.int .u64 N,.slice A n c] 25 (0,0)):=heap_alloc_new w _
  obtain⟨w1,hw_w1⟩:∃ w1,w1=w.alloc (.cells #[.int .u64 N,.slice A n c] 25):=⟨_,rfl⟩
  rw[← hw_w1]at g1 b1 ⊢
  refine⟨N,aa b1 0,A,n,c,aa b1 1,(qbz (hr.kept_none g1) hn (by omega) h.evtsU h.chk (by omega)).mono fun ev w2 hh=>?_⟩
  obtain⟨rfl,g2⟩:=hh
  have hho:ez N k l.length:=by have:=h.n;unfold ez;omega
  have ga:=World.grownBy_alloc w2 (.cells #[.int .u64 0,.int .i64 0,.int .i64 0] 51) none
  have s0:=heap_alloc_new w2 (.cells #[.int .u64 0,.int .i64 0,.int .i64 0] 51)
  have s1:=ah s0 0 (.int .u64 N)
  have s2:=ah s1 1 (.int .i64 (k:Int))
  have s3:=ah s2 2 (.int .i64 (l.length:Int))
  have g3:w2.grownBy ((((w2.alloc (.cells #[.int .u64 0,.int .i64 0,.int .i64 0] 51)).setCell ⟨w2.heap.size,0,none⟩ (.int .u64 N)).setCell ⟨w2.heap.size,1,none⟩ (.int .i64 (k:Int))).setCell ⟨w2.heap.size,2,none⟩ (.int .i64 (l.length:Int))) none:=(iy (iy (iy (Kp.of_none (S:=fun q=>w2.heap.size<=q) ga) (Nat.le_refl _)) (Nat.le_refl _)) (Nat.le_refl _)).grown (fun q hq e=>by omega)
  refine⟨_,_,_,_,rfl,⟨_,aa s0 0⟩,ae s0 0,⟨_,aa s1 1⟩,ae s1 1,⟨_,aa s2 2⟩,ae s2 2,fun e=>absurd rfl e,fun _=>?_⟩
  obtain⟨w3,hw3⟩:∃ w3,w3=(((w2.alloc (.cells #[.int .u64 0,.int .i64 0,.int .i64 0] 51)).setCell ⟨w2.heap.size,0,none⟩ (.int .u64 N)).setCell ⟨w2.heap.size,1,none⟩ (.int .i64 (k:Int))).setCell ⟨w2.heap.size,2,none⟩ (.int .i64 (l.length:Int)):=⟨_,rfl⟩
  have h3:w3.heap[w2.heap.size]?=some (.cells #[.int .u64 N,.int .i64 (k:Int),.int .i64 (l.length:Int)] 51 (0,0)):=by rw[hw3];exact s3
  rw[← hw3]at g3 ⊢
  have b3:=ai (ai b1 g2) g3
  have g03:=ab g1 (ab g2 g3)
  have z03:=g03.size
  refine⟨N,aa h3 0,(k:Int),aa h3 1,(l.length:Int),aa h3 2,(qdj hho).mono fun ev w4 hh=>?_⟩
  obtain⟨A4,n4,c4,rfl,o4,g4⟩:=hh
  have h4:=ai h3 g4
  refine⟨_,_,_,rfl,N,aa h4 0,(k:Int),aa h4 1,(l.length:Int),aa h4 2,(j6 hho).mono fun ev w5 hh=>?_⟩
  obtain⟨rfl,g5⟩:=hh
  rw[uw hk.1]
  obtain⟨m,hm⟩:∃ m,m=lg l.length k:=⟨_,rfl⟩
  rw[← hm]
  have hmn:m<=l.length:=by rw[hm];exact qad hk.1
  refine⟨_,rfl,fun q B d e R s t x W=>∃ p:Nat,x=(p:Int)/\p<=m/\q=m-p/\am W w3.heap.size 5 1 B d e (u8s (ng N k l.length++bx l k p))/\am W w3.heap.size 60 3 R s t (iz (fj l k p))/\w3.grownBy W none,⟨_,0,rfl,by omega,rfl,by simpa[bx]using o4.kp (S:=fun _=>False) (Kp.of_none g5) (fun _ _ e=>e),am.nil _ _ _ _,ab g4 g5⟩,?_⟩
  rintro q B d e R s t x W ⟨p,rfl,hp,rfl,oW,rW,gW⟩
  have zW:=gW.size
  have hblen:(bx l k p).length<=9480*p:=h.bodiesLen hk.1 (by omega)
  have hd:d=24+(bx l k p).length:=by have h':=oW.cases.1;unfold u8s at h';rw[List.length_map,List.length_append,jk]at h';omega
  have hs:s=p:=by have h':=rW.cases.1;rw[gm,dq]at h';omega
  have ob:=fun {X:World} {n c sz:Nat} {ty:TypeId} {A:Option Addr} {xs:List Value} (h:am X w3.heap.size ty sz A n c xs) q (hq:(Value.slice A n c).ownBlock=some q)=>(World.ownsRow.lt h q hq).1
  refine⟨fun hlt=>?_,fun hge=>?_⟩
  · have lp:p<m:=by omega
    have hpk:p*k<l.length:=(gk hk.1).1 (by omega)
    have hpi:(p:Int)*(k:Int)=((p*k:Nat):Int):=by simp
    rw[hpi]
    have tpk:((p*k:Nat):Int).toNat=p*k:=by omega
    rw[tpk]
    have gd:=aj (af W none)
    obtain⟨W0,hW0⟩:∃ W0,W0=W.drew:=⟨_,rfl⟩
    rw[← hW0]at gd ⊢
    have gW0:=ab gW gd
    have hin:∀ X,w3.grownBy X none->X.heap[w.heap.size]?=some (.cells #[.int .u64 N,.slice A n c] 25 (0,0)):=fun X hX=>ai b3 hX
    have hhd:=ai h3 gW0
    have hi2:(p:Int)<((l.length:Int)+(k:Int)-1) / (k:Int):=by rw[uw hk.1];omega
    refine⟨fun X=>w3.grownBy X none,gW0,A,n,c,fun X hX=>aa (hin X hX) 1,by omega,⟨by omega,by omega⟩,N,aa hhd 0,(k:Int),aa hhd 1,(l.length:Int),aa hhd 2,(pk hho (by omega) hi2).mono fun ev W1 hh=>?_⟩
    obtain⟨rfl,gs1⟩:=hh
    have gW1:=ab gW0 gs1
    have hmin:min (k:Int) ((l.length:Int)-(p:Int)*(k:Int))=(((evI l k p).length:Nat):Int):=by rw[hpi,xi];omega
    rw[hmin]
    have hel:(evI l k p).length<=l.length-p*k:=by rw[xi];omega
    refine⟨_,rfl,gW1,⟨by omega,by omega⟩,N,aa (hin W1 gW1) 0,A,n,c,aa (hin W1 gW1) 1,by omega,(xx ((hr.kept_none g03).kept_none gW1) hn hc hA (by omega) h.evtsU).mono fun ev W2 hh=>?_⟩
    obtain⟨A2,n2,c2,rfl,o2,g2'⟩:=hh
    rw[h.after]at o2
    have gW2:=ab gW1 g2'
    have hn2:n2=(qba l k p).length:=by have h':=o2.cases.1;rw[dt]at h';omega
    have rows:=cutV (k:=p*k) ((hr.kept_none g03).kept_none gW2) hA (by omega:l.length<=c)
    have rev:Row W2 (dz A c (p*k) 4) (fh (evI l k p)):=qhl rows.1 k
    have hkl:=h.keyLen (k:=k) (i:=p)
    have hevl:=h.evLen (k:=k) (i:=p)
    have hblk:=h.blk hk.1 hpk
    refine⟨_,_,_,_,rfl,(qcl o2.row hn2 rev rfl (by omega) (by omega) h.edgesB h.evtsB (fun _=>by have:=y9 h.edgesB (by omega:(qba l k p).length<=2^30);omega) (fun _=>by have:=(mr hblk.del).1;omega)).mono fun ev W3 hh=>?_⟩
    obtain⟨A3,n3,c3,rfl,o3,g3'⟩:=hh
    rw[h.err hk.1 hpk,if_pos rfl]at o3
    have gW3:=ab gW2 g3'
    have hbl:=h.blen hk.1 hpk
    have hn3:n3=(ej l k p).length:=by have h':=o3.cases.1;unfold u8s at h';rw[List.length_map]at h';unfold ej;omega
    have o3:am W3 W2.heap.size 5 1 A3 n3 c3 (u8s (ej l k p)):=o3
    refine⟨_,_,_,_,rfl,fun e=>absurd (h.err hk.1 hpk) e,fun _=>?_⟩
    have gs03:=ab gd (ab gs1 (ab g2' g3'))
    have oW3:=oW.kp (S:=fun _=>False) (Kp.of_none gs03) (fun _ _ e=>e)
    have rW3:=rW.kp (S:=fun _=>False) (Kp.of_none gs03) (fun _ _ e=>e)
    obtain⟨A4',n4',c4',W4,r4,o4',g4',e4⟩:=bk oW3 o3.row hn3 (fv o3) (by omega) gW3.size
    have rne:∀ q,(Value.slice R s t).ownBlock=some q->(Value.slice B d e).ownBlock≠some q:=fun q hq=>by
      obtain⟨cur,hcur⟩:=rW3.block_type q hq
      exact qda oW3 hcur (by decide)
    have gW4:=cu gW3 g4' fun q hq=>ob oW3 q hq
    have rW4:=rW3.kp (Kp.of_grown g4') (fun q hq e=>rne q hq e.symm)
    have gd4:=aj (af W4 none)
    obtain⟨W5,hW5⟩:∃ W5,W5=W4.drew:=⟨_,rfl⟩
    have gW5:w3.grownBy W5 none:=by rw[hW5];exact ab gW4 gd4
    have rev3:Row w3 (dz A c (p*k) 4) (fh (evI l k p)):=qhl (cutV (k:=p*k) (hr.kept_none g03) hA (by omega:l.length<=c)).1 k
    obtain⟨a68,ea⟩:∃ a,dz A c (p*k) 4=some a:=by
      have hne:=qmj (l:=l) hk.1 hpk
      have hpos:0<(evI l k p).length:=List.length_pos_iff.2 hne
      obtain⟨a,e1,_⟩:=jm rev3 hpos
      exact⟨a,e1⟩
    have hne:=qmj (l:=l) hk.1 hpk
    have hpos:0<(evI l k p).length:=List.length_pos_iff.2 hne
    rw[ea]at rev3
    have o34:am W4 W2.heap.size 5 1 A3 n3 c3 (u8s (ej l k p)):=o3.kp (Kp.of_grown g4') (fun q hq e=>by
      have h1:=(World.ownsRow.lt o3 q hq).1
      have h2:=oW.block_lt q e.symm
      have h3':=(ab gd (ab gs1 g2')).size
      omega)
    have gA:=World.grownBy_alloc W5 (.cells #[.slice A3 n3 c3] 26) none
    have rA:Row (W5.alloc (.cells #[.slice A3 n3 c3] 26)) (some ⟨W5.heap.size,0,none⟩) [.slice A3 n3 c3]:=wh W5 #[.slice A3 n3 c3] 26
    have g45:W4.grownBy W5 none:=by rw[hW5];exact gd4
    have o35:=o34.kp (S:=fun _=>False) (Kp.of_none (ab g45 gA)) (fun _ _ e=>e)
    refine⟨A4',n4',c4',W4,r4,fun X=>w3.grownBy X none,ab gW4 gd4,a68,ea,by omega,by show(0:Int)<(((evI l k p).length:Nat):Int);omega,t0E (evI l k p),fun X hX=>qqk rev3 hne hX,?_⟩
    rw[← hW5]
    have gW6:=ab gW5 gA
    refine⟨gW6,(pt rA o35.row hn3 h.bodyBy (by omega)).mono fun ev W6 hh=>?_⟩
    obtain⟨rfl,rfl⟩:=hh
    have gB:=World.grownBy_alloc (W5.alloc (.cells #[.slice A3 n3 c3] 26)) (.cells #[.int .i64 (n3:Int),.int .i64 (t0E (evI l k p)),.int .u32 (qg1 (ej l k p))] 60) none
    have rB:=wh (W5.alloc (.cells #[.slice A3 n3 c3] 26)) #[.int .i64 (n3:Int),.int .i64 (t0E (evI l k p)),.int .u32 (qg1 (ej l k p))] 60
    obtain⟨W6,hW6⟩:∃ W6,W6=W5.alloc (.cells #[.slice A3 n3 c3] 26):=⟨_,rfl⟩
    rw[← hW6]at gB rB gW6 gA ⊢
    obtain⟨W7,hW7⟩:∃ W7,W7=W6.alloc (.cells #[.int .i64 (n3:Int),.int .i64 (t0E (evI l k p)),.int .u32 (qg1 (ej l k p))] 60):=⟨_,rfl⟩
    rw[← hW7]at gB rB
    have gW7:=ab gW6 gB
    have rB':Row W7 (some ⟨W6.heap.size,0,none⟩) (iz [vq l k p]):=by
      have:iz [vq l k p]=[.int .i64 (n3:Int),.int .i64 (t0E (evI l k p)),.int .u32 (qg1 (ej l k p))]:=by simp[iz,rowC,vq,hn3]
      rw[this];exact rB
    have g47:=ab g45 (ab gA gB)
    have rW7:=rW4.kp (S:=fun _=>False) (Kp.of_none g47) (fun _ _ e=>e)
    have oW7:=o4'.kp (S:=fun _=>False) (Kp.of_none g47) (fun _ _ e=>e)
    obtain⟨R',s',t',W8,r8,o8,g8⟩:=qcq (d:=1) rW7 rB' (by omega) gW7.size
    have gW8:=cu gW7 g8 fun q hq=>ob rW7 q hq
    have oW8:=oW7.kp (Kp.of_grown g8) (fun q hq e=>by
      obtain⟨cur,hcur⟩:=oW7.block_type q hq
      exact qda rW7 hcur (by decide) e.symm)
    refine⟨_,rfl,gW6,?_⟩
    rw[← hW7]
    refine⟨gW7,R',s',t',W8,r8,gW8,by omega,m-(p+1),by omega,p+1,by omega,by omega,rfl,?_,?_,gW8⟩
    · rw[fp,← List.append_assoc];exact oW8
    · rw[qr];exact o8
  · have hpm:p=m:=by omega
    subst hpm
    have hR:∀ r∈fj l k p,qni r:=fun r hr=>by
      unfold fj at hr
      obtain⟨i,hi,rfl⟩:=List.mem_map.1 hr
      exact h.rowN hk.1 ((gk hk.1).1 (by rw[← hm];simpa using hi))
    refine(qjv rW.row (by rw[dq];exact hs) (by rw[dq];omega) (h.rowsOk hk.1 (by omega)) hR).mono fun ev W1 hh=>?_
    obtain⟨A5,n5,c5,rfl,o5,g5'⟩:=hh
    have oW1:=oW.kp (S:=fun _=>False) (Kp.of_none g5') (fun _ _ e=>e)
    have gW1:=ab gW g5'
    have hn5:n5=(oq (fj l k p)).length:=by have h':=o5.cases.1;unfold u8s at h';rw[List.length_map]at h';omega
    obtain⟨A6,n6,c6,W2,r6,o6,g6,_⟩:=bk oW1 o5.row hn5 (fv o5) (by rw[hn5,om,dq];omega) gW1.size
    have gW2:=cu gW1 g6 fun q hq=>ob oW1 q hq
    refine⟨_,_,_,_,rfl,A6,n6,c6,W2,r6,A6,n6,c6,rfl,?_,ab g03 gW2⟩
    rw[List.append_assoc]at o6
    have hfile:fx N l k=ng N k l.length++(bx l k p++oq (fj l k p)):=by unfold fx;rw[← hm]
    rw[hfile]
    exact o6.mono z03
end Go.Proofs.YtlieaecnllkefaaGreat

/- Own texts, packed: W6, W7, W8, W9. -/
import Derived.Test.YtdlomlmijdifbaaGreatDoorGWAg
import Derived.Test.YtdlomlmijdifbaaGreatDoorGIg
import Derived.Lib.AppendStr
import Derived.Test.YtdlomlmijdifbaaGreatDoorGTg
import Derived.Test.YtdlomlmijdifbaaGreatDoorGRg
set_option linter.unusedVariables false
set_option linter.unusedSimpArgs false
set_option maxHeartbeats 8000000
set_option maxRecDepth 100000
namespace Go.Proofs.YtdlomlmijdifbaaGreatDoor
open Go Go.V Go.RowKit
theorem mnI(u v:Int):mn u v=min u v:=by unfold mn;split <;>omega
abbrev pZ(N K C:Int):Value:=.agg #[.int .u64 N,.int .i64 K,.int .i64 C]
theorem lU{w:World}{N K C:Int}:Calls P 106 #[pZ N K C] w fun ev w'=>ev=.returned (.bool (decide (dX N K C)))/\w.grownBy w' none:=by
 apply vc106;dsimp only[VC106,rb,Br,Rd,nb,iq];obtain⟨w1,DX,g1,b1⟩:=bZ w #[.int .u64 N,.int .i64 K,.int .i64 C] 113;rw[← DX];have key:dX N K C↔N<=4294967296/\1<=K/\K<=1048576/\0<=C/\C<=2147483648:=Iff.rfl;refine⟨N,aA b1 0,fun h1=>⟨K,aA b1 1,fun h2=>⟨K,aA b1 1,fun h3=>⟨C,aA b1 2,fun h4=>⟨C,aA b1 2,?_,g1⟩,fun h4=>⟨?_,g1⟩⟩,fun h3=>⟨?_,g1⟩⟩,fun h2=>⟨?_,g1⟩⟩,fun h1=>⟨?_,g1⟩⟩
 ·rw[decide_eq_decide.2 (show C<=2147483648↔dX N K C by rw[key];omega)]
 all_goals rw[decide_eq_false (by rw[key];omega)]
theorem qW{w:World}{N K C:Int}(h:dX N K C):Calls P 107 #[pZ N K C] w fun ev w'=>ev=.returned (.int .i64 ((C+K-1) / K))/\w.grownBy w' none:=by
 apply vc107;dsimp only[VC107,Br,Rd,cB,nb,iq]
 try simp only[aI]
 obtain⟨w1,DX,g1,b1⟩:=bZ w #[.int .u64 N,.int .i64 K,.int .i64 C] 113;rw[← DX];refine⟨N,aA b1 0,K,aA b1 1,C,aA b1 2,lU.mono fun ev w2 hh=>?_⟩;obtain⟨rfl,g2⟩:=hh;have b2:=aE b1 g2;have hk:=h;unfold dX at hk;have hd:0<=(C+K-1) / K:=Int.ediv_nonneg (by omega) (by omega);have LW:(C+K-1) / K<=C+K-1:=Int.ediv_le_self _ (by omega);refine⟨_,rfl,fun hf=>absurd h (of_decide_eq_false hf),fun _=>⟨C,aA b2 2,K,aA b2 1,by omega,by omega,K,aA b2 1,⟨by omega,by omega,by omega⟩,rfl,aB g1 g2⟩⟩
theorem xQ{w:World}{base:Nat}(hb:base<=w.heap.size){A:Addr}{B:OA}{n c m d:Nat}{xs ys:List Int}(hA:bC w (some A) (bY xs))(hn:n=xs.length)(hB:bC w B (bY ys))(hm:m=ys.length)(hy:0<m)(hc:c<n+m)(hl:n+m<=2^39):
    ∃ (A':OA) (n' c':Nat) (w':World),Sem.run P (Builtin.append_ #[22,22] 22 #[.slice (some A) n c,.slice B m d]) w=.ok (.slice A' n' c') w' ∧
      aD w' base 5 1 A' n' c' (bY (xs++ys))/\w.grownBy w' none:=by
  obtain⟨i,h1,h2,h3,h4,h5,h6⟩:=sK.ex;have J9:0<ys.length:=by omega
  obtain⟨a,rfl⟩:∃ a,B=some a:=by
    obtain⟨a,e,_⟩:=hB 0 (.int .u8 ys[0]) (by rw[List.getElem?_map,List.getElem?_eq_getElem J9];rfl);exact⟨a,e⟩
  have FO:Builtin.nextslicecap (n+m) c*i.bytes<=281474976710656:=by
    rw[h5];have:=nextslicecap_le hc;omega
  have hr:=run_append_grow (P:=P) (w:=w) 22 22 5 i (.int .u8 0) h1 h2 h3 A n c (bY xs) (by rw[h4];simp[hn]) (fun j v hj=>by obtain⟨b,q1,q2⟩:=hA j v hj;cases q1;exact q2) a m d (bY ys) (by rw[h4];simp[hm]) (fun j v hj=>by obtain⟨b,q1,q2⟩:=hB j v hj;cases q1;exact q2) hc (by omega) FO;refine⟨_,_,_,_,hr,?_,?_⟩
  · have DR:=grownCap_ge w (n+m) c 5;have Ev:=grownCap_le_maxLen w (n+m) c 5 (by simp only[maxLen];omega);refine aD.of_block (by exact hb) (heap_alloc_new w.drew _) DR Ev ?_ (by simp[hn,hm]) ?_
    · rw[h6];simp[size_zeroCells,← hn,← hm];omega
    · simp only[Array.toList_append,List.append_assoc];rw[← List.append_assoc,List.take_left' (by simp[hn,hm])];simp
  · exact aB (aG (aF w none)) (World.grownBy_alloc w.drew _ none)
def CJ(r:dI):List Value:=[.int .i64 r.len,.int .i64 r.first,.int .u32 r.sum]
def dH(l:List dI):List Value:=l.flatMap CJ
theorem lN(l:List dI):(dH l).length=l.length*3:=by
 induction l with
 | nil=>rfl
 | cons e l ih=>simp[dH,CJ]at ih ⊢;omega
theorem rT:∀ {l:List dI} {i:Nat} (h:i<l.length),(dH l)[i*3]?=some (.int .i64 l[i].len)/\(dH l)[i*3+1]?=some (.int .i64 l[i].first)/\(dH l)[i*3+2]?=some (.int .u32 l[i].sum)
 | e ::l,0,_=>by simp[dH,CJ]
 | e ::l,i+1,h=>by
  have ih:=rT (l:=l) (i:=i) (by simpa using h);rw[show(i+1)*3=i*3+1+1+1 by omega];exact ih
theorem tM(l m:List dI):dH (l++m)=dH l++dH m:=by simp[dH]
theorem lM{w:World}{A:OA}{l:List dI}(h:bC w A (dH l)){j:Nat}(hj:j<l.length):∃ a,A=some a/\w.cell? (a.add (j*3))=some (.int .i64 l[j].len)/\w.cell? (Addr.add (a.add (j*3)) 1)=some (.int .i64 l[j].first)/\w.cell? (Addr.add (a.add (j*3)) 2)=some (.int .u32 l[j].sum):=by
 obtain⟨h1,h2,h3⟩:=rT hj;obtain⟨a,e0,f0⟩:=h _ _ h1;obtain⟨a1,e1,f1⟩:=h _ _ h2;obtain⟨a2,e2,f2⟩:=h _ _ h3;rw[e0]at e1 e2;cases e1;cases e2;exact⟨a,e0,f0,by rw[eV];exact f1,by rw[eV];exact f2⟩
theorem lS{w:World}{A:OA}{n c:Nat}{l:List dI}(hr:bC w A (dH l))(hn:n=l.length)(hl:l.length<=2^40):
    Calls P 109 #[.slice A n c] w fun ev w'=>ev=.returned (.bool (kO l))/\w.grownBy w' none:=by
  apply vc109;dsimp only[VC109,rb,Wt,Br,Rd,Ix,Ws,nb,ad,al,iq]
  try simp only[aI]
  refine⟨fun m last i W=>∃ p:Nat,i=(p:Int)/\p<=l.length/\m=l.length-p/\jO last (l.drop p)=kO l/\w.grownBy W none,⟨_,0,rfl,by omega,rfl,rfl,aF _ _⟩,?_⟩;rintro m last i W ⟨p,rfl,hp,rfl,hg,gW⟩;have tp:(p:Int).toNat=p:=by omega
  rw[tp];refine⟨fun DL=>?_,fun DR=>?_⟩
  · have lp:p<l.length:=by omega
    obtain⟨a,e0,f0,f1,f2⟩:=lM (hr.kept_none gW) lp;have ga:=World.grownBy_alloc W (.cells #[.int .i64 0,.int .i64 0,.int .u32 0] 118) none;have s0:=heap_alloc_new W (.cells #[.int .i64 0,.int .i64 0,.int .u32 0] 118);have s1:=aH s0 0 (.int .i64 l[p].len);have s2:=aH s1 1 (.int .i64 l[p].first);have s3:=aH s2 2 (.int .u32 l[p].sum);have g3:W.grownBy ((((W.alloc (.cells #[.int .i64 0,.int .i64 0,.int .u32 0] 118)).setCell ⟨W.heap.size,0,none⟩ (.int .i64 l[p].len)).setCell ⟨W.heap.size,1,none⟩ (.int .i64 l[p].first)).setCell ⟨W.heap.size,2,none⟩ (.int .u32 l[p].sum)) none:=(dW (dW (dW (Kp.of_none (S:=fun q=>W.heap.size<=q) ga) (Nat.le_refl _)) (Nat.le_refl _)) (Nat.le_refl _)).grown (fun q hq e=>by omega);have Ec:=aB gW g3;rw[List.drop_eq_getElem_cons lp]at hg;unfold jO at hg;have bad:¬ (1<=l[p].len/\l[p].len<=4294967295/\last<=l[p].first/\l[p].first<=4611686018427387903)->kO l=false:=fun h=>by rw[← hg,decide_eq_false h];rfl
    refine⟨a,e0,by omega,by omega,_,f0,_,f1,_,f2,⟨_,aA s0 0⟩,aC s0 0,⟨_,aA s1 1⟩,aC s1 1,⟨_,aA s2 2⟩,aC s2 2,l[p].len,by rw[aA s3 0];rfl,fun h1=>⟨by rw[bad (by omega)],Ec⟩,fun h1=>⟨l[p].len,by rw[aA s3 0];rfl,fun h2=>⟨by rw[bad (by omega)],Ec⟩,fun h2=>⟨l[p].first,by rw[aA s3 1];rfl,fun h3=>⟨by rw[bad (by omega)],Ec⟩,fun h3=>⟨l[p].first,by rw[aA s3 1];rfl,fun h4=>⟨by rw[bad (by omega)],Ec⟩,fun h4=>⟨l[p].first,by rw[aA s3 1];rfl,by omega,l.length-(p+1),by omega,p+1,by omega,by omega,rfl,?_,Ec⟩⟩⟩⟩⟩;rw[← hg,decide_eq_true ⟨by omega,by omega,by omega,by omega⟩,Bool.true_and]
  · have:p=l.length:=by omega
    subst this;rw[List.drop_length]at hg;exact⟨by rw[← hg];rfl,gW⟩
theorem Am{w:World}{base:Nat}(hb:base<=w.heap.size){A:OA}{n c:Nat}{xs:List Int}(ho:aD w base 5 1 A n c (bY xs))(hn:n<=2^39):
    ∃(A':OA)(n' c':Nat)(w':World),Sem.run P (Builtin.append_ #[22,9] 22 #[.slice A n c,.string ⟨#[88,71,84,49]⟩]) w=.ok (.slice A' n' c') w'/\aD w' base 5 1 A' n' c' (bY (xs++[88,71,84,49]))/\w.grownBy w' (Value.slice A n c).ownBlock:=by
  obtain⟨i,h1,h2,h3,h4,h5,h6⟩:=sK.ex;obtain⟨v',w',r,o,g,_⟩:=Lib.run_append_own_string (P:=P) (w:=w) base 22 9 22 5 i h1 (by kernel_rfl) h2 h3 h4 h5 _ n (bY xs) ho ⟨#[88,71,84,49]⟩ (by simp only[maxLen];show n+4<=_;omega) (by show n+4<=_;omega) hb;have hx:bY xs++Lib.strCells ⟨#[88,71,84,49]⟩=bY (xs++[88,71,84,49]):=by
    unfold bY;rw[List.map_append];rfl
  rw[hx]at o;rcases o.2 with⟨rfl,hz⟩ | ⟨gq,cap,cur,rfl,rest⟩
  · exact⟨none,0,0,w',r,by rw[hz]at o;exact o,g⟩
  · exact⟨_,_,_,w',r,o,g⟩
theorem dE{W:World}{bs n c s:Nat}{ty:TypeId}{A:OA}{xs:List Value}(h:aD W bs ty s A n c xs)(e:A=none):c=0:=by
 obtain⟨_,⟨h1,h2,h3⟩ | ⟨g,cur,h1,_⟩⟩:=h.cases
 ·exact h3.1
 ·rw[e]at h1;cases h1
theorem C3:kL P 114 118 3 (P.bytesOf 118):=⟨(P.info? 118).getD default,((P.info? 118).getD default).zero.getD undef,by kernel_rfl,by kernel_rfl,by kernel_rfl,by kernel_rfl,by kernel_rfl,by kernel_rfl,by decide⟩
theorem bytesRow:P.bytesOf 118<=64:=of_decide_eq_true (by kernel_rfl)
theorem Al{w:World}{base:Nat}{A:OA}{b:Addr}{n c d:Nat}{xs:List dI}{y:dI}(ho:aD w base 118 3 A n c (dH xs))(hB:bC w (some b) (dH [y]))(hn:n+1<=2^39)(hb:base<=w.heap.size):
    ∃ (A':OA) (n' c':Nat) (w':World),Sem.run P (Builtin.append_ #[114,114] 114 #[.slice A n c,.slice (some b) 1 d]) w=.ok (.slice A' n' c') w' ∧
      aD w' base 118 3 A' n' c' (dH (xs++[y]))/\w.grownBy w' (Value.slice A n c).ownBlock:=by
  obtain⟨A',n',c',w',h1,h2,h3,h4,_⟩:=ho.appends (ty:=114) C3 bytesRow (a:=b) (m:=1) (cc:=d) (us:=dH [y]) (by rw[lN];rfl) (fun j u hj=>by obtain⟨b,q1,q2⟩:=hB j u hj;cases q1;exact q2) (fun u hu=>by
    simp[dH,CJ]at hu;rcases hu with rfl | rfl | rfl <;>rfl) (by omega) hb
  exact⟨A',n',c',w',h1,by rw[tM];exact h2,h4⟩
end Go.Proofs.YtdlomlmijdifbaaGreatDoor

/- Own texts, packed: N1, N2, N3, N4, N5, N6, N7, N8, N9, N10, N11. -/
import Derived.Test.YtlieaecnllkefaaGreatGFg
import Derived.Laws.StructEq
import Derived.ChangeKeysEq
import Derived.Test.YtlieaecnllkefaaGreatGYg
import Derived.Test.YtlieaecnllkefaaGreatGCg
import Derived.Test.YtlieaecnllkefaaGreatGIg
set_option linter.unusedVariables false
set_option linter.unusedSimpArgs false
set_option maxHeartbeats 4000000
set_option maxRecDepth 100000
namespace Go.Proofs.YtlieaecnllkefaaGreat
open Go Go.V Go.RowKit
theorem yB(a b c e:Int)(w:World):(Op.equalIn 10000 45 (.agg #[.int .u32 a,.int .u32 b]) (.agg #[.int .u32 c,.int .u32 e])).run P w=.ok (decide (a=c/\b=e)) w:=by
 rw[run_equalIn_struct w 9999 45 _ _ (by kernel_rfl) (by kernel_rfl)];obtain ⟨f, g, I4, I7, I6, I5, E5, DR, D9⟩ : ∃ f g : Field, (P.fieldsOf 45).toList = [f, g] ∧ f.name = "U" ∧ f.type = 43 ∧ f.offset = 0 ∧ g.name = "V" ∧ g.type = 43 ∧ g.offset = 1 :=
  ⟨((P.fieldsOf 45).toList)[0]!,((P.fieldsOf 45).toList)[1]!,by kernel_rfl,by kernel_rfl,by kernel_rfl,by kernel_rfl,by kernel_rfl,by kernel_rfl,by kernel_rfl⟩
 rw[I4];have hu:P.underlying 43=some (.int .u32):=by kernel_rfl
 have hp:P.plainKey 43=true:=by kernel_rfl
 have e1:∀(x y:Int)(w:World),(part 43 #[.int .u32 x,.int .u32 y] 0).run P w=.ok (.int .u32 x) w:=fun x y w=>run_part_plain w hp rfl;have e2:∀(x y:Int)(w:World),(part 43 #[.int .u32 x,.int .u32 y] 1).run P w=.ok (.int .u32 y) w:=fun x y w=>run_part_plain w hp rfl;have q:∀(x y:Int)(w:World),(Op.equalIn 9999 43 (.int .u32 x) (.int .u32 y)).run P w=.ok (x ==y) w:=fun x y w=>run_equalIn_int w 9998 _ _ _ _ _ hu;simp only[Op.eqFields,I7,I6,I5,E5,DR,D9,Sem.run_bind,Sem.run_ite,e1,e2,q,Result.andThen_ok];by_cases h1:a=c
 ·by_cases h2:b=e
  ·simp[h1,h2]
  ·simp[h1,h2]
 ·simp[h1]
theorem y5(s t:Operand)(a b c e:Int)(w:World):Sem.run P (do eqGuard .eql 45 s t (.agg #[.int .u32 a,.int .u32 b]) (.agg #[.int .u32 c,.int .u32 e]);Go.binOp .eql 45 (.agg #[.int .u32 a,.int .u32 b]) (.agg #[.int .u32 c,.int .u32 e]):Sem Value) w=.ok (.bool (decide (a=c/\b=e))) w:=by
 rw[Sem.run_bind,run_eqGuard_agg w .eql 45 s t _ _ (by kernel_rfl),Result.andThen_ok,run_eql_struct w,yB];rfl
abbrev Edge:=Int×Int
def jW(e:Edge):List Value:=[.int .u32 e.1,.int .u32 e.2]
def edges(l:List Edge):List Value:=l.flatMap jW
theorem vj(l m:List Edge):edges (l++m)=edges l++edges m:=by simp[edges]
theorem dA(l:List Edge):(edges l).length=l.length*2:=by
 induction l with
 | nil=>rfl
 | cons e l ih=>simp[edges,jW]at ih ⊢;omega
theorem uj:∀ {l:List Edge} {i:Nat} (h:i<l.length),(edges l)[i*2]?=some (.int .u32 l[i].1)/\(edges l)[i*2+1]?=some (.int .u32 l[i].2)
 | e ::l,0,_=>by simp[edges,jW]
 | e ::l,i+1,h=>by
  have ih:=uj (l:=l) (i:=i) (by simpa using h);rw[show(i+1)*2=i*2+1+1 by omega];exact ih
theorem yE(l:List Edge)(k:Nat):(edges l).drop (k*2)=edges (l.drop k):=by
 induction k generalizing l with
 | zero=>simp
 | succ k ih =>
  cases l with
  | nil=>simp[edges]
  | cons e l=>rw[show(k+1)*2=k*2+1+1 by omega];exact ih l
theorem yD(l:List Edge)(k:Nat):(edges l).take (k*2)=edges (l.take k):=by
 induction k generalizing l with
 | zero=>simp[edges]
 | succ k ih =>
  cases l with
  | nil=>simp[edges]
  | cons e l =>
   rw[show(k+1)*2=k*2+1+1 by omega];show List.take (k*2+1+1) (.int .u32 e.1 ::.int .u32 e.2 ::edges l)=.int .u32 e.1 ::.int .u32 e.2 ::edges (List.take k l);rw[List.take_succ_cons,List.take_succ_cons,ih]
structure aU where
 t:Int
 u:Int
 v:Int
 add:Bool
deriving DecidableEq
def CO(e:aU):List Value:=[.int .i64 e.t,.int .u32 e.u,.int .u32 e.v,.bool e.add]
def cw(l:List aU):List Value:=l.flatMap CO
theorem dg(l:List aU):(cw l).length=l.length*4:=by
 induction l with
 | nil=>rfl
 | cons e l ih=>simp[cw,CO]at ih ⊢;omega
theorem wH:∀ {l:List aU} {i:Nat} (h:i<l.length),(cw l)[i*4]?=some (.int .i64 l[i].t)/\(cw l)[i*4+1]?=some (.int .u32 l[i].u)/\(cw l)[i*4+2]?=some (.int .u32 l[i].v)/\(cw l)[i*4+3]?=some (.bool l[i].add)
 | e ::l,0,_=>by simp[cw,CO]
 | e ::l,i+1,h=>by
  have ih:=wH (l:=l) (i:=i) (by simpa using h);rw[show(i+1)*4=i*4+1+1+1+1 by omega];exact ih
abbrev gl(e:Edge):Value:=.agg #[.int .u32 e.1,.int .u32 e.2]
abbrev evtV(e:aU):Value:=.agg #[.int .i64 e.t,.int .u32 e.u,.int .u32 e.v,.bool e.add]
def aK(a b:Edge):Bool:=decide (a.1<b.1∨a.1=b.1/\a.2<b.2)
def bC(a b:aU):Bool:=decide (a.t<b.t) || (decide (a.t=b.t) && aK (a.u,a.v) (b.u,b.v))
def eu(l:List Edge):Bool:=(List.range (l.length-1)).all fun i=>aK (l.getD i (0,0)) (l.getD (i+1) (0,0))
theorem m6{w:World}(a b:Edge):Calls P 58 #[gl a,gl b] w fun ev w'=>ev=.returned (.bool (aK a b))/\w.grownBy w' none:=by
 apply vc58;dsimp only[VC58,rb,Br,Rd,nb];have g1:=World.grownBy_alloc w (.cells #[.int .u32 a.1,.int .u32 a.2] 45) none;have b1:(w.alloc (.cells #[.int .u32 a.1,.int .u32 a.2] 45)).heap[w.heap.size]?=some (.cells #[.int .u32 a.1,.int .u32 a.2] 45 (0,0)):=heap_alloc_new w _;obtain⟨w1,Ez⟩:∃ w1,w1=w.alloc (.cells #[.int .u32 a.1,.int .u32 a.2] 45):=⟨_,rfl⟩;rw[← Ez]at g1 b1 ⊢;have g2:=World.grownBy_alloc w1 (.cells #[.int .u32 b.1,.int .u32 b.2] 45) none;have b2:(w1.alloc (.cells #[.int .u32 b.1,.int .u32 b.2] 45)).heap[w1.heap.size]?=some (.cells #[.int .u32 b.1,.int .u32 b.2] 45 (0,0)):=heap_alloc_new w1 _;obtain⟨w2,FM⟩:∃ w2,w2=w1.alloc (.cells #[.int .u32 b.1,.int .u32 b.2] 45):=⟨_,rfl⟩;rw[← FM]at g2 b2 ⊢;have b1':w2.heap[w.heap.size]?=some (.cells #[.int .u32 a.1,.int .u32 a.2] 45 (0,0)):=by rw[g2.block _ (Array.getElem?_eq_some_iff.1 b1).1 (by simp)];exact b1
 have g:=aB g1 g2;refine⟨_,aA b1' 0,_,aA b2 0,fun h=>⟨?_,g⟩,fun h=>⟨_,aA b1' 0,_,aA b2 0,fun h2=>⟨_,aA b1' 1,_,aA b2 1,?_,g⟩,fun h2=>⟨?_,g⟩⟩⟩
 ·have:aK a b=true:=by unfold aK;exact decide_eq_true (.inl h)
  rw[this]
 ·congr 2;unfold aK;rw[decide_eq_decide];omega
 ·have:aK a b=false:=by unfold aK;exact decide_eq_false (by omega)
  rw[this]
theorem vp{w:World}(a b:aU):Calls P 55 #[evtV a,evtV b] w fun ev w'=>ev=.returned (.bool (bC a b))/\w.grownBy w' none:=by
 apply vc55;dsimp only[VC55,rb,Br,Rd,cB,nb,iq];have g1:=World.grownBy_alloc w (.cells #[.int .i64 a.t,.int .u32 a.u,.int .u32 a.v,.bool a.add] 62) none;have b1:(w.alloc (.cells #[.int .i64 a.t,.int .u32 a.u,.int .u32 a.v,.bool a.add] 62)).heap[w.heap.size]?=some (.cells #[.int .i64 a.t,.int .u32 a.u,.int .u32 a.v,.bool a.add] 62 (0,0)):=heap_alloc_new w _;obtain⟨w1,Ez⟩:∃ w1,w1=w.alloc (.cells #[.int .i64 a.t,.int .u32 a.u,.int .u32 a.v,.bool a.add] 62):=⟨_,rfl⟩;rw[← Ez]at g1 b1 ⊢;have g2:=World.grownBy_alloc w1 (.cells #[.int .i64 b.t,.int .u32 b.u,.int .u32 b.v,.bool b.add] 62) none;have b2:(w1.alloc (.cells #[.int .i64 b.t,.int .u32 b.u,.int .u32 b.v,.bool b.add] 62)).heap[w1.heap.size]?=some (.cells #[.int .i64 b.t,.int .u32 b.u,.int .u32 b.v,.bool b.add] 62 (0,0)):=heap_alloc_new w1 _;obtain⟨w2,FM⟩:∃ w2,w2=w1.alloc (.cells #[.int .i64 b.t,.int .u32 b.u,.int .u32 b.v,.bool b.add] 62):=⟨_,rfl⟩;rw[← FM]at g2 b2 ⊢;have b1':w2.heap[w.heap.size]?=some (.cells #[.int .i64 a.t,.int .u32 a.u,.int .u32 a.v,.bool a.add] 62 (0,0)):=by rw[g2.block _ (Array.getElem?_eq_some_iff.1 b1).1 (by simp)];exact b1
 have g:=aB g1 g2;refine⟨_,aA b1' 0,_,aA b2 0,fun h=>⟨?_,g⟩,fun h=>⟨_,aA b1' 0,_,aA b2 0,fun h2=>⟨_,aA b1' 1,_,aA b1' 2,_,aA b2 1,_,aA b2 2,?_⟩,fun h2=>⟨?_,g⟩⟩⟩
 ·congr 2;simp[bC,h]
 ·refine(m6 (a.u,a.v) (b.u,b.v)).mono fun ev w3 hh=>?_;obtain⟨rfl,g3⟩:=hh;refine⟨_,rfl,?_,aB g g3⟩;congr 2;simp[bC,h,h2]
 ·congr 2;simp[bC,h,h2]
theorem fz{w:World}{A:OA}{l:List Edge}(h:bB w A (edges l)){j:Nat}(hj:j<l.length):∃ a,A=some a/\w.cell? (a.add (j*2))=some (.int .u32 l[j].1)/\w.cell? ((a.add (j*2)).add 1)=some (.int .u32 l[j].2):=by
 obtain⟨h1,h2⟩:=uj hj;obtain⟨a,e1,e2⟩:=h _ _ h1;obtain⟨a',e3,e4⟩:=h _ _ h2;rw[e1]at e3;cases e3;exact⟨a,e1,e2,by rw[eL];exact e4⟩
theorem uF {w:World} {A:OA} {n c:Nat} {l:List Edge} (hr:bB w A (edges l)) (hn:n=l.length) (hl:n<=2^40):Calls P 57 #[.slice A n c] w fun ev w'=>ev=.returned (.bool (eu l))/\w.grownBy w' none:=by
  apply vc57;dsimp only[VC57,rb,Br,Rd,Ix,cB,ad,al]
  try simp only[aG]
  refine⟨fun m i w1=>∃ j:Nat,i=(j:Int)/\1<=j/\(j<=l.length∨j=1)/\m=l.length-j/\(∀ t,t+1<j->aK (l.getD t (0,0)) (l.getD (t+1) (0,0))=true)/\w.grownBy w1 none,⟨_,1,rfl,by omega,.inr rfl,rfl,fun t ht=>by omega,aD _ _⟩,?_⟩;rintro m i w1 ⟨j,rfl,h1,hj,rfl,hs,hg⟩;have tj:(j:Int).toNat=j:=by omega
  have tj1:((j:Int)-1).toNat=j-1:=by omega
  rw[tj,tj1];refine⟨fun DF=>?_,fun DK=>⟨?_,hg⟩⟩
  · have gd:=aI hg;obtain⟨a,e1,e2,e3⟩:=fz (hr.kept_none gd) (show j-1<l.length by omega);obtain⟨a',f1,f2,f3⟩:=fz (hr.kept_none gd) (show j<l.length by omega);refine⟨by omega,a,e1,by omega,by omega,_,e2,_,e3,a',f1,by omega,by omega,_,f2,_,f3,?_⟩;refine(m6 l[j-1] l[j]).mono fun ev w2 hh=>?_;obtain⟨rfl,g2⟩:=hh;have Fe:=aB gd g2;have d1:l.getD (j-1) (0,0)=l[j-1]:=by simp[List.getD_eq_getElem?_getD,show j-1<l.length by omega]
    have d2:l.getD (j-1+1) (0,0)=l[j]:=by rw[show j-1+1=j by omega];simp[List.getD_eq_getElem?_getD,show j<l.length by omega]
    refine⟨_,rfl,fun h=>⟨?_,Fe⟩,fun h=>⟨by omega,l.length-(j+1),by omega,j+1,by omega,by omega,.inl (by omega),rfl,fun t ht=>?_,Fe⟩⟩
    · have:eu l=false:=by
        cases hq:eu l with
        | false=>rfl
        | true =>
          have:=List.all_eq_true.1 hq (j-1) (List.mem_range.2 (by omega));rw[d1,d2,h]at this;cases this
      rw[this]
    · by_cases e:t+1=j
      · have:t=j-1:=by omega
        subst this;rw[d1,d2];simpa using h
      · exact hs t (by omega)
  · have:eu l=true:=List.all_eq_true.2 fun t ht=>hs t (by have:=List.mem_range.1 ht;omega);rw[this]
def pS(l:List Edge)(e:Edge):Int:=if e∈l then(l.idxOf e:Int) else -1
theorem rV {w:World} {A:OA} {n c:Nat} {l:List Edge} {e:Edge} (hr:bB w A (edges l)) (hn:n=l.length) (hl:n<=2^40):Calls P 56 #[.slice A n c,gl e] w fun ev w'=>ev=.returned (.int .i64 (pS l e))/\w.grownBy w' none:=by
  apply vc56;dsimp only[VC56,Br,Bb,Rd,Ix,Eg,nb,ad,al,iq]
  try simp only[aG]
  have g1:=World.grownBy_alloc w (.cells #[.int .u32 e.1,.int .u32 e.2] 45) none;have b1:(w.alloc (.cells #[.int .u32 e.1,.int .u32 e.2] 45)).heap[w.heap.size]?=some (.cells #[.int .u32 e.1,.int .u32 e.2] 45 (0,0)):=heap_alloc_new w _;obtain⟨w1,Ez⟩:∃ w1,w1=w.alloc (.cells #[.int .u32 e.1,.int .u32 e.2] 45):=⟨_,rfl⟩;rw[← Ez]at g1 b1 ⊢;refine⟨fun m i w2=>∃ j:Nat,i=(j:Int)/\j<=l.length/\m=l.length-j/\(∀ t (h:t<l.length),t<j->l[t]≠e)/\w1.grownBy w2 none,⟨_,0,rfl,by omega,rfl,fun t _ ht=>by omega,aD _ _⟩,?_⟩;rintro m i w2 ⟨j,rfl,hj,rfl,hs,hg⟩;have tj:(j:Int).toNat=j:=by omega
  rw[tj];refine⟨fun DF=>?_,fun DK=>⟨?_,aB g1 hg⟩⟩
  · have gd:=aI hg;have lj:j<l.length:=by omega
    obtain⟨a,e1,e2,e3⟩:=fz ((hr.kept_none g1).kept_none gd) lj;have b2:w2.drew.heap[w.heap.size]?=some (.cells #[.int .u32 e.1,.int .u32 e.2] 45 (0,0)):=by rw[gd.block _ (Array.getElem?_eq_some_iff.1 b1).1 (by simp)];exact b1
    refine⟨a,e1,by omega,by omega,_,e2,_,e3,_,aA b2 0,_,aA b2 1,_,fun w=>y5 _ _ _ _ _ _ w,fun h=>⟨?_,aB g1 gd⟩,fun h=>⟨by omega,l.length-(j+1),by omega,j+1,by omega,by omega,rfl,fun t ht h3=>?_,gd⟩⟩
    · have he:l[j]=e:=by
        have:=of_decide_eq_true h;exact Prod.ext this.1 this.2
      have hm:e∈l:=by rw[← he];exact List.getElem_mem lj
      have hi:l.idxOf e=j:=by
        have h4:l.idxOf e<l.length:=List.idxOf_lt_length_iff.2 hm;have h5:l[l.idxOf e]=e:=List.getElem_idxOf h4;rcases Nat.lt_trichotomy (l.idxOf e) j with q | q | q
        · exact absurd h5 (hs _ h4 q)
        · exact q
        · exfalso;have:=List.not_of_lt_findIdx (p:=(· ==e)) (xs:=l) (i:=j) q;simp[he]at this
      rw[pS,if_pos hm,hi]
    · by_cases e4:t=j
      · subst e4;intro h5;rw[h5]at h;simp at h
      · exact hs t ht (by omega)
  · have hm:e ∉ l:=by
      intro h;obtain⟨t,ht,h2⟩:=List.mem_iff_getElem.1 h;exact hs t ht (by omega) h2
    rw[pS,if_neg hm]
theorem Am{w:World}{A:OA}{n c:Nat}{l:List Edge}{e:Edge}(hr:bB w A (edges l))(hn:n=l.length)(hl:n<=2^40):Calls P 29 #[.slice A n c,gl e] w fun ev w'=>ev=.returned (.bool (decide (e∈l)))/\w.grownBy w' none:=by
 apply vc29;dsimp only[VC29,Rd,cI,nb];have g1:=World.grownBy_alloc w (.cells #[.int .u32 e.1,.int .u32 e.2] 45) none;have b1:(w.alloc (.cells #[.int .u32 e.1,.int .u32 e.2] 45)).heap[w.heap.size]?=some (.cells #[.int .u32 e.1,.int .u32 e.2] 45 (0,0)):=heap_alloc_new w _;refine⟨_,aA b1 0,_,aA b1 1,?_⟩;refine(rV (e:=e) (hr.kept_none g1) hn hl).mono fun ev w2 hh=>?_;obtain⟨rfl,g2⟩:=hh;refine⟨_,rfl,?_,aB g1 g2⟩;congr 2;unfold pS;by_cases h:e∈l
 ·simp[h]
 ·simp[h]
theorem wN:uw P 40 45 2 (P.bytesOf 45):=⟨(P.info? 45).getD default,((P.info? 45).getD default).zero.getD undef,by kernel_rfl,by kernel_rfl,by kernel_rfl,by kernel_rfl,by kernel_rfl,by kernel_rfl,by decide⟩
theorem AI:P.bytesOf 45<=64:=of_decide_eq_true (by kernel_rfl)
theorem dt{w:World}{base:Nat}{A B:OA}{n c m d:Nat}{xs ys:List Edge}(ho:aH w base 45 2 A n c (edges xs))(hB:bB w B (edges ys))(hm:m=ys.length)(hd:B=none->d=0)(hn:n+m<=2^39)(hb:base<=w.heap.size):
    ∃ (A':OA) (n' c':Nat) (w':World),Sem.run P (Builtin.append_ #[40,40] 40 #[.slice A n c,.slice B m d]) w=.ok (.slice A' n' c') w' ∧
      aH w' base 45 2 A' n' c' (edges (xs++ys))/\w.grownBy w' (Value.slice A n c).ownBlock/\n'=n+m:=by
  cases B with
  | none =>
    have Hw:ys=[]:=by
      cases ys with
      | nil=>rfl
      | cons y ys=>obtain⟨a,e,_⟩:=hB 0 _ rfl;cases e
    subst Hw;have h0:m=0:=by simpa using hm
    have h1:=hd rfl;subst h0 h1;exact⟨A,n,c,w,ho.appends_nil wN,by simpa using ho,aD _ _,rfl⟩
  | some a =>
    obtain⟨A',n',c',w',h1,h2,h3,h4,_⟩:=ho.appends (ty:=40) wN AI (a:=a) (m:=m) (cc:=d) (us:=edges ys) (by rw[dA,hm]) (fun j u hj=>by obtain⟨b,q1,q2⟩:=hB j u hj;cases q1;exact q2) (fun u hu=>by
      simp only[edges,List.mem_flatMap]at hu;obtain⟨e,_,he⟩:=hu;simp[jW]at he;rcases he with rfl | rfl <;>rfl) (by omega) hb
    exact⟨A',n',c',w',h1,by rw[vj];exact h2,h4,h3⟩
theorem Dv{w:World}{A:OA}{c k:Nat}{l:List Edge}(h:bB w A (edges l))(hA:A=none->c=0)(hc:l.length<=c):bB w (bN A c k 2) (edges (l.drop k))/\(bN A c k 2=none->c-k=0):=by
 unfold bN;split
 ·rename_i FS;refine⟨?_,fun _=>by omega⟩;rw[List.drop_eq_nil_of_le (by omega)];intro j u hj;simp[edges]at hj
 ·have:=h.drop (k*2);rw[yE]at this;refine⟨this,fun e=>?_⟩;cases A with
  | none=>rw[hA rfl];omega
  | some a=>simp at e
theorem Bh{w:World}{A:OA}{l:List Edge}(h:bB w A (edges l))(k:Nat):bB w A (edges (l.take k)):=by
 intro j u hj;rw[← yD,List.getElem?_take]at hj;split at hj
 ·exact h j u hj
 ·cases hj
def jQ(l:List Edge)(e:Edge):Nat:=(l.takeWhile fun x=>aK x e).length
def bX(l:List Edge)(ev:aU):Option (List Edge) :=
 if eu l=false then none else if ev.add=decide ((ev.u,ev.v)∈l) then none else
 if ev.add=false then some (l.take (l.idxOf (ev.u,ev.v))++l.drop (l.idxOf (ev.u,ev.v)+1)) else some (l.take (jQ l (ev.u,ev.v))++((ev.u,ev.v) ::l.drop (jQ l (ev.u,ev.v))))
theorem ze{l:List Edge}{e:Edge}{j:Nat}(hj:j<=l.length)(h:∀ t (ht:t<l.length),t<j->aK l[t] e=true)(h2:∀(ht:j<l.length),aK l[j] e=false):jQ l e=j:=by
 induction l generalizing j with
 | nil=>simp at hj;subst hj;rfl
 | cons x l ih =>
  cases j with
  | zero =>
   have:=h2 (by simp);simp at this;simp[jQ,List.takeWhile_cons,this]
  | succ j =>
   have h0:=h 0 (by simp) (by omega);simp at h0;have:=ih (j:=j) (by simpa using hj) (fun t ht MD=>h (t+1) (Nat.succ_lt_succ ht) (by omega)) (fun ht=>h2 (Nat.succ_lt_succ ht));simp[jQ,List.takeWhile_cons,h0]at this ⊢;exact this
theorem xK {w:World} {A:OA} {n c:Nat} {l:List Edge} {e:aU} (hr:bB w A (edges l)) (hn:n=l.length) (hc:n<=c) (hA:A=none->c=0) (hl:n<=2^30) :
    Calls P 30 #[.slice A n c,evtV e] w fun ev w'=>∃(A':OA)(n' c':Nat),ev=.returned (.tuple #[.slice A' n' c',.bool (bX l e).isSome])/\aH w' w.heap.size 45 2 A' n' c' (edges ((bX l e).getD []))/\w.grownBy w' none:=by
  apply vc30;dsimp only[VC30,rt,Br,Bb,Rd,Rc,Ix,Ap,Eg,cI,cB,nb,ad,al,iq]
  try simp only[aG]
  have g1:=World.grownBy_alloc w (.cells #[.int .i64 e.t,.int .u32 e.u,.int .u32 e.v,.bool e.add] 62) none;have b1:(w.alloc (.cells #[.int .i64 e.t,.int .u32 e.u,.int .u32 e.v,.bool e.add] 62)).heap[w.heap.size]?=some (.cells #[.int .i64 e.t,.int .u32 e.u,.int .u32 e.v,.bool e.add] 62 (0,0)):=heap_alloc_new w _;obtain⟨w1,Ez⟩:∃ w1,w1=w.alloc (.cells #[.int .i64 e.t,.int .u32 e.u,.int .u32 e.v,.bool e.add] 62):=⟨_,rfl⟩;rw[← Ez]at g1 b1 ⊢;have keep:∀ w',w1.grownBy w' none->w'.heap[w.heap.size]?=some (.cells #[.int .i64 e.t,.int .u32 e.u,.int .u32 e.v,.bool e.add] 62 (0,0)):=fun w' g=>by rw[g.block _ (Array.getElem?_eq_some_iff.1 b1).1 (by simp)];exact b1
  refine⟨_,aA b1 1,_,aA b1 2,?_⟩;refine(rV (e:=(e.u,e.v)) (hr.kept_none g1) hn (by omega)).mono fun ev w2 hh=>?_;obtain⟨rfl,g2⟩:=hh;refine⟨_,rfl,?_⟩;refine(uF ((hr.kept_none g1).kept_none g2) hn (by omega)).mono fun ev w3 hh=>?_;obtain⟨rfl,g3⟩:=hh;have EO:=aB g2 g3;have DP:=aB g1 EO;have Gk:decide (pS l (e.u,e.v)≥0)=decide ((e.u,e.v)∈l):=by
    unfold pS;by_cases h:(e.u,e.v)∈l
    · simp[h]
    · simp[h]
  refine⟨_,rfl,fun h=>?_,fun h=>?_⟩
  · have:bX l e=none:=by unfold bX;rw[if_pos h]
    rw[this];exact⟨_,_,_,rfl,aH.nil _ _ _ _,DP⟩
  have Gp:¬ eu l=false:=h;have b3:=keep w3 EO;have hu:P.underlying 4=some .bool:=by kernel_rfl
  refine⟨_,aA b3 3,_,fun w=>Cy _ _ _ _ w,fun h=>?_,fun h=>?_⟩
  · have h':e.add=decide ((e.u,e.v)∈l):=by rw[← Gk];simpa using h
    have:bX l e=none:=by unfold bX;rw[if_neg Gp,if_pos h']
    rw[this];exact⟨_,_,_,rfl,aH.nil _ _ _ _,DP⟩
  have FL:¬ e.add=decide ((e.u,e.v)∈l):=by rw[← Gk];simpa using h
  refine⟨_,aA b3 3,fun ED=>?_,fun F8=>?_⟩
  · have hm:(e.u,e.v)∈l:=by
      rw[ED]at FL;by_cases q:(e.u,e.v)∈l
      · exact q
      · simp[q]at FL
    have Rz:pS l (e.u,e.v)=((l.idxOf (e.u,e.v):Nat):Int):=by rw[pS,if_pos hm]
    have Tk:l.idxOf (e.u,e.v)<l.length:=List.idxOf_lt_length_iff.2 hm;have MC:bX l e=some (l.take (l.idxOf (e.u,e.v))++l.drop (l.idxOf (e.u,e.v)+1)):=by unfold bX;rw[if_neg Gp,if_neg FL,if_pos ED]
    rw[MC,Rz];generalize l.idxOf (e.u,e.v)=i at *;have ti:(i:Int).toNat=i:=by omega
    have ti1:((i:Int)+1).toNat=i+1:=by omega
    rw[ti,ti1];have gd:=aI DP;have rd:=hr.kept_none gd;obtain⟨A4,n4,c4,w4,f1,f2,f3,f4⟩:=dt (n:=0) (c:=0) (A:=none) (xs:=[]) (aH.nil w3.drew w3.drew.heap.size 45 2) (m:=i) (d:=c) (Bh rd i) (by rw[List.length_take];omega) hA (by omega) (Nat.le_refl _);have g4:w3.drew.grownBy w4 none:=aP (aD w3.drew none) f3 (fun k hk=>by simp[Value.ownBlock]at hk);rw[List.nil_append]at f2;obtain⟨r5,d5⟩:=Dv (k:=i+1) (rd.kept_none g4) hA (by omega);obtain⟨A5,n5,c5,w5,p1,p2,p3,p4⟩:=dt f2 (m:=n-(i+1)) (d:=c-(i+1)) r5 (by rw[List.length_drop];omega) d5 (by omega) g4.size;exact⟨⟨by omega,by omega⟩,_,_,_,w4,f1,by omega,⟨by omega,by omega⟩,_,_,_,w5,p1,_,_,_,rfl,p2.mono gd.size,aB gd (aP g4 p3 f2.block_ge)⟩
  · have Lq:¬ e.add=false:=F8;have MC:bX l e=some (l.take (jQ l (e.u,e.v))++((e.u,e.v) ::l.drop (jQ l (e.u,e.v)))):=by unfold bX;rw[if_neg Gp,if_neg FL,if_neg Lq]
    rw[MC];refine⟨fun i w'=>i=(jQ l (e.u,e.v):Int)/\jQ l (e.u,e.v)<=l.length/\w1.grownBy w' none,⟨fun m i w4=>∃ j:Nat,i=(j:Int)/\j<=l.length/\m=l.length-j/\(∀ t (ht:t<l.length),t<j->aK l[t] (e.u,e.v)=true)/\w1.grownBy w4 none,⟨_,0,rfl,by omega,rfl,fun t _ ht=>by omega,EO⟩,?_⟩,?_⟩
    · rintro m i w4 ⟨j,rfl,hj,rfl,hs,g4⟩;have tj:(j:Int).toNat=j:=by omega
      rw[tj];have gd:=aI g4;refine⟨fun DF=>?_,fun DK=>?_⟩
      · have lj:j<l.length:=by omega
        obtain⟨a,e1,e2,e3⟩:=fz ((hr.kept_none g1).kept_none gd) lj;have b4:=keep w4.drew gd;refine⟨a,e1,by omega,by omega,_,e2,_,e3,_,aA b4 1,_,aA b4 2,?_⟩;refine(m6 l[j] (e.u,e.v)).mono fun ev w5 hh=>?_;obtain⟨rfl,g5⟩:=hh;refine⟨_,rfl,fun h=>⟨by omega,l.length-(j+1),by omega,j+1,by omega,by omega,rfl,fun t ht MD=>?_,aB gd g5⟩,fun h=>?_⟩
        · by_cases q:t=j
          · subst q;exact h
          · exact hs t ht (by omega)
        · have:=ze hj hs (fun _=>h);exact⟨by rw[this],by omega,aB gd g5⟩
      · have:=ze hj hs (fun ht=>by omega);exact⟨by rw[this],by omega,gd⟩
    · rintro i w4 ⟨rfl,hk,g4⟩;generalize jQ l (e.u,e.v)=k at *;have tk:(k:Int).toNat=k:=by omega
      rw[tk];have gd:=aI g4;have g0d:=aB g1 gd;have rd:=hr.kept_none g0d;refine⟨fun w'=>w1.grownBy w' none,gd,⟨⟨by omega,by omega⟩,?_⟩,⟨⟨by omega,by omega⟩,?_⟩⟩
      · obtain⟨A5,n5,c5,w5,f1,f2,f3,f4⟩:=dt (n:=0) (c:=0) (A:=none) (xs:=[]) (aH.nil w4.drew w4.drew.heap.size 45 2) (m:=k) (d:=c) (Bh rd k) (by rw[List.length_take];omega) hA (by omega) (Nat.le_refl _);have g5:w4.drew.grownBy w5 none:=aP (aD w4.drew none) f3 (fun k hk=>by simp[Value.ownBlock]at hk);rw[List.nil_append]at f2;have Jx:=aB gd g5;have ga:=World.grownBy_alloc w5 (.cells #[.int .u32 e.u,.int .u32 e.v] 45) none;have ra:bB (w5.alloc (.cells #[.int .u32 e.u,.int .u32 e.v] 45)) (some ⟨w5.heap.size,0,none⟩) (edges [(e.u,e.v)]):=dQ w5 _ 45;obtain⟨A6,n6,c6,w6,p1,p2,p3,p4⟩:=dt (f2.kept ga) (m:=1) (d:=1) ra rfl (fun h=>by cases h) (by omega) (Nat.le_trans g5.size ga.size);have Ov:=aB g5 ga;have g6:=aP Ov p3 f2.block_ge;have Mr:=aB gd g6;obtain⟨r7,d7⟩:=Dv (k:=k) (rd.kept_none g6) hA (by omega);obtain⟨A7,n7,c7,w7,q1,q2,q3,q4⟩:=dt p2 (m:=n-k) (d:=c-k) r7 (by rw[List.length_drop];omega) d7 (by omega) g6.size;have g7:=aP g6 q3 p2.block_ge;exact⟨_,_,_,w5,f1,Jx,_,fun w' h=>aA (keep w' h) 1,_,fun w' h=>aA (keep w' h) 2,aB Jx ga,_,_,_,w6,p1,Mr,⟨by omega,by omega⟩,_,_,_,w7,q1,aB gd g7,_,_,_,rfl,by simpa using q2.mono g0d.size,aB g0d g7⟩
      · have ga:=World.grownBy_alloc w4.drew (.cells #[.int .u32 e.u,.int .u32 e.v] 45) none;have ra:bB (w4.drew.alloc (.cells #[.int .u32 e.u,.int .u32 e.v] 45)) (some ⟨w4.drew.heap.size,0,none⟩) (edges [(e.u,e.v)]):=dQ w4.drew _ 45;obtain⟨wa,J5⟩:∃ wa,wa=w4.drew.alloc (.cells #[.int .u32 e.u,.int .u32 e.v] 45):=⟨_,rfl⟩;refine⟨_,fun w' h=>aA (keep w' h) 1,_,fun w' h=>aA (keep w' h) 2,?_⟩;simp only[List.getElem?_toArray];show(fun w'=>w1.grownBy w' none) (w4.drew.alloc (.cells #[.int .u32 e.u,.int .u32 e.v] 45))/\_;rw[← J5]at ga ra ⊢;obtain⟨A5,n5,c5,w5,f1,f2,f3,f4⟩:=dt (n:=0) (c:=0) (A:=none) (xs:=[]) (aH.nil wa wa.heap.size 45 2) (m:=k) (d:=c) (Bh (rd.kept_none ga) k) (by rw[List.length_take];omega) hA (by omega) (Nat.le_refl _);have g5:wa.grownBy w5 none:=aP (aD wa none) f3 (fun k hk=>by simp[Value.ownBlock]at hk);rw[List.nil_append]at f2;obtain⟨A6,n6,c6,w6,p1,p2,p3,p4⟩:=dt f2 (m:=1) (d:=1) (ra.kept_none g5) rfl (fun h=>by cases h) (by omega) g5.size;have g6:=aP g5 p3 f2.block_ge;obtain⟨r7,d7⟩:=Dv (k:=k) ((rd.kept_none ga).kept_none g6) hA (by omega);obtain⟨A7,n7,c7,w7,q1,q2,q3,q4⟩:=dt p2 (m:=n-k) (d:=c-k) r7 (by rw[List.length_drop];omega) d7 (by omega) g6.size;have g7:=aP g6 q3 p2.block_ge;have g1a:=aB gd ga;exact⟨g1a,_,_,_,w5,f1,aB g1a g5,_,_,_,w6,p1,aB g1a g6,⟨by omega,by omega⟩,_,_,_,w7,q1,aB g1a g7,_,_,_,rfl,by simpa using q2.mono (Nat.le_trans g0d.size ga.size),aB g0d (aB ga g7)⟩
theorem eS{w:World}{A:OA}{l:List aU}(h:bB w A (cw l)){j:Nat}(hj:j<l.length):∃ a,A=some a/\w.cell? (a.add (j*4))=some (.int .i64 l[j].t)/\w.cell? ((a.add (j*4)).add 1)=some (.int .u32 l[j].u)/\w.cell? ((a.add (j*4)).add 2)=some (.int .u32 l[j].v)/\w.cell? ((a.add (j*4)).add 3)=some (.bool l[j].add):=by
 obtain⟨h1,h2,h3,h4⟩:=wH hj;obtain⟨a,e1,e2⟩:=h _ _ h1;have rd:∀ k u,(cw l)[j*4+k]?=some u->w.cell? ((a.add (j*4)).add k)=some u:=fun k u hk=>by
  obtain⟨a',q1,q2⟩:=h _ _ hk;rw[e1]at q1;cases q1;rw[eL];exact q2
 exact⟨a,e1,e2,rd 1 _ h2,rd 2 _ h3,rd 3 _ h4⟩
def nL(N:Int)(e:aU):Bool:=decide (e.u<e.v/\e.v<N)
def dr(N:Int):List aU->Option aU->List Edge->Nat->Int×Int
 | [],_,_,_=>(0,0)
 | e ::l,p,now,i=>if e.t<0∨e.t>4611686018427387903 then((i:Int),26) else if nL N e=false then((i:Int),24) else
  if(match p with | none=>true | some q=>bC q e)=false then((i:Int),23) else match bX now e with
  | none=>((i:Int),25)
  | some x=>dr N l (some e) x (i+1)
theorem nY(N:Int)(e:aU)(l:List aU)(p:Option aU)(now:List Edge)(i:Nat):dr N (e ::l) p now i=if e.t<0∨e.t>4611686018427387903 then((i:Int),26) else if nL N e=false then((i:Int),24) else
    if(match p with | none=>true | some q=>bC q e)=false then((i:Int),23) else match bX now e with
    | none=>((i:Int),25)
    | some x=>dr N l (some e) x (i+1):=rfl
def fm(N:Int)(l:List aU):Int×Int:=if N>4294967296∨l.length>2147483648 then(0,26) else dr N l none [] 0
theorem tD{l x:List Edge}{e:aU}(h:bX l e=some x):x.length<=l.length+1:=by
 unfold bX at h;split at h
 ·cases h
 ·split at h
  ·cases h
  ·split at h
   ·cases h;simp;omega
   ·cases h;simp;omega
def eG(l:List aU)(now:List Edge):List Edge:=l.foldl (fun now e=>(bX now e).getD []) now
theorem jT:∀(l:List aU)(now:List Edge),(eG l now).length<=now.length+l.length
 | [],now=>by simp[eG]
 | e ::l,now=>by
  have ih:=jT l ((bX now e).getD []);have:((bX now e).getD []).length<=now.length+1:=by
   cases h:bX now e with
   | none=>simp
   | some x=>exact tD h
  show(eG l ((bX now e).getD [])).length<=_;simp only[List.length_cons];omega
def kI(N:Int)(l:List aU)(k:Int):List Edge:=if(fm N l).2≠0 then [] else eG (l.take k.toNat) []
theorem vi(d:Nat)(a b c e:Int)(w:World):(Op.equalIn (d+2) 45 (.agg #[.int .u32 a,.int .u32 b]) (.agg #[.int .u32 c,.int .u32 e])).run P w=.ok (decide (a=c/\b=e)) w:=by
 rw[run_equalIn_struct w (d+1) 45 _ _ (by kernel_rfl) (by kernel_rfl)];obtain ⟨f, g, I4, I7, I6, I5, E5, DR, D9⟩ : ∃ f g : Field, (P.fieldsOf 45).toList = [f, g] ∧ f.name = "U" ∧ f.type = 43 ∧ f.offset = 0 ∧ g.name = "V" ∧ g.type = 43 ∧ g.offset = 1 :=
  ⟨((P.fieldsOf 45).toList)[0]!,((P.fieldsOf 45).toList)[1]!,by kernel_rfl,by kernel_rfl,by kernel_rfl,by kernel_rfl,by kernel_rfl,by kernel_rfl,by kernel_rfl⟩
 rw[I4];have hu:P.underlying 43=some (.int .u32):=by kernel_rfl
 have hp:P.plainKey 43=true:=by kernel_rfl
 have e1:∀(x y:Int)(w:World),(part 43 #[.int .u32 x,.int .u32 y] 0).run P w=.ok (.int .u32 x) w:=fun x y w=>run_part_plain w hp rfl;have e2:∀(x y:Int)(w:World),(part 43 #[.int .u32 x,.int .u32 y] 1).run P w=.ok (.int .u32 y) w:=fun x y w=>run_part_plain w hp rfl;have q:∀(x y:Int)(w:World),(Op.equalIn (d+1) 43 (.int .u32 x) (.int .u32 y)).run P w=.ok (x ==y) w:=fun x y w=>run_equalIn_int w d _ _ _ _ _ hu;simp only[Op.eqFields,I7,I6,I5,E5,DR,D9,Sem.run_bind,Sem.run_ite,e1,e2,q,Result.andThen_ok];by_cases h1:a=c
 ·by_cases h2:b=e
  ·simp[h1,h2]
  ·simp[h1,h2]
 ·simp[h1]
theorem Ab(t:Int)(u v:Int)(a:Bool)(w:World):(part 45 #[.int .i64 t,.int .u32 u,.int .u32 v,.bool a] 1).run P w=.ok (.agg #[.int .u32 u,.int .u32 v]) w:=by
 have hu:P.underlying 45=some (.struct (P.fieldsOf 45)):=by kernel_rfl
 obtain⟨i,hi⟩:∃ i,P.info? 45=some i:=⟨(P.info? 45).getD default,by kernel_rfl⟩;have hc:P.cellsOf 45=2:=by kernel_rfl
 simp[part,isAgg,run_underlying hu,run_sizeOf w hi,hc]
theorem Ay(a b:aU)(w:World):(Op.equalIn 10000 62 (evtV a) (evtV b)).run P w=.ok (decide (a=b)) w:=by
 rw[run_equalIn_struct w 9999 62 _ _ (by kernel_rfl) (by kernel_rfl)];obtain ⟨f, g, h, I4, I7, I6, I5, E5, DR, D9, I1, Nw, Nv⟩ : ∃ f g h : Field, (P.fieldsOf 62).toList = [f, g, h] ∧ f.name = "T" ∧ f.type = 2 ∧ f.offset = 0 ∧ g.name = "Edge" ∧ g.type = 45 ∧ g.offset = 1 ∧ h.name = "Add" ∧ h.type = 4 ∧ h.offset = 3 :=
  ⟨((P.fieldsOf 62).toList)[0]!,((P.fieldsOf 62).toList)[1]!,((P.fieldsOf 62).toList)[2]!,by kernel_rfl,by kernel_rfl,by kernel_rfl,by kernel_rfl,by kernel_rfl,by kernel_rfl,by kernel_rfl,by kernel_rfl,by kernel_rfl,by kernel_rfl⟩
 rw[I4];have hu:P.underlying 2=some (.int .i64):=by kernel_rfl
 have Qv:P.underlying 4=some .bool:=by kernel_rfl
 have hp:P.plainKey 2=true:=by kernel_rfl
 have QX:P.plainKey 4=true:=by kernel_rfl
 have e1:∀(x:aU)(w:World),(part 2 #[.int .i64 x.t,.int .u32 x.u,.int .u32 x.v,.bool x.add] 0).run P w=.ok (.int .i64 x.t) w:=fun x w=>run_part_plain w hp rfl;have e2:∀(x:aU)(w:World),(part 45 #[.int .i64 x.t,.int .u32 x.u,.int .u32 x.v,.bool x.add] 1).run P w=.ok (.agg #[.int .u32 x.u,.int .u32 x.v]) w:=fun x w=>Ab _ _ _ _ w;have e3:∀(x:aU)(w:World),(part 4 #[.int .i64 x.t,.int .u32 x.u,.int .u32 x.v,.bool x.add] 3).run P w=.ok (.bool x.add) w:=fun x w=>run_part_plain w QX rfl;have q1:∀(x y:Int)(w:World),(Op.equalIn 9999 2 (.int .i64 x) (.int .i64 y)).run P w=.ok (x ==y) w:=fun x y w=>run_equalIn_int w 9998 _ _ _ _ _ hu;have q2:∀(x y z t:Int)(w:World),(Op.equalIn 9999 45 (.agg #[.int .u32 x,.int .u32 y]) (.agg #[.int .u32 z,.int .u32 t])).run P w=.ok (decide (x=z/\y=t)) w:=fun x y z t w=>vi 9997 x y z t w;have q3:∀(x y:Bool)(w:World),(Op.equalIn 9999 4 (.bool x) (.bool y)).run P w=.ok (x ==y) w:=fun x y w=>run_equalIn_bool' w 9998 _ _ _ Qv;simp only[Op.eqFields,I7,I6,I5,E5,DR,D9,I1,Nw,Nv,Sem.run_bind,Sem.run_ite,e1,e2,e3,q1,q2,q3,Result.andThen_ok];obtain⟨t,u,v,p⟩:=a;obtain⟨t',u',v',p'⟩:=b;by_cases h1:t=t'
 ·by_cases h2:u=u'/\v=v'
  ·obtain⟨h2,h3⟩:=h2;by_cases h4:p=p'
   ·simp[h1,h2,h3,h4]
   ·simp[h1,h2,h3,h4]
  ·have:¬ (u=u'/\v=v'/\p=p'):=fun q=>h2 ⟨q.1,q.2.1⟩;simp[h1,h2,this]
 ·simp[h1]
theorem Cw(s t:Operand)(a b:aU)(w:World):Sem.run P (do eqGuard .neq 62 s t (evtV a) (evtV b);Go.binOp .neq 62 (evtV a) (evtV b):Sem Value) w=.ok (.bool (!decide (a=b))) w:=by
 rw[Sem.run_bind,run_eqGuard_agg w .neq 62 s t _ _ (by kernel_rfl),Result.andThen_ok,run_neq_struct w,Ay];rfl
theorem oM{w:World}{A B:OA}{n c m d:Nat}{l k:List aU}(hA:bB w A (cw l))(hn:n=l.length)(hB:bB w B (cw k))(hm:m=k.length)(hl:n<=2^40):Calls P 25 #[.slice A n c,.slice B m d] w fun ev w'=>ev=.returned (.bool (decide (l=k)))/\w.grownBy w' none:=by
 apply vc25;dsimp only[VC25,rb,Br,Bb,Rd,Ix,Eg,ad,al,iq]
 try simp only[aG]
 refine⟨fun DJ=>⟨?_,aD _ _⟩,fun Ga=>?_⟩
 ·have:l≠k:=fun e=>by subst e;omega
  simp[this]
 refine⟨fun mm i w1=>∃ j:Nat,i=(j:Int)/\j<=l.length/\mm=l.length-j/\l.take j=k.take j/\w.grownBy w1 none,⟨_,0,rfl,by omega,rfl,by simp,aD _ _⟩,?_⟩;rintro mm i w1 ⟨j,rfl,hj,rfl,hs,hg⟩;have tj:(j:Int).toNat=j:=by omega
 rw[tj];refine⟨fun DF=>?_,fun DK=>⟨?_,hg⟩⟩
 ·have gd:=aI hg;have lj:j<l.length:=by omega
  have kj:j<k.length:=by omega
  obtain⟨a,e1,e2,e3,e4,e5⟩:=eS (hA.kept_none gd) lj;obtain⟨b,f1,f2,f3,f4,f5⟩:=eS (hB.kept_none gd) kj;refine⟨a,e1,by omega,by omega,_,e2,_,e3,_,e4,_,e5,b,f1,by omega,by omega,_,f2,_,f3,_,f4,_,f5,_,fun w=>Cw _ _ l[j] k[j] w,fun h=>⟨?_,gd⟩,fun h=>⟨by omega,l.length-(j+1),by omega,j+1,by omega,by omega,rfl,?_,gd⟩⟩
  ·have:l≠k:=fun e=>by subst e;simp at h
   simp[this]
  ·have he:l[j]=k[j]:=by simpa using h
   rw[List.take_succ_eq_append_getElem lj,List.take_succ_eq_append_getElem kj,hs,he]
 ·rw[List.take_of_length_le (by omega),List.take_of_length_le (by omega)]at hs;simp[hs]
def iI(k:Int):Int:=([8,5,2,4294967296,300,12,1048576,3]:List Int).getD (k % 8).toNat 0
theorem qF(k:Int):2<=iI k/\iI k<=4294967296:=by
 have h:∀ t:Fin 8,2<=([8,5,2,4294967296,300,12,1048576,3]:List Int).getD t.val 0/\([8,5,2,4294967296,300,12,1048576,3]:List Int).getD t.val 0<=4294967296:=by decide
 exact h ⟨(k % 8).toNat,by omega⟩
theorem qE{w:World}{k:Int}(hk:0<=k/\k<=255):Calls P 27 #[.int .u8 k] w fun ev w'=>ev=.returned (.int .u64 (iI k))/\w.grownBy w' none:=by
 apply vc27;dsimp only[VC27,Ix,nb];have g:=World.grownBy_alloc w (.cells #[.int .u64 8,.int .u64 5,.int .u64 2,.int .u64 4294967296,.int .u64 300,.int .u64 12,.int .u64 1048576,.int .u64 3] 22) none;have hr:bB (w.alloc (.cells #[.int .u64 8,.int .u64 5,.int .u64 2,.int .u64 4294967296,.int .u64 300,.int .u64 12,.int .u64 1048576,.int .u64 3] 22)) (some ⟨w.heap.size,0,none⟩) (([8,5,2,4294967296,300,12,1048576,3]:List Int).map (Value.int .u64)):=dQ w _ 22;have DF:(k % 8).toNat<([8,5,2,4294967296,300,12,1048576,3]:List Int).length:=by simp;omega
 obtain⟨a,e1,e2⟩:=hr (k % 8).toNat (.int .u64 (iI k)) (by rw[List.getElem?_map,List.getElem?_eq_getElem DF,iI,List.getD_eq_getElem?_getD,List.getElem?_eq_getElem DF];rfl);exact⟨⟨by omega,by omega⟩,a,e1,by omega,by omega,_,e2,rfl,g⟩
def iY(a most n:Int):Int:=if a>most then n-1-a % mn n 9 else a % mn n 9
def dF(a b n:Int):Edge×Bool:=if iY a 230 n=iY b 240 n then((0,0),false) else((mn (iY a 230 n) (iY b 240 n),mx (iY a 230 n) (iY b 240 n)),true)
theorem nE{a most n:Int}(ha:0<=a)(hn:2<=n/\n<=4294967296):0<=iY a most n/\iY a most n<n:=by
 have h1:1<=mn n 9/\mn n 9<=n:=by unfold mn;split <;>omega
 have h2:=Int.emod_nonneg a (show mn n 9≠0 by omega);have h3:=Int.emod_lt_of_pos a (show 0<mn n 9 by omega);unfold iY;split <;>omega
theorem pV{w:World}{a b n:Int}(ha:0<=a/\a<=255)(hb:0<=b/\b<=255)(hn:2<=n/\n<=4294967296):Calls P 18 #[.int .u8 a,.int .u8 b,.int .u64 n] w fun ev w'=>ev=.returned (.tuple #[gl (dF a b n).1,.bool (dF a b n).2])/\w.grownBy w' none:=by
 apply vc18;dsimp only[VC18,rt,Wt,Br,Rd,Ws,nb]
 try simp only[aG]
 have h1:1<=mn n 9/\mn n 9<=n:=by unfold mn;split <;>omega
 have ua:=nE (most:=230) ha.1 hn;have ub:=nE (most:=240) hb.1 hn;have a2:=Int.emod_nonneg a (show mn n 9≠0 by omega);have a3:=Int.emod_lt_of_pos a (show 0<mn n 9 by omega);have c2:=Int.emod_nonneg b (show mn n 9≠0 by omega);have c3:=Int.emod_lt_of_pos b (show 0<mn n 9 by omega);have g1:=aI (World.grownBy_alloc w (.cells #[.int .u32 0,.int .u32 0] 45) none);have b1:(w.alloc (.cells #[.int .u32 0,.int .u32 0] 45)).drew.heap[w.heap.size]?=some (.cells #[.int .u32 0,.int .u32 0] 45 (0,0)):=heap_alloc_new w _;obtain⟨w1,Ez⟩:∃ w1,w1=(w.alloc (.cells #[.int .u32 0,.int .u32 0] 45)).drew:=⟨_,rfl⟩;rw[← Ez]at g1 b1 ⊢;refine⟨by omega,⟨by omega,by omega⟩,by omega,⟨by omega,by omega⟩,fun u w'=>u=iY a 230 n/\w'=w1,⟨fun h=>⟨by omega,by omega,by unfold iY;rw[if_pos h],rfl⟩,fun h=>⟨by unfold iY;rw[if_neg h],rfl⟩⟩,?_⟩;rintro u w2 ⟨hu,FM⟩;rw[FM];clear FM;refine⟨fun v w'=>v=iY b 240 n/\w'=w1,⟨fun h=>⟨by omega,by omega,by unfold iY;rw[if_pos h],rfl⟩,fun h=>⟨by unfold iY;rw[if_neg h],rfl⟩⟩,?_⟩;rintro v w3 ⟨hv,Ep⟩;rw[Ep];clear Ep;rw[← hu]at ua;rw[← hv]at ub;have hm:0<=mn u v/\mn u v<=4294967295/\0<=mx u v/\mx u v<=4294967295:=by unfold mn mx;split <;>split <;>omega
 have fin:∀ p q:Int,w.grownBy ((w1.setCell ⟨w.heap.size,0,none⟩ (.int .u32 p)).setCell ⟨w.heap.size,1,none⟩ (.int .u32 q)) none:=fun p q=>(cv (cv (Kp.of_none (S:=fun k=>w.heap.size<=k) g1) (Nat.le_refl _)) (Nat.le_refl _)).grown (fun k hk e=>by omega);refine⟨fun he=>?_,fun he=>?_⟩
 ·have s1:=aF b1 0 (.int .u32 0);have s2:=aF s1 1 (.int .u32 0);refine⟨⟨_,aA b1 0⟩,aC b1 0,⟨_,aA s1 1⟩,aC s1 1,0,aA s2 0,0,aA s2 1,?_,fin 0 0⟩;unfold dF;rw[if_pos (by omega)]
 ·have s1:=aF b1 0 (.int .u32 (mn u v));have s2:=aF s1 1 (.int .u32 (mx u v));refine⟨by omega,by omega,⟨_,aA b1 0⟩,aC b1 0,⟨_,aA s1 1⟩,aC s1 1,_,aA s2 0,_,aA s2 1,?_,fin _ _⟩;unfold dF;rw[← hu,← hv,if_neg he]
theorem zw:uw P 23 62 4 (P.bytesOf 62):=⟨(P.info? 62).getD default,((P.info? 62).getD default).zero.getD undef,by kernel_rfl,by kernel_rfl,by kernel_rfl,by kernel_rfl,by kernel_rfl,by kernel_rfl,by decide⟩
theorem BV:P.bytesOf 62<=64:=of_decide_eq_true (by kernel_rfl)
theorem wI(l m:List aU):cw (l++m)=cw l++cw m:=by simp[cw]
theorem Ax(l:List aU)(k:Nat):(cw l).drop (k*4)=cw (l.drop k):=by
 induction k generalizing l with
 | zero=>simp
 | succ k ih =>
  cases l with
  | nil=>simp[cw]
  | cons e l=>rw[show(k+1)*4=k*4+1+1+1+1 by omega];exact ih l
theorem Aw(l:List aU)(k:Nat):(cw l).take (k*4)=cw (l.take k):=by
 induction k generalizing l with
 | zero=>simp[cw]
 | succ k ih =>
  cases l with
  | nil=>simp[cw]
  | cons e l =>
   rw[show(k+1)*4=k*4+1+1+1+1 by omega];show List.take (k*4+1+1+1+1) (.int .i64 e.t ::.int .u32 e.u ::.int .u32 e.v ::.bool e.add ::cw l)=.int .i64 e.t ::.int .u32 e.u ::.int .u32 e.v ::.bool e.add ::cw (List.take k l);rw[List.take_succ_cons,List.take_succ_cons,List.take_succ_cons,List.take_succ_cons,ih]
theorem dU{w:World}{base:Nat}{A B:OA}{n c m d:Nat}{xs ys:List aU}(ho:aH w base 62 4 A n c (cw xs))(hB:bB w B (cw ys))(hm:m=ys.length)(hd:B=none->d=0)(hn:n+m<=2^39)(hb:base<=w.heap.size):
    ∃ (A':OA) (n' c':Nat) (w':World),Sem.run P (Builtin.append_ #[23,23] 23 #[.slice A n c,.slice B m d]) w=.ok (.slice A' n' c') w' ∧
      aH w' base 62 4 A' n' c' (cw (xs++ys))/\w.grownBy w' (Value.slice A n c).ownBlock/\n'=n+m:=by
  cases B with
  | none =>
    have Hw:ys=[]:=by
      cases ys with
      | nil=>rfl
      | cons y ys=>obtain⟨a,e,_⟩:=hB 0 _ rfl;cases e
    subst Hw;have h0:m=0:=by simpa using hm
    have h1:=hd rfl;subst h0 h1;exact⟨A,n,c,w,ho.appends_nil zw,by simpa using ho,aD _ _,rfl⟩
  | some a =>
    obtain⟨A',n',c',w',h1,h2,h3,h4,_⟩:=ho.appends (ty:=23) zw BV (a:=a) (m:=m) (cc:=d) (us:=cw ys) (by rw[dg,hm]) (fun j u hj=>by obtain⟨b,q1,q2⟩:=hB j u hj;cases q1;exact q2) (fun u hu=>by
      simp only[cw,List.mem_flatMap]at hu;obtain⟨e,_,he⟩:=hu;simp[CO]at he;rcases he with rfl | rfl | rfl | rfl <;>rfl) (by omega) hb
    exact⟨A',n',c',w',h1,by rw[wI];exact h2,h4,h3⟩
theorem CR{w:World}{A:OA}{c k:Nat}{l:List aU}(h:bB w A (cw l))(hA:A=none->c=0)(hc:l.length<=c):bB w (bN A c k 4) (cw (l.drop k))/\(bN A c k 4=none->c-k=0):=by
 unfold bN;split
 ·rename_i FS;refine⟨?_,fun _=>by omega⟩;rw[List.drop_eq_nil_of_le (by omega)];intro j u hj;simp[cw]at hj
 ·have:=h.drop (k*4);rw[Ax]at this;refine⟨this,fun e=>?_⟩;cases A with
  | none=>rw[hA rfl];omega
  | some a=>simp at e
theorem uz{w:World}{A:OA}{l:List aU}(h:bB w A (cw l))(k:Nat):bB w A (cw (l.take k)):=by
 intro j u hj;rw[← Aw,List.getElem?_take]at hj;split at hj
 ·exact h j u hj
 ·cases hj
def cA(l:List aU)(e:aU):Nat->Nat
 | 0=>0
 | k+1=>if bC e (l.getD k ⟨0,0,0,false⟩)=true then cA l e k else k+1
theorem mW(l:List aU)(e:aU):∀ k,cA l e k<=k
 | 0=>Nat.le_refl _
 | k+1=>by
  unfold cA;split
  ·exact Nat.le_succ_of_le (mW l e k)
  ·exact Nat.le_refl _
def ik(l:List aU)(e:aU):List aU :=
 if 0<cA l e l.length/\(l.getD (cA l e l.length-1) ⟨0,0,0,false⟩).t=e.t/\(l.getD (cA l e l.length-1) ⟨0,0,0,false⟩).u=e.u/\(l.getD (cA l e l.length-1) ⟨0,0,0,false⟩).v=e.v then l
 else l.take (cA l e l.length)++(e ::l.drop (cA l e l.length))
theorem u4 {w:World} {base:Nat} {A:OA} {n c:Nat} {l:List aU} {e:aU} (ho:aH w base 62 4 A n c (cw l)) (hb:base<=w.heap.size) (hl:n<=2^30) :
    Calls P 28 #[.slice A n c,evtV e] w fun ev w'=>∃(A':OA)(n' c':Nat),ev=.returned (.slice A' n' c')/\aH w' base 62 4 A' n' c' (cw (ik l e))/\w.grownBy w' none:=by
  have hn:n=l.length:=by have:=ho.cases.1;rw[dg]at this;omega
  have hc:=nK ho;have hA:=dw ho;have hr:=ho.row;apply vc28;dsimp only[VC28,Br,Bb,Rd,Rc,Ix,Ap,Eg,cB,nb,ad,al,iq]
  try simp only[aG]
  have g1:=World.grownBy_alloc w (.cells #[.int .i64 e.t,.int .u32 e.u,.int .u32 e.v,.bool e.add] 62) none;have b1:(w.alloc (.cells #[.int .i64 e.t,.int .u32 e.u,.int .u32 e.v,.bool e.add] 62)).heap[w.heap.size]?=some (.cells #[.int .i64 e.t,.int .u32 e.u,.int .u32 e.v,.bool e.add] 62 (0,0)):=heap_alloc_new w _;obtain⟨w1,Ez⟩:∃ w1,w1=w.alloc (.cells #[.int .i64 e.t,.int .u32 e.u,.int .u32 e.v,.bool e.add] 62):=⟨_,rfl⟩;rw[← Ez]at g1 b1 ⊢;have keep:∀ w',w1.grownBy w' none->w'.heap[w.heap.size]?=some (.cells #[.int .i64 e.t,.int .u32 e.u,.int .u32 e.v,.bool e.add] 62 (0,0)):=fun w' g=>by rw[g.block _ (Array.getElem?_eq_some_iff.1 b1).1 (by simp)];exact b1
  have getD':∀ t (h:t<l.length),l.getD t ⟨0,0,0,false⟩=l[t]:=fun t h=>by simp[List.getD_eq_getElem?_getD,h]
  have QV:=mW l e l.length;refine⟨fun k w'=>k=(cA l e l.length:Int)/\w1.grownBy w' none,⟨fun m k w2=>∃ j:Nat,k=(j:Int)/\j<=l.length/\m=j/\cA l e l.length=cA l e j/\w1.grownBy w2 none,⟨_,l.length,by omega,Nat.le_refl _,rfl,rfl,aD _ _⟩,?_⟩,?_⟩
  · rintro m k w2 ⟨j,rfl,hj,rfl,hp,hg⟩;have gd:=aI hg;have tj:((m:Int)-1).toNat=m-1:=by omega
    rw[tj];refine⟨fun DZ=>?_,fun hz=>⟨?_,gd⟩⟩
    · have b2:=keep _ gd;obtain⟨a,e1,e2,e3,e4,e5⟩:=eS ((hr.kept_none g1).kept_none gd) (show m-1<l.length by omega);refine⟨_,aA b2 0,_,aA b2 1,_,aA b2 2,_,aA b2 3,by omega,a,e1,by omega,by omega,_,e2,_,e3,_,e4,_,e5,?_⟩;refine(vp e l[m-1]).mono fun ev w3 hh=>?_;obtain⟨rfl,g3⟩:=hh;have Fi:cA l e m=if bC e l[m-1]=true then cA l e (m-1) else m:=by
        obtain⟨q,rfl⟩:∃ q,m=q+1:=⟨m-1,by omega⟩;rw[cA,getD' q (by omega)];rfl
      refine⟨_,rfl,fun h=>⟨by omega,m-1,by omega,m-1,by omega,by omega,rfl,by rw[hp,Fi,if_pos h],aB gd g3⟩,fun h=>⟨by rw[hp,Fi,if_neg (by rw[h];simp)],aB gd g3⟩⟩
    · have:m=0:=by omega
      subst this;rw[hp];rfl
  · rintro k w3 ⟨rfl,g3⟩;have F8:ik l e=if 0<cA l e l.length/\(l.getD (cA l e l.length-1) ⟨0,0,0,false⟩).t=e.t/\(l.getD (cA l e l.length-1) ⟨0,0,0,false⟩).u=e.u/\(l.getD (cA l e l.length-1) ⟨0,0,0,false⟩).v=e.v then l else l.take (cA l e l.length)++(e ::l.drop (cA l e l.length)):=rfl;generalize cA l e l.length=k at *;have tk:(k:Int).toNat=k:=by omega
    have tk1:((k:Int)-1).toNat=k-1:=by omega
    rw[tk,tk1];have gd:=aI g3;have b3:=keep _ gd;refine⟨fun q w'=>q=decide (0<k/\(l.getD (k-1) ⟨0,0,0,false⟩).t=e.t/\(l.getD (k-1) ⟨0,0,0,false⟩).u=e.u/\(l.getD (k-1) ⟨0,0,0,false⟩).v=e.v)/\w1.grownBy w' none,⟨fun DZ=>?_,fun hz=>⟨by simp;omega,gd⟩⟩,?_⟩
    · obtain⟨a,e1,e2,e3,e4,e5⟩:=eS ((hr.kept_none g1).kept_none gd) (show k-1<l.length by omega);refine⟨by omega,a,e1,by omega,by omega,_,e2,_,aA b3 0,fun ht=>⟨by omega,a,e1,by omega,by omega,_,e3,_,by rw[eL];exact e4,_,aA b3 1,_,aA b3 2,_,fun w=>y5 _ _ _ _ _ _ w,?_,gd⟩,fun ht=>⟨?_,gd⟩⟩
      · rw[getD' (k-1) (by omega),decide_eq_decide];exact⟨fun h=>⟨by omega,ht,h.1,h.2⟩,fun h=>h.2.2⟩
      · rw[getD' (k-1) (by omega)]
        symm;rw[decide_eq_false_iff_not]
        exact fun h=>ht h.2.1
    · rintro q w4 ⟨hq,g4⟩;refine⟨fun h=>?_,fun h=>?_⟩
      · rw[h]at hq;rw[F8,if_pos (of_decide_eq_true hq.symm)];exact⟨_,_,_,rfl,ho.kept (aB g1 g4),aB g1 g4⟩
      · rw[h]at hq;rw[F8,if_neg (of_decide_eq_false hq.symm)];have gd:=aI g4;have g0d:=aB g1 gd;have rd:=hr.kept_none g0d;refine⟨fun w'=>w1.grownBy w' none,gd,⟨⟨by omega,by omega⟩,?_⟩,⟨⟨by omega,by omega⟩,?_⟩⟩
        · obtain⟨A5,n5,c5,w5,f1,f2,f3,f4⟩:=dU (n:=0) (c:=0) (A:=none) (xs:=[]) (aH.nil w4.drew w4.drew.heap.size 62 4) (m:=k) (d:=c) (uz rd k) (by rw[List.length_take];omega) hA (by omega) (Nat.le_refl _);have g5:w4.drew.grownBy w5 none:=aP (aD w4.drew none) f3 (fun k hk=>by simp[Value.ownBlock]at hk);rw[List.nil_append]at f2;have Jx:=aB gd g5;have ga:=World.grownBy_alloc w5 (.cells #[.int .i64 e.t,.int .u32 e.u,.int .u32 e.v,.bool e.add] 62) none;have ra:bB (w5.alloc (.cells #[.int .i64 e.t,.int .u32 e.u,.int .u32 e.v,.bool e.add] 62)) (some ⟨w5.heap.size,0,none⟩) (cw [e]):=dQ w5 _ 62;obtain⟨A6,n6,c6,w6,p1,p2,p3,p4⟩:=dU (f2.kept ga) (m:=1) (d:=1) ra rfl (fun h=>by cases h) (by omega) (Nat.le_trans g5.size ga.size);have Ov:=aB g5 ga;have g6:=aP Ov p3 f2.block_ge;obtain⟨r7,d7⟩:=CR (k:=k) (rd.kept_none g6) hA (by omega);obtain⟨A7,n7,c7,w7,q1,q2,q3,q4⟩:=dU p2 (m:=n-k) (d:=c-k) r7 (by rw[List.length_drop];omega) d7 (by omega) g6.size;have g7:=aP g6 q3 p2.block_ge;exact⟨_,_,_,w5,f1,Jx,_,fun w' h=>aA (keep w' h) 0,_,fun w' h=>aA (keep w' h) 1,_,fun w' h=>aA (keep w' h) 2,_,fun w' h=>aA (keep w' h) 3,aB Jx ga,_,_,_,w6,p1,aB gd g6,⟨by omega,by omega⟩,_,_,_,w7,q1,aB gd g7,_,_,_,rfl,by simpa using q2.mono (Nat.le_trans hb g0d.size),aB g0d g7⟩
        · refine⟨_,fun w' h=>aA (keep w' h) 0,_,fun w' h=>aA (keep w' h) 1,_,fun w' h=>aA (keep w' h) 2,_,fun w' h=>aA (keep w' h) 3,?_⟩;have ga:=World.grownBy_alloc w4.drew (.cells #[.int .i64 e.t,.int .u32 e.u,.int .u32 e.v,.bool e.add] 62) none;have ra:bB (w4.drew.alloc (.cells #[.int .i64 e.t,.int .u32 e.u,.int .u32 e.v,.bool e.add] 62)) (some ⟨w4.drew.heap.size,0,none⟩) (cw [e]):=dQ w4.drew _ 62;obtain⟨wa,J5⟩:∃ wa,wa=w4.drew.alloc (.cells #[.int .i64 e.t,.int .u32 e.u,.int .u32 e.v,.bool e.add] 62):=⟨_,rfl⟩;show(fun w'=>w1.grownBy w' none) (w4.drew.alloc (.cells #[.int .i64 e.t,.int .u32 e.u,.int .u32 e.v,.bool e.add] 62))/\_;rw[← J5]at ga ra ⊢;obtain⟨A5,n5,c5,w5,f1,f2,f3,f4⟩:=dU (n:=0) (c:=0) (A:=none) (xs:=[]) (aH.nil wa wa.heap.size 62 4) (m:=k) (d:=c) (uz (rd.kept_none ga) k) (by rw[List.length_take];omega) hA (by omega) (Nat.le_refl _);have g5:wa.grownBy w5 none:=aP (aD wa none) f3 (fun k hk=>by simp[Value.ownBlock]at hk);rw[List.nil_append]at f2;obtain⟨A6,n6,c6,w6,p1,p2,p3,p4⟩:=dU f2 (m:=1) (d:=1) (ra.kept_none g5) rfl (fun h=>by cases h) (by omega) g5.size;have g6:=aP g5 p3 f2.block_ge;obtain⟨r7,d7⟩:=CR (k:=k) ((rd.kept_none ga).kept_none g6) hA (by omega);obtain⟨A7,n7,c7,w7,q1,q2,q3,q4⟩:=dU p2 (m:=n-k) (d:=c-k) r7 (by rw[List.length_drop];omega) d7 (by omega) g6.size;have g7:=aP g6 q3 p2.block_ge;have g1a:=aB gd ga;exact⟨g1a,_,_,_,w5,f1,aB g1a g5,_,_,_,w6,p1,aB g1a g6,⟨by omega,by omega⟩,_,_,_,w7,q1,aB g1a g7,_,_,_,rfl,by simpa using q2.mono (Nat.le_trans hb (Nat.le_trans g0d.size ga.size)),aB g0d (aB ga g7)⟩
def jE(t a:Int):Int:=if a>240 then t+a % 4+2^(a % 40).toNat else t+a % 4
def kM(n a b c t:Int)(ts:List aU):List aU:=if(dF b c n).2=true then ik ts ⟨jE t a,(dF b c n).1.1,(dF b c n).1.2,false⟩ else ts
def bS(n:Int):List Int->Int->List aU->List aU
 | a ::b ::c ::l,t,ts=>if ts.length<40 then bS n l (jE t a) (kM n a b c t ts) else ts
 | _,_,ts=>ts
def fD:List aU->List Edge->List aU
 | [],_=>[]
 | e ::l,now=>⟨e.t,e.u,e.v,!decide ((e.u,e.v)∈now)⟩ ::fD l ((bX now ⟨e.t,e.u,e.v,!decide ((e.u,e.v)∈now)⟩).getD [])
def eR(k:Int)(l:List Int):List aU:=fD (bS (iI k) l (k % 3) []) []
theorem BK{a b n:Int}(ha:0<=a)(hb:0<=b)(hn:2<=n/\n<=4294967296)(h:(dF a b n).2=true):0<=(dF a b n).1.1/\(dF a b n).1.1<(dF a b n).1.2/\(dF a b n).1.2<n:=by
 have ua:=nE (most:=230) ha hn;have ub:=nE (most:=240) hb hn;unfold dF at h ⊢;split at h
 ·cases h
 ·rename_i DJ;rw[if_neg DJ];simp only[mn,mx];split <;>split <;>omega
theorem ry(l:List aU)(e:aU):(ik l e).length<=l.length+1:=by
 unfold ik;split
 ·omega
 ·simp only[List.length_append,List.length_cons,List.length_take,List.length_drop];omega
theorem ws{l:List aU}{e x:aU}(h:x∈ik l e):x∈l∨x=e:=by
 unfold ik at h;split at h
 ·exact .inl h
 ·rcases List.mem_append.1 h with q | q
  ·exact .inl (List.mem_of_mem_take q)
  ·rcases List.mem_cons.1 q with q | q
   ·exact .inr q
   ·exact .inl (List.mem_of_mem_drop q)
theorem nD(n a b c t:Int)(ts:List aU):(kM n a b c t ts).length<=ts.length+1:=by
 unfold kM;split
 ·exact ry _ _
 ·omega
theorem iV(n:Int):∀(l:List Int)(t:Int)(ts:List aU),ts.length<=40->(bS n l t ts).length<=40
 | a ::b ::c ::l,t,ts,h=>by
  rw[bS];split
  ·have:=nD n a b c t ts;exact iV n l _ _ (by omega)
  ·exact h
 | [],t,ts,h=>by simpa[bS]using h
 | [_],t,ts,h=>by simpa[bS]using h
 | [_,_],t,ts,h=>by simpa[bS]using h
theorem mK:∀(l:List aU)(now:List Edge),(fD l now).length=l.length
 | [],_=>rfl
 | e ::l,now=>by rw[fD,List.length_cons,List.length_cons,mK l]
theorem qp(k:Int)(l:List Int):(eR k l).length<=40:=by
 rw[eR,mK];exact iV _ _ _ _ (by simp)
theorem sN{N t:Int}{ts:List aU}:∀(q:List Int),q.length<=2->bS N q t ts=ts
 | [],_=>by simp[bS]
 | [_],_=>by simp[bS]
 | [_,_],_=>by simp[bS]
 | _ ::_ ::_ ::_,h=>by simp at h
theorem jy {w:World} {A:OA} {n c:Nat} {l:List Int} {k:Int} (hr:bB w A (cz l)) (hn:n=l.length) (hb:aR l) (hk:0<=k/\k<=255) (hl:n<=2^10) :
    Calls P 9 #[.int .u8 k,.slice A n c] w fun ev w'=>∃(A':OA)(n' c':Nat),ev=.returned (.agg #[.int .u64 (iI k),.slice A' n' c'])/\aH w' w.heap.size 62 4 A' n' c' (cw (eR k l))/\w.grownBy w' none:=by
  apply vc9;dsimp only[VC9,Wt,Br,Bb,Rd,Rc,Rs,Ix,Ap,Ws,cI,cB,cS,nb,ad,al,iq]
  try simp only[aG]
  have hN:=qF k;have g0:=World.grownBy_alloc w (.cells #[.int .u64 0,.slice none 0 0] 25) none;have b0:(w.alloc (.cells #[.int .u64 0,.slice none 0 0] 25)).heap[w.heap.size]?=some (.cells #[.int .u64 0,.slice none 0 0] 25 (0,0)):=heap_alloc_new w _;obtain⟨w0,FN⟩:∃ w0,w0=w.alloc (.cells #[.int .u64 0,.slice none 0 0] 25):=⟨_,rfl⟩;rw[← FN]at g0 b0 ⊢;refine(qE hk).mono fun ev w1 hh=>?_;obtain⟨rfl,g1⟩:=hh;have KW:eR k l=fD (bS (iI k) l (k % 3) []) []:=rfl;have Kc:=iV (iI k) l (k % 3) [] (by simp);generalize iI k=N at *;refine⟨_,rfl,?_⟩;have ga:=World.grownBy_alloc w1 (.cells #[.int .u64 0,.slice none 0 0] 25) none;have s0:(w1.alloc (.cells #[.int .u64 0,.slice none 0 0] 25)).heap[w1.heap.size]?=some (.cells #[.int .u64 0,.slice none 0 0] 25 (0,0)):=heap_alloc_new w1 _;have s1:=aF s0 0 (.int .u64 N);have s2:=aF s1 1 (.slice none 0 0);have K2:Kp w1 (((w1.alloc (.cells #[.int .u64 0,.slice none 0 0] 25)).setCell ⟨w1.heap.size,0,none⟩ (.int .u64 N)).setCell ⟨w1.heap.size,1,none⟩ (.slice none 0 0)) (fun k=>w1.heap.size<=k):=cv (cv (Kp.of_none ga) (Nat.le_refl _)) (Nat.le_refl _);refine⟨⟨_,aA s0 0⟩,aC s0 0,⟨_,aA s1 1⟩,aC s1 1,⟨by omega,by omega⟩,by omega,?_⟩;obtain⟨w2,FM⟩:∃ w2,w2=((w1.alloc (.cells #[.int .u64 0,.slice none 0 0] 25)).setCell ⟨w1.heap.size,0,none⟩ (.int .u64 N)).setCell ⟨w1.heap.size,1,none⟩ (.slice none 0 0):=⟨_,rfl⟩;rw[← FM]at s2 K2 ⊢;replace s2:w2.heap[w1.heap.size]?=some (.cells #[.int .u64 N,.slice none 0 0] 25 (0,0)):=by simpa using s2
  have Fd:w1.grownBy w2 none:=K2.grown (fun k hk e=>by omega);have Fw:=aB g0 g1;have Fe:=aB Fw Fd;have ES:w1.heap.size<w2.heap.size:=(Array.getElem?_eq_some_iff.1 s2).1;have keep:∀ w',w2.grownBy w' none->w'.heap[w1.heap.size]?=some (.cells #[.int .u64 N,.slice none 0 0] 25 (0,0)):=fun w' g=>by rw[g.block _ ES (by simp)];exact s2
  have rd:∀(w':World)(p:Nat),w2.grownBy w' none->(h:p<l.length)->∃ a,A=some a/\w'.cell? (a.add p)=some (.int .u8 l[p]):=fun w' p g h=>((hr.kept_none Fe).kept_none g) p (.int .u8 l[p]) (by simp[h]);refine⟨fun tA tn tc w'=>aH w' w.heap.size 62 4 tA tn tc (cw (bS N l (k % 3) []))/\w2.grownBy w' none,⟨fun m t tA tn tc i w'=>∃(p:Nat)(ts:List aU),i=(p:Int)/\p<=l.length+2/\m=l.length+3-p/\aH w' w.heap.size 62 4 tA tn tc (cw ts)/\ts.length<=40/\0<=t/\t<=(p:Int)*2199023255552+2/\bS N l (k % 3) []=bS N (l.drop p) t ts/\w2.grownBy w' none,
    ⟨_,0,[],rfl,by omega,rfl,aH.nil _ _ _ _,by simp,by omega,by omega,by simp,aD _ _⟩,?_⟩,?_⟩
  · rintro m t tA tn tc i w3 ⟨p,ts,rfl,hp,rfl,ho,HW,LX,SX,JA,hg⟩;have tp:(p:Int).toNat=p:=by omega
    have tp1:((p:Int)+1).toNat=p+1:=by omega
    have tp2:((p:Int)+2).toNat=p+2:=by omega
    rw[tp,tp1,tp2];have IG:tn=ts.length:=by have:=ho.cases.1;rw[dg]at this;omega
    refine⟨by omega,fun DF=>⟨fun SD=>?_,fun SD=>?_⟩,fun DK=>?_⟩
    · have lp:p+2<l.length:=by omega
      have EH:l.drop p=l[p] ::l[p+1] ::l[p+2] ::l.drop (p+3):=by
        rw[List.drop_eq_getElem_cons (show p<l.length by omega),List.drop_eq_getElem_cons (show p+1<l.length by omega),List.drop_eq_getElem_cons (show p+1+1<l.length by omega)]
      rw[EH,bS,if_pos (by omega)]at JA;obtain⟨a,e1,e2⟩:=rd w3 p hg (by omega);have hx:=hb _ (List.getElem_mem (show p<l.length by omega));have hy:=hb _ (List.getElem_mem (show p+1<l.length by omega));have hz:=hb _ (List.getElem_mem (show p+2<l.length by omega));have OV:(2:Int)^(l[p] % 40).toNat<=549755813888/\0<(2:Int)^(l[p] % 40).toNat:=by
        have:=Nat.pow_le_pow_right (n:=2) (by omega) (show(l[p] % 40).toNat<=39 by omega);have:=Nat.two_pow_pos (l[p] % 40).toNat;have e:((2^(l[p] % 40).toNat:Nat):Int)=2^(l[p] % 40).toNat:=by simp
        omega
      refine⟨a,e1,by omega,by omega,_,e2,⟨by omega,by omega⟩,by omega,by omega,fun t1 w'=>t1=jE t l[p]/\w'=w3,⟨a,e1,by omega,by omega,_,e2,fun Jv=>⟨a,e1,by omega,by omega,_,e2,⟨by omega,by omega⟩,⟨by omega,?_⟩,?_,?_,rfl⟩,fun Jv=>⟨by unfold jE;rw[if_neg Jv],rfl⟩⟩,?_⟩
      · rw[show min (l[p] % 40).toNat 64=(l[p] % 40).toNat by omega];omega
      · rw[show min (l[p] % 40).toNat 64=(l[p] % 40).toNat by omega];omega
      · rw[show min (l[p] % 40).toNat 64=(l[p] % 40).toNat by omega];unfold jE;rw[if_pos Jv];omega
      rintro t1 w4 ⟨ht,GC⟩;rw[GC];clear GC;have OK:0<=t1/\t1<=((p+3:Nat):Int)*2199023255552+2:=by rw[ht];unfold jE;split <;>omega
      have gd:=aI hg;obtain⟨a1,q1,q2⟩:=rd w3.drew (p+1) gd (by omega);obtain⟨a2,q3,q4⟩:=rd w3.drew (p+2) gd (by omega);have rdC:∀(p':Nat)(h:p'<l.length)(b:Addr),A=some b->∀ wq,w2.grownBy wq none->wq.cell? (b.add p')=some (.int .u8 l[p']):=fun p' h b E6 wq gq=>by
        obtain⟨b',r1,r2⟩:=rd wq p' gq h;rw[E6]at r1;cases r1;exact r2
      have fin:∀(W:World)(g:Nat),w2.grownBy W none->aH W w.heap.size 62 4 tA tn tc (cw ts)->W.heap[g]?=some (.cells #[.int .u32 (dF l[p+1] l[p+2] N).1.1,.int .u32 (dF l[p+1] l[p+2] N).1.2] 45 (0,0)) →
          ∃ J:OA->Nat->Nat->World->Prop,(((dF l[p+1] l[p+2] N).2=true->∃ x,W.cell? ⟨g,0,none⟩=some (.int .u32 x)/\∃ y,W.cell? ⟨g,1,none⟩=some (.int .u32 y)/\Calls P 28 #[.slice tA tn tc,.agg #[.int .i64 t1,.int .u32 x,.int .u32 y,.bool false]] W fun ev w5=>∃(X:OA)(xn xc:Nat),ev=.returned (.slice X xn xc)/\J X xn xc w5)/\((dF l[p+1] l[p+2] N).2=false->J tA tn tc W)) ∧
          ∀(X:OA)(xn xc:Nat)(w6:World),J X xn xc w6->(-9223372036854775808<=(p:Int)+3/\(p:Int)+3<=9223372036854775807)/\∃ m_1,m_1<l.length+3-p/\∃(p':Nat)(ts':List aU),(p:Int)+3=(p':Int)/\p'<=l.length+2/\m_1=l.length+3-p'/\aH w6 w.heap.size 62 4 X xn xc (cw ts')/\ts'.length<=40/\0<=t1/\t1<=(p':Int)*2199023255552+2/\bS N l (k % 3) []=bS N (l.drop p') t1 ts'/\w2.grownBy w6 none:=by
        intro W g gW oW bW;have MH:=nD N l[p] l[p+1] l[p+2] t ts;refine⟨fun X xn xc w6=>aH w6 w.heap.size 62 4 X xn xc (cw (kM N l[p] l[p+1] l[p+2] t ts))/\w2.grownBy w6 none,⟨fun hok=>⟨_,aA bW 0,_,aA bW 1,?_⟩,fun hok=>⟨?_,gW⟩⟩,?_⟩
        · refine(u4 (e:=⟨t1,(dF l[p+1] l[p+2] N).1.1,(dF l[p+1] l[p+2] N).1.2,false⟩) oW (Nat.le_trans Fe.size gW.size) (by omega)).mono fun ev w5 hh=>?_;obtain⟨X,xn,xc,rfl,oX,g5⟩:=hh;refine⟨_,_,_,rfl,?_,aB gW g5⟩;have:kM N l[p] l[p+1] l[p+2] t ts=ik ts ⟨t1,(dF l[p+1] l[p+2] N).1.1,(dF l[p+1] l[p+2] N).1.2,false⟩:=by unfold kM;rw[if_pos hok,ht]
          rw[this];exact oX
        · have:kM N l[p] l[p+1] l[p+2] t ts=ts:=by unfold kM;rw[if_neg (by rw[hok];simp)]
          rw[this];exact oW
        · rintro X xn xc w6 ⟨oX,g6⟩;exact⟨by omega,l.length+3-(p+3),by omega,p+3,_,by omega,by omega,rfl,oX,by omega,OK.1,OK.2,by rw[JA,ht],g6⟩
      refine⟨fun w'=>w2.grownBy w' none,gd,⟨by omega,a1,q1,by omega,by omega,_,fun wq gq=>rdC (p+1) (by omega) a1 q1 wq gq,by omega,a2,q3,by omega,by omega,_,fun wq gq=>rdC (p+2) (by omega) a2 q3 wq gq,_,fun wq gq=>aA (keep wq gq) 0,?_⟩,⟨by omega,a1,q1,by omega,by omega,_,fun wq gq=>rdC (p+1) (by omega) a1 q1 wq gq,by omega,a2,q3,by omega,by omega,_,fun wq gq=>rdC (p+2) (by omega) a2 q3 wq gq,_,fun wq gq=>aA (keep wq gq) 0,?_⟩⟩
      · refine(pV hy hz hN).mono fun ev w5 hh=>?_;obtain⟨rfl,g5⟩:=hh;have gd5:=aB gd g5;have gE:=World.grownBy_alloc w5 (.cells #[.int .u32 0,.int .u32 0] 45) none;have t0:(w5.alloc (.cells #[.int .u32 0,.int .u32 0] 45)).heap[w5.heap.size]?=some (.cells #[.int .u32 0,.int .u32 0] 45 (0,0)):=heap_alloc_new w5 _;have t1':=aF t0 0 (.int .u32 (dF l[p+1] l[p+2] N).1.1);have t2:=aF t1' 1 (.int .u32 (dF l[p+1] l[p+2] N).1.2);have gS:w5.grownBy (((w5.alloc (.cells #[.int .u32 0,.int .u32 0] 45)).setCell ⟨w5.heap.size,0,none⟩ (.int .u32 (dF l[p+1] l[p+2] N).1.1)).setCell ⟨w5.heap.size,1,none⟩ (.int .u32 (dF l[p+1] l[p+2] N).1.2)) none:=(cv (cv (Kp.of_none (S:=fun k=>w5.heap.size<=k) gE) (Nat.le_refl _)) (Nat.le_refl _)).grown (fun k hk e=>by omega);have gA:=aB gd5 gS;exact⟨_,_,_,rfl,gd5,aB gd5 gE,⟨_,aA t0 0⟩,aC t0 0,⟨_,aA t1' 1⟩,aC t1' 1,gA,fin _ _ gA (ho.kept (aB (aB (aI (aD w3 none)) g5) gS)) (by simpa using t2)⟩
      · have gE:=World.grownBy_alloc w3.drew (.cells #[.int .u32 0,.int .u32 0] 45) none;have t0:(w3.drew.alloc (.cells #[.int .u32 0,.int .u32 0] 45)).heap[w3.drew.heap.size]?=some (.cells #[.int .u32 0,.int .u32 0] 45 (0,0)):=heap_alloc_new w3.drew _;refine⟨aB gd gE,(pV hy hz hN).mono fun ev w7 hh=>?_⟩;obtain⟨rfl,g7⟩:=hh;have gd7:=aB (aB gd gE) g7;have t0':w7.heap[w3.drew.heap.size]?=some (.cells #[.int .u32 0,.int .u32 0] 45 (0,0)):=by rw[g7.block _ (Array.getElem?_eq_some_iff.1 t0).1 (by simp)];exact t0
        have t1':=aF t0' 0 (.int .u32 (dF l[p+1] l[p+2] N).1.1);have t2:=aF t1' 1 (.int .u32 (dF l[p+1] l[p+2] N).1.2);have gS:w3.drew.grownBy ((w7.setCell ⟨w3.drew.heap.size,0,none⟩ (.int .u32 (dF l[p+1] l[p+2] N).1.1)).setCell ⟨w3.drew.heap.size,1,none⟩ (.int .u32 (dF l[p+1] l[p+2] N).1.2)) none:=(cv (cv (Kp.of_none (S:=fun k=>w3.drew.heap.size<=k) (aB gE g7)) (Nat.le_refl _)) (Nat.le_refl _)).grown (fun k hk e=>by omega);have gA:=aB gd gS;exact⟨_,_,_,rfl,gd7,⟨_,aA t0' 0⟩,aC t0' 0,⟨_,aA t1' 1⟩,aC t1' 1,gA,fin _ _ gA (ho.kept (aB (aI (aD w3 none)) gS)) (by simpa using t2)⟩
    · have lp:p+2<l.length:=by omega
      have EH:l.drop p=l[p] ::l[p+1] ::l[p+2] ::l.drop (p+3):=by
        rw[List.drop_eq_getElem_cons (show p<l.length by omega),List.drop_eq_getElem_cons (show p+1<l.length by omega),List.drop_eq_getElem_cons (show p+1+1<l.length by omega)]
      rw[EH,bS,if_neg (by omega)]at JA;rw[JA];exact⟨ho,hg⟩
    · rw[sN (l.drop p) (by rw[List.length_drop];omega)]at JA;rw[JA];exact⟨ho,hg⟩
  · rintro tA tn tc DX ⟨oT,FV⟩;generalize bS N l (k % 3) []=ts at *;have LV:ts.length<=40:=Kc;have IG:tn=ts.length:=by have:=oT.cases.1;rw[dg]at this;omega
    have P7:=keep DX FV;have LM:=aB Fe FV;have l10:w1.heap.size<DX.heap.size:=Nat.lt_of_lt_of_le ES FV.size;have bw10:DX.heap[w.heap.size]?=some (.cells #[.int .u64 0,.slice none 0 0] 25 (0,0)):=by
      rw[(aB g1 (aB Fd FV)).block _ (Array.getElem?_eq_some_iff.1 b0).1 (by simp)];exact b0
    have lw0:w.heap.size<w1.heap.size:=Nat.lt_of_lt_of_le (Array.getElem?_eq_some_iff.1 b0).1 g1.size;refine⟨fun m nA nn nc i w'=>∃(j:Nat)(now:List Edge)(out:List aU)(hA:OA)(hn hc:Nat),i=(j:Int)/\j<=ts.length/\m=ts.length-j/\aH w' DX.heap.size 45 2 nA nn nc (edges now)/\now.length<=j/\aH w' DX.heap.size 62 4 hA hn hc (cw out)/\out.length=j/\fD ts []=out++fD (ts.drop j) now/\w'.heap[w1.heap.size]?=some (.cells #[.int .u64 N,.slice hA hn hc] 25 (0,0))/\Kp DX w' (fun q=>q=w1.heap.size∨DX.heap.size<=q),
      ⟨_,0,[],[],none,0,0,rfl,by omega,rfl,aH.nil _ _ _ _,by simp,aH.nil _ _ _ _,rfl,by simp,P7,Kp.refl _ _⟩,?_⟩
    rintro m nA nn nc i Ej ⟨j,now,out,hA,ER,G8,rfl,hj,rfl,oN,Ih,oH,E7,E8,bH,K11⟩;have tj:(j:Int).toNat=j:=by omega
    rw[tj];have HE:nn=now.length:=by have:=oN.cases.1;rw[dA]at this;omega
    have Tm:ER=out.length:=by have:=oH.cases.1;rw[dg]at this;omega
    have lH:=(Array.getElem?_eq_some_iff.1 bH).1;refine⟨fun DF=>?_,fun DK=>?_⟩
    · have lj:j<ts.length:=by omega
      rw[List.drop_eq_getElem_cons lj,fD]at E8;have oT11:=oT.kp K11 (fun q hq e=>by
        rcases e with e | e
        · obtain⟨cur,h⟩:=oT.block_type q hq;rw[e,P7]at h;cases h
        · have:=oT.block_lt q hq;omega)
      obtain⟨a,e1,e2,e3,e4,e5⟩:=eS oT11.row lj;have ga:=World.grownBy_alloc Ej (.cells #[.int .i64 0,.int .u32 0,.int .u32 0,.bool false] 62) none;have s0:(Ej.alloc (.cells #[.int .i64 0,.int .u32 0,.int .u32 0,.bool false] 62)).heap[Ej.heap.size]?=some (.cells #[.int .i64 0,.int .u32 0,.int .u32 0,.bool false] 62 (0,0)):=heap_alloc_new Ej _;obtain⟨wa,J5⟩:∃ wa,wa=Ej.alloc (.cells #[.int .i64 0,.int .u32 0,.int .u32 0,.bool false] 62):=⟨_,rfl⟩;rw[← J5]at ga s0 ⊢;have s1:=aF s0 0 (.int .i64 ts[j].t);have s2':=aF s1 1 (.int .u32 ts[j].u);have s3:=aF s2' 2 (.int .u32 ts[j].v);have s4:=aF s3 3 (.bool ts[j].add);have K4:Kp Ej ((((wa.setCell ⟨Ej.heap.size,0,none⟩ (.int .i64 ts[j].t)).setCell ⟨Ej.heap.size,1,none⟩ (.int .u32 ts[j].u)).setCell ⟨Ej.heap.size,2,none⟩ (.int .u32 ts[j].v)).setCell ⟨Ej.heap.size,3,none⟩ (.bool ts[j].add)) (fun k=>Ej.heap.size<=k):=cv (cv (cv (cv (Kp.of_none ga) (Nat.le_refl _)) (Nat.le_refl _)) (Nat.le_refl _)) (Nat.le_refl _);refine⟨a,e1,by omega,by omega,_,e2,_,e3,_,e4,_,e5,⟨_,aA s0 0⟩,aC s0 0,⟨_,aA s1 1⟩,aC s1 1,⟨_,aA s2' 2⟩,aC s2' 2,⟨_,aA s3 3⟩,aC s3 3,?_⟩;obtain⟨w4,GC⟩:∃ w4,w4=(((wa.setCell ⟨Ej.heap.size,0,none⟩ (.int .i64 ts[j].t)).setCell ⟨Ej.heap.size,1,none⟩ (.int .u32 ts[j].u)).setCell ⟨Ej.heap.size,2,none⟩ (.int .u32 ts[j].v)).setCell ⟨Ej.heap.size,3,none⟩ (.bool ts[j].add):=⟨_,rfl⟩;rw[← GC]at s4 K4 ⊢;replace s4:w4.heap[Ej.heap.size]?=some (.cells #[.int .i64 ts[j].t,.int .u32 ts[j].u,.int .u32 ts[j].v,.bool ts[j].add] 62 (0,0)):=by simpa using s4
      have LL:Ej.grownBy w4 none:=K4.grown (fun k hk e=>by omega);refine⟨_,aA s4 1,_,aA s4 2,?_⟩;refine(Am (e:=(ts[j].u,ts[j].v)) (oN.kept LL).row HE (by omega)).mono fun ev Hk hh=>?_;obtain⟨rfl,g12'⟩:=hh;have s5:Hk.heap[Ej.heap.size]?=some (.cells #[.int .i64 ts[j].t,.int .u32 ts[j].u,.int .u32 ts[j].v,.bool ts[j].add] 62 (0,0)):=by rw[g12'.block _ (Array.getElem?_eq_some_iff.1 s4).1 (by simp)];exact s4
      have s6:=aF s5 3 (.bool (decide (decide ((ts[j].u,ts[j].v)∈now)=false)));have gS:Ej.grownBy (Hk.setCell ⟨Ej.heap.size,3,none⟩ (.bool (decide (decide ((ts[j].u,ts[j].v)∈now)=false)))) none:=(cv (Kp.of_none (S:=fun k=>Ej.heap.size<=k) (aB LL g12')) (Nat.le_refl _)).grown (fun k hk e=>by omega);refine⟨_,rfl,⟨_,aA s5 3⟩,aC s5 3,_,aA s6 0,_,aA s6 1,_,aA s6 2,_,aA s6 3,?_⟩;have MZ:decide (decide ((ts[j].u,ts[j].v)∈now)=false)=!decide ((ts[j].u,ts[j].v)∈now):=by cases decide ((ts[j].u,ts[j].v)∈now) <;>rfl
      rw[MZ]at s6 gS ⊢;obtain⟨wb,Ql⟩:∃ wb,wb=Hk.setCell ⟨Ej.heap.size,3,none⟩ (.bool (!decide ((ts[j].u,ts[j].v)∈now))):=⟨_,rfl⟩;rw[← Ql]at s6 gS ⊢;replace s6:wb.heap[Ej.heap.size]?=some (.cells #[.int .i64 ts[j].t,.int .u32 ts[j].u,.int .u32 ts[j].v,.bool (!decide ((ts[j].u,ts[j].v)∈now))] 62 (0,0)):=by simpa using s6
      have oNb:=oN.kept gS;refine(xK (e:=⟨ts[j].t,ts[j].u,ts[j].v,!decide ((ts[j].u,ts[j].v)∈now)⟩) oNb.row HE (nK oNb) (dw oNb) (by omega)).mono fun ev Fz hh=>?_;obtain⟨X,xn,xc,rfl,oX,EO⟩:=hh;have Hi:=aB gS EO;have s7:Fz.heap[Ej.heap.size]?=some (.cells #[.int .i64 ts[j].t,.int .u32 ts[j].u,.int .u32 ts[j].v,.bool (!decide ((ts[j].u,ts[j].v)∈now))] 62 (0,0)):=by rw[EO.block _ (Array.getElem?_eq_some_iff.1 s6).1 (by simp)];exact s6
      have bH13:Fz.heap[w1.heap.size]?=some (.cells #[.int .u64 N,.slice hA ER G8] 25 (0,0)):=by rw[Hi.block _ lH (by simp)];exact bH
      have gal:=World.grownBy_alloc Fz (.cells #[.int .i64 ts[j].t,.int .u32 ts[j].u,.int .u32 ts[j].v,.bool (!decide ((ts[j].u,ts[j].v)∈now))] 62) none;have ra:bB (Fz.alloc (.cells #[.int .i64 ts[j].t,.int .u32 ts[j].u,.int .u32 ts[j].v,.bool (!decide ((ts[j].u,ts[j].v)∈now))] 62)) (some ⟨Fz.heap.size,0,none⟩) (cw [⟨ts[j].t,ts[j].u,ts[j].v,!decide ((ts[j].u,ts[j].v)∈now)⟩]):=dQ Fz _ 62;have gfull:=aB Hi gal;have sz:=K11.size;obtain⟨C,cn,cc,Jy,p1,p2,p3,p4⟩:=dU (oH.kept gfull) (m:=1) (d:=1) ra rfl (fun h=>by cases h) (by omega) (Nat.le_trans sz gfull.size);have bH14:Jy.heap[w1.heap.size]?=some (.cells #[.int .u64 N,.slice hA ER G8] 25 (0,0)):=by
        rw[p3.block _ (Nat.lt_of_lt_of_le lH gfull.size) (fun e=>by have:=oH.block_ge _ e.symm;omega),gal.block _ (Nat.lt_of_lt_of_le lH Hi.size) (by simp)];exact bH13
      have bH15:=aF bH14 1 (.slice C cn cc);have ID:((bX now ⟨ts[j].t,ts[j].u,ts[j].v,!decide ((ts[j].u,ts[j].v)∈now)⟩).getD []).length<=now.length+1:=by
        cases h:bX now ⟨ts[j].t,ts[j].u,ts[j].v,!decide ((ts[j].u,ts[j].v)∈now)⟩with
        | none=>simp
        | some x=>exact tD h
      have KS:Kp Jy (Jy.setCell ⟨w1.heap.size,1,none⟩ (.slice C cn cc)) (fun q=>q=w1.heap.size):=cv (Kp.refl Jy _) rfl;have oX14:=(oX.kept gal).apart p3 (ll (oX.kept gal) (oH.kept gfull) (by decide));refine⟨_,_,_,_,rfl,_,_,_,aA bH13 1,_,aA s7 0,_,aA s7 1,_,aA s7 2,_,aA s7 3,C,cn,cc,Jy,p1,⟨_,aA bH14 1⟩,aC bH14 1,by omega,ts.length-(j+1),by omega,j+1,_,_,C,cn,cc,by omega,by omega,rfl,(oX14.mono (Nat.le_trans sz gS.size)).kp KS (fun q hq e=>by have:=oX14.block_ge q hq;have:=gS.size;omega),by omega,p2.kp KS (fun q hq e=>by have:=p2.block_ge q hq;omega),by simp;omega,?_,by simpa using bH15,(((K11.step gfull (fun k hk=>by cases hk)).step p3 (fun k hk=>.inr (.inr (oH.block_ge k hk)))).then KS (fun q _ e=>.inl e))⟩;rw[E8];simp
    · have e:j=ts.length:=by omega
      subst e;rw[List.drop_length]at E8;have bw:Ej.heap[w.heap.size]?=some (.cells #[.int .u64 0,.slice none 0 0] 25 (0,0)):=by
        rw[K11.block _ (by omega) (by omega)];exact bw10
      have s1:=aF bw 0 (.int .u64 N);have s2':=aF s1 1 (.slice hA ER G8);have KK:Kp w ((Ej.setCell ⟨w.heap.size,0,none⟩ (.int .u64 N)).setCell ⟨w.heap.size,1,none⟩ (.slice hA ER G8)) (fun q=>w.heap.size<=q):=cv (cv ((Kp.of_none LM).then K11 (fun q hq e=>by omega)) (Nat.le_refl _)) (Nat.le_refl _);refine⟨_,aA bH 0,_,_,_,aA bH 1,⟨_,aA bw 0⟩,aC bw 0,⟨_,aA s1 1⟩,aC s1 1,_,aA s2' 0,_,_,_,aA s2' 1,_,_,_,rfl,?_,KK.grown (fun q hq e=>by omega)⟩;have hx:eR k l=out:=by rw[KW,E8];simp[fD]
      rw[hx];exact(aH.kp oH (cv (cv (Kp.refl Ej (fun q=>q=w.heap.size)) rfl) rfl) (fun q hq e=>by have:=oH.block_ge q hq;omega)).mono LM.size
def fp(l:List Edge):Prop:=l.Pairwise fun a b=>aK a b=true
theorem dI{a b:Edge}:aK a b=true↔a.1<b.1∨a.1=b.1/\a.2<b.2:=by simp[aK]
theorem lw{a b c:Edge}(h:aK a b=true)(k:aK b c=true):aK a c=true:=by
 rw[dI]at *;omega
theorem rr{a b:Edge}(h:aK a b=true):a≠b:=by
 rintro rfl;rw[dI]at h;omega
theorem pN{a b:Edge}(h:aK a b=false)(k:a≠b):aK b a=true:=by
 have h':¬ aK a b=true:=by rw[h];simp
 rw[dI]at *;obtain⟨a1,a2⟩:=a;obtain⟨b1,b2⟩:=b;simp only[ne_eq,Prod.mk.injEq]at k h' ⊢;omega
theorem wc{a b:Edge}(h:aK a b=true):aK b a=false:=by
 have:¬ aK b a=true:=by intro k;rw[dI]at *;omega
 simpa using this
theorem uG(e:Edge)(l:List Edge):eu (e ::l)=true↔(∀ x,l.head?=some x->aK e x=true)/\eu l=true:=by
 unfold eu;simp only[List.all_eq_true,List.mem_range,List.length_cons];constructor
 ·intro h;refine⟨fun x hx=>?_,fun i hi=>?_⟩
  ·cases l with
   | nil=>simp at hx
   | cons y l=>simp at hx;subst hx;simpa using h 0 (by simp)
  ·simpa using h (i+1) (by omega)
 ·rintro⟨h1,h2⟩ i hi;cases i with
  | zero =>
   cases l with
   | nil=>simp at hi
   | cons y l=>simpa using h1 y rfl
  | succ i=>simpa using h2 i (by omega)
theorem fJ(l:List Edge):eu l=true↔fp l:=by
 induction l with
 | nil=>simp[eu,fp]
 | cons e l ih =>
  rw[uG,ih];unfold fp;rw[List.pairwise_cons];constructor
  ·rintro⟨h1,h2⟩;refine⟨fun x hx=>?_,h2⟩;cases l with
   | nil=>simp at hx
   | cons y l =>
    have hy:=h1 y rfl;rcases List.mem_cons.1 hx with rfl | hx
    ·exact hy
    ·exact lw hy ((List.pairwise_cons.1 h2).1 x hx)
  ·rintro⟨h1,h2⟩;exact⟨fun x hx=>h1 x (List.mem_of_head? hx),h2⟩
theorem fp.nodup{l:List Edge}(h:fp l):l.Nodup:=h.imp (fun h=>rr h)
theorem fp.ext{l m:List Edge}(hl:fp l)(hm:fp m)(h:∀ e,e∈l↔e∈m):l=m:=by
 induction l generalizing m with
 | nil =>
  cases m with
  | nil=>rfl
  | cons e m=>exact absurd ((h e).2 (by simp)) (by simp)
 | cons a l ih =>
  cases m with
  | nil=>exact absurd ((h a).1 (by simp)) (by simp)
  | cons b m =>
   have GK:=List.pairwise_cons.1 hl;have L9:=List.pairwise_cons.1 hm;have Hc:a=b:=by
    rcases List.mem_cons.1 ((h a).1 (by simp))with e | e
    ·exact e
    ·rcases List.mem_cons.1 ((h b).2 (by simp))with e' | e'
     ·exact e'.symm
     ·have h1:=L9.1 a e;have h2:=GK.1 b e';rw[wc h1]at h2;cases h2
   subst Hc;rw[ih GK.2 L9.2 fun e=>?_];constructor
   ·intro he;rcases List.mem_cons.1 ((h e).1 (by simp[he]))with e' | e'
    ·subst e';exact absurd rfl (rr (GK.1 e he))
    ·exact e'
   ·intro he;rcases List.mem_cons.1 ((h e).2 (by simp[he]))with e' | e'
    ·subst e';exact absurd rfl (rr (L9.1 e he))
    ·exact e'
theorem zQ(l:List Edge)(e:Edge):l.take (jQ l e)=l.takeWhile fun x=>aK x e:=by
 have h:=List.takeWhile_append_dropWhile (p:=fun x=>aK x e) (l:=l)
 conv=>lhs;rw[← h]
 unfold jQ;exact List.take_left' (by rw[h])
theorem AB(l:List Edge)(e:Edge):l.drop (jQ l e)=l.dropWhile fun x=>aK x e:=by
 have h:=List.takeWhile_append_dropWhile (p:=fun x=>aK x e) (l:=l)
 conv=>lhs;rw[← h]
 unfold jQ;exact List.drop_left' (by rw[h])
theorem Bw{l:List Edge}{e:Edge}(h:fp l)(he:e ∉ l):fp (l.take (jQ l e)++(e ::l.drop (jQ l e))):=by
 rw[zQ,AB];have h0:=h;rw[← List.takeWhile_append_dropWhile (p:=fun x=>aK x e) (l:=l)]at h0;obtain⟨h1,h2,h3⟩:=List.pairwise_append.1 h0;have DF:∀ a∈l.takeWhile (fun x=>aK x e),aK a e=true:=by
  have h:=List.all_takeWhile (p:=fun x=>aK x e) (l:=l);exact List.all_eq_true.1 h
 have ET:∀ a∈l.dropWhile (fun x=>aK x e),aK e a=true:=by
  intro a ha;have DU:∀ a∈l.dropWhile (fun x=>aK x e),a∈l:=fun a ha=>List.dropWhile_sublist _ |>.mem ha;generalize hd:l.dropWhile (fun x=>aK x e)=d at *;cases d with
  | nil=>simp at ha
  | cons y d =>
   have hy:aK y e=false:=by
    have:=List.head?_dropWhile_not (fun x=>aK x e) l;rw[hd]at this;simpa using this
   have OC:aK e y=true:=pN hy (fun h=>he (h▸DU y (by simp)));rcases List.mem_cons.1 ha with rfl | ha
   ·exact OC
   ·exact lw OC ((List.pairwise_cons.1 h2).1 a ha)
 refine List.pairwise_append.2 ⟨h1,List.pairwise_cons.2 ⟨ET,h2⟩,fun a ha b hb=>?_⟩;rcases List.mem_cons.1 hb with rfl | hb
 ·exact DF a ha
 ·exact h3 a ha b hb
theorem CH{l:List Edge}{e x:Edge}:x∈l.take (jQ l e)++(e ::l.drop (jQ l e))↔x=e∨x∈l:=by
 have h:x∈l↔x∈l.take (jQ l e)++l.drop (jQ l e):=by rw[List.take_append_drop]
 rw[h,List.mem_append,List.mem_append,List.mem_cons];constructor <;>rintro(h | h | h) <;>simp[h]
theorem ul(l:List Edge)(e:Edge):l.take (l.idxOf e)++l.drop (l.idxOf e+1)=l.erase e:=by
 rw[← List.eraseIdx_eq_take_drop_succ,List.erase_eq_eraseIdx_of_idxOf (i:=l.idxOf e)];rfl
theorem oJ{l:List Edge}(h:fp l)(e:aU):bX l e=none↔e.add=decide ((e.u,e.v)∈l):=by
 unfold bX;rw[if_neg (by rw[(fJ l).2 h];simp)];split
 ·simp_all
 ·rename_i DJ;constructor
  ·intro h;split at h <;>cases h
  ·intro h;exact absurd h DJ
theorem zO{l:List Edge}{e:aU}{x:List Edge}(hx:bX l e=some x):fp l:=by
 unfold bX at hx;split at hx
 ·cases hx
 ·rename_i h;exact(fJ l).1 (by simpa using h)
theorem gM{l:List Edge}{e:aU}{x:List Edge}(hx:bX l e=some x):fp x/\(∀ a,a∈x↔if a=(e.u,e.v) then e.add=true else a∈l)/\(e.add=!decide ((e.u,e.v)∈l)):=by
 have h:=zO hx;have DJ:¬ e.add=decide ((e.u,e.v)∈l):=fun k=>by rw[(oJ h e).2 k]at hx;cases hx
 have IT:e.add=!decide ((e.u,e.v)∈l):=by
  cases h1:e.add <;>cases h2:decide ((e.u,e.v)∈l) <;>simp_all
 unfold bX at hx;rw[if_neg (by rw[(fJ l).2 h];simp),if_neg DJ]at hx;refine⟨?_,?_,IT⟩
 ·split at hx
  ·cases hx;rw[ul];exact List.Pairwise.sublist List.erase_sublist h
  ·rename_i ha;cases hx;refine Bw h fun hm=>?_;simp[hm]at IT;exact ha IT
 ·intro a;split at hx
  ·rename_i ha;cases hx;rw[ul,h.nodup.mem_erase_iff];split
   ·rename_i e;simp[e,ha]
   ·rename_i e;simp[e]
  ·rename_i ha;cases hx;rw[CH];split
   ·rename_i e;simp[e];simpa using ha
   ·rename_i e;simp[e]
theorem Ba{l x:List Edge}{e:aU}(hx:bX l e=some x){a:Edge}(ha:a∈x):a∈l∨a=(e.u,e.v):=by
 have:=(gM hx).2.1 a;by_cases e':a=(e.u,e.v)
 ·exact .inr e'
 ·rw[if_neg e']at this;exact .inl (this.1 ha)
def j4(N:Int):List aU->Option aU->List Edge->Prop
 | [],_,_=>True
 | e ::l,p,now=>(0<=e.t/\e.t<=4611686018427387903)/\(e.u<e.v/\e.v<N)/\(∀ q,p=some q->bC q e=true)/\∃ x,bX now e=some x/\j4 N l (some e) x
theorem nv{N:Int}:∀ {l:List aU} {p:Option aU} {now:List Edge} {i:Nat},((dr N l p now i).2=0↔j4 N l p now)/\((dr N l p now i).2=0->(dr N l p now i).1=0)
 | [],p,now,i=>by simp[dr,j4]
 | e ::l,p,now,i=>by
  rw[nY,j4];by_cases h1:e.t<0∨e.t>4611686018427387903
  ·rw[if_pos h1];exact⟨⟨fun h=>by simp at h,fun h=>by omega⟩,fun h=>by simp at h⟩
  rw[if_neg h1];by_cases h2:nL N e=false
  ·rw[if_pos h2];refine⟨⟨fun h=>by simp at h,fun h=>?_⟩,fun h=>by simp at h⟩;have:nL N e=true:=by simpa[nL]using h.2.1
   rw[this]at h2;cases h2
  rw[if_neg h2];have Ht:e.u<e.v/\e.v<N:=by simpa[nL]using h2
  have hp:(∀ q,p=some q->bC q e=true)↔(match p with | none=>true | some q=>bC q e)=true:=by
   cases p with
   | none=>simp
   | some q=>simp
  have hm:∀ b:Bool,((∀ q,p=some q->bC q e=true)↔b=true)->∀ z:Int×Int,((if b=false then((i:Int),23) else z).2=0->(∀ q,p=some q->bC q e=true)/\z.2=0/\((if b=false then((i:Int),23) else z).1=z.1))/\((∀ q,p=some q->bC q e=true)->(if b=false then((i:Int),23) else z)=z):=by
   intro b hb z;cases b
   ·exact⟨fun h=>by simp at h,fun h=>by have:=hb.1 h;cases this⟩
   ·exact⟨fun h=>⟨hb.2 rfl,by simpa using h,rfl⟩,fun h=>rfl⟩
  have M8:=hm _ hp (match bX now e with | none=>((i:Int),25) | some x=>dr N l (some e) x (i+1));have hx:((match bX now e with | none=>((i:Int),25) | some x=>dr N l (some e) x (i+1)):Int×Int).2=0->∃ x,bX now e=some x/\j4 N l (some e) x/\((match bX now e with | none=>((i:Int),25) | some x=>dr N l (some e) x (i+1)):Int×Int).1=0:=by
   intro h;cases ht:bX now e with
   | none=>rw[ht]at h;simp at h
   | some x =>
    rw[ht]at h;have ih:=nv (N:=N) (l:=l) (p:=some e) (now:=x) (i:=i+1);exact⟨x,rfl,ih.1.1 h,ih.2 h⟩
  have hy:∀ x,bX now e=some x->j4 N l (some e) x->((match bX now e with | none=>((i:Int),25) | some x=>dr N l (some e) x (i+1)):Int×Int).2=0:=by
   intro x ht h;rw[ht];exact(nv (N:=N) (l:=l) (p:=some e) (now:=x) (i:=i+1)).1.2 h
  refine⟨⟨fun h=>?_,fun h=>?_⟩,fun h=>?_⟩
  ·obtain⟨q1,q2,_⟩:=M8.1 h;obtain⟨x,q3,q4,_⟩:=hx q2;exact⟨by omega,Ht,q1,x,q3,q4⟩
  ·obtain⟨x,q3,q4⟩:=h.2.2.2;have:=M8.2 h.2.2.1;exact(congrArg Prod.snd this).trans (hy x q3 q4)
  ·obtain⟨q1,q2,q5⟩:=M8.1 h;obtain⟨x,q3,q4,q6⟩:=hx q2;exact q5.trans q6
theorem my{N:Int}{l:List aU}:(fm N l).2=0↔N<=4294967296/\l.length<=2147483648/\j4 N l none []:=by
 unfold fm;split
 ·constructor
  ·intro h;simp at h
  ·intro h;omega
 ·rw[nv.1];constructor
  ·intro h;exact⟨by omega,by omega,h⟩
  ·intro h;exact h.2.2
theorem nk(e:aU)(l:List aU)(now:List Edge):eG (e ::l) now=eG l ((bX now e).getD []):=rfl
theorem vf(l m:List aU)(now:List Edge):eG (l++m) now=eG m (eG l now):=by unfold eG;rw[List.foldl_append]
def f9(l:List aU)(p:Option aU):Option aU:=l.foldl (fun _ e=>some e) p
theorem j4.drop{N:Int}:∀ {l:List aU} {p:Option aU} {now:List Edge} (i:Nat),j4 N l p now->j4 N (l.drop i) (f9 (l.take i) p) (eG (l.take i) now)
 | l,p,now,0,h=>by simpa[f9,eG]using h
 | [],p,now,i+1,h=>by simp[j4]
 | e ::l,p,now,i+1,h=>by
  obtain⟨_,_,_,x,hx,h'⟩:=h;have ih:=j4.drop i h';rw[List.take_succ_cons,nk,hx];exact ih
theorem j4.take{N:Int}:∀ {l:List aU} {p:Option aU} {now:List Edge} (i:Nat),j4 N l p now->j4 N (l.take i) p now
 | l,p,now,0,h=>by simp[j4]
 | [],p,now,i+1,h=>by simp[j4]
 | e ::l,p,now,i+1,h=>by
  obtain⟨h1,h2,h3,x,hx,h'⟩:=h;rw[List.take_succ_cons];exact⟨h1,h2,h3,x,hx,j4.take i h'⟩
theorem j4.free{N:Int}{l:List aU}{p:Option aU}{now:List Edge}(h:j4 N l p now):j4 N l none now:=by
 cases l with
 | nil=>trivial
 | cons e l=>exact⟨h.1,h.2.1,fun q hq=>(by cases hq),h.2.2.2⟩
theorem j4.step{N:Int}{l:List aU}{p:Option aU}{now:List Edge}(h:j4 N l p now){i:Nat}(hi:i<l.length):∃ x,bX (eG (l.take i) now) l[i]=some x/\eG (l.take (i+1)) now=x:=by
 have hd:=h.drop i;rw[List.drop_eq_getElem_cons hi]at hd;obtain⟨_,_,_,x,hx,_⟩:=hd;refine⟨x,hx,?_⟩;rw[List.take_succ_eq_append_getElem hi,vf,nk,hx];rfl
theorem j4.mem{N:Int}:∀ {l:List aU} {p:Option aU} {now:List Edge},j4 N l p now->∀ e∈l,(0<=e.t/\e.t<=4611686018427387903)/\e.u<e.v/\e.v<N
 | [],_,_,_,e,he=>by simp at he
 | a ::l,p,now,h,e,he=>by
  rcases List.mem_cons.1 he with rfl | he
  ·exact⟨h.1,h.2.1⟩
  ·obtain⟨x,_,h'⟩:=h.2.2.2;exact h'.mem e he
theorem j4.fold{N:Int}:∀ {l:List aU} {p:Option aU} {now:List Edge},j4 N l p now->fp now->fp (eG l now)/\∀ a∈eG l now,a∈now∨∃ e∈l,a=(e.u,e.v)
 | [],_,now,_,hr=>⟨hr,fun a ha=>.inl ha⟩
 | e ::l,p,now,h,hr=>by
  obtain⟨x,hx,h'⟩:=h.2.2.2;rw[nk,hx];have ih:=h'.fold (gM hx).1;refine⟨ih.1,fun a ha=>?_⟩;rcases ih.2 a ha with k | ⟨e',k1,k2⟩
  ·rcases Ba hx k with k | k
   ·exact .inl k
   ·exact .inr ⟨e,by simp,k⟩
  ·exact .inr ⟨e',by simp[k1],k2⟩
theorem dT{a b:aU}:bC a b=true↔a.t<b.t∨a.t=b.t/\(a.u<b.u∨a.u=b.u/\a.v<b.v):=by
 simp[bC,aK]
theorem mN{a b c:aU}(h:bC a b=true)(k:bC b c=true):bC a c=true:=by
 rw[dT]at *;omega
theorem q8(l:List aU)(e:aU):∀ k,k<=l.length->(∀ j (hj:j<l.length),cA l e k<=j->j<k->bC e l[j]=true)/\(∀ j (hj:j<l.length),cA l e k=j+1->bC e l[j]=false)
 | 0,_=>⟨fun j hj h1 h2=>by omega,fun j hj h=>by simp[cA]at h⟩
 | k+1,hk=>by
  have ih:=q8 l e k (by omega);have hg:l.getD k ⟨0,0,0,false⟩=l[k]:=by simp[List.getD_eq_getElem?_getD,show k<l.length by omega]
  unfold cA;rw[hg];split
  ·rename_i hb;refine⟨fun j hj h1 h2=>?_,ih.2⟩;by_cases e':j=k
   ·subst e';exact hb
   ·exact ih.1 j hj h1 (by omega)
  ·rename_i hb;refine⟨fun j hj h1 h2=>by omega,fun j hj h=>?_⟩;have:j=k:=by omega
   subst this;simpa using hb
def mO(l:List aU):Prop:=l.Pairwise fun a b=>bC a b=true
theorem u5{l:List aU}{e:aU}(h:mO l):mO (ik l e):=by
 unfold ik;split
 ·exact h
 ·rename_i DJ;obtain⟨p1,p2⟩:=q8 l e l.length (Nat.le_refl _);have DQ:=mW l e l.length;generalize cA l e l.length=k at *;have h0:=h;unfold mO at h0;rw[← List.take_append_drop k l]at h0;obtain⟨h1,h2,h3⟩:=List.pairwise_append.1 h0;have ET:∀ a∈l.drop k,bC e a=true:=by
   intro a ha;obtain⟨j,hj,rfl⟩:=List.mem_iff_getElem.1 ha;rw[List.getElem_drop];rw[List.length_drop]at hj;exact p1 (k+j) (by omega) (by omega) (by omega)
  have DF:∀ a∈l.take k,bC a e=true:=by
   intro a ha;cases k with
   | zero=>simp at ha
   | succ k =>
    have hk:k<l.length:=by omega
    have q:=p2 k hk rfl;have hg:l.getD (k+1-1) ⟨0,0,0,false⟩=l[k]:=by simp[List.getD_eq_getElem?_getD,hk]
    rw[hg]at DJ;have D8:bC l[k] e=true:=by
     have q':¬ bC e l[k]=true:=by rw[q];simp
     rw[dT]at q' ⊢;omega
    obtain⟨j,hj,rfl⟩:=List.mem_iff_getElem.1 ha;rw[List.getElem_take];rw[List.length_take]at hj;by_cases e':j=k
    ·subst e';exact D8
    ·exact mN (List.pairwise_iff_getElem.1 h j k (by omega) hk (by omega)) D8
  refine List.pairwise_append.2 ⟨h1,List.pairwise_cons.2 ⟨ET,h2⟩,fun a ha b hb=>?_⟩;rcases List.mem_cons.1 hb with rfl | hb
  ·exact DF a ha
  ·exact h3 a ha b hb
theorem Be{t a:Int}(ht:0<=t)(ha:0<=a/\a<=255):0<=jE t a/\jE t a<=t+1099511627776:=by
 have h1:(2:Int)^(a % 40).toNat<=549755813888/\0<(2:Int)^(a % 40).toNat:=by
  have h2:=Nat.pow_le_pow_right (n:=2) (by omega) (show(a % 40).toNat<=39 by omega);have h3:=Nat.two_pow_pos (a % 40).toNat;have e:((2^(a % 40).toNat:Nat):Int)=2^(a % 40).toNat:=by simp
  omega
 unfold jE;split <;>omega
theorem qM {N:Int} (hN:2<=N/\N<=4294967296):∀(l:List Int)(t:Int)(ts:List aU),aR l->0<=t->mO ts->(∀ e∈ts,0<=e.t/\e.t<=t)->(∀ e∈ts,0<=e.u/\e.u<e.v/\e.v<N) →
    mO (bS N l t ts)/\(∀ e∈bS N l t ts,0<=e.t/\e.t<=t+l.length*1099511627776)/\∀ e∈bS N l t ts,0<=e.u/\e.u<e.v/\e.v<N
  | a ::b ::c ::l,t,ts,hb,ht,h1,h2,h3=>by
    rw[bS];have ha:=hb a (by simp);have E6:=hb b (by simp);have hc:=hb c (by simp);have tt:=Be ht ha;split
    · have F8:∀ x∈kM N a b c t ts,x∈ts∨x=⟨jE t a,(dF b c N).1.1,(dF b c N).1.2,false⟩/\(dF b c N).2=true:=by
        intro x hx;unfold kM at hx;split at hx
        · rename_i he;rcases ws hx with k | k
          · exact .inl k
          · exact .inr ⟨k,he⟩
        · exact .inl hx
      have DK:∀ t':Int,t<=t'->True:=fun _ _=>trivial;have Qy:t<=jE t a:=by
        have h3:0<(2:Int)^(a % 40).toNat:=Int.pow_pos (by omega);unfold jE;split <;>omega
      have ih:=qM hN l (jE t a) (kM N a b c t ts) (fun y hy=>hb y (by simp[hy])) tt.1
        (by unfold kM;split;exact u5 h1;exact h1)
        (fun e he=>by
          rcases F8 e he with k | ⟨k,_⟩
          · have:=h2 e k;omega
          · rw[k];exact⟨tt.1,Int.le_refl _⟩)
        (fun e he=>by
          rcases F8 e he with k | ⟨k,k'⟩
          · exact h3 e k
          · rw[k];exact BK E6.1 hc.1 hN k')
      refine⟨ih.1,fun e he=>?_,ih.2.2⟩;have:=ih.2.1 e he;simp only[List.length_cons];omega
    · refine⟨h1,fun e he=>?_,h3⟩;have:=h2 e he;simp only[List.length_cons];omega
  | [],t,ts,hb,ht,h1,h2,h3=>by
    refine⟨by simpa[bS]using h1,fun e he=>?_,by simpa[bS]using h3⟩;rw[bS]at he
    · have:=h2 e he;simp;omega
    · simp
  | [_],t,ts,hb,ht,h1,h2,h3=>by
    refine⟨by simpa[bS]using h1,fun e he=>?_,by simpa[bS]using h3⟩;rw[bS]at he
    · have:=h2 e he;simp;omega
    · simp
  | [_,_],t,ts,hb,ht,h1,h2,h3=>by
    refine⟨by simpa[bS]using h1,fun e he=>?_,by simpa[bS]using h3⟩;rw[bS]at he
    · have:=h2 e he;simp;omega
    · simp
theorem uf{N:Int}:∀(l:List aU)(now:List Edge)(p:Option aU),fp now->mO l->(∀ q,p=some q->∀ e∈l,bC q e=true)->(∀ e∈l,(0<=e.t/\e.t<=4611686018427387903)/\e.u<e.v/\e.v<N)->j4 N (fD l now) p now
 | [],now,p,_,_,_,_=>by simp[fD,j4]
 | e ::l,now,p,hr,hs,hp,hv=>by
  rw[fD];have ON:=List.pairwise_cons.1 hs;have DJ:bX now ⟨e.t,e.u,e.v,!decide ((e.u,e.v)∈now)⟩≠none:=by
   intro h;have:=(oJ hr _).1 h;simp at this
  cases hx:bX now ⟨e.t,e.u,e.v,!decide ((e.u,e.v)∈now)⟩with
  | none=>exact absurd hx DJ
  | some x =>
   have he:=hv e (by simp);refine⟨he.1,he.2,fun q hq=>?_,x,hx,?_⟩
   ·have:=hp q hq e (by simp);rw[dT]at this ⊢;exact this
   ·rw[Option.getD_some];refine uf l x _ (gM hx).1 ON.2 (fun q hq a ha=>?_) (fun a ha=>hv a (by simp[ha]));cases hq;have:=ON.1 a ha;rw[dT]at this ⊢;exact this
theorem rD:∀(l:List aU)(now:List Edge),∀ e∈fD l now,∃ a∈l,a.t=e.t/\a.u=e.u/\a.v=e.v
 | [],now,e,he=>by simp[fD]at he
 | a ::l,now,e,he=>by
  rw[fD]at he;rcases List.mem_cons.1 he with rfl | he
  ·exact⟨a,by simp,rfl,rfl,rfl⟩
  ·obtain⟨b,h1,h2⟩:=rD l _ e he;exact⟨b,by simp[h1],h2⟩
theorem wx{k:Int}{l:List Int}(hb:aR l)(hl:l.length<=1024):j4 (iI k) (eR k l) none []/\∀ e∈eR k l,(0<=e.t/\e.t<=1125899906842624*2)/\0<=e.u/\e.u<e.v/\e.v<iI k:=by
 have h:=qM (qF k) l (k % 3) [] hb (by omega) List.Pairwise.nil (by simp) (by simp);refine⟨uf _ _ _ List.Pairwise.nil h.1 (fun q hq=>by cases hq) (fun e he=>?_),fun e he=>?_⟩
 ·have h1:=h.2.1 e he;have h2:=h.2.2 e he;exact⟨by omega,h2.2⟩
 ·obtain⟨a,ha,e1,e2,e3⟩:=rD _ _ e he;have h1:=h.2.1 a ha;have h2:=h.2.2 a ha;rw[← e1,← e2,← e3];exact⟨by omega,h2⟩
theorem AO{N k:Int}{l:List aU}(h:j4 N l none []):fp (eG (l.take k.toNat) [])/\∀ a∈eG (l.take k.toNat) [],∃ e∈l,a=(e.u,e.v):=by
 have:=(h.take k.toNat).fold List.Pairwise.nil;refine⟨this.1,fun a ha=>?_⟩;rcases this.2 a ha with k | ⟨e,k1,k2⟩
 ·simp at k
 ·exact⟨e,List.mem_of_mem_take k1,k2⟩
end Go.Proofs.YtlieaecnllkefaaGreat

/- Own texts, packed: N1, N2, N3, N4, N5, N6, N7, N8, N9, N10, N11. -/
import Derived.Test.YtlieaecnllkefaaGreatGFg
import Derived.Laws.StructEq
import Derived.ChangeKeysEq
import Derived.Test.YtlieaecnllkefaaGreatGYg
import Derived.Test.YtlieaecnllkefaaGreatGCg
import Derived.Test.YtlieaecnllkefaaGreatGIg
set_option linter.unusedVariables false
set_option linter.unusedSimpArgs false
set_option maxHeartbeats 4000000
set_option maxRecDepth 100000
namespace Go.Proofs.YtlieaecnllkefaaGreat
open Go Go.V Go.RowKit
theorem uC(a b c e:Int)(w:World):(Op.equalIn 10000 45 (.agg #[.int .u32 a,.int .u32 b]) (.agg #[.int .u32 c,.int .u32 e])).run P w=.ok (decide (a=c/\b=e)) w:=by
 rw[run_equalIn_struct w 9999 45 _ _ (by kernel_rfl) (by kernel_rfl)];obtain ⟨f, g, OJ, OM, OL, OK, HA, FN, Gb⟩ : ∃ f g : Field, (P.fieldsOf 45).toList = [f, g] ∧ f.name = "U" ∧ f.type = 43 ∧ f.offset = 0 ∧ g.name = "V" ∧ g.type = 43 ∧ g.offset = 1 :=
  ⟨((P.fieldsOf 45).toList)[0]!,((P.fieldsOf 45).toList)[1]!,by kernel_rfl,by kernel_rfl,by kernel_rfl,by kernel_rfl,by kernel_rfl,by kernel_rfl,by kernel_rfl⟩
 rw[OJ];have hu:P.underlying 43=some (.int .u32):=by kernel_rfl
 have hp:P.plainKey 43=true:=by kernel_rfl
 have e1:∀(x y:Int)(w:World),(part 43 #[.int .u32 x,.int .u32 y] 0).run P w=.ok (.int .u32 x) w:=fun x y w=>run_part_plain w hp rfl;have e2:∀(x y:Int)(w:World),(part 43 #[.int .u32 x,.int .u32 y] 1).run P w=.ok (.int .u32 y) w:=fun x y w=>run_part_plain w hp rfl;have q:∀(x y:Int)(w:World),(Op.equalIn 9999 43 (.int .u32 x) (.int .u32 y)).run P w=.ok (x ==y) w:=fun x y w=>run_equalIn_int w 9998 _ _ _ _ _ hu;simp only[Op.eqFields,OM,OL,OK,HA,FN,Gb,Sem.run_bind,Sem.run_ite,e1,e2,q,Result.andThen_ok];by_cases h1:a=c
 ·by_cases h2:b=e
  ·simp[h1,h2]
  ·simp[h1,h2]
 ·simp[h1]
theorem AZ(s t:Operand)(a b c e:Int)(w:World):Sem.run P (do eqGuard .eql 45 s t (.agg #[.int .u32 a,.int .u32 b]) (.agg #[.int .u32 c,.int .u32 e]);Go.binOp .eql 45 (.agg #[.int .u32 a,.int .u32 b]) (.agg #[.int .u32 c,.int .u32 e]):Sem Value) w=.ok (.bool (decide (a=c/\b=e))) w:=by
 rw[Sem.run_bind,run_eqGuard_agg w .eql 45 s t _ _ (by kernel_rfl),Result.andThen_ok,run_eql_struct w,uC];rfl
theorem Ep(s t:Operand)(a b c e:Int)(w:World):Sem.run P (do eqGuard .neq 45 s t (.agg #[.int .u32 a,.int .u32 b]) (.agg #[.int .u32 c,.int .u32 e]);Go.binOp .neq 45 (.agg #[.int .u32 a,.int .u32 b]) (.agg #[.int .u32 c,.int .u32 e]):Sem Value) w=.ok (.bool (!decide (a=c/\b=e))) w:=by
 rw[Sem.run_bind,run_eqGuard_agg w .neq 45 s t _ _ (by kernel_rfl),Result.andThen_ok,run_neq_struct w,uC];rfl
abbrev Edge:=Int×Int
def kU(e:Edge):List Value:=[.int .u32 e.1,.int .u32 e.2]
def edges(l:List Edge):List Value:=l.flatMap kU
theorem xo(l m:List Edge):edges (l++m)=edges l++edges m:=by simp[edges]
theorem dl(l:List Edge):(edges l).length=l.length*2:=by
 induction l with
 | nil=>rfl
 | cons e l ih=>simp[edges,kU]at ih ⊢;omega
theorem v9:∀ {l:List Edge} {i:Nat} (h:i<l.length),(edges l)[i*2]?=some (.int .u32 l[i].1)/\(edges l)[i*2+1]?=some (.int .u32 l[i].2)
 | e ::l,0,_=>by simp[edges,kU]
 | e ::l,i+1,h=>by
  have ih:=v9 (l:=l) (i:=i) (by simpa using h);rw[show(i+1)*2=i*2+1+1 by omega];exact ih
theorem Ax(l:List Edge)(k:Nat):(edges l).drop (k*2)=edges (l.drop k):=by
 induction k generalizing l with
 | zero=>simp
 | succ k ih =>
  cases l with
  | nil=>simp[edges]
  | cons e l=>rw[show(k+1)*2=k*2+1+1 by omega];exact ih l
theorem Aw(l:List Edge)(k:Nat):(edges l).take (k*2)=edges (l.take k):=by
 induction k generalizing l with
 | zero=>simp[edges]
 | succ k ih =>
  cases l with
  | nil=>simp[edges]
  | cons e l =>
   rw[show(k+1)*2=k*2+1+1 by omega];show List.take (k*2+1+1) (.int .u32 e.1 ::.int .u32 e.2 ::edges l)=.int .u32 e.1 ::.int .u32 e.2 ::edges (List.take k l);rw[List.take_succ_cons,List.take_succ_cons,ih]
structure aW where
 t:Int
 u:Int
 v:Int
 add:Bool
deriving DecidableEq
def EI(e:aW):List Value:=[.int .i64 e.t,.int .u32 e.u,.int .u32 e.v,.bool e.add]
def cE(l:List aW):List Value:=l.flatMap EI
theorem dz(l:List aW):(cE l).length=l.length*4:=by
 induction l with
 | nil=>rfl
 | cons e l ih=>simp[cE,EI]at ih ⊢;omega
theorem yI:∀ {l:List aW} {i:Nat} (h:i<l.length),(cE l)[i*4]?=some (.int .i64 l[i].t)/\(cE l)[i*4+1]?=some (.int .u32 l[i].u)/\(cE l)[i*4+2]?=some (.int .u32 l[i].v)/\(cE l)[i*4+3]?=some (.bool l[i].add)
 | e ::l,0,_=>by simp[cE,EI]
 | e ::l,i+1,h=>by
  have ih:=yI (l:=l) (i:=i) (by simpa using h);rw[show(i+1)*4=i*4+1+1+1+1 by omega];exact ih
abbrev gQ(e:Edge):Value:=.agg #[.int .u32 e.1,.int .u32 e.2]
abbrev evtV(e:aW):Value:=.agg #[.int .i64 e.t,.int .u32 e.u,.int .u32 e.v,.bool e.add]
def aO(a b:Edge):Bool:=decide (a.1<b.1∨a.1=b.1/\a.2<b.2)
def bN(a b:aW):Bool:=decide (a.t<b.t) || (decide (a.t=b.t) && aO (a.u,a.v) (b.u,b.v))
def fm(l:List Edge):Bool:=(List.range (l.length-1)).all fun i=>aO (l.getD i (0,0)) (l.getD (i+1) (0,0))
theorem lK{w:World}(a b:Edge):Calls P 58 #[gQ a,gQ b] w fun ev w'=>ev=.returned (.bool (aO a b))/\w.grownBy w' none:=by
 apply vc58;dsimp only[VC58,rb,Br,Rd,nb];have g1:=World.grownBy_alloc w (.cells #[.int .u32 a.1,.int .u32 a.2] 45) none;have b1:(w.alloc (.cells #[.int .u32 a.1,.int .u32 a.2] 45)).heap[w.heap.size]?=some (.cells #[.int .u32 a.1,.int .u32 a.2] 45 (0,0)):=heap_alloc_new w _;obtain⟨w1,GB⟩:∃ w1,w1=w.alloc (.cells #[.int .u32 a.1,.int .u32 a.2] 45):=⟨_,rfl⟩;rw[← GB]at g1 b1 ⊢;have g2:=World.grownBy_alloc w1 (.cells #[.int .u32 b.1,.int .u32 b.2] 45) none;have b2:(w1.alloc (.cells #[.int .u32 b.1,.int .u32 b.2] 45)).heap[w1.heap.size]?=some (.cells #[.int .u32 b.1,.int .u32 b.2] 45 (0,0)):=heap_alloc_new w1 _;obtain⟨w2,HS⟩:∃ w2,w2=w1.alloc (.cells #[.int .u32 b.1,.int .u32 b.2] 45):=⟨_,rfl⟩;rw[← HS]at g2 b2 ⊢;have b1':w2.heap[w.heap.size]?=some (.cells #[.int .u32 a.1,.int .u32 a.2] 45 (0,0)):=by rw[g2.block _ (Array.getElem?_eq_some_iff.1 b1).1 (by simp)];exact b1
 have g:=aA g1 g2;refine⟨_,aB b1' 0,_,aB b2 0,fun h=>⟨?_,g⟩,fun h=>⟨_,aB b1' 0,_,aB b2 0,fun h2=>⟨_,aB b1' 1,_,aB b2 1,?_,g⟩,fun h2=>⟨?_,g⟩⟩⟩
 ·have:aO a b=true:=by unfold aO;exact decide_eq_true (.inl h)
  rw[this]
 ·congr 2;unfold aO;rw[decide_eq_decide];omega
 ·have:aO a b=false:=by unfold aO;exact decide_eq_false (by omega)
  rw[this]
theorem pK{w:World}(e:Edge){n:Int}(he:0<=e.2/\e.2<=4294967295):Calls P 44 #[gQ e,.int .u64 n] w fun ev w'=>ev=.returned (.bool (decide (e.1<e.2/\e.2<n)))/\w.grownBy w' none:=by
 apply vc44;dsimp only[VC44,rb,Br,Rd,nb]
 try simp only[aF]
 have g1:=World.grownBy_alloc w (.cells #[.int .u32 e.1,.int .u32 e.2] 45) none;have b1:(w.alloc (.cells #[.int .u32 e.1,.int .u32 e.2] 45)).heap[w.heap.size]?=some (.cells #[.int .u32 e.1,.int .u32 e.2] 45 (0,0)):=heap_alloc_new w _;refine⟨_,aB b1 0,_,aB b1 1,fun h=>⟨_,aB b1 1,by omega,?_,g1⟩,fun h=>⟨?_,g1⟩⟩
 ·congr 2;simp;omega
 ·congr 2;simp;omega
theorem ml{w:World}(a b:aW):Calls P 55 #[evtV a,evtV b] w fun ev w'=>ev=.returned (.bool (bN a b))/\w.grownBy w' none:=by
 apply vc55;dsimp only[VC55,rb,Br,Rd,cB,nb,iq];have g1:=World.grownBy_alloc w (.cells #[.int .i64 a.t,.int .u32 a.u,.int .u32 a.v,.bool a.add] 62) none;have b1:(w.alloc (.cells #[.int .i64 a.t,.int .u32 a.u,.int .u32 a.v,.bool a.add] 62)).heap[w.heap.size]?=some (.cells #[.int .i64 a.t,.int .u32 a.u,.int .u32 a.v,.bool a.add] 62 (0,0)):=heap_alloc_new w _;obtain⟨w1,GB⟩:∃ w1,w1=w.alloc (.cells #[.int .i64 a.t,.int .u32 a.u,.int .u32 a.v,.bool a.add] 62):=⟨_,rfl⟩;rw[← GB]at g1 b1 ⊢;have g2:=World.grownBy_alloc w1 (.cells #[.int .i64 b.t,.int .u32 b.u,.int .u32 b.v,.bool b.add] 62) none;have b2:(w1.alloc (.cells #[.int .i64 b.t,.int .u32 b.u,.int .u32 b.v,.bool b.add] 62)).heap[w1.heap.size]?=some (.cells #[.int .i64 b.t,.int .u32 b.u,.int .u32 b.v,.bool b.add] 62 (0,0)):=heap_alloc_new w1 _;obtain⟨w2,HS⟩:∃ w2,w2=w1.alloc (.cells #[.int .i64 b.t,.int .u32 b.u,.int .u32 b.v,.bool b.add] 62):=⟨_,rfl⟩;rw[← HS]at g2 b2 ⊢;have b1':w2.heap[w.heap.size]?=some (.cells #[.int .i64 a.t,.int .u32 a.u,.int .u32 a.v,.bool a.add] 62 (0,0)):=by rw[g2.block _ (Array.getElem?_eq_some_iff.1 b1).1 (by simp)];exact b1
 have g:=aA g1 g2;refine⟨_,aB b1' 0,_,aB b2 0,fun h=>⟨?_,g⟩,fun h=>⟨_,aB b1' 0,_,aB b2 0,fun h2=>⟨_,aB b1' 1,_,aB b1' 2,_,aB b2 1,_,aB b2 2,?_⟩,fun h2=>⟨?_,g⟩⟩⟩
 ·congr 2;simp[bN,h]
 ·refine(lK (a.u,a.v) (b.u,b.v)).mono fun ev w3 hh=>?_;obtain⟨rfl,g3⟩:=hh;refine⟨_,rfl,?_,aA g g3⟩;congr 2;simp[bN,h,h2]
 ·congr 2;simp[bN,h,h2]
theorem ez{w:World}{A:OA}{l:List Edge}(h:aZ w A (edges l)){j:Nat}(hj:j<l.length):∃ a,A=some a/\w.cell? (a.add (j*2))=some (.int .u32 l[j].1)/\w.cell? ((a.add (j*2)).add 1)=some (.int .u32 l[j].2):=by
 obtain⟨h1,h2⟩:=v9 hj;obtain⟨a,e1,e2⟩:=h _ _ h1;obtain⟨a',e3,e4⟩:=h _ _ h2;rw[e1]at e3;cases e3;exact⟨a,e1,e2,by rw[fp];exact e4⟩
theorem wB {w:World} {A:OA} {n c:Nat} {l:List Edge} (hr:aZ w A (edges l)) (hn:n=l.length) (hl:n<=2^40):Calls P 57 #[.slice A n c] w fun ev w'=>ev=.returned (.bool (fm l))/\w.grownBy w' none:=by
  apply vc57;dsimp only[VC57,rb,Br,Rd,Ix,cB,ad,al]
  try simp only[aF]
  refine⟨fun m i w1=>∃ j:Nat,i=(j:Int)/\1<=j/\(j<=l.length∨j=1)/\m=l.length-j/\(∀ t,t+1<j->aO (l.getD t (0,0)) (l.getD (t+1) (0,0))=true)/\w.grownBy w1 none,⟨_,1,rfl,by omega,.inr rfl,rfl,fun t ht=>by omega,aC _ _⟩,?_⟩;rintro m i w1 ⟨j,rfl,h1,hj,rfl,hs,hg⟩;have tj:(j:Int).toNat=j:=by omega
  have tj1:((j:Int)-1).toNat=j-1:=by omega
  rw[tj,tj1];refine⟨fun FE=>?_,fun FJ=>⟨?_,hg⟩⟩
  · have gd:=aH hg;obtain⟨a,e1,e2,e3⟩:=ez (hr.kept_none gd) (show j-1<l.length by omega);obtain⟨a',f1,f2,f3⟩:=ez (hr.kept_none gd) (show j<l.length by omega);refine⟨by omega,a,e1,by omega,by omega,_,e2,_,e3,a',f1,by omega,by omega,_,f2,_,f3,?_⟩;refine(lK l[j-1] l[j]).mono fun ev w2 hh=>?_;obtain⟨rfl,g2⟩:=hh;have GQ:=aA gd g2;have d1:l.getD (j-1) (0,0)=l[j-1]:=by simp[List.getD_eq_getElem?_getD,show j-1<l.length by omega]
    have d2:l.getD (j-1+1) (0,0)=l[j]:=by rw[show j-1+1=j by omega];simp[List.getD_eq_getElem?_getD,show j<l.length by omega]
    refine⟨_,rfl,fun h=>⟨?_,GQ⟩,fun h=>⟨by omega,l.length-(j+1),by omega,j+1,by omega,by omega,.inl (by omega),rfl,fun t ht=>?_,GQ⟩⟩
    · have:fm l=false:=by
        cases hq:fm l with
        | false=>rfl
        | true =>
          have:=List.all_eq_true.1 hq (j-1) (List.mem_range.2 (by omega));rw[d1,d2,h]at this;cases this
      rw[this]
    · by_cases e:t+1=j
      · have:t=j-1:=by omega
        subst this;rw[d1,d2];simpa using h
      · exact hs t (by omega)
  · have:fm l=true:=List.all_eq_true.2 fun t ht=>hs t (by have:=List.mem_range.1 ht;omega);rw[this]
def rQ(l:List Edge)(e:Edge):Int:=if e∈l then(l.idxOf e:Int) else -1
theorem uz {w:World} {A:OA} {n c:Nat} {l:List Edge} {e:Edge} (hr:aZ w A (edges l)) (hn:n=l.length) (hl:n<=2^40):Calls P 56 #[.slice A n c,gQ e] w fun ev w'=>ev=.returned (.int .i64 (rQ l e))/\w.grownBy w' none:=by
  apply vc56;dsimp only[VC56,Br,Bb,Rd,Ix,Eg,nb,ad,al,iq]
  try simp only[aF]
  have g1:=World.grownBy_alloc w (.cells #[.int .u32 e.1,.int .u32 e.2] 45) none;have b1:(w.alloc (.cells #[.int .u32 e.1,.int .u32 e.2] 45)).heap[w.heap.size]?=some (.cells #[.int .u32 e.1,.int .u32 e.2] 45 (0,0)):=heap_alloc_new w _;obtain⟨w1,GB⟩:∃ w1,w1=w.alloc (.cells #[.int .u32 e.1,.int .u32 e.2] 45):=⟨_,rfl⟩;rw[← GB]at g1 b1 ⊢;refine⟨fun m i w2=>∃ j:Nat,i=(j:Int)/\j<=l.length/\m=l.length-j/\(∀ t (h:t<l.length),t<j->l[t]≠e)/\w1.grownBy w2 none,⟨_,0,rfl,by omega,rfl,fun t _ ht=>by omega,aC _ _⟩,?_⟩;rintro m i w2 ⟨j,rfl,hj,rfl,hs,hg⟩;have tj:(j:Int).toNat=j:=by omega
  rw[tj];refine⟨fun FE=>?_,fun FJ=>⟨?_,aA g1 hg⟩⟩
  · have gd:=aH hg;have lj:j<l.length:=by omega
    obtain⟨a,e1,e2,e3⟩:=ez ((hr.kept_none g1).kept_none gd) lj;have b2:w2.drew.heap[w.heap.size]?=some (.cells #[.int .u32 e.1,.int .u32 e.2] 45 (0,0)):=by rw[gd.block _ (Array.getElem?_eq_some_iff.1 b1).1 (by simp)];exact b1
    refine⟨a,e1,by omega,by omega,_,e2,_,e3,_,aB b2 0,_,aB b2 1,_,fun w=>AZ _ _ _ _ _ _ w,fun h=>⟨?_,aA g1 gd⟩,fun h=>⟨by omega,l.length-(j+1),by omega,j+1,by omega,by omega,rfl,fun t ht h3=>?_,gd⟩⟩
    · have he:l[j]=e:=by
        have:=of_decide_eq_true h;exact Prod.ext this.1 this.2
      have hm:e∈l:=by rw[← he];exact List.getElem_mem lj
      have hi:l.idxOf e=j:=by
        have h4:l.idxOf e<l.length:=List.idxOf_lt_length_iff.2 hm;have h5:l[l.idxOf e]=e:=List.getElem_idxOf h4;rcases Nat.lt_trichotomy (l.idxOf e) j with q | q | q
        · exact absurd h5 (hs _ h4 q)
        · exact q
        · exfalso;have:=List.not_of_lt_findIdx (p:=(· ==e)) (xs:=l) (i:=j) q;simp[he]at this
      rw[rQ,if_pos hm,hi]
    · by_cases e4:t=j
      · subst e4;intro h5;rw[h5]at h;simp at h
      · exact hs t ht (by omega)
  · have hm:e ∉ l:=by
      intro h;obtain⟨t,ht,h2⟩:=List.mem_iff_getElem.1 h;exact hs t ht (by omega) h2
    rw[rQ,if_neg hm]
theorem Ci{w:World}{A:OA}{n c:Nat}{l:List Edge}{e:Edge}(hr:aZ w A (edges l))(hn:n=l.length)(hl:n<=2^40):Calls P 29 #[.slice A n c,gQ e] w fun ev w'=>ev=.returned (.bool (decide (e∈l)))/\w.grownBy w' none:=by
 apply vc29;dsimp only[VC29,Rd,cI,nb];have g1:=World.grownBy_alloc w (.cells #[.int .u32 e.1,.int .u32 e.2] 45) none;have b1:(w.alloc (.cells #[.int .u32 e.1,.int .u32 e.2] 45)).heap[w.heap.size]?=some (.cells #[.int .u32 e.1,.int .u32 e.2] 45 (0,0)):=heap_alloc_new w _;refine⟨_,aB b1 0,_,aB b1 1,?_⟩;refine(uz (e:=e) (hr.kept_none g1) hn hl).mono fun ev w2 hh=>?_;obtain⟨rfl,g2⟩:=hh;refine⟨_,rfl,?_,aA g1 g2⟩;congr 2;unfold rQ;by_cases h:e∈l
 ·simp[h]
 ·simp[h]
theorem mv {w:World} {A B:OA} {n c m d:Nat} {l k:List Edge} (hA:aZ w A (edges l)) (hn:n=l.length) (hB:aZ w B (edges k)) (hm:m=k.length) (hl:n<=2^40):Calls P 15 #[.slice A n c,.slice B m d] w fun ev w'=>ev=.returned (.bool (decide (l=k)))/\w.grownBy w' none:=by
  apply vc15;dsimp only[VC15,rb,Br,Bb,Rd,Ix,Eg,ad,al]
  try simp only[aF]
  refine⟨fun FG=>⟨?_,aC _ _⟩,fun GZ=>?_⟩
  · have:l≠k:=fun e=>by subst e;omega
    simp[this]
  refine⟨fun mm i w1=>∃ j:Nat,i=(j:Int)/\j<=l.length/\mm=l.length-j/\l.take j=k.take j/\w.grownBy w1 none,⟨_,0,rfl,by omega,rfl,by simp,aC _ _⟩,?_⟩;rintro mm i w1 ⟨j,rfl,hj,rfl,hs,hg⟩;have tj:(j:Int).toNat=j:=by omega
  rw[tj];refine⟨fun FE=>?_,fun FJ=>⟨?_,hg⟩⟩
  · have gd:=aH hg;have lj:j<l.length:=by omega
    have kj:j<k.length:=by omega
    obtain⟨a,e1,e2,e3⟩:=ez (hA.kept_none gd) lj;obtain⟨b,f1,f2,f3⟩:=ez (hB.kept_none gd) kj;refine⟨a,e1,by omega,by omega,_,e2,_,e3,b,f1,by omega,by omega,_,f2,_,f3,_,fun w=>Ep _ _ _ _ _ _ w,fun h=>⟨?_,gd⟩,fun h=>⟨by omega,l.length-(j+1),by omega,j+1,by omega,by omega,rfl,?_,gd⟩⟩
    · have:l≠k:=fun e=>by subst e;simp at h
      simp[this]
    · have he:l[j]=k[j]:=by
        have:l[j].1=k[j].1/\l[j].2=k[j].2:=by simpa using h
        exact Prod.ext this.1 this.2
      rw[List.take_succ_eq_append_getElem lj,List.take_succ_eq_append_getElem kj,hs,he]
  · rw[List.take_of_length_le (by omega),List.take_of_length_le (by omega)]at hs;simp[hs]
theorem yN:oq P 40 45 2 (P.bytesOf 45):=⟨(P.info? 45).getD default,((P.info? 45).getD default).zero.getD undef,by kernel_rfl,by kernel_rfl,by kernel_rfl,by kernel_rfl,by kernel_rfl,by kernel_rfl,by decide⟩
theorem Cz:P.bytesOf 45<=64:=of_decide_eq_true (by kernel_rfl)
theorem dI{w:World}{base:Nat}{A B:OA}{n c m d:Nat}{xs ys:List Edge}(ho:aE w base 45 2 A n c (edges xs))(hB:aZ w B (edges ys))(hm:m=ys.length)(hd:B=none->d=0)(hn:n+m<=2^39)(hb:base<=w.heap.size):
    ∃ (A':OA) (n' c':Nat) (w':World),Sem.run P (Builtin.append_ #[40,40] 40 #[.slice A n c,.slice B m d]) w=.ok (.slice A' n' c') w' ∧
      aE w' base 45 2 A' n' c' (edges (xs++ys))/\w.grownBy w' (Value.slice A n c).ownBlock/\n'=n+m:=by
  cases B with
  | none =>
    have IK:ys=[]:=by
      cases ys with
      | nil=>rfl
      | cons y ys=>obtain⟨a,e,_⟩:=hB 0 _ rfl;cases e
    subst IK;have h0:m=0:=by simpa using hm
    have h1:=hd rfl;subst h0 h1;exact⟨A,n,c,w,ho.appends_nil yN,by simpa using ho,aC _ _,rfl⟩
  | some a =>
    obtain⟨A',n',c',w',h1,h2,h3,h4,_⟩:=ho.appends (ty:=40) yN Cz (a:=a) (m:=m) (cc:=d) (us:=edges ys) (by rw[dl,hm]) (fun j u hj=>by obtain⟨b,q1,q2⟩:=hB j u hj;cases q1;exact q2) (fun u hu=>by
      simp only[edges,List.mem_flatMap]at hu;obtain⟨e,_,he⟩:=hu;simp[kU]at he;rcases he with rfl | rfl <;>rfl) (by omega) hb
    exact⟨A',n',c',w',h1,by rw[xo];exact h2,h4,h3⟩
theorem Fv{w:World}{A:OA}{c k:Nat}{l:List Edge}(h:aZ w A (edges l))(hA:A=none->c=0)(hc:l.length<=c):aZ w (bB A c k 2) (edges (l.drop k))/\(bB A c k 2=none->c-k=0):=by
 unfold bB;split
 ·rename_i GO;refine⟨?_,fun _=>by omega⟩;rw[List.drop_eq_nil_of_le (by omega)];intro j u hj;simp[edges]at hj
 ·have:=h.drop (k*2);rw[Ax]at this;refine⟨this,fun e=>?_⟩;cases A with
  | none=>rw[hA rfl];omega
  | some a=>simp at e
theorem CW{w:World}{A:OA}{l:List Edge}(h:aZ w A (edges l))(k:Nat):aZ w A (edges (l.take k)):=by
 intro j u hj;rw[← Aw,List.getElem?_take]at hj;split at hj
 ·exact h j u hj
 ·cases hj
def kO(l:List Edge)(e:Edge):Nat:=(l.takeWhile fun x=>aO x e).length
def cu(l:List Edge)(ev:aW):Option (List Edge) :=
 if fm l=false then none else if ev.add=decide ((ev.u,ev.v)∈l) then none else
 if ev.add=false then some (l.take (l.idxOf (ev.u,ev.v))++l.drop (l.idxOf (ev.u,ev.v)+1)) else some (l.take (kO l (ev.u,ev.v))++((ev.u,ev.v) ::l.drop (kO l (ev.u,ev.v))))
theorem Bj{l:List Edge}{e:Edge}{j:Nat}(hj:j<=l.length)(h:∀ t (ht:t<l.length),t<j->aO l[t] e=true)(h2:∀(ht:j<l.length),aO l[j] e=false):kO l e=j:=by
 induction l generalizing j with
 | nil=>simp at hj;subst hj;rfl
 | cons x l ih =>
  cases j with
  | zero =>
   have:=h2 (by simp);simp at this;simp[kO,List.takeWhile_cons,this]
  | succ j =>
   have h0:=h 0 (by simp) (by omega);simp at h0;have:=ih (j:=j) (by simpa using hj) (fun t ht P9=>h (t+1) (Nat.succ_lt_succ ht) (by omega)) (fun ht=>h2 (Nat.succ_lt_succ ht));simp[kO,List.takeWhile_cons,h0]at this ⊢;exact this
theorem ll {w:World} {A:OA} {n c:Nat} {l:List Edge} {e:aW} (hr:aZ w A (edges l)) (hn:n=l.length) (hc:n<=c) (hA:A=none->c=0) (hl:n<=2^30) :
    Calls P 30 #[.slice A n c,evtV e] w fun ev w'=>∃(A':OA)(n' c':Nat),ev=.returned (.tuple #[.slice A' n' c',.bool (cu l e).isSome])/\aE w' w.heap.size 45 2 A' n' c' (edges ((cu l e).getD []))/\w.grownBy w' none:=by
  apply vc30;dsimp only[VC30,rt,Br,Bb,Rd,Rc,Ix,Ap,Eg,cI,cB,nb,ad,al,iq]
  try simp only[aF]
  have g1:=World.grownBy_alloc w (.cells #[.int .i64 e.t,.int .u32 e.u,.int .u32 e.v,.bool e.add] 62) none;have b1:(w.alloc (.cells #[.int .i64 e.t,.int .u32 e.u,.int .u32 e.v,.bool e.add] 62)).heap[w.heap.size]?=some (.cells #[.int .i64 e.t,.int .u32 e.u,.int .u32 e.v,.bool e.add] 62 (0,0)):=heap_alloc_new w _;obtain⟨w1,GB⟩:∃ w1,w1=w.alloc (.cells #[.int .i64 e.t,.int .u32 e.u,.int .u32 e.v,.bool e.add] 62):=⟨_,rfl⟩;rw[← GB]at g1 b1 ⊢;have keep:∀ w',w1.grownBy w' none->w'.heap[w.heap.size]?=some (.cells #[.int .i64 e.t,.int .u32 e.u,.int .u32 e.v,.bool e.add] 62 (0,0)):=fun w' g=>by rw[g.block _ (Array.getElem?_eq_some_iff.1 b1).1 (by simp)];exact b1
  refine⟨_,aB b1 1,_,aB b1 2,?_⟩;refine(uz (e:=(e.u,e.v)) (hr.kept_none g1) hn (by omega)).mono fun ev w2 hh=>?_;obtain⟨rfl,g2⟩:=hh;refine⟨_,rfl,?_⟩;refine(wB ((hr.kept_none g1).kept_none g2) hn (by omega)).mono fun ev w3 hh=>?_;obtain⟨rfl,g3⟩:=hh;have Gv:=aA g2 g3;have FY:=aA g1 Gv;have Jb:decide (rQ l (e.u,e.v)≥0)=decide ((e.u,e.v)∈l):=by
    unfold rQ;by_cases h:(e.u,e.v)∈l
    · simp[h]
    · simp[h]
  refine⟨_,rfl,fun h=>?_,fun h=>?_⟩
  · have:cu l e=none:=by unfold cu;rw[if_pos h]
    rw[this];exact⟨_,_,_,rfl,aE.nil _ _ _ _,FY⟩
  have Ji:¬ fm l=false:=h;have b3:=keep w3 Gv;have hu:P.underlying 4=some .bool:=by kernel_rfl
  refine⟨_,aB b3 3,_,fun w=>Er _ _ _ _ w,fun h=>?_,fun h=>?_⟩
  · have h':e.add=decide ((e.u,e.v)∈l):=by rw[← Jb];simpa using h
    have:cu l e=none:=by unfold cu;rw[if_neg Ji,if_pos h']
    rw[this];exact⟨_,_,_,rfl,aE.nil _ _ _ _,FY⟩
  have Hd:¬ e.add=decide ((e.u,e.v)∈l):=by rw[← Jb];simpa using h
  refine⟨_,aB b3 3,fun GW=>?_,fun I0=>?_⟩
  · have hm:(e.u,e.v)∈l:=by
      rw[GW]at Hd;by_cases q:(e.u,e.v)∈l
      · exact q
      · simp[q]at Hd
    have VA:rQ l (e.u,e.v)=((l.idxOf (e.u,e.v):Nat):Int):=by rw[rQ,if_pos hm]
    have Xo:l.idxOf (e.u,e.v)<l.length:=List.idxOf_lt_length_iff.2 hm;have P8:cu l e=some (l.take (l.idxOf (e.u,e.v))++l.drop (l.idxOf (e.u,e.v)+1)):=by unfold cu;rw[if_neg Ji,if_neg Hd,if_pos GW]
    rw[P8,VA];generalize l.idxOf (e.u,e.v)=i at *;have ti:(i:Int).toNat=i:=by omega
    have ti1:((i:Int)+1).toNat=i+1:=by omega
    rw[ti,ti1];have gd:=aH FY;have rd:=hr.kept_none gd;obtain⟨A4,n4,c4,w4,f1,f2,f3,f4⟩:=dI (n:=0) (c:=0) (A:=none) (xs:=[]) (aE.nil w3.drew w3.drew.heap.size 45 2) (m:=i) (d:=c) (CW rd i) (by rw[List.length_take];omega) hA (by omega) (Nat.le_refl _);have g4:w3.drew.grownBy w4 none:=aN (aC w3.drew none) f3 (fun k hk=>by simp[Value.ownBlock]at hk);rw[List.nil_append]at f2;obtain⟨r5,d5⟩:=Fv (k:=i+1) (rd.kept_none g4) hA (by omega);obtain⟨A5,n5,c5,w5,p1,p2,p3,p4⟩:=dI f2 (m:=n-(i+1)) (d:=c-(i+1)) r5 (by rw[List.length_drop];omega) d5 (by omega) g4.size;exact⟨⟨by omega,by omega⟩,_,_,_,w4,f1,by omega,⟨by omega,by omega⟩,_,_,_,w5,p1,_,_,_,rfl,p2.mono gd.size,aA gd (aN g4 p3 f2.block_ge)⟩
  · have OZ:¬ e.add=false:=I0;have P8:cu l e=some (l.take (kO l (e.u,e.v))++((e.u,e.v) ::l.drop (kO l (e.u,e.v)))):=by unfold cu;rw[if_neg Ji,if_neg Hd,if_neg OZ]
    rw[P8];refine⟨fun i w'=>i=(kO l (e.u,e.v):Int)/\kO l (e.u,e.v)<=l.length/\w1.grownBy w' none,⟨fun m i w4=>∃ j:Nat,i=(j:Int)/\j<=l.length/\m=l.length-j/\(∀ t (ht:t<l.length),t<j->aO l[t] (e.u,e.v)=true)/\w1.grownBy w4 none,⟨_,0,rfl,by omega,rfl,fun t _ ht=>by omega,Gv⟩,?_⟩,?_⟩
    · rintro m i w4 ⟨j,rfl,hj,rfl,hs,g4⟩;have tj:(j:Int).toNat=j:=by omega
      rw[tj];have gd:=aH g4;refine⟨fun FE=>?_,fun FJ=>?_⟩
      · have lj:j<l.length:=by omega
        obtain⟨a,e1,e2,e3⟩:=ez ((hr.kept_none g1).kept_none gd) lj;have b4:=keep w4.drew gd;refine⟨a,e1,by omega,by omega,_,e2,_,e3,_,aB b4 1,_,aB b4 2,?_⟩;refine(lK l[j] (e.u,e.v)).mono fun ev w5 hh=>?_;obtain⟨rfl,g5⟩:=hh;refine⟨_,rfl,fun h=>⟨by omega,l.length-(j+1),by omega,j+1,by omega,by omega,rfl,fun t ht P9=>?_,aA gd g5⟩,fun h=>?_⟩
        · by_cases q:t=j
          · subst q;exact h
          · exact hs t ht (by omega)
        · have:=Bj hj hs (fun _=>h);exact⟨by rw[this],by omega,aA gd g5⟩
      · have:=Bj hj hs (fun ht=>by omega);exact⟨by rw[this],by omega,gd⟩
    · rintro i w4 ⟨rfl,hk,g4⟩;generalize kO l (e.u,e.v)=k at *;have tk:(k:Int).toNat=k:=by omega
      rw[tk];have gd:=aH g4;have g0d:=aA g1 gd;have rd:=hr.kept_none g0d;refine⟨fun w'=>w1.grownBy w' none,gd,⟨⟨by omega,by omega⟩,?_⟩,⟨⟨by omega,by omega⟩,?_⟩⟩
      · obtain⟨A5,n5,c5,w5,f1,f2,f3,f4⟩:=dI (n:=0) (c:=0) (A:=none) (xs:=[]) (aE.nil w4.drew w4.drew.heap.size 45 2) (m:=k) (d:=c) (CW rd k) (by rw[List.length_take];omega) hA (by omega) (Nat.le_refl _);have g5:w4.drew.grownBy w5 none:=aN (aC w4.drew none) f3 (fun k hk=>by simp[Value.ownBlock]at hk);rw[List.nil_append]at f2;have Kh:=aA gd g5;have ga:=World.grownBy_alloc w5 (.cells #[.int .u32 e.u,.int .u32 e.v] 45) none;have ra:aZ (w5.alloc (.cells #[.int .u32 e.u,.int .u32 e.v] 45)) (some ⟨w5.heap.size,0,none⟩) (edges [(e.u,e.v)]):=de w5 _ 45;obtain⟨A6,n6,c6,w6,p1,p2,p3,p4⟩:=dI (f2.kept ga) (m:=1) (d:=1) ra rfl (fun h=>by cases h) (by omega) (Nat.le_trans g5.size ga.size);have R0:=aA g5 ga;have g6:=aN R0 p3 f2.block_ge;have MK:=aA gd g6;obtain⟨r7,d7⟩:=Fv (k:=k) (rd.kept_none g6) hA (by omega);obtain⟨A7,n7,c7,w7,q1,q2,q3,q4⟩:=dI p2 (m:=n-k) (d:=c-k) r7 (by rw[List.length_drop];omega) d7 (by omega) g6.size;have g7:=aN g6 q3 p2.block_ge;exact⟨_,_,_,w5,f1,Kh,_,fun w' h=>aB (keep w' h) 1,_,fun w' h=>aB (keep w' h) 2,aA Kh ga,_,_,_,w6,p1,MK,⟨by omega,by omega⟩,_,_,_,w7,q1,aA gd g7,_,_,_,rfl,by simpa using q2.mono g0d.size,aA g0d g7⟩
      · have ga:=World.grownBy_alloc w4.drew (.cells #[.int .u32 e.u,.int .u32 e.v] 45) none;have ra:aZ (w4.drew.alloc (.cells #[.int .u32 e.u,.int .u32 e.v] 45)) (some ⟨w4.drew.heap.size,0,none⟩) (edges [(e.u,e.v)]):=de w4.drew _ 45;obtain⟨wa,LA⟩:∃ wa,wa=w4.drew.alloc (.cells #[.int .u32 e.u,.int .u32 e.v] 45):=⟨_,rfl⟩;refine⟨_,fun w' h=>aB (keep w' h) 1,_,fun w' h=>aB (keep w' h) 2,?_⟩;simp only[List.getElem?_toArray];show(fun w'=>w1.grownBy w' none) (w4.drew.alloc (.cells #[.int .u32 e.u,.int .u32 e.v] 45))/\_;rw[← LA]at ga ra ⊢;obtain⟨A5,n5,c5,w5,f1,f2,f3,f4⟩:=dI (n:=0) (c:=0) (A:=none) (xs:=[]) (aE.nil wa wa.heap.size 45 2) (m:=k) (d:=c) (CW (rd.kept_none ga) k) (by rw[List.length_take];omega) hA (by omega) (Nat.le_refl _);have g5:wa.grownBy w5 none:=aN (aC wa none) f3 (fun k hk=>by simp[Value.ownBlock]at hk);rw[List.nil_append]at f2;obtain⟨A6,n6,c6,w6,p1,p2,p3,p4⟩:=dI f2 (m:=1) (d:=1) (ra.kept_none g5) rfl (fun h=>by cases h) (by omega) g5.size;have g6:=aN g5 p3 f2.block_ge;obtain⟨r7,d7⟩:=Fv (k:=k) ((rd.kept_none ga).kept_none g6) hA (by omega);obtain⟨A7,n7,c7,w7,q1,q2,q3,q4⟩:=dI p2 (m:=n-k) (d:=c-k) r7 (by rw[List.length_drop];omega) d7 (by omega) g6.size;have g7:=aN g6 q3 p2.block_ge;have g1a:=aA gd ga;exact⟨g1a,_,_,_,w5,f1,aA g1a g5,_,_,_,w6,p1,aA g1a g6,⟨by omega,by omega⟩,_,_,_,w7,q1,aA g1a g7,_,_,_,rfl,by simpa using q2.mono (Nat.le_trans g0d.size ga.size),aA g0d (aA ga g7)⟩
theorem eE{w:World}{A:OA}{l:List aW}(h:aZ w A (cE l)){j:Nat}(hj:j<l.length):∃ a,A=some a/\w.cell? (a.add (j*4))=some (.int .i64 l[j].t)/\w.cell? ((a.add (j*4)).add 1)=some (.int .u32 l[j].u)/\w.cell? ((a.add (j*4)).add 2)=some (.int .u32 l[j].v)/\w.cell? ((a.add (j*4)).add 3)=some (.bool l[j].add):=by
 obtain⟨h1,h2,h3,h4⟩:=yI hj;obtain⟨a,e1,e2⟩:=h _ _ h1;have rd:∀ k u,(cE l)[j*4+k]?=some u->w.cell? ((a.add (j*4)).add k)=some u:=fun k u hk=>by
  obtain⟨a',q1,q2⟩:=h _ _ hk;rw[e1]at q1;cases q1;rw[fp];exact q2
 exact⟨a,e1,e2,rd 1 _ h2,rd 2 _ h3,rd 3 _ h4⟩
def mR(N:Int)(e:aW):Bool:=decide (e.u<e.v/\e.v<N)
def dC(N:Int):List aW->Option aW->List Edge->Nat->Int×Int
 | [],_,_,_=>(0,0)
 | e ::l,p,now,i=>if e.t<0∨e.t>4611686018427387903 then((i:Int),26) else if mR N e=false then((i:Int),24) else
  if(match p with | none=>true | some q=>bN q e)=false then((i:Int),23) else match cu now e with
  | none=>((i:Int),25)
  | some x=>dC N l (some e) x (i+1)
theorem mi(N:Int)(e:aW)(l:List aW)(p:Option aW)(now:List Edge)(i:Nat):dC N (e ::l) p now i=if e.t<0∨e.t>4611686018427387903 then((i:Int),26) else if mR N e=false then((i:Int),24) else
    if(match p with | none=>true | some q=>bN q e)=false then((i:Int),23) else match cu now e with
    | none=>((i:Int),25)
    | some x=>dC N l (some e) x (i+1):=rfl
def dO(N:Int)(l:List aW):Int×Int:=if N>4294967296∨l.length>2147483648 then(0,26) else dC N l none [] 0
theorem qy{l x:List Edge}{e:aW}(h:cu l e=some x):x.length<=l.length+1:=by
 unfold cu at h;split at h
 ·cases h
 ·split at h
  ·cases h
  ·split at h
   ·cases h;simp;omega
   ·cases h;simp;omega
theorem xu {w:World} {A:OA} {n c:Nat} {l:List aW} {N:Int} (hr:aZ w A (cE l)) (hn:n=l.length) (hl:n<=2^20) (hb:∀ e∈l,(0<=e.u/\e.u<=4294967295)/\0<=e.v/\e.v<=4294967295) :
    Calls P 39 #[.agg #[.int .u64 N,.slice A n c]] w fun ev w'=>ev=.returned (.tuple #[.int .i64 (dO N l).1,.int .i64 (dO N l).2])/\w.grownBy w' none:=by
  apply vc39;dsimp only[VC39,rt,Wt,Br,Rd,Rs,Ix,Ws,cB,nb,ad,al,iq]
  try simp only[aF]
  have g1:=World.grownBy_alloc w (.cells #[.int .u64 N,.slice A n c] 25) none;have b1:(w.alloc (.cells #[.int .u64 N,.slice A n c] 25)).heap[w.heap.size]?=some (.cells #[.int .u64 N,.slice A n c] 25 (0,0)):=heap_alloc_new w _;obtain⟨w1,GB⟩:∃ w1,w1=w.alloc (.cells #[.int .u64 N,.slice A n c] 25):=⟨_,rfl⟩;rw[← GB]at g1 b1 ⊢;have keep:∀ w',w1.grownBy w' none->w'.heap[w.heap.size]?=some (.cells #[.int .u64 N,.slice A n c] 25 (0,0)):=fun w' g=>by rw[g.block _ (Array.getElem?_eq_some_iff.1 b1).1 (by simp)];exact b1
  refine⟨_,aB b1 0,fun h=>⟨by rw[dO,if_pos (.inl h)],g1⟩,fun h=>⟨_,_,_,aB b1 1,fun h2=>⟨by rw[dO,if_pos (.inr (by omega))],g1⟩,fun h2=>?_⟩⟩;have Hk:dO N l=dC N l none [] 0:=by rw[dO,if_neg (by omega)]
  refine⟨fun m B k d i w2=>∃(j:Nat)(now:List Edge),i=(j:Int)/\j<=l.length/\m=l.length-j/\aE w2 w1.heap.size 45 2 B k d (edges now)/\now.length<=j/\dO N l=dC N (l.drop j) (if j=0 then none else l[j-1]?) now j/\w1.grownBy w2 none,
    ⟨_,0,[],rfl,by omega,rfl,aE.nil _ _ _ _,by simp,by simpa using Hk,aC _ _⟩,?_⟩
  rintro m B k d i w2 ⟨j,now,rfl,hj,rfl,ho,IM,GO,hg⟩;have tj:(j:Int).toNat=j:=by omega
  have tj1:((j:Int)-1).toNat=j-1:=by omega
  have hk:k=now.length:=by have:=ho.cases.1;rw[dl]at this;omega
  rw[tj,tj1];refine⟨_,_,_,aB (keep w2 hg) 1,fun FE=>?_,fun FJ=>?_⟩
  · have lj:j<l.length:=by omega
    rw[List.drop_eq_getElem_cons lj,mi]at GO;obtain⟨a,e1,e2,e3,e4,e5⟩:=eE ((hr.kept_none g1).kept_none hg) lj;have PL:=hb _ (List.getElem_mem lj);have ga:=World.grownBy_alloc w2 (.cells #[.int .i64 0,.int .u32 0,.int .u32 0,.bool false] 62) none;have s0:(w2.alloc (.cells #[.int .i64 0,.int .u32 0,.int .u32 0,.bool false] 62)).heap[w2.heap.size]?=some (.cells #[.int .i64 0,.int .u32 0,.int .u32 0,.bool false] 62 (0,0)):=heap_alloc_new w2 _;obtain⟨wa,LA⟩:∃ wa,wa=w2.alloc (.cells #[.int .i64 0,.int .u32 0,.int .u32 0,.bool false] 62):=⟨_,rfl⟩;rw[← LA]at ga s0 ⊢;have s1:=aG s0 0 (.int .i64 l[j].t);have s2:=aG s1 1 (.int .u32 l[j].u);have s3:=aG s2 2 (.int .u32 l[j].v);have s4:=aG s3 3 (.bool l[j].add);have K4:Kp w2 ((((wa.setCell ⟨w2.heap.size,0,none⟩ (.int .i64 l[j].t)).setCell ⟨w2.heap.size,1,none⟩ (.int .u32 l[j].u)).setCell ⟨w2.heap.size,2,none⟩ (.int .u32 l[j].v)).setCell ⟨w2.heap.size,3,none⟩ (.bool l[j].add)) (fun k=>w2.heap.size<=k):=bK (bK (bK (bK (Kp.of_none ga) (Nat.le_refl _)) (Nat.le_refl _)) (Nat.le_refl _)) (Nat.le_refl _);refine⟨_,_,_,aB (keep w2 hg) 1,a,e1,by omega,by omega,_,e2,_,e3,_,e4,_,e5,⟨_,aB s0 0⟩,aD s0 0,⟨_,aB s1 1⟩,aD s1 1,⟨_,aB s2 2⟩,aD s2 2,⟨_,aB s3 3⟩,aD s3 3,?_⟩;obtain⟨w4,Il⟩:∃ w4,w4=(((wa.setCell ⟨w2.heap.size,0,none⟩ (.int .i64 l[j].t)).setCell ⟨w2.heap.size,1,none⟩ (.int .u32 l[j].u)).setCell ⟨w2.heap.size,2,none⟩ (.int .u32 l[j].v)).setCell ⟨w2.heap.size,3,none⟩ (.bool l[j].add):=⟨_,rfl⟩;rw[← Il]at s4 K4 ⊢;replace s4:w4.heap[w2.heap.size]?=some (.cells #[.int .i64 l[j].t,.int .u32 l[j].u,.int .u32 l[j].v,.bool l[j].add] 62 (0,0)):=by simpa using s4
    have Lw:w2.grownBy w4 none:=K4.grown (fun k hk e=>by omega);have Ib:=aA hg Lw;have Ij:=aA g1 Ib;refine⟨_,aB s4 0,fun h=>⟨by rw[GO,if_pos (.inl h)],Ij⟩,fun h0=>⟨_,aB s4 0,fun h=>⟨by rw[GO,if_pos (.inr h)],Ij⟩,fun h1=>⟨_,aB s4 1,_,aB s4 2,_,aB (keep w4 Ib) 0,?_⟩⟩⟩;rw[if_neg (by omega)]at GO;refine(pK (l[j].u,l[j].v) PL.2).mono fun ev w5 hh=>?_;obtain⟨rfl,g5⟩:=hh;have Kh:=aA Ib g5;refine⟨_,rfl,fun h=>⟨by rw[GO,if_pos (show mR N l[j]=false from h)],aA g1 Kh⟩,fun h=>?_⟩;rw[if_neg (show ¬ mR N l[j]=false from h)]at GO;have s5:∀ w',w4.grownBy w' none->w'.heap[w2.heap.size]?=some (.cells #[.int .i64 l[j].t,.int .u32 l[j].u,.int .u32 l[j].v,.bool l[j].add] 62 (0,0)):=fun w' g=>by rw[g.block _ (Array.getElem?_eq_some_iff.1 s4).1 (by simp)];exact s4
    have gd:=aH g5;have HX:=df ho;have FW:k<=d:=kJ ho
    -- the turn, behind whatever was looked at
    have fin:(match (if j=0 then none else l[j-1]?)with | none=>true | some q=>bN q l[j])=true->∀ w6,w4.grownBy w6 none->Calls P 30 #[.slice B k d,.agg #[.int .i64 l[j].t,.int .u32 l[j].u,.int .u32 l[j].v,.bool l[j].add]] w6 fun ev w7=>∃(C:OA)(cn cc:Nat)(q:Bool),ev=.returned (.tuple #[.slice C cn cc,.bool q])/\((q=false->Ending.returned (Value.tuple #[.int .i64 (j:Int),.int .i64 25])=Ending.returned (Value.tuple #[.int .i64 (dO N l).1,.int .i64 (dO N l).2])/\w.grownBy w7 none)/\(¬ q=false->(-9223372036854775808<=(j:Int)+1/\(j:Int)+1<=9223372036854775807)/\∃ m_1,m_1<l.length-j/\∃(j':Nat)(now':List Edge),(j:Int)+1=(j':Int)/\j'<=l.length/\m_1=l.length-j'/\aE w7 w1.heap.size 45 2 C cn cc (edges now')/\now'.length<=j'/\dO N l=dC N (l.drop j') (if j'=0 then none else l[j'-1]?) now' j'/\w1.grownBy w7 none)):=by
      intro HP w6 g6;rw[if_neg (by rw[HP];simp)]at GO;have R6:=aA Lw g6;refine(ll (e:=l[j]) ((ho.kept R6).row) hk FW HX (by omega)).mono fun ev w7 hh=>?_;obtain⟨C,cn,cc,rfl,oC,g7⟩:=hh;have IJ:=aA (aA hg R6) g7;refine⟨_,_,_,_,rfl,fun hq=>?_,fun hq=>?_⟩
      · cases ht:cu now l[j]with
        | some x=>rw[ht]at hq;cases hq
        | none =>
          rw[ht]at GO;exact⟨by rw[GO],aA g1 IJ⟩
      · cases ht:cu now l[j]with
        | none=>rw[ht]at hq;exact absurd rfl hq
        | some x =>
          rw[ht]at GO oC;have:=qy ht;refine⟨⟨by omega,by omega⟩,l.length-(j+1),by omega,j+1,x,by omega,by omega,rfl,oC.mono (Nat.le_trans hg.size R6.size),by omega,?_,IJ⟩;rw[GO];simp[lj]
    refine⟨fun FO=>?_,fun hz=>?_⟩
    · have lj1:j-1<l.length:=by omega
      obtain⟨a',f1,f2,f3,f4,f5⟩:=eE ((hr.kept_none g1).kept_none (aA Ib gd)) lj1;have sd:=s5 w5.drew gd;have Gi:(if j=0 then none else l[j-1]?)=some l[j-1]:=by rw[if_neg (by omega)];simp[lj1]
      refine⟨_,_,_,aB (keep w5.drew (aA Ib gd)) 1,by omega,a',f1,by omega,by omega,_,f2,_,f3,_,f4,_,f5,_,aB sd 0,_,aB sd 1,_,aB sd 2,_,aB sd 3,?_⟩;refine(ml l[j-1] l[j]).mono fun ev w6 hh=>?_;obtain⟨rfl,g6⟩:=hh;have Kt:=aA gd g6;refine⟨_,rfl,fun hq=>⟨?_,aA g1 (aA Ib Kt)⟩,fun hq=>?_⟩
      · rw[GO,Gi,if_pos hq]
      · have s6:=s5 w6 Kt;exact⟨_,aB s6 0,_,aB s6 1,_,aB s6 2,_,aB s6 3,fin (by rw[Gi];simpa using hq) w6 Kt⟩
    · have j0:j=0:=by omega
      have sd:=s5 w5.drew gd;exact⟨_,aB sd 0,_,aB sd 1,_,aB sd 2,_,aB sd 3,fin (by rw[if_pos j0]) w5.drew gd⟩
  · have e:j=l.length:=by omega
    subst e;rw[List.drop_length]at GO;exact⟨by rw[GO];rfl,aA g1 hg⟩
def dH(l:List aW)(now:List Edge):List Edge:=l.foldl (fun now e=>(cu now e).getD []) now
theorem pq(l:List aW)(e:aW)(now:List Edge):dH (l++[e]) now=(cu (dH l now) e).getD []:=by simp[dH]
theorem iW:∀(l:List aW)(now:List Edge),(dH l now).length<=now.length+l.length
 | [],now=>by simp[dH]
 | e ::l,now=>by
  have ih:=iW l ((cu now e).getD []);have:((cu now e).getD []).length<=now.length+1:=by
   cases h:cu now e with
   | none=>simp
   | some x=>exact qy h
  show(dH l ((cu now e).getD [])).length<=_;simp only[List.length_cons];omega
def iF(N:Int)(l:List aW)(k:Int):List Edge:=if(dO N l).2≠0 then [] else dH (l.take k.toNat) []
theorem zg{w:World}{A:OA}{n c:Nat}{l:List aW}{N k:Int}(hr:aZ w A (cE l))(hn:n=l.length)(hl:n<=2^20)(hb:∀ e∈l,(0<=e.u/\e.u<=4294967295)/\0<=e.v/\e.v<=4294967295):
    Calls P 24 #[.agg #[.int .u64 N,.slice A n c],.int .i64 k] w fun ev w'=>∃(A':OA)(n' c':Nat),ev=.returned (.tuple #[.slice A' n' c',.int .i64 (dO N l).2])/\aE w' w.heap.size 45 2 A' n' c' (edges (iF N l k))/\w.grownBy w' none:=by
  apply vc24;dsimp only[VC24,rt,Br,Rd,Rs,Ix,nb,ad,al,iq]
  try simp only[aF]
  have g1:=World.grownBy_alloc w (.cells #[.int .u64 N,.slice A n c] 25) none;have b1:(w.alloc (.cells #[.int .u64 N,.slice A n c] 25)).heap[w.heap.size]?=some (.cells #[.int .u64 N,.slice A n c] 25 (0,0)):=heap_alloc_new w _;obtain⟨w1,GB⟩:∃ w1,w1=w.alloc (.cells #[.int .u64 N,.slice A n c] 25):=⟨_,rfl⟩;rw[← GB]at g1 b1 ⊢;have keep:∀ w',w1.grownBy w' none->w'.heap[w.heap.size]?=some (.cells #[.int .u64 N,.slice A n c] 25 (0,0)):=fun w' g=>by rw[g.block _ (Array.getElem?_eq_some_iff.1 b1).1 (by simp)];exact b1
  refine⟨_,aB b1 0,_,_,_,aB b1 1,?_⟩;refine(xu (hr.kept_none g1) hn hl hb).mono fun ev w2 hh=>?_;obtain⟨rfl,g2⟩:=hh;have GQ:=aA g1 g2;refine⟨_,_,rfl,fun h=>?_,fun h=>?_⟩
  · have:iF N l k=[]:=by rw[iF,if_pos h]
    rw[this];exact⟨_,_,_,rfl,aE.nil _ _ _ _,GQ⟩
  have hz:(dO N l).2=0:=by omega
  have RA:iF N l k=dH (l.take k.toNat) []:=by rw[iF,if_neg h]
  rw[RA,hz];refine⟨fun m B q d i w3=>∃ j:Nat,i=(j:Int)/\j<=l.length/\(j:Int)<=max k 0/\m=l.length-j/\aE w3 w.heap.size 45 2 B q d (edges (dH (l.take j) []))/\w1.grownBy w3 none,
    ⟨_,0,rfl,by omega,by omega,rfl,aE.nil _ _ _ _,g2⟩,?_⟩
  rintro m B q d i w3 ⟨j,rfl,hj,Xn,rfl,ho,hg⟩;have tj:(j:Int).toNat=j:=by omega
  rw[tj];have FI:=iW (l.take j) [];rw[List.length_take]at FI;simp only[List.length_nil]at FI;have hq:q=(dH (l.take j) []).length:=by have:=ho.cases.1;rw[dl]at this;omega
  refine⟨_,_,_,aB (keep w3 hg) 1,fun FE=>⟨fun hk=>?_,fun hk=>?_⟩,fun FJ=>?_⟩
  · have lj:j<l.length:=by omega
    obtain⟨a,e1,e2,e3,e4,e5⟩:=eE ((hr.kept_none g1).kept_none hg) lj;refine⟨_,_,_,aB (keep w3 hg) 1,a,e1,by omega,by omega,_,e2,_,e3,_,e4,_,e5,?_⟩;refine(ll (e:=l[j]) ho.row hq (kJ ho) (df ho) (by omega)).mono fun ev w4 hh=>?_;obtain⟨C,cn,cc,rfl,oC,g4⟩:=hh;refine⟨_,_,_,_,rfl,by omega,l.length-(j+1),by omega,j+1,by omega,by omega,by omega,rfl,?_,aA hg g4⟩;rw[List.take_succ_eq_append_getElem lj,pq];exact oC.mono (Nat.le_trans g1.size hg.size)
  · have:l.take k.toNat=l.take j:=by
      have:k.toNat=j:=by omega
      rw[this]
    rw[this];exact⟨_,_,_,rfl,ho,aA g1 hg⟩
  · have e:j=l.length:=by omega
    have:l.take k.toNat=l.take j:=by
      rw[List.take_of_length_le (l:=l) (i:=j) (by omega),List.take_of_length_le (by omega)]
    rw[this];exact⟨_,_,_,rfl,ho,aA g1 hg⟩
theorem xl(d:Nat)(a b c e:Int)(w:World):(Op.equalIn (d+2) 45 (.agg #[.int .u32 a,.int .u32 b]) (.agg #[.int .u32 c,.int .u32 e])).run P w=.ok (decide (a=c/\b=e)) w:=by
 rw[run_equalIn_struct w (d+1) 45 _ _ (by kernel_rfl) (by kernel_rfl)];obtain ⟨f, g, OJ, OM, OL, OK, HA, FN, Gb⟩ : ∃ f g : Field, (P.fieldsOf 45).toList = [f, g] ∧ f.name = "U" ∧ f.type = 43 ∧ f.offset = 0 ∧ g.name = "V" ∧ g.type = 43 ∧ g.offset = 1 :=
  ⟨((P.fieldsOf 45).toList)[0]!,((P.fieldsOf 45).toList)[1]!,by kernel_rfl,by kernel_rfl,by kernel_rfl,by kernel_rfl,by kernel_rfl,by kernel_rfl,by kernel_rfl⟩
 rw[OJ];have hu:P.underlying 43=some (.int .u32):=by kernel_rfl
 have hp:P.plainKey 43=true:=by kernel_rfl
 have e1:∀(x y:Int)(w:World),(part 43 #[.int .u32 x,.int .u32 y] 0).run P w=.ok (.int .u32 x) w:=fun x y w=>run_part_plain w hp rfl;have e2:∀(x y:Int)(w:World),(part 43 #[.int .u32 x,.int .u32 y] 1).run P w=.ok (.int .u32 y) w:=fun x y w=>run_part_plain w hp rfl;have q:∀(x y:Int)(w:World),(Op.equalIn (d+1) 43 (.int .u32 x) (.int .u32 y)).run P w=.ok (x ==y) w:=fun x y w=>run_equalIn_int w d _ _ _ _ _ hu;simp only[Op.eqFields,OM,OL,OK,HA,FN,Gb,Sem.run_bind,Sem.run_ite,e1,e2,q,Result.andThen_ok];by_cases h1:a=c
 ·by_cases h2:b=e
  ·simp[h1,h2]
  ·simp[h1,h2]
 ·simp[h1]
theorem Cc(t:Int)(u v:Int)(a:Bool)(w:World):(part 45 #[.int .i64 t,.int .u32 u,.int .u32 v,.bool a] 1).run P w=.ok (.agg #[.int .u32 u,.int .u32 v]) w:=by
 have hu:P.underlying 45=some (.struct (P.fieldsOf 45)):=by kernel_rfl
 obtain⟨i,hi⟩:∃ i,P.info? 45=some i:=⟨(P.info? 45).getD default,by kernel_rfl⟩;have hc:P.cellsOf 45=2:=by kernel_rfl
 simp[part,isAgg,run_underlying hu,run_sizeOf w hi,hc]
theorem Co(a b:aW)(w:World):(Op.equalIn 10000 62 (evtV a) (evtV b)).run P w=.ok (decide (a=b)) w:=by
 rw[run_equalIn_struct w 9999 62 _ _ (by kernel_rfl) (by kernel_rfl)];obtain ⟨f, g, h, OJ, OM, OL, OK, HA, FN, Gb, OD, Vv, Vu⟩ : ∃ f g h : Field, (P.fieldsOf 62).toList = [f, g, h] ∧ f.name = "T" ∧ f.type = 2 ∧ f.offset = 0 ∧ g.name = "Edge" ∧ g.type = 45 ∧ g.offset = 1 ∧ h.name = "Add" ∧ h.type = 4 ∧ h.offset = 3 :=
  ⟨((P.fieldsOf 62).toList)[0]!,((P.fieldsOf 62).toList)[1]!,((P.fieldsOf 62).toList)[2]!,by kernel_rfl,by kernel_rfl,by kernel_rfl,by kernel_rfl,by kernel_rfl,by kernel_rfl,by kernel_rfl,by kernel_rfl,by kernel_rfl,by kernel_rfl⟩
 rw[OJ];have hu:P.underlying 2=some (.int .i64):=by kernel_rfl
 have Um:P.underlying 4=some .bool:=by kernel_rfl
 have hp:P.plainKey 2=true:=by kernel_rfl
 have UO:P.plainKey 4=true:=by kernel_rfl
 have e1:∀(x:aW)(w:World),(part 2 #[.int .i64 x.t,.int .u32 x.u,.int .u32 x.v,.bool x.add] 0).run P w=.ok (.int .i64 x.t) w:=fun x w=>run_part_plain w hp rfl;have e2:∀(x:aW)(w:World),(part 45 #[.int .i64 x.t,.int .u32 x.u,.int .u32 x.v,.bool x.add] 1).run P w=.ok (.agg #[.int .u32 x.u,.int .u32 x.v]) w:=fun x w=>Cc _ _ _ _ w;have e3:∀(x:aW)(w:World),(part 4 #[.int .i64 x.t,.int .u32 x.u,.int .u32 x.v,.bool x.add] 3).run P w=.ok (.bool x.add) w:=fun x w=>run_part_plain w UO rfl;have q1:∀(x y:Int)(w:World),(Op.equalIn 9999 2 (.int .i64 x) (.int .i64 y)).run P w=.ok (x ==y) w:=fun x y w=>run_equalIn_int w 9998 _ _ _ _ _ hu;have q2:∀(x y z t:Int)(w:World),(Op.equalIn 9999 45 (.agg #[.int .u32 x,.int .u32 y]) (.agg #[.int .u32 z,.int .u32 t])).run P w=.ok (decide (x=z/\y=t)) w:=fun x y z t w=>xl 9997 x y z t w;have q3:∀(x y:Bool)(w:World),(Op.equalIn 9999 4 (.bool x) (.bool y)).run P w=.ok (x ==y) w:=fun x y w=>run_equalIn_bool' w 9998 _ _ _ Um;simp only[Op.eqFields,OM,OL,OK,HA,FN,Gb,OD,Vv,Vu,Sem.run_bind,Sem.run_ite,e1,e2,e3,q1,q2,q3,Result.andThen_ok];obtain⟨t,u,v,p⟩:=a;obtain⟨t',u',v',p'⟩:=b;by_cases h1:t=t'
 ·by_cases h2:u=u'/\v=v'
  ·obtain⟨h2,h3⟩:=h2;by_cases h4:p=p'
   ·simp[h1,h2,h3,h4]
   ·simp[h1,h2,h3,h4]
  ·have:¬ (u=u'/\v=v'/\p=p'):=fun q=>h2 ⟨q.1,q.2.1⟩;simp[h1,h2,this]
 ·simp[h1]
theorem Eo(s t:Operand)(a b:aW)(w:World):Sem.run P (do eqGuard .neq 62 s t (evtV a) (evtV b);Go.binOp .neq 62 (evtV a) (evtV b):Sem Value) w=.ok (.bool (!decide (a=b))) w:=by
 rw[Sem.run_bind,run_eqGuard_agg w .neq 62 s t _ _ (by kernel_rfl),Result.andThen_ok,run_neq_struct w,Co];rfl
theorem kB{w:World}{A B:OA}{n c m d:Nat}{l k:List aW}(hA:aZ w A (cE l))(hn:n=l.length)(hB:aZ w B (cE k))(hm:m=k.length)(hl:n<=2^40):Calls P 25 #[.slice A n c,.slice B m d] w fun ev w'=>ev=.returned (.bool (decide (l=k)))/\w.grownBy w' none:=by
 apply vc25;dsimp only[VC25,rb,Br,Bb,Rd,Ix,Eg,ad,al,iq]
 try simp only[aF]
 refine⟨fun FG=>⟨?_,aC _ _⟩,fun GZ=>?_⟩
 ·have:l≠k:=fun e=>by subst e;omega
  simp[this]
 refine⟨fun mm i w1=>∃ j:Nat,i=(j:Int)/\j<=l.length/\mm=l.length-j/\l.take j=k.take j/\w.grownBy w1 none,⟨_,0,rfl,by omega,rfl,by simp,aC _ _⟩,?_⟩;rintro mm i w1 ⟨j,rfl,hj,rfl,hs,hg⟩;have tj:(j:Int).toNat=j:=by omega
 rw[tj];refine⟨fun FE=>?_,fun FJ=>⟨?_,hg⟩⟩
 ·have gd:=aH hg;have lj:j<l.length:=by omega
  have kj:j<k.length:=by omega
  obtain⟨a,e1,e2,e3,e4,e5⟩:=eE (hA.kept_none gd) lj;obtain⟨b,f1,f2,f3,f4,f5⟩:=eE (hB.kept_none gd) kj;refine⟨a,e1,by omega,by omega,_,e2,_,e3,_,e4,_,e5,b,f1,by omega,by omega,_,f2,_,f3,_,f4,_,f5,_,fun w=>Eo _ _ l[j] k[j] w,fun h=>⟨?_,gd⟩,fun h=>⟨by omega,l.length-(j+1),by omega,j+1,by omega,by omega,rfl,?_,gd⟩⟩
  ·have:l≠k:=fun e=>by subst e;simp at h
   simp[this]
  ·have he:l[j]=k[j]:=by simpa using h
   rw[List.take_succ_eq_append_getElem lj,List.take_succ_eq_append_getElem kj,hs,he]
 ·rw[List.take_of_length_le (by omega),List.take_of_length_le (by omega)]at hs;simp[hs]
def jW(k:Int):Int:=([8,5,2,4294967296,300,12,1048576,3]:List Int).getD (k % 8).toNat 0
theorem sW(k:Int):2<=jW k/\jW k<=4294967296:=by
 have h:∀ t:Fin 8,2<=([8,5,2,4294967296,300,12,1048576,3]:List Int).getD t.val 0/\([8,5,2,4294967296,300,12,1048576,3]:List Int).getD t.val 0<=4294967296:=by decide
 exact h ⟨(k % 8).toNat,by omega⟩
theorem sV{w:World}{k:Int}(hk:0<=k/\k<=255):Calls P 27 #[.int .u8 k] w fun ev w'=>ev=.returned (.int .u64 (jW k))/\w.grownBy w' none:=by
 apply vc27;dsimp only[VC27,Ix,nb];have g:=World.grownBy_alloc w (.cells #[.int .u64 8,.int .u64 5,.int .u64 2,.int .u64 4294967296,.int .u64 300,.int .u64 12,.int .u64 1048576,.int .u64 3] 22) none;have hr:aZ (w.alloc (.cells #[.int .u64 8,.int .u64 5,.int .u64 2,.int .u64 4294967296,.int .u64 300,.int .u64 12,.int .u64 1048576,.int .u64 3] 22)) (some ⟨w.heap.size,0,none⟩) (([8,5,2,4294967296,300,12,1048576,3]:List Int).map (Value.int .u64)):=de w _ 22;have FE:(k % 8).toNat<([8,5,2,4294967296,300,12,1048576,3]:List Int).length:=by simp;omega
 obtain⟨a,e1,e2⟩:=hr (k % 8).toNat (.int .u64 (jW k)) (by rw[List.getElem?_map,List.getElem?_eq_getElem FE,jW,List.getD_eq_getElem?_getD,List.getElem?_eq_getElem FE];rfl);exact⟨⟨by omega,by omega⟩,a,e1,by omega,by omega,_,e2,rfl,g⟩
def jH(a most n:Int):Int:=if a>most then n-1-a % mn n 9 else a % mn n 9
def ef(a b n:Int):Edge×Bool:=if jH a 230 n=jH b 240 n then((0,0),false) else((mn (jH a 230 n) (jH b 240 n),mx (jH a 230 n) (jH b 240 n)),true)
theorem pI{a most n:Int}(ha:0<=a)(hn:2<=n/\n<=4294967296):0<=jH a most n/\jH a most n<n:=by
 have h1:1<=mn n 9/\mn n 9<=n:=by unfold mn;split <;>omega
 have h2:=Int.emod_nonneg a (show mn n 9≠0 by omega);have h3:=Int.emod_lt_of_pos a (show 0<mn n 9 by omega);unfold jH;split <;>omega
theorem rV{w:World}{a b n:Int}(ha:0<=a/\a<=255)(hb:0<=b/\b<=255)(hn:2<=n/\n<=4294967296):Calls P 18 #[.int .u8 a,.int .u8 b,.int .u64 n] w fun ev w'=>ev=.returned (.tuple #[gQ (ef a b n).1,.bool (ef a b n).2])/\w.grownBy w' none:=by
 apply vc18;dsimp only[VC18,rt,Wt,Br,Rd,Ws,nb]
 try simp only[aF]
 have h1:1<=mn n 9/\mn n 9<=n:=by unfold mn;split <;>omega
 have ua:=pI (most:=230) ha.1 hn;have ub:=pI (most:=240) hb.1 hn;have a2:=Int.emod_nonneg a (show mn n 9≠0 by omega);have a3:=Int.emod_lt_of_pos a (show 0<mn n 9 by omega);have c2:=Int.emod_nonneg b (show mn n 9≠0 by omega);have c3:=Int.emod_lt_of_pos b (show 0<mn n 9 by omega);have g1:=aH (World.grownBy_alloc w (.cells #[.int .u32 0,.int .u32 0] 45) none);have b1:(w.alloc (.cells #[.int .u32 0,.int .u32 0] 45)).drew.heap[w.heap.size]?=some (.cells #[.int .u32 0,.int .u32 0] 45 (0,0)):=heap_alloc_new w _;obtain⟨w1,GB⟩:∃ w1,w1=(w.alloc (.cells #[.int .u32 0,.int .u32 0] 45)).drew:=⟨_,rfl⟩;rw[← GB]at g1 b1 ⊢;refine⟨by omega,⟨by omega,by omega⟩,by omega,⟨by omega,by omega⟩,fun u w'=>u=jH a 230 n/\w'=w1,⟨fun h=>⟨by omega,by omega,by unfold jH;rw[if_pos h],rfl⟩,fun h=>⟨by unfold jH;rw[if_neg h],rfl⟩⟩,?_⟩;rintro u w2 ⟨hu,HS⟩;rw[HS];clear HS;refine⟨fun v w'=>v=jH b 240 n/\w'=w1,⟨fun h=>⟨by omega,by omega,by unfold jH;rw[if_pos h],rfl⟩,fun h=>⟨by unfold jH;rw[if_neg h],rfl⟩⟩,?_⟩;rintro v w3 ⟨hv,GF⟩;rw[GF];clear GF;rw[← hu]at ua;rw[← hv]at ub;have hm:0<=mn u v/\mn u v<=4294967295/\0<=mx u v/\mx u v<=4294967295:=by unfold mn mx;split <;>split <;>omega
 have fin:∀ p q:Int,w.grownBy ((w1.setCell ⟨w.heap.size,0,none⟩ (.int .u32 p)).setCell ⟨w.heap.size,1,none⟩ (.int .u32 q)) none:=fun p q=>(bK (bK (Kp.of_none (S:=fun k=>w.heap.size<=k) g1) (Nat.le_refl _)) (Nat.le_refl _)).grown (fun k hk e=>by omega);refine⟨fun he=>?_,fun he=>?_⟩
 ·have s1:=aG b1 0 (.int .u32 0);have s2:=aG s1 1 (.int .u32 0);refine⟨⟨_,aB b1 0⟩,aD b1 0,⟨_,aB s1 1⟩,aD s1 1,0,aB s2 0,0,aB s2 1,?_,fin 0 0⟩;unfold ef;rw[if_pos (by omega)]
 ·have s1:=aG b1 0 (.int .u32 (mn u v));have s2:=aG s1 1 (.int .u32 (mx u v));refine⟨by omega,by omega,⟨_,aB b1 0⟩,aD b1 0,⟨_,aB s1 1⟩,aD s1 1,_,aB s2 0,_,aB s2 1,?_,fin _ _⟩;unfold ef;rw[← hu,← hv,if_neg he]
theorem Bz:oq P 23 62 4 (P.bytesOf 62):=⟨(P.info? 62).getD default,((P.info? 62).getD default).zero.getD undef,by kernel_rfl,by kernel_rfl,by kernel_rfl,by kernel_rfl,by kernel_rfl,by kernel_rfl,by decide⟩
theorem DI:P.bytesOf 62<=64:=of_decide_eq_true (by kernel_rfl)
theorem yJ(l m:List aW):cE (l++m)=cE l++cE m:=by simp[cE]
theorem Cn(l:List aW)(k:Nat):(cE l).drop (k*4)=cE (l.drop k):=by
 induction k generalizing l with
 | zero=>simp
 | succ k ih =>
  cases l with
  | nil=>simp[cE]
  | cons e l=>rw[show(k+1)*4=k*4+1+1+1+1 by omega];exact ih l
theorem Cm(l:List aW)(k:Nat):(cE l).take (k*4)=cE (l.take k):=by
 induction k generalizing l with
 | zero=>simp[cE]
 | succ k ih =>
  cases l with
  | nil=>simp[cE]
  | cons e l =>
   rw[show(k+1)*4=k*4+1+1+1+1 by omega];show List.take (k*4+1+1+1+1) (.int .i64 e.t ::.int .u32 e.u ::.int .u32 e.v ::.bool e.add ::cE l)=.int .i64 e.t ::.int .u32 e.u ::.int .u32 e.v ::.bool e.add ::cE (List.take k l);rw[List.take_succ_cons,List.take_succ_cons,List.take_succ_cons,List.take_succ_cons,ih]
theorem eh{w:World}{base:Nat}{A B:OA}{n c m d:Nat}{xs ys:List aW}(ho:aE w base 62 4 A n c (cE xs))(hB:aZ w B (cE ys))(hm:m=ys.length)(hd:B=none->d=0)(hn:n+m<=2^39)(hb:base<=w.heap.size):
    ∃ (A':OA) (n' c':Nat) (w':World),Sem.run P (Builtin.append_ #[23,23] 23 #[.slice A n c,.slice B m d]) w=.ok (.slice A' n' c') w' ∧
      aE w' base 62 4 A' n' c' (cE (xs++ys))/\w.grownBy w' (Value.slice A n c).ownBlock/\n'=n+m:=by
  cases B with
  | none =>
    have IK:ys=[]:=by
      cases ys with
      | nil=>rfl
      | cons y ys=>obtain⟨a,e,_⟩:=hB 0 _ rfl;cases e
    subst IK;have h0:m=0:=by simpa using hm
    have h1:=hd rfl;subst h0 h1;exact⟨A,n,c,w,ho.appends_nil Bz,by simpa using ho,aC _ _,rfl⟩
  | some a =>
    obtain⟨A',n',c',w',h1,h2,h3,h4,_⟩:=ho.appends (ty:=23) Bz DI (a:=a) (m:=m) (cc:=d) (us:=cE ys) (by rw[dz,hm]) (fun j u hj=>by obtain⟨b,q1,q2⟩:=hB j u hj;cases q1;exact q2) (fun u hu=>by
      simp only[cE,List.mem_flatMap]at hu;obtain⟨e,_,he⟩:=hu;simp[EI]at he;rcases he with rfl | rfl | rfl | rfl <;>rfl) (by omega) hb
    exact⟨A',n',c',w',h1,by rw[yJ];exact h2,h4,h3⟩
theorem Dy{w:World}{A:OA}{c k:Nat}{l:List aW}(h:aZ w A (cE l))(hA:A=none->c=0)(hc:l.length<=c):aZ w (bB A c k 4) (cE (l.drop k))/\(bB A c k 4=none->c-k=0):=by
 unfold bB;split
 ·rename_i GO;refine⟨?_,fun _=>by omega⟩;rw[List.drop_eq_nil_of_le (by omega)];intro j u hj;simp[cE]at hj
 ·have:=h.drop (k*4);rw[Cn]at this;refine⟨this,fun e=>?_⟩;cases A with
  | none=>rw[hA rfl];omega
  | some a=>simp at e
theorem td{w:World}{A:OA}{l:List aW}(h:aZ w A (cE l))(k:Nat):aZ w A (cE (l.take k)):=by
 intro j u hj;rw[← Cm,List.getElem?_take]at hj;split at hj
 ·exact h j u hj
 ·cases hj
def di(l:List aW)(e:aW):Nat->Nat
 | 0=>0
 | k+1=>if bN e (l.getD k ⟨0,0,0,false⟩)=true then di l e k else k+1
theorem oM(l:List aW)(e:aW):∀ k,di l e k<=k
 | 0=>Nat.le_refl _
 | k+1=>by
  unfold di;split
  ·exact Nat.le_succ_of_le (oM l e k)
  ·exact Nat.le_refl _
def ja(l:List aW)(e:aW):List aW :=
 if 0<di l e l.length/\(l.getD (di l e l.length-1) ⟨0,0,0,false⟩).t=e.t/\(l.getD (di l e l.length-1) ⟨0,0,0,false⟩).u=e.u/\(l.getD (di l e l.length-1) ⟨0,0,0,false⟩).v=e.v then l
 else l.take (di l e l.length)++(e ::l.drop (di l e l.length))
theorem wY {w:World} {base:Nat} {A:OA} {n c:Nat} {l:List aW} {e:aW} (ho:aE w base 62 4 A n c (cE l)) (hb:base<=w.heap.size) (hl:n<=2^30) :
    Calls P 28 #[.slice A n c,evtV e] w fun ev w'=>∃(A':OA)(n' c':Nat),ev=.returned (.slice A' n' c')/\aE w' base 62 4 A' n' c' (cE (ja l e))/\w.grownBy w' none:=by
  have hn:n=l.length:=by have:=ho.cases.1;rw[dz]at this;omega
  have hc:=kJ ho;have hA:=df ho;have hr:=ho.row;apply vc28;dsimp only[VC28,Br,Bb,Rd,Rc,Ix,Ap,Eg,cB,nb,ad,al,iq]
  try simp only[aF]
  have g1:=World.grownBy_alloc w (.cells #[.int .i64 e.t,.int .u32 e.u,.int .u32 e.v,.bool e.add] 62) none;have b1:(w.alloc (.cells #[.int .i64 e.t,.int .u32 e.u,.int .u32 e.v,.bool e.add] 62)).heap[w.heap.size]?=some (.cells #[.int .i64 e.t,.int .u32 e.u,.int .u32 e.v,.bool e.add] 62 (0,0)):=heap_alloc_new w _;obtain⟨w1,GB⟩:∃ w1,w1=w.alloc (.cells #[.int .i64 e.t,.int .u32 e.u,.int .u32 e.v,.bool e.add] 62):=⟨_,rfl⟩;rw[← GB]at g1 b1 ⊢;have keep:∀ w',w1.grownBy w' none->w'.heap[w.heap.size]?=some (.cells #[.int .i64 e.t,.int .u32 e.u,.int .u32 e.v,.bool e.add] 62 (0,0)):=fun w' g=>by rw[g.block _ (Array.getElem?_eq_some_iff.1 b1).1 (by simp)];exact b1
  have getD':∀ t (h:t<l.length),l.getD t ⟨0,0,0,false⟩=l[t]:=fun t h=>by simp[List.getD_eq_getElem?_getD,h]
  have UM:=oM l e l.length;refine⟨fun k w'=>k=(di l e l.length:Int)/\w1.grownBy w' none,⟨fun m k w2=>∃ j:Nat,k=(j:Int)/\j<=l.length/\m=j/\di l e l.length=di l e j/\w1.grownBy w2 none,⟨_,l.length,by omega,Nat.le_refl _,rfl,rfl,aC _ _⟩,?_⟩,?_⟩
  · rintro m k w2 ⟨j,rfl,hj,rfl,hp,hg⟩;have gd:=aH hg;have tj:((m:Int)-1).toNat=m-1:=by omega
    rw[tj];refine⟨fun FO=>?_,fun hz=>⟨?_,gd⟩⟩
    · have b2:=keep _ gd;obtain⟨a,e1,e2,e3,e4,e5⟩:=eE ((hr.kept_none g1).kept_none gd) (show m-1<l.length by omega);refine⟨_,aB b2 0,_,aB b2 1,_,aB b2 2,_,aB b2 3,by omega,a,e1,by omega,by omega,_,e2,_,e3,_,e4,_,e5,?_⟩;refine(ml e l[m-1]).mono fun ev w3 hh=>?_;obtain⟨rfl,g3⟩:=hh;have G4:di l e m=if bN e l[m-1]=true then di l e (m-1) else m:=by
        obtain⟨q,rfl⟩:∃ q,m=q+1:=⟨m-1,by omega⟩;rw[di,getD' q (by omega)];rfl
      refine⟨_,rfl,fun h=>⟨by omega,m-1,by omega,m-1,by omega,by omega,rfl,by rw[hp,G4,if_pos h],aA gd g3⟩,fun h=>⟨by rw[hp,G4,if_neg (by rw[h];simp)],aA gd g3⟩⟩
    · have:m=0:=by omega
      subst this;rw[hp];rfl
  · rintro k w3 ⟨rfl,g3⟩;have I0:ja l e=if 0<di l e l.length/\(l.getD (di l e l.length-1) ⟨0,0,0,false⟩).t=e.t/\(l.getD (di l e l.length-1) ⟨0,0,0,false⟩).u=e.u/\(l.getD (di l e l.length-1) ⟨0,0,0,false⟩).v=e.v then l else l.take (di l e l.length)++(e ::l.drop (di l e l.length)):=rfl;generalize di l e l.length=k at *;have tk:(k:Int).toNat=k:=by omega
    have tk1:((k:Int)-1).toNat=k-1:=by omega
    rw[tk,tk1];have gd:=aH g3;have b3:=keep _ gd;refine⟨fun q w'=>q=decide (0<k/\(l.getD (k-1) ⟨0,0,0,false⟩).t=e.t/\(l.getD (k-1) ⟨0,0,0,false⟩).u=e.u/\(l.getD (k-1) ⟨0,0,0,false⟩).v=e.v)/\w1.grownBy w' none,⟨fun FO=>?_,fun hz=>⟨by simp;omega,gd⟩⟩,?_⟩
    · obtain⟨a,e1,e2,e3,e4,e5⟩:=eE ((hr.kept_none g1).kept_none gd) (show k-1<l.length by omega);refine⟨by omega,a,e1,by omega,by omega,_,e2,_,aB b3 0,fun ht=>⟨by omega,a,e1,by omega,by omega,_,e3,_,by rw[fp];exact e4,_,aB b3 1,_,aB b3 2,_,fun w=>AZ _ _ _ _ _ _ w,?_,gd⟩,fun ht=>⟨?_,gd⟩⟩
      · rw[getD' (k-1) (by omega),decide_eq_decide];exact⟨fun h=>⟨by omega,ht,h.1,h.2⟩,fun h=>h.2.2⟩
      · rw[getD' (k-1) (by omega)]
        symm;rw[decide_eq_false_iff_not]
        exact fun h=>ht h.2.1
    · rintro q w4 ⟨hq,g4⟩;refine⟨fun h=>?_,fun h=>?_⟩
      · rw[h]at hq;rw[I0,if_pos (of_decide_eq_true hq.symm)];exact⟨_,_,_,rfl,ho.kept (aA g1 g4),aA g1 g4⟩
      · rw[h]at hq;rw[I0,if_neg (of_decide_eq_false hq.symm)];have gd:=aH g4;have g0d:=aA g1 gd;have rd:=hr.kept_none g0d;refine⟨fun w'=>w1.grownBy w' none,gd,⟨⟨by omega,by omega⟩,?_⟩,⟨⟨by omega,by omega⟩,?_⟩⟩
        · obtain⟨A5,n5,c5,w5,f1,f2,f3,f4⟩:=eh (n:=0) (c:=0) (A:=none) (xs:=[]) (aE.nil w4.drew w4.drew.heap.size 62 4) (m:=k) (d:=c) (td rd k) (by rw[List.length_take];omega) hA (by omega) (Nat.le_refl _);have g5:w4.drew.grownBy w5 none:=aN (aC w4.drew none) f3 (fun k hk=>by simp[Value.ownBlock]at hk);rw[List.nil_append]at f2;have Kh:=aA gd g5;have ga:=World.grownBy_alloc w5 (.cells #[.int .i64 e.t,.int .u32 e.u,.int .u32 e.v,.bool e.add] 62) none;have ra:aZ (w5.alloc (.cells #[.int .i64 e.t,.int .u32 e.u,.int .u32 e.v,.bool e.add] 62)) (some ⟨w5.heap.size,0,none⟩) (cE [e]):=de w5 _ 62;obtain⟨A6,n6,c6,w6,p1,p2,p3,p4⟩:=eh (f2.kept ga) (m:=1) (d:=1) ra rfl (fun h=>by cases h) (by omega) (Nat.le_trans g5.size ga.size);have R0:=aA g5 ga;have g6:=aN R0 p3 f2.block_ge;obtain⟨r7,d7⟩:=Dy (k:=k) (rd.kept_none g6) hA (by omega);obtain⟨A7,n7,c7,w7,q1,q2,q3,q4⟩:=eh p2 (m:=n-k) (d:=c-k) r7 (by rw[List.length_drop];omega) d7 (by omega) g6.size;have g7:=aN g6 q3 p2.block_ge;exact⟨_,_,_,w5,f1,Kh,_,fun w' h=>aB (keep w' h) 0,_,fun w' h=>aB (keep w' h) 1,_,fun w' h=>aB (keep w' h) 2,_,fun w' h=>aB (keep w' h) 3,aA Kh ga,_,_,_,w6,p1,aA gd g6,⟨by omega,by omega⟩,_,_,_,w7,q1,aA gd g7,_,_,_,rfl,by simpa using q2.mono (Nat.le_trans hb g0d.size),aA g0d g7⟩
        · refine⟨_,fun w' h=>aB (keep w' h) 0,_,fun w' h=>aB (keep w' h) 1,_,fun w' h=>aB (keep w' h) 2,_,fun w' h=>aB (keep w' h) 3,?_⟩;have ga:=World.grownBy_alloc w4.drew (.cells #[.int .i64 e.t,.int .u32 e.u,.int .u32 e.v,.bool e.add] 62) none;have ra:aZ (w4.drew.alloc (.cells #[.int .i64 e.t,.int .u32 e.u,.int .u32 e.v,.bool e.add] 62)) (some ⟨w4.drew.heap.size,0,none⟩) (cE [e]):=de w4.drew _ 62;obtain⟨wa,LA⟩:∃ wa,wa=w4.drew.alloc (.cells #[.int .i64 e.t,.int .u32 e.u,.int .u32 e.v,.bool e.add] 62):=⟨_,rfl⟩;show(fun w'=>w1.grownBy w' none) (w4.drew.alloc (.cells #[.int .i64 e.t,.int .u32 e.u,.int .u32 e.v,.bool e.add] 62))/\_;rw[← LA]at ga ra ⊢;obtain⟨A5,n5,c5,w5,f1,f2,f3,f4⟩:=eh (n:=0) (c:=0) (A:=none) (xs:=[]) (aE.nil wa wa.heap.size 62 4) (m:=k) (d:=c) (td (rd.kept_none ga) k) (by rw[List.length_take];omega) hA (by omega) (Nat.le_refl _);have g5:wa.grownBy w5 none:=aN (aC wa none) f3 (fun k hk=>by simp[Value.ownBlock]at hk);rw[List.nil_append]at f2;obtain⟨A6,n6,c6,w6,p1,p2,p3,p4⟩:=eh f2 (m:=1) (d:=1) (ra.kept_none g5) rfl (fun h=>by cases h) (by omega) g5.size;have g6:=aN g5 p3 f2.block_ge;obtain⟨r7,d7⟩:=Dy (k:=k) ((rd.kept_none ga).kept_none g6) hA (by omega);obtain⟨A7,n7,c7,w7,q1,q2,q3,q4⟩:=eh p2 (m:=n-k) (d:=c-k) r7 (by rw[List.length_drop];omega) d7 (by omega) g6.size;have g7:=aN g6 q3 p2.block_ge;have g1a:=aA gd ga;exact⟨g1a,_,_,_,w5,f1,aA g1a g5,_,_,_,w6,p1,aA g1a g6,⟨by omega,by omega⟩,_,_,_,w7,q1,aA g1a g7,_,_,_,rfl,by simpa using q2.mono (Nat.le_trans hb (Nat.le_trans g0d.size ga.size)),aA g0d (aA ga g7)⟩
def ku(t a:Int):Int:=if a>240 then t+a % 4+2^(a % 40).toNat else t+a % 4
def mu(n a b c t:Int)(ts:List aW):List aW:=if(ef b c n).2=true then ja ts ⟨ku t a,(ef b c n).1.1,(ef b c n).1.2,false⟩ else ts
def cz(n:Int):List Int->Int->List aW->List aW
 | a ::b ::c ::l,t,ts=>if ts.length<40 then cz n l (ku t a) (mu n a b c t ts) else ts
 | _,_,ts=>ts
def gn:List aW->List Edge->List aW
 | [],_=>[]
 | e ::l,now=>⟨e.t,e.u,e.v,!decide ((e.u,e.v)∈now)⟩ ::gn l ((cu now ⟨e.t,e.u,e.v,!decide ((e.u,e.v)∈now)⟩).getD [])
def iz(k:Int)(l:List Int):List aW:=gn (cz (jW k) l (k % 3) []) []
theorem Dv{a b n:Int}(ha:0<=a)(hb:0<=b)(hn:2<=n/\n<=4294967296)(h:(ef a b n).2=true):0<=(ef a b n).1.1/\(ef a b n).1.1<(ef a b n).1.2/\(ef a b n).1.2<n:=by
 have ua:=pI (most:=230) ha hn;have ub:=pI (most:=240) hb hn;unfold ef at h ⊢;split at h
 ·cases h
 ·rename_i FG;rw[if_neg FG];simp only[mn,mx];split <;>split <;>omega
theorem uo(l:List aW)(e:aW):(ja l e).length<=l.length+1:=by
 unfold ja;split
 ·omega
 ·simp only[List.length_append,List.length_cons,List.length_take,List.length_drop];omega
theorem yw{l:List aW}{e x:aW}(h:x∈ja l e):x∈l∨x=e:=by
 unfold ja at h;split at h
 ·exact .inl h
 ·rcases List.mem_append.1 h with q | q
  ·exact .inl (List.mem_of_mem_take q)
  ·rcases List.mem_cons.1 q with q | q
   ·exact .inr q
   ·exact .inl (List.mem_of_mem_drop q)
theorem pH(n a b c t:Int)(ts:List aW):(mu n a b c t ts).length<=ts.length+1:=by
 unfold mu;split
 ·exact uo _ _
 ·omega
theorem jF(n:Int):∀(l:List Int)(t:Int)(ts:List aW),ts.length<=40->(cz n l t ts).length<=40
 | a ::b ::c ::l,t,ts,h=>by
  rw[cz];split
  ·have:=pH n a b c t ts;exact jF n l _ _ (by omega)
  ·exact h
 | [],t,ts,h=>by simpa[cz]using h
 | [_],t,ts,h=>by simpa[cz]using h
 | [_,_],t,ts,h=>by simpa[cz]using h
theorem od:∀(l:List aW)(now:List Edge),(gn l now).length=l.length
 | [],_=>rfl
 | e ::l,now=>by rw[gn,List.length_cons,List.length_cons,od l]
theorem sE(k:Int)(l:List Int):(iz k l).length<=40:=by
 rw[iz,od];exact jF _ _ _ _ (by simp)
theorem u6{N t:Int}{ts:List aW}:∀(q:List Int),q.length<=2->cz N q t ts=ts
 | [],_=>by simp[cz]
 | [_],_=>by simp[cz]
 | [_,_],_=>by simp[cz]
 | _ ::_ ::_ ::_,h=>by simp at h
theorem vo {w:World} {A:OA} {n c:Nat} {l:List Int} {k:Int} (hr:aZ w A (bV l)) (hn:n=l.length) (hb:aQ l) (hk:0<=k/\k<=255) (hl:n<=2^10) :
    Calls P 9 #[.int .u8 k,.slice A n c] w fun ev w'=>∃(A':OA)(n' c':Nat),ev=.returned (.agg #[.int .u64 (jW k),.slice A' n' c'])/\aE w' w.heap.size 62 4 A' n' c' (cE (iz k l))/\w.grownBy w' none:=by
  apply vc9;dsimp only[VC9,Wt,Br,Bb,Rd,Rc,Rs,Ix,Ap,Ws,cI,cB,cS,nb,ad,al,iq]
  try simp only[aF]
  have hN:=sW k;have g0:=World.grownBy_alloc w (.cells #[.int .u64 0,.slice none 0 0] 25) none;have b0:(w.alloc (.cells #[.int .u64 0,.slice none 0 0] 25)).heap[w.heap.size]?=some (.cells #[.int .u64 0,.slice none 0 0] 25 (0,0)):=heap_alloc_new w _;obtain⟨w0,IL⟩:∃ w0,w0=w.alloc (.cells #[.int .u64 0,.slice none 0 0] 25):=⟨_,rfl⟩;rw[← IL]at g0 b0 ⊢;refine(sV hk).mono fun ev w1 hh=>?_;obtain⟨rfl,g1⟩:=hh;have OC:iz k l=gn (cz (jW k) l (k % 3) []) []:=rfl;have NF:=jF (jW k) l (k % 3) [] (by simp);generalize jW k=N at *;refine⟨_,rfl,?_⟩;have ga:=World.grownBy_alloc w1 (.cells #[.int .u64 0,.slice none 0 0] 25) none;have s0:(w1.alloc (.cells #[.int .u64 0,.slice none 0 0] 25)).heap[w1.heap.size]?=some (.cells #[.int .u64 0,.slice none 0 0] 25 (0,0)):=heap_alloc_new w1 _;have s1:=aG s0 0 (.int .u64 N);have s2:=aG s1 1 (.slice none 0 0);have K2:Kp w1 (((w1.alloc (.cells #[.int .u64 0,.slice none 0 0] 25)).setCell ⟨w1.heap.size,0,none⟩ (.int .u64 N)).setCell ⟨w1.heap.size,1,none⟩ (.slice none 0 0)) (fun k=>w1.heap.size<=k):=bK (bK (Kp.of_none ga) (Nat.le_refl _)) (Nat.le_refl _);refine⟨⟨_,aB s0 0⟩,aD s0 0,⟨_,aB s1 1⟩,aD s1 1,⟨by omega,by omega⟩,by omega,?_⟩;obtain⟨w2,HS⟩:∃ w2,w2=((w1.alloc (.cells #[.int .u64 0,.slice none 0 0] 25)).setCell ⟨w1.heap.size,0,none⟩ (.int .u64 N)).setCell ⟨w1.heap.size,1,none⟩ (.slice none 0 0):=⟨_,rfl⟩;rw[← HS]at s2 K2 ⊢;replace s2:w2.heap[w1.heap.size]?=some (.cells #[.int .u64 N,.slice none 0 0] 25 (0,0)):=by simpa using s2
  have Ic:w1.grownBy w2 none:=K2.grown (fun k hk e=>by omega);have He:=aA g0 g1;have GQ:=aA He Ic;have GR:w1.heap.size<w2.heap.size:=(Array.getElem?_eq_some_iff.1 s2).1;have keep:∀ w',w2.grownBy w' none->w'.heap[w1.heap.size]?=some (.cells #[.int .u64 N,.slice none 0 0] 25 (0,0)):=fun w' g=>by rw[g.block _ GR (by simp)];exact s2
  have rd:∀(w':World)(p:Nat),w2.grownBy w' none->(h:p<l.length)->∃ a,A=some a/\w'.cell? (a.add p)=some (.int .u8 l[p]):=fun w' p g h=>((hr.kept_none GQ).kept_none g) p (.int .u8 l[p]) (by simp[h]);refine⟨fun tA tn tc w'=>aE w' w.heap.size 62 4 tA tn tc (cE (cz N l (k % 3) []))/\w2.grownBy w' none,⟨fun m t tA tn tc i w'=>∃(p:Nat)(ts:List aW),i=(p:Int)/\p<=l.length+2/\m=l.length+3-p/\aE w' w.heap.size 62 4 tA tn tc (cE ts)/\ts.length<=40/\0<=t/\t<=(p:Int)*2199023255552+2/\cz N l (k % 3) []=cz N (l.drop p) t ts/\w2.grownBy w' none,
    ⟨_,0,[],rfl,by omega,rfl,aE.nil _ _ _ _,by simp,by omega,by omega,by simp,aC _ _⟩,?_⟩,?_⟩
  · rintro m t tA tn tc i w3 ⟨p,ts,rfl,hp,rfl,ho,JA,LK,Xd,MO,hg⟩;have tp:(p:Int).toNat=p:=by omega
    have tp1:((p:Int)+1).toNat=p+1:=by omega
    have tp2:((p:Int)+2).toNat=p+2:=by omega
    rw[tp,tp1,tp2];have LI:tn=ts.length:=by have:=ho.cases.1;rw[dz]at this;omega
    refine⟨by omega,fun FE=>⟨fun WN=>?_,fun WN=>?_⟩,fun FJ=>?_⟩
    · have lp:p+2<l.length:=by omega
      have F8:l.drop p=l[p] ::l[p+1] ::l[p+2] ::l.drop (p+3):=by
        rw[List.drop_eq_getElem_cons (show p<l.length by omega),List.drop_eq_getElem_cons (show p+1<l.length by omega),List.drop_eq_getElem_cons (show p+1+1<l.length by omega)]
      rw[F8,cz,if_pos (by omega)]at MO;obtain⟨a,e1,e2⟩:=rd w3 p hg (by omega);have hx:=hb _ (List.getElem_mem (show p<l.length by omega));have hy:=hb _ (List.getElem_mem (show p+1<l.length by omega));have hz:=hb _ (List.getElem_mem (show p+2<l.length by omega));have Qo:(2:Int)^(l[p] % 40).toNat<=549755813888/\0<(2:Int)^(l[p] % 40).toNat:=by
        have:=Nat.pow_le_pow_right (n:=2) (by omega) (show(l[p] % 40).toNat<=39 by omega);have:=Nat.two_pow_pos (l[p] % 40).toNat;have e:((2^(l[p] % 40).toNat:Nat):Int)=2^(l[p] % 40).toNat:=by simp
        omega
      refine⟨a,e1,by omega,by omega,_,e2,⟨by omega,by omega⟩,by omega,by omega,fun t1 w'=>t1=ku t l[p]/\w'=w3,⟨a,e1,by omega,by omega,_,e2,fun MH=>⟨a,e1,by omega,by omega,_,e2,⟨by omega,by omega⟩,⟨by omega,?_⟩,?_,?_,rfl⟩,fun MH=>⟨by unfold ku;rw[if_neg MH],rfl⟩⟩,?_⟩
      · rw[show min (l[p] % 40).toNat 64=(l[p] % 40).toNat by omega];omega
      · rw[show min (l[p] % 40).toNat 64=(l[p] % 40).toNat by omega];omega
      · rw[show min (l[p] % 40).toNat 64=(l[p] % 40).toNat by omega];unfold ku;rw[if_pos MH];omega
      rintro t1 w4 ⟨ht,Il⟩;rw[Il];clear Il;have Sl:0<=t1/\t1<=((p+3:Nat):Int)*2199023255552+2:=by rw[ht];unfold ku;split <;>omega
      have gd:=aH hg;obtain⟨a1,q1,q2⟩:=rd w3.drew (p+1) gd (by omega);obtain⟨a2,q3,q4⟩:=rd w3.drew (p+2) gd (by omega);have rdC:∀(p':Nat)(h:p'<l.length)(b:Addr),A=some b->∀ wq,w2.grownBy wq none->wq.cell? (b.add p')=some (.int .u8 l[p']):=fun p' h b GP wq gq=>by
        obtain⟨b',r1,r2⟩:=rd wq p' gq h;rw[GP]at r1;cases r1;exact r2
      have fin:∀(W:World)(g:Nat),w2.grownBy W none->aE W w.heap.size 62 4 tA tn tc (cE ts)->W.heap[g]?=some (.cells #[.int .u32 (ef l[p+1] l[p+2] N).1.1,.int .u32 (ef l[p+1] l[p+2] N).1.2] 45 (0,0)) →
          ∃ J:OA->Nat->Nat->World->Prop,(((ef l[p+1] l[p+2] N).2=true->∃ x,W.cell? ⟨g,0,none⟩=some (.int .u32 x)/\∃ y,W.cell? ⟨g,1,none⟩=some (.int .u32 y)/\Calls P 28 #[.slice tA tn tc,.agg #[.int .i64 t1,.int .u32 x,.int .u32 y,.bool false]] W fun ev w5=>∃(X:OA)(xn xc:Nat),ev=.returned (.slice X xn xc)/\J X xn xc w5)/\((ef l[p+1] l[p+2] N).2=false->J tA tn tc W)) ∧
          ∀(X:OA)(xn xc:Nat)(w6:World),J X xn xc w6->(-9223372036854775808<=(p:Int)+3/\(p:Int)+3<=9223372036854775807)/\∃ m_1,m_1<l.length+3-p/\∃(p':Nat)(ts':List aW),(p:Int)+3=(p':Int)/\p'<=l.length+2/\m_1=l.length+3-p'/\aE w6 w.heap.size 62 4 X xn xc (cE ts')/\ts'.length<=40/\0<=t1/\t1<=(p':Int)*2199023255552+2/\cz N l (k % 3) []=cz N (l.drop p') t1 ts'/\w2.grownBy w6 none:=by
        intro W g gW oW bW;have Pw:=pH N l[p] l[p+1] l[p+2] t ts;refine⟨fun X xn xc w6=>aE w6 w.heap.size 62 4 X xn xc (cE (mu N l[p] l[p+1] l[p+2] t ts))/\w2.grownBy w6 none,⟨fun hok=>⟨_,aB bW 0,_,aB bW 1,?_⟩,fun hok=>⟨?_,gW⟩⟩,?_⟩
        · refine(wY (e:=⟨t1,(ef l[p+1] l[p+2] N).1.1,(ef l[p+1] l[p+2] N).1.2,false⟩) oW (Nat.le_trans GQ.size gW.size) (by omega)).mono fun ev w5 hh=>?_;obtain⟨X,xn,xc,rfl,oX,g5⟩:=hh;refine⟨_,_,_,rfl,?_,aA gW g5⟩;have:mu N l[p] l[p+1] l[p+2] t ts=ja ts ⟨t1,(ef l[p+1] l[p+2] N).1.1,(ef l[p+1] l[p+2] N).1.2,false⟩:=by unfold mu;rw[if_pos hok,ht]
          rw[this];exact oX
        · have:mu N l[p] l[p+1] l[p+2] t ts=ts:=by unfold mu;rw[if_neg (by rw[hok];simp)]
          rw[this];exact oW
        · rintro X xn xc w6 ⟨oX,g6⟩;exact⟨by omega,l.length+3-(p+3),by omega,p+3,_,by omega,by omega,rfl,oX,by omega,Sl.1,Sl.2,by rw[MO,ht],g6⟩
      refine⟨fun w'=>w2.grownBy w' none,gd,⟨by omega,a1,q1,by omega,by omega,_,fun wq gq=>rdC (p+1) (by omega) a1 q1 wq gq,by omega,a2,q3,by omega,by omega,_,fun wq gq=>rdC (p+2) (by omega) a2 q3 wq gq,_,fun wq gq=>aB (keep wq gq) 0,?_⟩,⟨by omega,a1,q1,by omega,by omega,_,fun wq gq=>rdC (p+1) (by omega) a1 q1 wq gq,by omega,a2,q3,by omega,by omega,_,fun wq gq=>rdC (p+2) (by omega) a2 q3 wq gq,_,fun wq gq=>aB (keep wq gq) 0,?_⟩⟩
      · refine(rV hy hz hN).mono fun ev w5 hh=>?_;obtain⟨rfl,g5⟩:=hh;have gd5:=aA gd g5;have gE:=World.grownBy_alloc w5 (.cells #[.int .u32 0,.int .u32 0] 45) none;have t0:(w5.alloc (.cells #[.int .u32 0,.int .u32 0] 45)).heap[w5.heap.size]?=some (.cells #[.int .u32 0,.int .u32 0] 45 (0,0)):=heap_alloc_new w5 _;have t1':=aG t0 0 (.int .u32 (ef l[p+1] l[p+2] N).1.1);have t2:=aG t1' 1 (.int .u32 (ef l[p+1] l[p+2] N).1.2);have gS:w5.grownBy (((w5.alloc (.cells #[.int .u32 0,.int .u32 0] 45)).setCell ⟨w5.heap.size,0,none⟩ (.int .u32 (ef l[p+1] l[p+2] N).1.1)).setCell ⟨w5.heap.size,1,none⟩ (.int .u32 (ef l[p+1] l[p+2] N).1.2)) none:=(bK (bK (Kp.of_none (S:=fun k=>w5.heap.size<=k) gE) (Nat.le_refl _)) (Nat.le_refl _)).grown (fun k hk e=>by omega);have gA:=aA gd5 gS;exact⟨_,_,_,rfl,gd5,aA gd5 gE,⟨_,aB t0 0⟩,aD t0 0,⟨_,aB t1' 1⟩,aD t1' 1,gA,fin _ _ gA (ho.kept (aA (aA (aH (aC w3 none)) g5) gS)) (by simpa using t2)⟩
      · have gE:=World.grownBy_alloc w3.drew (.cells #[.int .u32 0,.int .u32 0] 45) none;have t0:(w3.drew.alloc (.cells #[.int .u32 0,.int .u32 0] 45)).heap[w3.drew.heap.size]?=some (.cells #[.int .u32 0,.int .u32 0] 45 (0,0)):=heap_alloc_new w3.drew _;refine⟨aA gd gE,(rV hy hz hN).mono fun ev w7 hh=>?_⟩;obtain⟨rfl,g7⟩:=hh;have gd7:=aA (aA gd gE) g7;have t0':w7.heap[w3.drew.heap.size]?=some (.cells #[.int .u32 0,.int .u32 0] 45 (0,0)):=by rw[g7.block _ (Array.getElem?_eq_some_iff.1 t0).1 (by simp)];exact t0
        have t1':=aG t0' 0 (.int .u32 (ef l[p+1] l[p+2] N).1.1);have t2:=aG t1' 1 (.int .u32 (ef l[p+1] l[p+2] N).1.2);have gS:w3.drew.grownBy ((w7.setCell ⟨w3.drew.heap.size,0,none⟩ (.int .u32 (ef l[p+1] l[p+2] N).1.1)).setCell ⟨w3.drew.heap.size,1,none⟩ (.int .u32 (ef l[p+1] l[p+2] N).1.2)) none:=(bK (bK (Kp.of_none (S:=fun k=>w3.drew.heap.size<=k) (aA gE g7)) (Nat.le_refl _)) (Nat.le_refl _)).grown (fun k hk e=>by omega);have gA:=aA gd gS;exact⟨_,_,_,rfl,gd7,⟨_,aB t0' 0⟩,aD t0' 0,⟨_,aB t1' 1⟩,aD t1' 1,gA,fin _ _ gA (ho.kept (aA (aH (aC w3 none)) gS)) (by simpa using t2)⟩
    · have lp:p+2<l.length:=by omega
      have F8:l.drop p=l[p] ::l[p+1] ::l[p+2] ::l.drop (p+3):=by
        rw[List.drop_eq_getElem_cons (show p<l.length by omega),List.drop_eq_getElem_cons (show p+1<l.length by omega),List.drop_eq_getElem_cons (show p+1+1<l.length by omega)]
      rw[F8,cz,if_neg (by omega)]at MO;rw[MO];exact⟨ho,hg⟩
    · rw[u6 (l.drop p) (by rw[List.length_drop];omega)]at MO;rw[MO];exact⟨ho,hg⟩
  · rintro tA tn tc FZ ⟨oT,Ie⟩;generalize cz N l (k % 3) []=ts at *;have Pv:ts.length<=40:=NF;have LI:tn=ts.length:=by have:=oT.cases.1;rw[dz]at this;omega
    have TV:=keep FZ Ie;have Pm:=aA GQ Ie;have l10:w1.heap.size<FZ.heap.size:=Nat.lt_of_lt_of_le GR Ie.size;have bw10:FZ.heap[w.heap.size]?=some (.cells #[.int .u64 0,.slice none 0 0] 25 (0,0)):=by
      rw[(aA g1 (aA Ic Ie)).block _ (Array.getElem?_eq_some_iff.1 b0).1 (by simp)];exact b0
    have lw0:w.heap.size<w1.heap.size:=Nat.lt_of_lt_of_le (Array.getElem?_eq_some_iff.1 b0).1 g1.size;refine⟨fun m nA nn nc i w'=>∃(j:Nat)(now:List Edge)(out:List aW)(hA:OA)(hn hc:Nat),i=(j:Int)/\j<=ts.length/\m=ts.length-j/\aE w' FZ.heap.size 45 2 nA nn nc (edges now)/\now.length<=j/\aE w' FZ.heap.size 62 4 hA hn hc (cE out)/\out.length=j/\gn ts []=out++gn (ts.drop j) now/\w'.heap[w1.heap.size]?=some (.cells #[.int .u64 N,.slice hA hn hc] 25 (0,0))/\Kp FZ w' (fun q=>q=w1.heap.size∨FZ.heap.size<=q),
      ⟨_,0,[],[],none,0,0,rfl,by omega,rfl,aE.nil _ _ _ _,by simp,aE.nil _ _ _ _,rfl,by simp,TV,Kp.refl _ _⟩,?_⟩
    rintro m nA nn nc i Gw ⟨j,now,out,hA,GA,J5,rfl,hj,rfl,oN,IM,oH,G0,Hq,bH,K11⟩;have tj:(j:Int).toNat=j:=by omega
    rw[tj];have Iu:nn=now.length:=by have:=oN.cases.1;rw[dl]at this;omega
    have Xq:GA=out.length:=by have:=oH.cases.1;rw[dz]at this;omega
    have lH:=(Array.getElem?_eq_some_iff.1 bH).1;refine⟨fun FE=>?_,fun FJ=>?_⟩
    · have lj:j<ts.length:=by omega
      rw[List.drop_eq_getElem_cons lj,gn]at Hq;have oT11:=oT.kp K11 (fun q hq e=>by
        rcases e with e | e
        · obtain⟨cur,h⟩:=oT.block_type q hq;rw[e,TV]at h;cases h
        · have:=oT.block_lt q hq;omega)
      obtain⟨a,e1,e2,e3,e4,e5⟩:=eE oT11.row lj;have ga:=World.grownBy_alloc Gw (.cells #[.int .i64 0,.int .u32 0,.int .u32 0,.bool false] 62) none;have s0:(Gw.alloc (.cells #[.int .i64 0,.int .u32 0,.int .u32 0,.bool false] 62)).heap[Gw.heap.size]?=some (.cells #[.int .i64 0,.int .u32 0,.int .u32 0,.bool false] 62 (0,0)):=heap_alloc_new Gw _;obtain⟨wa,LA⟩:∃ wa,wa=Gw.alloc (.cells #[.int .i64 0,.int .u32 0,.int .u32 0,.bool false] 62):=⟨_,rfl⟩;rw[← LA]at ga s0 ⊢;have s1:=aG s0 0 (.int .i64 ts[j].t);have s2':=aG s1 1 (.int .u32 ts[j].u);have s3:=aG s2' 2 (.int .u32 ts[j].v);have s4:=aG s3 3 (.bool ts[j].add);have K4:Kp Gw ((((wa.setCell ⟨Gw.heap.size,0,none⟩ (.int .i64 ts[j].t)).setCell ⟨Gw.heap.size,1,none⟩ (.int .u32 ts[j].u)).setCell ⟨Gw.heap.size,2,none⟩ (.int .u32 ts[j].v)).setCell ⟨Gw.heap.size,3,none⟩ (.bool ts[j].add)) (fun k=>Gw.heap.size<=k):=bK (bK (bK (bK (Kp.of_none ga) (Nat.le_refl _)) (Nat.le_refl _)) (Nat.le_refl _)) (Nat.le_refl _);refine⟨a,e1,by omega,by omega,_,e2,_,e3,_,e4,_,e5,⟨_,aB s0 0⟩,aD s0 0,⟨_,aB s1 1⟩,aD s1 1,⟨_,aB s2' 2⟩,aD s2' 2,⟨_,aB s3 3⟩,aD s3 3,?_⟩;obtain⟨w4,Il⟩:∃ w4,w4=(((wa.setCell ⟨Gw.heap.size,0,none⟩ (.int .i64 ts[j].t)).setCell ⟨Gw.heap.size,1,none⟩ (.int .u32 ts[j].u)).setCell ⟨Gw.heap.size,2,none⟩ (.int .u32 ts[j].v)).setCell ⟨Gw.heap.size,3,none⟩ (.bool ts[j].add):=⟨_,rfl⟩;rw[← Il]at s4 K4 ⊢;replace s4:w4.heap[Gw.heap.size]?=some (.cells #[.int .i64 ts[j].t,.int .u32 ts[j].u,.int .u32 ts[j].v,.bool ts[j].add] 62 (0,0)):=by simpa using s4
      have Lw:Gw.grownBy w4 none:=K4.grown (fun k hk e=>by omega);refine⟨_,aB s4 1,_,aB s4 2,?_⟩;refine(Ci (e:=(ts[j].u,ts[j].v)) (oN.kept Lw).row Iu (by omega)).mono fun ev HD hh=>?_;obtain⟨rfl,g12'⟩:=hh;have s5:HD.heap[Gw.heap.size]?=some (.cells #[.int .i64 ts[j].t,.int .u32 ts[j].u,.int .u32 ts[j].v,.bool ts[j].add] 62 (0,0)):=by rw[g12'.block _ (Array.getElem?_eq_some_iff.1 s4).1 (by simp)];exact s4
      have s6:=aG s5 3 (.bool (decide (decide ((ts[j].u,ts[j].v)∈now)=false)));have gS:Gw.grownBy (HD.setCell ⟨Gw.heap.size,3,none⟩ (.bool (decide (decide ((ts[j].u,ts[j].v)∈now)=false)))) none:=(bK (Kp.of_none (S:=fun k=>Gw.heap.size<=k) (aA Lw g12')) (Nat.le_refl _)).grown (fun k hk e=>by omega);refine⟨_,rfl,⟨_,aB s5 3⟩,aD s5 3,_,aB s6 0,_,aB s6 1,_,aB s6 2,_,aB s6 3,?_⟩;have Qw:decide (decide ((ts[j].u,ts[j].v)∈now)=false)=!decide ((ts[j].u,ts[j].v)∈now):=by cases decide ((ts[j].u,ts[j].v)∈now) <;>rfl
      rw[Qw]at s6 gS ⊢;obtain⟨wb,Ug⟩:∃ wb,wb=HD.setCell ⟨Gw.heap.size,3,none⟩ (.bool (!decide ((ts[j].u,ts[j].v)∈now))):=⟨_,rfl⟩;rw[← Ug]at s6 gS ⊢;replace s6:wb.heap[Gw.heap.size]?=some (.cells #[.int .i64 ts[j].t,.int .u32 ts[j].u,.int .u32 ts[j].v,.bool (!decide ((ts[j].u,ts[j].v)∈now))] 62 (0,0)):=by simpa using s6
      have oNb:=oN.kept gS;refine(ll (e:=⟨ts[j].t,ts[j].u,ts[j].v,!decide ((ts[j].u,ts[j].v)∈now)⟩) oNb.row Iu (kJ oNb) (df oNb) (by omega)).mono fun ev Hs hh=>?_;obtain⟨X,xn,xc,rfl,oX,Gv⟩:=hh;have Ki:=aA gS Gv;have s7:Hs.heap[Gw.heap.size]?=some (.cells #[.int .i64 ts[j].t,.int .u32 ts[j].u,.int .u32 ts[j].v,.bool (!decide ((ts[j].u,ts[j].v)∈now))] 62 (0,0)):=by rw[Gv.block _ (Array.getElem?_eq_some_iff.1 s6).1 (by simp)];exact s6
      have bH13:Hs.heap[w1.heap.size]?=some (.cells #[.int .u64 N,.slice hA GA J5] 25 (0,0)):=by rw[Ki.block _ lH (by simp)];exact bH
      have gal:=World.grownBy_alloc Hs (.cells #[.int .i64 ts[j].t,.int .u32 ts[j].u,.int .u32 ts[j].v,.bool (!decide ((ts[j].u,ts[j].v)∈now))] 62) none;have ra:aZ (Hs.alloc (.cells #[.int .i64 ts[j].t,.int .u32 ts[j].u,.int .u32 ts[j].v,.bool (!decide ((ts[j].u,ts[j].v)∈now))] 62)) (some ⟨Hs.heap.size,0,none⟩) (cE [⟨ts[j].t,ts[j].u,ts[j].v,!decide ((ts[j].u,ts[j].v)∈now)⟩]):=de Hs _ 62;have gfull:=aA Ki gal;have sz:=K11.size;obtain⟨C,cn,cc,Lx,p1,p2,p3,p4⟩:=eh (oH.kept gfull) (m:=1) (d:=1) ra rfl (fun h=>by cases h) (by omega) (Nat.le_trans sz gfull.size);have bH14:Lx.heap[w1.heap.size]?=some (.cells #[.int .u64 N,.slice hA GA J5] 25 (0,0)):=by
        rw[p3.block _ (Nat.lt_of_lt_of_le lH gfull.size) (fun e=>by have:=oH.block_ge _ e.symm;omega),gal.block _ (Nat.lt_of_lt_of_le lH Ki.size) (by simp)];exact bH13
      have bH15:=aG bH14 1 (.slice C cn cc);have Lz:((cu now ⟨ts[j].t,ts[j].u,ts[j].v,!decide ((ts[j].u,ts[j].v)∈now)⟩).getD []).length<=now.length+1:=by
        cases h:cu now ⟨ts[j].t,ts[j].u,ts[j].v,!decide ((ts[j].u,ts[j].v)∈now)⟩with
        | none=>simp
        | some x=>exact qy h
      have KS:Kp Lx (Lx.setCell ⟨w1.heap.size,1,none⟩ (.slice C cn cc)) (fun q=>q=w1.heap.size):=bK (Kp.refl Lx _) rfl;have oX14:=(oX.kept gal).apart p3 (jf (oX.kept gal) (oH.kept gfull) (by decide));refine⟨_,_,_,_,rfl,_,_,_,aB bH13 1,_,aB s7 0,_,aB s7 1,_,aB s7 2,_,aB s7 3,C,cn,cc,Lx,p1,⟨_,aB bH14 1⟩,aD bH14 1,by omega,ts.length-(j+1),by omega,j+1,_,_,C,cn,cc,by omega,by omega,rfl,(oX14.mono (Nat.le_trans sz gS.size)).kp KS (fun q hq e=>by have:=oX14.block_ge q hq;have:=gS.size;omega),by omega,p2.kp KS (fun q hq e=>by have:=p2.block_ge q hq;omega),by simp;omega,?_,by simpa using bH15,(((K11.step gfull (fun k hk=>by cases hk)).step p3 (fun k hk=>.inr (.inr (oH.block_ge k hk)))).then KS (fun q _ e=>.inl e))⟩;rw[Hq];simp
    · have e:j=ts.length:=by omega
      subst e;rw[List.drop_length]at Hq;have bw:Gw.heap[w.heap.size]?=some (.cells #[.int .u64 0,.slice none 0 0] 25 (0,0)):=by
        rw[K11.block _ (by omega) (by omega)];exact bw10
      have s1:=aG bw 0 (.int .u64 N);have s2':=aG s1 1 (.slice hA GA J5);have KK:Kp w ((Gw.setCell ⟨w.heap.size,0,none⟩ (.int .u64 N)).setCell ⟨w.heap.size,1,none⟩ (.slice hA GA J5)) (fun q=>w.heap.size<=q):=bK (bK ((Kp.of_none Pm).then K11 (fun q hq e=>by omega)) (Nat.le_refl _)) (Nat.le_refl _);refine⟨_,aB bH 0,_,_,_,aB bH 1,⟨_,aB bw 0⟩,aD bw 0,⟨_,aB s1 1⟩,aD s1 1,_,aB s2' 0,_,_,_,aB s2' 1,_,_,_,rfl,?_,KK.grown (fun q hq e=>by omega)⟩;have hx:iz k l=out:=by rw[OC,Hq];simp[gn]
      rw[hx];exact(aE.kp oH (bK (bK (Kp.refl Gw (fun q=>q=w.heap.size)) rfl) rfl) (fun q hq e=>by have:=oH.block_ge q hq;omega)).mono Pm.size
def fW(l:List Edge):Prop:=l.Pairwise fun a b=>aO a b=true
theorem dK{a b:Edge}:aO a b=true↔a.1<b.1∨a.1=b.1/\a.2<b.2:=by simp[aO]
theorem mV{a b c:Edge}(h:aO a b=true)(k:aO b c=true):aO a c=true:=by
 rw[dK]at *;omega
theorem uj{a b:Edge}(h:aO a b=true):a≠b:=by
 rintro rfl;rw[dK]at h;omega
theorem rF{a b:Edge}(h:aO a b=false)(k:a≠b):aO b a=true:=by
 have h':¬ aO a b=true:=by rw[h];simp
 rw[dK]at *;obtain⟨a1,a2⟩:=a;obtain⟨b1,b2⟩:=b;simp only[ne_eq,Prod.mk.injEq]at k h' ⊢;omega
theorem ym{a b:Edge}(h:aO a b=true):aO b a=false:=by
 have:¬ aO b a=true:=by intro k;rw[dK]at *;omega
 simpa using this
theorem wC(e:Edge)(l:List Edge):fm (e ::l)=true↔(∀ x,l.head?=some x->aO e x=true)/\fm l=true:=by
 unfold fm;simp only[List.all_eq_true,List.mem_range,List.length_cons];constructor
 ·intro h;refine⟨fun x hx=>?_,fun i hi=>?_⟩
  ·cases l with
   | nil=>simp at hx
   | cons y l=>simp at hx;subst hx;simpa using h 0 (by simp)
  ·simpa using h (i+1) (by omega)
 ·rintro⟨h1,h2⟩ i hi;cases i with
  | zero =>
   cases l with
   | nil=>simp at hi
   | cons y l=>simpa using h1 y rfl
  | succ i=>simpa using h2 i (by omega)
theorem gD(l:List Edge):fm l=true↔fW l:=by
 induction l with
 | nil=>simp[fm,fW]
 | cons e l ih =>
  rw[wC,ih];unfold fW;rw[List.pairwise_cons];constructor
  ·rintro⟨h1,h2⟩;refine⟨fun x hx=>?_,h2⟩;cases l with
   | nil=>simp at hx
   | cons y l =>
    have hy:=h1 y rfl;rcases List.mem_cons.1 hx with rfl | hx
    ·exact hy
    ·exact mV hy ((List.pairwise_cons.1 h2).1 x hx)
  ·rintro⟨h1,h2⟩;exact⟨fun x hx=>h1 x (List.mem_of_head? hx),h2⟩
theorem fW.nodup{l:List Edge}(h:fW l):l.Nodup:=h.imp (fun h=>uj h)
theorem fW.ext{l m:List Edge}(hl:fW l)(hm:fW m)(h:∀ e,e∈l↔e∈m):l=m:=by
 induction l generalizing m with
 | nil =>
  cases m with
  | nil=>rfl
  | cons e m=>exact absurd ((h e).2 (by simp)) (by simp)
 | cons a l ih =>
  cases m with
  | nil=>exact absurd ((h a).1 (by simp)) (by simp)
  | cons b m =>
   have JD:=List.pairwise_cons.1 hl;have Oq:=List.pairwise_cons.1 hm;have J9:a=b:=by
    rcases List.mem_cons.1 ((h a).1 (by simp))with e | e
    ·exact e
    ·rcases List.mem_cons.1 ((h b).2 (by simp))with e' | e'
     ·exact e'.symm
     ·have h1:=Oq.1 a e;have h2:=JD.1 b e';rw[ym h1]at h2;cases h2
   subst J9;rw[ih JD.2 Oq.2 fun e=>?_];constructor
   ·intro he;rcases List.mem_cons.1 ((h e).1 (by simp[he]))with e' | e'
    ·subst e';exact absurd rfl (uj (JD.1 e he))
    ·exact e'
   ·intro he;rcases List.mem_cons.1 ((h e).2 (by simp[he]))with e' | e'
    ·subst e';exact absurd rfl (uj (Oq.1 e he))
    ·exact e'
theorem BS(l:List Edge)(e:Edge):l.take (kO l e)=l.takeWhile fun x=>aO x e:=by
 have h:=List.takeWhile_append_dropWhile (p:=fun x=>aO x e) (l:=l)
 conv=>lhs;rw[← h]
 unfold kO;exact List.take_left' (by rw[h])
theorem Cr(l:List Edge)(e:Edge):l.drop (kO l e)=l.dropWhile fun x=>aO x e:=by
 have h:=List.takeWhile_append_dropWhile (p:=fun x=>aO x e) (l:=l)
 conv=>lhs;rw[← h]
 unfold kO;exact List.drop_left' (by rw[h])
theorem Dd{l:List Edge}{e:Edge}(h:fW l)(he:e ∉ l):fW (l.take (kO l e)++(e ::l.drop (kO l e))):=by
 rw[BS,Cr];have h0:=h;rw[← List.takeWhile_append_dropWhile (p:=fun x=>aO x e) (l:=l)]at h0;obtain⟨h1,h2,h3⟩:=List.pairwise_append.1 h0;have FE:∀ a∈l.takeWhile (fun x=>aO x e),aO a e=true:=by
  have h:=List.all_takeWhile (p:=fun x=>aO x e) (l:=l);exact List.all_eq_true.1 h
 have GM:∀ a∈l.dropWhile (fun x=>aO x e),aO e a=true:=by
  intro a ha;have Gf:∀ a∈l.dropWhile (fun x=>aO x e),a∈l:=fun a ha=>List.dropWhile_sublist _ |>.mem ha;generalize hd:l.dropWhile (fun x=>aO x e)=d at *;cases d with
  | nil=>simp at ha
  | cons y d =>
   have hy:aO y e=false:=by
    have:=List.head?_dropWhile_not (fun x=>aO x e) l;rw[hd]at this;simpa using this
   have Sd:aO e y=true:=rF hy (fun h=>he (h▸Gf y (by simp)));rcases List.mem_cons.1 ha with rfl | ha
   ·exact Sd
   ·exact mV Sd ((List.pairwise_cons.1 h2).1 a ha)
 refine List.pairwise_append.2 ⟨h1,List.pairwise_cons.2 ⟨GM,h2⟩,fun a ha b hb=>?_⟩;rcases List.mem_cons.1 hb with rfl | hb
 ·exact FE a ha
 ·exact h3 a ha b hb
theorem Ez{l:List Edge}{e x:Edge}:x∈l.take (kO l e)++(e ::l.drop (kO l e))↔x=e∨x∈l:=by
 have h:x∈l↔x∈l.take (kO l e)++l.drop (kO l e):=by rw[List.take_append_drop]
 rw[h,List.mem_append,List.mem_append,List.mem_cons];constructor <;>rintro(h | h | h) <;>simp[h]
theorem we(l:List Edge)(e:Edge):l.take (l.idxOf e)++l.drop (l.idxOf e+1)=l.erase e:=by
 rw[← List.eraseIdx_eq_take_drop_succ,List.erase_eq_eraseIdx_of_idxOf (i:=l.idxOf e)];rfl
theorem qx{l:List Edge}(h:fW l)(e:aW):cu l e=none↔e.add=decide ((e.u,e.v)∈l):=by
 unfold cu;rw[if_neg (by rw[(gD l).2 h];simp)];split
 ·simp_all
 ·rename_i FG;constructor
  ·intro h;split at h <;>cases h
  ·intro h;exact absurd h FG
theorem BQ{l:List Edge}{e:aW}{x:List Edge}(hx:cu l e=some x):fW l:=by
 unfold cu at hx;split at hx
 ·cases hx
 ·rename_i h;exact(gD l).1 (by simpa using h)
theorem iP{l:List Edge}{e:aW}{x:List Edge}(hx:cu l e=some x):fW x/\(∀ a,a∈x↔if a=(e.u,e.v) then e.add=true else a∈l)/\(e.add=!decide ((e.u,e.v)∈l)):=by
 have h:=BQ hx;have FG:¬ e.add=decide ((e.u,e.v)∈l):=fun k=>by rw[(qx h e).2 k]at hx;cases hx
 have LZ:e.add=!decide ((e.u,e.v)∈l):=by
  cases h1:e.add <;>cases h2:decide ((e.u,e.v)∈l) <;>simp_all
 unfold cu at hx;rw[if_neg (by rw[(gD l).2 h];simp),if_neg FG]at hx;refine⟨?_,?_,LZ⟩
 ·split at hx
  ·cases hx;rw[we];exact List.Pairwise.sublist List.erase_sublist h
  ·rename_i ha;cases hx;refine Dd h fun hm=>?_;simp[hm]at LZ;exact ha LZ
 ·intro a;split at hx
  ·rename_i ha;cases hx;rw[we,h.nodup.mem_erase_iff];split
   ·rename_i e;simp[e,ha]
   ·rename_i e;simp[e]
  ·rename_i ha;cases hx;rw[Ez];split
   ·rename_i e;simp[e];simpa using ha
   ·rename_i e;simp[e]
theorem CQ{l x:List Edge}{e:aW}(hx:cu l e=some x){a:Edge}(ha:a∈x):a∈l∨a=(e.u,e.v):=by
 have:=(iP hx).2.1 a;by_cases e':a=(e.u,e.v)
 ·exact .inr e'
 ·rw[if_neg e']at this;exact .inl (this.1 ha)
def k8(N:Int):List aW->Option aW->List Edge->Prop
 | [],_,_=>True
 | e ::l,p,now=>(0<=e.t/\e.t<=4611686018427387903)/\(e.u<e.v/\e.v<N)/\(∀ q,p=some q->bN q e=true)/\∃ x,cu now e=some x/\k8 N l (some e) x
theorem pB{N:Int}:∀ {l:List aW} {p:Option aW} {now:List Edge} {i:Nat},((dC N l p now i).2=0↔k8 N l p now)/\((dC N l p now i).2=0->(dC N l p now i).1=0)
 | [],p,now,i=>by simp[dC,k8]
 | e ::l,p,now,i=>by
  rw[mi,k8];by_cases h1:e.t<0∨e.t>4611686018427387903
  ·rw[if_pos h1];exact⟨⟨fun h=>by simp at h,fun h=>by omega⟩,fun h=>by simp at h⟩
  rw[if_neg h1];by_cases h2:mR N e=false
  ·rw[if_pos h2];refine⟨⟨fun h=>by simp at h,fun h=>?_⟩,fun h=>by simp at h⟩;have:mR N e=true:=by simpa[mR]using h.2.1
   rw[this]at h2;cases h2
  rw[if_neg h2];have Ks:e.u<e.v/\e.v<N:=by simpa[mR]using h2
  have hp:(∀ q,p=some q->bN q e=true)↔(match p with | none=>true | some q=>bN q e)=true:=by
   cases p with
   | none=>simp
   | some q=>simp
  have hm:∀ b:Bool,((∀ q,p=some q->bN q e=true)↔b=true)->∀ z:Int×Int,((if b=false then((i:Int),23) else z).2=0->(∀ q,p=some q->bN q e=true)/\z.2=0/\((if b=false then((i:Int),23) else z).1=z.1))/\((∀ q,p=some q->bN q e=true)->(if b=false then((i:Int),23) else z)=z):=by
   intro b hb z;cases b
   ·exact⟨fun h=>by simp at h,fun h=>by have:=hb.1 h;cases this⟩
   ·exact⟨fun h=>⟨hb.2 rfl,by simpa using h,rfl⟩,fun h=>rfl⟩
  have QC:=hm _ hp (match cu now e with | none=>((i:Int),25) | some x=>dC N l (some e) x (i+1));have hx:((match cu now e with | none=>((i:Int),25) | some x=>dC N l (some e) x (i+1)):Int×Int).2=0->∃ x,cu now e=some x/\k8 N l (some e) x/\((match cu now e with | none=>((i:Int),25) | some x=>dC N l (some e) x (i+1)):Int×Int).1=0:=by
   intro h;cases ht:cu now e with
   | none=>rw[ht]at h;simp at h
   | some x =>
    rw[ht]at h;have ih:=pB (N:=N) (l:=l) (p:=some e) (now:=x) (i:=i+1);exact⟨x,rfl,ih.1.1 h,ih.2 h⟩
  have hy:∀ x,cu now e=some x->k8 N l (some e) x->((match cu now e with | none=>((i:Int),25) | some x=>dC N l (some e) x (i+1)):Int×Int).2=0:=by
   intro x ht h;rw[ht];exact(pB (N:=N) (l:=l) (p:=some e) (now:=x) (i:=i+1)).1.2 h
  refine⟨⟨fun h=>?_,fun h=>?_⟩,fun h=>?_⟩
  ·obtain⟨q1,q2,_⟩:=QC.1 h;obtain⟨x,q3,q4,_⟩:=hx q2;exact⟨by omega,Ks,q1,x,q3,q4⟩
  ·obtain⟨x,q3,q4⟩:=h.2.2.2;have:=QC.2 h.2.2.1;exact(congrArg Prod.snd this).trans (hy x q3 q4)
  ·obtain⟨q1,q2,q5⟩:=QC.1 h;obtain⟨x,q3,q4,q6⟩:=hx q2;exact q5.trans q6
theorem nQ{N:Int}{l:List aW}:(dO N l).2=0↔N<=4294967296/\l.length<=2147483648/\k8 N l none []:=by
 unfold dO;split
 ·constructor
  ·intro h;simp at h
  ·intro h;omega
 ·rw[pB.1];constructor
  ·intro h;exact⟨by omega,by omega,h⟩
  ·intro h;exact h.2.2
theorem l6(e:aW)(l:List aW)(now:List Edge):dH (e ::l) now=dH l ((cu now e).getD []):=rfl
theorem xi(l m:List aW)(now:List Edge):dH (l++m) now=dH m (dH l now):=by unfold dH;rw[List.foldl_append]
def cW(l:List aW)(p:Option aW):Option aW:=l.foldl (fun _ e=>some e) p
theorem k8.drop{N:Int}:∀ {l:List aW} {p:Option aW} {now:List Edge} (i:Nat),k8 N l p now->k8 N (l.drop i) (cW (l.take i) p) (dH (l.take i) now)
 | l,p,now,0,h=>by simpa[cW,dH]using h
 | [],p,now,i+1,h=>by simp[k8]
 | e ::l,p,now,i+1,h=>by
  obtain⟨_,_,_,x,hx,h'⟩:=h;have ih:=k8.drop i h';rw[List.take_succ_cons,l6,hx];exact ih
theorem k8.take{N:Int}:∀ {l:List aW} {p:Option aW} {now:List Edge} (i:Nat),k8 N l p now->k8 N (l.take i) p now
 | l,p,now,0,h=>by simp[k8]
 | [],p,now,i+1,h=>by simp[k8]
 | e ::l,p,now,i+1,h=>by
  obtain⟨h1,h2,h3,x,hx,h'⟩:=h;rw[List.take_succ_cons];exact⟨h1,h2,h3,x,hx,k8.take i h'⟩
theorem k8.free{N:Int}{l:List aW}{p:Option aW}{now:List Edge}(h:k8 N l p now):k8 N l none now:=by
 cases l with
 | nil=>trivial
 | cons e l=>exact⟨h.1,h.2.1,fun q hq=>(by cases hq),h.2.2.2⟩
theorem k8.step{N:Int}{l:List aW}{p:Option aW}{now:List Edge}(h:k8 N l p now){i:Nat}(hi:i<l.length):∃ x,cu (dH (l.take i) now) l[i]=some x/\dH (l.take (i+1)) now=x:=by
 have hd:=h.drop i;rw[List.drop_eq_getElem_cons hi]at hd;obtain⟨_,_,_,x,hx,_⟩:=hd;refine⟨x,hx,?_⟩;rw[List.take_succ_eq_append_getElem hi,xi,l6,hx];rfl
theorem k8.mem{N:Int}:∀ {l:List aW} {p:Option aW} {now:List Edge},k8 N l p now->∀ e∈l,(0<=e.t/\e.t<=4611686018427387903)/\e.u<e.v/\e.v<N
 | [],_,_,_,e,he=>by simp at he
 | a ::l,p,now,h,e,he=>by
  rcases List.mem_cons.1 he with rfl | he
  ·exact⟨h.1,h.2.1⟩
  ·obtain⟨x,_,h'⟩:=h.2.2.2;exact h'.mem e he
theorem k8.fold{N:Int}:∀ {l:List aW} {p:Option aW} {now:List Edge},k8 N l p now->fW now->fW (dH l now)/\∀ a∈dH l now,a∈now∨∃ e∈l,a=(e.u,e.v)
 | [],_,now,_,hr=>⟨hr,fun a ha=>.inl ha⟩
 | e ::l,p,now,h,hr=>by
  obtain⟨x,hx,h'⟩:=h.2.2.2;rw[l6,hx];have ih:=h'.fold (iP hx).1;refine⟨ih.1,fun a ha=>?_⟩;rcases ih.2 a ha with k | ⟨e',k1,k2⟩
  ·rcases CQ hx k with k | k
   ·exact .inl k
   ·exact .inr ⟨e,by simp,k⟩
  ·exact .inr ⟨e',by simp[k1],k2⟩
theorem dU{a b:aW}:bN a b=true↔a.t<b.t∨a.t=b.t/\(a.u<b.u∨a.u=b.u/\a.v<b.v):=by
 simp[bN,aO]
theorem ol{a b c:aW}(h:bN a b=true)(k:bN b c=true):bN a c=true:=by
 rw[dU]at *;omega
theorem tU(l:List aW)(e:aW):∀ k,k<=l.length->(∀ j (hj:j<l.length),di l e k<=j->j<k->bN e l[j]=true)/\(∀ j (hj:j<l.length),di l e k=j+1->bN e l[j]=false)
 | 0,_=>⟨fun j hj h1 h2=>by omega,fun j hj h=>by simp[di]at h⟩
 | k+1,hk=>by
  have ih:=tU l e k (by omega);have hg:l.getD k ⟨0,0,0,false⟩=l[k]:=by simp[List.getD_eq_getElem?_getD,show k<l.length by omega]
  unfold di;rw[hg];split
  ·rename_i hb;refine⟨fun j hj h1 h2=>?_,ih.2⟩;by_cases e':j=k
   ·subst e';exact hb
   ·exact ih.1 j hj h1 (by omega)
  ·rename_i hb;refine⟨fun j hj h1 h2=>by omega,fun j hj h=>?_⟩;have:j=k:=by omega
   subst this;simpa using hb
def om(l:List aW):Prop:=l.Pairwise fun a b=>bN a b=true
theorem wZ{l:List aW}{e:aW}(h:om l):om (ja l e):=by
 unfold ja;split
 ·exact h
 ·rename_i FG;obtain⟨p1,p2⟩:=tU l e l.length (Nat.le_refl _);have FW:=oM l e l.length;generalize di l e l.length=k at *;have h0:=h;unfold om at h0;rw[← List.take_append_drop k l]at h0;obtain⟨h1,h2,h3⟩:=List.pairwise_append.1 h0;have GM:∀ a∈l.drop k,bN e a=true:=by
   intro a ha;obtain⟨j,hj,rfl⟩:=List.mem_iff_getElem.1 ha;rw[List.getElem_drop];rw[List.length_drop]at hj;exact p1 (k+j) (by omega) (by omega) (by omega)
  have FE:∀ a∈l.take k,bN a e=true:=by
   intro a ha;cases k with
   | zero=>simp at ha
   | succ k =>
    have hk:k<l.length:=by omega
    have q:=p2 k hk rfl;have hg:l.getD (k+1-1) ⟨0,0,0,false⟩=l[k]:=by simp[List.getD_eq_getElem?_getD,hk]
    rw[hg]at FG;have Gc:bN l[k] e=true:=by
     have q':¬ bN e l[k]=true:=by rw[q];simp
     rw[dU]at q' ⊢;omega
    obtain⟨j,hj,rfl⟩:=List.mem_iff_getElem.1 ha;rw[List.getElem_take];rw[List.length_take]at hj;by_cases e':j=k
    ·subst e';exact Gc
    ·exact ol (List.pairwise_iff_getElem.1 h j k (by omega) hk (by omega)) Gc
  refine List.pairwise_append.2 ⟨h1,List.pairwise_cons.2 ⟨GM,h2⟩,fun a ha b hb=>?_⟩;rcases List.mem_cons.1 hb with rfl | hb
  ·exact FE a ha
  ·exact h3 a ha b hb
theorem CT{t a:Int}(ht:0<=t)(ha:0<=a/\a<=255):0<=ku t a/\ku t a<=t+1099511627776:=by
 have h1:(2:Int)^(a % 40).toNat<=549755813888/\0<(2:Int)^(a % 40).toNat:=by
  have h2:=Nat.pow_le_pow_right (n:=2) (by omega) (show(a % 40).toNat<=39 by omega);have h3:=Nat.two_pow_pos (a % 40).toNat;have e:((2^(a % 40).toNat:Nat):Int)=2^(a % 40).toNat:=by simp
  omega
 unfold ku;split <;>omega
theorem tb {N:Int} (hN:2<=N/\N<=4294967296):∀(l:List Int)(t:Int)(ts:List aW),aQ l->0<=t->om ts->(∀ e∈ts,0<=e.t/\e.t<=t)->(∀ e∈ts,0<=e.u/\e.u<e.v/\e.v<N) →
    om (cz N l t ts)/\(∀ e∈cz N l t ts,0<=e.t/\e.t<=t+l.length*1099511627776)/\∀ e∈cz N l t ts,0<=e.u/\e.u<e.v/\e.v<N
  | a ::b ::c ::l,t,ts,hb,ht,h1,h2,h3=>by
    rw[cz];have ha:=hb a (by simp);have GP:=hb b (by simp);have hc:=hb c (by simp);have tt:=CT ht ha;split
    · have I0:∀ x∈mu N a b c t ts,x∈ts∨x=⟨ku t a,(ef b c N).1.1,(ef b c N).1.2,false⟩/\(ef b c N).2=true:=by
        intro x hx;unfold mu at hx;split at hx
        · rename_i he;rcases yw hx with k | k
          · exact .inl k
          · exact .inr ⟨k,he⟩
        · exact .inl hx
      have FJ:∀ t':Int,t<=t'->True:=fun _ _=>trivial;have Uq:t<=ku t a:=by
        have h3:0<(2:Int)^(a % 40).toNat:=Int.pow_pos (by omega);unfold ku;split <;>omega
      have ih:=tb hN l (ku t a) (mu N a b c t ts) (fun y hy=>hb y (by simp[hy])) tt.1
        (by unfold mu;split;exact wZ h1;exact h1)
        (fun e he=>by
          rcases I0 e he with k | ⟨k,_⟩
          · have:=h2 e k;omega
          · rw[k];exact⟨tt.1,Int.le_refl _⟩)
        (fun e he=>by
          rcases I0 e he with k | ⟨k,k'⟩
          · exact h3 e k
          · rw[k];exact Dv GP.1 hc.1 hN k')
      refine⟨ih.1,fun e he=>?_,ih.2.2⟩;have:=ih.2.1 e he;simp only[List.length_cons];omega
    · refine⟨h1,fun e he=>?_,h3⟩;have:=h2 e he;simp only[List.length_cons];omega
  | [],t,ts,hb,ht,h1,h2,h3=>by
    refine⟨by simpa[cz]using h1,fun e he=>?_,by simpa[cz]using h3⟩;rw[cz]at he
    · have:=h2 e he;simp;omega
    · simp
  | [_],t,ts,hb,ht,h1,h2,h3=>by
    refine⟨by simpa[cz]using h1,fun e he=>?_,by simpa[cz]using h3⟩;rw[cz]at he
    · have:=h2 e he;simp;omega
    · simp
  | [_,_],t,ts,hb,ht,h1,h2,h3=>by
    refine⟨by simpa[cz]using h1,fun e he=>?_,by simpa[cz]using h3⟩;rw[cz]at he
    · have:=h2 e he;simp;omega
    · simp
theorem vY{N:Int}:∀(l:List aW)(now:List Edge)(p:Option aW),fW now->om l->(∀ q,p=some q->∀ e∈l,bN q e=true)->(∀ e∈l,(0<=e.t/\e.t<=4611686018427387903)/\e.u<e.v/\e.v<N)->k8 N (gn l now) p now
 | [],now,p,_,_,_,_=>by simp[gn,k8]
 | e ::l,now,p,hr,hs,hp,hv=>by
  rw[gn];have Py:=List.pairwise_cons.1 hs;have FG:cu now ⟨e.t,e.u,e.v,!decide ((e.u,e.v)∈now)⟩≠none:=by
   intro h;have:=(qx hr _).1 h;simp at this
  cases hx:cu now ⟨e.t,e.u,e.v,!decide ((e.u,e.v)∈now)⟩with
  | none=>exact absurd hx FG
  | some x =>
   have he:=hv e (by simp);refine⟨he.1,he.2,fun q hq=>?_,x,hx,?_⟩
   ·have:=hp q hq e (by simp);rw[dU]at this ⊢;exact this
   ·rw[Option.getD_some];refine vY l x _ (iP hx).1 Py.2 (fun q hq a ha=>?_) (fun a ha=>hv a (by simp[ha]));cases hq;have:=Py.1 a ha;rw[dU]at this ⊢;exact this
theorem uq:∀(l:List aW)(now:List Edge),∀ e∈gn l now,∃ a∈l,a.t=e.t/\a.u=e.u/\a.v=e.v
 | [],now,e,he=>by simp[gn]at he
 | a ::l,now,e,he=>by
  rw[gn]at he;rcases List.mem_cons.1 he with rfl | he
  ·exact⟨a,by simp,rfl,rfl,rfl⟩
  ·obtain⟨b,h1,h2⟩:=uq l _ e he;exact⟨b,by simp[h1],h2⟩
theorem yz{k:Int}{l:List Int}(hb:aQ l)(hl:l.length<=1024):k8 (jW k) (iz k l) none []/\∀ e∈iz k l,(0<=e.t/\e.t<=1125899906842624*2)/\0<=e.u/\e.u<e.v/\e.v<jW k:=by
 have h:=tb (sW k) l (k % 3) [] hb (by omega) List.Pairwise.nil (by simp) (by simp);refine⟨vY _ _ _ List.Pairwise.nil h.1 (fun q hq=>by cases hq) (fun e he=>?_),fun e he=>?_⟩
 ·have h1:=h.2.1 e he;have h2:=h.2.2 e he;exact⟨by omega,h2.2⟩
 ·obtain⟨a,ha,e1,e2,e3⟩:=uq _ _ e he;have h1:=h.2.1 a ha;have h2:=h.2.2 a ha;rw[← e1,← e2,← e3];exact⟨by omega,h2⟩
theorem CF{N k:Int}{l:List aW}(h:k8 N l none []):fW (dH (l.take k.toNat) [])/\∀ a∈dH (l.take k.toNat) [],∃ e∈l,a=(e.u,e.v):=by
 have:=(h.take k.toNat).fold List.Pairwise.nil;refine⟨this.1,fun a ha=>?_⟩;rcases this.2 a ha with k | ⟨e,k1,k2⟩
 ·simp at k
 ·exact⟨e,List.mem_of_mem_take k1,k2⟩
end Go.Proofs.YtlieaecnllkefaaGreat

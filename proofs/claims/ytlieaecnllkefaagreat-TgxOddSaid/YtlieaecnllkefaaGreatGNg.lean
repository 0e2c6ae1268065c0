/- Own texts, packed: N1, N2, N3, N4, N5, N6, N7, N8, N9, N10, N11. -/
import Derived.Test.YtlieaecnllkefaaGreatGFg
import Derived.Laws.StructEq
import Derived.ChangeKeysEq
import Derived.Test.YtlieaecnllkefaaGreatGYg
import Derived.Test.YtlieaecnllkefaaGreatGCg
import Derived.Test.YtlieaecnllkefaaGreatGIg
set_option linter.unusedVariables false
set_option linter.unusedSimpArgs false
set_option maxHeartbeats 4000000
set_option maxRecDepth 100000
namespace Go.Proofs.YtlieaecnllkefaaGreat
open Go Go.V Go.RowKit
theorem AN(a b c e:Int)(w:World):(Op.equalIn 10000 45 (.agg #[.int .u32 a,.int .u32 b]) (.agg #[.int .u32 c,.int .u32 e])).run P w=.ok (decide (a=c/\b=e)) w:=by
 rw[run_equalIn_struct w 9999 45 _ _ (by kernel_rfl) (by kernel_rfl)];obtain ⟨f, g, ON, OQ, OP, OO, HJ, FY, Gh⟩ : ∃ f g : Field, (P.fieldsOf 45).toList = [f, g] ∧ f.name = "U" ∧ f.type = 43 ∧ f.offset = 0 ∧ g.name = "V" ∧ g.type = 43 ∧ g.offset = 1 :=
  ⟨((P.fieldsOf 45).toList)[0]!,((P.fieldsOf 45).toList)[1]!,by kernel_rfl,by kernel_rfl,by kernel_rfl,by kernel_rfl,by kernel_rfl,by kernel_rfl,by kernel_rfl⟩
 rw[ON];have hu:P.underlying 43=some (.int .u32):=by kernel_rfl
 have hp:P.plainKey 43=true:=by kernel_rfl
 have e1:∀(x y:Int)(w:World),(part 43 #[.int .u32 x,.int .u32 y] 0).run P w=.ok (.int .u32 x) w:=fun x y w=>run_part_plain w hp rfl;have e2:∀(x y:Int)(w:World),(part 43 #[.int .u32 x,.int .u32 y] 1).run P w=.ok (.int .u32 y) w:=fun x y w=>run_part_plain w hp rfl;have q:∀(x y:Int)(w:World),(Op.equalIn 9999 43 (.int .u32 x) (.int .u32 y)).run P w=.ok (x ==y) w:=fun x y w=>run_equalIn_int w 9998 _ _ _ _ _ hu;simp only[Op.eqFields,OQ,OP,OO,HJ,FY,Gh,Sem.run_bind,Sem.run_ite,e1,e2,q,Result.andThen_ok];by_cases h1:a=c
 ·by_cases h2:b=e
  ·simp[h1,h2]
  ·simp[h1,h2]
 ·simp[h1]
theorem Bo(s t:Operand)(a b c e:Int)(w:World):Sem.run P (do eqGuard .eql 45 s t (.agg #[.int .u32 a,.int .u32 b]) (.agg #[.int .u32 c,.int .u32 e]);Go.binOp .eql 45 (.agg #[.int .u32 a,.int .u32 b]) (.agg #[.int .u32 c,.int .u32 e]):Sem Value) w=.ok (.bool (decide (a=c/\b=e))) w:=by
 rw[Sem.run_bind,run_eqGuard_agg w .eql 45 s t _ _ (by kernel_rfl),Result.andThen_ok,run_eql_struct w,AN];rfl
abbrev Edge:=Int×Int
def lx(e:Edge):List Value:=[.int .u32 e.1,.int .u32 e.2]
def edges(l:List Edge):List Value:=l.flatMap lx
theorem xH(l m:List Edge):edges (l++m)=edges l++edges m:=by simp[edges]
theorem dk(l:List Edge):(edges l).length=l.length*2:=by
 induction l with
 | nil=>rfl
 | cons e l ih=>simp[edges,lx]at ih ⊢;omega
theorem wy:∀ {l:List Edge} {i:Nat} (h:i<l.length),(edges l)[i*2]?=some (.int .u32 l[i].1)/\(edges l)[i*2+1]?=some (.int .u32 l[i].2)
 | e ::l,0,_=>by simp[edges,lx]
 | e ::l,i+1,h=>by
  have ih:=wy (l:=l) (i:=i) (by simpa using h);rw[show(i+1)*2=i*2+1+1 by omega];exact ih
theorem AQ(l:List Edge)(k:Nat):(edges l).drop (k*2)=edges (l.drop k):=by
 induction k generalizing l with
 | zero=>simp
 | succ k ih =>
  cases l with
  | nil=>simp[edges]
  | cons e l=>rw[show(k+1)*2=k*2+1+1 by omega];exact ih l
theorem AP(l:List Edge)(k:Nat):(edges l).take (k*2)=edges (l.take k):=by
 induction k generalizing l with
 | zero=>simp[edges]
 | succ k ih =>
  cases l with
  | nil=>simp[edges]
  | cons e l =>
   rw[show(k+1)*2=k*2+1+1 by omega];show List.take (k*2+1+1) (.int .u32 e.1 ::.int .u32 e.2 ::edges l)=.int .u32 e.1 ::.int .u32 e.2 ::edges (List.take k l);rw[List.take_succ_cons,List.take_succ_cons,ih]
structure aS where
 t:Int
 u:Int
 v:Int
 add:Bool
deriving DecidableEq
def EQ(e:aS):List Value:=[.int .i64 e.t,.int .u32 e.u,.int .u32 e.v,.bool e.add]
def cE(l:List aS):List Value:=l.flatMap EQ
theorem dR(l:List aS):(cE l).length=l.length*4:=by
 induction l with
 | nil=>rfl
 | cons e l ih=>simp[cE,EQ]at ih ⊢;omega
theorem yW:∀ {l:List aS} {i:Nat} (h:i<l.length),(cE l)[i*4]?=some (.int .i64 l[i].t)/\(cE l)[i*4+1]?=some (.int .u32 l[i].u)/\(cE l)[i*4+2]?=some (.int .u32 l[i].v)/\(cE l)[i*4+3]?=some (.bool l[i].add)
 | e ::l,0,_=>by simp[cE,EQ]
 | e ::l,i+1,h=>by
  have ih:=yW (l:=l) (i:=i) (by simpa using h);rw[show(i+1)*4=i*4+1+1+1+1 by omega];exact ih
abbrev gj(e:Edge):Value:=.agg #[.int .u32 e.1,.int .u32 e.2]
abbrev evtV(e:aS):Value:=.agg #[.int .i64 e.t,.int .u32 e.u,.int .u32 e.v,.bool e.add]
def aM(a b:Edge):Bool:=decide (a.1<b.1∨a.1=b.1/\a.2<b.2)
def bN(a b:aS):Bool:=decide (a.t<b.t) || (decide (a.t=b.t) && aM (a.u,a.v) (b.u,b.v))
def fi(l:List Edge):Bool:=(List.range (l.length-1)).all fun i=>aM (l.getD i (0,0)) (l.getD (i+1) (0,0))
theorem md{w:World}(a b:Edge):Calls P 58 #[gj a,gj b] w fun ev w'=>ev=.returned (.bool (aM a b))/\w.grownBy w' none:=by
 apply vc58;dsimp only[VC58,rb,Br,Rd,nb];have g1:=World.grownBy_alloc w (.cells #[.int .u32 a.1,.int .u32 a.2] 45) none;have b1:(w.alloc (.cells #[.int .u32 a.1,.int .u32 a.2] 45)).heap[w.heap.size]?=some (.cells #[.int .u32 a.1,.int .u32 a.2] 45 (0,0)):=heap_alloc_new w _;obtain⟨w1,GK⟩:∃ w1,w1=w.alloc (.cells #[.int .u32 a.1,.int .u32 a.2] 45):=⟨_,rfl⟩;rw[← GK]at g1 b1 ⊢;have g2:=World.grownBy_alloc w1 (.cells #[.int .u32 b.1,.int .u32 b.2] 45) none;have b2:(w1.alloc (.cells #[.int .u32 b.1,.int .u32 b.2] 45)).heap[w1.heap.size]?=some (.cells #[.int .u32 b.1,.int .u32 b.2] 45 (0,0)):=heap_alloc_new w1 _;obtain⟨w2,Ig⟩:∃ w2,w2=w1.alloc (.cells #[.int .u32 b.1,.int .u32 b.2] 45):=⟨_,rfl⟩;rw[← Ig]at g2 b2 ⊢;have b1':w2.heap[w.heap.size]?=some (.cells #[.int .u32 a.1,.int .u32 a.2] 45 (0,0)):=by rw[g2.block _ (Array.getElem?_eq_some_iff.1 b1).1 (by simp)];exact b1
 have g:=aA g1 g2;refine⟨_,aB b1' 0,_,aB b2 0,fun h=>⟨?_,g⟩,fun h=>⟨_,aB b1' 0,_,aB b2 0,fun h2=>⟨_,aB b1' 1,_,aB b2 1,?_,g⟩,fun h2=>⟨?_,g⟩⟩⟩
 ·have:aM a b=true:=by unfold aM;exact decide_eq_true (.inl h)
  rw[this]
 ·congr 2;unfold aM;rw[decide_eq_decide];omega
 ·have:aM a b=false:=by unfold aM;exact decide_eq_false (by omega)
  rw[this]
theorem pS{w:World}(e:Edge){n:Int}(he:0<=e.2/\e.2<=4294967295):Calls P 44 #[gj e,.int .u64 n] w fun ev w'=>ev=.returned (.bool (decide (e.1<e.2/\e.2<n)))/\w.grownBy w' none:=by
 apply vc44;dsimp only[VC44,rb,Br,Rd,nb]
 try simp only[aG]
 have g1:=World.grownBy_alloc w (.cells #[.int .u32 e.1,.int .u32 e.2] 45) none;have b1:(w.alloc (.cells #[.int .u32 e.1,.int .u32 e.2] 45)).heap[w.heap.size]?=some (.cells #[.int .u32 e.1,.int .u32 e.2] 45 (0,0)):=heap_alloc_new w _;refine⟨_,aB b1 0,_,aB b1 1,fun h=>⟨_,aB b1 1,by omega,?_,g1⟩,fun h=>⟨?_,g1⟩⟩
 ·congr 2;simp;omega
 ·congr 2;simp;omega
theorem mC{w:World}(a b:aS):Calls P 55 #[evtV a,evtV b] w fun ev w'=>ev=.returned (.bool (bN a b))/\w.grownBy w' none:=by
 apply vc55;dsimp only[VC55,rb,Br,Rd,cB,nb,iq];have g1:=World.grownBy_alloc w (.cells #[.int .i64 a.t,.int .u32 a.u,.int .u32 a.v,.bool a.add] 62) none;have b1:(w.alloc (.cells #[.int .i64 a.t,.int .u32 a.u,.int .u32 a.v,.bool a.add] 62)).heap[w.heap.size]?=some (.cells #[.int .i64 a.t,.int .u32 a.u,.int .u32 a.v,.bool a.add] 62 (0,0)):=heap_alloc_new w _;obtain⟨w1,GK⟩:∃ w1,w1=w.alloc (.cells #[.int .i64 a.t,.int .u32 a.u,.int .u32 a.v,.bool a.add] 62):=⟨_,rfl⟩;rw[← GK]at g1 b1 ⊢;have g2:=World.grownBy_alloc w1 (.cells #[.int .i64 b.t,.int .u32 b.u,.int .u32 b.v,.bool b.add] 62) none;have b2:(w1.alloc (.cells #[.int .i64 b.t,.int .u32 b.u,.int .u32 b.v,.bool b.add] 62)).heap[w1.heap.size]?=some (.cells #[.int .i64 b.t,.int .u32 b.u,.int .u32 b.v,.bool b.add] 62 (0,0)):=heap_alloc_new w1 _;obtain⟨w2,Ig⟩:∃ w2,w2=w1.alloc (.cells #[.int .i64 b.t,.int .u32 b.u,.int .u32 b.v,.bool b.add] 62):=⟨_,rfl⟩;rw[← Ig]at g2 b2 ⊢;have b1':w2.heap[w.heap.size]?=some (.cells #[.int .i64 a.t,.int .u32 a.u,.int .u32 a.v,.bool a.add] 62 (0,0)):=by rw[g2.block _ (Array.getElem?_eq_some_iff.1 b1).1 (by simp)];exact b1
 have g:=aA g1 g2;refine⟨_,aB b1' 0,_,aB b2 0,fun h=>⟨?_,g⟩,fun h=>⟨_,aB b1' 0,_,aB b2 0,fun h2=>⟨_,aB b1' 1,_,aB b1' 2,_,aB b2 1,_,aB b2 2,?_⟩,fun h2=>⟨?_,g⟩⟩⟩
 ·congr 2;simp[bN,h]
 ·refine(md (a.u,a.v) (b.u,b.v)).mono fun ev w3 hh=>?_;obtain⟨rfl,g3⟩:=hh;refine⟨_,rfl,?_,aA g g3⟩;congr 2;simp[bN,h,h2]
 ·congr 2;simp[bN,h,h2]
theorem eT{w:World}{A:OA}{l:List Edge}(h:aZ w A (edges l)){j:Nat}(hj:j<l.length):∃ a,A=some a/\w.cell? (a.add (j*2))=some (.int .u32 l[j].1)/\w.cell? ((a.add (j*2)).add 1)=some (.int .u32 l[j].2):=by
 obtain⟨h1,h2⟩:=wy hj;obtain⟨a,e1,e2⟩:=h _ _ h1;obtain⟨a',e3,e4⟩:=h _ _ h2;rw[e1]at e3;cases e3;exact⟨a,e1,e2,by rw[fl];exact e4⟩
theorem wT {w:World} {A:OA} {n c:Nat} {l:List Edge} (hr:aZ w A (edges l)) (hn:n=l.length) (hl:n<=2^40):Calls P 57 #[.slice A n c] w fun ev w'=>ev=.returned (.bool (fi l))/\w.grownBy w' none:=by
  apply vc57;dsimp only[VC57,rb,Br,Rd,Ix,cB,ad,al]
  try simp only[aG]
  refine⟨fun m i w1=>∃ j:Nat,i=(j:Int)/\1<=j/\(j<=l.length∨j=1)/\m=l.length-j/\(∀ t,t+1<j->aM (l.getD t (0,0)) (l.getD (t+1) (0,0))=true)/\w.grownBy w1 none,⟨_,1,rfl,by omega,.inr rfl,rfl,fun t ht=>by omega,aC _ _⟩,?_⟩;rintro m i w1 ⟨j,rfl,h1,hj,rfl,hs,hg⟩;have tj:(j:Int).toNat=j:=by omega
  have tj1:((j:Int)-1).toNat=j-1:=by omega
  rw[tj,tj1];refine⟨fun FP=>?_,fun FU=>⟨?_,hg⟩⟩
  · have gd:=aI hg;obtain⟨a,e1,e2,e3⟩:=eT (hr.kept_none gd) (show j-1<l.length by omega);obtain⟨a',f1,f2,f3⟩:=eT (hr.kept_none gd) (show j<l.length by omega);refine⟨by omega,a,e1,by omega,by omega,_,e2,_,e3,a',f1,by omega,by omega,_,f2,_,f3,?_⟩;refine(md l[j-1] l[j]).mono fun ev w2 hh=>?_;obtain⟨rfl,g2⟩:=hh;have GH:=aA gd g2;have d1:l.getD (j-1) (0,0)=l[j-1]:=by simp[List.getD_eq_getElem?_getD,show j-1<l.length by omega]
    have d2:l.getD (j-1+1) (0,0)=l[j]:=by rw[show j-1+1=j by omega];simp[List.getD_eq_getElem?_getD,show j<l.length by omega]
    refine⟨_,rfl,fun h=>⟨?_,GH⟩,fun h=>⟨by omega,l.length-(j+1),by omega,j+1,by omega,by omega,.inl (by omega),rfl,fun t ht=>?_,GH⟩⟩
    · have:fi l=false:=by
        cases hq:fi l with
        | false=>rfl
        | true =>
          have:=List.all_eq_true.1 hq (j-1) (List.mem_range.2 (by omega));rw[d1,d2,h]at this;cases this
      rw[this]
    · by_cases e:t+1=j
      · have:t=j-1:=by omega
        subst this;rw[d1,d2];simpa using h
      · exact hs t (by omega)
  · have:fi l=true:=List.all_eq_true.2 fun t ht=>hs t (by have:=List.mem_range.1 ht;omega);rw[this]
def su(l:List Edge)(e:Edge):Int:=if e∈l then(l.idxOf e:Int) else -1
theorem uR {w:World} {A:OA} {n c:Nat} {l:List Edge} {e:Edge} (hr:aZ w A (edges l)) (hn:n=l.length) (hl:n<=2^40):Calls P 56 #[.slice A n c,gj e] w fun ev w'=>ev=.returned (.int .i64 (su l e))/\w.grownBy w' none:=by
  apply vc56;dsimp only[VC56,Br,Bb,Rd,Ix,Eg,nb,ad,al,iq]
  try simp only[aG]
  have g1:=World.grownBy_alloc w (.cells #[.int .u32 e.1,.int .u32 e.2] 45) none;have b1:(w.alloc (.cells #[.int .u32 e.1,.int .u32 e.2] 45)).heap[w.heap.size]?=some (.cells #[.int .u32 e.1,.int .u32 e.2] 45 (0,0)):=heap_alloc_new w _;obtain⟨w1,GK⟩:∃ w1,w1=w.alloc (.cells #[.int .u32 e.1,.int .u32 e.2] 45):=⟨_,rfl⟩;rw[← GK]at g1 b1 ⊢;refine⟨fun m i w2=>∃ j:Nat,i=(j:Int)/\j<=l.length/\m=l.length-j/\(∀ t (h:t<l.length),t<j->l[t]≠e)/\w1.grownBy w2 none,⟨_,0,rfl,by omega,rfl,fun t _ ht=>by omega,aC _ _⟩,?_⟩;rintro m i w2 ⟨j,rfl,hj,rfl,hs,hg⟩;have tj:(j:Int).toNat=j:=by omega
  rw[tj];refine⟨fun FP=>?_,fun FU=>⟨?_,aA g1 hg⟩⟩
  · have gd:=aI hg;have lj:j<l.length:=by omega
    obtain⟨a,e1,e2,e3⟩:=eT ((hr.kept_none g1).kept_none gd) lj;have b2:w2.drew.heap[w.heap.size]?=some (.cells #[.int .u32 e.1,.int .u32 e.2] 45 (0,0)):=by rw[gd.block _ (Array.getElem?_eq_some_iff.1 b1).1 (by simp)];exact b1
    refine⟨a,e1,by omega,by omega,_,e2,_,e3,_,aB b2 0,_,aB b2 1,_,fun w=>Bo _ _ _ _ _ _ w,fun h=>⟨?_,aA g1 gd⟩,fun h=>⟨by omega,l.length-(j+1),by omega,j+1,by omega,by omega,rfl,fun t ht h3=>?_,gd⟩⟩
    · have he:l[j]=e:=by
        have:=of_decide_eq_true h;exact Prod.ext this.1 this.2
      have hm:e∈l:=by rw[← he];exact List.getElem_mem lj
      have hi:l.idxOf e=j:=by
        have h4:l.idxOf e<l.length:=List.idxOf_lt_length_iff.2 hm;have h5:l[l.idxOf e]=e:=List.getElem_idxOf h4;rcases Nat.lt_trichotomy (l.idxOf e) j with q | q | q
        · exact absurd h5 (hs _ h4 q)
        · exact q
        · exfalso;have:=List.not_of_lt_findIdx (p:=(· ==e)) (xs:=l) (i:=j) q;simp[he]at this
      rw[su,if_pos hm,hi]
    · by_cases e4:t=j
      · subst e4;intro h5;rw[h5]at h;simp at h
      · exact hs t ht (by omega)
  · have hm:e ∉ l:=by
      intro h;obtain⟨t,ht,h2⟩:=List.mem_iff_getElem.1 h;exact hs t ht (by omega) h2
    rw[su,if_neg hm]
theorem wu{w:World}{A:OA}{n c:Nat}{l:List Edge}{e:Edge}(hr:aZ w A (edges l))(hn:n=l.length)(hl:n<=2^40):Calls P 29 #[.slice A n c,gj e] w fun ev w'=>ev=.returned (.bool (decide (e∈l)))/\w.grownBy w' none:=by
 apply vc29;dsimp only[VC29,Rd,cI,nb];have g1:=World.grownBy_alloc w (.cells #[.int .u32 e.1,.int .u32 e.2] 45) none;have b1:(w.alloc (.cells #[.int .u32 e.1,.int .u32 e.2] 45)).heap[w.heap.size]?=some (.cells #[.int .u32 e.1,.int .u32 e.2] 45 (0,0)):=heap_alloc_new w _;refine⟨_,aB b1 0,_,aB b1 1,?_⟩;refine(uR (e:=e) (hr.kept_none g1) hn hl).mono fun ev w2 hh=>?_;obtain⟨rfl,g2⟩:=hh;refine⟨_,rfl,?_,aA g1 g2⟩;congr 2;unfold su;by_cases h:e∈l
 ·simp[h]
 ·simp[h]
theorem y5:qw P 40 45 2 (P.bytesOf 45):=⟨(P.info? 45).getD default,((P.info? 45).getD default).zero.getD undef,by kernel_rfl,by kernel_rfl,by kernel_rfl,by kernel_rfl,by kernel_rfl,by kernel_rfl,by decide⟩
theorem CK:P.bytesOf 45<=64:=of_decide_eq_true (by kernel_rfl)
theorem dP{w:World}{base:Nat}{A B:OA}{n c m d:Nat}{xs ys:List Edge}(ho:aE w base 45 2 A n c (edges xs))(hB:aZ w B (edges ys))(hm:m=ys.length)(hd:B=none->d=0)(hn:n+m<=2^39)(hb:base<=w.heap.size):
    ∃ (A':OA) (n' c':Nat) (w':World),Sem.run P (Builtin.append_ #[40,40] 40 #[.slice A n c,.slice B m d]) w=.ok (.slice A' n' c') w' ∧
      aE w' base 45 2 A' n' c' (edges (xs++ys))/\w.grownBy w' (Value.slice A n c).ownBlock/\n'=n+m:=by
  cases B with
  | none =>
    have IG:ys=[]:=by
      cases ys with
      | nil=>rfl
      | cons y ys=>obtain⟨a,e,_⟩:=hB 0 _ rfl;cases e
    subst IG;have h0:m=0:=by simpa using hm
    have h1:=hd rfl;subst h0 h1;exact⟨A,n,c,w,ho.appends_nil y5,by simpa using ho,aC _ _,rfl⟩
  | some a =>
    obtain⟨A',n',c',w',h1,h2,h3,h4,_⟩:=ho.appends (ty:=40) y5 CK (a:=a) (m:=m) (cc:=d) (us:=edges ys) (by rw[dk,hm]) (fun j u hj=>by obtain⟨b,q1,q2⟩:=hB j u hj;cases q1;exact q2) (fun u hu=>by
      simp only[edges,List.mem_flatMap]at hu;obtain⟨e,_,he⟩:=hu;simp[lx]at he;rcases he with rfl | rfl <;>rfl) (by omega) hb
    exact⟨A',n',c',w',h1,by rw[xH];exact h2,h4,h3⟩
theorem FF{w:World}{A:OA}{c k:Nat}{l:List Edge}(h:aZ w A (edges l))(hA:A=none->c=0)(hc:l.length<=c):aZ w (bK A c k 2) (edges (l.drop k))/\(bK A c k 2=none->c-k=0):=by
 unfold bK;split
 ·rename_i GW;refine⟨?_,fun _=>by omega⟩;rw[List.drop_eq_nil_of_le (by omega)];intro j u hj;simp[edges]at hj
 ·have:=h.drop (k*2);rw[AQ]at this;refine⟨this,fun e=>?_⟩;cases A with
  | none=>rw[hA rfl];omega
  | some a=>simp at e
theorem C6{w:World}{A:OA}{l:List Edge}(h:aZ w A (edges l))(k:Nat):aZ w A (edges (l.take k)):=by
 intro j u hj;rw[← AP,List.getElem?_take]at hj;split at hj
 ·exact h j u hj
 ·cases hj
def lh(l:List Edge)(e:Edge):Nat:=(l.takeWhile fun x=>aM x e).length
def ct(l:List Edge)(ev:aS):Option (List Edge) :=
 if fi l=false then none else if ev.add=decide ((ev.u,ev.v)∈l) then none else
 if ev.add=false then some (l.take (l.idxOf (ev.u,ev.v))++l.drop (l.idxOf (ev.u,ev.v)+1)) else some (l.take (lh l (ev.u,ev.v))++((ev.u,ev.v) ::l.drop (lh l (ev.u,ev.v))))
theorem Bx{l:List Edge}{e:Edge}{j:Nat}(hj:j<=l.length)(h:∀ t (ht:t<l.length),t<j->aM l[t] e=true)(h2:∀(ht:j<l.length),aM l[j] e=false):lh l e=j:=by
 induction l generalizing j with
 | nil=>simp at hj;subst hj;rfl
 | cons x l ih =>
  cases j with
  | zero =>
   have:=h2 (by simp);simp at this;simp[lh,List.takeWhile_cons,this]
  | succ j =>
   have h0:=h 0 (by simp) (by omega);simp at h0;have:=ih (j:=j) (by simpa using hj) (fun t ht Qj=>h (t+1) (Nat.succ_lt_succ ht) (by omega)) (fun ht=>h2 (Nat.succ_lt_succ ht));simp[lh,List.takeWhile_cons,h0]at this ⊢;exact this
theorem jT {w:World} {A:OA} {n c:Nat} {l:List Edge} {e:aS} (hr:aZ w A (edges l)) (hn:n=l.length) (hc:n<=c) (hA:A=none->c=0) (hl:n<=2^30) :
    Calls P 30 #[.slice A n c,evtV e] w fun ev w'=>∃(A':OA)(n' c':Nat),ev=.returned (.tuple #[.slice A' n' c',.bool (ct l e).isSome])/\aE w' w.heap.size 45 2 A' n' c' (edges ((ct l e).getD []))/\w.grownBy w' none:=by
  apply vc30;dsimp only[VC30,rt,Br,Bb,Rd,Rc,Ix,Ap,Eg,cI,cB,nb,ad,al,iq]
  try simp only[aG]
  have g1:=World.grownBy_alloc w (.cells #[.int .i64 e.t,.int .u32 e.u,.int .u32 e.v,.bool e.add] 62) none;have b1:(w.alloc (.cells #[.int .i64 e.t,.int .u32 e.u,.int .u32 e.v,.bool e.add] 62)).heap[w.heap.size]?=some (.cells #[.int .i64 e.t,.int .u32 e.u,.int .u32 e.v,.bool e.add] 62 (0,0)):=heap_alloc_new w _;obtain⟨w1,GK⟩:∃ w1,w1=w.alloc (.cells #[.int .i64 e.t,.int .u32 e.u,.int .u32 e.v,.bool e.add] 62):=⟨_,rfl⟩;rw[← GK]at g1 b1 ⊢;have keep:∀ w',w1.grownBy w' none->w'.heap[w.heap.size]?=some (.cells #[.int .i64 e.t,.int .u32 e.u,.int .u32 e.v,.bool e.add] 62 (0,0)):=fun w' g=>by rw[g.block _ (Array.getElem?_eq_some_iff.1 b1).1 (by simp)];exact b1
  refine⟨_,aB b1 1,_,aB b1 2,?_⟩;refine(uR (e:=(e.u,e.v)) (hr.kept_none g1) hn (by omega)).mono fun ev w2 hh=>?_;obtain⟨rfl,g2⟩:=hh;refine⟨_,rfl,?_⟩;refine(wT ((hr.kept_none g1).kept_none g2) hn (by omega)).mono fun ev w3 hh=>?_;obtain⟨rfl,g3⟩:=hh;have Gu:=aA g2 g3;have F9:=aA g1 Gu;have Jd:decide (su l (e.u,e.v)≥0)=decide ((e.u,e.v)∈l):=by
    unfold su;by_cases h:(e.u,e.v)∈l
    · simp[h]
    · simp[h]
  refine⟨_,rfl,fun h=>?_,fun h=>?_⟩
  · have:ct l e=none:=by unfold ct;rw[if_pos h]
    rw[this];exact⟨_,_,_,rfl,aE.nil _ _ _ _,F9⟩
  have Jk:¬ fi l=false:=h;have b3:=keep w3 Gu;have hu:P.underlying 4=some .bool:=by kernel_rfl
  refine⟨_,aB b3 3,_,fun w=>Ez _ _ _ _ w,fun h=>?_,fun h=>?_⟩
  · have h':e.add=decide ((e.u,e.v)∈l):=by rw[← Jd];simpa using h
    have:ct l e=none:=by unfold ct;rw[if_neg Jk,if_pos h']
    rw[this];exact⟨_,_,_,rfl,aE.nil _ _ _ _,F9⟩
  have HL:¬ e.add=decide ((e.u,e.v)∈l):=by rw[← Jd];simpa using h
  refine⟨_,aB b3 3,fun G4=>?_,fun IZ=>?_⟩
  · have hm:(e.u,e.v)∈l:=by
      rw[G4]at HL;by_cases q:(e.u,e.v)∈l
      · exact q
      · simp[q]at HL
    have Vv:su l (e.u,e.v)=((l.idxOf (e.u,e.v):Nat):Int):=by rw[su,if_pos hm]
    have Xo:l.idxOf (e.u,e.v)<l.length:=List.idxOf_lt_length_iff.2 hm;have Qi:ct l e=some (l.take (l.idxOf (e.u,e.v))++l.drop (l.idxOf (e.u,e.v)+1)):=by unfold ct;rw[if_neg Jk,if_neg HL,if_pos G4]
    rw[Qi,Vv];generalize l.idxOf (e.u,e.v)=i at *;have ti:(i:Int).toNat=i:=by omega
    have ti1:((i:Int)+1).toNat=i+1:=by omega
    rw[ti,ti1];have gd:=aI F9;have rd:=hr.kept_none gd;obtain⟨A4,n4,c4,w4,f1,f2,f3,f4⟩:=dP (n:=0) (c:=0) (A:=none) (xs:=[]) (aE.nil w3.drew w3.drew.heap.size 45 2) (m:=i) (d:=c) (C6 rd i) (by rw[List.length_take];omega) hA (by omega) (Nat.le_refl _);have g4:w3.drew.grownBy w4 none:=aN (aC w3.drew none) f3 (fun k hk=>by simp[Value.ownBlock]at hk);rw[List.nil_append]at f2;obtain⟨r5,d5⟩:=FF (k:=i+1) (rd.kept_none g4) hA (by omega);obtain⟨A5,n5,c5,w5,p1,p2,p3,p4⟩:=dP f2 (m:=n-(i+1)) (d:=c-(i+1)) r5 (by rw[List.length_drop];omega) d5 (by omega) g4.size;exact⟨⟨by omega,by omega⟩,_,_,_,w4,f1,by omega,⟨by omega,by omega⟩,_,_,_,w5,p1,_,_,_,rfl,p2.mono gd.size,aA gd (aN g4 p3 f2.block_ge)⟩
  · have O7:¬ e.add=false:=IZ;have Qi:ct l e=some (l.take (lh l (e.u,e.v))++((e.u,e.v) ::l.drop (lh l (e.u,e.v)))):=by unfold ct;rw[if_neg Jk,if_neg HL,if_neg O7]
    rw[Qi];refine⟨fun i w'=>i=(lh l (e.u,e.v):Int)/\lh l (e.u,e.v)<=l.length/\w1.grownBy w' none,⟨fun m i w4=>∃ j:Nat,i=(j:Int)/\j<=l.length/\m=l.length-j/\(∀ t (ht:t<l.length),t<j->aM l[t] (e.u,e.v)=true)/\w1.grownBy w4 none,⟨_,0,rfl,by omega,rfl,fun t _ ht=>by omega,Gu⟩,?_⟩,?_⟩
    · rintro m i w4 ⟨j,rfl,hj,rfl,hs,g4⟩;have tj:(j:Int).toNat=j:=by omega
      rw[tj];have gd:=aI g4;refine⟨fun FP=>?_,fun FU=>?_⟩
      · have lj:j<l.length:=by omega
        obtain⟨a,e1,e2,e3⟩:=eT ((hr.kept_none g1).kept_none gd) lj;have b4:=keep w4.drew gd;refine⟨a,e1,by omega,by omega,_,e2,_,e3,_,aB b4 1,_,aB b4 2,?_⟩;refine(md l[j] (e.u,e.v)).mono fun ev w5 hh=>?_;obtain⟨rfl,g5⟩:=hh;refine⟨_,rfl,fun h=>⟨by omega,l.length-(j+1),by omega,j+1,by omega,by omega,rfl,fun t ht Qj=>?_,aA gd g5⟩,fun h=>?_⟩
        · by_cases q:t=j
          · subst q;exact h
          · exact hs t ht (by omega)
        · have:=Bx hj hs (fun _=>h);exact⟨by rw[this],by omega,aA gd g5⟩
      · have:=Bx hj hs (fun ht=>by omega);exact⟨by rw[this],by omega,gd⟩
    · rintro i w4 ⟨rfl,hk,g4⟩;generalize lh l (e.u,e.v)=k at *;have tk:(k:Int).toNat=k:=by omega
      rw[tk];have gd:=aI g4;have g0d:=aA g1 gd;have rd:=hr.kept_none g0d;refine⟨fun w'=>w1.grownBy w' none,gd,⟨⟨by omega,by omega⟩,?_⟩,⟨⟨by omega,by omega⟩,?_⟩⟩
      · obtain⟨A5,n5,c5,w5,f1,f2,f3,f4⟩:=dP (n:=0) (c:=0) (A:=none) (xs:=[]) (aE.nil w4.drew w4.drew.heap.size 45 2) (m:=k) (d:=c) (C6 rd k) (by rw[List.length_take];omega) hA (by omega) (Nat.le_refl _);have g5:w4.drew.grownBy w5 none:=aN (aC w4.drew none) f3 (fun k hk=>by simp[Value.ownBlock]at hk);rw[List.nil_append]at f2;have Kk:=aA gd g5;have ga:=World.grownBy_alloc w5 (.cells #[.int .u32 e.u,.int .u32 e.v] 45) none;have ra:aZ (w5.alloc (.cells #[.int .u32 e.u,.int .u32 e.v] 45)) (some ⟨w5.heap.size,0,none⟩) (edges [(e.u,e.v)]):=dg w5 _ 45;obtain⟨A6,n6,c6,w6,p1,p2,p3,p4⟩:=dP (f2.kept ga) (m:=1) (d:=1) ra rfl (fun h=>by cases h) (by omega) (Nat.le_trans g5.size ga.size);have Sa:=aA g5 ga;have g6:=aN Sa p3 f2.block_ge;have Nl:=aA gd g6;obtain⟨r7,d7⟩:=FF (k:=k) (rd.kept_none g6) hA (by omega);obtain⟨A7,n7,c7,w7,q1,q2,q3,q4⟩:=dP p2 (m:=n-k) (d:=c-k) r7 (by rw[List.length_drop];omega) d7 (by omega) g6.size;have g7:=aN g6 q3 p2.block_ge;exact⟨_,_,_,w5,f1,Kk,_,fun w' h=>aB (keep w' h) 1,_,fun w' h=>aB (keep w' h) 2,aA Kk ga,_,_,_,w6,p1,Nl,⟨by omega,by omega⟩,_,_,_,w7,q1,aA gd g7,_,_,_,rfl,by simpa using q2.mono g0d.size,aA g0d g7⟩
      · have ga:=World.grownBy_alloc w4.drew (.cells #[.int .u32 e.u,.int .u32 e.v] 45) none;have ra:aZ (w4.drew.alloc (.cells #[.int .u32 e.u,.int .u32 e.v] 45)) (some ⟨w4.drew.heap.size,0,none⟩) (edges [(e.u,e.v)]):=dg w4.drew _ 45;obtain⟨wa,LO⟩:∃ wa,wa=w4.drew.alloc (.cells #[.int .u32 e.u,.int .u32 e.v] 45):=⟨_,rfl⟩;refine⟨_,fun w' h=>aB (keep w' h) 1,_,fun w' h=>aB (keep w' h) 2,?_⟩;simp only[List.getElem?_toArray];show(fun w'=>w1.grownBy w' none) (w4.drew.alloc (.cells #[.int .u32 e.u,.int .u32 e.v] 45))/\_;rw[← LO]at ga ra ⊢;obtain⟨A5,n5,c5,w5,f1,f2,f3,f4⟩:=dP (n:=0) (c:=0) (A:=none) (xs:=[]) (aE.nil wa wa.heap.size 45 2) (m:=k) (d:=c) (C6 (rd.kept_none ga) k) (by rw[List.length_take];omega) hA (by omega) (Nat.le_refl _);have g5:wa.grownBy w5 none:=aN (aC wa none) f3 (fun k hk=>by simp[Value.ownBlock]at hk);rw[List.nil_append]at f2;obtain⟨A6,n6,c6,w6,p1,p2,p3,p4⟩:=dP f2 (m:=1) (d:=1) (ra.kept_none g5) rfl (fun h=>by cases h) (by omega) g5.size;have g6:=aN g5 p3 f2.block_ge;obtain⟨r7,d7⟩:=FF (k:=k) ((rd.kept_none ga).kept_none g6) hA (by omega);obtain⟨A7,n7,c7,w7,q1,q2,q3,q4⟩:=dP p2 (m:=n-k) (d:=c-k) r7 (by rw[List.length_drop];omega) d7 (by omega) g6.size;have g7:=aN g6 q3 p2.block_ge;have g1a:=aA gd ga;exact⟨g1a,_,_,_,w5,f1,aA g1a g5,_,_,_,w6,p1,aA g1a g6,⟨by omega,by omega⟩,_,_,_,w7,q1,aA g1a g7,_,_,_,rfl,by simpa using q2.mono (Nat.le_trans g0d.size ga.size),aA g0d (aA ga g7)⟩
theorem ey{w:World}{A:OA}{l:List aS}(h:aZ w A (cE l)){j:Nat}(hj:j<l.length):∃ a,A=some a/\w.cell? (a.add (j*4))=some (.int .i64 l[j].t)/\w.cell? ((a.add (j*4)).add 1)=some (.int .u32 l[j].u)/\w.cell? ((a.add (j*4)).add 2)=some (.int .u32 l[j].v)/\w.cell? ((a.add (j*4)).add 3)=some (.bool l[j].add):=by
 obtain⟨h1,h2,h3,h4⟩:=yW hj;obtain⟨a,e1,e2⟩:=h _ _ h1;have rd:∀ k u,(cE l)[j*4+k]?=some u->w.cell? ((a.add (j*4)).add k)=some u:=fun k u hk=>by
  obtain⟨a',q1,q2⟩:=h _ _ hk;rw[e1]at q1;cases q1;rw[fl];exact q2
 exact⟨a,e1,e2,rd 1 _ h2,rd 2 _ h3,rd 3 _ h4⟩
def mU(N:Int)(e:aS):Bool:=decide (e.u<e.v/\e.v<N)
def dw(N:Int):List aS->Option aS->List Edge->Nat->Int×Int
 | [],_,_,_=>(0,0)
 | e ::l,p,now,i=>if e.t<0∨e.t>4611686018427387903 then((i:Int),26) else if mU N e=false then((i:Int),24) else
  if(match p with | none=>true | some q=>bN q e)=false then((i:Int),23) else match ct now e with
  | none=>((i:Int),25)
  | some x=>dw N l (some e) x (i+1)
theorem mA(N:Int)(e:aS)(l:List aS)(p:Option aS)(now:List Edge)(i:Nat):dw N (e ::l) p now i=if e.t<0∨e.t>4611686018427387903 then((i:Int),26) else if mU N e=false then((i:Int),24) else
    if(match p with | none=>true | some q=>bN q e)=false then((i:Int),23) else match ct now e with
    | none=>((i:Int),25)
    | some x=>dw N l (some e) x (i+1):=rfl
def dF(N:Int)(l:List aS):Int×Int:=if N>4294967296∨l.length>2147483648 then(0,26) else dw N l none [] 0
theorem nL{l x:List Edge}{e:aS}(h:ct l e=some x):x.length<=l.length+1:=by
 unfold ct at h;split at h
 ·cases h
 ·split at h
  ·cases h
  ·split at h
   ·cases h;simp;omega
   ·cases h;simp;omega
theorem mB {w:World} {A:OA} {n c:Nat} {l:List aS} {N:Int} (hr:aZ w A (cE l)) (hn:n=l.length) (hl:n<=2^20) (hb:∀ e∈l,(0<=e.u/\e.u<=4294967295)/\0<=e.v/\e.v<=4294967295) :
    Calls P 39 #[.agg #[.int .u64 N,.slice A n c]] w fun ev w'=>ev=.returned (.tuple #[.int .i64 (dF N l).1,.int .i64 (dF N l).2])/\w.grownBy w' none:=by
  apply vc39;dsimp only[VC39,rt,Wt,Br,Rd,Rs,Ix,Ws,cB,nb,ad,al,iq]
  try simp only[aG]
  have g1:=World.grownBy_alloc w (.cells #[.int .u64 N,.slice A n c] 25) none;have b1:(w.alloc (.cells #[.int .u64 N,.slice A n c] 25)).heap[w.heap.size]?=some (.cells #[.int .u64 N,.slice A n c] 25 (0,0)):=heap_alloc_new w _;obtain⟨w1,GK⟩:∃ w1,w1=w.alloc (.cells #[.int .u64 N,.slice A n c] 25):=⟨_,rfl⟩;rw[← GK]at g1 b1 ⊢;have keep:∀ w',w1.grownBy w' none->w'.heap[w.heap.size]?=some (.cells #[.int .u64 N,.slice A n c] 25 (0,0)):=fun w' g=>by rw[g.block _ (Array.getElem?_eq_some_iff.1 b1).1 (by simp)];exact b1
  refine⟨_,aB b1 0,fun h=>⟨by rw[dF,if_pos (.inl h)],g1⟩,fun h=>⟨_,_,_,aB b1 1,fun h2=>⟨by rw[dF,if_pos (.inr (by omega))],g1⟩,fun h2=>?_⟩⟩;have Ik:dF N l=dw N l none [] 0:=by rw[dF,if_neg (by omega)]
  refine⟨fun m B k d i w2=>∃(j:Nat)(now:List Edge),i=(j:Int)/\j<=l.length/\m=l.length-j/\aE w2 w1.heap.size 45 2 B k d (edges now)/\now.length<=j/\dF N l=dw N (l.drop j) (if j=0 then none else l[j-1]?) now j/\w1.grownBy w2 none,
    ⟨_,0,[],rfl,by omega,rfl,aE.nil _ _ _ _,by simp,by simpa using Ik,aC _ _⟩,?_⟩
  rintro m B k d i w2 ⟨j,now,rfl,hj,rfl,ho,II,GW,hg⟩;have tj:(j:Int).toNat=j:=by omega
  have tj1:((j:Int)-1).toNat=j-1:=by omega
  have hk:k=now.length:=by have:=ho.cases.1;rw[dk]at this;omega
  rw[tj,tj1];refine⟨_,_,_,aB (keep w2 hg) 1,fun FP=>?_,fun FU=>?_⟩
  · have lj:j<l.length:=by omega
    rw[List.drop_eq_getElem_cons lj,mA]at GW;obtain⟨a,e1,e2,e3,e4,e5⟩:=ey ((hr.kept_none g1).kept_none hg) lj;have PT:=hb _ (List.getElem_mem lj);have ga:=World.grownBy_alloc w2 (.cells #[.int .i64 0,.int .u32 0,.int .u32 0,.bool false] 62) none;have s0:(w2.alloc (.cells #[.int .i64 0,.int .u32 0,.int .u32 0,.bool false] 62)).heap[w2.heap.size]?=some (.cells #[.int .i64 0,.int .u32 0,.int .u32 0,.bool false] 62 (0,0)):=heap_alloc_new w2 _;obtain⟨wa,LO⟩:∃ wa,wa=w2.alloc (.cells #[.int .i64 0,.int .u32 0,.int .u32 0,.bool false] 62):=⟨_,rfl⟩;rw[← LO]at ga s0 ⊢;have s1:=aH s0 0 (.int .i64 l[j].t);have s2:=aH s1 1 (.int .u32 l[j].u);have s3:=aH s2 2 (.int .u32 l[j].v);have s4:=aH s3 3 (.bool l[j].add);have K4:Kp w2 ((((wa.setCell ⟨w2.heap.size,0,none⟩ (.int .i64 l[j].t)).setCell ⟨w2.heap.size,1,none⟩ (.int .u32 l[j].u)).setCell ⟨w2.heap.size,2,none⟩ (.int .u32 l[j].v)).setCell ⟨w2.heap.size,3,none⟩ (.bool l[j].add)) (fun k=>w2.heap.size<=k):=cA (cA (cA (cA (Kp.of_none ga) (Nat.le_refl _)) (Nat.le_refl _)) (Nat.le_refl _)) (Nat.le_refl _);refine⟨_,_,_,aB (keep w2 hg) 1,a,e1,by omega,by omega,_,e2,_,e3,_,e4,_,e5,⟨_,aB s0 0⟩,aD s0 0,⟨_,aB s1 1⟩,aD s1 1,⟨_,aB s2 2⟩,aD s2 2,⟨_,aB s3 3⟩,aD s3 3,?_⟩;obtain⟨w4,HY⟩:∃ w4,w4=(((wa.setCell ⟨w2.heap.size,0,none⟩ (.int .i64 l[j].t)).setCell ⟨w2.heap.size,1,none⟩ (.int .u32 l[j].u)).setCell ⟨w2.heap.size,2,none⟩ (.int .u32 l[j].v)).setCell ⟨w2.heap.size,3,none⟩ (.bool l[j].add):=⟨_,rfl⟩;rw[← HY]at s4 K4 ⊢;replace s4:w4.heap[w2.heap.size]?=some (.cells #[.int .i64 l[j].t,.int .u32 l[j].u,.int .u32 l[j].v,.bool l[j].add] 62 (0,0)):=by simpa using s4
    have LJ:w2.grownBy w4 none:=K4.grown (fun k hk e=>by omega);have Hz:=aA hg LJ;have HS:=aA g1 Hz;refine⟨_,aB s4 0,fun h=>⟨by rw[GW,if_pos (.inl h)],HS⟩,fun h0=>⟨_,aB s4 0,fun h=>⟨by rw[GW,if_pos (.inr h)],HS⟩,fun h1=>⟨_,aB s4 1,_,aB s4 2,_,aB (keep w4 Hz) 0,?_⟩⟩⟩;rw[if_neg (by omega)]at GW;refine(pS (l[j].u,l[j].v) PT.2).mono fun ev w5 hh=>?_;obtain⟨rfl,g5⟩:=hh;have Kk:=aA Hz g5;refine⟨_,rfl,fun h=>⟨by rw[GW,if_pos (show mU N l[j]=false from h)],aA g1 Kk⟩,fun h=>?_⟩;rw[if_neg (show ¬ mU N l[j]=false from h)]at GW;have s5:∀ w',w4.grownBy w' none->w'.heap[w2.heap.size]?=some (.cells #[.int .i64 l[j].t,.int .u32 l[j].u,.int .u32 l[j].v,.bool l[j].add] 62 (0,0)):=fun w' g=>by rw[g.block _ (Array.getElem?_eq_some_iff.1 s4).1 (by simp)];exact s4
    have gd:=aI g5;have Io:=cY ho;have Ga:k<=d:=kX ho
    -- the turn, behind whatever was looked at
    have fin:(match (if j=0 then none else l[j-1]?)with | none=>true | some q=>bN q l[j])=true->∀ w6,w4.grownBy w6 none->Calls P 30 #[.slice B k d,.agg #[.int .i64 l[j].t,.int .u32 l[j].u,.int .u32 l[j].v,.bool l[j].add]] w6 fun ev w7=>∃(C:OA)(cn cc:Nat)(q:Bool),ev=.returned (.tuple #[.slice C cn cc,.bool q])/\((q=false->Ending.returned (Value.tuple #[.int .i64 (j:Int),.int .i64 25])=Ending.returned (Value.tuple #[.int .i64 (dF N l).1,.int .i64 (dF N l).2])/\w.grownBy w7 none)/\(¬ q=false->(-9223372036854775808<=(j:Int)+1/\(j:Int)+1<=9223372036854775807)/\∃ m_1,m_1<l.length-j/\∃(j':Nat)(now':List Edge),(j:Int)+1=(j':Int)/\j'<=l.length/\m_1=l.length-j'/\aE w7 w1.heap.size 45 2 C cn cc (edges now')/\now'.length<=j'/\dF N l=dw N (l.drop j') (if j'=0 then none else l[j'-1]?) now' j'/\w1.grownBy w7 none)):=by
      intro IA w6 g6;rw[if_neg (by rw[IA];simp)]at GW;have Sc:=aA LJ g6;refine(jT (e:=l[j]) ((ho.kept Sc).row) hk Ga Io (by omega)).mono fun ev w7 hh=>?_;obtain⟨C,cn,cc,rfl,oC,g7⟩:=hh;have Ic:=aA (aA hg Sc) g7;refine⟨_,_,_,_,rfl,fun hq=>?_,fun hq=>?_⟩
      · cases ht:ct now l[j]with
        | some x=>rw[ht]at hq;cases hq
        | none =>
          rw[ht]at GW;exact⟨by rw[GW],aA g1 Ic⟩
      · cases ht:ct now l[j]with
        | none=>rw[ht]at hq;exact absurd rfl hq
        | some x =>
          rw[ht]at GW oC;have:=nL ht;refine⟨⟨by omega,by omega⟩,l.length-(j+1),by omega,j+1,x,by omega,by omega,rfl,oC.mono (Nat.le_trans hg.size Sc.size),by omega,?_,Ic⟩;rw[GW];simp[lj]
    refine⟨fun FX=>?_,fun hz=>?_⟩
    · have lj1:j-1<l.length:=by omega
      obtain⟨a',f1,f2,f3,f4,f5⟩:=ey ((hr.kept_none g1).kept_none (aA Hz gd)) lj1;have sd:=s5 w5.drew gd;have GS:(if j=0 then none else l[j-1]?)=some l[j-1]:=by rw[if_neg (by omega)];simp[lj1]
      refine⟨_,_,_,aB (keep w5.drew (aA Hz gd)) 1,by omega,a',f1,by omega,by omega,_,f2,_,f3,_,f4,_,f5,_,aB sd 0,_,aB sd 1,_,aB sd 2,_,aB sd 3,?_⟩;refine(mC l[j-1] l[j]).mono fun ev w6 hh=>?_;obtain⟨rfl,g6⟩:=hh;have Jg:=aA gd g6;refine⟨_,rfl,fun hq=>⟨?_,aA g1 (aA Hz Jg)⟩,fun hq=>?_⟩
      · rw[GW,GS,if_pos hq]
      · have s6:=s5 w6 Jg;exact⟨_,aB s6 0,_,aB s6 1,_,aB s6 2,_,aB s6 3,fin (by rw[GS];simpa using hq) w6 Jg⟩
    · have j0:j=0:=by omega
      have sd:=s5 w5.drew gd;exact⟨_,aB sd 0,_,aB sd 1,_,aB sd 2,_,aB sd 3,fin (by rw[if_pos j0]) w5.drew gd⟩
  · have e:j=l.length:=by omega
    subst e;rw[List.drop_length]at GW;exact⟨by rw[GW];rfl,aA g1 hg⟩
def dA(l:List aS)(now:List Edge):List Edge:=l.foldl (fun now e=>(ct now e).getD []) now
theorem pt(l:List aS)(e:aS)(now:List Edge):dA (l++[e]) now=(ct (dA l now) e).getD []:=by simp[dA]
theorem ig:∀(l:List aS)(now:List Edge),(dA l now).length<=now.length+l.length
 | [],now=>by simp[dA]
 | e ::l,now=>by
  have ih:=ig l ((ct now e).getD []);have:((ct now e).getD []).length<=now.length+1:=by
   cases h:ct now e with
   | none=>simp
   | some x=>exact nL h
  show(dA l ((ct now e).getD [])).length<=_;simp only[List.length_cons];omega
def gG(N:Int)(l:List aS)(k:Int):List Edge:=if(dF N l).2≠0 then [] else dA (l.take k.toNat) []
theorem zw{w:World}{A:OA}{n c:Nat}{l:List aS}{N k:Int}(hr:aZ w A (cE l))(hn:n=l.length)(hl:n<=2^20)(hb:∀ e∈l,(0<=e.u/\e.u<=4294967295)/\0<=e.v/\e.v<=4294967295):
    Calls P 24 #[.agg #[.int .u64 N,.slice A n c],.int .i64 k] w fun ev w'=>∃(A':OA)(n' c':Nat),ev=.returned (.tuple #[.slice A' n' c',.int .i64 (dF N l).2])/\aE w' w.heap.size 45 2 A' n' c' (edges (gG N l k))/\w.grownBy w' none:=by
  apply vc24;dsimp only[VC24,rt,Br,Rd,Rs,Ix,nb,ad,al,iq]
  try simp only[aG]
  have g1:=World.grownBy_alloc w (.cells #[.int .u64 N,.slice A n c] 25) none;have b1:(w.alloc (.cells #[.int .u64 N,.slice A n c] 25)).heap[w.heap.size]?=some (.cells #[.int .u64 N,.slice A n c] 25 (0,0)):=heap_alloc_new w _;obtain⟨w1,GK⟩:∃ w1,w1=w.alloc (.cells #[.int .u64 N,.slice A n c] 25):=⟨_,rfl⟩;rw[← GK]at g1 b1 ⊢;have keep:∀ w',w1.grownBy w' none->w'.heap[w.heap.size]?=some (.cells #[.int .u64 N,.slice A n c] 25 (0,0)):=fun w' g=>by rw[g.block _ (Array.getElem?_eq_some_iff.1 b1).1 (by simp)];exact b1
  refine⟨_,aB b1 0,_,_,_,aB b1 1,?_⟩;refine(mB (hr.kept_none g1) hn hl hb).mono fun ev w2 hh=>?_;obtain⟨rfl,g2⟩:=hh;have GH:=aA g1 g2;refine⟨_,_,rfl,fun h=>?_,fun h=>?_⟩
  · have:gG N l k=[]:=by rw[gG,if_pos h]
    rw[this];exact⟨_,_,_,rfl,aE.nil _ _ _ _,GH⟩
  have hz:(dF N l).2=0:=by omega
  have RE:gG N l k=dA (l.take k.toNat) []:=by rw[gG,if_neg h]
  rw[RE,hz];refine⟨fun m B q d i w3=>∃ j:Nat,i=(j:Int)/\j<=l.length/\(j:Int)<=max k 0/\m=l.length-j/\aE w3 w.heap.size 45 2 B q d (edges (dA (l.take j) []))/\w1.grownBy w3 none,
    ⟨_,0,rfl,by omega,by omega,rfl,aE.nil _ _ _ _,g2⟩,?_⟩
  rintro m B q d i w3 ⟨j,rfl,hj,Xl,rfl,ho,hg⟩;have tj:(j:Int).toNat=j:=by omega
  rw[tj];have FT:=ig (l.take j) [];rw[List.length_take]at FT;simp only[List.length_nil]at FT;have hq:q=(dA (l.take j) []).length:=by have:=ho.cases.1;rw[dk]at this;omega
  refine⟨_,_,_,aB (keep w3 hg) 1,fun FP=>⟨fun hk=>?_,fun hk=>?_⟩,fun FU=>?_⟩
  · have lj:j<l.length:=by omega
    obtain⟨a,e1,e2,e3,e4,e5⟩:=ey ((hr.kept_none g1).kept_none hg) lj;refine⟨_,_,_,aB (keep w3 hg) 1,a,e1,by omega,by omega,_,e2,_,e3,_,e4,_,e5,?_⟩;refine(jT (e:=l[j]) ho.row hq (kX ho) (cY ho) (by omega)).mono fun ev w4 hh=>?_;obtain⟨C,cn,cc,rfl,oC,g4⟩:=hh;refine⟨_,_,_,_,rfl,by omega,l.length-(j+1),by omega,j+1,by omega,by omega,by omega,rfl,?_,aA hg g4⟩;rw[List.take_succ_eq_append_getElem lj,pt];exact oC.mono (Nat.le_trans g1.size hg.size)
  · have:l.take k.toNat=l.take j:=by
      have:k.toNat=j:=by omega
      rw[this]
    rw[this];exact⟨_,_,_,rfl,ho,aA g1 hg⟩
  · have e:j=l.length:=by omega
    have:l.take k.toNat=l.take j:=by
      rw[List.take_of_length_le (l:=l) (i:=j) (by omega),List.take_of_length_le (by omega)]
    rw[this];exact⟨_,_,_,rfl,ho,aA g1 hg⟩
theorem xG(d:Nat)(a b c e:Int)(w:World):(Op.equalIn (d+2) 45 (.agg #[.int .u32 a,.int .u32 b]) (.agg #[.int .u32 c,.int .u32 e])).run P w=.ok (decide (a=c/\b=e)) w:=by
 rw[run_equalIn_struct w (d+1) 45 _ _ (by kernel_rfl) (by kernel_rfl)];obtain ⟨f, g, ON, OQ, OP, OO, HJ, FY, Gh⟩ : ∃ f g : Field, (P.fieldsOf 45).toList = [f, g] ∧ f.name = "U" ∧ f.type = 43 ∧ f.offset = 0 ∧ g.name = "V" ∧ g.type = 43 ∧ g.offset = 1 :=
  ⟨((P.fieldsOf 45).toList)[0]!,((P.fieldsOf 45).toList)[1]!,by kernel_rfl,by kernel_rfl,by kernel_rfl,by kernel_rfl,by kernel_rfl,by kernel_rfl,by kernel_rfl⟩
 rw[ON];have hu:P.underlying 43=some (.int .u32):=by kernel_rfl
 have hp:P.plainKey 43=true:=by kernel_rfl
 have e1:∀(x y:Int)(w:World),(part 43 #[.int .u32 x,.int .u32 y] 0).run P w=.ok (.int .u32 x) w:=fun x y w=>run_part_plain w hp rfl;have e2:∀(x y:Int)(w:World),(part 43 #[.int .u32 x,.int .u32 y] 1).run P w=.ok (.int .u32 y) w:=fun x y w=>run_part_plain w hp rfl;have q:∀(x y:Int)(w:World),(Op.equalIn (d+1) 43 (.int .u32 x) (.int .u32 y)).run P w=.ok (x ==y) w:=fun x y w=>run_equalIn_int w d _ _ _ _ _ hu;simp only[Op.eqFields,OQ,OP,OO,HJ,FY,Gh,Sem.run_bind,Sem.run_ite,e1,e2,q,Result.andThen_ok];by_cases h1:a=c
 ·by_cases h2:b=e
  ·simp[h1,h2]
  ·simp[h1,h2]
 ·simp[h1]
theorem Cn(t:Int)(u v:Int)(a:Bool)(w:World):(part 45 #[.int .i64 t,.int .u32 u,.int .u32 v,.bool a] 1).run P w=.ok (.agg #[.int .u32 u,.int .u32 v]) w:=by
 have hu:P.underlying 45=some (.struct (P.fieldsOf 45)):=by kernel_rfl
 obtain⟨i,hi⟩:∃ i,P.info? 45=some i:=⟨(P.info? 45).getD default,by kernel_rfl⟩;have hc:P.cellsOf 45=2:=by kernel_rfl
 simp[part,isAgg,run_underlying hu,run_sizeOf w hi,hc]
theorem CB(a b:aS)(w:World):(Op.equalIn 10000 62 (evtV a) (evtV b)).run P w=.ok (decide (a=b)) w:=by
 rw[run_equalIn_struct w 9999 62 _ _ (by kernel_rfl) (by kernel_rfl)];obtain ⟨f, g, h, ON, OQ, OP, OO, HJ, FY, Gh, OG, Vr, Vq⟩ : ∃ f g h : Field, (P.fieldsOf 62).toList = [f, g, h] ∧ f.name = "T" ∧ f.type = 2 ∧ f.offset = 0 ∧ g.name = "Edge" ∧ g.type = 45 ∧ g.offset = 1 ∧ h.name = "Add" ∧ h.type = 4 ∧ h.offset = 3 :=
  ⟨((P.fieldsOf 62).toList)[0]!,((P.fieldsOf 62).toList)[1]!,((P.fieldsOf 62).toList)[2]!,by kernel_rfl,by kernel_rfl,by kernel_rfl,by kernel_rfl,by kernel_rfl,by kernel_rfl,by kernel_rfl,by kernel_rfl,by kernel_rfl,by kernel_rfl⟩
 rw[ON];have hu:P.underlying 2=some (.int .i64):=by kernel_rfl
 have Uj:P.underlying 4=some .bool:=by kernel_rfl
 have hp:P.plainKey 2=true:=by kernel_rfl
 have UJ:P.plainKey 4=true:=by kernel_rfl
 have e1:∀(x:aS)(w:World),(part 2 #[.int .i64 x.t,.int .u32 x.u,.int .u32 x.v,.bool x.add] 0).run P w=.ok (.int .i64 x.t) w:=fun x w=>run_part_plain w hp rfl;have e2:∀(x:aS)(w:World),(part 45 #[.int .i64 x.t,.int .u32 x.u,.int .u32 x.v,.bool x.add] 1).run P w=.ok (.agg #[.int .u32 x.u,.int .u32 x.v]) w:=fun x w=>Cn _ _ _ _ w;have e3:∀(x:aS)(w:World),(part 4 #[.int .i64 x.t,.int .u32 x.u,.int .u32 x.v,.bool x.add] 3).run P w=.ok (.bool x.add) w:=fun x w=>run_part_plain w UJ rfl;have q1:∀(x y:Int)(w:World),(Op.equalIn 9999 2 (.int .i64 x) (.int .i64 y)).run P w=.ok (x ==y) w:=fun x y w=>run_equalIn_int w 9998 _ _ _ _ _ hu;have q2:∀(x y z t:Int)(w:World),(Op.equalIn 9999 45 (.agg #[.int .u32 x,.int .u32 y]) (.agg #[.int .u32 z,.int .u32 t])).run P w=.ok (decide (x=z/\y=t)) w:=fun x y z t w=>xG 9997 x y z t w;have q3:∀(x y:Bool)(w:World),(Op.equalIn 9999 4 (.bool x) (.bool y)).run P w=.ok (x ==y) w:=fun x y w=>run_equalIn_bool' w 9998 _ _ _ Uj;simp only[Op.eqFields,OQ,OP,OO,HJ,FY,Gh,OG,Vr,Vq,Sem.run_bind,Sem.run_ite,e1,e2,e3,q1,q2,q3,Result.andThen_ok];obtain⟨t,u,v,p⟩:=a;obtain⟨t',u',v',p'⟩:=b;by_cases h1:t=t'
 ·by_cases h2:u=u'/\v=v'
  ·obtain⟨h2,h3⟩:=h2;by_cases h4:p=p'
   ·simp[h1,h2,h3,h4]
   ·simp[h1,h2,h3,h4]
  ·have:¬ (u=u'/\v=v'/\p=p'):=fun q=>h2 ⟨q.1,q.2.1⟩;simp[h1,h2,this]
 ·simp[h1]
theorem Ey(s t:Operand)(a b:aS)(w:World):Sem.run P (do eqGuard .neq 62 s t (evtV a) (evtV b);Go.binOp .neq 62 (evtV a) (evtV b):Sem Value) w=.ok (.bool (!decide (a=b))) w:=by
 rw[Sem.run_bind,run_eqGuard_agg w .neq 62 s t _ _ (by kernel_rfl),Result.andThen_ok,run_neq_struct w,CB];rfl
theorem qM{w:World}{A B:OA}{n c m d:Nat}{l k:List aS}(hA:aZ w A (cE l))(hn:n=l.length)(hB:aZ w B (cE k))(hm:m=k.length)(hl:n<=2^40):Calls P 25 #[.slice A n c,.slice B m d] w fun ev w'=>ev=.returned (.bool (decide (l=k)))/\w.grownBy w' none:=by
 apply vc25;dsimp only[VC25,rb,Br,Bb,Rd,Ix,Eg,ad,al,iq]
 try simp only[aG]
 refine⟨fun FS=>⟨?_,aC _ _⟩,fun Ha=>?_⟩
 ·have:l≠k:=fun e=>by subst e;omega
  simp[this]
 refine⟨fun mm i w1=>∃ j:Nat,i=(j:Int)/\j<=l.length/\mm=l.length-j/\l.take j=k.take j/\w.grownBy w1 none,⟨_,0,rfl,by omega,rfl,by simp,aC _ _⟩,?_⟩;rintro mm i w1 ⟨j,rfl,hj,rfl,hs,hg⟩;have tj:(j:Int).toNat=j:=by omega
 rw[tj];refine⟨fun FP=>?_,fun FU=>⟨?_,hg⟩⟩
 ·have gd:=aI hg;have lj:j<l.length:=by omega
  have kj:j<k.length:=by omega
  obtain⟨a,e1,e2,e3,e4,e5⟩:=ey (hA.kept_none gd) lj;obtain⟨b,f1,f2,f3,f4,f5⟩:=ey (hB.kept_none gd) kj;refine⟨a,e1,by omega,by omega,_,e2,_,e3,_,e4,_,e5,b,f1,by omega,by omega,_,f2,_,f3,_,f4,_,f5,_,fun w=>Ey _ _ l[j] k[j] w,fun h=>⟨?_,gd⟩,fun h=>⟨by omega,l.length-(j+1),by omega,j+1,by omega,by omega,rfl,?_,gd⟩⟩
  ·have:l≠k:=fun e=>by subst e;simp at h
   simp[this]
  ·have he:l[j]=k[j]:=by simpa using h
   rw[List.take_succ_eq_append_getElem lj,List.take_succ_eq_append_getElem kj,hs,he]
 ·rw[List.take_of_length_le (by omega),List.take_of_length_le (by omega)]at hs;simp[hs]
def kh(k:Int):Int:=([8,5,2,4294967296,300,12,1048576,3]:List Int).getD (k % 8).toNat 0
theorem pM(k:Int):2<=kh k/\kh k<=4294967296:=by
 have h:∀ t:Fin 8,2<=([8,5,2,4294967296,300,12,1048576,3]:List Int).getD t.val 0/\([8,5,2,4294967296,300,12,1048576,3]:List Int).getD t.val 0<=4294967296:=by decide
 exact h ⟨(k % 8).toNat,by omega⟩
theorem tD{w:World}{k:Int}(hk:0<=k/\k<=255):Calls P 27 #[.int .u8 k] w fun ev w'=>ev=.returned (.int .u64 (kh k))/\w.grownBy w' none:=by
 apply vc27;dsimp only[VC27,Ix,nb];have g:=World.grownBy_alloc w (.cells #[.int .u64 8,.int .u64 5,.int .u64 2,.int .u64 4294967296,.int .u64 300,.int .u64 12,.int .u64 1048576,.int .u64 3] 22) none;have hr:aZ (w.alloc (.cells #[.int .u64 8,.int .u64 5,.int .u64 2,.int .u64 4294967296,.int .u64 300,.int .u64 12,.int .u64 1048576,.int .u64 3] 22)) (some ⟨w.heap.size,0,none⟩) (([8,5,2,4294967296,300,12,1048576,3]:List Int).map (Value.int .u64)):=dg w _ 22;have FP:(k % 8).toNat<([8,5,2,4294967296,300,12,1048576,3]:List Int).length:=by simp;omega
 obtain⟨a,e1,e2⟩:=hr (k % 8).toNat (.int .u64 (kh k)) (by rw[List.getElem?_map,List.getElem?_eq_getElem FP,kh,List.getD_eq_getElem?_getD,List.getElem?_eq_getElem FP];rfl);exact⟨⟨by omega,by omega⟩,a,e1,by omega,by omega,_,e2,rfl,g⟩
def jX(a most n:Int):Int:=if a>most then n-1-a % mn n 9 else a % mn n 9
def du(a b n:Int):Edge×Bool:=if jX a 230 n=jX b 240 n then((0,0),false) else((mn (jX a 230 n) (jX b 240 n),mx (jX a 230 n) (jX b 240 n)),true)
theorem pQ{a most n:Int}(ha:0<=a)(hn:2<=n/\n<=4294967296):0<=jX a most n/\jX a most n<n:=by
 have h1:1<=mn n 9/\mn n 9<=n:=by unfold mn;split <;>omega
 have h2:=Int.emod_nonneg a (show mn n 9≠0 by omega);have h3:=Int.emod_lt_of_pos a (show 0<mn n 9 by omega);unfold jX;split <;>omega
theorem np{w:World}{a b n:Int}(ha:0<=a/\a<=255)(hb:0<=b/\b<=255)(hn:2<=n/\n<=4294967296):Calls P 18 #[.int .u8 a,.int .u8 b,.int .u64 n] w fun ev w'=>ev=.returned (.tuple #[gj (du a b n).1,.bool (du a b n).2])/\w.grownBy w' none:=by
 apply vc18;dsimp only[VC18,rt,Wt,Br,Rd,Ws,nb]
 try simp only[aG]
 have h1:1<=mn n 9/\mn n 9<=n:=by unfold mn;split <;>omega
 have ua:=pQ (most:=230) ha.1 hn;have ub:=pQ (most:=240) hb.1 hn;have a2:=Int.emod_nonneg a (show mn n 9≠0 by omega);have a3:=Int.emod_lt_of_pos a (show 0<mn n 9 by omega);have c2:=Int.emod_nonneg b (show mn n 9≠0 by omega);have c3:=Int.emod_lt_of_pos b (show 0<mn n 9 by omega);have g1:=aI (World.grownBy_alloc w (.cells #[.int .u32 0,.int .u32 0] 45) none);have b1:(w.alloc (.cells #[.int .u32 0,.int .u32 0] 45)).drew.heap[w.heap.size]?=some (.cells #[.int .u32 0,.int .u32 0] 45 (0,0)):=heap_alloc_new w _;obtain⟨w1,GK⟩:∃ w1,w1=(w.alloc (.cells #[.int .u32 0,.int .u32 0] 45)).drew:=⟨_,rfl⟩;rw[← GK]at g1 b1 ⊢;refine⟨by omega,⟨by omega,by omega⟩,by omega,⟨by omega,by omega⟩,fun u w'=>u=jX a 230 n/\w'=w1,⟨fun h=>⟨by omega,by omega,by unfold jX;rw[if_pos h],rfl⟩,fun h=>⟨by unfold jX;rw[if_neg h],rfl⟩⟩,?_⟩;rintro u w2 ⟨hu,Ig⟩;rw[Ig];clear Ig;refine⟨fun v w'=>v=jX b 240 n/\w'=w1,⟨fun h=>⟨by omega,by omega,by unfold jX;rw[if_pos h],rfl⟩,fun h=>⟨by unfold jX;rw[if_neg h],rfl⟩⟩,?_⟩;rintro v w3 ⟨hv,Gr⟩;rw[Gr];clear Gr;rw[← hu]at ua;rw[← hv]at ub;have hm:0<=mn u v/\mn u v<=4294967295/\0<=mx u v/\mx u v<=4294967295:=by unfold mn mx;split <;>split <;>omega
 have fin:∀ p q:Int,w.grownBy ((w1.setCell ⟨w.heap.size,0,none⟩ (.int .u32 p)).setCell ⟨w.heap.size,1,none⟩ (.int .u32 q)) none:=fun p q=>(cA (cA (Kp.of_none (S:=fun k=>w.heap.size<=k) g1) (Nat.le_refl _)) (Nat.le_refl _)).grown (fun k hk e=>by omega);refine⟨fun he=>?_,fun he=>?_⟩
 ·have s1:=aH b1 0 (.int .u32 0);have s2:=aH s1 1 (.int .u32 0);refine⟨⟨_,aB b1 0⟩,aD b1 0,⟨_,aB s1 1⟩,aD s1 1,0,aB s2 0,0,aB s2 1,?_,fin 0 0⟩;unfold du;rw[if_pos (by omega)]
 ·have s1:=aH b1 0 (.int .u32 (mn u v));have s2:=aH s1 1 (.int .u32 (mx u v));refine⟨by omega,by omega,⟨_,aB b1 0⟩,aD b1 0,⟨_,aB s1 1⟩,aD s1 1,_,aB s2 0,_,aB s2 1,?_,fin _ _⟩;unfold du;rw[← hu,← hv,if_neg he]
theorem BM:qw P 23 62 4 (P.bytesOf 62):=⟨(P.info? 62).getD default,((P.info? 62).getD default).zero.getD undef,by kernel_rfl,by kernel_rfl,by kernel_rfl,by kernel_rfl,by kernel_rfl,by kernel_rfl,by decide⟩
theorem DO:P.bytesOf 62<=64:=of_decide_eq_true (by kernel_rfl)
theorem yX(l m:List aS):cE (l++m)=cE l++cE m:=by simp[cE]
theorem CA(l:List aS)(k:Nat):(cE l).drop (k*4)=cE (l.drop k):=by
 induction k generalizing l with
 | zero=>simp
 | succ k ih =>
  cases l with
  | nil=>simp[cE]
  | cons e l=>rw[show(k+1)*4=k*4+1+1+1+1 by omega];exact ih l
theorem Cz(l:List aS)(k:Nat):(cE l).take (k*4)=cE (l.take k):=by
 induction k generalizing l with
 | zero=>simp[cE]
 | succ k ih =>
  cases l with
  | nil=>simp[cE]
  | cons e l =>
   rw[show(k+1)*4=k*4+1+1+1+1 by omega];show List.take (k*4+1+1+1+1) (.int .i64 e.t ::.int .u32 e.u ::.int .u32 e.v ::.bool e.add ::cE l)=.int .i64 e.t ::.int .u32 e.u ::.int .u32 e.v ::.bool e.add ::cE (List.take k l);rw[List.take_succ_cons,List.take_succ_cons,List.take_succ_cons,List.take_succ_cons,ih]
theorem eh{w:World}{base:Nat}{A B:OA}{n c m d:Nat}{xs ys:List aS}(ho:aE w base 62 4 A n c (cE xs))(hB:aZ w B (cE ys))(hm:m=ys.length)(hd:B=none->d=0)(hn:n+m<=2^39)(hb:base<=w.heap.size):
    ∃ (A':OA) (n' c':Nat) (w':World),Sem.run P (Builtin.append_ #[23,23] 23 #[.slice A n c,.slice B m d]) w=.ok (.slice A' n' c') w' ∧
      aE w' base 62 4 A' n' c' (cE (xs++ys))/\w.grownBy w' (Value.slice A n c).ownBlock/\n'=n+m:=by
  cases B with
  | none =>
    have IG:ys=[]:=by
      cases ys with
      | nil=>rfl
      | cons y ys=>obtain⟨a,e,_⟩:=hB 0 _ rfl;cases e
    subst IG;have h0:m=0:=by simpa using hm
    have h1:=hd rfl;subst h0 h1;exact⟨A,n,c,w,ho.appends_nil BM,by simpa using ho,aC _ _,rfl⟩
  | some a =>
    obtain⟨A',n',c',w',h1,h2,h3,h4,_⟩:=ho.appends (ty:=23) BM DO (a:=a) (m:=m) (cc:=d) (us:=cE ys) (by rw[dR,hm]) (fun j u hj=>by obtain⟨b,q1,q2⟩:=hB j u hj;cases q1;exact q2) (fun u hu=>by
      simp only[cE,List.mem_flatMap]at hu;obtain⟨e,_,he⟩:=hu;simp[EQ]at he;rcases he with rfl | rfl | rfl | rfl <;>rfl) (by omega) hb
    exact⟨A',n',c',w',h1,by rw[yX];exact h2,h4,h3⟩
theorem CG{w:World}{A:OA}{c k:Nat}{l:List aS}(h:aZ w A (cE l))(hA:A=none->c=0)(hc:l.length<=c):aZ w (bK A c k 4) (cE (l.drop k))/\(bK A c k 4=none->c-k=0):=by
 unfold bK;split
 ·rename_i GW;refine⟨?_,fun _=>by omega⟩;rw[List.drop_eq_nil_of_le (by omega)];intro j u hj;simp[cE]at hj
 ·have:=h.drop (k*4);rw[CA]at this;refine⟨this,fun e=>?_⟩;cases A with
  | none=>rw[hA rfl];omega
  | some a=>simp at e
theorem qJ{w:World}{A:OA}{l:List aS}(h:aZ w A (cE l))(k:Nat):aZ w A (cE (l.take k)):=by
 intro j u hj;rw[← Cz,List.getElem?_take]at hj;split at hj
 ·exact h j u hj
 ·cases hj
def dh(l:List aS)(e:aS):Nat->Nat
 | 0=>0
 | k+1=>if bN e (l.getD k ⟨0,0,0,false⟩)=true then dh l e k else k+1
theorem oP(l:List aS)(e:aS):∀ k,dh l e k<=k
 | 0=>Nat.le_refl _
 | k+1=>by
  unfold dh;split
  ·exact Nat.le_succ_of_le (oP l e k)
  ·exact Nat.le_refl _
def jf(l:List aS)(e:aS):List aS :=
 if 0<dh l e l.length/\(l.getD (dh l e l.length-1) ⟨0,0,0,false⟩).t=e.t/\(l.getD (dh l e l.length-1) ⟨0,0,0,false⟩).u=e.u/\(l.getD (dh l e l.length-1) ⟨0,0,0,false⟩).v=e.v then l
 else l.take (dh l e l.length)++(e ::l.drop (dh l e l.length))
theorem xt {w:World} {base:Nat} {A:OA} {n c:Nat} {l:List aS} {e:aS} (ho:aE w base 62 4 A n c (cE l)) (hb:base<=w.heap.size) (hl:n<=2^30) :
    Calls P 28 #[.slice A n c,evtV e] w fun ev w'=>∃(A':OA)(n' c':Nat),ev=.returned (.slice A' n' c')/\aE w' base 62 4 A' n' c' (cE (jf l e))/\w.grownBy w' none:=by
  have hn:n=l.length:=by have:=ho.cases.1;rw[dR]at this;omega
  have hc:=kX ho;have hA:=cY ho;have hr:=ho.row;apply vc28;dsimp only[VC28,Br,Bb,Rd,Rc,Ix,Ap,Eg,cB,nb,ad,al,iq]
  try simp only[aG]
  have g1:=World.grownBy_alloc w (.cells #[.int .i64 e.t,.int .u32 e.u,.int .u32 e.v,.bool e.add] 62) none;have b1:(w.alloc (.cells #[.int .i64 e.t,.int .u32 e.u,.int .u32 e.v,.bool e.add] 62)).heap[w.heap.size]?=some (.cells #[.int .i64 e.t,.int .u32 e.u,.int .u32 e.v,.bool e.add] 62 (0,0)):=heap_alloc_new w _;obtain⟨w1,GK⟩:∃ w1,w1=w.alloc (.cells #[.int .i64 e.t,.int .u32 e.u,.int .u32 e.v,.bool e.add] 62):=⟨_,rfl⟩;rw[← GK]at g1 b1 ⊢;have keep:∀ w',w1.grownBy w' none->w'.heap[w.heap.size]?=some (.cells #[.int .i64 e.t,.int .u32 e.u,.int .u32 e.v,.bool e.add] 62 (0,0)):=fun w' g=>by rw[g.block _ (Array.getElem?_eq_some_iff.1 b1).1 (by simp)];exact b1
  have getD':∀ t (h:t<l.length),l.getD t ⟨0,0,0,false⟩=l[t]:=fun t h=>by simp[List.getD_eq_getElem?_getD,h]
  have UH:=oP l e l.length;refine⟨fun k w'=>k=(dh l e l.length:Int)/\w1.grownBy w' none,⟨fun m k w2=>∃ j:Nat,k=(j:Int)/\j<=l.length/\m=j/\dh l e l.length=dh l e j/\w1.grownBy w2 none,⟨_,l.length,by omega,Nat.le_refl _,rfl,rfl,aC _ _⟩,?_⟩,?_⟩
  · rintro m k w2 ⟨j,rfl,hj,rfl,hp,hg⟩;have gd:=aI hg;have tj:((m:Int)-1).toNat=m-1:=by omega
    rw[tj];refine⟨fun FX=>?_,fun hz=>⟨?_,gd⟩⟩
    · have b2:=keep _ gd;obtain⟨a,e1,e2,e3,e4,e5⟩:=ey ((hr.kept_none g1).kept_none gd) (show m-1<l.length by omega);refine⟨_,aB b2 0,_,aB b2 1,_,aB b2 2,_,aB b2 3,by omega,a,e1,by omega,by omega,_,e2,_,e3,_,e4,_,e5,?_⟩;refine(mC e l[m-1]).mono fun ev w3 hh=>?_;obtain⟨rfl,g3⟩:=hh;have Hb:dh l e m=if bN e l[m-1]=true then dh l e (m-1) else m:=by
        obtain⟨q,rfl⟩:∃ q,m=q+1:=⟨m-1,by omega⟩;rw[dh,getD' q (by omega)];rfl
      refine⟨_,rfl,fun h=>⟨by omega,m-1,by omega,m-1,by omega,by omega,rfl,by rw[hp,Hb,if_pos h],aA gd g3⟩,fun h=>⟨by rw[hp,Hb,if_neg (by rw[h];simp)],aA gd g3⟩⟩
    · have:m=0:=by omega
      subst this;rw[hp];rfl
  · rintro k w3 ⟨rfl,g3⟩;have IZ:jf l e=if 0<dh l e l.length/\(l.getD (dh l e l.length-1) ⟨0,0,0,false⟩).t=e.t/\(l.getD (dh l e l.length-1) ⟨0,0,0,false⟩).u=e.u/\(l.getD (dh l e l.length-1) ⟨0,0,0,false⟩).v=e.v then l else l.take (dh l e l.length)++(e ::l.drop (dh l e l.length)):=rfl;generalize dh l e l.length=k at *;have tk:(k:Int).toNat=k:=by omega
    have tk1:((k:Int)-1).toNat=k-1:=by omega
    rw[tk,tk1];have gd:=aI g3;have b3:=keep _ gd;refine⟨fun q w'=>q=decide (0<k/\(l.getD (k-1) ⟨0,0,0,false⟩).t=e.t/\(l.getD (k-1) ⟨0,0,0,false⟩).u=e.u/\(l.getD (k-1) ⟨0,0,0,false⟩).v=e.v)/\w1.grownBy w' none,⟨fun FX=>?_,fun hz=>⟨by simp;omega,gd⟩⟩,?_⟩
    · obtain⟨a,e1,e2,e3,e4,e5⟩:=ey ((hr.kept_none g1).kept_none gd) (show k-1<l.length by omega);refine⟨by omega,a,e1,by omega,by omega,_,e2,_,aB b3 0,fun ht=>⟨by omega,a,e1,by omega,by omega,_,e3,_,by rw[fl];exact e4,_,aB b3 1,_,aB b3 2,_,fun w=>Bo _ _ _ _ _ _ w,?_,gd⟩,fun ht=>⟨?_,gd⟩⟩
      · rw[getD' (k-1) (by omega),decide_eq_decide];exact⟨fun h=>⟨by omega,ht,h.1,h.2⟩,fun h=>h.2.2⟩
      · rw[getD' (k-1) (by omega)]
        symm;rw[decide_eq_false_iff_not]
        exact fun h=>ht h.2.1
    · rintro q w4 ⟨hq,g4⟩;refine⟨fun h=>?_,fun h=>?_⟩
      · rw[h]at hq;rw[IZ,if_pos (of_decide_eq_true hq.symm)];exact⟨_,_,_,rfl,ho.kept (aA g1 g4),aA g1 g4⟩
      · rw[h]at hq;rw[IZ,if_neg (of_decide_eq_false hq.symm)];have gd:=aI g4;have g0d:=aA g1 gd;have rd:=hr.kept_none g0d;refine⟨fun w'=>w1.grownBy w' none,gd,⟨⟨by omega,by omega⟩,?_⟩,⟨⟨by omega,by omega⟩,?_⟩⟩
        · obtain⟨A5,n5,c5,w5,f1,f2,f3,f4⟩:=eh (n:=0) (c:=0) (A:=none) (xs:=[]) (aE.nil w4.drew w4.drew.heap.size 62 4) (m:=k) (d:=c) (qJ rd k) (by rw[List.length_take];omega) hA (by omega) (Nat.le_refl _);have g5:w4.drew.grownBy w5 none:=aN (aC w4.drew none) f3 (fun k hk=>by simp[Value.ownBlock]at hk);rw[List.nil_append]at f2;have Kk:=aA gd g5;have ga:=World.grownBy_alloc w5 (.cells #[.int .i64 e.t,.int .u32 e.u,.int .u32 e.v,.bool e.add] 62) none;have ra:aZ (w5.alloc (.cells #[.int .i64 e.t,.int .u32 e.u,.int .u32 e.v,.bool e.add] 62)) (some ⟨w5.heap.size,0,none⟩) (cE [e]):=dg w5 _ 62;obtain⟨A6,n6,c6,w6,p1,p2,p3,p4⟩:=eh (f2.kept ga) (m:=1) (d:=1) ra rfl (fun h=>by cases h) (by omega) (Nat.le_trans g5.size ga.size);have Sa:=aA g5 ga;have g6:=aN Sa p3 f2.block_ge;obtain⟨r7,d7⟩:=CG (k:=k) (rd.kept_none g6) hA (by omega);obtain⟨A7,n7,c7,w7,q1,q2,q3,q4⟩:=eh p2 (m:=n-k) (d:=c-k) r7 (by rw[List.length_drop];omega) d7 (by omega) g6.size;have g7:=aN g6 q3 p2.block_ge;exact⟨_,_,_,w5,f1,Kk,_,fun w' h=>aB (keep w' h) 0,_,fun w' h=>aB (keep w' h) 1,_,fun w' h=>aB (keep w' h) 2,_,fun w' h=>aB (keep w' h) 3,aA Kk ga,_,_,_,w6,p1,aA gd g6,⟨by omega,by omega⟩,_,_,_,w7,q1,aA gd g7,_,_,_,rfl,by simpa using q2.mono (Nat.le_trans hb g0d.size),aA g0d g7⟩
        · refine⟨_,fun w' h=>aB (keep w' h) 0,_,fun w' h=>aB (keep w' h) 1,_,fun w' h=>aB (keep w' h) 2,_,fun w' h=>aB (keep w' h) 3,?_⟩;have ga:=World.grownBy_alloc w4.drew (.cells #[.int .i64 e.t,.int .u32 e.u,.int .u32 e.v,.bool e.add] 62) none;have ra:aZ (w4.drew.alloc (.cells #[.int .i64 e.t,.int .u32 e.u,.int .u32 e.v,.bool e.add] 62)) (some ⟨w4.drew.heap.size,0,none⟩) (cE [e]):=dg w4.drew _ 62;obtain⟨wa,LO⟩:∃ wa,wa=w4.drew.alloc (.cells #[.int .i64 e.t,.int .u32 e.u,.int .u32 e.v,.bool e.add] 62):=⟨_,rfl⟩;show(fun w'=>w1.grownBy w' none) (w4.drew.alloc (.cells #[.int .i64 e.t,.int .u32 e.u,.int .u32 e.v,.bool e.add] 62))/\_;rw[← LO]at ga ra ⊢;obtain⟨A5,n5,c5,w5,f1,f2,f3,f4⟩:=eh (n:=0) (c:=0) (A:=none) (xs:=[]) (aE.nil wa wa.heap.size 62 4) (m:=k) (d:=c) (qJ (rd.kept_none ga) k) (by rw[List.length_take];omega) hA (by omega) (Nat.le_refl _);have g5:wa.grownBy w5 none:=aN (aC wa none) f3 (fun k hk=>by simp[Value.ownBlock]at hk);rw[List.nil_append]at f2;obtain⟨A6,n6,c6,w6,p1,p2,p3,p4⟩:=eh f2 (m:=1) (d:=1) (ra.kept_none g5) rfl (fun h=>by cases h) (by omega) g5.size;have g6:=aN g5 p3 f2.block_ge;obtain⟨r7,d7⟩:=CG (k:=k) ((rd.kept_none ga).kept_none g6) hA (by omega);obtain⟨A7,n7,c7,w7,q1,q2,q3,q4⟩:=eh p2 (m:=n-k) (d:=c-k) r7 (by rw[List.length_drop];omega) d7 (by omega) g6.size;have g7:=aN g6 q3 p2.block_ge;have g1a:=aA gd ga;exact⟨g1a,_,_,_,w5,f1,aA g1a g5,_,_,_,w6,p1,aA g1a g6,⟨by omega,by omega⟩,_,_,_,w7,q1,aA g1a g7,_,_,_,rfl,by simpa using q2.mono (Nat.le_trans hb (Nat.le_trans g0d.size ga.size)),aA g0d (aA ga g7)⟩
def kK(t a:Int):Int:=if a>240 then t+a % 4+2^(a % 40).toNat else t+a % 4
def mF(n a b c t:Int)(ts:List aS):List aS:=if(du b c n).2=true then jf ts ⟨kK t a,(du b c n).1.1,(du b c n).1.2,false⟩ else ts
def cC(n:Int):List Int->Int->List aS->List aS
 | a ::b ::c ::l,t,ts=>if ts.length<40 then cC n l (kK t a) (mF n a b c t ts) else ts
 | _,_,ts=>ts
def gy:List aS->List Edge->List aS
 | [],_=>[]
 | e ::l,now=>⟨e.t,e.u,e.v,!decide ((e.u,e.v)∈now)⟩ ::gy l ((ct now ⟨e.t,e.u,e.v,!decide ((e.u,e.v)∈now)⟩).getD [])
def iJ(k:Int)(l:List Int):List aS:=gy (cC (kh k) l (k % 3) []) []
theorem y6{a b n:Int}(ha:0<=a)(hb:0<=b)(hn:2<=n/\n<=4294967296)(h:(du a b n).2=true):0<=(du a b n).1.1/\(du a b n).1.1<(du a b n).1.2/\(du a b n).1.2<n:=by
 have ua:=pQ (most:=230) ha hn;have ub:=pQ (most:=240) hb hn;unfold du at h ⊢;split at h
 ·cases h
 ·rename_i FS;rw[if_neg FS];simp only[mn,mx];split <;>split <;>omega
theorem uH(l:List aS)(e:aS):(jf l e).length<=l.length+1:=by
 unfold jf;split
 ·omega
 ·simp only[List.length_append,List.length_cons,List.length_take,List.length_drop];omega
theorem yM{l:List aS}{e x:aS}(h:x∈jf l e):x∈l∨x=e:=by
 unfold jf at h;split at h
 ·exact .inl h
 ·rcases List.mem_append.1 h with q | q
  ·exact .inl (List.mem_of_mem_take q)
  ·rcases List.mem_cons.1 q with q | q
   ·exact .inr q
   ·exact .inl (List.mem_of_mem_drop q)
theorem pP(n a b c t:Int)(ts:List aS):(mF n a b c t ts).length<=ts.length+1:=by
 unfold mF;split
 ·exact uH _ _
 ·omega
theorem jU(n:Int):∀(l:List Int)(t:Int)(ts:List aS),ts.length<=40->(cC n l t ts).length<=40
 | a ::b ::c ::l,t,ts,h=>by
  rw[cC];split
  ·have:=pP n a b c t ts;exact jU n l _ _ (by omega)
  ·exact h
 | [],t,ts,h=>by simpa[cC]using h
 | [_],t,ts,h=>by simpa[cC]using h
 | [_,_],t,ts,h=>by simpa[cC]using h
theorem og:∀(l:List aS)(now:List Edge),(gy l now).length=l.length
 | [],_=>rfl
 | e ::l,now=>by rw[gy,List.length_cons,List.length_cons,og l]
theorem sT(k:Int)(l:List Int):(iJ k l).length<=40:=by
 rw[iJ,og];exact jU _ _ _ _ (by simp)
theorem vn{N t:Int}{ts:List aS}:∀(q:List Int),q.length<=2->cC N q t ts=ts
 | [],_=>by simp[cC]
 | [_],_=>by simp[cC]
 | [_,_],_=>by simp[cC]
 | _ ::_ ::_ ::_,h=>by simp at h
theorem vA {w:World} {A:OA} {n c:Nat} {l:List Int} {k:Int} (hr:aZ w A (bY l)) (hn:n=l.length) (hb:aW l) (hk:0<=k/\k<=255) (hl:n<=2^10) :
    Calls P 9 #[.int .u8 k,.slice A n c] w fun ev w'=>∃(A':OA)(n' c':Nat),ev=.returned (.agg #[.int .u64 (kh k),.slice A' n' c'])/\aE w' w.heap.size 62 4 A' n' c' (cE (iJ k l))/\w.grownBy w' none:=by
  apply vc9;dsimp only[VC9,Wt,Br,Bb,Rd,Rc,Rs,Ix,Ap,Ws,cI,cB,cS,nb,ad,al,iq]
  try simp only[aG]
  have hN:=pM k;have g0:=World.grownBy_alloc w (.cells #[.int .u64 0,.slice none 0 0] 25) none;have b0:(w.alloc (.cells #[.int .u64 0,.slice none 0 0] 25)).heap[w.heap.size]?=some (.cells #[.int .u64 0,.slice none 0 0] 25 (0,0)):=heap_alloc_new w _;obtain⟨w0,HZ⟩:∃ w0,w0=w.alloc (.cells #[.int .u64 0,.slice none 0 0] 25):=⟨_,rfl⟩;rw[← HZ]at g0 b0 ⊢;refine(tD hk).mono fun ev w1 hh=>?_;obtain⟨rfl,g1⟩:=hh;have OF:iJ k l=gy (cC (kh k) l (k % 3) []) []:=rfl;have NG:=jU (kh k) l (k % 3) [] (by simp);generalize kh k=N at *;refine⟨_,rfl,?_⟩;have ga:=World.grownBy_alloc w1 (.cells #[.int .u64 0,.slice none 0 0] 25) none;have s0:(w1.alloc (.cells #[.int .u64 0,.slice none 0 0] 25)).heap[w1.heap.size]?=some (.cells #[.int .u64 0,.slice none 0 0] 25 (0,0)):=heap_alloc_new w1 _;have s1:=aH s0 0 (.int .u64 N);have s2:=aH s1 1 (.slice none 0 0);have K2:Kp w1 (((w1.alloc (.cells #[.int .u64 0,.slice none 0 0] 25)).setCell ⟨w1.heap.size,0,none⟩ (.int .u64 N)).setCell ⟨w1.heap.size,1,none⟩ (.slice none 0 0)) (fun k=>w1.heap.size<=k):=cA (cA (Kp.of_none ga) (Nat.le_refl _)) (Nat.le_refl _);refine⟨⟨_,aB s0 0⟩,aD s0 0,⟨_,aB s1 1⟩,aD s1 1,⟨by omega,by omega⟩,by omega,?_⟩;obtain⟨w2,Ig⟩:∃ w2,w2=((w1.alloc (.cells #[.int .u64 0,.slice none 0 0] 25)).setCell ⟨w1.heap.size,0,none⟩ (.int .u64 N)).setCell ⟨w1.heap.size,1,none⟩ (.slice none 0 0):=⟨_,rfl⟩;rw[← Ig]at s2 K2 ⊢;replace s2:w2.heap[w1.heap.size]?=some (.cells #[.int .u64 N,.slice none 0 0] 25 (0,0)):=by simpa using s2
  have HA:w1.grownBy w2 none:=K2.grown (fun k hk e=>by omega);have Hg:=aA g0 g1;have GH:=aA Hg HA;have GX:w1.heap.size<w2.heap.size:=(Array.getElem?_eq_some_iff.1 s2).1;have keep:∀ w',w2.grownBy w' none->w'.heap[w1.heap.size]?=some (.cells #[.int .u64 N,.slice none 0 0] 25 (0,0)):=fun w' g=>by rw[g.block _ GX (by simp)];exact s2
  have rd:∀(w':World)(p:Nat),w2.grownBy w' none->(h:p<l.length)->∃ a,A=some a/\w'.cell? (a.add p)=some (.int .u8 l[p]):=fun w' p g h=>((hr.kept_none GH).kept_none g) p (.int .u8 l[p]) (by simp[h]);refine⟨fun tA tn tc w'=>aE w' w.heap.size 62 4 tA tn tc (cE (cC N l (k % 3) []))/\w2.grownBy w' none,⟨fun m t tA tn tc i w'=>∃(p:Nat)(ts:List aS),i=(p:Int)/\p<=l.length+2/\m=l.length+3-p/\aE w' w.heap.size 62 4 tA tn tc (cE ts)/\ts.length<=40/\0<=t/\t<=(p:Int)*2199023255552+2/\cC N l (k % 3) []=cC N (l.drop p) t ts/\w2.grownBy w' none,
    ⟨_,0,[],rfl,by omega,rfl,aE.nil _ _ _ _,by simp,by omega,by omega,by simp,aC _ _⟩,?_⟩,?_⟩
  · rintro m t tA tn tc i w3 ⟨p,ts,rfl,hp,rfl,ho,Jj,MR,Xa,MQ,hg⟩;have tp:(p:Int).toNat=p:=by omega
    have tp1:((p:Int)+1).toNat=p+1:=by omega
    have tp2:((p:Int)+2).toNat=p+2:=by omega
    rw[tp,tp1,tp2];have LS:tn=ts.length:=by have:=ho.cases.1;rw[dR]at this;omega
    refine⟨by omega,fun FP=>⟨fun WL=>?_,fun WL=>?_⟩,fun FU=>?_⟩
    · have lp:p+2<l.length:=by omega
      have Gn:l.drop p=l[p] ::l[p+1] ::l[p+2] ::l.drop (p+3):=by
        rw[List.drop_eq_getElem_cons (show p<l.length by omega),List.drop_eq_getElem_cons (show p+1<l.length by omega),List.drop_eq_getElem_cons (show p+1+1<l.length by omega)]
      rw[Gn,cC,if_pos (by omega)]at MQ;obtain⟨a,e1,e2⟩:=rd w3 p hg (by omega);have hx:=hb _ (List.getElem_mem (show p<l.length by omega));have hy:=hb _ (List.getElem_mem (show p+1<l.length by omega));have hz:=hb _ (List.getElem_mem (show p+2<l.length by omega));have QA:(2:Int)^(l[p] % 40).toNat<=549755813888/\0<(2:Int)^(l[p] % 40).toNat:=by
        have:=Nat.pow_le_pow_right (n:=2) (by omega) (show(l[p] % 40).toNat<=39 by omega);have:=Nat.two_pow_pos (l[p] % 40).toNat;have e:((2^(l[p] % 40).toNat:Nat):Int)=2^(l[p] % 40).toNat:=by simp
        omega
      refine⟨a,e1,by omega,by omega,_,e2,⟨by omega,by omega⟩,by omega,by omega,fun t1 w'=>t1=kK t l[p]/\w'=w3,⟨a,e1,by omega,by omega,_,e2,fun ML=>⟨a,e1,by omega,by omega,_,e2,⟨by omega,by omega⟩,⟨by omega,?_⟩,?_,?_,rfl⟩,fun ML=>⟨by unfold kK;rw[if_neg ML],rfl⟩⟩,?_⟩
      · rw[show min (l[p] % 40).toNat 64=(l[p] % 40).toNat by omega];omega
      · rw[show min (l[p] % 40).toNat 64=(l[p] % 40).toNat by omega];omega
      · rw[show min (l[p] % 40).toNat 64=(l[p] % 40).toNat by omega];unfold kK;rw[if_pos ML];omega
      rintro t1 w4 ⟨ht,HY⟩;rw[HY];clear HY;have Sn:0<=t1/\t1<=((p+3:Nat):Int)*2199023255552+2:=by rw[ht];unfold kK;split <;>omega
      have gd:=aI hg;obtain⟨a1,q1,q2⟩:=rd w3.drew (p+1) gd (by omega);obtain⟨a2,q3,q4⟩:=rd w3.drew (p+2) gd (by omega);have rdC:∀(p':Nat)(h:p'<l.length)(b:Addr),A=some b->∀ wq,w2.grownBy wq none->wq.cell? (b.add p')=some (.int .u8 l[p']):=fun p' h b Hv wq gq=>by
        obtain⟨b',r1,r2⟩:=rd wq p' gq h;rw[Hv]at r1;cases r1;exact r2
      have fin:∀(W:World)(g:Nat),w2.grownBy W none->aE W w.heap.size 62 4 tA tn tc (cE ts)->W.heap[g]?=some (.cells #[.int .u32 (du l[p+1] l[p+2] N).1.1,.int .u32 (du l[p+1] l[p+2] N).1.2] 45 (0,0)) →
          ∃ J:OA->Nat->Nat->World->Prop,(((du l[p+1] l[p+2] N).2=true->∃ x,W.cell? ⟨g,0,none⟩=some (.int .u32 x)/\∃ y,W.cell? ⟨g,1,none⟩=some (.int .u32 y)/\Calls P 28 #[.slice tA tn tc,.agg #[.int .i64 t1,.int .u32 x,.int .u32 y,.bool false]] W fun ev w5=>∃(X:OA)(xn xc:Nat),ev=.returned (.slice X xn xc)/\J X xn xc w5)/\((du l[p+1] l[p+2] N).2=false->J tA tn tc W)) ∧
          ∀(X:OA)(xn xc:Nat)(w6:World),J X xn xc w6->(-9223372036854775808<=(p:Int)+3/\(p:Int)+3<=9223372036854775807)/\∃ m_1,m_1<l.length+3-p/\∃(p':Nat)(ts':List aS),(p:Int)+3=(p':Int)/\p'<=l.length+2/\m_1=l.length+3-p'/\aE w6 w.heap.size 62 4 X xn xc (cE ts')/\ts'.length<=40/\0<=t1/\t1<=(p':Int)*2199023255552+2/\cC N l (k % 3) []=cC N (l.drop p') t1 ts'/\w2.grownBy w6 none:=by
        intro W g gW oW bW;have PE:=pP N l[p] l[p+1] l[p+2] t ts;refine⟨fun X xn xc w6=>aE w6 w.heap.size 62 4 X xn xc (cE (mF N l[p] l[p+1] l[p+2] t ts))/\w2.grownBy w6 none,⟨fun hok=>⟨_,aB bW 0,_,aB bW 1,?_⟩,fun hok=>⟨?_,gW⟩⟩,?_⟩
        · refine(xt (e:=⟨t1,(du l[p+1] l[p+2] N).1.1,(du l[p+1] l[p+2] N).1.2,false⟩) oW (Nat.le_trans GH.size gW.size) (by omega)).mono fun ev w5 hh=>?_;obtain⟨X,xn,xc,rfl,oX,g5⟩:=hh;refine⟨_,_,_,rfl,?_,aA gW g5⟩;have:mF N l[p] l[p+1] l[p+2] t ts=jf ts ⟨t1,(du l[p+1] l[p+2] N).1.1,(du l[p+1] l[p+2] N).1.2,false⟩:=by unfold mF;rw[if_pos hok,ht]
          rw[this];exact oX
        · have:mF N l[p] l[p+1] l[p+2] t ts=ts:=by unfold mF;rw[if_neg (by rw[hok];simp)]
          rw[this];exact oW
        · rintro X xn xc w6 ⟨oX,g6⟩;exact⟨by omega,l.length+3-(p+3),by omega,p+3,_,by omega,by omega,rfl,oX,by omega,Sn.1,Sn.2,by rw[MQ,ht],g6⟩
      refine⟨fun w'=>w2.grownBy w' none,gd,⟨by omega,a1,q1,by omega,by omega,_,fun wq gq=>rdC (p+1) (by omega) a1 q1 wq gq,by omega,a2,q3,by omega,by omega,_,fun wq gq=>rdC (p+2) (by omega) a2 q3 wq gq,_,fun wq gq=>aB (keep wq gq) 0,?_⟩,⟨by omega,a1,q1,by omega,by omega,_,fun wq gq=>rdC (p+1) (by omega) a1 q1 wq gq,by omega,a2,q3,by omega,by omega,_,fun wq gq=>rdC (p+2) (by omega) a2 q3 wq gq,_,fun wq gq=>aB (keep wq gq) 0,?_⟩⟩
      · refine(np hy hz hN).mono fun ev w5 hh=>?_;obtain⟨rfl,g5⟩:=hh;have gd5:=aA gd g5;have gE:=World.grownBy_alloc w5 (.cells #[.int .u32 0,.int .u32 0] 45) none;have t0:(w5.alloc (.cells #[.int .u32 0,.int .u32 0] 45)).heap[w5.heap.size]?=some (.cells #[.int .u32 0,.int .u32 0] 45 (0,0)):=heap_alloc_new w5 _;have t1':=aH t0 0 (.int .u32 (du l[p+1] l[p+2] N).1.1);have t2:=aH t1' 1 (.int .u32 (du l[p+1] l[p+2] N).1.2);have gS:w5.grownBy (((w5.alloc (.cells #[.int .u32 0,.int .u32 0] 45)).setCell ⟨w5.heap.size,0,none⟩ (.int .u32 (du l[p+1] l[p+2] N).1.1)).setCell ⟨w5.heap.size,1,none⟩ (.int .u32 (du l[p+1] l[p+2] N).1.2)) none:=(cA (cA (Kp.of_none (S:=fun k=>w5.heap.size<=k) gE) (Nat.le_refl _)) (Nat.le_refl _)).grown (fun k hk e=>by omega);have gA:=aA gd5 gS;exact⟨_,_,_,rfl,gd5,aA gd5 gE,⟨_,aB t0 0⟩,aD t0 0,⟨_,aB t1' 1⟩,aD t1' 1,gA,fin _ _ gA (ho.kept (aA (aA (aI (aC w3 none)) g5) gS)) (by simpa using t2)⟩
      · have gE:=World.grownBy_alloc w3.drew (.cells #[.int .u32 0,.int .u32 0] 45) none;have t0:(w3.drew.alloc (.cells #[.int .u32 0,.int .u32 0] 45)).heap[w3.drew.heap.size]?=some (.cells #[.int .u32 0,.int .u32 0] 45 (0,0)):=heap_alloc_new w3.drew _;refine⟨aA gd gE,(np hy hz hN).mono fun ev w7 hh=>?_⟩;obtain⟨rfl,g7⟩:=hh;have gd7:=aA (aA gd gE) g7;have t0':w7.heap[w3.drew.heap.size]?=some (.cells #[.int .u32 0,.int .u32 0] 45 (0,0)):=by rw[g7.block _ (Array.getElem?_eq_some_iff.1 t0).1 (by simp)];exact t0
        have t1':=aH t0' 0 (.int .u32 (du l[p+1] l[p+2] N).1.1);have t2:=aH t1' 1 (.int .u32 (du l[p+1] l[p+2] N).1.2);have gS:w3.drew.grownBy ((w7.setCell ⟨w3.drew.heap.size,0,none⟩ (.int .u32 (du l[p+1] l[p+2] N).1.1)).setCell ⟨w3.drew.heap.size,1,none⟩ (.int .u32 (du l[p+1] l[p+2] N).1.2)) none:=(cA (cA (Kp.of_none (S:=fun k=>w3.drew.heap.size<=k) (aA gE g7)) (Nat.le_refl _)) (Nat.le_refl _)).grown (fun k hk e=>by omega);have gA:=aA gd gS;exact⟨_,_,_,rfl,gd7,⟨_,aB t0' 0⟩,aD t0' 0,⟨_,aB t1' 1⟩,aD t1' 1,gA,fin _ _ gA (ho.kept (aA (aI (aC w3 none)) gS)) (by simpa using t2)⟩
    · have lp:p+2<l.length:=by omega
      have Gn:l.drop p=l[p] ::l[p+1] ::l[p+2] ::l.drop (p+3):=by
        rw[List.drop_eq_getElem_cons (show p<l.length by omega),List.drop_eq_getElem_cons (show p+1<l.length by omega),List.drop_eq_getElem_cons (show p+1+1<l.length by omega)]
      rw[Gn,cC,if_neg (by omega)]at MQ;rw[MQ];exact⟨ho,hg⟩
    · rw[vn (l.drop p) (by rw[List.length_drop];omega)]at MQ;rw[MQ];exact⟨ho,hg⟩
  · rintro tA tn tc Gd ⟨oT,HB⟩;generalize cC N l (k % 3) []=ts at *;have PC:ts.length<=40:=NG;have LS:tn=ts.length:=by have:=oT.cases.1;rw[dR]at this;omega
    have P6:=keep Gd HB;have Pu:=aA GH HB;have l10:w1.heap.size<Gd.heap.size:=Nat.lt_of_lt_of_le GX HB.size;have bw10:Gd.heap[w.heap.size]?=some (.cells #[.int .u64 0,.slice none 0 0] 25 (0,0)):=by
      rw[(aA g1 (aA HA HB)).block _ (Array.getElem?_eq_some_iff.1 b0).1 (by simp)];exact b0
    have lw0:w.heap.size<w1.heap.size:=Nat.lt_of_lt_of_le (Array.getElem?_eq_some_iff.1 b0).1 g1.size;refine⟨fun m nA nn nc i w'=>∃(j:Nat)(now:List Edge)(out:List aS)(hA:OA)(hn hc:Nat),i=(j:Int)/\j<=ts.length/\m=ts.length-j/\aE w' Gd.heap.size 45 2 nA nn nc (edges now)/\now.length<=j/\aE w' Gd.heap.size 62 4 hA hn hc (cE out)/\out.length=j/\gy ts []=out++gy (ts.drop j) now/\w'.heap[w1.heap.size]?=some (.cells #[.int .u64 N,.slice hA hn hc] 25 (0,0))/\Kp Gd w' (fun q=>q=w1.heap.size∨Gd.heap.size<=q),
      ⟨_,0,[],[],none,0,0,rfl,by omega,rfl,aE.nil _ _ _ _,by simp,aE.nil _ _ _ _,rfl,by simp,P6,Kp.refl _ _⟩,?_⟩
    rintro m nA nn nc i GC ⟨j,now,out,hA,GG,Kb,rfl,hj,rfl,oN,II,oH,Hh,Hw,bH,K11⟩;have tj:(j:Int).toNat=j:=by omega
    rw[tj];have Iy:nn=now.length:=by have:=oN.cases.1;rw[dk]at this;omega
    have Xq:GG=out.length:=by have:=oH.cases.1;rw[dR]at this;omega
    have lH:=(Array.getElem?_eq_some_iff.1 bH).1;refine⟨fun FP=>?_,fun FU=>?_⟩
    · have lj:j<ts.length:=by omega
      rw[List.drop_eq_getElem_cons lj,gy]at Hw;have oT11:=oT.kp K11 (fun q hq e=>by
        rcases e with e | e
        · obtain⟨cur,h⟩:=oT.block_type q hq;rw[e,P6]at h;cases h
        · have:=oT.block_lt q hq;omega)
      obtain⟨a,e1,e2,e3,e4,e5⟩:=ey oT11.row lj;have ga:=World.grownBy_alloc GC (.cells #[.int .i64 0,.int .u32 0,.int .u32 0,.bool false] 62) none;have s0:(GC.alloc (.cells #[.int .i64 0,.int .u32 0,.int .u32 0,.bool false] 62)).heap[GC.heap.size]?=some (.cells #[.int .i64 0,.int .u32 0,.int .u32 0,.bool false] 62 (0,0)):=heap_alloc_new GC _;obtain⟨wa,LO⟩:∃ wa,wa=GC.alloc (.cells #[.int .i64 0,.int .u32 0,.int .u32 0,.bool false] 62):=⟨_,rfl⟩;rw[← LO]at ga s0 ⊢;have s1:=aH s0 0 (.int .i64 ts[j].t);have s2':=aH s1 1 (.int .u32 ts[j].u);have s3:=aH s2' 2 (.int .u32 ts[j].v);have s4:=aH s3 3 (.bool ts[j].add);have K4:Kp GC ((((wa.setCell ⟨GC.heap.size,0,none⟩ (.int .i64 ts[j].t)).setCell ⟨GC.heap.size,1,none⟩ (.int .u32 ts[j].u)).setCell ⟨GC.heap.size,2,none⟩ (.int .u32 ts[j].v)).setCell ⟨GC.heap.size,3,none⟩ (.bool ts[j].add)) (fun k=>GC.heap.size<=k):=cA (cA (cA (cA (Kp.of_none ga) (Nat.le_refl _)) (Nat.le_refl _)) (Nat.le_refl _)) (Nat.le_refl _);refine⟨a,e1,by omega,by omega,_,e2,_,e3,_,e4,_,e5,⟨_,aB s0 0⟩,aD s0 0,⟨_,aB s1 1⟩,aD s1 1,⟨_,aB s2' 2⟩,aD s2' 2,⟨_,aB s3 3⟩,aD s3 3,?_⟩;obtain⟨w4,HY⟩:∃ w4,w4=(((wa.setCell ⟨GC.heap.size,0,none⟩ (.int .i64 ts[j].t)).setCell ⟨GC.heap.size,1,none⟩ (.int .u32 ts[j].u)).setCell ⟨GC.heap.size,2,none⟩ (.int .u32 ts[j].v)).setCell ⟨GC.heap.size,3,none⟩ (.bool ts[j].add):=⟨_,rfl⟩;rw[← HY]at s4 K4 ⊢;replace s4:w4.heap[GC.heap.size]?=some (.cells #[.int .i64 ts[j].t,.int .u32 ts[j].u,.int .u32 ts[j].v,.bool ts[j].add] 62 (0,0)):=by simpa using s4
      have LJ:GC.grownBy w4 none:=K4.grown (fun k hk e=>by omega);refine⟨_,aB s4 1,_,aB s4 2,?_⟩;refine(wu (e:=(ts[j].u,ts[j].v)) (oN.kept LJ).row Iy (by omega)).mono fun ev HM hh=>?_;obtain⟨rfl,g12'⟩:=hh;have s5:HM.heap[GC.heap.size]?=some (.cells #[.int .i64 ts[j].t,.int .u32 ts[j].u,.int .u32 ts[j].v,.bool ts[j].add] 62 (0,0)):=by rw[g12'.block _ (Array.getElem?_eq_some_iff.1 s4).1 (by simp)];exact s4
      have s6:=aH s5 3 (.bool (decide (decide ((ts[j].u,ts[j].v)∈now)=false)));have gS:GC.grownBy (HM.setCell ⟨GC.heap.size,3,none⟩ (.bool (decide (decide ((ts[j].u,ts[j].v)∈now)=false)))) none:=(cA (Kp.of_none (S:=fun k=>GC.heap.size<=k) (aA LJ g12')) (Nat.le_refl _)).grown (fun k hk e=>by omega);refine⟨_,rfl,⟨_,aB s5 3⟩,aD s5 3,_,aB s6 0,_,aB s6 1,_,aB s6 2,_,aB s6 3,?_⟩;have QI:decide (decide ((ts[j].u,ts[j].v)∈now)=false)=!decide ((ts[j].u,ts[j].v)∈now):=by cases decide ((ts[j].u,ts[j].v)∈now) <;>rfl
      rw[QI]at s6 gS ⊢;obtain⟨wb,Ua⟩:∃ wb,wb=HM.setCell ⟨GC.heap.size,3,none⟩ (.bool (!decide ((ts[j].u,ts[j].v)∈now))):=⟨_,rfl⟩;rw[← Ua]at s6 gS ⊢;replace s6:wb.heap[GC.heap.size]?=some (.cells #[.int .i64 ts[j].t,.int .u32 ts[j].u,.int .u32 ts[j].v,.bool (!decide ((ts[j].u,ts[j].v)∈now))] 62 (0,0)):=by simpa using s6
      have oNb:=oN.kept gS;refine(jT (e:=⟨ts[j].t,ts[j].u,ts[j].v,!decide ((ts[j].u,ts[j].v)∈now)⟩) oNb.row Iy (kX oNb) (cY oNb) (by omega)).mono fun ev HC hh=>?_;obtain⟨X,xn,xc,rfl,oX,Gu⟩:=hh;have Kl:=aA gS Gu;have s7:HC.heap[GC.heap.size]?=some (.cells #[.int .i64 ts[j].t,.int .u32 ts[j].u,.int .u32 ts[j].v,.bool (!decide ((ts[j].u,ts[j].v)∈now))] 62 (0,0)):=by rw[Gu.block _ (Array.getElem?_eq_some_iff.1 s6).1 (by simp)];exact s6
      have bH13:HC.heap[w1.heap.size]?=some (.cells #[.int .u64 N,.slice hA GG Kb] 25 (0,0)):=by rw[Kl.block _ lH (by simp)];exact bH
      have gal:=World.grownBy_alloc HC (.cells #[.int .i64 ts[j].t,.int .u32 ts[j].u,.int .u32 ts[j].v,.bool (!decide ((ts[j].u,ts[j].v)∈now))] 62) none;have ra:aZ (HC.alloc (.cells #[.int .i64 ts[j].t,.int .u32 ts[j].u,.int .u32 ts[j].v,.bool (!decide ((ts[j].u,ts[j].v)∈now))] 62)) (some ⟨HC.heap.size,0,none⟩) (cE [⟨ts[j].t,ts[j].u,ts[j].v,!decide ((ts[j].u,ts[j].v)∈now)⟩]):=dg HC _ 62;have gfull:=aA Kl gal;have sz:=K11.size;obtain⟨C,cn,cc,LL,p1,p2,p3,p4⟩:=eh (oH.kept gfull) (m:=1) (d:=1) ra rfl (fun h=>by cases h) (by omega) (Nat.le_trans sz gfull.size);have bH14:LL.heap[w1.heap.size]?=some (.cells #[.int .u64 N,.slice hA GG Kb] 25 (0,0)):=by
        rw[p3.block _ (Nat.lt_of_lt_of_le lH gfull.size) (fun e=>by have:=oH.block_ge _ e.symm;omega),gal.block _ (Nat.lt_of_lt_of_le lH Kl.size) (by simp)];exact bH13
      have bH15:=aH bH14 1 (.slice C cn cc);have LN:((ct now ⟨ts[j].t,ts[j].u,ts[j].v,!decide ((ts[j].u,ts[j].v)∈now)⟩).getD []).length<=now.length+1:=by
        cases h:ct now ⟨ts[j].t,ts[j].u,ts[j].v,!decide ((ts[j].u,ts[j].v)∈now)⟩with
        | none=>simp
        | some x=>exact nL h
      have KS:Kp LL (LL.setCell ⟨w1.heap.size,1,none⟩ (.slice C cn cc)) (fun q=>q=w1.heap.size):=cA (Kp.refl LL _) rfl;have oX14:=(oX.kept gal).apart p3 (jn (oX.kept gal) (oH.kept gfull) (by decide));refine⟨_,_,_,_,rfl,_,_,_,aB bH13 1,_,aB s7 0,_,aB s7 1,_,aB s7 2,_,aB s7 3,C,cn,cc,LL,p1,⟨_,aB bH14 1⟩,aD bH14 1,by omega,ts.length-(j+1),by omega,j+1,_,_,C,cn,cc,by omega,by omega,rfl,(oX14.mono (Nat.le_trans sz gS.size)).kp KS (fun q hq e=>by have:=oX14.block_ge q hq;have:=gS.size;omega),by omega,p2.kp KS (fun q hq e=>by have:=p2.block_ge q hq;omega),by simp;omega,?_,by simpa using bH15,(((K11.step gfull (fun k hk=>by cases hk)).step p3 (fun k hk=>.inr (.inr (oH.block_ge k hk)))).then KS (fun q _ e=>.inl e))⟩;rw[Hw];simp
    · have e:j=ts.length:=by omega
      subst e;rw[List.drop_length]at Hw;have bw:GC.heap[w.heap.size]?=some (.cells #[.int .u64 0,.slice none 0 0] 25 (0,0)):=by
        rw[K11.block _ (by omega) (by omega)];exact bw10
      have s1:=aH bw 0 (.int .u64 N);have s2':=aH s1 1 (.slice hA GG Kb);have KK:Kp w ((GC.setCell ⟨w.heap.size,0,none⟩ (.int .u64 N)).setCell ⟨w.heap.size,1,none⟩ (.slice hA GG Kb)) (fun q=>w.heap.size<=q):=cA (cA ((Kp.of_none Pu).then K11 (fun q hq e=>by omega)) (Nat.le_refl _)) (Nat.le_refl _);refine⟨_,aB bH 0,_,_,_,aB bH 1,⟨_,aB bw 0⟩,aD bw 0,⟨_,aB s1 1⟩,aD s1 1,_,aB s2' 0,_,_,_,aB s2' 1,_,_,_,rfl,?_,KK.grown (fun q hq e=>by omega)⟩;have hx:iJ k l=out:=by rw[OF,Hw];simp[gy]
      rw[hx];exact(aE.kp oH (cA (cA (Kp.refl GC (fun q=>q=w.heap.size)) rfl) rfl) (fun q hq e=>by have:=oH.block_ge q hq;omega)).mono Pu.size
def fZ(l:List Edge):Prop:=l.Pairwise fun a b=>aM a b=true
theorem dI{a b:Edge}:aM a b=true↔a.1<b.1∨a.1=b.1/\a.2<b.2:=by simp[aM]
theorem mX{a b c:Edge}(h:aM a b=true)(k:aM b c=true):aM a c=true:=by
 rw[dI]at *;omega
theorem uz{a b:Edge}(h:aM a b=true):a≠b:=by
 rintro rfl;rw[dI]at h;omega
theorem sh{a b:Edge}(h:aM a b=false)(k:a≠b):aM b a=true:=by
 have h':¬ aM a b=true:=by rw[h];simp
 rw[dI]at *;obtain⟨a1,a2⟩:=a;obtain⟨b1,b2⟩:=b;simp only[ne_eq,Prod.mk.injEq]at k h' ⊢;omega
theorem yF{a b:Edge}(h:aM a b=true):aM b a=false:=by
 have:¬ aM b a=true:=by intro k;rw[dI]at *;omega
 simpa using this
theorem wU(e:Edge)(l:List Edge):fi (e ::l)=true↔(∀ x,l.head?=some x->aM e x=true)/\fi l=true:=by
 unfold fi;simp only[List.all_eq_true,List.mem_range,List.length_cons];constructor
 ·intro h;refine⟨fun x hx=>?_,fun i hi=>?_⟩
  ·cases l with
   | nil=>simp at hx
   | cons y l=>simp at hx;subst hx;simpa using h 0 (by simp)
  ·simpa using h (i+1) (by omega)
 ·rintro⟨h1,h2⟩ i hi;cases i with
  | zero =>
   cases l with
   | nil=>simp at hi
   | cons y l=>simpa using h1 y rfl
  | succ i=>simpa using h2 i (by omega)
theorem gU(l:List Edge):fi l=true↔fZ l:=by
 induction l with
 | nil=>simp[fi,fZ]
 | cons e l ih =>
  rw[wU,ih];unfold fZ;rw[List.pairwise_cons];constructor
  ·rintro⟨h1,h2⟩;refine⟨fun x hx=>?_,h2⟩;cases l with
   | nil=>simp at hx
   | cons y l =>
    have hy:=h1 y rfl;rcases List.mem_cons.1 hx with rfl | hx
    ·exact hy
    ·exact mX hy ((List.pairwise_cons.1 h2).1 x hx)
  ·rintro⟨h1,h2⟩;exact⟨fun x hx=>h1 x (List.mem_of_head? hx),h2⟩
theorem fZ.nodup{l:List Edge}(h:fZ l):l.Nodup:=h.imp (fun h=>uz h)
theorem fZ.ext{l m:List Edge}(hl:fZ l)(hm:fZ m)(h:∀ e,e∈l↔e∈m):l=m:=by
 induction l generalizing m with
 | nil =>
  cases m with
  | nil=>rfl
  | cons e m=>exact absurd ((h e).2 (by simp)) (by simp)
 | cons a l ih =>
  cases m with
  | nil=>exact absurd ((h a).1 (by simp)) (by simp)
  | cons b m =>
   have Ja:=List.pairwise_cons.1 hl;have PQ:=List.pairwise_cons.1 hm;have Ke:a=b:=by
    rcases List.mem_cons.1 ((h a).1 (by simp))with e | e
    ·exact e
    ·rcases List.mem_cons.1 ((h b).2 (by simp))with e' | e'
     ·exact e'.symm
     ·have h1:=PQ.1 a e;have h2:=Ja.1 b e';rw[yF h1]at h2;cases h2
   subst Ke;rw[ih Ja.2 PQ.2 fun e=>?_];constructor
   ·intro he;rcases List.mem_cons.1 ((h e).1 (by simp[he]))with e' | e'
    ·subst e';exact absurd rfl (uz (Ja.1 e he))
    ·exact e'
   ·intro he;rcases List.mem_cons.1 ((h e).2 (by simp[he]))with e' | e'
    ·subst e';exact absurd rfl (uz (PQ.1 e he))
    ·exact e'
theorem B8(l:List Edge)(e:Edge):l.take (lh l e)=l.takeWhile fun x=>aM x e:=by
 have h:=List.takeWhile_append_dropWhile (p:=fun x=>aM x e) (l:=l)
 conv=>lhs;rw[← h]
 unfold lh;exact List.take_left' (by rw[h])
theorem CE(l:List Edge)(e:Edge):l.drop (lh l e)=l.dropWhile fun x=>aM x e:=by
 have h:=List.takeWhile_append_dropWhile (p:=fun x=>aM x e) (l:=l)
 conv=>lhs;rw[← h]
 unfold lh;exact List.drop_left' (by rw[h])
theorem Dl{l:List Edge}{e:Edge}(h:fZ l)(he:e ∉ l):fZ (l.take (lh l e)++(e ::l.drop (lh l e))):=by
 rw[B8,CE];have h0:=h;rw[← List.takeWhile_append_dropWhile (p:=fun x=>aM x e) (l:=l)]at h0;obtain⟨h1,h2,h3⟩:=List.pairwise_append.1 h0;have FP:∀ a∈l.takeWhile (fun x=>aM x e),aM a e=true:=by
  have h:=List.all_takeWhile (p:=fun x=>aM x e) (l:=l);exact List.all_eq_true.1 h
 have GV:∀ a∈l.dropWhile (fun x=>aM x e),aM e a=true:=by
  intro a ha;have Gl:∀ a∈l.dropWhile (fun x=>aM x e),a∈l:=fun a ha=>List.dropWhile_sublist _ |>.mem ha;generalize hd:l.dropWhile (fun x=>aM x e)=d at *;cases d with
  | nil=>simp at ha
  | cons y d =>
   have hy:aM y e=false:=by
    have:=List.head?_dropWhile_not (fun x=>aM x e) l;rw[hd]at this;simpa using this
   have Sg:aM e y=true:=sh hy (fun h=>he (h▸Gl y (by simp)));rcases List.mem_cons.1 ha with rfl | ha
   ·exact Sg
   ·exact mX Sg ((List.pairwise_cons.1 h2).1 a ha)
 refine List.pairwise_append.2 ⟨h1,List.pairwise_cons.2 ⟨GV,h2⟩,fun a ha b hb=>?_⟩;rcases List.mem_cons.1 hb with rfl | hb
 ·exact FP a ha
 ·exact h3 a ha b hb
theorem EG{l:List Edge}{e x:Edge}:x∈l.take (lh l e)++(e ::l.drop (lh l e))↔x=e∨x∈l:=by
 have h:x∈l↔x∈l.take (lh l e)++l.drop (lh l e):=by rw[List.take_append_drop]
 rw[h,List.mem_append,List.mem_append,List.mem_cons];constructor <;>rintro(h | h | h) <;>simp[h]
theorem wA(l:List Edge)(e:Edge):l.take (l.idxOf e)++l.drop (l.idxOf e+1)=l.erase e:=by
 rw[← List.eraseIdx_eq_take_drop_succ,List.erase_eq_eraseIdx_of_idxOf (i:=l.idxOf e)];rfl
theorem nK{l:List Edge}(h:fZ l)(e:aS):ct l e=none↔e.add=decide ((e.u,e.v)∈l):=by
 unfold ct;rw[if_neg (by rw[(gU l).2 h];simp)];split
 ·simp_all
 ·rename_i FS;constructor
  ·intro h;split at h <;>cases h
  ·intro h;exact absurd h FS
theorem B6{l:List Edge}{e:aS}{x:List Edge}(hx:ct l e=some x):fZ l:=by
 unfold ct at hx;split at hx
 ·cases hx
 ·rename_i h;exact(gU l).1 (by simpa using h)
theorem fK{l:List Edge}{e:aS}{x:List Edge}(hx:ct l e=some x):fZ x/\(∀ a,a∈x↔if a=(e.u,e.v) then e.add=true else a∈l)/\(e.add=!decide ((e.u,e.v)∈l)):=by
 have h:=B6 hx;have FS:¬ e.add=decide ((e.u,e.v)∈l):=fun k=>by rw[(nK h e).2 k]at hx;cases hx
 have L2:e.add=!decide ((e.u,e.v)∈l):=by
  cases h1:e.add <;>cases h2:decide ((e.u,e.v)∈l) <;>simp_all
 unfold ct at hx;rw[if_neg (by rw[(gU l).2 h];simp),if_neg FS]at hx;refine⟨?_,?_,L2⟩
 ·split at hx
  ·cases hx;rw[wA];exact List.Pairwise.sublist List.erase_sublist h
  ·rename_i ha;cases hx;refine Dl h fun hm=>?_;simp[hm]at L2;exact ha L2
 ·intro a;split at hx
  ·rename_i ha;cases hx;rw[wA,h.nodup.mem_erase_iff];split
   ·rename_i e;simp[e,ha]
   ·rename_i e;simp[e]
  ·rename_i ha;cases hx;rw[EG];split
   ·rename_i e;simp[e];simpa using ha
   ·rename_i e;simp[e]
theorem C1{l x:List Edge}{e:aS}(hx:ct l e=some x):decide ((e.u,e.v)∈x)=e.add:=by
 have hm:=(fK hx).2.1 (e.u,e.v);rw[if_pos rfl]at hm;cases ha:e.add <;>simp_all
theorem xV{l x:List Edge}{e:aS}(hx:ct l e=some x){a:Edge}(ha:a∈x):a∈l∨a=(e.u,e.v):=by
 have:=(fK hx).2.1 a;by_cases e':a=(e.u,e.v)
 ·exact .inr e'
 ·rw[if_neg e']at this;exact .inl (this.1 ha)
def lG(N:Int):List aS->Option aS->List Edge->Prop
 | [],_,_=>True
 | e ::l,p,now=>(0<=e.t/\e.t<=4611686018427387903)/\(e.u<e.v/\e.v<N)/\(∀ q,p=some q->bN q e=true)/\∃ x,ct now e=some x/\lG N l (some e) x
theorem pG{N:Int}:∀ {l:List aS} {p:Option aS} {now:List Edge} {i:Nat},((dw N l p now i).2=0↔lG N l p now)/\((dw N l p now i).2=0->(dw N l p now i).1=0)
 | [],p,now,i=>by simp[dw,lG]
 | e ::l,p,now,i=>by
  rw[mA,lG];by_cases h1:e.t<0∨e.t>4611686018427387903
  ·rw[if_pos h1];exact⟨⟨fun h=>by simp at h,fun h=>by omega⟩,fun h=>by simp at h⟩
  rw[if_neg h1];by_cases h2:mU N e=false
  ·rw[if_pos h2];refine⟨⟨fun h=>by simp at h,fun h=>?_⟩,fun h=>by simp at h⟩;have:mU N e=true:=by simpa[mU]using h.2.1
   rw[this]at h2;cases h2
  rw[if_neg h2];have Kt:e.u<e.v/\e.v<N:=by simpa[mU]using h2
  have hp:(∀ q,p=some q->bN q e=true)↔(match p with | none=>true | some q=>bN q e)=true:=by
   cases p with
   | none=>simp
   | some q=>simp
  have hm:∀ b:Bool,((∀ q,p=some q->bN q e=true)↔b=true)->∀ z:Int×Int,((if b=false then((i:Int),23) else z).2=0->(∀ q,p=some q->bN q e=true)/\z.2=0/\((if b=false then((i:Int),23) else z).1=z.1))/\((∀ q,p=some q->bN q e=true)->(if b=false then((i:Int),23) else z)=z):=by
   intro b hb z;cases b
   ·exact⟨fun h=>by simp at h,fun h=>by have:=hb.1 h;cases this⟩
   ·exact⟨fun h=>⟨hb.2 rfl,by simpa using h,rfl⟩,fun h=>rfl⟩
  have QN:=hm _ hp (match ct now e with | none=>((i:Int),25) | some x=>dw N l (some e) x (i+1));have hx:((match ct now e with | none=>((i:Int),25) | some x=>dw N l (some e) x (i+1)):Int×Int).2=0->∃ x,ct now e=some x/\lG N l (some e) x/\((match ct now e with | none=>((i:Int),25) | some x=>dw N l (some e) x (i+1)):Int×Int).1=0:=by
   intro h;cases ht:ct now e with
   | none=>rw[ht]at h;simp at h
   | some x =>
    rw[ht]at h;have ih:=pG (N:=N) (l:=l) (p:=some e) (now:=x) (i:=i+1);exact⟨x,rfl,ih.1.1 h,ih.2 h⟩
  have hy:∀ x,ct now e=some x->lG N l (some e) x->((match ct now e with | none=>((i:Int),25) | some x=>dw N l (some e) x (i+1)):Int×Int).2=0:=by
   intro x ht h;rw[ht];exact(pG (N:=N) (l:=l) (p:=some e) (now:=x) (i:=i+1)).1.2 h
  refine⟨⟨fun h=>?_,fun h=>?_⟩,fun h=>?_⟩
  ·obtain⟨q1,q2,_⟩:=QN.1 h;obtain⟨x,q3,q4,_⟩:=hx q2;exact⟨by omega,Kt,q1,x,q3,q4⟩
  ·obtain⟨x,q3,q4⟩:=h.2.2.2;have:=QN.2 h.2.2.1;exact(congrArg Prod.snd this).trans (hy x q3 q4)
  ·obtain⟨q1,q2,q5⟩:=QN.1 h;obtain⟨x,q3,q4,q6⟩:=hx q2;exact q5.trans q6
theorem nU{N:Int}{l:List aS}:(dF N l).2=0↔N<=4294967296/\l.length<=2147483648/\lG N l none []:=by
 unfold dF;split
 ·constructor
  ·intro h;simp at h
  ·intro h;omega
 ·rw[pG.1];constructor
  ·intro h;exact⟨by omega,by omega,h⟩
  ·intro h;exact h.2.2
theorem mv(e:aS)(l:List aS)(now:List Edge):dA (e ::l) now=dA l ((ct now e).getD []):=rfl
theorem xB(l m:List aS)(now:List Edge):dA (l++m) now=dA m (dA l now):=by unfold dA;rw[List.foldl_append]
def d9(l:List aS)(p:Option aS):Option aS:=l.foldl (fun _ e=>some e) p
theorem lG.drop{N:Int}:∀ {l:List aS} {p:Option aS} {now:List Edge} (i:Nat),lG N l p now->lG N (l.drop i) (d9 (l.take i) p) (dA (l.take i) now)
 | l,p,now,0,h=>by simpa[d9,dA]using h
 | [],p,now,i+1,h=>by simp[lG]
 | e ::l,p,now,i+1,h=>by
  obtain⟨_,_,_,x,hx,h'⟩:=h;have ih:=lG.drop i h';rw[List.take_succ_cons,mv,hx];exact ih
theorem lG.take{N:Int}:∀ {l:List aS} {p:Option aS} {now:List Edge} (i:Nat),lG N l p now->lG N (l.take i) p now
 | l,p,now,0,h=>by simp[lG]
 | [],p,now,i+1,h=>by simp[lG]
 | e ::l,p,now,i+1,h=>by
  obtain⟨h1,h2,h3,x,hx,h'⟩:=h;rw[List.take_succ_cons];exact⟨h1,h2,h3,x,hx,lG.take i h'⟩
theorem lG.free{N:Int}{l:List aS}{p:Option aS}{now:List Edge}(h:lG N l p now):lG N l none now:=by
 cases l with
 | nil=>trivial
 | cons e l=>exact⟨h.1,h.2.1,fun q hq=>(by cases hq),h.2.2.2⟩
theorem lG.step{N:Int}{l:List aS}{p:Option aS}{now:List Edge}(h:lG N l p now){i:Nat}(hi:i<l.length):∃ x,ct (dA (l.take i) now) l[i]=some x/\dA (l.take (i+1)) now=x:=by
 have hd:=h.drop i;rw[List.drop_eq_getElem_cons hi]at hd;obtain⟨_,_,_,x,hx,_⟩:=hd;refine⟨x,hx,?_⟩;rw[List.take_succ_eq_append_getElem hi,xB,mv,hx];rfl
theorem lG.mem{N:Int}:∀ {l:List aS} {p:Option aS} {now:List Edge},lG N l p now->∀ e∈l,(0<=e.t/\e.t<=4611686018427387903)/\e.u<e.v/\e.v<N
 | [],_,_,_,e,he=>by simp at he
 | a ::l,p,now,h,e,he=>by
  rcases List.mem_cons.1 he with rfl | he
  ·exact⟨h.1,h.2.1⟩
  ·obtain⟨x,_,h'⟩:=h.2.2.2;exact h'.mem e he
theorem lG.fold{N:Int}:∀ {l:List aS} {p:Option aS} {now:List Edge},lG N l p now->fZ now->fZ (dA l now)/\∀ a∈dA l now,a∈now∨∃ e∈l,a=(e.u,e.v)
 | [],_,now,_,hr=>⟨hr,fun a ha=>.inl ha⟩
 | e ::l,p,now,h,hr=>by
  obtain⟨x,hx,h'⟩:=h.2.2.2;rw[mv,hx];have ih:=h'.fold (fK hx).1;refine⟨ih.1,fun a ha=>?_⟩;rcases ih.2 a ha with k | ⟨e',k1,k2⟩
  ·rcases xV hx k with k | k
   ·exact .inl k
   ·exact .inr ⟨e,by simp,k⟩
  ·exact .inr ⟨e',by simp[k1],k2⟩
theorem eg{a b:aS}:bN a b=true↔a.t<b.t∨a.t=b.t/\(a.u<b.u∨a.u=b.u/\a.v<b.v):=by
 simp[bN,aM]
theorem oq{a b c:aS}(h:bN a b=true)(k:bN b c=true):bN a c=true:=by
 rw[eg]at *;omega
theorem ui(l:List aS)(e:aS):∀ k,k<=l.length->(∀ j (hj:j<l.length),dh l e k<=j->j<k->bN e l[j]=true)/\(∀ j (hj:j<l.length),dh l e k=j+1->bN e l[j]=false)
 | 0,_=>⟨fun j hj h1 h2=>by omega,fun j hj h=>by simp[dh]at h⟩
 | k+1,hk=>by
  have ih:=ui l e k (by omega);have hg:l.getD k ⟨0,0,0,false⟩=l[k]:=by simp[List.getD_eq_getElem?_getD,show k<l.length by omega]
  unfold dh;rw[hg];split
  ·rename_i hb;refine⟨fun j hj h1 h2=>?_,ih.2⟩;by_cases e':j=k
   ·subst e';exact hb
   ·exact ih.1 j hj h1 (by omega)
  ·rename_i hb;refine⟨fun j hj h1 h2=>by omega,fun j hj h=>?_⟩;have:j=k:=by omega
   subst this;simpa using hb
def ot(l:List aS):Prop:=l.Pairwise fun a b=>bN a b=true
theorem xu{l:List aS}{e:aS}(h:ot l):ot (jf l e):=by
 unfold jf;split
 ·exact h
 ·rename_i FS;obtain⟨p1,p2⟩:=ui l e l.length (Nat.le_refl _);have Ga:=oP l e l.length;generalize dh l e l.length=k at *;have h0:=h;unfold ot at h0;rw[← List.take_append_drop k l]at h0;obtain⟨h1,h2,h3⟩:=List.pairwise_append.1 h0;have GV:∀ a∈l.drop k,bN e a=true:=by
   intro a ha;obtain⟨j,hj,rfl⟩:=List.mem_iff_getElem.1 ha;rw[List.getElem_drop];rw[List.length_drop]at hj;exact p1 (k+j) (by omega) (by omega) (by omega)
  have FP:∀ a∈l.take k,bN a e=true:=by
   intro a ha;cases k with
   | zero=>simp at ha
   | succ k =>
    have hk:k<l.length:=by omega
    have q:=p2 k hk rfl;have hg:l.getD (k+1-1) ⟨0,0,0,false⟩=l[k]:=by simp[List.getD_eq_getElem?_getD,hk]
    rw[hg]at FS;have Gi:bN l[k] e=true:=by
     have q':¬ bN e l[k]=true:=by rw[q];simp
     rw[eg]at q' ⊢;omega
    obtain⟨j,hj,rfl⟩:=List.mem_iff_getElem.1 ha;rw[List.getElem_take];rw[List.length_take]at hj;by_cases e':j=k
    ·subst e';exact Gi
    ·exact oq (List.pairwise_iff_getElem.1 h j k (by omega) hk (by omega)) Gi
  refine List.pairwise_append.2 ⟨h1,List.pairwise_cons.2 ⟨GV,h2⟩,fun a ha b hb=>?_⟩;rcases List.mem_cons.1 hb with rfl | hb
  ·exact FP a ha
  ·exact h3 a ha b hb
theorem C4{t a:Int}(ht:0<=t)(ha:0<=a/\a<=255):0<=kK t a/\kK t a<=t+1099511627776:=by
 have h1:(2:Int)^(a % 40).toNat<=549755813888/\0<(2:Int)^(a % 40).toNat:=by
  have h2:=Nat.pow_le_pow_right (n:=2) (by omega) (show(a % 40).toNat<=39 by omega);have h3:=Nat.two_pow_pos (a % 40).toNat;have e:((2^(a % 40).toNat:Nat):Int)=2^(a % 40).toNat:=by simp
  omega
 unfold kK;split <;>omega
theorem tL {N:Int} (hN:2<=N/\N<=4294967296):∀(l:List Int)(t:Int)(ts:List aS),aW l->0<=t->ot ts->(∀ e∈ts,0<=e.t/\e.t<=t)->(∀ e∈ts,0<=e.u/\e.u<e.v/\e.v<N) →
    ot (cC N l t ts)/\(∀ e∈cC N l t ts,0<=e.t/\e.t<=t+l.length*1099511627776)/\∀ e∈cC N l t ts,0<=e.u/\e.u<e.v/\e.v<N
  | a ::b ::c ::l,t,ts,hb,ht,h1,h2,h3=>by
    rw[cC];have ha:=hb a (by simp);have Hv:=hb b (by simp);have hc:=hb c (by simp);have tt:=C4 ht ha;split
    · have IZ:∀ x∈mF N a b c t ts,x∈ts∨x=⟨kK t a,(du b c N).1.1,(du b c N).1.2,false⟩/\(du b c N).2=true:=by
        intro x hx;unfold mF at hx;split at hx
        · rename_i he;rcases yM hx with k | k
          · exact .inl k
          · exact .inr ⟨k,he⟩
        · exact .inl hx
      have FU:∀ t':Int,t<=t'->True:=fun _ _=>trivial;have Um:t<=kK t a:=by
        have h3:0<(2:Int)^(a % 40).toNat:=Int.pow_pos (by omega);unfold kK;split <;>omega
      have ih:=tL hN l (kK t a) (mF N a b c t ts) (fun y hy=>hb y (by simp[hy])) tt.1
        (by unfold mF;split;exact xu h1;exact h1)
        (fun e he=>by
          rcases IZ e he with k | ⟨k,_⟩
          · have:=h2 e k;omega
          · rw[k];exact⟨tt.1,Int.le_refl _⟩)
        (fun e he=>by
          rcases IZ e he with k | ⟨k,k'⟩
          · exact h3 e k
          · rw[k];exact y6 Hv.1 hc.1 hN k')
      refine⟨ih.1,fun e he=>?_,ih.2.2⟩;have:=ih.2.1 e he;simp only[List.length_cons];omega
    · refine⟨h1,fun e he=>?_,h3⟩;have:=h2 e he;simp only[List.length_cons];omega
  | [],t,ts,hb,ht,h1,h2,h3=>by
    refine⟨by simpa[cC]using h1,fun e he=>?_,by simpa[cC]using h3⟩;rw[cC]at he
    · have:=h2 e he;simp;omega
    · simp
  | [_],t,ts,hb,ht,h1,h2,h3=>by
    refine⟨by simpa[cC]using h1,fun e he=>?_,by simpa[cC]using h3⟩;rw[cC]at he
    · have:=h2 e he;simp;omega
    · simp
  | [_,_],t,ts,hb,ht,h1,h2,h3=>by
    refine⟨by simpa[cC]using h1,fun e he=>?_,by simpa[cC]using h3⟩;rw[cC]at he
    · have:=h2 e he;simp;omega
    · simp
theorem ws{N:Int}:∀(l:List aS)(now:List Edge)(p:Option aS),fZ now->ot l->(∀ q,p=some q->∀ e∈l,bN q e=true)->(∀ e∈l,(0<=e.t/\e.t<=4611686018427387903)/\e.u<e.v/\e.v<N)->lG N (gy l now) p now
 | [],now,p,_,_,_,_=>by simp[gy,lG]
 | e ::l,now,p,hr,hs,hp,hv=>by
  rw[gy];have PG:=List.pairwise_cons.1 hs;have FS:ct now ⟨e.t,e.u,e.v,!decide ((e.u,e.v)∈now)⟩≠none:=by
   intro h;have:=(nK hr _).1 h;simp at this
  cases hx:ct now ⟨e.t,e.u,e.v,!decide ((e.u,e.v)∈now)⟩with
  | none=>exact absurd hx FS
  | some x =>
   have he:=hv e (by simp);refine⟨he.1,he.2,fun q hq=>?_,x,hx,?_⟩
   ·have:=hp q hq e (by simp);rw[eg]at this ⊢;exact this
   ·rw[Option.getD_some];refine ws l x _ (fK hx).1 PG.2 (fun q hq a ha=>?_) (fun a ha=>hv a (by simp[ha]));cases hq;have:=PG.1 a ha;rw[eg]at this ⊢;exact this
theorem uI:∀(l:List aS)(now:List Edge),∀ e∈gy l now,∃ a∈l,a.t=e.t/\a.u=e.u/\a.v=e.v
 | [],now,e,he=>by simp[gy]at he
 | a ::l,now,e,he=>by
  rw[gy]at he;rcases List.mem_cons.1 he with rfl | he
  ·exact⟨a,by simp,rfl,rfl,rfl⟩
  ·obtain⟨b,h1,h2⟩:=uI l _ e he;exact⟨b,by simp[h1],h2⟩
theorem yP{k:Int}{l:List Int}(hb:aW l)(hl:l.length<=1024):lG (kh k) (iJ k l) none []/\∀ e∈iJ k l,(0<=e.t/\e.t<=1125899906842624*2)/\0<=e.u/\e.u<e.v/\e.v<kh k:=by
 have h:=tL (pM k) l (k % 3) [] hb (by omega) List.Pairwise.nil (by simp) (by simp);refine⟨ws _ _ _ List.Pairwise.nil h.1 (fun q hq=>by cases hq) (fun e he=>?_),fun e he=>?_⟩
 ·have h1:=h.2.1 e he;have h2:=h.2.2 e he;exact⟨by omega,h2.2⟩
 ·obtain⟨a,ha,e1,e2,e3⟩:=uI _ _ e he;have h1:=h.2.1 a ha;have h2:=h.2.2 a ha;rw[← e1,← e2,← e3];exact⟨by omega,h2⟩
theorem CQ{N k:Int}{l:List aS}(h:lG N l none []):fZ (dA (l.take k.toNat) [])/\∀ a∈dA (l.take k.toNat) [],∃ e∈l,a=(e.u,e.v):=by
 have:=(h.take k.toNat).fold List.Pairwise.nil;refine⟨this.1,fun a ha=>?_⟩;rcases this.2 a ha with k | ⟨e,k1,k2⟩
 ·simp at k
 ·exact⟨e,List.mem_of_mem_take k1,k2⟩
end Go.Proofs.YtlieaecnllkefaaGreat

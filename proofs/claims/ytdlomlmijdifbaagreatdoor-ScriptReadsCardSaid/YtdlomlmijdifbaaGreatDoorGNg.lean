/- Own texts, packed: N1, N2, N3, N4, N5, N6, N7, N8, N9, N10, N11. -/
import Derived.Test.YtdlomlmijdifbaaGreatDoorGFg
import Derived.Laws.StructEq
import Derived.ChangeKeysEq
import Derived.Test.YtdlomlmijdifbaaGreatDoorGYg
import Derived.Test.YtdlomlmijdifbaaGreatDoorGCg
import Derived.Test.YtdlomlmijdifbaaGreatDoorGIg
set_option linter.unusedVariables false
set_option linter.unusedSimpArgs false
set_option maxHeartbeats 4000000
set_option maxRecDepth 100000
namespace Go.Proofs.YtdlomlmijdifbaaGreatDoor
open Go Go.V Go.RowKit
theorem Aa(a b c e:Int)(w:World):(Op.equalIn 10000 68 (.agg #[.int .u32 a,.int .u32 b]) (.agg #[.int .u32 c,.int .u32 e])).run P w=.ok (decide (a=c/\b=e)) w:=by
 rw[run_equalIn_struct w 9999 68 _ _ (by kernel_rfl) (by kernel_rfl)];obtain ⟨f, g, GR, FN, FM, GS, GP, GO, GN⟩ : ∃ f g : Field, (P.fieldsOf 68).toList = [f, g] ∧ f.name = "U" ∧ f.type = 66 ∧ f.offset = 0 ∧ g.name = "V" ∧ g.type = 66 ∧ g.offset = 1 :=
  ⟨((P.fieldsOf 68).toList)[0]!,((P.fieldsOf 68).toList)[1]!,by kernel_rfl,by kernel_rfl,by kernel_rfl,by kernel_rfl,by kernel_rfl,by kernel_rfl,by kernel_rfl⟩
 rw[GR];have hu:P.underlying 66=some (.int .u32):=by kernel_rfl
 have hp:P.plainKey 66=true:=by kernel_rfl
 have e1:∀(x y:Int)(w:World),(part 66 #[.int .u32 x,.int .u32 y] 0).run P w=.ok (.int .u32 x) w:=fun x y w=>run_part_plain w hp rfl;have e2:∀(x y:Int)(w:World),(part 66 #[.int .u32 x,.int .u32 y] 1).run P w=.ok (.int .u32 y) w:=fun x y w=>run_part_plain w hp rfl;have q:∀(x y:Int)(w:World),(Op.equalIn 9999 66 (.int .u32 x) (.int .u32 y)).run P w=.ok (x ==y) w:=fun x y w=>run_equalIn_int w 9998 _ _ _ _ _ hu;simp only[Op.eqFields,FN,FM,GS,GP,GO,GN,Sem.run_bind,Sem.run_ite,e1,e2,q,Result.andThen_ok];by_cases h1:a=c
 ·by_cases h2:b=e
  ·simp[h1,h2]
  ·simp[h1,h2]
 ·simp[h1]
theorem Av(s t:Operand)(a b c e:Int)(w:World):Sem.run P (do eqGuard .eql 68 s t (.agg #[.int .u32 a,.int .u32 b]) (.agg #[.int .u32 c,.int .u32 e]);Go.binOp .eql 68 (.agg #[.int .u32 a,.int .u32 b]) (.agg #[.int .u32 c,.int .u32 e]):Sem Value) w=.ok (.bool (decide (a=c/\b=e))) w:=by
 rw[Sem.run_bind,run_eqGuard_agg w .eql 68 s t _ _ (by kernel_rfl),Result.andThen_ok,run_eql_struct w,Aa];rfl
abbrev Edge:=Int×Int
def AQ(e:Edge):List Value:=[.int .u32 e.1,.int .u32 e.2]
def aV(l:List Edge):List Value:=l.flatMap AQ
theorem uK(l m:List Edge):aV (l++m)=aV l++aV m:=by simp[aV]
theorem jB(l:List Edge):(aV l).length=l.length*2:=by
 induction l with
 | nil=>rfl
 | cons e l ih=>simp[aV,AQ]at ih ⊢;omega
theorem sM:∀ {l:List Edge} {i:Nat} (h:i<l.length),(aV l)[i*2]?=some (.int .u32 l[i].1)/\(aV l)[i*2+1]?=some (.int .u32 l[i].2)
 | e ::l,0,_=>by simp[aV,AQ]
 | e ::l,i+1,h=>by
  have ih:=sM (l:=l) (i:=i) (by simpa using h);rw[show(i+1)*2=i*2+1+1 by omega];exact ih
theorem Ac(l:List Edge)(k:Nat):(aV l).drop (k*2)=aV (l.drop k):=by
 induction k generalizing l with
 | zero=>simp
 | succ k ih =>
  cases l with
  | nil=>simp[aV]
  | cons e l=>rw[show(k+1)*2=k*2+1+1 by omega];exact ih l
theorem Ab(l:List Edge)(k:Nat):(aV l).take (k*2)=aV (l.take k):=by
 induction k generalizing l with
 | zero=>simp[aV]
 | succ k ih =>
  cases l with
  | nil=>simp[aV]
  | cons e l =>
   rw[show(k+1)*2=k*2+1+1 by omega];show List.take (k*2+1+1) (.int .u32 e.1 ::.int .u32 e.2 ::aV l)=.int .u32 e.1 ::.int .u32 e.2 ::aV (List.take k l);rw[List.take_succ_cons,List.take_succ_cons,ih]
structure dO where
 t:Int
 u:Int
 v:Int
 add:Bool
deriving DecidableEq
def C2(e:dO):List Value:=[.int .i64 e.t,.int .u32 e.u,.int .u32 e.v,.bool e.add]
def cK(l:List dO):List Value:=l.flatMap C2
theorem eM(l:List dO):(cK l).length=l.length*4:=by
 induction l with
 | nil=>rfl
 | cons e l ih=>simp[cK,C2]at ih ⊢;omega
theorem wW:∀ {l:List dO} {i:Nat} (h:i<l.length),(cK l)[i*4]?=some (.int .i64 l[i].t)/\(cK l)[i*4+1]?=some (.int .u32 l[i].u)/\(cK l)[i*4+2]?=some (.int .u32 l[i].v)/\(cK l)[i*4+3]?=some (.bool l[i].add)
 | e ::l,0,_=>by simp[cK,C2]
 | e ::l,i+1,h=>by
  have ih:=wW (l:=l) (i:=i) (by simpa using h);rw[show(i+1)*4=i*4+1+1+1+1 by omega];exact ih
abbrev sN(e:Edge):Value:=.agg #[.int .u32 e.1,.int .u32 e.2]
abbrev C1(e:dO):Value:=.agg #[.int .i64 e.t,.int .u32 e.u,.int .u32 e.v,.bool e.add]
def bG(a b:Edge):Bool:=decide (a.1<b.1∨a.1=b.1/\a.2<b.2)
def bL(a b:dO):Bool:=decide (a.t<b.t) || (decide (a.t=b.t) && bG (a.u,a.v) (b.u,b.v))
def eR(l:List Edge):Bool:=(List.range (l.length-1)).all fun i=>bG (l.getD i (0,0)) (l.getD (i+1) (0,0))
theorem kU{w:World}(a b:Edge):Calls P 62 #[sN a,sN b] w fun ev w'=>ev=.returned (.bool (bG a b))/\w.grownBy w' none:=by
 apply vc62;dsimp only[VC62,rb,Br,Rd,nb];have g1:=World.grownBy_alloc w (.cells #[.int .u32 a.1,.int .u32 a.2] 68) none;have b1:(w.alloc (.cells #[.int .u32 a.1,.int .u32 a.2] 68)).heap[w.heap.size]?=some (.cells #[.int .u32 a.1,.int .u32 a.2] 68 (0,0)):=heap_alloc_new w _;obtain⟨w1,DU⟩:∃ w1,w1=w.alloc (.cells #[.int .u32 a.1,.int .u32 a.2] 68):=⟨_,rfl⟩;rw[← DU]at g1 b1 ⊢;have g2:=World.grownBy_alloc w1 (.cells #[.int .u32 b.1,.int .u32 b.2] 68) none;have b2:(w1.alloc (.cells #[.int .u32 b.1,.int .u32 b.2] 68)).heap[w1.heap.size]?=some (.cells #[.int .u32 b.1,.int .u32 b.2] 68 (0,0)):=heap_alloc_new w1 _;obtain⟨w2,ES⟩:∃ w2,w2=w1.alloc (.cells #[.int .u32 b.1,.int .u32 b.2] 68):=⟨_,rfl⟩;rw[← ES]at g2 b2 ⊢;have b1':w2.heap[w.heap.size]?=some (.cells #[.int .u32 a.1,.int .u32 a.2] 68 (0,0)):=by rw[g2.block _ (Array.getElem?_eq_some_iff.1 b1).1 (by simp)];exact b1
 have g:=aB g1 g2;refine⟨_,aA b1' 0,_,aA b2 0,fun h=>⟨?_,g⟩,fun h=>⟨_,aA b1' 0,_,aA b2 0,fun h2=>⟨_,aA b1' 1,_,aA b2 1,?_,g⟩,fun h2=>⟨?_,g⟩⟩⟩
 ·have:bG a b=true:=by unfold bG;exact decide_eq_true (.inl h)
  rw[this]
 ·congr 2;unfold bG;rw[decide_eq_decide];omega
 ·have:bG a b=false:=by unfold bG;exact decide_eq_false (by omega)
  rw[this]
theorem tQ{w:World}(e:Edge){n:Int}(he:0<=e.2/\e.2<=4294967295):Calls P 70 #[sN e,.int .u64 n] w fun ev w'=>ev=.returned (.bool (decide (e.1<e.2/\e.2<n)))/\w.grownBy w' none:=by
 apply vc70;dsimp only[VC70,rb,Br,Rd,nb]
 try simp only[aI]
 have g1:=World.grownBy_alloc w (.cells #[.int .u32 e.1,.int .u32 e.2] 68) none;have b1:(w.alloc (.cells #[.int .u32 e.1,.int .u32 e.2] 68)).heap[w.heap.size]?=some (.cells #[.int .u32 e.1,.int .u32 e.2] 68 (0,0)):=heap_alloc_new w _;refine⟨_,aA b1 0,_,aA b1 1,fun h=>⟨_,aA b1 1,by omega,?_,g1⟩,fun h=>⟨?_,g1⟩⟩
 ·congr 2;simp;omega
 ·congr 2;simp;omega
theorem mD{w:World}(a b:dO):Calls P 59 #[C1 a,C1 b] w fun ev w'=>ev=.returned (.bool (bL a b))/\w.grownBy w' none:=by
 apply vc59;dsimp only[VC59,rb,Br,Rd,cB,nb,iq];have g1:=World.grownBy_alloc w (.cells #[.int .i64 a.t,.int .u32 a.u,.int .u32 a.v,.bool a.add] 73) none;have b1:(w.alloc (.cells #[.int .i64 a.t,.int .u32 a.u,.int .u32 a.v,.bool a.add] 73)).heap[w.heap.size]?=some (.cells #[.int .i64 a.t,.int .u32 a.u,.int .u32 a.v,.bool a.add] 73 (0,0)):=heap_alloc_new w _;obtain⟨w1,DU⟩:∃ w1,w1=w.alloc (.cells #[.int .i64 a.t,.int .u32 a.u,.int .u32 a.v,.bool a.add] 73):=⟨_,rfl⟩;rw[← DU]at g1 b1 ⊢;have g2:=World.grownBy_alloc w1 (.cells #[.int .i64 b.t,.int .u32 b.u,.int .u32 b.v,.bool b.add] 73) none;have b2:(w1.alloc (.cells #[.int .i64 b.t,.int .u32 b.u,.int .u32 b.v,.bool b.add] 73)).heap[w1.heap.size]?=some (.cells #[.int .i64 b.t,.int .u32 b.u,.int .u32 b.v,.bool b.add] 73 (0,0)):=heap_alloc_new w1 _;obtain⟨w2,ES⟩:∃ w2,w2=w1.alloc (.cells #[.int .i64 b.t,.int .u32 b.u,.int .u32 b.v,.bool b.add] 73):=⟨_,rfl⟩;rw[← ES]at g2 b2 ⊢;have b1':w2.heap[w.heap.size]?=some (.cells #[.int .i64 a.t,.int .u32 a.u,.int .u32 a.v,.bool a.add] 73 (0,0)):=by rw[g2.block _ (Array.getElem?_eq_some_iff.1 b1).1 (by simp)];exact b1
 have g:=aB g1 g2;refine⟨_,aA b1' 0,_,aA b2 0,fun h=>⟨?_,g⟩,fun h=>⟨_,aA b1' 0,_,aA b2 0,fun h2=>⟨_,aA b1' 1,_,aA b1' 2,_,aA b2 1,_,aA b2 2,?_⟩,fun h2=>⟨?_,g⟩⟩⟩
 ·congr 2;simp[bL,h]
 ·refine(kU (a.u,a.v) (b.u,b.v)).mono fun ev w3 hh=>?_;obtain⟨rfl,g3⟩:=hh;refine⟨_,rfl,?_,aB g g3⟩;congr 2;simp[bL,h,h2]
 ·congr 2;simp[bL,h,h2]
theorem oG{w:World}{A:OA}{l:List Edge}(h:bC w A (aV l)){j:Nat}(hj:j<l.length):∃ a,A=some a/\w.cell? (a.add (j*2))=some (.int .u32 l[j].1)/\w.cell? ((a.add (j*2)).add 1)=some (.int .u32 l[j].2):=by
 obtain⟨h1,h2⟩:=sM hj;obtain⟨a,e1,e2⟩:=h _ _ h1;obtain⟨a',e3,e4⟩:=h _ _ h2;rw[e1]at e3;cases e3;exact⟨a,e1,e2,by rw[eV];exact e4⟩
theorem tO {w:World} {A:OA} {n c:Nat} {l:List Edge} (hr:bC w A (aV l)) (hn:n=l.length) (hl:n<=2^40):Calls P 61 #[.slice A n c] w fun ev w'=>ev=.returned (.bool (eR l))/\w.grownBy w' none:=by
  apply vc61;dsimp only[VC61,rb,Br,Rd,Ix,cB,ad,al]
  try simp only[aI]
  refine⟨fun m i w1=>∃ j:Nat,i=(j:Int)/\1<=j/\(j<=l.length∨j=1)/\m=l.length-j/\(∀ t,t+1<j->bG (l.getD t (0,0)) (l.getD (t+1) (0,0))=true)/\w.grownBy w1 none,⟨_,1,rfl,by omega,.inr rfl,rfl,fun t ht=>by omega,aF _ _⟩,?_⟩;rintro m i w1 ⟨j,rfl,h1,hj,rfl,hs,hg⟩;have tj:(j:Int).toNat=j:=by omega
  have tj1:((j:Int)-1).toNat=j-1:=by omega
  rw[tj,tj1];refine⟨fun DL=>?_,fun DR=>⟨?_,hg⟩⟩
  · have gd:=aG hg;obtain⟨a,e1,e2,e3⟩:=oG (hr.kept_none gd) (show j-1<l.length by omega);obtain⟨a',f1,f2,f3⟩:=oG (hr.kept_none gd) (show j<l.length by omega);refine⟨by omega,a,e1,by omega,by omega,_,e2,_,e3,a',f1,by omega,by omega,_,f2,_,f3,?_⟩;refine(kU l[j-1] l[j]).mono fun ev w2 hh=>?_;obtain⟨rfl,g2⟩:=hh;have EP:=aB gd g2;have d1:l.getD (j-1) (0,0)=l[j-1]:=by simp[List.getD_eq_getElem?_getD,show j-1<l.length by omega]
    have d2:l.getD (j-1+1) (0,0)=l[j]:=by rw[show j-1+1=j by omega];simp[List.getD_eq_getElem?_getD,show j<l.length by omega]
    refine⟨_,rfl,fun h=>⟨?_,EP⟩,fun h=>⟨by omega,l.length-(j+1),by omega,j+1,by omega,by omega,.inl (by omega),rfl,fun t ht=>?_,EP⟩⟩
    · have:eR l=false:=by
        cases hq:eR l with
        | false=>rfl
        | true =>
          have:=List.all_eq_true.1 hq (j-1) (List.mem_range.2 (by omega));rw[d1,d2,h]at this;cases this
      rw[this]
    · by_cases e:t+1=j
      · have:t=j-1:=by omega
        subst this;rw[d1,d2];simpa using h
      · exact hs t (by omega)
  · have:eR l=true:=List.all_eq_true.2 fun t ht=>hs t (by have:=List.mem_range.1 ht;omega);rw[this]
def nT(l:List Edge)(e:Edge):Int:=if e∈l then(l.idxOf e:Int) else -1
theorem qC {w:World} {A:OA} {n c:Nat} {l:List Edge} {e:Edge} (hr:bC w A (aV l)) (hn:n=l.length) (hl:n<=2^40):Calls P 60 #[.slice A n c,sN e] w fun ev w'=>ev=.returned (.int .i64 (nT l e))/\w.grownBy w' none:=by
  apply vc60;dsimp only[VC60,Br,Bb,Rd,Ix,Eg,nb,ad,al,iq]
  try simp only[aI]
  have g1:=World.grownBy_alloc w (.cells #[.int .u32 e.1,.int .u32 e.2] 68) none;have b1:(w.alloc (.cells #[.int .u32 e.1,.int .u32 e.2] 68)).heap[w.heap.size]?=some (.cells #[.int .u32 e.1,.int .u32 e.2] 68 (0,0)):=heap_alloc_new w _;obtain⟨w1,DU⟩:∃ w1,w1=w.alloc (.cells #[.int .u32 e.1,.int .u32 e.2] 68):=⟨_,rfl⟩;rw[← DU]at g1 b1 ⊢;refine⟨fun m i w2=>∃ j:Nat,i=(j:Int)/\j<=l.length/\m=l.length-j/\(∀ t (h:t<l.length),t<j->l[t]≠e)/\w1.grownBy w2 none,⟨_,0,rfl,by omega,rfl,fun t _ ht=>by omega,aF _ _⟩,?_⟩;rintro m i w2 ⟨j,rfl,hj,rfl,hs,hg⟩;have tj:(j:Int).toNat=j:=by omega
  rw[tj];refine⟨fun DL=>?_,fun DR=>⟨?_,aB g1 hg⟩⟩
  · have gd:=aG hg;have lj:j<l.length:=by omega
    obtain⟨a,e1,e2,e3⟩:=oG ((hr.kept_none g1).kept_none gd) lj;have b2:w2.drew.heap[w.heap.size]?=some (.cells #[.int .u32 e.1,.int .u32 e.2] 68 (0,0)):=by rw[gd.block _ (Array.getElem?_eq_some_iff.1 b1).1 (by simp)];exact b1
    refine⟨a,e1,by omega,by omega,_,e2,_,e3,_,aA b2 0,_,aA b2 1,_,fun w=>Av _ _ _ _ _ _ w,fun h=>⟨?_,aB g1 gd⟩,fun h=>⟨by omega,l.length-(j+1),by omega,j+1,by omega,by omega,rfl,fun t ht h3=>?_,gd⟩⟩
    · have he:l[j]=e:=by
        have:=of_decide_eq_true h;exact Prod.ext this.1 this.2
      have hm:e∈l:=by rw[← he];exact List.getElem_mem lj
      have hi:l.idxOf e=j:=by
        have h4:l.idxOf e<l.length:=List.idxOf_lt_length_iff.2 hm;have h5:l[l.idxOf e]=e:=List.getElem_idxOf h4;rcases Nat.lt_trichotomy (l.idxOf e) j with q | q | q
        · exact absurd h5 (hs _ h4 q)
        · exact q
        · exfalso;have:=List.not_of_lt_findIdx (p:=(· ==e)) (xs:=l) (i:=j) q;simp[he]at this
      rw[nT,if_pos hm,hi]
    · by_cases e4:t=j
      · subst e4;intro h5;rw[h5]at h;simp at h
      · exact hs t ht (by omega)
  · have hm:e ∉ l:=by
      intro h;obtain⟨t,ht,h2⟩:=List.mem_iff_getElem.1 h;exact hs t ht (by omega) h2
    rw[nT,if_neg hm]
theorem Bn{w:World}{A:OA}{n c:Nat}{l:List Edge}{e:Edge}(hr:bC w A (aV l))(hn:n=l.length)(hl:n<=2^40):Calls P 28 #[.slice A n c,sN e] w fun ev w'=>ev=.returned (.bool (decide (e∈l)))/\w.grownBy w' none:=by
 apply vc28;dsimp only[VC28,Rd,cI,nb];have g1:=World.grownBy_alloc w (.cells #[.int .u32 e.1,.int .u32 e.2] 68) none;have b1:(w.alloc (.cells #[.int .u32 e.1,.int .u32 e.2] 68)).heap[w.heap.size]?=some (.cells #[.int .u32 e.1,.int .u32 e.2] 68 (0,0)):=heap_alloc_new w _;refine⟨_,aA b1 0,_,aA b1 1,?_⟩;refine(qC (e:=e) (hr.kept_none g1) hn hl).mono fun ev w2 hh=>?_;obtain⟨rfl,g2⟩:=hh;refine⟨_,rfl,?_,aB g1 g2⟩;congr 2;unfold nT;by_cases h:e∈l
 ·simp[h]
 ·simp[h]
theorem xC:kL P 74 68 2 (P.bytesOf 68):=⟨(P.info? 68).getD default,((P.info? 68).getD default).zero.getD undef,by kernel_rfl,by kernel_rfl,by kernel_rfl,by kernel_rfl,by kernel_rfl,by kernel_rfl,by decide⟩
theorem Bz:P.bytesOf 68<=64:=of_decide_eq_true (by kernel_rfl)
theorem cR{w:World}{base:Nat}{A B:OA}{n c m d:Nat}{xs ys:List Edge}(ho:aD w base 68 2 A n c (aV xs))(hB:bC w B (aV ys))(hm:m=ys.length)(hd:B=none->d=0)(hn:n+m<=2^39)(hb:base<=w.heap.size):
    ∃ (A':OA) (n' c':Nat) (w':World),Sem.run P (Builtin.append_ #[74,74] 74 #[.slice A n c,.slice B m d]) w=.ok (.slice A' n' c') w' ∧
      aD w' base 68 2 A' n' c' (aV (xs++ys))/\w.grownBy w' (Value.slice A n c).ownBlock/\n'=n+m:=by
  cases B with
  | none =>
    have FB:ys=[]:=by
      cases ys with
      | nil=>rfl
      | cons y ys=>obtain⟨a,e,_⟩:=hB 0 _ rfl;cases e
    subst FB;have h0:m=0:=by simpa using hm
    have h1:=hd rfl;subst h0 h1;exact⟨A,n,c,w,ho.appends_nil xC,by simpa using ho,aF _ _,rfl⟩
  | some a =>
    obtain⟨A',n',c',w',h1,h2,h3,h4,_⟩:=ho.appends (ty:=74) xC Bz (a:=a) (m:=m) (cc:=d) (us:=aV ys) (by rw[jB,hm]) (fun j u hj=>by obtain⟨b,q1,q2⟩:=hB j u hj;cases q1;exact q2) (fun u hu=>by
      simp only[aV,List.mem_flatMap]at hu;obtain⟨e,_,he⟩:=hu;simp[AQ]at he;rcases he with rfl | rfl <;>rfl) (by omega) hb
    exact⟨A',n',c',w',h1,by rw[uK];exact h2,h4,h3⟩
theorem DD{w:World}{A:OA}{c k:Nat}{l:List Edge}(h:bC w A (aV l))(hA:A=none->c=0)(hc:l.length<=c):bC w (bN A c k 2) (aV (l.drop k))/\(bN A c k 2=none->c-k=0):=by
 unfold bN;split
 ·rename_i Eh;refine⟨?_,fun _=>by omega⟩;rw[List.drop_eq_nil_of_le (by omega)];intro j u hj;simp[aV]at hj
 ·have:=h.drop (k*2);rw[Ac]at this;refine⟨this,fun e=>?_⟩;cases A with
  | none=>rw[hA rfl];omega
  | some a=>simp at e
theorem BN{w:World}{A:OA}{l:List Edge}(h:bC w A (aV l))(k:Nat):bC w A (aV (l.take k)):=by
 intro j u hj;rw[← Ab,List.getElem?_take]at hj;split at hj
 ·exact h j u hj
 ·cases hj
def iH(l:List Edge)(e:Edge):Nat:=(l.takeWhile fun x=>bG x e).length
def cX(l:List Edge)(ev:dO):Option (List Edge) :=
 if eR l=false then none else if ev.add=decide ((ev.u,ev.v)∈l) then none else
 if ev.add=false then some (l.take (l.idxOf (ev.u,ev.v))++l.drop (l.idxOf (ev.u,ev.v)+1)) else some (l.take (iH l (ev.u,ev.v))++((ev.u,ev.v) ::l.drop (iH l (ev.u,ev.v))))
theorem AD{l:List Edge}{e:Edge}{j:Nat}(hj:j<=l.length)(h:∀ t (ht:t<l.length),t<j->bG l[t] e=true)(h2:∀(ht:j<l.length),bG l[j] e=false):iH l e=j:=by
 induction l generalizing j with
 | nil=>simp at hj;subst hj;rfl
 | cons x l ih =>
  cases j with
  | zero =>
   have:=h2 (by simp);simp at this;simp[iH,List.takeWhile_cons,this]
  | succ j =>
   have h0:=h 0 (by simp) (by omega);simp at h0;have:=ih (j:=j) (by simpa using hj) (fun t ht Kk=>h (t+1) (Nat.succ_lt_succ ht) (by omega)) (fun ht=>h2 (Nat.succ_lt_succ ht));simp[iH,List.takeWhile_cons,h0]at this ⊢;exact this
theorem oQ {w:World} {A:OA} {n c:Nat} {l:List Edge} {e:dO} (hr:bC w A (aV l)) (hn:n=l.length) (hc:n<=c) (hA:A=none->c=0) (hl:n<=2^30) :
    Calls P 29 #[.slice A n c,C1 e] w fun ev w'=>∃(A':OA)(n' c':Nat),ev=.returned (.tuple #[.slice A' n' c',.bool (cX l e).isSome])/\aD w' w.heap.size 68 2 A' n' c' (aV ((cX l e).getD []))/\w.grownBy w' none:=by
  apply vc29;dsimp only[VC29,rt,Br,Bb,Rd,Rc,Ix,Ap,Eg,cI,cB,nb,ad,al,iq]
  try simp only[aI]
  have g1:=World.grownBy_alloc w (.cells #[.int .i64 e.t,.int .u32 e.u,.int .u32 e.v,.bool e.add] 73) none;have b1:(w.alloc (.cells #[.int .i64 e.t,.int .u32 e.u,.int .u32 e.v,.bool e.add] 73)).heap[w.heap.size]?=some (.cells #[.int .i64 e.t,.int .u32 e.u,.int .u32 e.v,.bool e.add] 73 (0,0)):=heap_alloc_new w _;obtain⟨w1,DU⟩:∃ w1,w1=w.alloc (.cells #[.int .i64 e.t,.int .u32 e.u,.int .u32 e.v,.bool e.add] 73):=⟨_,rfl⟩;rw[← DU]at g1 b1 ⊢;have keep:∀ w',w1.grownBy w' none->w'.heap[w.heap.size]?=some (.cells #[.int .i64 e.t,.int .u32 e.u,.int .u32 e.v,.bool e.add] 73 (0,0)):=fun w' g=>by rw[g.block _ (Array.getElem?_eq_some_iff.1 b1).1 (by simp)];exact b1
  refine⟨_,aA b1 1,_,aA b1 2,?_⟩;refine(qC (e:=(e.u,e.v)) (hr.kept_none g1) hn (by omega)).mono fun ev w2 hh=>?_;obtain⟨rfl,g2⟩:=hh;refine⟨_,rfl,?_⟩;refine(tO ((hr.kept_none g1).kept_none g2) hn (by omega)).mono fun ev w3 hh=>?_;obtain⟨rfl,g3⟩:=hh;have D9:=aB g2 g3;have Ec:=aB g1 D9;have Fw:decide (nT l (e.u,e.v)≥0)=decide ((e.u,e.v)∈l):=by
    unfold nT;by_cases h:(e.u,e.v)∈l
    · simp[h]
    · simp[h]
  refine⟨_,rfl,fun h=>?_,fun h=>?_⟩
  · have:cX l e=none:=by unfold cX;rw[if_pos h]
    rw[this];exact⟨_,_,_,rfl,aD.nil _ _ _ _,Ec⟩
  have FE:¬ eR l=false:=h;have b3:=keep w3 D9;have hu:P.underlying 4=some .bool:=by kernel_rfl
  refine⟨_,aA b3 3,_,fun w=>CI _ _ _ _ w,fun h=>?_,fun h=>?_⟩
  · have h':e.add=decide ((e.u,e.v)∈l):=by rw[← Fw];simpa using h
    have:cX l e=none:=by unfold cX;rw[if_neg FE,if_pos h']
    rw[this];exact⟨_,_,_,rfl,aD.nil _ _ _ _,Ec⟩
  have Fo:¬ e.add=decide ((e.u,e.v)∈l):=by rw[← Fw];simpa using h
  refine⟨_,aA b3 3,fun GX=>?_,fun EH=>?_⟩
  · have hm:(e.u,e.v)∈l:=by
      rw[GX]at Fo;by_cases q:(e.u,e.v)∈l
      · exact q
      · simp[q]at Fo
    have KQ:nT l (e.u,e.v)=((l.idxOf (e.u,e.v):Nat):Int):=by rw[nT,if_pos hm]
    have Fi:l.idxOf (e.u,e.v)<l.length:=List.idxOf_lt_length_iff.2 hm;have HT:cX l e=some (l.take (l.idxOf (e.u,e.v))++l.drop (l.idxOf (e.u,e.v)+1)):=by unfold cX;rw[if_neg FE,if_neg Fo,if_pos GX]
    rw[HT,KQ];generalize l.idxOf (e.u,e.v)=i at *;have ti:(i:Int).toNat=i:=by omega
    have ti1:((i:Int)+1).toNat=i+1:=by omega
    rw[ti,ti1];have gd:=aG Ec;have rd:=hr.kept_none gd;obtain⟨A4,n4,c4,w4,f1,f2,f3,f4⟩:=cR (n:=0) (c:=0) (A:=none) (xs:=[]) (aD.nil w3.drew w3.drew.heap.size 68 2) (m:=i) (d:=c) (BN rd i) (by rw[List.length_take];omega) hA (by omega) (Nat.le_refl _);have g4:w3.drew.grownBy w4 none:=bO (aF w3.drew none) f3 (fun k hk=>by simp[Value.ownBlock]at hk);rw[List.nil_append]at f2;obtain⟨r5,d5⟩:=DD (k:=i+1) (rd.kept_none g4) hA (by omega);obtain⟨A5,n5,c5,w5,p1,p2,p3,p4⟩:=cR f2 (m:=n-(i+1)) (d:=c-(i+1)) r5 (by rw[List.length_drop];omega) d5 (by omega) g4.size;exact⟨⟨by omega,by omega⟩,_,_,_,w4,f1,by omega,⟨by omega,by omega⟩,_,_,_,w5,p1,_,_,_,rfl,p2.mono gd.size,aB gd (bO g4 p3 f2.block_ge)⟩
  · have G6:¬ e.add=false:=EH;have HT:cX l e=some (l.take (iH l (e.u,e.v))++((e.u,e.v) ::l.drop (iH l (e.u,e.v)))):=by unfold cX;rw[if_neg FE,if_neg Fo,if_neg G6]
    rw[HT];refine⟨fun i w'=>i=(iH l (e.u,e.v):Int)/\iH l (e.u,e.v)<=l.length/\w1.grownBy w' none,⟨fun m i w4=>∃ j:Nat,i=(j:Int)/\j<=l.length/\m=l.length-j/\(∀ t (ht:t<l.length),t<j->bG l[t] (e.u,e.v)=true)/\w1.grownBy w4 none,⟨_,0,rfl,by omega,rfl,fun t _ ht=>by omega,D9⟩,?_⟩,?_⟩
    · rintro m i w4 ⟨j,rfl,hj,rfl,hs,g4⟩;have tj:(j:Int).toNat=j:=by omega
      rw[tj];have gd:=aG g4;refine⟨fun DL=>?_,fun DR=>?_⟩
      · have lj:j<l.length:=by omega
        obtain⟨a,e1,e2,e3⟩:=oG ((hr.kept_none g1).kept_none gd) lj;have b4:=keep w4.drew gd;refine⟨a,e1,by omega,by omega,_,e2,_,e3,_,aA b4 1,_,aA b4 2,?_⟩;refine(kU l[j] (e.u,e.v)).mono fun ev w5 hh=>?_;obtain⟨rfl,g5⟩:=hh;refine⟨_,rfl,fun h=>⟨by omega,l.length-(j+1),by omega,j+1,by omega,by omega,rfl,fun t ht Kk=>?_,aB gd g5⟩,fun h=>?_⟩
        · by_cases q:t=j
          · subst q;exact h
          · exact hs t ht (by omega)
        · have:=AD hj hs (fun _=>h);exact⟨by rw[this],by omega,aB gd g5⟩
      · have:=AD hj hs (fun ht=>by omega);exact⟨by rw[this],by omega,gd⟩
    · rintro i w4 ⟨rfl,hk,g4⟩;generalize iH l (e.u,e.v)=k at *;have tk:(k:Int).toNat=k:=by omega
      rw[tk];have gd:=aG g4;have g0d:=aB g1 gd;have rd:=hr.kept_none g0d;refine⟨fun w'=>w1.grownBy w' none,gd,⟨⟨by omega,by omega⟩,?_⟩,⟨⟨by omega,by omega⟩,?_⟩⟩
      · obtain⟨A5,n5,c5,w5,f1,f2,f3,f4⟩:=cR (n:=0) (c:=0) (A:=none) (xs:=[]) (aD.nil w4.drew w4.drew.heap.size 68 2) (m:=k) (d:=c) (BN rd k) (by rw[List.length_take];omega) hA (by omega) (Nat.le_refl _);have g5:w4.drew.grownBy w5 none:=bO (aF w4.drew none) f3 (fun k hk=>by simp[Value.ownBlock]at hk);rw[List.nil_append]at f2;have Fp:=aB gd g5;have ga:=World.grownBy_alloc w5 (.cells #[.int .u32 e.u,.int .u32 e.v] 68) none;have ra:bC (w5.alloc (.cells #[.int .u32 e.u,.int .u32 e.v] 68)) (some ⟨w5.heap.size,0,none⟩) (aV [(e.u,e.v)]):=fD w5 _ 68;obtain⟨A6,n6,c6,w6,p1,p2,p3,p4⟩:=cR (f2.kept ga) (m:=1) (d:=1) ra rfl (fun h=>by cases h) (by omega) (Nat.le_trans g5.size ga.size);have IR:=aB g5 ga;have g6:=bO IR p3 f2.block_ge;have He:=aB gd g6;obtain⟨r7,d7⟩:=DD (k:=k) (rd.kept_none g6) hA (by omega);obtain⟨A7,n7,c7,w7,q1,q2,q3,q4⟩:=cR p2 (m:=n-k) (d:=c-k) r7 (by rw[List.length_drop];omega) d7 (by omega) g6.size;have g7:=bO g6 q3 p2.block_ge;exact⟨_,_,_,w5,f1,Fp,_,fun w' h=>aA (keep w' h) 1,_,fun w' h=>aA (keep w' h) 2,aB Fp ga,_,_,_,w6,p1,He,⟨by omega,by omega⟩,_,_,_,w7,q1,aB gd g7,_,_,_,rfl,by simpa using q2.mono g0d.size,aB g0d g7⟩
      · have ga:=World.grownBy_alloc w4.drew (.cells #[.int .u32 e.u,.int .u32 e.v] 68) none;have ra:bC (w4.drew.alloc (.cells #[.int .u32 e.u,.int .u32 e.v] 68)) (some ⟨w4.drew.heap.size,0,none⟩) (aV [(e.u,e.v)]):=fD w4.drew _ 68;obtain⟨wa,FC⟩:∃ wa,wa=w4.drew.alloc (.cells #[.int .u32 e.u,.int .u32 e.v] 68):=⟨_,rfl⟩;refine⟨_,fun w' h=>aA (keep w' h) 1,_,fun w' h=>aA (keep w' h) 2,?_⟩;simp only[List.getElem?_toArray];show(fun w'=>w1.grownBy w' none) (w4.drew.alloc (.cells #[.int .u32 e.u,.int .u32 e.v] 68))/\_;rw[← FC]at ga ra ⊢;obtain⟨A5,n5,c5,w5,f1,f2,f3,f4⟩:=cR (n:=0) (c:=0) (A:=none) (xs:=[]) (aD.nil wa wa.heap.size 68 2) (m:=k) (d:=c) (BN (rd.kept_none ga) k) (by rw[List.length_take];omega) hA (by omega) (Nat.le_refl _);have g5:wa.grownBy w5 none:=bO (aF wa none) f3 (fun k hk=>by simp[Value.ownBlock]at hk);rw[List.nil_append]at f2;obtain⟨A6,n6,c6,w6,p1,p2,p3,p4⟩:=cR f2 (m:=1) (d:=1) (ra.kept_none g5) rfl (fun h=>by cases h) (by omega) g5.size;have g6:=bO g5 p3 f2.block_ge;obtain⟨r7,d7⟩:=DD (k:=k) ((rd.kept_none ga).kept_none g6) hA (by omega);obtain⟨A7,n7,c7,w7,q1,q2,q3,q4⟩:=cR p2 (m:=n-k) (d:=c-k) r7 (by rw[List.length_drop];omega) d7 (by omega) g6.size;have g7:=bO g6 q3 p2.block_ge;have g1a:=aB gd ga;exact⟨g1a,_,_,_,w5,f1,aB g1a g5,_,_,_,w6,p1,aB g1a g6,⟨by omega,by omega⟩,_,_,_,w7,q1,aB g1a g7,_,_,_,rfl,by simpa using q2.mono (Nat.le_trans g0d.size ga.size),aB g0d (aB ga g7)⟩
theorem nB{w:World}{A:OA}{l:List dO}(h:bC w A (cK l)){j:Nat}(hj:j<l.length):∃ a,A=some a/\w.cell? (a.add (j*4))=some (.int .i64 l[j].t)/\w.cell? ((a.add (j*4)).add 1)=some (.int .u32 l[j].u)/\w.cell? ((a.add (j*4)).add 2)=some (.int .u32 l[j].v)/\w.cell? ((a.add (j*4)).add 3)=some (.bool l[j].add):=by
 obtain⟨h1,h2,h3,h4⟩:=wW hj;obtain⟨a,e1,e2⟩:=h _ _ h1;have rd:∀ k u,(cK l)[j*4+k]?=some u->w.cell? ((a.add (j*4)).add k)=some u:=fun k u hk=>by
  obtain⟨a',q1,q2⟩:=h _ _ hk;rw[e1]at q1;cases q1;rw[eV];exact q2
 exact⟨a,e1,e2,rd 1 _ h2,rd 2 _ h3,rd 3 _ h4⟩
def AB(N:Int)(e:dO):Bool:=decide (e.u<e.v/\e.v<N)
def jD(N:Int):List dO->Option dO->List Edge->Nat->Int×Int
 | [],_,_,_=>(0,0)
 | e ::l,p,now,i=>if e.t<0∨e.t>4611686018427387903 then((i:Int),26) else if AB N e=false then((i:Int),24) else
  if(match p with | none=>true | some q=>bL q e)=false then((i:Int),23) else match cX now e with
  | none=>((i:Int),25)
  | some x=>jD N l (some e) x (i+1)
theorem uR(N:Int)(e:dO)(l:List dO)(p:Option dO)(now:List Edge)(i:Nat):jD N (e ::l) p now i=if e.t<0∨e.t>4611686018427387903 then((i:Int),26) else if AB N e=false then((i:Int),24) else
    if(match p with | none=>true | some q=>bL q e)=false then((i:Int),23) else match cX now e with
    | none=>((i:Int),25)
    | some x=>jD N l (some e) x (i+1):=rfl
def gY(N:Int)(l:List dO):Int×Int:=if N>4294967296∨l.length>2147483648 then(0,26) else jD N l none [] 0
theorem rL{l x:List Edge}{e:dO}(h:cX l e=some x):x.length<=l.length+1:=by
 unfold cX at h;split at h
 ·cases h
 ·split at h
  ·cases h
  ·split at h
   ·cases h;simp;omega
   ·cases h;simp;omega
theorem uS {w:World} {A:OA} {n c:Nat} {l:List dO} {N:Int} (hr:bC w A (cK l)) (hn:n=l.length) (hl:n<=2^20) (hb:∀ e∈l,(0<=e.u/\e.u<=4294967295)/\0<=e.v/\e.v<=4294967295) :
    Calls P 51 #[.agg #[.int .u64 N,.slice A n c]] w fun ev w'=>ev=.returned (.tuple #[.int .i64 (gY N l).1,.int .i64 (gY N l).2])/\w.grownBy w' none:=by
  apply vc51;dsimp only[VC51,rt,Wt,Br,Rd,Rs,Ix,Ws,cB,nb,ad,al,iq]
  try simp only[aI]
  have g1:=World.grownBy_alloc w (.cells #[.int .u64 N,.slice A n c] 31) none;have b1:(w.alloc (.cells #[.int .u64 N,.slice A n c] 31)).heap[w.heap.size]?=some (.cells #[.int .u64 N,.slice A n c] 31 (0,0)):=heap_alloc_new w _;obtain⟨w1,DU⟩:∃ w1,w1=w.alloc (.cells #[.int .u64 N,.slice A n c] 31):=⟨_,rfl⟩;rw[← DU]at g1 b1 ⊢;have keep:∀ w',w1.grownBy w' none->w'.heap[w.heap.size]?=some (.cells #[.int .u64 N,.slice A n c] 31 (0,0)):=fun w' g=>by rw[g.block _ (Array.getElem?_eq_some_iff.1 b1).1 (by simp)];exact b1
  refine⟨_,aA b1 0,fun h=>⟨by rw[gY,if_pos (.inl h)],g1⟩,fun h=>⟨_,_,_,aA b1 1,fun h2=>⟨by rw[gY,if_pos (.inr (by omega))],g1⟩,fun h2=>?_⟩⟩;have KX:gY N l=jD N l none [] 0:=by rw[gY,if_neg (by omega)]
  refine⟨fun m B k d i w2=>∃(j:Nat)(now:List Edge),i=(j:Int)/\j<=l.length/\m=l.length-j/\aD w2 w1.heap.size 68 2 B k d (aV now)/\now.length<=j/\gY N l=jD N (l.drop j) (if j=0 then none else l[j-1]?) now j/\w1.grownBy w2 none,
    ⟨_,0,[],rfl,by omega,rfl,aD.nil _ _ _ _,by simp,by simpa using KX,aF _ _⟩,?_⟩
  rintro m B k d i w2 ⟨j,now,rfl,hj,rfl,ho,Kx,Eh,hg⟩;have tj:(j:Int).toNat=j:=by omega
  have tj1:((j:Int)-1).toNat=j-1:=by omega
  have hk:k=now.length:=by have:=ho.cases.1;rw[jB]at this;omega
  rw[tj,tj1];refine⟨_,_,_,aA (keep w2 hg) 1,fun DL=>?_,fun DR=>?_⟩
  · have lj:j<l.length:=by omega
    rw[List.drop_eq_getElem_cons lj,uR]at Eh;obtain⟨a,e1,e2,e3,e4,e5⟩:=nB ((hr.kept_none g1).kept_none hg) lj;have K7:=hb _ (List.getElem_mem lj);have ga:=World.grownBy_alloc w2 (.cells #[.int .i64 0,.int .u32 0,.int .u32 0,.bool false] 73) none;have s0:(w2.alloc (.cells #[.int .i64 0,.int .u32 0,.int .u32 0,.bool false] 73)).heap[w2.heap.size]?=some (.cells #[.int .i64 0,.int .u32 0,.int .u32 0,.bool false] 73 (0,0)):=heap_alloc_new w2 _;obtain⟨wa,FC⟩:∃ wa,wa=w2.alloc (.cells #[.int .i64 0,.int .u32 0,.int .u32 0,.bool false] 73):=⟨_,rfl⟩;rw[← FC]at ga s0 ⊢;have s1:=aH s0 0 (.int .i64 l[j].t);have s2:=aH s1 1 (.int .u32 l[j].u);have s3:=aH s2 2 (.int .u32 l[j].v);have s4:=aH s3 3 (.bool l[j].add);have K4:Kp w2 ((((wa.setCell ⟨w2.heap.size,0,none⟩ (.int .i64 l[j].t)).setCell ⟨w2.heap.size,1,none⟩ (.int .u32 l[j].u)).setCell ⟨w2.heap.size,2,none⟩ (.int .u32 l[j].v)).setCell ⟨w2.heap.size,3,none⟩ (.bool l[j].add)) (fun k=>w2.heap.size<=k):=cH (cH (cH (cH (Kp.of_none ga) (Nat.le_refl _)) (Nat.le_refl _)) (Nat.le_refl _)) (Nat.le_refl _);refine⟨_,_,_,aA (keep w2 hg) 1,a,e1,by omega,by omega,_,e2,_,e3,_,e4,_,e5,⟨_,aA s0 0⟩,aC s0 0,⟨_,aA s1 1⟩,aC s1 1,⟨_,aA s2 2⟩,aC s2 2,⟨_,aA s3 3⟩,aC s3 3,?_⟩;obtain⟨w4,ER⟩:∃ w4,w4=(((wa.setCell ⟨w2.heap.size,0,none⟩ (.int .i64 l[j].t)).setCell ⟨w2.heap.size,1,none⟩ (.int .u32 l[j].u)).setCell ⟨w2.heap.size,2,none⟩ (.int .u32 l[j].v)).setCell ⟨w2.heap.size,3,none⟩ (.bool l[j].add):=⟨_,rfl⟩;rw[← ER]at s4 K4 ⊢;replace s4:w4.heap[w2.heap.size]?=some (.cells #[.int .i64 l[j].t,.int .u32 l[j].u,.int .u32 l[j].v,.bool l[j].add] 73 (0,0)):=by simpa using s4
    have FW:w2.grownBy w4 none:=K4.grown (fun k hk e=>by omega);have Ff:=aB hg FW;have EI:=aB g1 Ff;refine⟨_,aA s4 0,fun h=>⟨by rw[Eh,if_pos (.inl h)],EI⟩,fun h0=>⟨_,aA s4 0,fun h=>⟨by rw[Eh,if_pos (.inr h)],EI⟩,fun h1=>⟨_,aA s4 1,_,aA s4 2,_,aA (keep w4 Ff) 0,?_⟩⟩⟩;rw[if_neg (by omega)]at Eh;refine(tQ (l[j].u,l[j].v) K7.2).mono fun ev w5 hh=>?_;obtain⟨rfl,g5⟩:=hh;have Fp:=aB Ff g5;refine⟨_,rfl,fun h=>⟨by rw[Eh,if_pos (show AB N l[j]=false from h)],aB g1 Fp⟩,fun h=>?_⟩;rw[if_neg (show ¬ AB N l[j]=false from h)]at Eh;have s5:∀ w',w4.grownBy w' none->w'.heap[w2.heap.size]?=some (.cells #[.int .i64 l[j].t,.int .u32 l[j].u,.int .u32 l[j].v,.bool l[j].add] 73 (0,0)):=fun w' g=>by rw[g.block _ (Array.getElem?_eq_some_iff.1 s4).1 (by simp)];exact s4
    have gd:=aG g5;have FO:=mR ho;have Ev:k<=d:=pO ho
    -- the turn, behind whatever was looked at
    have fin:(match (if j=0 then none else l[j-1]?)with | none=>true | some q=>bL q l[j])=true->∀ w6,w4.grownBy w6 none->Calls P 29 #[.slice B k d,.agg #[.int .i64 l[j].t,.int .u32 l[j].u,.int .u32 l[j].v,.bool l[j].add]] w6 fun ev w7=>∃(C:OA)(cn cc:Nat)(q:Bool),ev=.returned (.tuple #[.slice C cn cc,.bool q])/\((q=false->Ending.returned (Value.tuple #[.int .i64 (j:Int),.int .i64 25])=Ending.returned (Value.tuple #[.int .i64 (gY N l).1,.int .i64 (gY N l).2])/\w.grownBy w7 none)/\(¬ q=false->(-9223372036854775808<=(j:Int)+1/\(j:Int)+1<=9223372036854775807)/\∃ m_1,m_1<l.length-j/\∃(j':Nat)(now':List Edge),(j:Int)+1=(j':Int)/\j'<=l.length/\m_1=l.length-j'/\aD w7 w1.heap.size 68 2 C cn cc (aV now')/\now'.length<=j'/\gY N l=jD N (l.drop j') (if j'=0 then none else l[j'-1]?) now' j'/\w1.grownBy w7 none)):=by
      intro K8 w6 g6;rw[if_neg (by rw[K8];simp)]at Eh;have IT:=aB FW g6;refine(oQ (e:=l[j]) ((ho.kept IT).row) hk Ev FO (by omega)).mono fun ev w7 hh=>?_;obtain⟨C,cn,cc,rfl,oC,g7⟩:=hh;have g17:=aB (aB hg IT) g7;refine⟨_,_,_,_,rfl,fun hq=>?_,fun hq=>?_⟩
      · cases ht:cX now l[j]with
        | some x=>rw[ht]at hq;cases hq
        | none =>
          rw[ht]at Eh;exact⟨by rw[Eh],aB g1 g17⟩
      · cases ht:cX now l[j]with
        | none=>rw[ht]at hq;exact absurd rfl hq
        | some x =>
          rw[ht]at Eh oC;have:=rL ht;refine⟨⟨by omega,by omega⟩,l.length-(j+1),by omega,j+1,x,by omega,by omega,rfl,oC.mono (Nat.le_trans hg.size IT.size),by omega,?_,g17⟩;rw[Eh];simp[lj]
    refine⟨fun Ed=>?_,fun hz=>?_⟩
    · have lj1:j-1<l.length:=by omega
      obtain⟨a',f1,f2,f3,f4,f5⟩:=nB ((hr.kept_none g1).kept_none (aB Ff gd)) lj1;have sd:=s5 w5.drew gd;have Fu:(if j=0 then none else l[j-1]?)=some l[j-1]:=by rw[if_neg (by omega)];simp[lj1]
      refine⟨_,_,_,aA (keep w5.drew (aB Ff gd)) 1,by omega,a',f1,by omega,by omega,_,f2,_,f3,_,f4,_,f5,_,aA sd 0,_,aA sd 1,_,aA sd 2,_,aA sd 3,?_⟩;refine(mD l[j-1] l[j]).mono fun ev w6 hh=>?_;obtain⟨rfl,g6⟩:=hh;have IS:=aB gd g6;refine⟨_,rfl,fun hq=>⟨?_,aB g1 (aB Ff IS)⟩,fun hq=>?_⟩
      · rw[Eh,Fu,if_pos hq]
      · have s6:=s5 w6 IS;exact⟨_,aA s6 0,_,aA s6 1,_,aA s6 2,_,aA s6 3,fin (by rw[Fu];simpa using hq) w6 IS⟩
    · have j0:j=0:=by omega
      have sd:=s5 w5.drew gd;exact⟨_,aA sd 0,_,aA sd 1,_,aA sd 2,_,aA sd 3,fin (by rw[if_pos j0]) w5.drew gd⟩
  · have e:j=l.length:=by omega
    subst e;rw[List.drop_length]at Eh;exact⟨by rw[Eh];rfl,aB g1 hg⟩
def jF(k:Int):Int:=([8,5,2,4294967296,300,12,1048576,3]:List Int).getD (k % 8).toNat 0
theorem oO(k:Int):2<=jF k/\jF k<=4294967296:=by
 have h:∀ t:Fin 8,2<=([8,5,2,4294967296,300,12,1048576,3]:List Int).getD t.val 0/\([8,5,2,4294967296,300,12,1048576,3]:List Int).getD t.val 0<=4294967296:=by decide
 exact h ⟨(k % 8).toNat,by omega⟩
theorem oM{w:World}{k:Int}(hk:0<=k/\k<=255):Calls P 25 #[.int .u8 k] w fun ev w'=>ev=.returned (.int .u64 (jF k))/\w.grownBy w' none:=by
 apply vc25;dsimp only[VC25,Ix,nb];have g:=World.grownBy_alloc w (.cells #[.int .u64 8,.int .u64 5,.int .u64 2,.int .u64 4294967296,.int .u64 300,.int .u64 12,.int .u64 1048576,.int .u64 3] 28) none;have hr:bC (w.alloc (.cells #[.int .u64 8,.int .u64 5,.int .u64 2,.int .u64 4294967296,.int .u64 300,.int .u64 12,.int .u64 1048576,.int .u64 3] 28)) (some ⟨w.heap.size,0,none⟩) (([8,5,2,4294967296,300,12,1048576,3]:List Int).map (Value.int .u64)):=fD w _ 28;have DL:(k % 8).toNat<([8,5,2,4294967296,300,12,1048576,3]:List Int).length:=by simp;omega
 obtain⟨a,e1,e2⟩:=hr (k % 8).toNat (.int .u64 (jF k)) (by rw[List.getElem?_map,List.getElem?_eq_getElem DL,jF,List.getD_eq_getElem?_getD,List.getElem?_eq_getElem DL];rfl);exact⟨⟨by omega,by omega⟩,a,e1,by omega,by omega,_,e2,rfl,g⟩
def fT(a most n:Int):Int:=if a>most then n-1-a % mn n 9 else a % mn n 9
def cE(a b n:Int):Edge×Bool:=if fT a 230 n=fT b 240 n then((0,0),false) else((mn (fT a 230 n) (fT b 240 n),mx (fT a 230 n) (fT b 240 n)),true)
theorem lJ{a most n:Int}(ha:0<=a)(hn:2<=n/\n<=4294967296):0<=fT a most n/\fT a most n<n:=by
 have h1:1<=mn n 9/\mn n 9<=n:=by unfold mn;split <;>omega
 have h2:=Int.emod_nonneg a (show mn n 9≠0 by omega);have h3:=Int.emod_lt_of_pos a (show 0<mn n 9 by omega);unfold fT;split <;>omega
theorem nU{w:World}{a b n:Int}(ha:0<=a/\a<=255)(hb:0<=b/\b<=255)(hn:2<=n/\n<=4294967296):Calls P 26 #[.int .u8 a,.int .u8 b,.int .u64 n] w fun ev w'=>ev=.returned (.tuple #[sN (cE a b n).1,.bool (cE a b n).2])/\w.grownBy w' none:=by
 apply vc26;dsimp only[VC26,rt,Wt,Br,Rd,Ws,nb]
 try simp only[aI]
 have h1:1<=mn n 9/\mn n 9<=n:=by unfold mn;split <;>omega
 have ua:=lJ (most:=230) ha.1 hn;have ub:=lJ (most:=240) hb.1 hn;have a2:=Int.emod_nonneg a (show mn n 9≠0 by omega);have a3:=Int.emod_lt_of_pos a (show 0<mn n 9 by omega);have c2:=Int.emod_nonneg b (show mn n 9≠0 by omega);have c3:=Int.emod_lt_of_pos b (show 0<mn n 9 by omega);have g1:=aG (World.grownBy_alloc w (.cells #[.int .u32 0,.int .u32 0] 68) none);have b1:(w.alloc (.cells #[.int .u32 0,.int .u32 0] 68)).drew.heap[w.heap.size]?=some (.cells #[.int .u32 0,.int .u32 0] 68 (0,0)):=heap_alloc_new w _;obtain⟨w1,DU⟩:∃ w1,w1=(w.alloc (.cells #[.int .u32 0,.int .u32 0] 68)).drew:=⟨_,rfl⟩;rw[← DU]at g1 b1 ⊢;refine⟨by omega,⟨by omega,by omega⟩,by omega,⟨by omega,by omega⟩,fun u w'=>u=fT a 230 n/\w'=w1,⟨fun h=>⟨by omega,by omega,by unfold fT;rw[if_pos h],rfl⟩,fun h=>⟨by unfold fT;rw[if_neg h],rfl⟩⟩,?_⟩;rintro u w2 ⟨hu,ES⟩;rw[ES];clear ES;refine⟨fun v w'=>v=fT b 240 n/\w'=w1,⟨fun h=>⟨by omega,by omega,by unfold fT;rw[if_pos h],rfl⟩,fun h=>⟨by unfold fT;rw[if_neg h],rfl⟩⟩,?_⟩;rintro v w3 ⟨hv,EJ⟩;rw[EJ];clear EJ;rw[← hu]at ua;rw[← hv]at ub;have hm:0<=mn u v/\mn u v<=4294967295/\0<=mx u v/\mx u v<=4294967295:=by unfold mn mx;split <;>split <;>omega
 have fin:∀ p q:Int,w.grownBy ((w1.setCell ⟨w.heap.size,0,none⟩ (.int .u32 p)).setCell ⟨w.heap.size,1,none⟩ (.int .u32 q)) none:=fun p q=>(cH (cH (Kp.of_none (S:=fun k=>w.heap.size<=k) g1) (Nat.le_refl _)) (Nat.le_refl _)).grown (fun k hk e=>by omega);refine⟨fun he=>?_,fun he=>?_⟩
 ·have s1:=aH b1 0 (.int .u32 0);have s2:=aH s1 1 (.int .u32 0);refine⟨⟨_,aA b1 0⟩,aC b1 0,⟨_,aA s1 1⟩,aC s1 1,0,aA s2 0,0,aA s2 1,?_,fin 0 0⟩;unfold cE;rw[if_pos (by omega)]
 ·have s1:=aH b1 0 (.int .u32 (mn u v));have s2:=aH s1 1 (.int .u32 (mx u v));refine⟨by omega,by omega,⟨_,aA b1 0⟩,aC b1 0,⟨_,aA s1 1⟩,aC s1 1,_,aA s2 0,_,aA s2 1,?_,fin _ _⟩;unfold cE;rw[← hu,← hv,if_neg he]
theorem AO:kL P 29 73 4 (P.bytesOf 73):=⟨(P.info? 73).getD default,((P.info? 73).getD default).zero.getD undef,by kernel_rfl,by kernel_rfl,by kernel_rfl,by kernel_rfl,by kernel_rfl,by kernel_rfl,by decide⟩
theorem Cq:P.bytesOf 73<=64:=of_decide_eq_true (by kernel_rfl)
theorem wX(l m:List dO):cK (l++m)=cK l++cK m:=by simp[cK]
theorem Bs(l:List dO)(k:Nat):(cK l).drop (k*4)=cK (l.drop k):=by
 induction k generalizing l with
 | zero=>simp
 | succ k ih =>
  cases l with
  | nil=>simp[cK]
  | cons e l=>rw[show(k+1)*4=k*4+1+1+1+1 by omega];exact ih l
theorem Bq(l:List dO)(k:Nat):(cK l).take (k*4)=cK (l.take k):=by
 induction k generalizing l with
 | zero=>simp[cK]
 | succ k ih =>
  cases l with
  | nil=>simp[cK]
  | cons e l =>
   rw[show(k+1)*4=k*4+1+1+1+1 by omega];show List.take (k*4+1+1+1+1) (.int .i64 e.t ::.int .u32 e.u ::.int .u32 e.v ::.bool e.add ::cK l)=.int .i64 e.t ::.int .u32 e.u ::.int .u32 e.v ::.bool e.add ::cK (List.take k l);rw[List.take_succ_cons,List.take_succ_cons,List.take_succ_cons,List.take_succ_cons,ih]
theorem dL{w:World}{base:Nat}{A B:OA}{n c m d:Nat}{xs ys:List dO}(ho:aD w base 73 4 A n c (cK xs))(hB:bC w B (cK ys))(hm:m=ys.length)(hd:B=none->d=0)(hn:n+m<=2^39)(hb:base<=w.heap.size):
    ∃ (A':OA) (n' c':Nat) (w':World),Sem.run P (Builtin.append_ #[29,29] 29 #[.slice A n c,.slice B m d]) w=.ok (.slice A' n' c') w' ∧
      aD w' base 73 4 A' n' c' (cK (xs++ys))/\w.grownBy w' (Value.slice A n c).ownBlock/\n'=n+m:=by
  cases B with
  | none =>
    have FB:ys=[]:=by
      cases ys with
      | nil=>rfl
      | cons y ys=>obtain⟨a,e,_⟩:=hB 0 _ rfl;cases e
    subst FB;have h0:m=0:=by simpa using hm
    have h1:=hd rfl;subst h0 h1;exact⟨A,n,c,w,ho.appends_nil AO,by simpa using ho,aF _ _,rfl⟩
  | some a =>
    obtain⟨A',n',c',w',h1,h2,h3,h4,_⟩:=ho.appends (ty:=29) AO Cq (a:=a) (m:=m) (cc:=d) (us:=cK ys) (by rw[eM,hm]) (fun j u hj=>by obtain⟨b,q1,q2⟩:=hB j u hj;cases q1;exact q2) (fun u hu=>by
      simp only[cK,List.mem_flatMap]at hu;obtain⟨e,_,he⟩:=hu;simp[C2]at he;rcases he with rfl | rfl | rfl | rfl <;>rfl) (by omega) hb
    exact⟨A',n',c',w',h1,by rw[wX];exact h2,h4,h3⟩
theorem cutV{w:World}{A:OA}{c k:Nat}{l:List dO}(h:bC w A (cK l))(hA:A=none->c=0)(hc:l.length<=c):bC w (bN A c k 4) (cK (l.drop k))/\(bN A c k 4=none->c-k=0):=by
 unfold bN;split
 ·rename_i Eh;refine⟨?_,fun _=>by omega⟩;rw[List.drop_eq_nil_of_le (by omega)];intro j u hj;simp[cK]at hj
 ·have:=h.drop (k*4);rw[Bs]at this;refine⟨this,fun e=>?_⟩;cases A with
  | none=>rw[hA rfl];omega
  | some a=>simp at e
theorem BM{w:World}{A:OA}{l:List dO}(h:bC w A (cK l))(k:Nat):bC w A (cK (l.take k)):=by
 intro j u hj;rw[← Bq,List.getElem?_take]at hj;split at hj
 ·exact h j u hj
 ·cases hj
def aW(l:List dO)(e:dO):Nat->Nat
 | 0=>0
 | k+1=>if bL e (l.getD k ⟨0,0,0,false⟩)=true then aW l e k else k+1
theorem kR(l:List dO)(e:dO):∀ k,aW l e k<=k
 | 0=>Nat.le_refl _
 | k+1=>by
  unfold aW;split
  ·exact Nat.le_succ_of_le (kR l e k)
  ·exact Nat.le_refl _
def fH(l:List dO)(e:dO):List dO :=
 if 0<aW l e l.length/\(l.getD (aW l e l.length-1) ⟨0,0,0,false⟩).t=e.t/\(l.getD (aW l e l.length-1) ⟨0,0,0,false⟩).u=e.u/\(l.getD (aW l e l.length-1) ⟨0,0,0,false⟩).v=e.v then l
 else l.take (aW l e l.length)++(e ::l.drop (aW l e l.length))
theorem uC {w:World} {base:Nat} {A:OA} {n c:Nat} {l:List dO} {e:dO} (ho:aD w base 73 4 A n c (cK l)) (hb:base<=w.heap.size) (hl:n<=2^30) :
    Calls P 27 #[.slice A n c,C1 e] w fun ev w'=>∃(A':OA)(n' c':Nat),ev=.returned (.slice A' n' c')/\aD w' base 73 4 A' n' c' (cK (fH l e))/\w.grownBy w' none:=by
  have hn:n=l.length:=by have:=ho.cases.1;rw[eM]at this;omega
  have hc:=pO ho;have hA:=mR ho;have hr:=ho.row;apply vc27;dsimp only[VC27,Br,Bb,Rd,Rc,Ix,Ap,Eg,cB,nb,ad,al,iq]
  try simp only[aI]
  have g1:=World.grownBy_alloc w (.cells #[.int .i64 e.t,.int .u32 e.u,.int .u32 e.v,.bool e.add] 73) none;have b1:(w.alloc (.cells #[.int .i64 e.t,.int .u32 e.u,.int .u32 e.v,.bool e.add] 73)).heap[w.heap.size]?=some (.cells #[.int .i64 e.t,.int .u32 e.u,.int .u32 e.v,.bool e.add] 73 (0,0)):=heap_alloc_new w _;obtain⟨w1,DU⟩:∃ w1,w1=w.alloc (.cells #[.int .i64 e.t,.int .u32 e.u,.int .u32 e.v,.bool e.add] 73):=⟨_,rfl⟩;rw[← DU]at g1 b1 ⊢;have keep:∀ w',w1.grownBy w' none->w'.heap[w.heap.size]?=some (.cells #[.int .i64 e.t,.int .u32 e.u,.int .u32 e.v,.bool e.add] 73 (0,0)):=fun w' g=>by rw[g.block _ (Array.getElem?_eq_some_iff.1 b1).1 (by simp)];exact b1
  have getD':∀ t (h:t<l.length),l.getD t ⟨0,0,0,false⟩=l[t]:=fun t h=>by simp[List.getD_eq_getElem?_getD,h]
  have Kt:=kR l e l.length;refine⟨fun k w'=>k=(aW l e l.length:Int)/\w1.grownBy w' none,⟨fun m k w2=>∃ j:Nat,k=(j:Int)/\j<=l.length/\m=j/\aW l e l.length=aW l e j/\w1.grownBy w2 none,⟨_,l.length,by omega,Nat.le_refl _,rfl,rfl,aF _ _⟩,?_⟩,?_⟩
  · rintro m k w2 ⟨j,rfl,hj,rfl,hp,hg⟩;have gd:=aG hg;have tj:((m:Int)-1).toNat=m-1:=by omega
    rw[tj];refine⟨fun Ed=>?_,fun hz=>⟨?_,gd⟩⟩
    · have b2:=keep _ gd;obtain⟨a,e1,e2,e3,e4,e5⟩:=nB ((hr.kept_none g1).kept_none gd) (show m-1<l.length by omega);refine⟨_,aA b2 0,_,aA b2 1,_,aA b2 2,_,aA b2 3,by omega,a,e1,by omega,by omega,_,e2,_,e3,_,e4,_,e5,?_⟩;refine(mD e l[m-1]).mono fun ev w3 hh=>?_;obtain⟨rfl,g3⟩:=hh;have Em:aW l e m=if bL e l[m-1]=true then aW l e (m-1) else m:=by
        obtain⟨q,rfl⟩:∃ q,m=q+1:=⟨m-1,by omega⟩;rw[aW,getD' q (by omega)];rfl
      refine⟨_,rfl,fun h=>⟨by omega,m-1,by omega,m-1,by omega,by omega,rfl,by rw[hp,Em,if_pos h],aB gd g3⟩,fun h=>⟨by rw[hp,Em,if_neg (by rw[h];simp)],aB gd g3⟩⟩
    · have:m=0:=by omega
      subst this;rw[hp];rfl
  · rintro k w3 ⟨rfl,g3⟩;have EH:fH l e=if 0<aW l e l.length/\(l.getD (aW l e l.length-1) ⟨0,0,0,false⟩).t=e.t/\(l.getD (aW l e l.length-1) ⟨0,0,0,false⟩).u=e.u/\(l.getD (aW l e l.length-1) ⟨0,0,0,false⟩).v=e.v then l else l.take (aW l e l.length)++(e ::l.drop (aW l e l.length)):=rfl;generalize aW l e l.length=k at *;have tk:(k:Int).toNat=k:=by omega
    have tk1:((k:Int)-1).toNat=k-1:=by omega
    rw[tk,tk1];have gd:=aG g3;have b3:=keep _ gd;refine⟨fun q w'=>q=decide (0<k/\(l.getD (k-1) ⟨0,0,0,false⟩).t=e.t/\(l.getD (k-1) ⟨0,0,0,false⟩).u=e.u/\(l.getD (k-1) ⟨0,0,0,false⟩).v=e.v)/\w1.grownBy w' none,⟨fun Ed=>?_,fun hz=>⟨by simp;omega,gd⟩⟩,?_⟩
    · obtain⟨a,e1,e2,e3,e4,e5⟩:=nB ((hr.kept_none g1).kept_none gd) (show k-1<l.length by omega);refine⟨by omega,a,e1,by omega,by omega,_,e2,_,aA b3 0,fun ht=>⟨by omega,a,e1,by omega,by omega,_,e3,_,by rw[eV];exact e4,_,aA b3 1,_,aA b3 2,_,fun w=>Av _ _ _ _ _ _ w,?_,gd⟩,fun ht=>⟨?_,gd⟩⟩
      · rw[getD' (k-1) (by omega),decide_eq_decide];exact⟨fun h=>⟨by omega,ht,h.1,h.2⟩,fun h=>h.2.2⟩
      · rw[getD' (k-1) (by omega)]
        symm;rw[decide_eq_false_iff_not]
        exact fun h=>ht h.2.1
    · rintro q w4 ⟨hq,g4⟩;refine⟨fun h=>?_,fun h=>?_⟩
      · rw[h]at hq;rw[EH,if_pos (of_decide_eq_true hq.symm)];exact⟨_,_,_,rfl,ho.kept (aB g1 g4),aB g1 g4⟩
      · rw[h]at hq;rw[EH,if_neg (of_decide_eq_false hq.symm)];have gd:=aG g4;have g0d:=aB g1 gd;have rd:=hr.kept_none g0d;refine⟨fun w'=>w1.grownBy w' none,gd,⟨⟨by omega,by omega⟩,?_⟩,⟨⟨by omega,by omega⟩,?_⟩⟩
        · obtain⟨A5,n5,c5,w5,f1,f2,f3,f4⟩:=dL (n:=0) (c:=0) (A:=none) (xs:=[]) (aD.nil w4.drew w4.drew.heap.size 73 4) (m:=k) (d:=c) (BM rd k) (by rw[List.length_take];omega) hA (by omega) (Nat.le_refl _);have g5:w4.drew.grownBy w5 none:=bO (aF w4.drew none) f3 (fun k hk=>by simp[Value.ownBlock]at hk);rw[List.nil_append]at f2;have Fp:=aB gd g5;have ga:=World.grownBy_alloc w5 (.cells #[.int .i64 e.t,.int .u32 e.u,.int .u32 e.v,.bool e.add] 73) none;have ra:bC (w5.alloc (.cells #[.int .i64 e.t,.int .u32 e.u,.int .u32 e.v,.bool e.add] 73)) (some ⟨w5.heap.size,0,none⟩) (cK [e]):=fD w5 _ 73;obtain⟨A6,n6,c6,w6,p1,p2,p3,p4⟩:=dL (f2.kept ga) (m:=1) (d:=1) ra rfl (fun h=>by cases h) (by omega) (Nat.le_trans g5.size ga.size);have IR:=aB g5 ga;have g6:=bO IR p3 f2.block_ge;obtain⟨r7,d7⟩:=cutV (k:=k) (rd.kept_none g6) hA (by omega);obtain⟨A7,n7,c7,w7,q1,q2,q3,q4⟩:=dL p2 (m:=n-k) (d:=c-k) r7 (by rw[List.length_drop];omega) d7 (by omega) g6.size;have g7:=bO g6 q3 p2.block_ge;exact⟨_,_,_,w5,f1,Fp,_,fun w' h=>aA (keep w' h) 0,_,fun w' h=>aA (keep w' h) 1,_,fun w' h=>aA (keep w' h) 2,_,fun w' h=>aA (keep w' h) 3,aB Fp ga,_,_,_,w6,p1,aB gd g6,⟨by omega,by omega⟩,_,_,_,w7,q1,aB gd g7,_,_,_,rfl,by simpa using q2.mono (Nat.le_trans hb g0d.size),aB g0d g7⟩
        · refine⟨_,fun w' h=>aA (keep w' h) 0,_,fun w' h=>aA (keep w' h) 1,_,fun w' h=>aA (keep w' h) 2,_,fun w' h=>aA (keep w' h) 3,?_⟩;have ga:=World.grownBy_alloc w4.drew (.cells #[.int .i64 e.t,.int .u32 e.u,.int .u32 e.v,.bool e.add] 73) none;have ra:bC (w4.drew.alloc (.cells #[.int .i64 e.t,.int .u32 e.u,.int .u32 e.v,.bool e.add] 73)) (some ⟨w4.drew.heap.size,0,none⟩) (cK [e]):=fD w4.drew _ 73;obtain⟨wa,FC⟩:∃ wa,wa=w4.drew.alloc (.cells #[.int .i64 e.t,.int .u32 e.u,.int .u32 e.v,.bool e.add] 73):=⟨_,rfl⟩;show(fun w'=>w1.grownBy w' none) (w4.drew.alloc (.cells #[.int .i64 e.t,.int .u32 e.u,.int .u32 e.v,.bool e.add] 73))/\_;rw[← FC]at ga ra ⊢;obtain⟨A5,n5,c5,w5,f1,f2,f3,f4⟩:=dL (n:=0) (c:=0) (A:=none) (xs:=[]) (aD.nil wa wa.heap.size 73 4) (m:=k) (d:=c) (BM (rd.kept_none ga) k) (by rw[List.length_take];omega) hA (by omega) (Nat.le_refl _);have g5:wa.grownBy w5 none:=bO (aF wa none) f3 (fun k hk=>by simp[Value.ownBlock]at hk);rw[List.nil_append]at f2;obtain⟨A6,n6,c6,w6,p1,p2,p3,p4⟩:=dL f2 (m:=1) (d:=1) (ra.kept_none g5) rfl (fun h=>by cases h) (by omega) g5.size;have g6:=bO g5 p3 f2.block_ge;obtain⟨r7,d7⟩:=cutV (k:=k) ((rd.kept_none ga).kept_none g6) hA (by omega);obtain⟨A7,n7,c7,w7,q1,q2,q3,q4⟩:=dL p2 (m:=n-k) (d:=c-k) r7 (by rw[List.length_drop];omega) d7 (by omega) g6.size;have g7:=bO g6 q3 p2.block_ge;have g1a:=aB gd ga;exact⟨g1a,_,_,_,w5,f1,aB g1a g5,_,_,_,w6,p1,aB g1a g6,⟨by omega,by omega⟩,_,_,_,w7,q1,aB g1a g7,_,_,_,rfl,by simpa using q2.mono (Nat.le_trans hb (Nat.le_trans g0d.size ga.size)),aB g0d (aB ga g7)⟩
def hY(t a:Int):Int:=if a>240 then t+a % 4+2^(a % 40).toNat else t+a % 4
def jG(n a b c t:Int)(ts:List dO):List dO:=if(cE b c n).2=true then fH ts ⟨hY t a,(cE b c n).1.1,(cE b c n).1.2,false⟩ else ts
def aT(n:Int):List Int->Int->List dO->List dO
 | a ::b ::c ::l,t,ts=>if ts.length<40 then aT n l (hY t a) (jG n a b c t ts) else ts
 | _,_,ts=>ts
def eG:List dO->List Edge->List dO
 | [],_=>[]
 | e ::l,now=>⟨e.t,e.u,e.v,!decide ((e.u,e.v)∈now)⟩ ::eG l ((cX now ⟨e.t,e.u,e.v,!decide ((e.u,e.v)∈now)⟩).getD [])
def fK(k:Int)(l:List Int):List dO:=eG (aT (jF k) l (k % 3) []) []
theorem Ch{a b n:Int}(ha:0<=a)(hb:0<=b)(hn:2<=n/\n<=4294967296)(h:(cE a b n).2=true):0<=(cE a b n).1.1/\(cE a b n).1.1<(cE a b n).1.2/\(cE a b n).1.2<n:=by
 have ua:=lJ (most:=230) ha hn;have ub:=lJ (most:=240) hb hn;unfold cE at h ⊢;split at h
 ·cases h
 ·rename_i DN;rw[if_neg DN];simp only[mn,mx];split <;>split <;>omega
theorem pX(l:List dO)(e:dO):(fH l e).length<=l.length+1:=by
 unfold fH;split
 ·omega
 ·simp only[List.length_append,List.length_cons,List.length_take,List.length_drop];omega
theorem wJ{l:List dO}{e x:dO}(h:x∈fH l e):x∈l∨x=e:=by
 unfold fH at h;split at h
 ·exact .inl h
 ·rcases List.mem_append.1 h with q | q
  ·exact .inl (List.mem_of_mem_take q)
  ·rcases List.mem_cons.1 q with q | q
   ·exact .inr q
   ·exact .inl (List.mem_of_mem_drop q)
theorem lG(n a b c t:Int)(ts:List dO):(jG n a b c t ts).length<=ts.length+1:=by
 unfold jG;split
 ·exact pX _ _
 ·omega
theorem fS(n:Int):∀(l:List Int)(t:Int)(ts:List dO),ts.length<=40->(aT n l t ts).length<=40
 | a ::b ::c ::l,t,ts,h=>by
  rw[aT];split
  ·have:=lG n a b c t ts;exact fS n l _ _ (by omega)
  ·exact h
 | [],t,ts,h=>by simpa[aT]using h
 | [_],t,ts,h=>by simpa[aT]using h
 | [_,_],t,ts,h=>by simpa[aT]using h
theorem kK:∀(l:List dO)(now:List Edge),(eG l now).length=l.length
 | [],_=>rfl
 | e ::l,now=>by rw[eG,List.length_cons,List.length_cons,kK l]
theorem nX(k:Int)(l:List Int):(fK k l).length<=40:=by
 rw[fK,kK];exact fS _ _ _ _ (by simp)
theorem qK{N t:Int}{ts:List dO}:∀(q:List Int),q.length<=2->aT N q t ts=ts
 | [],_=>by simp[aT]
 | [_],_=>by simp[aT]
 | [_,_],_=>by simp[aT]
 | _ ::_ ::_ ::_,h=>by simp at h
theorem qV {w:World} {A:OA} {n c:Nat} {l:List Int} {k:Int} (hr:bC w A (bY l)) (hn:n=l.length) (hb:aN l) (hk:0<=k/\k<=255) (hl:n<=2^10) :
    Calls P 10 #[.int .u8 k,.slice A n c] w fun ev w'=>∃(A':OA)(n' c':Nat),ev=.returned (.agg #[.int .u64 (jF k),.slice A' n' c'])/\aD w' w.heap.size 73 4 A' n' c' (cK (fK k l))/\w.grownBy w' none:=by
  apply vc10;dsimp only[VC10,Wt,Br,Bb,Rd,Rc,Rs,Ix,Ap,Ws,cI,cB,cS,nb,ad,al,iq]
  try simp only[aI]
  have hN:=oO k;have g0:=World.grownBy_alloc w (.cells #[.int .u64 0,.slice none 0 0] 31) none;have b0:(w.alloc (.cells #[.int .u64 0,.slice none 0 0] 31)).heap[w.heap.size]?=some (.cells #[.int .u64 0,.slice none 0 0] 31 (0,0)):=heap_alloc_new w _;obtain⟨w0,HQ⟩:∃ w0,w0=w.alloc (.cells #[.int .u64 0,.slice none 0 0] 31):=⟨_,rfl⟩;rw[← HQ]at g0 b0 ⊢;refine(oM hk).mono fun ev w1 hh=>?_;obtain⟨rfl,g1⟩:=hh;have GL:fK k l=eG (aT (jF k) l (k % 3) []) []:=rfl;have Gn:=fS (jF k) l (k % 3) [] (by simp);generalize jF k=N at *;refine⟨_,rfl,?_⟩;have ga:=World.grownBy_alloc w1 (.cells #[.int .u64 0,.slice none 0 0] 31) none;have s0:(w1.alloc (.cells #[.int .u64 0,.slice none 0 0] 31)).heap[w1.heap.size]?=some (.cells #[.int .u64 0,.slice none 0 0] 31 (0,0)):=heap_alloc_new w1 _;have s1:=aH s0 0 (.int .u64 N);have s2:=aH s1 1 (.slice none 0 0);have K2:Kp w1 (((w1.alloc (.cells #[.int .u64 0,.slice none 0 0] 31)).setCell ⟨w1.heap.size,0,none⟩ (.int .u64 N)).setCell ⟨w1.heap.size,1,none⟩ (.slice none 0 0)) (fun k=>w1.heap.size<=k):=cH (cH (Kp.of_none ga) (Nat.le_refl _)) (Nat.le_refl _);refine⟨⟨_,aA s0 0⟩,aC s0 0,⟨_,aA s1 1⟩,aC s1 1,⟨by omega,by omega⟩,by omega,?_⟩;obtain⟨w2,ES⟩:∃ w2,w2=((w1.alloc (.cells #[.int .u64 0,.slice none 0 0] 31)).setCell ⟨w1.heap.size,0,none⟩ (.int .u64 N)).setCell ⟨w1.heap.size,1,none⟩ (.slice none 0 0):=⟨_,rfl⟩;rw[← ES]at s2 K2 ⊢;replace s2:w2.heap[w1.heap.size]?=some (.cells #[.int .u64 N,.slice none 0 0] 31 (0,0)):=by simpa using s2
  have EN:w1.grownBy w2 none:=K2.grown (fun k hk e=>by omega);have Fq:=aB g0 g1;have EP:=aB Fq EN;have Jk:w1.heap.size<w2.heap.size:=(Array.getElem?_eq_some_iff.1 s2).1;have keep:∀ w',w2.grownBy w' none->w'.heap[w1.heap.size]?=some (.cells #[.int .u64 N,.slice none 0 0] 31 (0,0)):=fun w' g=>by rw[g.block _ Jk (by simp)];exact s2
  have rd:∀(w':World)(p:Nat),w2.grownBy w' none->(h:p<l.length)->∃ a,A=some a/\w'.cell? (a.add p)=some (.int .u8 l[p]):=fun w' p g h=>((hr.kept_none EP).kept_none g) p (.int .u8 l[p]) (by simp[h]);refine⟨fun tA tn tc w'=>aD w' w.heap.size 73 4 tA tn tc (cK (aT N l (k % 3) []))/\w2.grownBy w' none,⟨fun m t tA tn tc i w'=>∃(p:Nat)(ts:List dO),i=(p:Int)/\p<=l.length+2/\m=l.length+3-p/\aD w' w.heap.size 73 4 tA tn tc (cK ts)/\ts.length<=40/\0<=t/\t<=(p:Int)*2199023255552+2/\aT N l (k % 3) []=aT N (l.drop p) t ts/\w2.grownBy w' none,
    ⟨_,0,[],rfl,by omega,rfl,aD.nil _ _ _ _,by simp,by omega,by omega,by simp,aF _ _⟩,?_⟩,?_⟩
  · rintro m t tA tn tc i w3 ⟨p,ts,rfl,hp,rfl,ho,FY,Ji,Jh,FZ,hg⟩;have tp:(p:Int).toNat=p:=by omega
    have tp1:((p:Int)+1).toNat=p+1:=by omega
    have tp2:((p:Int)+2).toNat=p+2:=by omega
    rw[tp,tp1,tp2];have FD:tn=ts.length:=by have:=ho.cases.1;rw[eM]at this;omega
    refine⟨by omega,fun DL=>⟨fun Lq=>?_,fun Lq=>?_⟩,fun DR=>?_⟩
    · have lp:p+2<l.length:=by omega
      have Fb:l.drop p=l[p] ::l[p+1] ::l[p+2] ::l.drop (p+3):=by
        rw[List.drop_eq_getElem_cons (show p<l.length by omega),List.drop_eq_getElem_cons (show p+1<l.length by omega),List.drop_eq_getElem_cons (show p+1+1<l.length by omega)]
      rw[Fb,aT,if_pos (by omega)]at FZ;obtain⟨a,e1,e2⟩:=rd w3 p hg (by omega);have hx:=hb _ (List.getElem_mem (show p<l.length by omega));have hy:=hb _ (List.getElem_mem (show p+1<l.length by omega));have hz:=hb _ (List.getElem_mem (show p+2<l.length by omega));have LH:(2:Int)^(l[p] % 40).toNat<=549755813888/\0<(2:Int)^(l[p] % 40).toNat:=by
        have:=Nat.pow_le_pow_right (n:=2) (by omega) (show(l[p] % 40).toNat<=39 by omega);have:=Nat.two_pow_pos (l[p] % 40).toNat;have e:((2^(l[p] % 40).toNat:Nat):Int)=2^(l[p] % 40).toNat:=by simp
        omega
      refine⟨a,e1,by omega,by omega,_,e2,⟨by omega,by omega⟩,by omega,by omega,fun t1 w'=>t1=hY t l[p]/\w'=w3,⟨a,e1,by omega,by omega,_,e2,fun FV=>⟨a,e1,by omega,by omega,_,e2,⟨by omega,by omega⟩,⟨by omega,?_⟩,?_,?_,rfl⟩,fun FV=>⟨by unfold hY;rw[if_neg FV],rfl⟩⟩,?_⟩
      · rw[show min (l[p] % 40).toNat 64=(l[p] % 40).toNat by omega];omega
      · rw[show min (l[p] % 40).toNat 64=(l[p] % 40).toNat by omega];omega
      · rw[show min (l[p] % 40).toNat 64=(l[p] % 40).toNat by omega];unfold hY;rw[if_pos FV];omega
      rintro t1 w4 ⟨ht,ER⟩;rw[ER];clear ER;have Gq:0<=t1/\t1<=((p+3:Nat):Int)*2199023255552+2:=by rw[ht];unfold hY;split <;>omega
      have gd:=aG hg;obtain⟨a1,q1,q2⟩:=rd w3.drew (p+1) gd (by omega);obtain⟨a2,q3,q4⟩:=rd w3.drew (p+2) gd (by omega);have rdC:∀(p':Nat)(h:p'<l.length)(b:Addr),A=some b->∀ wq,w2.grownBy wq none->wq.cell? (b.add p')=some (.int .u8 l[p']):=fun p' h b FQ wq gq=>by
        obtain⟨b',r1,r2⟩:=rd wq p' gq h;rw[FQ]at r1;cases r1;exact r2
      have fin:∀(W:World)(g:Nat),w2.grownBy W none->aD W w.heap.size 73 4 tA tn tc (cK ts)->W.heap[g]?=some (.cells #[.int .u32 (cE l[p+1] l[p+2] N).1.1,.int .u32 (cE l[p+1] l[p+2] N).1.2] 68 (0,0)) →
          ∃ J:OA->Nat->Nat->World->Prop,(((cE l[p+1] l[p+2] N).2=true->∃ x,W.cell? ⟨g,0,none⟩=some (.int .u32 x)/\∃ y,W.cell? ⟨g,1,none⟩=some (.int .u32 y)/\Calls P 27 #[.slice tA tn tc,.agg #[.int .i64 t1,.int .u32 x,.int .u32 y,.bool false]] W fun ev w5=>∃(X:OA)(xn xc:Nat),ev=.returned (.slice X xn xc)/\J X xn xc w5)/\((cE l[p+1] l[p+2] N).2=false->J tA tn tc W)) ∧
          ∀(X:OA)(xn xc:Nat)(w6:World),J X xn xc w6->(-9223372036854775808<=(p:Int)+3/\(p:Int)+3<=9223372036854775807)/\∃ m_1,m_1<l.length+3-p/\∃(p':Nat)(ts':List dO),(p:Int)+3=(p':Int)/\p'<=l.length+2/\m_1=l.length+3-p'/\aD w6 w.heap.size 73 4 X xn xc (cK ts')/\ts'.length<=40/\0<=t1/\t1<=(p':Int)*2199023255552+2/\aT N l (k % 3) []=aT N (l.drop p') t1 ts'/\w2.grownBy w6 none:=by
        intro W g gW oW bW;have HU:=lG N l[p] l[p+1] l[p+2] t ts;refine⟨fun X xn xc w6=>aD w6 w.heap.size 73 4 X xn xc (cK (jG N l[p] l[p+1] l[p+2] t ts))/\w2.grownBy w6 none,⟨fun Er=>⟨_,aA bW 0,_,aA bW 1,?_⟩,fun Er=>⟨?_,gW⟩⟩,?_⟩
        · refine(uC (e:=⟨t1,(cE l[p+1] l[p+2] N).1.1,(cE l[p+1] l[p+2] N).1.2,false⟩) oW (Nat.le_trans EP.size gW.size) (by omega)).mono fun ev w5 hh=>?_;obtain⟨X,xn,xc,rfl,oX,g5⟩:=hh;refine⟨_,_,_,rfl,?_,aB gW g5⟩;have:jG N l[p] l[p+1] l[p+2] t ts=fH ts ⟨t1,(cE l[p+1] l[p+2] N).1.1,(cE l[p+1] l[p+2] N).1.2,false⟩:=by unfold jG;rw[if_pos Er,ht]
          rw[this];exact oX
        · have:jG N l[p] l[p+1] l[p+2] t ts=ts:=by unfold jG;rw[if_neg (by rw[Er];simp)]
          rw[this];exact oW
        · rintro X xn xc w6 ⟨oX,g6⟩;exact⟨by omega,l.length+3-(p+3),by omega,p+3,_,by omega,by omega,rfl,oX,by omega,Gq.1,Gq.2,by rw[FZ,ht],g6⟩
      refine⟨fun w'=>w2.grownBy w' none,gd,⟨by omega,a1,q1,by omega,by omega,_,fun wq gq=>rdC (p+1) (by omega) a1 q1 wq gq,by omega,a2,q3,by omega,by omega,_,fun wq gq=>rdC (p+2) (by omega) a2 q3 wq gq,_,fun wq gq=>aA (keep wq gq) 0,?_⟩,⟨by omega,a1,q1,by omega,by omega,_,fun wq gq=>rdC (p+1) (by omega) a1 q1 wq gq,by omega,a2,q3,by omega,by omega,_,fun wq gq=>rdC (p+2) (by omega) a2 q3 wq gq,_,fun wq gq=>aA (keep wq gq) 0,?_⟩⟩
      · refine(nU hy hz hN).mono fun ev w5 hh=>?_;obtain⟨rfl,g5⟩:=hh;have gd5:=aB gd g5;have gE:=World.grownBy_alloc w5 (.cells #[.int .u32 0,.int .u32 0] 68) none;have t0:(w5.alloc (.cells #[.int .u32 0,.int .u32 0] 68)).heap[w5.heap.size]?=some (.cells #[.int .u32 0,.int .u32 0] 68 (0,0)):=heap_alloc_new w5 _;have t1':=aH t0 0 (.int .u32 (cE l[p+1] l[p+2] N).1.1);have t2:=aH t1' 1 (.int .u32 (cE l[p+1] l[p+2] N).1.2);have gS:w5.grownBy (((w5.alloc (.cells #[.int .u32 0,.int .u32 0] 68)).setCell ⟨w5.heap.size,0,none⟩ (.int .u32 (cE l[p+1] l[p+2] N).1.1)).setCell ⟨w5.heap.size,1,none⟩ (.int .u32 (cE l[p+1] l[p+2] N).1.2)) none:=(cH (cH (Kp.of_none (S:=fun k=>w5.heap.size<=k) gE) (Nat.le_refl _)) (Nat.le_refl _)).grown (fun k hk e=>by omega);have gA:=aB gd5 gS;exact⟨_,_,_,rfl,gd5,aB gd5 gE,⟨_,aA t0 0⟩,aC t0 0,⟨_,aA t1' 1⟩,aC t1' 1,gA,fin _ _ gA (ho.kept (aB (aB (aG (aF w3 none)) g5) gS)) (by simpa using t2)⟩
      · have gE:=World.grownBy_alloc w3.drew (.cells #[.int .u32 0,.int .u32 0] 68) none;have t0:(w3.drew.alloc (.cells #[.int .u32 0,.int .u32 0] 68)).heap[w3.drew.heap.size]?=some (.cells #[.int .u32 0,.int .u32 0] 68 (0,0)):=heap_alloc_new w3.drew _;refine⟨aB gd gE,(nU hy hz hN).mono fun ev w7 hh=>?_⟩;obtain⟨rfl,g7⟩:=hh;have gd7:=aB (aB gd gE) g7;have t0':w7.heap[w3.drew.heap.size]?=some (.cells #[.int .u32 0,.int .u32 0] 68 (0,0)):=by rw[g7.block _ (Array.getElem?_eq_some_iff.1 t0).1 (by simp)];exact t0
        have t1':=aH t0' 0 (.int .u32 (cE l[p+1] l[p+2] N).1.1);have t2:=aH t1' 1 (.int .u32 (cE l[p+1] l[p+2] N).1.2);have gS:w3.drew.grownBy ((w7.setCell ⟨w3.drew.heap.size,0,none⟩ (.int .u32 (cE l[p+1] l[p+2] N).1.1)).setCell ⟨w3.drew.heap.size,1,none⟩ (.int .u32 (cE l[p+1] l[p+2] N).1.2)) none:=(cH (cH (Kp.of_none (S:=fun k=>w3.drew.heap.size<=k) (aB gE g7)) (Nat.le_refl _)) (Nat.le_refl _)).grown (fun k hk e=>by omega);have gA:=aB gd gS;exact⟨_,_,_,rfl,gd7,⟨_,aA t0' 0⟩,aC t0' 0,⟨_,aA t1' 1⟩,aC t1' 1,gA,fin _ _ gA (ho.kept (aB (aG (aF w3 none)) gS)) (by simpa using t2)⟩
    · have lp:p+2<l.length:=by omega
      have Fb:l.drop p=l[p] ::l[p+1] ::l[p+2] ::l.drop (p+3):=by
        rw[List.drop_eq_getElem_cons (show p<l.length by omega),List.drop_eq_getElem_cons (show p+1<l.length by omega),List.drop_eq_getElem_cons (show p+1+1<l.length by omega)]
      rw[Fb,aT,if_neg (by omega)]at FZ;rw[FZ];exact⟨ho,hg⟩
    · rw[qK (l.drop p) (by rw[List.length_drop];omega)]at FZ;rw[FZ];exact⟨ho,hg⟩
  · rintro tA tn tc Eo ⟨oT,EO⟩;generalize aT N l (k % 3) []=ts at *;have LB:ts.length<=40:=Gn;have FD:tn=ts.length:=by have:=oT.cases.1;rw[eM]at this;omega
    have FX:=keep Eo EO;have Hg:=aB EP EO;have l10:w1.heap.size<Eo.heap.size:=Nat.lt_of_lt_of_le Jk EO.size;have bw10:Eo.heap[w.heap.size]?=some (.cells #[.int .u64 0,.slice none 0 0] 31 (0,0)):=by
      rw[(aB g1 (aB EN EO)).block _ (Array.getElem?_eq_some_iff.1 b0).1 (by simp)];exact b0
    have lw0:w.heap.size<w1.heap.size:=Nat.lt_of_lt_of_le (Array.getElem?_eq_some_iff.1 b0).1 g1.size;refine⟨fun m nA nn nc i w'=>∃(j:Nat)(now:List Edge)(out:List dO)(hA:OA)(hn hc:Nat),i=(j:Int)/\j<=ts.length/\m=ts.length-j/\aD w' Eo.heap.size 68 2 nA nn nc (aV now)/\now.length<=j/\aD w' Eo.heap.size 73 4 hA hn hc (cK out)/\out.length=j/\eG ts []=out++eG (ts.drop j) now/\w'.heap[w1.heap.size]?=some (.cells #[.int .u64 N,.slice hA hn hc] 31 (0,0))/\Kp Eo w' (fun q=>q=w1.heap.size∨Eo.heap.size<=q),
      ⟨_,0,[],[],none,0,0,rfl,by omega,rfl,aD.nil _ _ _ _,by simp,aD.nil _ _ _ _,rfl,by simp,FX,Kp.refl _ _⟩,?_⟩
    rintro m nA nn nc i D0 ⟨j,now,out,hA,EE,Fy,rfl,hj,rfl,oN,Kx,oH,LJ,Ge,bH,K11⟩;have tj:(j:Int).toNat=j:=by omega
    rw[tj];have Js:nn=now.length:=by have:=oN.cases.1;rw[jB]at this;omega
    have LQ:EE=out.length:=by have:=oH.cases.1;rw[eM]at this;omega
    have lH:=(Array.getElem?_eq_some_iff.1 bH).1;refine⟨fun DL=>?_,fun DR=>?_⟩
    · have lj:j<ts.length:=by omega
      rw[List.drop_eq_getElem_cons lj,eG]at Ge;have oT11:=oT.kp K11 (fun q hq e=>by
        rcases e with e | e
        · obtain⟨cur,h⟩:=oT.block_type q hq;rw[e,FX]at h;cases h
        · have:=oT.block_lt q hq;omega)
      obtain⟨a,e1,e2,e3,e4,e5⟩:=nB oT11.row lj;have ga:=World.grownBy_alloc D0 (.cells #[.int .i64 0,.int .u32 0,.int .u32 0,.bool false] 73) none;have s0:(D0.alloc (.cells #[.int .i64 0,.int .u32 0,.int .u32 0,.bool false] 73)).heap[D0.heap.size]?=some (.cells #[.int .i64 0,.int .u32 0,.int .u32 0,.bool false] 73 (0,0)):=heap_alloc_new D0 _;obtain⟨wa,FC⟩:∃ wa,wa=D0.alloc (.cells #[.int .i64 0,.int .u32 0,.int .u32 0,.bool false] 73):=⟨_,rfl⟩;rw[← FC]at ga s0 ⊢;have s1:=aH s0 0 (.int .i64 ts[j].t);have s2':=aH s1 1 (.int .u32 ts[j].u);have s3:=aH s2' 2 (.int .u32 ts[j].v);have s4:=aH s3 3 (.bool ts[j].add);have K4:Kp D0 ((((wa.setCell ⟨D0.heap.size,0,none⟩ (.int .i64 ts[j].t)).setCell ⟨D0.heap.size,1,none⟩ (.int .u32 ts[j].u)).setCell ⟨D0.heap.size,2,none⟩ (.int .u32 ts[j].v)).setCell ⟨D0.heap.size,3,none⟩ (.bool ts[j].add)) (fun k=>D0.heap.size<=k):=cH (cH (cH (cH (Kp.of_none ga) (Nat.le_refl _)) (Nat.le_refl _)) (Nat.le_refl _)) (Nat.le_refl _);refine⟨a,e1,by omega,by omega,_,e2,_,e3,_,e4,_,e5,⟨_,aA s0 0⟩,aC s0 0,⟨_,aA s1 1⟩,aC s1 1,⟨_,aA s2' 2⟩,aC s2' 2,⟨_,aA s3 3⟩,aC s3 3,?_⟩;obtain⟨w4,ER⟩:∃ w4,w4=(((wa.setCell ⟨D0.heap.size,0,none⟩ (.int .i64 ts[j].t)).setCell ⟨D0.heap.size,1,none⟩ (.int .u32 ts[j].u)).setCell ⟨D0.heap.size,2,none⟩ (.int .u32 ts[j].v)).setCell ⟨D0.heap.size,3,none⟩ (.bool ts[j].add):=⟨_,rfl⟩;rw[← ER]at s4 K4 ⊢;replace s4:w4.heap[D0.heap.size]?=some (.cells #[.int .i64 ts[j].t,.int .u32 ts[j].u,.int .u32 ts[j].v,.bool ts[j].add] 73 (0,0)):=by simpa using s4
      have FW:D0.grownBy w4 none:=K4.grown (fun k hk e=>by omega);refine⟨_,aA s4 1,_,aA s4 2,?_⟩;refine(Bn (e:=(ts[j].u,ts[j].v)) (oN.kept FW).row Js (by omega)).mono fun ev FA hh=>?_;obtain⟨rfl,g12'⟩:=hh;have s5:FA.heap[D0.heap.size]?=some (.cells #[.int .i64 ts[j].t,.int .u32 ts[j].u,.int .u32 ts[j].v,.bool ts[j].add] 73 (0,0)):=by rw[g12'.block _ (Array.getElem?_eq_some_iff.1 s4).1 (by simp)];exact s4
      have s6:=aH s5 3 (.bool (decide (decide ((ts[j].u,ts[j].v)∈now)=false)));have gS:D0.grownBy (FA.setCell ⟨D0.heap.size,3,none⟩ (.bool (decide (decide ((ts[j].u,ts[j].v)∈now)=false)))) none:=(cH (Kp.of_none (S:=fun k=>D0.heap.size<=k) (aB FW g12')) (Nat.le_refl _)).grown (fun k hk e=>by omega);refine⟨_,rfl,⟨_,aA s5 3⟩,aC s5 3,_,aA s6 0,_,aA s6 1,_,aA s6 2,_,aA s6 3,?_⟩;have Ic:decide (decide ((ts[j].u,ts[j].v)∈now)=false)=!decide ((ts[j].u,ts[j].v)∈now):=by cases decide ((ts[j].u,ts[j].v)∈now) <;>rfl
      rw[Ic]at s6 gS ⊢;obtain⟨wb,HN⟩:∃ wb,wb=FA.setCell ⟨D0.heap.size,3,none⟩ (.bool (!decide ((ts[j].u,ts[j].v)∈now))):=⟨_,rfl⟩;rw[← HN]at s6 gS ⊢;replace s6:wb.heap[D0.heap.size]?=some (.cells #[.int .i64 ts[j].t,.int .u32 ts[j].u,.int .u32 ts[j].v,.bool (!decide ((ts[j].u,ts[j].v)∈now))] 73 (0,0)):=by simpa using s6
      have oNb:=oN.kept gS;refine(oQ (e:=⟨ts[j].t,ts[j].u,ts[j].v,!decide ((ts[j].u,ts[j].v)∈now)⟩) oNb.row Js (pO oNb) (mR oNb) (by omega)).mono fun ev Fz hh=>?_;obtain⟨X,xn,xc,rfl,oX,D9⟩:=hh;have Fg:=aB gS D9;have s7:Fz.heap[D0.heap.size]?=some (.cells #[.int .i64 ts[j].t,.int .u32 ts[j].u,.int .u32 ts[j].v,.bool (!decide ((ts[j].u,ts[j].v)∈now))] 73 (0,0)):=by rw[D9.block _ (Array.getElem?_eq_some_iff.1 s6).1 (by simp)];exact s6
      have bH13:Fz.heap[w1.heap.size]?=some (.cells #[.int .u64 N,.slice hA EE Fy] 31 (0,0)):=by rw[Fg.block _ lH (by simp)];exact bH
      have gal:=World.grownBy_alloc Fz (.cells #[.int .i64 ts[j].t,.int .u32 ts[j].u,.int .u32 ts[j].v,.bool (!decide ((ts[j].u,ts[j].v)∈now))] 73) none;have ra:bC (Fz.alloc (.cells #[.int .i64 ts[j].t,.int .u32 ts[j].u,.int .u32 ts[j].v,.bool (!decide ((ts[j].u,ts[j].v)∈now))] 73)) (some ⟨Fz.heap.size,0,none⟩) (cK [⟨ts[j].t,ts[j].u,ts[j].v,!decide ((ts[j].u,ts[j].v)∈now)⟩]):=fD Fz _ 73;have gfull:=aB Fg gal;have sz:=K11.size;obtain⟨C,cn,cc,Gh,p1,p2,p3,p4⟩:=dL (oH.kept gfull) (m:=1) (d:=1) ra rfl (fun h=>by cases h) (by omega) (Nat.le_trans sz gfull.size);have bH14:Gh.heap[w1.heap.size]?=some (.cells #[.int .u64 N,.slice hA EE Fy] 31 (0,0)):=by
        rw[p3.block _ (Nat.lt_of_lt_of_le lH gfull.size) (fun e=>by have:=oH.block_ge _ e.symm;omega),gal.block _ (Nat.lt_of_lt_of_le lH Fg.size) (by simp)];exact bH13
      have bH15:=aH bH14 1 (.slice C cn cc);have Ka:((cX now ⟨ts[j].t,ts[j].u,ts[j].v,!decide ((ts[j].u,ts[j].v)∈now)⟩).getD []).length<=now.length+1:=by
        cases h:cX now ⟨ts[j].t,ts[j].u,ts[j].v,!decide ((ts[j].u,ts[j].v)∈now)⟩with
        | none=>simp
        | some x=>exact rL h
      have KS:Kp Gh (Gh.setCell ⟨w1.heap.size,1,none⟩ (.slice C cn cc)) (fun q=>q=w1.heap.size):=cH (Kp.refl Gh _) rfl;have oX14:=(oX.kept gal).apart p3 (vY (oX.kept gal) (oH.kept gfull) (by decide));refine⟨_,_,_,_,rfl,_,_,_,aA bH13 1,_,aA s7 0,_,aA s7 1,_,aA s7 2,_,aA s7 3,C,cn,cc,Gh,p1,⟨_,aA bH14 1⟩,aC bH14 1,by omega,ts.length-(j+1),by omega,j+1,_,_,C,cn,cc,by omega,by omega,rfl,(oX14.mono (Nat.le_trans sz gS.size)).kp KS (fun q hq e=>by have:=oX14.block_ge q hq;have:=gS.size;omega),by omega,p2.kp KS (fun q hq e=>by have:=p2.block_ge q hq;omega),by simp;omega,?_,by simpa using bH15,(((K11.step gfull (fun k hk=>by cases hk)).step p3 (fun k hk=>.inr (.inr (oH.block_ge k hk)))).then KS (fun q _ e=>.inl e))⟩;rw[Ge];simp
    · have e:j=ts.length:=by omega
      subst e;rw[List.drop_length]at Ge;have bw:D0.heap[w.heap.size]?=some (.cells #[.int .u64 0,.slice none 0 0] 31 (0,0)):=by
        rw[K11.block _ (by omega) (by omega)];exact bw10
      have s1:=aH bw 0 (.int .u64 N);have s2':=aH s1 1 (.slice hA EE Fy);have KK:Kp w ((D0.setCell ⟨w.heap.size,0,none⟩ (.int .u64 N)).setCell ⟨w.heap.size,1,none⟩ (.slice hA EE Fy)) (fun q=>w.heap.size<=q):=cH (cH ((Kp.of_none Hg).then K11 (fun q hq e=>by omega)) (Nat.le_refl _)) (Nat.le_refl _);refine⟨_,aA bH 0,_,_,_,aA bH 1,⟨_,aA bw 0⟩,aC bw 0,⟨_,aA s1 1⟩,aC s1 1,_,aA s2' 0,_,_,_,aA s2' 1,_,_,_,rfl,?_,KK.grown (fun q hq e=>by omega)⟩;have hx:fK k l=out:=by rw[GL,Ge];simp[eG]
      rw[hx];exact(aD.kp oH (cH (cH (Kp.refl D0 (fun q=>q=w.heap.size)) rfl) rfl) (fun q hq e=>by have:=oH.block_ge q hq;omega)).mono Hg.size
def qH(l:List Edge):Prop:=l.Pairwise fun a b=>bG a b=true
theorem mV{a b:Edge}:bG a b=true↔a.1<b.1∨a.1=b.1/\a.2<b.2:=by simp[bG]
theorem nS{a b c:Edge}(h:bG a b=true)(k:bG b c=true):bG a c=true:=by
 rw[mV]at *;omega
theorem B7{a b:Edge}(h:bG a b=true):a≠b:=by
 rintro rfl;rw[mV]at h;omega
theorem wF{a b:Edge}(h:bG a b=false)(k:a≠b):bG b a=true:=by
 have h':¬ bG a b=true:=by rw[h];simp
 rw[mV]at *;obtain⟨a1,a2⟩:=a;obtain⟨b1,b2⟩:=b;simp only[ne_eq,Prod.mk.injEq]at k h' ⊢;omega
theorem tP(e:Edge)(l:List Edge):eR (e ::l)=true↔(∀ x,l.head?=some x->bG e x=true)/\eR l=true:=by
 unfold eR;simp only[List.all_eq_true,List.mem_range,List.length_cons];constructor
 ·intro h;refine⟨fun x hx=>?_,fun i hi=>?_⟩
  ·cases l with
   | nil=>simp at hx
   | cons y l=>simp at hx;subst hx;simpa using h 0 (by simp)
  ·simpa using h (i+1) (by omega)
 ·rintro⟨h1,h2⟩ i hi;cases i with
  | zero =>
   cases l with
   | nil=>simp at hi
   | cons y l=>simpa using h1 y rfl
  | succ i=>simpa using h2 i (by omega)
theorem jP(l:List Edge):eR l=true↔qH l:=by
 induction l with
 | nil=>simp[eR,qH]
 | cons e l ih =>
  rw[tP,ih];unfold qH;rw[List.pairwise_cons];constructor
  ·rintro⟨h1,h2⟩;refine⟨fun x hx=>?_,h2⟩;cases l with
   | nil=>simp at hx
   | cons y l =>
    have hy:=h1 y rfl;rcases List.mem_cons.1 hx with rfl | hx
    ·exact hy
    ·exact nS hy ((List.pairwise_cons.1 h2).1 x hx)
  ·rintro⟨h1,h2⟩;exact⟨fun x hx=>h1 x (List.mem_of_head? hx),h2⟩
theorem qH.nodup{l:List Edge}(h:qH l):l.Nodup:=h.imp (fun h=>B7 h)
theorem A0(l:List Edge)(e:Edge):l.take (iH l e)=l.takeWhile fun x=>bG x e:=by
 have h:=List.takeWhile_append_dropWhile (p:=fun x=>bG x e) (l:=l)
 conv=>lhs;rw[← h]
 unfold iH;exact List.take_left' (by rw[h])
theorem Bt(l:List Edge)(e:Edge):l.drop (iH l e)=l.dropWhile fun x=>bG x e:=by
 have h:=List.takeWhile_append_dropWhile (p:=fun x=>bG x e) (l:=l)
 conv=>lhs;rw[← h]
 unfold iH;exact List.drop_left' (by rw[h])
theorem B0{l:List Edge}{e:Edge}(h:qH l)(he:e ∉ l):qH (l.take (iH l e)++(e ::l.drop (iH l e))):=by
 rw[A0,Bt];have h0:=h;rw[← List.takeWhile_append_dropWhile (p:=fun x=>bG x e) (l:=l)]at h0;obtain⟨h1,h2,h3⟩:=List.pairwise_append.1 h0;have DL:∀ a∈l.takeWhile (fun x=>bG x e),bG a e=true:=by
  have h:=List.all_takeWhile (p:=fun x=>bG x e) (l:=l);exact List.all_eq_true.1 h
 have Iv:∀ a∈l.dropWhile (fun x=>bG x e),bG e a=true:=by
  intro a ha;have Ef:∀ a∈l.dropWhile (fun x=>bG x e),a∈l:=fun a ha=>List.dropWhile_sublist _ |>.mem ha;generalize hd:l.dropWhile (fun x=>bG x e)=d at *;cases d with
  | nil=>simp at ha
  | cons y d =>
   have hy:bG y e=false:=by
    have:=List.head?_dropWhile_not (fun x=>bG x e) l;rw[hd]at this;simpa using this
   have Jc:bG e y=true:=wF hy (fun h=>he (h▸Ef y (by simp)));rcases List.mem_cons.1 ha with rfl | ha
   ·exact Jc
   ·exact nS Jc ((List.pairwise_cons.1 h2).1 a ha)
 refine List.pairwise_append.2 ⟨h1,List.pairwise_cons.2 ⟨Iv,h2⟩,fun a ha b hb=>?_⟩;rcases List.mem_cons.1 hb with rfl | hb
 ·exact DL a ha
 ·exact h3 a ha b hb
theorem CR{l:List Edge}{e x:Edge}:x∈l.take (iH l e)++(e ::l.drop (iH l e))↔x=e∨x∈l:=by
 have h:x∈l↔x∈l.take (iH l e)++l.drop (iH l e):=by rw[List.take_append_drop]
 rw[h,List.mem_append,List.mem_append,List.mem_cons];constructor <;>rintro(h | h | h) <;>simp[h]
theorem sP(l:List Edge)(e:Edge):l.take (l.idxOf e)++l.drop (l.idxOf e+1)=l.erase e:=by
 rw[← List.eraseIdx_eq_take_drop_succ,List.erase_eq_eraseIdx_of_idxOf (i:=l.idxOf e)];rfl
theorem rJ{l:List Edge}(h:qH l)(e:dO):cX l e=none↔e.add=decide ((e.u,e.v)∈l):=by
 unfold cX;rw[if_neg (by rw[(jP l).2 h];simp)];split
 ·simp_all
 ·rename_i DN;constructor
  ·intro h;split at h <;>cases h
  ·intro h;exact absurd h DN
theorem AZ{l:List Edge}{e:dO}{x:List Edge}(hx:cX l e=some x):qH l:=by
 unfold cX at hx;split at hx
 ·cases hx
 ·rename_i h;exact(jP l).1 (by simpa using h)
theorem AY{l:List Edge}{e:dO}{x:List Edge}(hx:cX l e=some x):qH x/\(∀ a,a∈x↔if a=(e.u,e.v) then e.add=true else a∈l)/\(e.add=!decide ((e.u,e.v)∈l)):=by
 have h:=AZ hx;have DN:¬ e.add=decide ((e.u,e.v)∈l):=fun k=>by rw[(rJ h e).2 k]at hx;cases hx
 have FI:e.add=!decide ((e.u,e.v)∈l):=by
  cases h1:e.add <;>cases h2:decide ((e.u,e.v)∈l) <;>simp_all
 unfold cX at hx;rw[if_neg (by rw[(jP l).2 h];simp),if_neg DN]at hx;refine⟨?_,?_,FI⟩
 ·split at hx
  ·cases hx;rw[sP];exact List.Pairwise.sublist List.erase_sublist h
  ·rename_i ha;cases hx;refine B0 h fun hm=>?_;simp[hm]at FI;exact ha FI
 ·intro a;split at hx
  ·rename_i ha;cases hx;rw[sP,h.nodup.mem_erase_iff];split
   ·rename_i e;simp[e,ha]
   ·rename_i e;simp[e]
  ·rename_i ha;cases hx;rw[CR];split
   ·rename_i e;simp[e];simpa using ha
   ·rename_i e;simp[e]
def OkH(N:Int):List dO->Option dO->List Edge->Prop
 | [],_,_=>True
 | e ::l,p,now=>(0<=e.t/\e.t<=4611686018427387903)/\(e.u<e.v/\e.v<N)/\(∀ q,p=some q->bL q e=true)/\∃ x,cX now e=some x/\OkH N l (some e) x
theorem gP{a b:dO}:bL a b=true↔a.t<b.t∨a.t=b.t/\(a.u<b.u∨a.u=b.u/\a.v<b.v):=by
 simp[bL,bG]
theorem rD{a b c:dO}(h:bL a b=true)(k:bL b c=true):bL a c=true:=by
 rw[gP]at *;omega
theorem pJ(l:List dO)(e:dO):∀ k,k<=l.length->(∀ j (hj:j<l.length),aW l e k<=j->j<k->bL e l[j]=true)/\(∀ j (hj:j<l.length),aW l e k=j+1->bL e l[j]=false)
 | 0,_=>⟨fun j hj h1 h2=>by omega,fun j hj h=>by simp[aW]at h⟩
 | k+1,hk=>by
  have ih:=pJ l e k (by omega);have hg:l.getD k ⟨0,0,0,false⟩=l[k]:=by simp[List.getD_eq_getElem?_getD,show k<l.length by omega]
  unfold aW;rw[hg];split
  ·rename_i hb;refine⟨fun j hj h1 h2=>?_,ih.2⟩;by_cases e':j=k
   ·subst e';exact hb
   ·exact ih.1 j hj h1 (by omega)
  ·rename_i hb;refine⟨fun j hj h1 h2=>by omega,fun j hj h=>?_⟩;have:j=k:=by omega
   subst this;simpa using hb
def sZ(l:List dO):Prop:=l.Pairwise fun a b=>bL a b=true
theorem uD{l:List dO}{e:dO}(h:sZ l):sZ (fH l e):=by
 unfold fH;split
 ·exact h
 ·rename_i DN;obtain⟨p1,p2⟩:=pJ l e l.length (Nat.le_refl _);have Ev:=kR l e l.length;generalize aW l e l.length=k at *;have h0:=h;unfold sZ at h0;rw[← List.take_append_drop k l]at h0;obtain⟨h1,h2,h3⟩:=List.pairwise_append.1 h0;have Iv:∀ a∈l.drop k,bL e a=true:=by
   intro a ha;obtain⟨j,hj,rfl⟩:=List.mem_iff_getElem.1 ha;rw[List.getElem_drop];rw[List.length_drop]at hj;exact p1 (k+j) (by omega) (by omega) (by omega)
  have DL:∀ a∈l.take k,bL a e=true:=by
   intro a ha;cases k with
   | zero=>simp at ha
   | succ k =>
    have hk:k<l.length:=by omega
    have q:=p2 k hk rfl;have hg:l.getD (k+1-1) ⟨0,0,0,false⟩=l[k]:=by simp[List.getD_eq_getElem?_getD,hk]
    rw[hg]at DN;have EX:bL l[k] e=true:=by
     have q':¬ bL e l[k]=true:=by rw[q];simp
     rw[gP]at q' ⊢;omega
    obtain⟨j,hj,rfl⟩:=List.mem_iff_getElem.1 ha;rw[List.getElem_take];rw[List.length_take]at hj;by_cases e':j=k
    ·subst e';exact EX
    ·exact rD (List.pairwise_iff_getElem.1 h j k (by omega) hk (by omega)) EX
  refine List.pairwise_append.2 ⟨h1,List.pairwise_cons.2 ⟨Iv,h2⟩,fun a ha b hb=>?_⟩;rcases List.mem_cons.1 hb with rfl | hb
  ·exact DL a ha
  ·exact h3 a ha b hb
theorem BK{t a:Int}(ht:0<=t)(ha:0<=a/\a<=255):0<=hY t a/\hY t a<=t+1099511627776:=by
 have h1:(2:Int)^(a % 40).toNat<=549755813888/\0<(2:Int)^(a % 40).toNat:=by
  have h2:=Nat.pow_le_pow_right (n:=2) (by omega) (show(a % 40).toNat<=39 by omega);have h3:=Nat.two_pow_pos (a % 40).toNat;have e:((2^(a % 40).toNat:Nat):Int)=2^(a % 40).toNat:=by simp
  omega
 unfold hY;split <;>omega
theorem oV {N:Int} (hN:2<=N/\N<=4294967296):∀(l:List Int)(t:Int)(ts:List dO),aN l->0<=t->sZ ts->(∀ e∈ts,0<=e.t/\e.t<=t)->(∀ e∈ts,0<=e.u/\e.u<e.v/\e.v<N) →
    sZ (aT N l t ts)/\(∀ e∈aT N l t ts,0<=e.t/\e.t<=t+l.length*1099511627776)/\∀ e∈aT N l t ts,0<=e.u/\e.u<e.v/\e.v<N
  | a ::b ::c ::l,t,ts,hb,ht,h1,h2,h3=>by
    rw[aT];have ha:=hb a (by simp);have FQ:=hb b (by simp);have hc:=hb c (by simp);have tt:=BK ht ha;split
    · have EH:∀ x∈jG N a b c t ts,x∈ts∨x=⟨hY t a,(cE b c N).1.1,(cE b c N).1.2,false⟩/\(cE b c N).2=true:=by
        intro x hx;unfold jG at hx;split at hx
        · rename_i he;rcases wJ hx with k | k
          · exact .inl k
          · exact .inr ⟨k,he⟩
        · exact .inl hx
      have DR:∀ t':Int,t<=t'->True:=fun _ _=>trivial;have Kj:t<=hY t a:=by
        have h3:0<(2:Int)^(a % 40).toNat:=Int.pow_pos (by omega);unfold hY;split <;>omega
      have ih:=oV hN l (hY t a) (jG N a b c t ts) (fun y hy=>hb y (by simp[hy])) tt.1
        (by unfold jG;split;exact uD h1;exact h1)
        (fun e he=>by
          rcases EH e he with k | ⟨k,_⟩
          · have:=h2 e k;omega
          · rw[k];exact⟨tt.1,Int.le_refl _⟩)
        (fun e he=>by
          rcases EH e he with k | ⟨k,k'⟩
          · exact h3 e k
          · rw[k];exact Ch FQ.1 hc.1 hN k')
      refine⟨ih.1,fun e he=>?_,ih.2.2⟩;have:=ih.2.1 e he;simp only[List.length_cons];omega
    · refine⟨h1,fun e he=>?_,h3⟩;have:=h2 e he;simp only[List.length_cons];omega
  | [],t,ts,hb,ht,h1,h2,h3=>by
    refine⟨by simpa[aT]using h1,fun e he=>?_,by simpa[aT]using h3⟩;rw[aT]at he
    · have:=h2 e he;simp;omega
    · simp
  | [_],t,ts,hb,ht,h1,h2,h3=>by
    refine⟨by simpa[aT]using h1,fun e he=>?_,by simpa[aT]using h3⟩;rw[aT]at he
    · have:=h2 e he;simp;omega
    · simp
  | [_,_],t,ts,hb,ht,h1,h2,h3=>by
    refine⟨by simpa[aT]using h1,fun e he=>?_,by simpa[aT]using h3⟩;rw[aT]at he
    · have:=h2 e he;simp;omega
    · simp
theorem sF{N:Int}:∀(l:List dO)(now:List Edge)(p:Option dO),qH now->sZ l->(∀ q,p=some q->∀ e∈l,bL q e=true)->(∀ e∈l,(0<=e.t/\e.t<=4611686018427387903)/\e.u<e.v/\e.v<N)->OkH N (eG l now) p now
 | [],now,p,_,_,_,_=>by simp[eG,OkH]
 | e ::l,now,p,hr,hs,hp,hv=>by
  rw[eG];have Jl:=List.pairwise_cons.1 hs;have DN:cX now ⟨e.t,e.u,e.v,!decide ((e.u,e.v)∈now)⟩≠none:=by
   intro h;have:=(rJ hr _).1 h;simp at this
  cases hx:cX now ⟨e.t,e.u,e.v,!decide ((e.u,e.v)∈now)⟩with
  | none=>exact absurd hx DN
  | some x =>
   have he:=hv e (by simp);refine⟨he.1,he.2,fun q hq=>?_,x,hx,?_⟩
   ·have:=hp q hq e (by simp);rw[gP]at this ⊢;exact this
   ·rw[Option.getD_some];refine sF l x _ (AY hx).1 Jl.2 (fun q hq a ha=>?_) (fun a ha=>hv a (by simp[ha]));cases hq;have:=Jl.1 a ha;rw[gP]at this ⊢;exact this
theorem pY:∀(l:List dO)(now:List Edge),∀ e∈eG l now,∃ a∈l,a.t=e.t/\a.u=e.u/\a.v=e.v
 | [],now,e,he=>by simp[eG]at he
 | a ::l,now,e,he=>by
  rw[eG]at he;rcases List.mem_cons.1 he with rfl | he
  ·exact⟨a,by simp,rfl,rfl,rfl⟩
  ·obtain⟨b,h1,h2⟩:=pY l _ e he;exact⟨b,by simp[h1],h2⟩
theorem wL{k:Int}{l:List Int}(hb:aN l)(hl:l.length<=1024):OkH (jF k) (fK k l) none []/\∀ e∈fK k l,(0<=e.t/\e.t<=1125899906842624*2)/\0<=e.u/\e.u<e.v/\e.v<jF k:=by
 have h:=oV (oO k) l (k % 3) [] hb (by omega) List.Pairwise.nil (by simp) (by simp);refine⟨sF _ _ _ List.Pairwise.nil h.1 (fun q hq=>by cases hq) (fun e he=>?_),fun e he=>?_⟩
 ·have h1:=h.2.1 e he;have h2:=h.2.2 e he;exact⟨by omega,h2.2⟩
 ·obtain⟨a,ha,e1,e2,e3⟩:=pY _ _ e he;have h1:=h.2.1 a ha;have h2:=h.2.2 a ha;rw[← e1,← e2,← e3];exact⟨by omega,h2⟩
end Go.Proofs.YtdlomlmijdifbaaGreatDoor

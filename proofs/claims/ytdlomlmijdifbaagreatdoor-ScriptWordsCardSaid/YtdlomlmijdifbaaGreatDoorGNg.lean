/- Own texts, packed: N1, N2, N3, N4, N5, N6, N7, N8, N9, N10, N11. -/
import Derived.Test.YtdlomlmijdifbaaGreatDoorGFg
import Derived.Laws.StructEq
import Derived.ChangeKeysEq
import Derived.Test.YtdlomlmijdifbaaGreatDoorGYg
import Derived.Test.YtdlomlmijdifbaaGreatDoorGCg
import Derived.Test.YtdlomlmijdifbaaGreatDoorGIg
set_option linter.unusedVariables false
set_option linter.unusedSimpArgs false
set_option maxHeartbeats 4000000
set_option maxRecDepth 100000
namespace Go.Proofs.YtdlomlmijdifbaaGreatDoor
open Go Go.V Go.RowKit
theorem wD(a b c e:Int)(w:World):(Op.equalIn 10000 68 (.agg #[.int .u32 a,.int .u32 b]) (.agg #[.int .u32 c,.int .u32 e])).run P w=.ok (decide (a=c/\b=e)) w:=by
 rw[run_equalIn_struct w 9999 68 _ _ (by kernel_rfl) (by kernel_rfl)];obtain ⟨f, g, Ej, DD, DC, Ek, Eh, Ef, Ee⟩ : ∃ f g : Field, (P.fieldsOf 68).toList = [f, g] ∧ f.name = "U" ∧ f.type = 66 ∧ f.offset = 0 ∧ g.name = "V" ∧ g.type = 66 ∧ g.offset = 1 :=
  ⟨((P.fieldsOf 68).toList)[0]!,((P.fieldsOf 68).toList)[1]!,by kernel_rfl,by kernel_rfl,by kernel_rfl,by kernel_rfl,by kernel_rfl,by kernel_rfl,by kernel_rfl⟩
 rw[Ej];have hu:P.underlying 66=some (.int .u32):=by kernel_rfl
 have hp:P.plainKey 66=true:=by kernel_rfl
 have e1:∀(x y:Int)(w:World),(part 66 #[.int .u32 x,.int .u32 y] 0).run P w=.ok (.int .u32 x) w:=fun x y w=>run_part_plain w hp rfl;have e2:∀(x y:Int)(w:World),(part 66 #[.int .u32 x,.int .u32 y] 1).run P w=.ok (.int .u32 y) w:=fun x y w=>run_part_plain w hp rfl;have q:∀(x y:Int)(w:World),(Op.equalIn 9999 66 (.int .u32 x) (.int .u32 y)).run P w=.ok (x ==y) w:=fun x y w=>run_equalIn_int w 9998 _ _ _ _ _ hu;simp only[Op.eqFields,DD,DC,Ek,Eh,Ef,Ee,Sem.run_bind,Sem.run_ite,e1,e2,q,Result.andThen_ok];by_cases h1:a=c
 ·by_cases h2:b=e
  ·simp[h1,h2]
  ·simp[h1,h2]
 ·simp[h1]
theorem AP(s t:Operand)(a b c e:Int)(w:World):Sem.run P (do eqGuard .eql 68 s t (.agg #[.int .u32 a,.int .u32 b]) (.agg #[.int .u32 c,.int .u32 e]);Go.binOp .eql 68 (.agg #[.int .u32 a,.int .u32 b]) (.agg #[.int .u32 c,.int .u32 e]):Sem Value) w=.ok (.bool (decide (a=c/\b=e))) w:=by
 rw[Sem.run_bind,run_eqGuard_agg w .eql 68 s t _ _ (by kernel_rfl),Result.andThen_ok,run_eql_struct w,wD];rfl
abbrev Edge:=Int×Int
def xN(e:Edge):List Value:=[.int .u32 e.1,.int .u32 e.2]
def aS(l:List Edge):List Value:=l.flatMap xN
theorem qR(l m:List Edge):aS (l++m)=aS l++aS m:=by simp[aS]
theorem kI(l:List Edge):(aS l).length=l.length*2:=by
 induction l with
 | nil=>rfl
 | cons e l ih=>simp[aS,xN]at ih ⊢;omega
theorem pF:∀ {l:List Edge} {i:Nat} (h:i<l.length),(aS l)[i*2]?=some (.int .u32 l[i].1)/\(aS l)[i*2+1]?=some (.int .u32 l[i].2)
 | e ::l,0,_=>by simp[aS,xN]
 | e ::l,i+1,h=>by
  have ih:=pF (l:=l) (i:=i) (by simpa using h);rw[show(i+1)*2=i*2+1+1 by omega];exact ih
theorem wF(l:List Edge)(k:Nat):(aS l).drop (k*2)=aS (l.drop k):=by
 induction k generalizing l with
 | zero=>simp
 | succ k ih =>
  cases l with
  | nil=>simp[aS]
  | cons e l=>rw[show(k+1)*2=k*2+1+1 by omega];exact ih l
theorem wE(l:List Edge)(k:Nat):(aS l).take (k*2)=aS (l.take k):=by
 induction k generalizing l with
 | zero=>simp[aS]
 | succ k ih =>
  cases l with
  | nil=>simp[aS]
  | cons e l =>
   rw[show(k+1)*2=k*2+1+1 by omega];show List.take (k*2+1+1) (.int .u32 e.1 ::.int .u32 e.2 ::aS l)=.int .u32 e.1 ::.int .u32 e.2 ::aS (List.take k l);rw[List.take_succ_cons,List.take_succ_cons,ih]
structure rH where
 t:Int
 u:Int
 v:Int
 add:Bool
deriving DecidableEq
def evtC(e:rH):List Value:=[.int .i64 e.t,.int .u32 e.u,.int .u32 e.v,.bool e.add]
def tM(l:List rH):List Value:=l.flatMap evtC
theorem tL:∀ {l:List rH} {i:Nat} (h:i<l.length),(tM l)[i*4]?=some (.int .i64 l[i].t)/\(tM l)[i*4+1]?=some (.int .u32 l[i].u)/\(tM l)[i*4+2]?=some (.int .u32 l[i].v)/\(tM l)[i*4+3]?=some (.bool l[i].add)
 | e ::l,0,_=>by simp[tM,evtC]
 | e ::l,i+1,h=>by
  have ih:=tL (l:=l) (i:=i) (by simpa using h);rw[show(i+1)*4=i*4+1+1+1+1 by omega];exact ih
abbrev xM(e:Edge):Value:=.agg #[.int .u32 e.1,.int .u32 e.2]
abbrev BX(e:rH):Value:=.agg #[.int .i64 e.t,.int .u32 e.u,.int .u32 e.v,.bool e.add]
def fX(a b:Edge):Bool:=decide (a.1<b.1∨a.1=b.1/\a.2<b.2)
def gO(a b:rH):Bool:=decide (a.t<b.t) || (decide (a.t=b.t) && fX (a.u,a.v) (b.u,b.v))
def iQ(l:List Edge):Bool:=(List.range (l.length-1)).all fun i=>fX (l.getD i (0,0)) (l.getD (i+1) (0,0))
theorem jJ{w:World}(a b:Edge):Calls P 62 #[xM a,xM b] w fun ev w'=>ev=.returned (.bool (fX a b))/\w.grownBy w' none:=by
 apply vc62;dsimp only[VC62,rb,Br,Rd,nb];have g1:=World.grownBy_alloc w (.cells #[.int .u32 a.1,.int .u32 a.2] 68) none;have b1:(w.alloc (.cells #[.int .u32 a.1,.int .u32 a.2] 68)).heap[w.heap.size]?=some (.cells #[.int .u32 a.1,.int .u32 a.2] 68 (0,0)):=heap_alloc_new w _;obtain⟨w1,Cl⟩:∃ w1,w1=w.alloc (.cells #[.int .u32 a.1,.int .u32 a.2] 68):=⟨_,rfl⟩;rw[← Cl]at g1 b1 ⊢;have g2:=World.grownBy_alloc w1 (.cells #[.int .u32 b.1,.int .u32 b.2] 68) none;have b2:(w1.alloc (.cells #[.int .u32 b.1,.int .u32 b.2] 68)).heap[w1.heap.size]?=some (.cells #[.int .u32 b.1,.int .u32 b.2] 68 (0,0)):=heap_alloc_new w1 _;obtain⟨w2,CU⟩:∃ w2,w2=w1.alloc (.cells #[.int .u32 b.1,.int .u32 b.2] 68):=⟨_,rfl⟩;rw[← CU]at g2 b2 ⊢;have b1':w2.heap[w.heap.size]?=some (.cells #[.int .u32 a.1,.int .u32 a.2] 68 (0,0)):=by rw[g2.block _ (Array.getElem?_eq_some_iff.1 b1).1 (by simp)];exact b1
 have g:=aB g1 g2;refine⟨_,aA b1' 0,_,aA b2 0,fun h=>⟨?_,g⟩,fun h=>⟨_,aA b1' 0,_,aA b2 0,fun h2=>⟨_,aA b1' 1,_,aA b2 1,?_,g⟩,fun h2=>⟨?_,g⟩⟩⟩
 ·have:fX a b=true:=by unfold fX;exact decide_eq_true (.inl h)
  rw[this]
 ·congr 2;unfold fX;rw[decide_eq_decide];omega
 ·have:fX a b=false:=by unfold fX;exact decide_eq_false (by omega)
  rw[this]
theorem qA{w:World}(e:Edge){n:Int}(he:0<=e.2/\e.2<=4294967295):Calls P 70 #[xM e,.int .u64 n] w fun ev w'=>ev=.returned (.bool (decide (e.1<e.2/\e.2<n)))/\w.grownBy w' none:=by
 apply vc70;dsimp only[VC70,rb,Br,Rd,nb]
 try simp only[aH]
 have g1:=World.grownBy_alloc w (.cells #[.int .u32 e.1,.int .u32 e.2] 68) none;have b1:(w.alloc (.cells #[.int .u32 e.1,.int .u32 e.2] 68)).heap[w.heap.size]?=some (.cells #[.int .u32 e.1,.int .u32 e.2] 68 (0,0)):=heap_alloc_new w _;refine⟨_,aA b1 0,_,aA b1 1,fun h=>⟨_,aA b1 1,by omega,?_,g1⟩,fun h=>⟨?_,g1⟩⟩
 ·congr 2;simp;omega
 ·congr 2;simp;omega
theorem rE{w:World}(a b:rH):Calls P 59 #[BX a,BX b] w fun ev w'=>ev=.returned (.bool (gO a b))/\w.grownBy w' none:=by
 apply vc59;dsimp only[VC59,rb,Br,Rd,cB,nb,iq];have g1:=World.grownBy_alloc w (.cells #[.int .i64 a.t,.int .u32 a.u,.int .u32 a.v,.bool a.add] 73) none;have b1:(w.alloc (.cells #[.int .i64 a.t,.int .u32 a.u,.int .u32 a.v,.bool a.add] 73)).heap[w.heap.size]?=some (.cells #[.int .i64 a.t,.int .u32 a.u,.int .u32 a.v,.bool a.add] 73 (0,0)):=heap_alloc_new w _;obtain⟨w1,Cl⟩:∃ w1,w1=w.alloc (.cells #[.int .i64 a.t,.int .u32 a.u,.int .u32 a.v,.bool a.add] 73):=⟨_,rfl⟩;rw[← Cl]at g1 b1 ⊢;have g2:=World.grownBy_alloc w1 (.cells #[.int .i64 b.t,.int .u32 b.u,.int .u32 b.v,.bool b.add] 73) none;have b2:(w1.alloc (.cells #[.int .i64 b.t,.int .u32 b.u,.int .u32 b.v,.bool b.add] 73)).heap[w1.heap.size]?=some (.cells #[.int .i64 b.t,.int .u32 b.u,.int .u32 b.v,.bool b.add] 73 (0,0)):=heap_alloc_new w1 _;obtain⟨w2,CU⟩:∃ w2,w2=w1.alloc (.cells #[.int .i64 b.t,.int .u32 b.u,.int .u32 b.v,.bool b.add] 73):=⟨_,rfl⟩;rw[← CU]at g2 b2 ⊢;have b1':w2.heap[w.heap.size]?=some (.cells #[.int .i64 a.t,.int .u32 a.u,.int .u32 a.v,.bool a.add] 73 (0,0)):=by rw[g2.block _ (Array.getElem?_eq_some_iff.1 b1).1 (by simp)];exact b1
 have g:=aB g1 g2;refine⟨_,aA b1' 0,_,aA b2 0,fun h=>⟨?_,g⟩,fun h=>⟨_,aA b1' 0,_,aA b2 0,fun h2=>⟨_,aA b1' 1,_,aA b1' 2,_,aA b2 1,_,aA b2 2,?_⟩,fun h2=>⟨?_,g⟩⟩⟩
 ·congr 2;simp[gO,h]
 ·refine(jJ (a.u,a.v) (b.u,b.v)).mono fun ev w3 hh=>?_;obtain⟨rfl,g3⟩:=hh;refine⟨_,rfl,?_,aB g g3⟩;congr 2;simp[gO,h,h2]
 ·congr 2;simp[gO,h,h2]
theorem lZ{w:World}{A:OA}{l:List Edge}(h:bS w A (aS l)){j:Nat}(hj:j<l.length):∃ a,A=some a/\w.cell? (a.add (j*2))=some (.int .u32 l[j].1)/\w.cell? ((a.add (j*2)).add 1)=some (.int .u32 l[j].2):=by
 obtain⟨h1,h2⟩:=pF hj;obtain⟨a,e1,e2⟩:=h _ _ h1;obtain⟨a',e3,e4⟩:=h _ _ h2;rw[e1]at e3;cases e3;exact⟨a,e1,e2,by rw[eF];exact e4⟩
theorem pZ {w:World} {A:OA} {n c:Nat} {l:List Edge} (hr:bS w A (aS l)) (hn:n=l.length) (hl:n<=2^40):Calls P 61 #[.slice A n c] w fun ev w'=>ev=.returned (.bool (iQ l))/\w.grownBy w' none:=by
  apply vc61;dsimp only[VC61,rb,Br,Rd,Ix,cB,ad,al]
  try simp only[aH]
  refine⟨fun m i w1=>∃ j:Nat,i=(j:Int)/\1<=j/\(j<=l.length∨j=1)/\m=l.length-j/\(∀ t,t+1<j->fX (l.getD t (0,0)) (l.getD (t+1) (0,0))=true)/\w.grownBy w1 none,⟨_,1,rfl,by omega,.inr rfl,rfl,fun t ht=>by omega,aF _ _⟩,?_⟩;rintro m i w1 ⟨j,rfl,h1,hj,rfl,hs,hg⟩;have tj:(j:Int).toNat=j:=by omega
  have tj1:((j:Int)-1).toNat=j-1:=by omega
  rw[tj,tj1];refine⟨fun Cc=>?_,fun Ck=>⟨?_,hg⟩⟩
  · have gd:=aK hg;obtain⟨a,e1,e2,e3⟩:=lZ (hr.kept_none gd) (show j-1<l.length by omega);obtain⟨a',f1,f2,f3⟩:=lZ (hr.kept_none gd) (show j<l.length by omega);refine⟨by omega,a,e1,by omega,by omega,_,e2,_,e3,a',f1,by omega,by omega,_,f2,_,f3,?_⟩;refine(jJ l[j-1] l[j]).mono fun ev w2 hh=>?_;obtain⟨rfl,g2⟩:=hh;have CW:=aB gd g2;have d1:l.getD (j-1) (0,0)=l[j-1]:=by simp[List.getD_eq_getElem?_getD,show j-1<l.length by omega]
    have d2:l.getD (j-1+1) (0,0)=l[j]:=by rw[show j-1+1=j by omega];simp[List.getD_eq_getElem?_getD,show j<l.length by omega]
    refine⟨_,rfl,fun h=>⟨?_,CW⟩,fun h=>⟨by omega,l.length-(j+1),by omega,j+1,by omega,by omega,.inl (by omega),rfl,fun t ht=>?_,CW⟩⟩
    · have:iQ l=false:=by
        cases hq:iQ l with
        | false=>rfl
        | true =>
          have:=List.all_eq_true.1 hq (j-1) (List.mem_range.2 (by omega));rw[d1,d2,h]at this;cases this
      rw[this]
    · by_cases e:t+1=j
      · have:t=j-1:=by omega
        subst this;rw[d1,d2];simpa using h
      · exact hs t (by omega)
  · have:iQ l=true:=List.all_eq_true.2 fun t ht=>hs t (by have:=List.mem_range.1 ht;omega);rw[this]
def nL(l:List Edge)(e:Edge):Int:=if e∈l then(l.idxOf e:Int) else -1
theorem wB {w:World} {A:OA} {n c:Nat} {l:List Edge} {e:Edge} (hr:bS w A (aS l)) (hn:n=l.length) (hl:n<=2^40):Calls P 60 #[.slice A n c,xM e] w fun ev w'=>ev=.returned (.int .i64 (nL l e))/\w.grownBy w' none:=by
  apply vc60;dsimp only[VC60,Br,Bb,Rd,Ix,Eg,nb,ad,al,iq]
  try simp only[aH]
  have g1:=World.grownBy_alloc w (.cells #[.int .u32 e.1,.int .u32 e.2] 68) none;have b1:(w.alloc (.cells #[.int .u32 e.1,.int .u32 e.2] 68)).heap[w.heap.size]?=some (.cells #[.int .u32 e.1,.int .u32 e.2] 68 (0,0)):=heap_alloc_new w _;obtain⟨w1,Cl⟩:∃ w1,w1=w.alloc (.cells #[.int .u32 e.1,.int .u32 e.2] 68):=⟨_,rfl⟩;rw[← Cl]at g1 b1 ⊢;refine⟨fun m i w2=>∃ j:Nat,i=(j:Int)/\j<=l.length/\m=l.length-j/\(∀ t (h:t<l.length),t<j->l[t]≠e)/\w1.grownBy w2 none,⟨_,0,rfl,by omega,rfl,fun t _ ht=>by omega,aF _ _⟩,?_⟩;rintro m i w2 ⟨j,rfl,hj,rfl,hs,hg⟩;have tj:(j:Int).toNat=j:=by omega
  rw[tj];refine⟨fun Cc=>?_,fun Ck=>⟨?_,aB g1 hg⟩⟩
  · have gd:=aK hg;have lj:j<l.length:=by omega
    obtain⟨a,e1,e2,e3⟩:=lZ ((hr.kept_none g1).kept_none gd) lj;have b2:w2.drew.heap[w.heap.size]?=some (.cells #[.int .u32 e.1,.int .u32 e.2] 68 (0,0)):=by rw[gd.block _ (Array.getElem?_eq_some_iff.1 b1).1 (by simp)];exact b1
    refine⟨a,e1,by omega,by omega,_,e2,_,e3,_,aA b2 0,_,aA b2 1,_,fun w=>AP _ _ _ _ _ _ w,fun h=>⟨?_,aB g1 gd⟩,fun h=>⟨by omega,l.length-(j+1),by omega,j+1,by omega,by omega,rfl,fun t ht h3=>?_,gd⟩⟩
    · have he:l[j]=e:=by
        have:=of_decide_eq_true h;exact Prod.ext this.1 this.2
      have hm:e∈l:=by rw[← he];exact List.getElem_mem lj
      have hi:l.idxOf e=j:=by
        have h4:l.idxOf e<l.length:=List.idxOf_lt_length_iff.2 hm;have h5:l[l.idxOf e]=e:=List.getElem_idxOf h4;rcases Nat.lt_trichotomy (l.idxOf e) j with q | q | q
        · exact absurd h5 (hs _ h4 q)
        · exact q
        · exfalso;have:=List.not_of_lt_findIdx (p:=(· ==e)) (xs:=l) (i:=j) q;simp[he]at this
      rw[nL,if_pos hm,hi]
    · by_cases e4:t=j
      · subst e4;intro h5;rw[h5]at h;simp at h
      · exact hs t ht (by omega)
  · have hm:e ∉ l:=by
      intro h;obtain⟨t,ht,h2⟩:=List.mem_iff_getElem.1 h;exact hs t ht (by omega) h2
    rw[nL,if_neg hm]
theorem tR:lS P 74 68 2 (P.bytesOf 68):=⟨(P.info? 68).getD default,((P.info? 68).getD default).zero.getD undef,by kernel_rfl,by kernel_rfl,by kernel_rfl,by kernel_rfl,by kernel_rfl,by kernel_rfl,by decide⟩
theorem yR:P.bytesOf 68<=64:=of_decide_eq_true (by kernel_rfl)
theorem bV{w:World}{base:Nat}{A B:OA}{n c m d:Nat}{xs ys:List Edge}(ho:aE w base 68 2 A n c (aS xs))(hB:bS w B (aS ys))(hm:m=ys.length)(hd:B=none->d=0)(hn:n+m<=2^39)(hb:base<=w.heap.size):
    ∃ (A':OA) (n' c':Nat) (w':World),Sem.run P (Builtin.append_ #[74,74] 74 #[.slice A n c,.slice B m d]) w=.ok (.slice A' n' c') w' ∧
      aE w' base 68 2 A' n' c' (aS (xs++ys))/\w.grownBy w' (Value.slice A n c).ownBlock/\n'=n+m:=by
  cases B with
  | none =>
    have Fa:ys=[]:=by
      cases ys with
      | nil=>rfl
      | cons y ys=>obtain⟨a,e,_⟩:=hB 0 _ rfl;cases e
    subst Fa;have h0:m=0:=by simpa using hm
    have h1:=hd rfl;subst h0 h1;exact⟨A,n,c,w,ho.appends_nil tR,by simpa using ho,aF _ _,rfl⟩
  | some a =>
    obtain⟨A',n',c',w',h1,h2,h3,h4,_⟩:=ho.appends (ty:=74) tR yR (a:=a) (m:=m) (cc:=d) (us:=aS ys) (by rw[kI,hm]) (fun j u hj=>by obtain⟨b,q1,q2⟩:=hB j u hj;cases q1;exact q2) (fun u hu=>by
      simp only[aS,List.mem_flatMap]at hu;obtain⟨e,_,he⟩:=hu;simp[xN]at he;rcases he with rfl | rfl <;>rfl) (by omega) hb
    exact⟨A',n',c',w',h1,by rw[qR];exact h2,h4,h3⟩
theorem BY{w:World}{A:OA}{c k:Nat}{l:List Edge}(h:bS w A (aS l))(hA:A=none->c=0)(hc:l.length<=c):bS w (bM A c k 2) (aS (l.drop k))/\(bM A c k 2=none->c-k=0):=by
 unfold bM;split
 ·rename_i Cu;refine⟨?_,fun _=>by omega⟩;rw[List.drop_eq_nil_of_le (by omega)];intro j u hj;simp[aS]at hj
 ·have:=h.drop (k*2);rw[wF]at this;refine⟨this,fun e=>?_⟩;cases A with
  | none=>rw[hA rfl];omega
  | some a=>simp at e
theorem zG{w:World}{A:OA}{l:List Edge}(h:bS w A (aS l))(k:Nat):bS w A (aS (l.take k)):=by
 intro j u hj;rw[← wE,List.getElem?_take]at hj;split at hj
 ·exact h j u hj
 ·cases hj
def nZ(l:List Edge)(e:Edge):Nat:=(l.takeWhile fun x=>fX x e).length
def eM(l:List Edge)(ev:rH):Option (List Edge) :=
 if iQ l=false then none else if ev.add=decide ((ev.u,ev.v)∈l) then none else
 if ev.add=false then some (l.take (l.idxOf (ev.u,ev.v))++l.drop (l.idxOf (ev.u,ev.v)+1)) else some (l.take (nZ l (ev.u,ev.v))++((ev.u,ev.v) ::l.drop (nZ l (ev.u,ev.v))))
theorem xA{l:List Edge}{e:Edge}{j:Nat}(hj:j<=l.length)(h:∀ t (ht:t<l.length),t<j->fX l[t] e=true)(h2:∀(ht:j<l.length),fX l[j] e=false):nZ l e=j:=by
 induction l generalizing j with
 | nil=>simp at hj;subst hj;rfl
 | cons x l ih =>
  cases j with
  | zero =>
   have:=h2 (by simp);simp at this;simp[nZ,List.takeWhile_cons,this]
  | succ j =>
   have h0:=h 0 (by simp) (by omega);simp at h0;have:=ih (j:=j) (by simpa using hj) (fun t ht Hc=>h (t+1) (Nat.succ_lt_succ ht) (by omega)) (fun ht=>h2 (Nat.succ_lt_succ ht));simp[nZ,List.takeWhile_cons,h0]at this ⊢;exact this
theorem uS {w:World} {A:OA} {n c:Nat} {l:List Edge} {e:rH} (hr:bS w A (aS l)) (hn:n=l.length) (hc:n<=c) (hA:A=none->c=0) (hl:n<=2^30) :
    Calls P 29 #[.slice A n c,BX e] w fun ev w'=>∃(A':OA)(n' c':Nat),ev=.returned (.tuple #[.slice A' n' c',.bool (eM l e).isSome])/\aE w' w.heap.size 68 2 A' n' c' (aS ((eM l e).getD []))/\w.grownBy w' none:=by
  apply vc29;dsimp only[VC29,rt,Br,Bb,Rd,Rc,Ix,Ap,Eg,cI,cB,nb,ad,al,iq]
  try simp only[aH]
  have g1:=World.grownBy_alloc w (.cells #[.int .i64 e.t,.int .u32 e.u,.int .u32 e.v,.bool e.add] 73) none;have b1:(w.alloc (.cells #[.int .i64 e.t,.int .u32 e.u,.int .u32 e.v,.bool e.add] 73)).heap[w.heap.size]?=some (.cells #[.int .i64 e.t,.int .u32 e.u,.int .u32 e.v,.bool e.add] 73 (0,0)):=heap_alloc_new w _;obtain⟨w1,Cl⟩:∃ w1,w1=w.alloc (.cells #[.int .i64 e.t,.int .u32 e.u,.int .u32 e.v,.bool e.add] 73):=⟨_,rfl⟩;rw[← Cl]at g1 b1 ⊢;have keep:∀ w',w1.grownBy w' none->w'.heap[w.heap.size]?=some (.cells #[.int .i64 e.t,.int .u32 e.u,.int .u32 e.v,.bool e.add] 73 (0,0)):=fun w' g=>by rw[g.block _ (Array.getElem?_eq_some_iff.1 b1).1 (by simp)];exact b1
  refine⟨_,aA b1 1,_,aA b1 2,?_⟩;refine(wB (e:=(e.u,e.v)) (hr.kept_none g1) hn (by omega)).mono fun ev w2 hh=>?_;obtain⟨rfl,g2⟩:=hh;refine⟨_,rfl,?_⟩;refine(pZ ((hr.kept_none g1).kept_none g2) hn (by omega)).mono fun ev w3 hh=>?_;obtain⟨rfl,g3⟩:=hh;have CC:=aB g2 g3;have Cw:=aB g1 CC;have Ds:decide (nL l (e.u,e.v)≥0)=decide ((e.u,e.v)∈l):=by
    unfold nL;by_cases h:(e.u,e.v)∈l
    · simp[h]
    · simp[h]
  refine⟨_,rfl,fun h=>?_,fun h=>?_⟩
  · have:eM l e=none:=by unfold eM;rw[if_pos h]
    rw[this];exact⟨_,_,_,rfl,aE.nil _ _ _ _,Cw⟩
  have Dw:¬ iQ l=false:=h;have b3:=keep w3 CC;have hu:P.underlying 4=some .bool:=by kernel_rfl
  refine⟨_,aA b3 3,_,fun w=>AO _ _ _ _ w,fun h=>?_,fun h=>?_⟩
  · have h':e.add=decide ((e.u,e.v)∈l):=by rw[← Ds];simpa using h
    have:eM l e=none:=by unfold eM;rw[if_neg Dw,if_pos h']
    rw[this];exact⟨_,_,_,rfl,aE.nil _ _ _ _,Cw⟩
  have Di:¬ e.add=decide ((e.u,e.v)∈l):=by rw[← Ds];simpa using h
  refine⟨_,aA b3 3,fun Eo=>?_,fun Fw=>?_⟩
  · have hm:(e.u,e.v)∈l:=by
      rw[Eo]at Di;by_cases q:(e.u,e.v)∈l
      · exact q
      · simp[q]at Di
    have HG:nL l (e.u,e.v)=((l.idxOf (e.u,e.v):Nat):Int):=by rw[nL,if_pos hm]
    have ER:l.idxOf (e.u,e.v)<l.length:=List.idxOf_lt_length_iff.2 hm;have Fh:eM l e=some (l.take (l.idxOf (e.u,e.v))++l.drop (l.idxOf (e.u,e.v)+1)):=by unfold eM;rw[if_neg Dw,if_neg Di,if_pos Eo]
    rw[Fh,HG];generalize l.idxOf (e.u,e.v)=i at *;have ti:(i:Int).toNat=i:=by omega
    have ti1:((i:Int)+1).toNat=i+1:=by omega
    rw[ti,ti1];have gd:=aK Cw;have rd:=hr.kept_none gd;obtain⟨A4,n4,c4,w4,f1,f2,f3,f4⟩:=bV (n:=0) (c:=0) (A:=none) (xs:=[]) (aE.nil w3.drew w3.drew.heap.size 68 2) (m:=i) (d:=c) (zG rd i) (by rw[List.length_take];omega) hA (by omega) (Nat.le_refl _);have g4:w3.drew.grownBy w4 none:=cZ (aF w3.drew none) f3 (fun k hk=>by simp[Value.ownBlock]at hk);rw[List.nil_append]at f2;obtain⟨r5,d5⟩:=BY (k:=i+1) (rd.kept_none g4) hA (by omega);obtain⟨A5,n5,c5,w5,p1,p2,p3,p4⟩:=bV f2 (m:=n-(i+1)) (d:=c-(i+1)) r5 (by rw[List.length_drop];omega) d5 (by omega) g4.size;exact⟨⟨by omega,by omega⟩,_,_,_,w4,f1,by omega,⟨by omega,by omega⟩,_,_,_,w5,p1,_,_,_,rfl,p2.mono gd.size,aB gd (cZ g4 p3 f2.block_ge)⟩
  · have Ey:¬ e.add=false:=Fw;have Fh:eM l e=some (l.take (nZ l (e.u,e.v))++((e.u,e.v) ::l.drop (nZ l (e.u,e.v)))):=by unfold eM;rw[if_neg Dw,if_neg Di,if_neg Ey]
    rw[Fh];refine⟨fun i w'=>i=(nZ l (e.u,e.v):Int)/\nZ l (e.u,e.v)<=l.length/\w1.grownBy w' none,⟨fun m i w4=>∃ j:Nat,i=(j:Int)/\j<=l.length/\m=l.length-j/\(∀ t (ht:t<l.length),t<j->fX l[t] (e.u,e.v)=true)/\w1.grownBy w4 none,⟨_,0,rfl,by omega,rfl,fun t _ ht=>by omega,CC⟩,?_⟩,?_⟩
    · rintro m i w4 ⟨j,rfl,hj,rfl,hs,g4⟩;have tj:(j:Int).toNat=j:=by omega
      rw[tj];have gd:=aK g4;refine⟨fun Cc=>?_,fun Ck=>?_⟩
      · have lj:j<l.length:=by omega
        obtain⟨a,e1,e2,e3⟩:=lZ ((hr.kept_none g1).kept_none gd) lj;have b4:=keep w4.drew gd;refine⟨a,e1,by omega,by omega,_,e2,_,e3,_,aA b4 1,_,aA b4 2,?_⟩;refine(jJ l[j] (e.u,e.v)).mono fun ev w5 hh=>?_;obtain⟨rfl,g5⟩:=hh;refine⟨_,rfl,fun h=>⟨by omega,l.length-(j+1),by omega,j+1,by omega,by omega,rfl,fun t ht Hc=>?_,aB gd g5⟩,fun h=>?_⟩
        · by_cases q:t=j
          · subst q;exact h
          · exact hs t ht (by omega)
        · have:=xA hj hs (fun _=>h);exact⟨by rw[this],by omega,aB gd g5⟩
      · have:=xA hj hs (fun ht=>by omega);exact⟨by rw[this],by omega,gd⟩
    · rintro i w4 ⟨rfl,hk,g4⟩;generalize nZ l (e.u,e.v)=k at *;have tk:(k:Int).toNat=k:=by omega
      rw[tk];have gd:=aK g4;have g0d:=aB g1 gd;have rd:=hr.kept_none g0d;refine⟨fun w'=>w1.grownBy w' none,gd,⟨⟨by omega,by omega⟩,?_⟩,⟨⟨by omega,by omega⟩,?_⟩⟩
      · obtain⟨A5,n5,c5,w5,f1,f2,f3,f4⟩:=bV (n:=0) (c:=0) (A:=none) (xs:=[]) (aE.nil w4.drew w4.drew.heap.size 68 2) (m:=k) (d:=c) (zG rd k) (by rw[List.length_take];omega) hA (by omega) (Nat.le_refl _);have g5:w4.drew.grownBy w5 none:=cZ (aF w4.drew none) f3 (fun k hk=>by simp[Value.ownBlock]at hk);rw[List.nil_append]at f2;have DO:=aB gd g5;have ga:=World.grownBy_alloc w5 (.cells #[.int .u32 e.u,.int .u32 e.v] 68) none;have ra:bS (w5.alloc (.cells #[.int .u32 e.u,.int .u32 e.v] 68)) (some ⟨w5.heap.size,0,none⟩) (aS [(e.u,e.v)]):=kY w5 _ 68;obtain⟨A6,n6,c6,w6,p1,p2,p3,p4⟩:=bV (f2.kept ga) (m:=1) (d:=1) ra rfl (fun h=>by cases h) (by omega) (Nat.le_trans g5.size ga.size);have Ig:=aB g5 ga;have g6:=cZ Ig p3 f2.block_ge;have FS:=aB gd g6;obtain⟨r7,d7⟩:=BY (k:=k) (rd.kept_none g6) hA (by omega);obtain⟨A7,n7,c7,w7,q1,q2,q3,q4⟩:=bV p2 (m:=n-k) (d:=c-k) r7 (by rw[List.length_drop];omega) d7 (by omega) g6.size;have g7:=cZ g6 q3 p2.block_ge;exact⟨_,_,_,w5,f1,DO,_,fun w' h=>aA (keep w' h) 1,_,fun w' h=>aA (keep w' h) 2,aB DO ga,_,_,_,w6,p1,FS,⟨by omega,by omega⟩,_,_,_,w7,q1,aB gd g7,_,_,_,rfl,by simpa using q2.mono g0d.size,aB g0d g7⟩
      · have ga:=World.grownBy_alloc w4.drew (.cells #[.int .u32 e.u,.int .u32 e.v] 68) none;have ra:bS (w4.drew.alloc (.cells #[.int .u32 e.u,.int .u32 e.v] 68)) (some ⟨w4.drew.heap.size,0,none⟩) (aS [(e.u,e.v)]):=kY w4.drew _ 68;obtain⟨wa,Fd⟩:∃ wa,wa=w4.drew.alloc (.cells #[.int .u32 e.u,.int .u32 e.v] 68):=⟨_,rfl⟩;refine⟨_,fun w' h=>aA (keep w' h) 1,_,fun w' h=>aA (keep w' h) 2,?_⟩;simp only[List.getElem?_toArray];show(fun w'=>w1.grownBy w' none) (w4.drew.alloc (.cells #[.int .u32 e.u,.int .u32 e.v] 68))/\_;rw[← Fd]at ga ra ⊢;obtain⟨A5,n5,c5,w5,f1,f2,f3,f4⟩:=bV (n:=0) (c:=0) (A:=none) (xs:=[]) (aE.nil wa wa.heap.size 68 2) (m:=k) (d:=c) (zG (rd.kept_none ga) k) (by rw[List.length_take];omega) hA (by omega) (Nat.le_refl _);have g5:wa.grownBy w5 none:=cZ (aF wa none) f3 (fun k hk=>by simp[Value.ownBlock]at hk);rw[List.nil_append]at f2;obtain⟨A6,n6,c6,w6,p1,p2,p3,p4⟩:=bV f2 (m:=1) (d:=1) (ra.kept_none g5) rfl (fun h=>by cases h) (by omega) g5.size;have g6:=cZ g5 p3 f2.block_ge;obtain⟨r7,d7⟩:=BY (k:=k) ((rd.kept_none ga).kept_none g6) hA (by omega);obtain⟨A7,n7,c7,w7,q1,q2,q3,q4⟩:=bV p2 (m:=n-k) (d:=c-k) r7 (by rw[List.length_drop];omega) d7 (by omega) g6.size;have g7:=cZ g6 q3 p2.block_ge;have g1a:=aB gd ga;exact⟨g1a,_,_,_,w5,f1,aB g1a g5,_,_,_,w6,p1,aB g1a g6,⟨by omega,by omega⟩,_,_,_,w7,q1,aB g1a g7,_,_,_,rfl,by simpa using q2.mono (Nat.le_trans g0d.size ga.size),aB g0d (aB ga g7)⟩
theorem Al{w:World}{A:OA}{l:List rH}(h:bS w A (tM l)){j:Nat}(hj:j<l.length):∃ a,A=some a/\w.cell? (a.add (j*4))=some (.int .i64 l[j].t)/\w.cell? ((a.add (j*4)).add 1)=some (.int .u32 l[j].u)/\w.cell? ((a.add (j*4)).add 2)=some (.int .u32 l[j].v)/\w.cell? ((a.add (j*4)).add 3)=some (.bool l[j].add):=by
 obtain⟨h1,h2,h3,h4⟩:=tL hj;obtain⟨a,e1,e2⟩:=h _ _ h1;have rd:∀ k u,(tM l)[j*4+k]?=some u->w.cell? ((a.add (j*4)).add k)=some u:=fun k u hk=>by
  obtain⟨a',q1,q2⟩:=h _ _ hk;rw[e1]at q1;cases q1;rw[eF];exact q2
 exact⟨a,e1,e2,rd 1 _ h2,rd 2 _ h3,rd 3 _ h4⟩
def wY(N:Int)(e:rH):Bool:=decide (e.u<e.v/\e.v<N)
def gM(N:Int):List rH->Option rH->List Edge->Nat->Int×Int
 | [],_,_,_=>(0,0)
 | e ::l,p,now,i=>if e.t<0∨e.t>4611686018427387903 then((i:Int),26) else if wY N e=false then((i:Int),24) else
  if(match p with | none=>true | some q=>gO q e)=false then((i:Int),23) else match eM now e with
  | none=>((i:Int),25)
  | some x=>gM N l (some e) x (i+1)
theorem qZ(N:Int)(e:rH)(l:List rH)(p:Option rH)(now:List Edge)(i:Nat):gM N (e ::l) p now i=if e.t<0∨e.t>4611686018427387903 then((i:Int),26) else if wY N e=false then((i:Int),24) else
    if(match p with | none=>true | some q=>gO q e)=false then((i:Int),23) else match eM now e with
    | none=>((i:Int),25)
    | some x=>gM N l (some e) x (i+1):=rfl
def fK(N:Int)(l:List rH):Int×Int:=if N>4294967296∨l.length>2147483648 then(0,26) else gM N l none [] 0
theorem xW{l x:List Edge}{e:rH}(h:eM l e=some x):x.length<=l.length+1:=by
 unfold eM at h;split at h
 ·cases h
 ·split at h
  ·cases h
  ·split at h
   ·cases h;simp;omega
   ·cases h;simp;omega
theorem rD {w:World} {A:OA} {n c:Nat} {l:List rH} {N:Int} (hr:bS w A (tM l)) (hn:n=l.length) (hl:n<=2^20) (hb:∀ e∈l,(0<=e.u/\e.u<=4294967295)/\0<=e.v/\e.v<=4294967295) :
    Calls P 51 #[.agg #[.int .u64 N,.slice A n c]] w fun ev w'=>ev=.returned (.tuple #[.int .i64 (fK N l).1,.int .i64 (fK N l).2])/\w.grownBy w' none:=by
  apply vc51;dsimp only[VC51,rt,Wt,Br,Rd,Rs,Ix,Ws,cB,nb,ad,al,iq]
  try simp only[aH]
  have g1:=World.grownBy_alloc w (.cells #[.int .u64 N,.slice A n c] 31) none;have b1:(w.alloc (.cells #[.int .u64 N,.slice A n c] 31)).heap[w.heap.size]?=some (.cells #[.int .u64 N,.slice A n c] 31 (0,0)):=heap_alloc_new w _;obtain⟨w1,Cl⟩:∃ w1,w1=w.alloc (.cells #[.int .u64 N,.slice A n c] 31):=⟨_,rfl⟩;rw[← Cl]at g1 b1 ⊢;have keep:∀ w',w1.grownBy w' none->w'.heap[w.heap.size]?=some (.cells #[.int .u64 N,.slice A n c] 31 (0,0)):=fun w' g=>by rw[g.block _ (Array.getElem?_eq_some_iff.1 b1).1 (by simp)];exact b1
  refine⟨_,aA b1 0,fun h=>⟨by rw[fK,if_pos (.inl h)],g1⟩,fun h=>⟨_,_,_,aA b1 1,fun h2=>⟨by rw[fK,if_pos (.inr (by omega))],g1⟩,fun h2=>?_⟩⟩;have HM:fK N l=gM N l none [] 0:=by rw[fK,if_neg (by omega)]
  refine⟨fun m B k d i w2=>∃(j:Nat)(now:List Edge),i=(j:Int)/\j<=l.length/\m=l.length-j/\aE w2 w1.heap.size 68 2 B k d (aS now)/\now.length<=j/\fK N l=gM N (l.drop j) (if j=0 then none else l[j-1]?) now j/\w1.grownBy w2 none,
    ⟨_,0,[],rfl,by omega,rfl,aE.nil _ _ _ _,by simp,by simpa using HM,aF _ _⟩,?_⟩
  rintro m B k d i w2 ⟨j,now,rfl,hj,rfl,ho,IA,Cu,hg⟩;have tj:(j:Int).toNat=j:=by omega
  have tj1:((j:Int)-1).toNat=j-1:=by omega
  have hk:k=now.length:=by have:=ho.cases.1;rw[kI]at this;omega
  rw[tj,tj1];refine⟨_,_,_,aA (keep w2 hg) 1,fun Cc=>?_,fun Ck=>?_⟩
  · have lj:j<l.length:=by omega
    rw[List.drop_eq_getElem_cons lj,qZ]at Cu;obtain⟨a,e1,e2,e3,e4,e5⟩:=Al ((hr.kept_none g1).kept_none hg) lj;have HP:=hb _ (List.getElem_mem lj);have ga:=World.grownBy_alloc w2 (.cells #[.int .i64 0,.int .u32 0,.int .u32 0,.bool false] 73) none;have s0:(w2.alloc (.cells #[.int .i64 0,.int .u32 0,.int .u32 0,.bool false] 73)).heap[w2.heap.size]?=some (.cells #[.int .i64 0,.int .u32 0,.int .u32 0,.bool false] 73 (0,0)):=heap_alloc_new w2 _;obtain⟨wa,Fd⟩:∃ wa,wa=w2.alloc (.cells #[.int .i64 0,.int .u32 0,.int .u32 0,.bool false] 73):=⟨_,rfl⟩;rw[← Fd]at ga s0 ⊢;have s1:=aG s0 0 (.int .i64 l[j].t);have s2:=aG s1 1 (.int .u32 l[j].u);have s3:=aG s2 2 (.int .u32 l[j].v);have s4:=aG s3 3 (.bool l[j].add);have K4:Kp w2 ((((wa.setCell ⟨w2.heap.size,0,none⟩ (.int .i64 l[j].t)).setCell ⟨w2.heap.size,1,none⟩ (.int .u32 l[j].u)).setCell ⟨w2.heap.size,2,none⟩ (.int .u32 l[j].v)).setCell ⟨w2.heap.size,3,none⟩ (.bool l[j].add)) (fun k=>w2.heap.size<=k):=eZ (eZ (eZ (eZ (Kp.of_none ga) (Nat.le_refl _)) (Nat.le_refl _)) (Nat.le_refl _)) (Nat.le_refl _);refine⟨_,_,_,aA (keep w2 hg) 1,a,e1,by omega,by omega,_,e2,_,e3,_,e4,_,e5,⟨_,aA s0 0⟩,aD s0 0,⟨_,aA s1 1⟩,aD s1 1,⟨_,aA s2 2⟩,aD s2 2,⟨_,aA s3 3⟩,aD s3 3,?_⟩;obtain⟨w4,Dc⟩:∃ w4,w4=(((wa.setCell ⟨w2.heap.size,0,none⟩ (.int .i64 l[j].t)).setCell ⟨w2.heap.size,1,none⟩ (.int .u32 l[j].u)).setCell ⟨w2.heap.size,2,none⟩ (.int .u32 l[j].v)).setCell ⟨w2.heap.size,3,none⟩ (.bool l[j].add):=⟨_,rfl⟩;rw[← Dc]at s4 K4 ⊢;replace s4:w4.heap[w2.heap.size]?=some (.cells #[.int .i64 l[j].t,.int .u32 l[j].u,.int .u32 l[j].v,.bool l[j].add] 73 (0,0)):=by simpa using s4
    have EX:w2.grownBy w4 none:=K4.grown (fun k hk e=>by omega);have Dj:=aB hg EX;have Da:=aB g1 Dj;refine⟨_,aA s4 0,fun h=>⟨by rw[Cu,if_pos (.inl h)],Da⟩,fun h0=>⟨_,aA s4 0,fun h=>⟨by rw[Cu,if_pos (.inr h)],Da⟩,fun h1=>⟨_,aA s4 1,_,aA s4 2,_,aA (keep w4 Dj) 0,?_⟩⟩⟩;rw[if_neg (by omega)]at Cu;refine(qA (l[j].u,l[j].v) HP.2).mono fun ev w5 hh=>?_;obtain⟨rfl,g5⟩:=hh;have DO:=aB Dj g5;refine⟨_,rfl,fun h=>⟨by rw[Cu,if_pos (show wY N l[j]=false from h)],aB g1 DO⟩,fun h=>?_⟩;rw[if_neg (show ¬ wY N l[j]=false from h)]at Cu;have s5:∀ w',w4.grownBy w' none->w'.heap[w2.heap.size]?=some (.cells #[.int .i64 l[j].t,.int .u32 l[j].u,.int .u32 l[j].v,.bool l[j].add] 73 (0,0)):=fun w' g=>by rw[g.block _ (Array.getElem?_eq_some_iff.1 s4).1 (by simp)];exact s4
    have gd:=aK g5;have DE:=yE ho;have CJ:k<=d:=zU ho
    -- the turn, behind whatever was looked at
    have fin:(match (if j=0 then none else l[j-1]?)with | none=>true | some q=>gO q l[j])=true->∀ w6,w4.grownBy w6 none->Calls P 29 #[.slice B k d,.agg #[.int .i64 l[j].t,.int .u32 l[j].u,.int .u32 l[j].v,.bool l[j].add]] w6 fun ev w7=>∃(C:OA)(cn cc:Nat)(q:Bool),ev=.returned (.tuple #[.slice C cn cc,.bool q])/\((q=false->Ending.returned (Value.tuple #[.int .i64 (j:Int),.int .i64 25])=Ending.returned (Value.tuple #[.int .i64 (fK N l).1,.int .i64 (fK N l).2])/\w.grownBy w7 none)/\(¬ q=false->(-9223372036854775808<=(j:Int)+1/\(j:Int)+1<=9223372036854775807)/\∃ m_1,m_1<l.length-j/\∃(j':Nat)(now':List Edge),(j:Int)+1=(j':Int)/\j'<=l.length/\m_1=l.length-j'/\aE w7 w1.heap.size 68 2 C cn cc (aS now')/\now'.length<=j'/\fK N l=gM N (l.drop j') (if j'=0 then none else l[j'-1]?) now' j'/\w1.grownBy w7 none)):=by
      intro HQ w6 g6;rw[if_neg (by rw[HQ];simp)]at Cu;have FQ:=aB EX g6;refine(uS (e:=l[j]) ((ho.kept FQ).row) hk CJ DE (by omega)).mono fun ev w7 hh=>?_;obtain⟨C,cn,cc,rfl,oC,g7⟩:=hh;have g17:=aB (aB hg FQ) g7;refine⟨_,_,_,_,rfl,fun hq=>?_,fun hq=>?_⟩
      · cases ht:eM now l[j]with
        | some x=>rw[ht]at hq;cases hq
        | none =>
          rw[ht]at Cu;exact⟨by rw[Cu],aB g1 g17⟩
      · cases ht:eM now l[j]with
        | none=>rw[ht]at hq;exact absurd rfl hq
        | some x =>
          rw[ht]at Cu oC;have:=xW ht;refine⟨⟨by omega,by omega⟩,l.length-(j+1),by omega,j+1,x,by omega,by omega,rfl,oC.mono (Nat.le_trans hg.size FQ.size),by omega,?_,g17⟩;rw[Cu];simp[lj]
    refine⟨fun CM=>?_,fun hz=>?_⟩
    · have lj1:j-1<l.length:=by omega
      obtain⟨a',f1,f2,f3,f4,f5⟩:=Al ((hr.kept_none g1).kept_none (aB Dj gd)) lj1;have sd:=s5 w5.drew gd;have Dn:(if j=0 then none else l[j-1]?)=some l[j-1]:=by rw[if_neg (by omega)];simp[lj1]
      refine⟨_,_,_,aA (keep w5.drew (aB Dj gd)) 1,by omega,a',f1,by omega,by omega,_,f2,_,f3,_,f4,_,f5,_,aA sd 0,_,aA sd 1,_,aA sd 2,_,aA sd 3,?_⟩;refine(rE l[j-1] l[j]).mono fun ev w6 hh=>?_;obtain⟨rfl,g6⟩:=hh;have FP:=aB gd g6;refine⟨_,rfl,fun hq=>⟨?_,aB g1 (aB Dj FP)⟩,fun hq=>?_⟩
      · rw[Cu,Dn,if_pos hq]
      · have s6:=s5 w6 FP;exact⟨_,aA s6 0,_,aA s6 1,_,aA s6 2,_,aA s6 3,fin (by rw[Dn];simpa using hq) w6 FP⟩
    · have j0:j=0:=by omega
      have sd:=s5 w5.drew gd;exact⟨_,aA sd 0,_,aA sd 1,_,aA sd 2,_,aA sd 3,fin (by rw[if_pos j0]) w5.drew gd⟩
  · have e:j=l.length:=by omega
    subst e;rw[List.drop_length]at Cu;exact⟨by rw[Cu];rfl,aB g1 hg⟩
end Go.Proofs.YtdlomlmijdifbaaGreatDoor

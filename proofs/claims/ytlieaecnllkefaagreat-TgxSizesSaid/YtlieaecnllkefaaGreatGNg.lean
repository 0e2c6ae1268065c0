/- Own texts, packed: N1, N2, N3, N4, N5, N6, N7, N8, N9, N10, N11. -/
import Derived.Test.YtlieaecnllkefaaGreatGFg
import Derived.Laws.StructEq
import Derived.ChangeKeysEq
import Derived.Test.YtlieaecnllkefaaGreatGYg
import Derived.Test.YtlieaecnllkefaaGreatGCg
import Derived.Test.YtlieaecnllkefaaGreatGIg
namespace Go.Proofs.YtlieaecnllkefaaGreat
open Go Go.V Go.RowKit
set_option linter.unusedVariables false
set_option linter.unusedSimpArgs false
set_option maxHeartbeats 4000000
set_option maxRecDepth 100000
theorem qj7(a b c e:Int)(w:World):(Op.equalIn 10000 45 (.agg #[.int .u32 a,.int .u32 b]) (.agg #[.int .u32 c,.int .u32 e])).run P w=.ok (decide (a=c/\b=e)) w:=by
 rw[run_equalIn_struct w 9999 45 _ _ (by kernel_rfl) (by kernel_rfl)]
 obtain ⟨f, g, hfg, hf1, hf2, hf3, hg1, hg2, hg3⟩ : ∃ f g : Field, (P.fieldsOf 45).toList = [f, g] ∧ f.name = "U" ∧ f.type = 43 ∧ f.offset = 0 ∧ g.name = "V" ∧ g.type = 43 ∧ g.offset = 1 :=
  ⟨((P.fieldsOf 45).toList)[0]!,((P.fieldsOf 45).toList)[1]!,by kernel_rfl,by kernel_rfl,by kernel_rfl,by kernel_rfl,by kernel_rfl,by kernel_rfl,by kernel_rfl⟩
 rw[hfg]
 have hu:P.underlying 43=some (.int .u32):=by kernel_rfl
 have hp:P.plainKey 43=true:=by kernel_rfl
 have e1:∀(x y:Int)(w:World),(part 43 #[.int .u32 x,.int .u32 y] 0).run P w=.ok (.int .u32 x) w:=fun x y w=>run_part_plain w hp rfl
 have e2:∀(x y:Int)(w:World),(part 43 #[.int .u32 x,.int .u32 y] 1).run P w=.ok (.int .u32 y) w:=fun x y w=>run_part_plain w hp rfl
 have q:∀(x y:Int)(w:World),(Op.equalIn 9999 43 (.int .u32 x) (.int .u32 y)).run P w=.ok (x ==y) w:=fun x y w=>run_equalIn_int w 9998 _ _ _ _ _ hu
 simp only[Op.eqFields,hf1,hf2,hf3,hg1,hg2,hg3,Sem.run_bind,Sem.run_ite,e1,e2,q,Result.andThen_ok]
 by_cases h1:a=c
 ·by_cases h2:b=e
  ·simp[h1,h2]
  ·simp[h1,h2]
 ·simp[h1]
theorem qlf(s t:Operand)(a b c e:Int)(w:World):Sem.run P (do eqGuard .eql 45 s t (.agg #[.int .u32 a,.int .u32 b]) (.agg #[.int .u32 c,.int .u32 e]);Go.binOp .eql 45 (.agg #[.int .u32 a,.int .u32 b]) (.agg #[.int .u32 c,.int .u32 e]):Sem Value) w=.ok (.bool (decide (a=c/\b=e))) w:=by
 rw[Sem.run_bind,run_eqGuard_agg w .eql 45 s t _ _ (by kernel_rfl),Result.andThen_ok,run_eql_struct w,qj7]
 rfl
abbrev Edge:=Int×Int
def xk(e:Edge):List Value:=[.int .u32 e.1,.int .u32 e.2]
def edges(l:List Edge):List Value:=l.flatMap xk
theorem qfi(l m:List Edge):edges (l++m)=edges l++edges m:=by simp[edges]
theorem dt(l:List Edge):(edges l).length=l.length*2:=by
 induction l with
 | nil=>rfl
 | cons e l ih=>simp[edges,xk]at ih ⊢;omega
theorem qfh:∀ {l:List Edge} {i:Nat} (h:i<l.length),(edges l)[i*2]?=some (.int .u32 l[i].1)/\(edges l)[i*2+1]?=some (.int .u32 l[i].2)
 | e ::l,0,_=>by simp[edges,xk]
 | e ::l,i+1,h=>by
  have ih:=qfh (l:=l) (i:=i) (by simpa using h)
  rw[show(i+1)*2=i*2+1+1 by omega]
  exact ih
theorem qka(l:List Edge)(k:Nat):(edges l).drop (k*2)=edges (l.drop k):=by
 induction k generalizing l with
 | zero=>simp
 | succ k ih =>
  cases l with
  | nil=>simp[edges]
  | cons e l=>rw[show(k+1)*2=k*2+1+1 by omega];exact ih l
theorem qj9(l:List Edge)(k:Nat):(edges l).take (k*2)=edges (l.take k):=by
 induction k generalizing l with
 | zero=>simp[edges]
 | succ k ih =>
  cases l with
  | nil=>simp[edges]
  | cons e l =>
   rw[show(k+1)*2=k*2+1+1 by omega]
   show List.take (k*2+1+1) (.int .u32 e.1 ::.int .u32 e.2 ::edges l)=.int .u32 e.1 ::.int .u32 e.2 ::edges (List.take k l)
   rw[List.take_succ_cons,List.take_succ_cons,ih]
structure Evt where
 t:Int
 u:Int
 v:Int
 add:Bool
deriving DecidableEq
def evtC(e:Evt):List Value:=[.int .i64 e.t,.int .u32 e.u,.int .u32 e.v,.bool e.add]
def fh(l:List Evt):List Value:=l.flatMap evtC
theorem cw(l:List Evt):(fh l).length=l.length*4:=by
 induction l with
 | nil=>rfl
 | cons e l ih=>simp[fh,evtC]at ih ⊢;omega
theorem qin:∀ {l:List Evt} {i:Nat} (h:i<l.length),(fh l)[i*4]?=some (.int .i64 l[i].t)/\(fh l)[i*4+1]?=some (.int .u32 l[i].u)/\(fh l)[i*4+2]?=some (.int .u32 l[i].v)/\(fh l)[i*4+3]?=some (.bool l[i].add)
 | e ::l,0,_=>by simp[fh,evtC]
 | e ::l,i+1,h=>by
  have ih:=qin (l:=l) (i:=i) (by simpa using h)
  rw[show(i+1)*4=i*4+1+1+1+1 by omega]
  exact ih
abbrev nk(e:Edge):Value:=.agg #[.int .u32 e.1,.int .u32 e.2]
abbrev evtV(e:Evt):Value:=.agg #[.int .i64 e.t,.int .u32 e.u,.int .u32 e.v,.bool e.add]
def aw(a b:Edge):Bool:=decide (a.1<b.1∨a.1=b.1/\a.2<b.2)
def br(a b:Evt):Bool:=decide (a.t<b.t) || (decide (a.t=b.t) && aw (a.u,a.v) (b.u,b.v))
def gj(l:List Edge):Bool:=(List.range (l.length-1)).all fun i=>aw (l.getD i (0,0)) (l.getD (i+1) (0,0))
theorem wu{w:World}(a b:Edge):Calls P 58 #[nk a,nk b] w fun ev w'=>ev=.returned (.bool (aw a b))/\w.grownBy w' none:=by
 apply vc58;dsimp only[VC58,Wt,Br,Bb,Rd,Rc,Rs,Ix,rI_,rB_,rS_]
 have g1:=World.grownBy_alloc w (.cells #[.int .u32 a.1,.int .u32 a.2] 45) none
 have b1:(w.alloc (.cells #[.int .u32 a.1,.int .u32 a.2] 45)).heap[w.heap.size]?=some (.cells #[.int .u32 a.1,.int .u32 a.2] 45 (0,0)):=heap_alloc_new w _
 obtain⟨w1,hw1⟩:∃ w1,w1=w.alloc (.cells #[.int .u32 a.1,.int .u32 a.2] 45):=⟨_,rfl⟩
 rw[← hw1]at g1 b1 ⊢
 have g2:=World.grownBy_alloc w1 (.cells #[.int .u32 b.1,.int .u32 b.2] 45) none
 have b2:(w1.alloc (.cells #[.int .u32 b.1,.int .u32 b.2] 45)).heap[w1.heap.size]?=some (.cells #[.int .u32 b.1,.int .u32 b.2] 45 (0,0)):=heap_alloc_new w1 _
 obtain⟨w2,hw2⟩:∃ w2,w2=w1.alloc (.cells #[.int .u32 b.1,.int .u32 b.2] 45):=⟨_,rfl⟩
 rw[← hw2]at g2 b2 ⊢
 have b1':w2.heap[w.heap.size]?=some (.cells #[.int .u32 a.1,.int .u32 a.2] 45 (0,0)):=by rw[g2.block _ (Array.getElem?_eq_some_iff.1 b1).1 (by simp)];exact b1
 have g:=ab g1 g2
 refine⟨_,aa b1' 0,_,aa b2 0,fun h=>⟨?_,g⟩,fun h=>⟨_,aa b1' 0,_,aa b2 0,fun h2=>⟨_,aa b1' 1,_,aa b2 1,?_,g⟩,fun h2=>⟨?_,g⟩⟩⟩
 ·have:aw a b=true:=by unfold aw;exact decide_eq_true (.inl h)
  rw[this]
 ·congr 2;unfold aw;rw[decide_eq_decide];omega
 ·have:aw a b=false:=by unfold aw;exact decide_eq_false (by omega)
  rw[this]
theorem qfu{w:World}(a b:Evt):Calls P 55 #[evtV a,evtV b] w fun ev w'=>ev=.returned (.bool (br a b))/\w.grownBy w' none:=by
 apply vc55;dsimp only[VC55,Wt,Br,Bb,Rd,Rc,Rs,Ix,rI_,rB_,rS_]
 have g1:=World.grownBy_alloc w (.cells #[.int .i64 a.t,.int .u32 a.u,.int .u32 a.v,.bool a.add] 62) none
 have b1:(w.alloc (.cells #[.int .i64 a.t,.int .u32 a.u,.int .u32 a.v,.bool a.add] 62)).heap[w.heap.size]?=some (.cells #[.int .i64 a.t,.int .u32 a.u,.int .u32 a.v,.bool a.add] 62 (0,0)):=heap_alloc_new w _
 obtain⟨w1,hw1⟩:∃ w1,w1=w.alloc (.cells #[.int .i64 a.t,.int .u32 a.u,.int .u32 a.v,.bool a.add] 62):=⟨_,rfl⟩
 rw[← hw1]at g1 b1 ⊢
 have g2:=World.grownBy_alloc w1 (.cells #[.int .i64 b.t,.int .u32 b.u,.int .u32 b.v,.bool b.add] 62) none
 have b2:(w1.alloc (.cells #[.int .i64 b.t,.int .u32 b.u,.int .u32 b.v,.bool b.add] 62)).heap[w1.heap.size]?=some (.cells #[.int .i64 b.t,.int .u32 b.u,.int .u32 b.v,.bool b.add] 62 (0,0)):=heap_alloc_new w1 _
 obtain⟨w2,hw2⟩:∃ w2,w2=w1.alloc (.cells #[.int .i64 b.t,.int .u32 b.u,.int .u32 b.v,.bool b.add] 62):=⟨_,rfl⟩
 rw[← hw2]at g2 b2 ⊢
 have b1':w2.heap[w.heap.size]?=some (.cells #[.int .i64 a.t,.int .u32 a.u,.int .u32 a.v,.bool a.add] 62 (0,0)):=by rw[g2.block _ (Array.getElem?_eq_some_iff.1 b1).1 (by simp)];exact b1
 have g:=ab g1 g2
 refine⟨_,aa b1' 0,_,aa b2 0,fun h=>⟨?_,g⟩,fun h=>⟨_,aa b1' 0,_,aa b2 0,fun h2=>⟨_,aa b1' 1,_,aa b1' 2,_,aa b2 1,_,aa b2 2,?_⟩,fun h2=>⟨?_,g⟩⟩⟩
 ·congr 2;simp[br,h]
 ·refine(wu (a.u,a.v) (b.u,b.v)).mono fun ev w3 hh=>?_
  obtain⟨rfl,g3⟩:=hh
  refine⟨_,rfl,?_,ab g g3⟩
  congr 2;simp[br,h,h2]
 ·congr 2;simp[br,h,h2]
theorem js{w:World}{A:Option Addr}{l:List Edge}(h:Row w A (edges l)){j:Nat}(hj:j<l.length):∃ a,A=some a/\w.cell? (a.add (j*2))=some (.int .u32 l[j].1)/\w.cell? ((a.add (j*2)).add 1)=some (.int .u32 l[j].2):=by
 obtain⟨h1,h2⟩:=qfh hj
 obtain⟨a,e1,e2⟩:=h _ _ h1
 obtain⟨a',e3,e4⟩:=h _ _ h2
 rw[e1]at e3;cases e3
 exact⟨a,e1,e2,by rw[iw];exact e4⟩
theorem qek {w:World} {A:Option Addr} {n c:Nat} {l:List Edge} (hr:Row w A (edges l)) (hn:n=l.length) (hl:n<=2^40):Calls P 57 #[.slice A n c] w fun ev w'=>ev=.returned (.bool (gj l))/\w.grownBy w' none:=by
  apply vc57;dsimp only[VC57,Wt,Br,Bb,Rd,Rc,Rs,Ix,rI_,rB_,rS_]
  try simp only[InK]
  refine⟨fun m i w1=>∃ j:Nat,i=(j:Int)/\1<=j/\(j<=l.length∨j=1)/\m=l.length-j/\(∀ t,t+1<j->aw (l.getD t (0,0)) (l.getD (t+1) (0,0))=true)/\w.grownBy w1 none,⟨_,1,rfl,by omega,.inr rfl,rfl,fun t ht=>by omega,af _ _⟩,?_⟩
  rintro m i w1 ⟨j,rfl,h1,hj,rfl,hs,hg⟩
  have tj:(j:Int).toNat=j:=by omega
  have tj1:((j:Int)-1).toNat=j-1:=by omega
  rw[tj,tj1]
  refine⟨fun hlt=>?_,fun hge=>⟨?_,hg⟩⟩
  · have gd:=aj hg
    obtain⟨a,e1,e2,e3⟩:=js (hr.kept_none gd) (show j-1<l.length by omega)
    obtain⟨a',f1,f2,f3⟩:=js (hr.kept_none gd) (show j<l.length by omega)
    refine⟨by omega,a,e1,by omega,by omega,_,e2,_,e3,a',f1,by omega,by omega,_,f2,_,f3,?_⟩
    refine(wu l[j-1] l[j]).mono fun ev w2 hh=>?_
    obtain⟨rfl,g2⟩:=hh
    have g02:=ab gd g2
    have d1:l.getD (j-1) (0,0)=l[j-1]:=by simp[List.getD_eq_getElem?_getD,show j-1<l.length by omega]
    have d2:l.getD (j-1+1) (0,0)=l[j]:=by rw[show j-1+1=j by omega];simp[List.getD_eq_getElem?_getD,show j<l.length by omega]
    refine⟨_,rfl,fun h=>⟨?_,g02⟩,fun h=>⟨by omega,l.length-(j+1),by omega,j+1,by omega,by omega,.inl (by omega),rfl,fun t ht=>?_,g02⟩⟩
    · have:gj l=false:=by
        cases hq:gj l with
        | false=>rfl
        | true =>
          have:=List.all_eq_true.1 hq (j-1) (List.mem_range.2 (by omega))
          rw[d1,d2,h]at this;cases this
      rw[this]
    · by_cases e:t+1=j
      · have:t=j-1:=by omega
        subst this
        rw[d1,d2];simpa using h
      · exact hs t (by omega)
  · have:gj l=true:=List.all_eq_true.2 fun t ht=>hs t (by have:=List.mem_range.1 ht;omega)
    rw[this]
def qfe(l:List Edge)(e:Edge):Int:=if e∈l then(l.idxOf e:Int) else -1
theorem qb9 {w:World} {A:Option Addr} {n c:Nat} {l:List Edge} {e:Edge} (hr:Row w A (edges l)) (hn:n=l.length) (hl:n<=2^40):Calls P 56 #[.slice A n c,nk e] w fun ev w'=>ev=.returned (.int .i64 (qfe l e))/\w.grownBy w' none:=by
  apply vc56;dsimp only[VC56,Wt,Br,Bb,Rd,Rc,Rs,Ix,rI_,rB_,rS_]
  try simp only[InK]
  have g1:=World.grownBy_alloc w (.cells #[.int .u32 e.1,.int .u32 e.2] 45) none
  have b1:(w.alloc (.cells #[.int .u32 e.1,.int .u32 e.2] 45)).heap[w.heap.size]?=some (.cells #[.int .u32 e.1,.int .u32 e.2] 45 (0,0)):=heap_alloc_new w _
  obtain⟨w1,hw1⟩:∃ w1,w1=w.alloc (.cells #[.int .u32 e.1,.int .u32 e.2] 45):=⟨_,rfl⟩
  rw[← hw1]at g1 b1 ⊢
  refine⟨fun m i w2=>∃ j:Nat,i=(j:Int)/\j<=l.length/\m=l.length-j/\(∀ t (h:t<l.length),t<j->l[t]≠e)/\w1.grownBy w2 none,⟨_,0,rfl,by omega,rfl,fun t _ ht=>by omega,af _ _⟩,?_⟩
  rintro m i w2 ⟨j,rfl,hj,rfl,hs,hg⟩
  have tj:(j:Int).toNat=j:=by omega
  rw[tj]
  refine⟨fun hlt=>?_,fun hge=>⟨?_,ab g1 hg⟩⟩
  · have gd:=aj hg
    have lj:j<l.length:=by omega
    obtain⟨a,e1,e2,e3⟩:=js ((hr.kept_none g1).kept_none gd) lj
    have b2:w2.drew.heap[w.heap.size]?=some (.cells #[.int .u32 e.1,.int .u32 e.2] 45 (0,0)):=by rw[gd.block _ (Array.getElem?_eq_some_iff.1 b1).1 (by simp)];exact b1
    refine⟨a,e1,by omega,by omega,_,e2,_,e3,_,aa b2 0,_,aa b2 1,_,fun w=>qlf _ _ _ _ _ _ w,fun h=>⟨?_,ab g1 gd⟩,fun h=>⟨by omega,l.length-(j+1),by omega,j+1,by omega,by omega,rfl,fun t ht h3=>?_,gd⟩⟩
    · have he:l[j]=e:=by
        have:=of_decide_eq_true h
        exact Prod.ext this.1 this.2
      have hm:e∈l:=by rw[← he];exact List.getElem_mem lj
      have hi:l.idxOf e=j:=by
        have h4:l.idxOf e<l.length:=List.idxOf_lt_length_iff.2 hm
        have h5:l[l.idxOf e]=e:=List.getElem_idxOf h4
        rcases Nat.lt_trichotomy (l.idxOf e) j with q | q | q
        · exact absurd h5 (hs _ h4 q)
        · exact q
        · exfalso
          have:=List.not_of_lt_findIdx (p:=(· ==e)) (xs:=l) (i:=j) q
          simp[he]at this
      rw[qfe,if_pos hm,hi]
    · by_cases e4:t=j
      · subst e4
        intro h5
        rw[h5]at h
        simp at h
      · exact hs t ht (by omega)
  · have hm:e ∉ l:=by
      intro h
      obtain⟨t,ht,h2⟩:=List.mem_iff_getElem.1 h
      exact hs t ht (by omega) h2
    rw[qfe,if_neg hm]
theorem ql8{w:World}{A:Option Addr}{n c:Nat}{l:List Edge}{e:Edge}(hr:Row w A (edges l))(hn:n=l.length)(hl:n<=2^40):Calls P 29 #[.slice A n c,nk e] w fun ev w'=>ev=.returned (.bool (decide (e∈l)))/\w.grownBy w' none:=by
 apply vc29;dsimp only[VC29,Wt,Br,Bb,Rd,Rc,Rs,Ix,rI_,rB_,rS_]
 have g1:=World.grownBy_alloc w (.cells #[.int .u32 e.1,.int .u32 e.2] 45) none
 have b1:(w.alloc (.cells #[.int .u32 e.1,.int .u32 e.2] 45)).heap[w.heap.size]?=some (.cells #[.int .u32 e.1,.int .u32 e.2] 45 (0,0)):=heap_alloc_new w _
 refine⟨_,aa b1 0,_,aa b1 1,?_⟩
 refine(qb9 (e:=e) (hr.kept_none g1) hn hl).mono fun ev w2 hh=>?_
 obtain⟨rfl,g2⟩:=hh
 refine⟨_,rfl,?_,ab g1 g2⟩
 congr 2
 unfold qfe
 by_cases h:e∈l
 ·simp[h]
 ·simp[h]
theorem qir:qkp P 40 45 2 (P.bytesOf 45):=⟨(P.info? 45).getD default,((P.info? 45).getD default).zero.getD undef,by kernel_rfl,by kernel_rfl,by kernel_rfl,by kernel_rfl,by kernel_rfl,by kernel_rfl,by decide⟩
theorem qm2:P.bytesOf 45<=64:=of_decide_eq_true (by kernel_rfl)
theorem dg{w:World}{base:Nat}{A B:Option Addr}{n c m d:Nat}{xs ys:List Edge}(ho:am w base 45 2 A n c (edges xs))(hB:Row w B (edges ys))(hm:m=ys.length)(hd:B=none->d=0)(hn:n+m<=2^39)(hb:base<=w.heap.size):
    ∃ (A':Option Addr) (n' c':Nat) (w':World),Sem.run P (Builtin.append_ #[40,40] 40 #[.slice A n c,.slice B m d]) w=.ok (.slice A' n' c') w' ∧
      am w' base 45 2 A' n' c' (edges (xs++ys))/\w.grownBy w' (Value.slice A n c).ownBlock/\n'=n+m:=by
  cases B with
  | none =>
    have hys:ys=[]:=by
      cases ys with
      | nil=>rfl
      | cons y ys=>obtain⟨a,e,_⟩:=hB 0 _ rfl;cases e
    subst hys
    have h0:m=0:=by simpa using hm
    have h1:=hd rfl
    subst h0 h1
    exact⟨A,n,c,w,ho.appends_nil qir,by simpa using ho,af _ _,rfl⟩
  | some a =>
    obtain⟨A',n',c',w',h1,h2,h3,h4,_⟩:=ho.appends (ty:=40) qir qm2 (a:=a) (m:=m) (cc:=d) (us:=edges ys) (by rw[dt,hm]) (fun j u hj=>by obtain⟨b,q1,q2⟩:=hB j u hj;cases q1;exact q2) (fun u hu=>by
      simp only[edges,List.mem_flatMap]at hu
      obtain⟨e,_,he⟩:=hu
      simp[xk]at he
      rcases he with rfl | rfl <;>rfl) (by omega) hb
    exact⟨A',n',c',w',h1,by rw[qfi];exact h2,h4,h3⟩
theorem cutE{w:World}{A:Option Addr}{c k:Nat}{l:List Edge}(h:Row w A (edges l))(hA:A=none->c=0)(hc:l.length<=c):Row w (dz A c k 2) (edges (l.drop k))/\(dz A c k 2=none->c-k=0):=by
 unfold dz
 split
 ·rename_i hck
  refine⟨?_,fun _=>by omega⟩
  rw[List.drop_eq_nil_of_le (by omega)]
  intro j u hj;simp[edges]at hj
 ·have:=h.drop (k*2)
  rw[qka]at this
  refine⟨this,fun e=>?_⟩
  cases A with
  | none=>rw[hA rfl];omega
  | some a=>simp at e
theorem qps{w:World}{A:Option Addr}{l:List Edge}(h:Row w A (edges l))(k:Nat):Row w A (edges (l.take k)):=by
 intro j u hj
 rw[← qj9,List.getElem?_take]at hj
 split at hj
 ·exact h j u hj
 ·cases hj
def qb2(l:List Edge)(e:Edge):Nat:=(l.takeWhile fun x=>aw x e).length
def cr(l:List Edge)(ev:Evt):Option (List Edge) :=
 if gj l=false then none else if ev.add=decide ((ev.u,ev.v)∈l) then none else
 if ev.add=false then some (l.take (l.idxOf (ev.u,ev.v))++l.drop (l.idxOf (ev.u,ev.v)+1)) else some (l.take (qb2 l (ev.u,ev.v))++((ev.u,ev.v) ::l.drop (qb2 l (ev.u,ev.v))))
theorem qlw{l:List Edge}{e:Edge}{j:Nat}(hj:j<=l.length)(h:∀ t (ht:t<l.length),t<j->aw l[t] e=true)(h2:∀(ht:j<l.length),aw l[j] e=false):qb2 l e=j:=by
 induction l generalizing j with
 | nil=>simp at hj;subst hj;rfl
 | cons x l ih =>
  cases j with
  | zero =>
   have:=h2 (by simp)
   simp at this
   simp[qb2,List.takeWhile_cons,this]
  | succ j =>
   have h0:=h 0 (by simp) (by omega)
   simp at h0
   have:=ih (j:=j) (by simpa using hj) (fun t ht htj=>h (t+1) (Nat.succ_lt_succ ht) (by omega)) (fun ht=>h2 (Nat.succ_lt_succ ht))
   simp[qb2,List.takeWhile_cons,h0]at this ⊢
   exact this
theorem qi7 {w:World} {A:Option Addr} {n c:Nat} {l:List Edge} {e:Evt} (hr:Row w A (edges l)) (hn:n=l.length) (hc:n<=c) (hA:A=none->c=0) (hl:n<=2^30) :
    Calls P 30 #[.slice A n c,evtV e] w fun ev w'=>∃(A':Option Addr)(n' c':Nat),ev=.returned (.tuple #[.slice A' n' c',.bool (cr l e).isSome])/\am w' w.heap.size 45 2 A' n' c' (edges ((cr l e).getD []))/\w.grownBy w' none:=by
  apply vc30;dsimp only[VC30,Wt,Br,Bb,Rd,Rc,Rs,Ix,rI_,rB_,rS_]
  try simp only[InK]
  have g1:=World.grownBy_alloc w (.cells #[.int .i64 e.t,.int .u32 e.u,.int .u32 e.v,.bool e.add] 62) none
  have b1:(w.alloc (.cells #[.int .i64 e.t,.int .u32 e.u,.int .u32 e.v,.bool e.add] 62)).heap[w.heap.size]?=some (.cells #[.int .i64 e.t,.int .u32 e.u,.int .u32 e.v,.bool e.add] 62 (0,0)):=heap_alloc_new w _
  obtain⟨w1,hw1⟩:∃ w1,w1=w.alloc (.cells #[.int .i64 e.t,.int .u32 e.u,.int .u32 e.v,.bool e.add] 62):=⟨_,rfl⟩
  rw[← hw1]at g1 b1 ⊢
  have keep:∀ w',w1.grownBy w' none->w'.heap[w.heap.size]?=some (.cells #[.int .i64 e.t,.int .u32 e.u,.int .u32 e.v,.bool e.add] 62 (0,0)):=fun w' g=>by rw[g.block _ (Array.getElem?_eq_some_iff.1 b1).1 (by simp)];exact b1
  refine⟨_,aa b1 1,_,aa b1 2,?_⟩
  refine(qb9 (e:=(e.u,e.v)) (hr.kept_none g1) hn (by omega)).mono fun ev w2 hh=>?_
  obtain⟨rfl,g2⟩:=hh
  refine⟨_,rfl,?_⟩
  refine(qek ((hr.kept_none g1).kept_none g2) hn (by omega)).mono fun ev w3 hh=>?_
  obtain⟨rfl,g3⟩:=hh
  have g13:=ab g2 g3
  have g03:=ab g1 g13
  have hfind:decide (qfe l (e.u,e.v)≥0)=decide ((e.u,e.v)∈l):=by
    unfold qfe
    by_cases h:(e.u,e.v)∈l
    · simp[h]
    · simp[h]
  refine⟨_,rfl,fun h=>?_,fun h=>?_⟩
  · have:cr l e=none:=by unfold cr;rw[if_pos h]
    rw[this];exact⟨_,_,_,rfl,am.nil _ _ _ _,g03⟩
  have hris:¬ gj l=false:=h
  have b3:=keep w3 g13
  have hu:P.underlying 4=some .bool:=by kernel_rfl
  refine⟨_,aa b3 3,_,fun w=>qp3 _ _ _ _ w,fun h=>?_,fun h=>?_⟩
  · have h':e.add=decide ((e.u,e.v)∈l):=by rw[← hfind];simpa using h
    have:cr l e=none:=by unfold cr;rw[if_neg hris,if_pos h']
    rw[this];exact⟨_,_,_,rfl,am.nil _ _ _ _,g03⟩
  have hadd:¬ e.add=decide ((e.u,e.v)∈l):=by rw[← hfind];simpa using h
  refine⟨_,aa b3 3,fun hdel=>?_,fun hins=>?_⟩
  · have hm:(e.u,e.v)∈l:=by
      rw[hdel]at hadd
      by_cases q:(e.u,e.v)∈l
      · exact q
      · simp[q]at hadd
    have hft:qfe l (e.u,e.v)=((l.idxOf (e.u,e.v):Nat):Int):=by rw[qfe,if_pos hm]
    have hil:l.idxOf (e.u,e.v)<l.length:=List.idxOf_lt_length_iff.2 hm
    have htu:cr l e=some (l.take (l.idxOf (e.u,e.v))++l.drop (l.idxOf (e.u,e.v)+1)):=by unfold cr;rw[if_neg hris,if_neg hadd,if_pos hdel]
    rw[htu,hft]
    generalize l.idxOf (e.u,e.v)=i at *
    have ti:(i:Int).toNat=i:=by omega
    have ti1:((i:Int)+1).toNat=i+1:=by omega
    rw[ti,ti1]
    have gd:=aj g03
    have rd:=hr.kept_none gd
    obtain⟨A4,n4,c4,w4,f1,f2,f3,f4⟩:=dg (n:=0) (c:=0) (A:=none) (xs:=[]) (am.nil w3.drew w3.drew.heap.size 45 2) (m:=i) (d:=c) (qps rd i) (by rw[List.length_take];omega) hA (by omega) (Nat.le_refl _)
    have g4:w3.drew.grownBy w4 none:=ax (af w3.drew none) f3 (fun k hk=>by simp[Value.ownBlock]at hk)
    rw[List.nil_append]at f2
    obtain⟨r5,d5⟩:=cutE (k:=i+1) (rd.kept_none g4) hA (by omega)
    obtain⟨A5,n5,c5,w5,p1,p2,p3,p4⟩:=dg f2 (m:=n-(i+1)) (d:=c-(i+1)) r5 (by rw[List.length_drop];omega) d5 (by omega) g4.size
    exact⟨⟨by omega,by omega⟩,_,_,_,w4,f1,by omega,⟨by omega,by omega⟩,_,_,_,w5,p1,_,_,_,rfl,p2.mono gd.size,ab gd (ax g4 p3 f2.block_ge)⟩
  · have hadd':¬ e.add=false:=hins
    have htu:cr l e=some (l.take (qb2 l (e.u,e.v))++((e.u,e.v) ::l.drop (qb2 l (e.u,e.v)))):=by unfold cr;rw[if_neg hris,if_neg hadd,if_neg hadd']
    rw[htu]
    refine⟨fun i w'=>i=(qb2 l (e.u,e.v):Int)/\qb2 l (e.u,e.v)<=l.length/\w1.grownBy w' none,⟨fun m i w4=>∃ j:Nat,i=(j:Int)/\j<=l.length/\m=l.length-j/\(∀ t (ht:t<l.length),t<j->aw l[t] (e.u,e.v)=true)/\w1.grownBy w4 none,⟨_,0,rfl,by omega,rfl,fun t _ ht=>by omega,g13⟩,?_⟩,?_⟩
    · rintro m i w4 ⟨j,rfl,hj,rfl,hs,g4⟩
      have tj:(j:Int).toNat=j:=by omega
      rw[tj]
      have gd:=aj g4
      refine⟨fun hlt=>?_,fun hge=>?_⟩
      · have lj:j<l.length:=by omega
        obtain⟨a,e1,e2,e3⟩:=js ((hr.kept_none g1).kept_none gd) lj
        have b4:=keep w4.drew gd
        refine⟨a,e1,by omega,by omega,_,e2,_,e3,_,aa b4 1,_,aa b4 2,?_⟩
        refine(wu l[j] (e.u,e.v)).mono fun ev w5 hh=>?_
        obtain⟨rfl,g5⟩:=hh
        refine⟨_,rfl,fun h=>⟨by omega,l.length-(j+1),by omega,j+1,by omega,by omega,rfl,fun t ht htj=>?_,ab gd g5⟩,fun h=>?_⟩
        · by_cases q:t=j
          · subst q;exact h
          · exact hs t ht (by omega)
        · have:=qlw hj hs (fun _=>h)
          exact⟨by rw[this],by omega,ab gd g5⟩
      · have:=qlw hj hs (fun ht=>by omega)
        exact⟨by rw[this],by omega,gd⟩
    · rintro i w4 ⟨rfl,hk,g4⟩
      generalize qb2 l (e.u,e.v)=k at *
      have tk:(k:Int).toNat=k:=by omega
      rw[tk]
      have gd:=aj g4
      have g0d:=ab g1 gd
      have rd:=hr.kept_none g0d
      refine⟨fun w'=>w1.grownBy w' none,gd,⟨⟨by omega,by omega⟩,?_⟩,⟨⟨by omega,by omega⟩,?_⟩⟩
      · obtain⟨A5,n5,c5,w5,f1,f2,f3,f4⟩:=dg (n:=0) (c:=0) (A:=none) (xs:=[]) (am.nil w4.drew w4.drew.heap.size 45 2) (m:=k) (d:=c) (qps rd k) (by rw[List.length_take];omega) hA (by omega) (Nat.le_refl _)
        have g5:w4.drew.grownBy w5 none:=ax (af w4.drew none) f3 (fun k hk=>by simp[Value.ownBlock]at hk)
        rw[List.nil_append]at f2
        have g15:=ab gd g5
        have ga:=World.grownBy_alloc w5 (.cells #[.int .u32 e.u,.int .u32 e.v] 45) none
        have ra:Row (w5.alloc (.cells #[.int .u32 e.u,.int .u32 e.v] 45)) (some ⟨w5.heap.size,0,none⟩) (edges [(e.u,e.v)]):=ey w5 _ 45
        obtain⟨A6,n6,c6,w6,p1,p2,p3,p4⟩:=dg (f2.kept ga) (m:=1) (d:=1) ra rfl (fun h=>by cases h) (by omega) (Nat.le_trans g5.size ga.size)
        have g56:=ab g5 ga
        have g6:=ax g56 p3 f2.block_ge
        have g16:=ab gd g6
        obtain⟨r7,d7⟩:=cutE (k:=k) (rd.kept_none g6) hA (by omega)
        obtain⟨A7,n7,c7,w7,q1,q2,q3,q4⟩:=dg p2 (m:=n-k) (d:=c-k) r7 (by rw[List.length_drop];omega) d7 (by omega) g6.size
        have g7:=ax g6 q3 p2.block_ge
        exact⟨_,_,_,w5,f1,g15,_,fun w' h=>aa (keep w' h) 1,_,fun w' h=>aa (keep w' h) 2,ab g15 ga,_,_,_,w6,p1,g16,⟨by omega,by omega⟩,_,_,_,w7,q1,ab gd g7,_,_,_,rfl,by simpa using q2.mono g0d.size,ab g0d g7⟩
      · have ga:=World.grownBy_alloc w4.drew (.cells #[.int .u32 e.u,.int .u32 e.v] 45) none
        have ra:Row (w4.drew.alloc (.cells #[.int .u32 e.u,.int .u32 e.v] 45)) (some ⟨w4.drew.heap.size,0,none⟩) (edges [(e.u,e.v)]):=ey w4.drew _ 45
        obtain⟨wa,hwa⟩:∃ wa,wa=w4.drew.alloc (.cells #[.int .u32 e.u,.int .u32 e.v] 45):=⟨_,rfl⟩
        refine⟨_,fun w' h=>aa (keep w' h) 1,_,fun w' h=>aa (keep w' h) 2,?_⟩
        simp only[List.getElem?_toArray]
        show(fun w'=>w1.grownBy w' none) (w4.drew.alloc (.cells #[.int .u32 e.u,.int .u32 e.v] 45))/\_
        rw[← hwa]at ga ra ⊢
        obtain⟨A5,n5,c5,w5,f1,f2,f3,f4⟩:=dg (n:=0) (c:=0) (A:=none) (xs:=[]) (am.nil wa wa.heap.size 45 2) (m:=k) (d:=c) (qps (rd.kept_none ga) k) (by rw[List.length_take];omega) hA (by omega) (Nat.le_refl _)
        have g5:wa.grownBy w5 none:=ax (af wa none) f3 (fun k hk=>by simp[Value.ownBlock]at hk)
        rw[List.nil_append]at f2
        obtain⟨A6,n6,c6,w6,p1,p2,p3,p4⟩:=dg f2 (m:=1) (d:=1) (ra.kept_none g5) rfl (fun h=>by cases h) (by omega) g5.size
        have g6:=ax g5 p3 f2.block_ge
        obtain⟨r7,d7⟩:=cutE (k:=k) ((rd.kept_none ga).kept_none g6) hA (by omega)
        obtain⟨A7,n7,c7,w7,q1,q2,q3,q4⟩:=dg p2 (m:=n-k) (d:=c-k) r7 (by rw[List.length_drop];omega) d7 (by omega) g6.size
        have g7:=ax g6 q3 p2.block_ge
        have g1a:=ab gd ga
        exact⟨g1a,_,_,_,w5,f1,ab g1a g5,_,_,_,w6,p1,ab g1a g6,⟨by omega,by omega⟩,_,_,_,w7,q1,ab g1a g7,_,_,_,rfl,by simpa using q2.mono (Nat.le_trans g0d.size ga.size),ab g0d (ab ga g7)⟩
theorem jm{w:World}{A:Option Addr}{l:List Evt}(h:Row w A (fh l)){j:Nat}(hj:j<l.length):∃ a,A=some a/\w.cell? (a.add (j*4))=some (.int .i64 l[j].t)/\w.cell? ((a.add (j*4)).add 1)=some (.int .u32 l[j].u)/\w.cell? ((a.add (j*4)).add 2)=some (.int .u32 l[j].v)/\w.cell? ((a.add (j*4)).add 3)=some (.bool l[j].add):=by
 obtain⟨h1,h2,h3,h4⟩:=qin hj
 obtain⟨a,e1,e2⟩:=h _ _ h1
 have rd:∀ k u,(fh l)[j*4+k]?=some u->w.cell? ((a.add (j*4)).add k)=some u:=fun k u hk=>by
  obtain⟨a',q1,q2⟩:=h _ _ hk
  rw[e1]at q1;cases q1
  rw[iw];exact q2
 exact⟨a,e1,e2,rd 1 _ h2,rd 2 _ h3,rd 3 _ h4⟩
def qdb(N:Int)(e:Evt):Bool:=decide (e.u<e.v/\e.v<N)
def d6(N:Int):List Evt->Option Evt->List Edge->Nat->Int×Int
 | [],_,_,_=>(0,0)
 | e ::l,p,now,i=>if e.t<0∨e.t>4611686018427387903 then((i:Int),26) else if qdb N e=false then((i:Int),24) else
  if(match p with | none=>true | some q=>br q e)=false then((i:Int),23) else match cr now e with
  | none=>((i:Int),25)
  | some x=>d6 N l (some e) x (i+1)
theorem yf(N:Int)(e:Evt)(l:List Evt)(p:Option Evt)(now:List Edge)(i:Nat):d6 N (e ::l) p now i=if e.t<0∨e.t>4611686018427387903 then((i:Int),26) else if qdb N e=false then((i:Int),24) else
    if(match p with | none=>true | some q=>br q e)=false then((i:Int),23) else match cr now e with
    | none=>((i:Int),25)
    | some x=>d6 N l (some e) x (i+1):=rfl
def jw(N:Int)(l:List Evt):Int×Int:=if N>4294967296∨l.length>2147483648 then(0,26) else d6 N l none [] 0
theorem qd7{l x:List Edge}{e:Evt}(h:cr l e=some x):x.length<=l.length+1:=by
 unfold cr at h
 split at h
 ·cases h
 ·split at h
  ·cases h
  ·split at h
   ·cases h;simp;omega
   ·cases h;simp;omega
def jr(l:List Evt)(now:List Edge):List Edge:=l.foldl (fun now e=>(cr now e).getD []) now
theorem pq:∀(l:List Evt)(now:List Edge),(jr l now).length<=now.length+l.length
 | [],now=>by simp[jr]
 | e ::l,now=>by
  have ih:=pq l ((cr now e).getD [])
  have:((cr now e).getD []).length<=now.length+1:=by
   cases h:cr now e with
   | none=>simp
   | some x=>exact qd7 h
  show(jr l ((cr now e).getD [])).length<=_
  simp only[List.length_cons];omega
def vo(N:Int)(l:List Evt)(k:Int):List Edge:=if(jw N l).2≠0 then [] else jr (l.take k.toNat) []
theorem qff(d:Nat)(a b c e:Int)(w:World):(Op.equalIn (d+2) 45 (.agg #[.int .u32 a,.int .u32 b]) (.agg #[.int .u32 c,.int .u32 e])).run P w=.ok (decide (a=c/\b=e)) w:=by
 rw[run_equalIn_struct w (d+1) 45 _ _ (by kernel_rfl) (by kernel_rfl)]
 obtain ⟨f, g, hfg, hf1, hf2, hf3, hg1, hg2, hg3⟩ : ∃ f g : Field, (P.fieldsOf 45).toList = [f, g] ∧ f.name = "U" ∧ f.type = 43 ∧ f.offset = 0 ∧ g.name = "V" ∧ g.type = 43 ∧ g.offset = 1 :=
  ⟨((P.fieldsOf 45).toList)[0]!,((P.fieldsOf 45).toList)[1]!,by kernel_rfl,by kernel_rfl,by kernel_rfl,by kernel_rfl,by kernel_rfl,by kernel_rfl,by kernel_rfl⟩
 rw[hfg]
 have hu:P.underlying 43=some (.int .u32):=by kernel_rfl
 have hp:P.plainKey 43=true:=by kernel_rfl
 have e1:∀(x y:Int)(w:World),(part 43 #[.int .u32 x,.int .u32 y] 0).run P w=.ok (.int .u32 x) w:=fun x y w=>run_part_plain w hp rfl
 have e2:∀(x y:Int)(w:World),(part 43 #[.int .u32 x,.int .u32 y] 1).run P w=.ok (.int .u32 y) w:=fun x y w=>run_part_plain w hp rfl
 have q:∀(x y:Int)(w:World),(Op.equalIn (d+1) 43 (.int .u32 x) (.int .u32 y)).run P w=.ok (x ==y) w:=fun x y w=>run_equalIn_int w d _ _ _ _ _ hu
 simp only[Op.eqFields,hf1,hf2,hf3,hg1,hg2,hg3,Sem.run_bind,Sem.run_ite,e1,e2,q,Result.andThen_ok]
 by_cases h1:a=c
 ·by_cases h2:b=e
  ·simp[h1,h2]
  ·simp[h1,h2]
 ·simp[h1]
theorem qlr(t:Int)(u v:Int)(a:Bool)(w:World):(part 45 #[.int .i64 t,.int .u32 u,.int .u32 v,.bool a] 1).run P w=.ok (.agg #[.int .u32 u,.int .u32 v]) w:=by
 have hu:P.underlying 45=some (.struct (P.fieldsOf 45)):=by kernel_rfl
 obtain⟨i,hi⟩:∃ i,P.info? 45=some i:=⟨(P.info? 45).getD default,by kernel_rfl⟩
 have hc:P.cellsOf 45=2:=by kernel_rfl
 simp[part,isAgg,run_underlying hu,run_sizeOf w hi,hc]
theorem qmm(a b:Evt)(w:World):(Op.equalIn 10000 62 (evtV a) (evtV b)).run P w=.ok (decide (a=b)) w:=by
 rw[run_equalIn_struct w 9999 62 _ _ (by kernel_rfl) (by kernel_rfl)]
 obtain ⟨f, g, h, hfg, hf1, hf2, hf3, hg1, hg2, hg3, hh1, hh2, hh3⟩ : ∃ f g h : Field, (P.fieldsOf 62).toList = [f, g, h] ∧ f.name = "T" ∧ f.type = 2 ∧ f.offset = 0 ∧ g.name = "Edge" ∧ g.type = 45 ∧ g.offset = 1 ∧ h.name = "Add" ∧ h.type = 4 ∧ h.offset = 3 :=
  ⟨((P.fieldsOf 62).toList)[0]!,((P.fieldsOf 62).toList)[1]!,((P.fieldsOf 62).toList)[2]!,by kernel_rfl,by kernel_rfl,by kernel_rfl,by kernel_rfl,by kernel_rfl,by kernel_rfl,by kernel_rfl,by kernel_rfl,by kernel_rfl,by kernel_rfl⟩
 rw[hfg]
 have hu:P.underlying 2=some (.int .i64):=by kernel_rfl
 have hub:P.underlying 4=some .bool:=by kernel_rfl
 have hp:P.plainKey 2=true:=by kernel_rfl
 have hpb:P.plainKey 4=true:=by kernel_rfl
 have e1:∀(x:Evt)(w:World),(part 2 #[.int .i64 x.t,.int .u32 x.u,.int .u32 x.v,.bool x.add] 0).run P w=.ok (.int .i64 x.t) w:=fun x w=>run_part_plain w hp rfl
 have e2:∀(x:Evt)(w:World),(part 45 #[.int .i64 x.t,.int .u32 x.u,.int .u32 x.v,.bool x.add] 1).run P w=.ok (.agg #[.int .u32 x.u,.int .u32 x.v]) w:=fun x w=>qlr _ _ _ _ w
 have e3:∀(x:Evt)(w:World),(part 4 #[.int .i64 x.t,.int .u32 x.u,.int .u32 x.v,.bool x.add] 3).run P w=.ok (.bool x.add) w:=fun x w=>run_part_plain w hpb rfl
 have q1:∀(x y:Int)(w:World),(Op.equalIn 9999 2 (.int .i64 x) (.int .i64 y)).run P w=.ok (x ==y) w:=fun x y w=>run_equalIn_int w 9998 _ _ _ _ _ hu
 have q2:∀(x y z t:Int)(w:World),(Op.equalIn 9999 45 (.agg #[.int .u32 x,.int .u32 y]) (.agg #[.int .u32 z,.int .u32 t])).run P w=.ok (decide (x=z/\y=t)) w:=fun x y z t w=>qff 9997 x y z t w
 have q3:∀(x y:Bool)(w:World),(Op.equalIn 9999 4 (.bool x) (.bool y)).run P w=.ok (x ==y) w:=fun x y w=>run_equalIn_bool' w 9998 _ _ _ hub
 simp only[Op.eqFields,hf1,hf2,hf3,hg1,hg2,hg3,hh1,hh2,hh3,Sem.run_bind,Sem.run_ite,e1,e2,e3,q1,q2,q3,Result.andThen_ok]
 obtain⟨t,u,v,p⟩:=a
 obtain⟨t',u',v',p'⟩:=b
 by_cases h1:t=t'
 ·by_cases h2:u=u'/\v=v'
  ·obtain⟨h2,h3⟩:=h2
   by_cases h4:p=p'
   ·simp[h1,h2,h3,h4]
   ·simp[h1,h2,h3,h4]
  ·have:¬ (u=u'/\v=v'/\p=p'):=fun q=>h2 ⟨q.1,q.2.1⟩
   simp[h1,h2,this]
 ·simp[h1]
theorem qp2(s t:Operand)(a b:Evt)(w:World):Sem.run P (do eqGuard .neq 62 s t (evtV a) (evtV b);Go.binOp .neq 62 (evtV a) (evtV b):Sem Value) w=.ok (.bool (!decide (a=b))) w:=by
 rw[Sem.run_bind,run_eqGuard_agg w .neq 62 s t _ _ (by kernel_rfl),Result.andThen_ok,run_neq_struct w,qmm]
 rfl
theorem yi{w:World}{A B:Option Addr}{n c m d:Nat}{l k:List Evt}(hA:Row w A (fh l))(hn:n=l.length)(hB:Row w B (fh k))(hm:m=k.length)(hl:n<=2^40):Calls P 25 #[.slice A n c,.slice B m d] w fun ev w'=>ev=.returned (.bool (decide (l=k)))/\w.grownBy w' none:=by
 apply vc25;dsimp only[VC25,Wt,Br,Bb,Rd,Rc,Rs,Ix,rI_,rB_,rS_]
 try simp only[InK]
 refine⟨fun hne=>⟨?_,af _ _⟩,fun heq=>?_⟩
 ·have:l≠k:=fun e=>by subst e;omega
  simp[this]
 refine⟨fun mm i w1=>∃ j:Nat,i=(j:Int)/\j<=l.length/\mm=l.length-j/\l.take j=k.take j/\w.grownBy w1 none,⟨_,0,rfl,by omega,rfl,by simp,af _ _⟩,?_⟩
 rintro mm i w1 ⟨j,rfl,hj,rfl,hs,hg⟩
 have tj:(j:Int).toNat=j:=by omega
 rw[tj]
 refine⟨fun hlt=>?_,fun hge=>⟨?_,hg⟩⟩
 ·have gd:=aj hg
  have lj:j<l.length:=by omega
  have kj:j<k.length:=by omega
  obtain⟨a,e1,e2,e3,e4,e5⟩:=jm (hA.kept_none gd) lj
  obtain⟨b,f1,f2,f3,f4,f5⟩:=jm (hB.kept_none gd) kj
  refine⟨a,e1,by omega,by omega,_,e2,_,e3,_,e4,_,e5,b,f1,by omega,by omega,_,f2,_,f3,_,f4,_,f5,_,fun w=>qp2 _ _ l[j] k[j] w,fun h=>⟨?_,gd⟩,fun h=>⟨by omega,l.length-(j+1),by omega,j+1,by omega,by omega,rfl,?_,gd⟩⟩
  ·have:l≠k:=fun e=>by subst e;simp at h
   simp[this]
  ·have he:l[j]=k[j]:=by simpa using h
   rw[List.take_succ_eq_append_getElem lj,List.take_succ_eq_append_getElem kj,hs,he]
 ·rw[List.take_of_length_le (by omega),List.take_of_length_le (by omega)]at hs
  simp[hs]
def rb(k:Int):Int:=([8,5,2,4294967296,300,12,1048576,3]:List Int).getD (k % 8).toNat 0
theorem qcu(k:Int):2<=rb k/\rb k<=4294967296:=by
 have h:∀ t:Fin 8,2<=([8,5,2,4294967296,300,12,1048576,3]:List Int).getD t.val 0/\([8,5,2,4294967296,300,12,1048576,3]:List Int).getD t.val 0<=4294967296:=by decide
 exact h ⟨(k % 8).toNat,by omega⟩
theorem qa7{w:World}{k:Int}(hk:0<=k/\k<=255):Calls P 27 #[.int .u8 k] w fun ev w'=>ev=.returned (.int .u64 (rb k))/\w.grownBy w' none:=by
 apply vc27;dsimp only[VC27,Wt,Br,Bb,Rd,Rc,Rs,Ix,rI_,rB_,rS_]
 have g:=World.grownBy_alloc w (.cells #[.int .u64 8,.int .u64 5,.int .u64 2,.int .u64 4294967296,.int .u64 300,.int .u64 12,.int .u64 1048576,.int .u64 3] 22) none
 have hr:Row (w.alloc (.cells #[.int .u64 8,.int .u64 5,.int .u64 2,.int .u64 4294967296,.int .u64 300,.int .u64 12,.int .u64 1048576,.int .u64 3] 22)) (some ⟨w.heap.size,0,none⟩) (([8,5,2,4294967296,300,12,1048576,3]:List Int).map (Value.int .u64)):=ey w _ 22
 have hlt:(k % 8).toNat<([8,5,2,4294967296,300,12,1048576,3]:List Int).length:=by simp;omega
 obtain⟨a,e1,e2⟩:=hr (k % 8).toNat (.int .u64 (rb k)) (by rw[List.getElem?_map,List.getElem?_eq_getElem hlt,rb,List.getD_eq_getElem?_getD,List.getElem?_eq_getElem hlt];rfl)
 exact⟨⟨by omega,by omega⟩,a,e1,by omega,by omega,_,e2,rfl,g⟩
def sa(a most n:Int):Int:=if a>most then n-1-a % mn n 9 else a % mn n 9
def gf(a b n:Int):Edge×Bool:=if sa a 230 n=sa b 240 n then((0,0),false) else((mn (sa a 230 n) (sa b 240 n),mx (sa a 230 n) (sa b 240 n)),true)
theorem yq{a most n:Int}(ha:0<=a)(hn:2<=n/\n<=4294967296):0<=sa a most n/\sa a most n<n:=by
 have h1:1<=mn n 9/\mn n 9<=n:=by unfold mn;split <;>omega
 have h2:=Int.emod_nonneg a (show mn n 9≠0 by omega)
 have h3:=Int.emod_lt_of_pos a (show 0<mn n 9 by omega)
 unfold sa
 split <;>omega
theorem qas{w:World}{a b n:Int}(ha:0<=a/\a<=255)(hb:0<=b/\b<=255)(hn:2<=n/\n<=4294967296):Calls P 18 #[.int .u8 a,.int .u8 b,.int .u64 n] w fun ev w'=>ev=.returned (.tuple #[nk (gf a b n).1,.bool (gf a b n).2])/\w.grownBy w' none:=by
 apply vc18;dsimp only[VC18,Wt,Br,Bb,Rd,Rc,Rs,Ix,rI_,rB_,rS_]
 try simp only[InK]
 have h1:1<=mn n 9/\mn n 9<=n:=by unfold mn;split <;>omega
 have ua:=yq (most:=230) ha.1 hn
 have ub:=yq (most:=240) hb.1 hn
 have a2:=Int.emod_nonneg a (show mn n 9≠0 by omega)
 have a3:=Int.emod_lt_of_pos a (show 0<mn n 9 by omega)
 have c2:=Int.emod_nonneg b (show mn n 9≠0 by omega)
 have c3:=Int.emod_lt_of_pos b (show 0<mn n 9 by omega)
 have g1:=aj (World.grownBy_alloc w (.cells #[.int .u32 0,.int .u32 0] 45) none)
 have b1:(w.alloc (.cells #[.int .u32 0,.int .u32 0] 45)).drew.heap[w.heap.size]?=some (.cells #[.int .u32 0,.int .u32 0] 45 (0,0)):=heap_alloc_new w _
 obtain⟨w1,hw1⟩:∃ w1,w1=(w.alloc (.cells #[.int .u32 0,.int .u32 0] 45)).drew:=⟨_,rfl⟩
 rw[← hw1]at g1 b1 ⊢
 refine⟨by omega,⟨by omega,by omega⟩,by omega,⟨by omega,by omega⟩,fun u w'=>u=sa a 230 n/\w'=w1,⟨fun h=>⟨by omega,by omega,by unfold sa;rw[if_pos h],rfl⟩,fun h=>⟨by unfold sa;rw[if_neg h],rfl⟩⟩,?_⟩
 rintro u w2 ⟨hu,hw2⟩
 rw[hw2];clear hw2
 refine⟨fun v w'=>v=sa b 240 n/\w'=w1,⟨fun h=>⟨by omega,by omega,by unfold sa;rw[if_pos h],rfl⟩,fun h=>⟨by unfold sa;rw[if_neg h],rfl⟩⟩,?_⟩
 rintro v w3 ⟨hv,hw3⟩
 rw[hw3];clear hw3
 rw[← hu]at ua
 rw[← hv]at ub
 have hm:0<=mn u v/\mn u v<=4294967295/\0<=mx u v/\mx u v<=4294967295:=by unfold mn mx;split <;>split <;>omega
 have fin:∀ p q:Int,w.grownBy ((w1.setCell ⟨w.heap.size,0,none⟩ (.int .u32 p)).setCell ⟨w.heap.size,1,none⟩ (.int .u32 q)) none:=fun p q=>(ck (ck (Kp.of_none (S:=fun k=>w.heap.size<=k) g1) (Nat.le_refl _)) (Nat.le_refl _)).grown (fun k hk e=>by omega)
 refine⟨fun he=>?_,fun he=>?_⟩
 ·have s1:=ah b1 0 (.int .u32 0)
  have s2:=ah s1 1 (.int .u32 0)
  refine⟨⟨_,aa b1 0⟩,ae b1 0,⟨_,aa s1 1⟩,ae s1 1,0,aa s2 0,0,aa s2 1,?_,fin 0 0⟩
  unfold gf;rw[if_pos (by omega)]
 ·have s1:=ah b1 0 (.int .u32 (mn u v))
  have s2:=ah s1 1 (.int .u32 (mx u v))
  refine⟨by omega,by omega,⟨_,aa b1 0⟩,ae b1 0,⟨_,aa s1 1⟩,ae s1 1,_,aa s2 0,_,aa s2 1,?_,fin _ _⟩
  unfold gf;rw[← hu,← hv,if_neg he]
theorem qmo:qkp P 23 62 4 (P.bytesOf 62):=⟨(P.info? 62).getD default,((P.info? 62).getD default).zero.getD undef,by kernel_rfl,by kernel_rfl,by kernel_rfl,by kernel_rfl,by kernel_rfl,by kernel_rfl,by decide⟩
theorem qon:P.bytesOf 62<=64:=of_decide_eq_true (by kernel_rfl)
theorem qgx(l m:List Evt):fh (l++m)=fh l++fh m:=by simp[fh]
theorem qmi(l:List Evt)(k:Nat):(fh l).drop (k*4)=fh (l.drop k):=by
 induction k generalizing l with
 | zero=>simp
 | succ k ih =>
  cases l with
  | nil=>simp[fh]
  | cons e l=>rw[show(k+1)*4=k*4+1+1+1+1 by omega];exact ih l
theorem qmh(l:List Evt)(k:Nat):(fh l).take (k*4)=fh (l.take k):=by
 induction k generalizing l with
 | zero=>simp[fh]
 | succ k ih =>
  cases l with
  | nil=>simp[fh]
  | cons e l =>
   rw[show(k+1)*4=k*4+1+1+1+1 by omega]
   show List.take (k*4+1+1+1+1) (.int .i64 e.t ::.int .u32 e.u ::.int .u32 e.v ::.bool e.add ::fh l)=.int .i64 e.t ::.int .u32 e.u ::.int .u32 e.v ::.bool e.add ::fh (List.take k l)
   rw[List.take_succ_cons,List.take_succ_cons,List.take_succ_cons,List.take_succ_cons,ih]
theorem ew{w:World}{base:Nat}{A B:Option Addr}{n c m d:Nat}{xs ys:List Evt}(ho:am w base 62 4 A n c (fh xs))(hB:Row w B (fh ys))(hm:m=ys.length)(hd:B=none->d=0)(hn:n+m<=2^39)(hb:base<=w.heap.size):
    ∃ (A':Option Addr) (n' c':Nat) (w':World),Sem.run P (Builtin.append_ #[23,23] 23 #[.slice A n c,.slice B m d]) w=.ok (.slice A' n' c') w' ∧
      am w' base 62 4 A' n' c' (fh (xs++ys))/\w.grownBy w' (Value.slice A n c).ownBlock/\n'=n+m:=by
  cases B with
  | none =>
    have hys:ys=[]:=by
      cases ys with
      | nil=>rfl
      | cons y ys=>obtain⟨a,e,_⟩:=hB 0 _ rfl;cases e
    subst hys
    have h0:m=0:=by simpa using hm
    have h1:=hd rfl
    subst h0 h1
    exact⟨A,n,c,w,ho.appends_nil qmo,by simpa using ho,af _ _,rfl⟩
  | some a =>
    obtain⟨A',n',c',w',h1,h2,h3,h4,_⟩:=ho.appends (ty:=23) qmo qon (a:=a) (m:=m) (cc:=d) (us:=fh ys) (by rw[cw,hm]) (fun j u hj=>by obtain⟨b,q1,q2⟩:=hB j u hj;cases q1;exact q2) (fun u hu=>by
      simp only[fh,List.mem_flatMap]at hu
      obtain⟨e,_,he⟩:=hu
      simp[evtC]at he
      rcases he with rfl | rfl | rfl | rfl <;>rfl) (by omega) hb
    exact⟨A',n',c',w',h1,by rw[qgx];exact h2,h4,h3⟩
theorem cutV{w:World}{A:Option Addr}{c k:Nat}{l:List Evt}(h:Row w A (fh l))(hA:A=none->c=0)(hc:l.length<=c):Row w (dz A c k 4) (fh (l.drop k))/\(dz A c k 4=none->c-k=0):=by
 unfold dz
 split
 ·rename_i hck
  refine⟨?_,fun _=>by omega⟩
  rw[List.drop_eq_nil_of_le (by omega)]
  intro j u hj;simp[fh]at hj
 ·have:=h.drop (k*4)
  rw[qmi]at this
  refine⟨this,fun e=>?_⟩
  cases A with
  | none=>rw[hA rfl];omega
  | some a=>simp at e
theorem qhl{w:World}{A:Option Addr}{l:List Evt}(h:Row w A (fh l))(k:Nat):Row w A (fh (l.take k)):=by
 intro j u hj
 rw[← qmh,List.getElem?_take]at hj
 split at hj
 ·exact h j u hj
 ·cases hj
def cm(l:List Evt)(e:Evt):Nat->Nat
 | 0=>0
 | k+1=>if br e (l.getD k ⟨0,0,0,false⟩)=true then cm l e k else k+1
theorem wm(l:List Evt)(e:Evt):∀ k,cm l e k<=k
 | 0=>Nat.le_refl _
 | k+1=>by
  unfold cm
  split
  ·exact Nat.le_succ_of_le (wm l e k)
  ·exact Nat.le_refl _
def ma(l:List Evt)(e:Evt):List Evt :=
 if 0<cm l e l.length/\(l.getD (cm l e l.length-1) ⟨0,0,0,false⟩).t=e.t/\(l.getD (cm l e l.length-1) ⟨0,0,0,false⟩).u=e.u/\(l.getD (cm l e l.length-1) ⟨0,0,0,false⟩).v=e.v then l
 else l.take (cm l e l.length)++(e ::l.drop (cm l e l.length))
theorem qe5 {w:World} {base:Nat} {A:Option Addr} {n c:Nat} {l:List Evt} {e:Evt} (ho:am w base 62 4 A n c (fh l)) (hb:base<=w.heap.size) (hl:n<=2^30) :
    Calls P 28 #[.slice A n c,evtV e] w fun ev w'=>∃(A':Option Addr)(n' c':Nat),ev=.returned (.slice A' n' c')/\am w' base 62 4 A' n' c' (fh (ma l e))/\w.grownBy w' none:=by
  have hn:n=l.length:=by have:=ho.cases.1;rw[cw]at this;omega
  have hc:=yw ho
  have hA:=dr ho
  have hr:=ho.row
  apply vc28;dsimp only[VC28,Wt,Br,Bb,Rd,Rc,Rs,Ix,rI_,rB_,rS_]
  try simp only[InK]
  have g1:=World.grownBy_alloc w (.cells #[.int .i64 e.t,.int .u32 e.u,.int .u32 e.v,.bool e.add] 62) none
  have b1:(w.alloc (.cells #[.int .i64 e.t,.int .u32 e.u,.int .u32 e.v,.bool e.add] 62)).heap[w.heap.size]?=some (.cells #[.int .i64 e.t,.int .u32 e.u,.int .u32 e.v,.bool e.add] 62 (0,0)):=heap_alloc_new w _
  obtain⟨w1,hw1⟩:∃ w1,w1=w.alloc (.cells #[.int .i64 e.t,.int .u32 e.u,.int .u32 e.v,.bool e.add] 62):=⟨_,rfl⟩
  rw[← hw1]at g1 b1 ⊢
  have keep:∀ w',w1.grownBy w' none->w'.heap[w.heap.size]?=some (.cells #[.int .i64 e.t,.int .u32 e.u,.int .u32 e.v,.bool e.add] 62 (0,0)):=fun w' g=>by rw[g.block _ (Array.getElem?_eq_some_iff.1 b1).1 (by simp)];exact b1
  have getD':∀ t (h:t<l.length),l.getD t ⟨0,0,0,false⟩=l[t]:=fun t h=>by simp[List.getD_eq_getElem?_getD,h]
  have hple:=wm l e l.length
  refine⟨fun k w'=>k=(cm l e l.length:Int)/\w1.grownBy w' none,⟨fun m k w2=>∃ j:Nat,k=(j:Int)/\j<=l.length/\m=j/\cm l e l.length=cm l e j/\w1.grownBy w2 none,⟨_,l.length,by omega,Nat.le_refl _,rfl,rfl,af _ _⟩,?_⟩,?_⟩
  · rintro m k w2 ⟨j,rfl,hj,rfl,hp,hg⟩
    have gd:=aj hg
    have tj:((m:Int)-1).toNat=m-1:=by omega
    rw[tj]
    refine⟨fun hpos=>?_,fun hz=>⟨?_,gd⟩⟩
    · have b2:=keep _ gd
      obtain⟨a,e1,e2,e3,e4,e5⟩:=jm ((hr.kept_none g1).kept_none gd) (show m-1<l.length by omega)
      refine⟨_,aa b2 0,_,aa b2 1,_,aa b2 2,_,aa b2 3,by omega,a,e1,by omega,by omega,_,e2,_,e3,_,e4,_,e5,?_⟩
      refine(qfu e l[m-1]).mono fun ev w3 hh=>?_
      obtain⟨rfl,g3⟩:=hh
      have hstep:cm l e m=if br e l[m-1]=true then cm l e (m-1) else m:=by
        obtain⟨q,rfl⟩:∃ q,m=q+1:=⟨m-1,by omega⟩
        rw[cm,getD' q (by omega)];rfl
      refine⟨_,rfl,fun h=>⟨by omega,m-1,by omega,m-1,by omega,by omega,rfl,by rw[hp,hstep,if_pos h],ab gd g3⟩,fun h=>⟨by rw[hp,hstep,if_neg (by rw[h];simp)],ab gd g3⟩⟩
    · have:m=0:=by omega
      subst this
      rw[hp];rfl
  · rintro k w3 ⟨rfl,g3⟩
    have hins:ma l e=if 0<cm l e l.length/\(l.getD (cm l e l.length-1) ⟨0,0,0,false⟩).t=e.t/\(l.getD (cm l e l.length-1) ⟨0,0,0,false⟩).u=e.u/\(l.getD (cm l e l.length-1) ⟨0,0,0,false⟩).v=e.v then l else l.take (cm l e l.length)++(e ::l.drop (cm l e l.length)):=rfl
    generalize cm l e l.length=k at *
    have tk:(k:Int).toNat=k:=by omega
    have tk1:((k:Int)-1).toNat=k-1:=by omega
    rw[tk,tk1]
    have gd:=aj g3
    have b3:=keep _ gd
    refine⟨fun q w'=>q=decide (0<k/\(l.getD (k-1) ⟨0,0,0,false⟩).t=e.t/\(l.getD (k-1) ⟨0,0,0,false⟩).u=e.u/\(l.getD (k-1) ⟨0,0,0,false⟩).v=e.v)/\w1.grownBy w' none,⟨fun hpos=>?_,fun hz=>⟨by simp;omega,gd⟩⟩,?_⟩
    · obtain⟨a,e1,e2,e3,e4,e5⟩:=jm ((hr.kept_none g1).kept_none gd) (show k-1<l.length by omega)
      refine⟨by omega,a,e1,by omega,by omega,_,e2,_,aa b3 0,fun ht=>⟨by omega,a,e1,by omega,by omega,_,e3,_,by rw[iw];exact e4,_,aa b3 1,_,aa b3 2,_,fun w=>qlf _ _ _ _ _ _ w,?_,gd⟩,fun ht=>⟨?_,gd⟩⟩
      · rw[getD' (k-1) (by omega),decide_eq_decide]
        exact⟨fun h=>⟨by omega,ht,h.1,h.2⟩,fun h=>h.2.2⟩
      · rw[getD' (k-1) (by omega)]
        symm;rw[decide_eq_false_iff_not]
        exact fun h=>ht h.2.1
    · rintro q w4 ⟨hq,g4⟩
      refine⟨fun h=>?_,fun h=>?_⟩
      · rw[h]at hq
        rw[hins,if_pos (of_decide_eq_true hq.symm)]
        exact⟨_,_,_,rfl,ho.kept (ab g1 g4),ab g1 g4⟩
      · rw[h]at hq
        rw[hins,if_neg (of_decide_eq_false hq.symm)]
        have gd:=aj g4
        have g0d:=ab g1 gd
        have rd:=hr.kept_none g0d
        refine⟨fun w'=>w1.grownBy w' none,gd,⟨⟨by omega,by omega⟩,?_⟩,⟨⟨by omega,by omega⟩,?_⟩⟩
        · obtain⟨A5,n5,c5,w5,f1,f2,f3,f4⟩:=ew (n:=0) (c:=0) (A:=none) (xs:=[]) (am.nil w4.drew w4.drew.heap.size 62 4) (m:=k) (d:=c) (qhl rd k) (by rw[List.length_take];omega) hA (by omega) (Nat.le_refl _)
          have g5:w4.drew.grownBy w5 none:=ax (af w4.drew none) f3 (fun k hk=>by simp[Value.ownBlock]at hk)
          rw[List.nil_append]at f2
          have g15:=ab gd g5
          have ga:=World.grownBy_alloc w5 (.cells #[.int .i64 e.t,.int .u32 e.u,.int .u32 e.v,.bool e.add] 62) none
          have ra:Row (w5.alloc (.cells #[.int .i64 e.t,.int .u32 e.u,.int .u32 e.v,.bool e.add] 62)) (some ⟨w5.heap.size,0,none⟩) (fh [e]):=ey w5 _ 62
          obtain⟨A6,n6,c6,w6,p1,p2,p3,p4⟩:=ew (f2.kept ga) (m:=1) (d:=1) ra rfl (fun h=>by cases h) (by omega) (Nat.le_trans g5.size ga.size)
          have g56:=ab g5 ga
          have g6:=ax g56 p3 f2.block_ge
          obtain⟨r7,d7⟩:=cutV (k:=k) (rd.kept_none g6) hA (by omega)
          obtain⟨A7,n7,c7,w7,q1,q2,q3,q4⟩:=ew p2 (m:=n-k) (d:=c-k) r7 (by rw[List.length_drop];omega) d7 (by omega) g6.size
          have g7:=ax g6 q3 p2.block_ge
          exact⟨_,_,_,w5,f1,g15,_,fun w' h=>aa (keep w' h) 0,_,fun w' h=>aa (keep w' h) 1,_,fun w' h=>aa (keep w' h) 2,_,fun w' h=>aa (keep w' h) 3,ab g15 ga,_,_,_,w6,p1,ab gd g6,⟨by omega,by omega⟩,_,_,_,w7,q1,ab gd g7,_,_,_,rfl,by simpa using q2.mono (Nat.le_trans hb g0d.size),ab g0d g7⟩
        · refine⟨_,fun w' h=>aa (keep w' h) 0,_,fun w' h=>aa (keep w' h) 1,_,fun w' h=>aa (keep w' h) 2,_,fun w' h=>aa (keep w' h) 3,?_⟩
          have ga:=World.grownBy_alloc w4.drew (.cells #[.int .i64 e.t,.int .u32 e.u,.int .u32 e.v,.bool e.add] 62) none
          have ra:Row (w4.drew.alloc (.cells #[.int .i64 e.t,.int .u32 e.u,.int .u32 e.v,.bool e.add] 62)) (some ⟨w4.drew.heap.size,0,none⟩) (fh [e]):=ey w4.drew _ 62
          obtain⟨wa,hwa⟩:∃ wa,wa=w4.drew.alloc (.cells #[.int .i64 e.t,.int .u32 e.u,.int .u32 e.v,.bool e.add] 62):=⟨_,rfl⟩
          show(fun w'=>w1.grownBy w' none) (w4.drew.alloc (.cells #[.int .i64 e.t,.int .u32 e.u,.int .u32 e.v,.bool e.add] 62))/\_
          rw[← hwa]at ga ra ⊢
          obtain⟨A5,n5,c5,w5,f1,f2,f3,f4⟩:=ew (n:=0) (c:=0) (A:=none) (xs:=[]) (am.nil wa wa.heap.size 62 4) (m:=k) (d:=c) (qhl (rd.kept_none ga) k) (by rw[List.length_take];omega) hA (by omega) (Nat.le_refl _)
          have g5:wa.grownBy w5 none:=ax (af wa none) f3 (fun k hk=>by simp[Value.ownBlock]at hk)
          rw[List.nil_append]at f2
          obtain⟨A6,n6,c6,w6,p1,p2,p3,p4⟩:=ew f2 (m:=1) (d:=1) (ra.kept_none g5) rfl (fun h=>by cases h) (by omega) g5.size
          have g6:=ax g5 p3 f2.block_ge
          obtain⟨r7,d7⟩:=cutV (k:=k) ((rd.kept_none ga).kept_none g6) hA (by omega)
          obtain⟨A7,n7,c7,w7,q1,q2,q3,q4⟩:=ew p2 (m:=n-k) (d:=c-k) r7 (by rw[List.length_drop];omega) d7 (by omega) g6.size
          have g7:=ax g6 q3 p2.block_ge
          have g1a:=ab gd ga
          exact⟨g1a,_,_,_,w5,f1,ab g1a g5,_,_,_,w6,p1,ab g1a g6,⟨by omega,by omega⟩,_,_,_,w7,q1,ab g1a g7,_,_,_,rfl,by simpa using q2.mono (Nat.le_trans hb (Nat.le_trans g0d.size ga.size)),ab g0d (ab ga g7)⟩
def vy(t a:Int):Int:=if a>240 then t+a % 4+2^(a % 40).toNat else t+a % 4
def yh(n a b c t:Int)(ts:List Evt):List Evt:=if(gf b c n).2=true then ma ts ⟨vy t a,(gf b c n).1.1,(gf b c n).1.2,false⟩ else ts
def b9(n:Int):List Int->Int->List Evt->List Evt
 | a ::b ::c ::l,t,ts=>if ts.length<40 then b9 n l (vy t a) (yh n a b c t ts) else ts
 | _,_,ts=>ts
def kq:List Evt->List Edge->List Evt
 | [],_=>[]
 | e ::l,now=>⟨e.t,e.u,e.v,!decide ((e.u,e.v)∈now)⟩ ::kq l ((cr now ⟨e.t,e.u,e.v,!decide ((e.u,e.v)∈now)⟩).getD [])
def ir(k:Int)(l:List Int):List Evt:=kq (b9 (rb k) l (k % 3) []) []
theorem qoe{a b n:Int}(ha:0<=a)(hb:0<=b)(hn:2<=n/\n<=4294967296)(h:(gf a b n).2=true):0<=(gf a b n).1.1/\(gf a b n).1.1<(gf a b n).1.2/\(gf a b n).1.2<n:=by
 have ua:=yq (most:=230) ha hn
 have ub:=yq (most:=240) hb hn
 unfold gf at h ⊢
 split at h
 ·cases h
 ·rename_i hne
  rw[if_neg hne]
  simp only[mn,mx]
  split <;>split <;>omega
theorem qbb(l:List Evt)(e:Evt):(ma l e).length<=l.length+1:=by
 unfold ma
 split
 ·omega
 ·simp only[List.length_append,List.length_cons,List.length_take,List.length_drop];omega
theorem qgn{l:List Evt}{e x:Evt}(h:x∈ma l e):x∈l∨x=e:=by
 unfold ma at h
 split at h
 ·exact .inl h
 ·rcases List.mem_append.1 h with q | q
  ·exact .inl (List.mem_of_mem_take q)
  ·rcases List.mem_cons.1 q with q | q
   ·exact .inr q
   ·exact .inl (List.mem_of_mem_drop q)
theorem xw(n a b c t:Int)(ts:List Evt):(yh n a b c t ts).length<=ts.length+1:=by
 unfold yh
 split
 ·exact qbb _ _
 ·omega
theorem l8(n:Int):∀(l:List Int)(t:Int)(ts:List Evt),ts.length<=40->(b9 n l t ts).length<=40
 | a ::b ::c ::l,t,ts,h=>by
  rw[b9]
  split
  ·have:=xw n a b c t ts
   exact l8 n l _ _ (by omega)
  ·exact h
 | [],t,ts,h=>by simpa[b9]using h
 | [_],t,ts,h=>by simpa[b9]using h
 | [_,_],t,ts,h=>by simpa[b9]using h
theorem u7:∀(l:List Evt)(now:List Edge),(kq l now).length=l.length
 | [],_=>rfl
 | e ::l,now=>by rw[kq,List.length_cons,List.length_cons,u7 l]
theorem qan(k:Int)(l:List Int):(ir k l).length<=40:=by
 rw[ir,u7];exact l8 _ _ _ _ (by simp)
theorem qcx{N t:Int}{ts:List Evt}:∀(q:List Int),q.length<=2->b9 N q t ts=ts
 | [],_=>by simp[b9]
 | [_],_=>by simp[b9]
 | [_,_],_=>by simp[b9]
 | _ ::_ ::_ ::_,h=>by simp at h
theorem nd {w:World} {A:Option Addr} {n c:Nat} {l:List Int} {k:Int} (hr:Row w A (u8s l)) (hn:n=l.length) (hb:bf l) (hk:0<=k/\k<=255) (hl:n<=2^10) :
    Calls P 9 #[.int .u8 k,.slice A n c] w fun ev w'=>∃(A':Option Addr)(n' c':Nat),ev=.returned (.agg #[.int .u64 (rb k),.slice A' n' c'])/\am w' w.heap.size 62 4 A' n' c' (fh (ir k l))/\w.grownBy w' none:=by
  apply vc9;dsimp only[VC9,Wt,Br,Bb,Rd,Rc,Rs,Ix,rI_,rB_,rS_]
  try simp only[InK]
  have hN:=qcu k
  have g0:=World.grownBy_alloc w (.cells #[.int .u64 0,.slice none 0 0] 25) none
  have b0:(w.alloc (.cells #[.int .u64 0,.slice none 0 0] 25)).heap[w.heap.size]?=some (.cells #[.int .u64 0,.slice none 0 0] 25 (0,0)):=heap_alloc_new w _
  obtain⟨w0,hw0⟩:∃ w0,w0=w.alloc (.cells #[.int .u64 0,.slice none 0 0] 25):=⟨_,rfl⟩
  rw[← hw0]at g0 b0 ⊢
  refine(qa7 hk).mono fun ev w1 hh=>?_
  obtain⟨rfl,g1⟩:=hh
  have hhist:ir k l=kq (b9 (rb k) l (k % 3) []) []:=rfl
  have htl40:=l8 (rb k) l (k % 3) [] (by simp)
  generalize rb k=N at *
  refine⟨_,rfl,?_⟩
  have ga:=World.grownBy_alloc w1 (.cells #[.int .u64 0,.slice none 0 0] 25) none
  have s0:(w1.alloc (.cells #[.int .u64 0,.slice none 0 0] 25)).heap[w1.heap.size]?=some (.cells #[.int .u64 0,.slice none 0 0] 25 (0,0)):=heap_alloc_new w1 _
  have s1:=ah s0 0 (.int .u64 N)
  have s2:=ah s1 1 (.slice none 0 0)
  have K2:Kp w1 (((w1.alloc (.cells #[.int .u64 0,.slice none 0 0] 25)).setCell ⟨w1.heap.size,0,none⟩ (.int .u64 N)).setCell ⟨w1.heap.size,1,none⟩ (.slice none 0 0)) (fun k=>w1.heap.size<=k):=ck (ck (Kp.of_none ga) (Nat.le_refl _)) (Nat.le_refl _)
  refine⟨⟨_,aa s0 0⟩,ae s0 0,⟨_,aa s1 1⟩,ae s1 1,⟨by omega,by omega⟩,by omega,?_⟩
  obtain⟨w2,hw2⟩:∃ w2,w2=((w1.alloc (.cells #[.int .u64 0,.slice none 0 0] 25)).setCell ⟨w1.heap.size,0,none⟩ (.int .u64 N)).setCell ⟨w1.heap.size,1,none⟩ (.slice none 0 0):=⟨_,rfl⟩
  rw[← hw2]at s2 K2 ⊢
  replace s2:w2.heap[w1.heap.size]?=some (.cells #[.int .u64 N,.slice none 0 0] 25 (0,0)):=by simpa using s2
  have g12:w1.grownBy w2 none:=K2.grown (fun k hk e=>by omega)
  have g01:=ab g0 g1
  have g02:=ab g01 g12
  have hs2:w1.heap.size<w2.heap.size:=(Array.getElem?_eq_some_iff.1 s2).1
  have keep:∀ w',w2.grownBy w' none->w'.heap[w1.heap.size]?=some (.cells #[.int .u64 N,.slice none 0 0] 25 (0,0)):=fun w' g=>by rw[g.block _ hs2 (by simp)];exact s2
  have rd:∀(w':World)(p:Nat),w2.grownBy w' none->(h:p<l.length)->∃ a,A=some a/\w'.cell? (a.add p)=some (.int .u8 l[p]):=fun w' p g h=>((hr.kept_none g02).kept_none g) p (.int .u8 l[p]) (by simp[h])
  refine⟨fun tA tn tc w'=>am w' w.heap.size 62 4 tA tn tc (fh (b9 N l (k % 3) []))/\w2.grownBy w' none,⟨fun m t tA tn tc i w'=>∃(p:Nat)(ts:List Evt),i=(p:Int)/\p<=l.length+2/\m=l.length+3-p/\am w' w.heap.size 62 4 tA tn tc (fh ts)/\ts.length<=40/\0<=t/\t<=(p:Int)*2199023255552+2/\b9 N l (k % 3) []=b9 N (l.drop p) t ts/\w2.grownBy w' none,
    ⟨_,0,[],rfl,by omega,rfl,am.nil _ _ _ _,by simp,by omega,by omega,by simp,af _ _⟩,?_⟩,?_⟩
  · rintro m t tA tn tc i w3 ⟨p,ts,rfl,hp,rfl,ho,htl,ht0,ht1,htg,hg⟩
    have tp:(p:Int).toNat=p:=by omega
    have tp1:((p:Int)+1).toNat=p+1:=by omega
    have tp2:((p:Int)+2).toNat=p+2:=by omega
    rw[tp,tp1,tp2]
    have htn:tn=ts.length:=by have:=ho.cases.1;rw[cw]at this;omega
    refine⟨by omega,fun hlt=>⟨fun h40=>?_,fun h40=>?_⟩,fun hge=>?_⟩
    · have lp:p+2<l.length:=by omega
      have hdrop:l.drop p=l[p] ::l[p+1] ::l[p+2] ::l.drop (p+3):=by
        rw[List.drop_eq_getElem_cons (show p<l.length by omega),List.drop_eq_getElem_cons (show p+1<l.length by omega),List.drop_eq_getElem_cons (show p+1+1<l.length by omega)]
      rw[hdrop,b9,if_pos (by omega)]at htg
      obtain⟨a,e1,e2⟩:=rd w3 p hg (by omega)
      have hx:=hb _ (List.getElem_mem (show p<l.length by omega))
      have hy:=hb _ (List.getElem_mem (show p+1<l.length by omega))
      have hz:=hb _ (List.getElem_mem (show p+2<l.length by omega))
      have hpw:(2:Int)^(l[p] % 40).toNat<=549755813888/\0<(2:Int)^(l[p] % 40).toNat:=by
        have:=Nat.pow_le_pow_right (n:=2) (by omega) (show(l[p] % 40).toNat<=39 by omega)
        have:=Nat.two_pow_pos (l[p] % 40).toNat
        have e:((2^(l[p] % 40).toNat:Nat):Int)=2^(l[p] % 40).toNat:=by simp
        omega
      refine⟨a,e1,by omega,by omega,_,e2,⟨by omega,by omega⟩,by omega,by omega,fun t1 w'=>t1=vy t l[p]/\w'=w3,⟨a,e1,by omega,by omega,_,e2,fun h240=>⟨a,e1,by omega,by omega,_,e2,⟨by omega,by omega⟩,⟨by omega,?_⟩,?_,?_,rfl⟩,fun h240=>⟨by unfold vy;rw[if_neg h240],rfl⟩⟩,?_⟩
      · rw[show min (l[p] % 40).toNat 64=(l[p] % 40).toNat by omega];omega
      · rw[show min (l[p] % 40).toNat 64=(l[p] % 40).toNat by omega];omega
      · rw[show min (l[p] % 40).toNat 64=(l[p] % 40).toNat by omega];unfold vy;rw[if_pos h240];omega
      rintro t1 w4 ⟨ht,hw4⟩
      rw[hw4];clear hw4
      have htb:0<=t1/\t1<=((p+3:Nat):Int)*2199023255552+2:=by rw[ht];unfold vy;split <;>omega
      have gd:=aj hg
      obtain⟨a1,q1,q2⟩:=rd w3.drew (p+1) gd (by omega)
      obtain⟨a2,q3,q4⟩:=rd w3.drew (p+2) gd (by omega)
      have rdC:∀(p':Nat)(h:p'<l.length)(b:Addr),A=some b->∀ wq,w2.grownBy wq none->wq.cell? (b.add p')=some (.int .u8 l[p']):=fun p' h b hb' wq gq=>by
        obtain⟨b',r1,r2⟩:=rd wq p' gq h
        rw[hb']at r1;cases r1;exact r2
      have fin:∀(W:World)(g:Nat),w2.grownBy W none->am W w.heap.size 62 4 tA tn tc (fh ts)->W.heap[g]?=some (.cells #[.int .u32 (gf l[p+1] l[p+2] N).1.1,.int .u32 (gf l[p+1] l[p+2] N).1.2] 45 (0,0)) →
          ∃ J:Option Addr->Nat->Nat->World->Prop,(((gf l[p+1] l[p+2] N).2=true->∃ x,W.cell? ⟨g,0,none⟩=some (.int .u32 x)/\∃ y,W.cell? ⟨g,1,none⟩=some (.int .u32 y)/\Calls P 28 #[.slice tA tn tc,.agg #[.int .i64 t1,.int .u32 x,.int .u32 y,.bool false]] W fun ev w5=>∃(X:Option Addr)(xn xc:Nat),ev=.returned (.slice X xn xc)/\J X xn xc w5)/\((gf l[p+1] l[p+2] N).2=false->J tA tn tc W)) ∧
          ∀(X:Option Addr)(xn xc:Nat)(w6:World),J X xn xc w6->(-9223372036854775808<=(p:Int)+3/\(p:Int)+3<=9223372036854775807)/\∃ m_1,m_1<l.length+3-p/\∃(p':Nat)(ts':List Evt),(p:Int)+3=(p':Int)/\p'<=l.length+2/\m_1=l.length+3-p'/\am w6 w.heap.size 62 4 X xn xc (fh ts')/\ts'.length<=40/\0<=t1/\t1<=(p':Int)*2199023255552+2/\b9 N l (k % 3) []=b9 N (l.drop p') t1 ts'/\w2.grownBy w6 none:=by
        intro W g gW oW bW
        have hsl:=xw N l[p] l[p+1] l[p+2] t ts
        refine⟨fun X xn xc w6=>am w6 w.heap.size 62 4 X xn xc (fh (yh N l[p] l[p+1] l[p+2] t ts))/\w2.grownBy w6 none,⟨fun hok=>⟨_,aa bW 0,_,aa bW 1,?_⟩,fun hok=>⟨?_,gW⟩⟩,?_⟩
        · refine(qe5 (e:=⟨t1,(gf l[p+1] l[p+2] N).1.1,(gf l[p+1] l[p+2] N).1.2,false⟩) oW (Nat.le_trans g02.size gW.size) (by omega)).mono fun ev w5 hh=>?_
          obtain⟨X,xn,xc,rfl,oX,g5⟩:=hh
          refine⟨_,_,_,rfl,?_,ab gW g5⟩
          have:yh N l[p] l[p+1] l[p+2] t ts=ma ts ⟨t1,(gf l[p+1] l[p+2] N).1.1,(gf l[p+1] l[p+2] N).1.2,false⟩:=by unfold yh;rw[if_pos hok,ht]
          rw[this];exact oX
        · have:yh N l[p] l[p+1] l[p+2] t ts=ts:=by unfold yh;rw[if_neg (by rw[hok];simp)]
          rw[this];exact oW
        · rintro X xn xc w6 ⟨oX,g6⟩
          exact⟨by omega,l.length+3-(p+3),by omega,p+3,_,by omega,by omega,rfl,oX,by omega,htb.1,htb.2,by rw[htg,ht],g6⟩
      refine⟨fun w'=>w2.grownBy w' none,gd,⟨by omega,a1,q1,by omega,by omega,_,fun wq gq=>rdC (p+1) (by omega) a1 q1 wq gq,by omega,a2,q3,by omega,by omega,_,fun wq gq=>rdC (p+2) (by omega) a2 q3 wq gq,_,fun wq gq=>aa (keep wq gq) 0,?_⟩,⟨by omega,a1,q1,by omega,by omega,_,fun wq gq=>rdC (p+1) (by omega) a1 q1 wq gq,by omega,a2,q3,by omega,by omega,_,fun wq gq=>rdC (p+2) (by omega) a2 q3 wq gq,_,fun wq gq=>aa (keep wq gq) 0,?_⟩⟩
      · refine(qas hy hz hN).mono fun ev w5 hh=>?_
        obtain⟨rfl,g5⟩:=hh
        have gd5:=ab gd g5
        have gE:=World.grownBy_alloc w5 (.cells #[.int .u32 0,.int .u32 0] 45) none
        have t0:(w5.alloc (.cells #[.int .u32 0,.int .u32 0] 45)).heap[w5.heap.size]?=some (.cells #[.int .u32 0,.int .u32 0] 45 (0,0)):=heap_alloc_new w5 _
        have t1':=ah t0 0 (.int .u32 (gf l[p+1] l[p+2] N).1.1)
        have t2:=ah t1' 1 (.int .u32 (gf l[p+1] l[p+2] N).1.2)
        have gS:w5.grownBy (((w5.alloc (.cells #[.int .u32 0,.int .u32 0] 45)).setCell ⟨w5.heap.size,0,none⟩ (.int .u32 (gf l[p+1] l[p+2] N).1.1)).setCell ⟨w5.heap.size,1,none⟩ (.int .u32 (gf l[p+1] l[p+2] N).1.2)) none:=(ck (ck (Kp.of_none (S:=fun k=>w5.heap.size<=k) gE) (Nat.le_refl _)) (Nat.le_refl _)).grown (fun k hk e=>by omega)
        have gA:=ab gd5 gS
        exact⟨_,_,_,rfl,gd5,ab gd5 gE,⟨_,aa t0 0⟩,ae t0 0,⟨_,aa t1' 1⟩,ae t1' 1,gA,fin _ _ gA (ho.kept (ab (ab (aj (af w3 none)) g5) gS)) (by simpa using t2)⟩
      · have gE:=World.grownBy_alloc w3.drew (.cells #[.int .u32 0,.int .u32 0] 45) none
        have t0:(w3.drew.alloc (.cells #[.int .u32 0,.int .u32 0] 45)).heap[w3.drew.heap.size]?=some (.cells #[.int .u32 0,.int .u32 0] 45 (0,0)):=heap_alloc_new w3.drew _
        refine⟨ab gd gE,(qas hy hz hN).mono fun ev w7 hh=>?_⟩
        obtain⟨rfl,g7⟩:=hh
        have gd7:=ab (ab gd gE) g7
        have t0':w7.heap[w3.drew.heap.size]?=some (.cells #[.int .u32 0,.int .u32 0] 45 (0,0)):=by rw[g7.block _ (Array.getElem?_eq_some_iff.1 t0).1 (by simp)];exact t0
        have t1':=ah t0' 0 (.int .u32 (gf l[p+1] l[p+2] N).1.1)
        have t2:=ah t1' 1 (.int .u32 (gf l[p+1] l[p+2] N).1.2)
        have gS:w3.drew.grownBy ((w7.setCell ⟨w3.drew.heap.size,0,none⟩ (.int .u32 (gf l[p+1] l[p+2] N).1.1)).setCell ⟨w3.drew.heap.size,1,none⟩ (.int .u32 (gf l[p+1] l[p+2] N).1.2)) none:=(ck (ck (Kp.of_none (S:=fun k=>w3.drew.heap.size<=k) (ab gE g7)) (Nat.le_refl _)) (Nat.le_refl _)).grown (fun k hk e=>by omega)
        have gA:=ab gd gS
        exact⟨_,_,_,rfl,gd7,⟨_,aa t0' 0⟩,ae t0' 0,⟨_,aa t1' 1⟩,ae t1' 1,gA,fin _ _ gA (ho.kept (ab (aj (af w3 none)) gS)) (by simpa using t2)⟩
    · have lp:p+2<l.length:=by omega
      have hdrop:l.drop p=l[p] ::l[p+1] ::l[p+2] ::l.drop (p+3):=by
        rw[List.drop_eq_getElem_cons (show p<l.length by omega),List.drop_eq_getElem_cons (show p+1<l.length by omega),List.drop_eq_getElem_cons (show p+1+1<l.length by omega)]
      rw[hdrop,b9,if_neg (by omega)]at htg
      rw[htg];exact⟨ho,hg⟩
    · rw[qcx (l.drop p) (by rw[List.length_drop];omega)]at htg
      rw[htg];exact⟨ho,hg⟩
  · rintro tA tn tc w10 ⟨oT,g10⟩
    generalize b9 N l (k % 3) []=ts at *
    have hts:ts.length<=40:=htl40
    have htn:tn=ts.length:=by have:=oT.cases.1;rw[cw]at this;omega
    have b10:=keep w10 g10
    have g010:=ab g02 g10
    have l10:w1.heap.size<w10.heap.size:=Nat.lt_of_lt_of_le hs2 g10.size
    have bw10:w10.heap[w.heap.size]?=some (.cells #[.int .u64 0,.slice none 0 0] 25 (0,0)):=by
      rw[(ab g1 (ab g12 g10)).block _ (Array.getElem?_eq_some_iff.1 b0).1 (by simp)];exact b0
    have lw0:w.heap.size<w1.heap.size:=Nat.lt_of_lt_of_le (Array.getElem?_eq_some_iff.1 b0).1 g1.size
    refine⟨fun m nA nn nc i w'=>∃(j:Nat)(now:List Edge)(out:List Evt)(hA:Option Addr)(hn hc:Nat),i=(j:Int)/\j<=ts.length/\m=ts.length-j/\am w' w10.heap.size 45 2 nA nn nc (edges now)/\now.length<=j/\am w' w10.heap.size 62 4 hA hn hc (fh out)/\out.length=j/\kq ts []=out++kq (ts.drop j) now/\w'.heap[w1.heap.size]?=some (.cells #[.int .u64 N,.slice hA hn hc] 25 (0,0))/\Kp w10 w' (fun q=>q=w1.heap.size∨w10.heap.size<=q),
      ⟨_,0,[],[],none,0,0,rfl,by omega,rfl,am.nil _ _ _ _,by simp,am.nil _ _ _ _,rfl,by simp,b10,Kp.refl _ _⟩,?_⟩
    rintro m nA nn nc i w11 ⟨j,now,out,hA,hn',hc',rfl,hj,rfl,oN,hnl,oH,hol,hgo,bH,K11⟩
    have tj:(j:Int).toNat=j:=by omega
    rw[tj]
    have hnn:nn=now.length:=by have:=oN.cases.1;rw[dt]at this;omega
    have hhn:hn'=out.length:=by have:=oH.cases.1;rw[cw]at this;omega
    have lH:=(Array.getElem?_eq_some_iff.1 bH).1
    refine⟨fun hlt=>?_,fun hge=>?_⟩
    · have lj:j<ts.length:=by omega
      rw[List.drop_eq_getElem_cons lj,kq]at hgo
      have oT11:=oT.kp K11 (fun q hq e=>by
        rcases e with e | e
        · obtain⟨cur,h⟩:=oT.block_type q hq
          rw[e,b10]at h;cases h
        · have:=oT.block_lt q hq;omega)
      obtain⟨a,e1,e2,e3,e4,e5⟩:=jm oT11.row lj
      have ga:=World.grownBy_alloc w11 (.cells #[.int .i64 0,.int .u32 0,.int .u32 0,.bool false] 62) none
      have s0:(w11.alloc (.cells #[.int .i64 0,.int .u32 0,.int .u32 0,.bool false] 62)).heap[w11.heap.size]?=some (.cells #[.int .i64 0,.int .u32 0,.int .u32 0,.bool false] 62 (0,0)):=heap_alloc_new w11 _
      obtain⟨wa,hwa⟩:∃ wa,wa=w11.alloc (.cells #[.int .i64 0,.int .u32 0,.int .u32 0,.bool false] 62):=⟨_,rfl⟩
      rw[← hwa]at ga s0 ⊢
      have s1:=ah s0 0 (.int .i64 ts[j].t)
      have s2':=ah s1 1 (.int .u32 ts[j].u)
      have s3:=ah s2' 2 (.int .u32 ts[j].v)
      have s4:=ah s3 3 (.bool ts[j].add)
      have K4:Kp w11 ((((wa.setCell ⟨w11.heap.size,0,none⟩ (.int .i64 ts[j].t)).setCell ⟨w11.heap.size,1,none⟩ (.int .u32 ts[j].u)).setCell ⟨w11.heap.size,2,none⟩ (.int .u32 ts[j].v)).setCell ⟨w11.heap.size,3,none⟩ (.bool ts[j].add)) (fun k=>w11.heap.size<=k):=ck (ck (ck (ck (Kp.of_none ga) (Nat.le_refl _)) (Nat.le_refl _)) (Nat.le_refl _)) (Nat.le_refl _)
      refine⟨a,e1,by omega,by omega,_,e2,_,e3,_,e4,_,e5,⟨_,aa s0 0⟩,ae s0 0,⟨_,aa s1 1⟩,ae s1 1,⟨_,aa s2' 2⟩,ae s2' 2,⟨_,aa s3 3⟩,ae s3 3,?_⟩
      obtain⟨w4,hw4⟩:∃ w4,w4=(((wa.setCell ⟨w11.heap.size,0,none⟩ (.int .i64 ts[j].t)).setCell ⟨w11.heap.size,1,none⟩ (.int .u32 ts[j].u)).setCell ⟨w11.heap.size,2,none⟩ (.int .u32 ts[j].v)).setCell ⟨w11.heap.size,3,none⟩ (.bool ts[j].add):=⟨_,rfl⟩
      rw[← hw4]at s4 K4 ⊢
      replace s4:w4.heap[w11.heap.size]?=some (.cells #[.int .i64 ts[j].t,.int .u32 ts[j].u,.int .u32 ts[j].v,.bool ts[j].add] 62 (0,0)):=by simpa using s4
      have g24:w11.grownBy w4 none:=K4.grown (fun k hk e=>by omega)
      refine⟨_,aa s4 1,_,aa s4 2,?_⟩
      refine(ql8 (e:=(ts[j].u,ts[j].v)) (oN.kept g24).row hnn (by omega)).mono fun ev w12 hh=>?_
      obtain⟨rfl,g12'⟩:=hh
      have s5:w12.heap[w11.heap.size]?=some (.cells #[.int .i64 ts[j].t,.int .u32 ts[j].u,.int .u32 ts[j].v,.bool ts[j].add] 62 (0,0)):=by rw[g12'.block _ (Array.getElem?_eq_some_iff.1 s4).1 (by simp)];exact s4
      have s6:=ah s5 3 (.bool (decide (decide ((ts[j].u,ts[j].v)∈now)=false)))
      have gS:w11.grownBy (w12.setCell ⟨w11.heap.size,3,none⟩ (.bool (decide (decide ((ts[j].u,ts[j].v)∈now)=false)))) none:=(ck (Kp.of_none (S:=fun k=>w11.heap.size<=k) (ab g24 g12')) (Nat.le_refl _)).grown (fun k hk e=>by omega)
      refine⟨_,rfl,⟨_,aa s5 3⟩,ae s5 3,_,aa s6 0,_,aa s6 1,_,aa s6 2,_,aa s6 3,?_⟩
      have hneg:decide (decide ((ts[j].u,ts[j].v)∈now)=false)=!decide ((ts[j].u,ts[j].v)∈now):=by cases decide ((ts[j].u,ts[j].v)∈now) <;>rfl
      rw[hneg]at s6 gS ⊢
      obtain⟨wb,hwb⟩:∃ wb,wb=w12.setCell ⟨w11.heap.size,3,none⟩ (.bool (!decide ((ts[j].u,ts[j].v)∈now))):=⟨_,rfl⟩
      rw[← hwb]at s6 gS ⊢
      replace s6:wb.heap[w11.heap.size]?=some (.cells #[.int .i64 ts[j].t,.int .u32 ts[j].u,.int .u32 ts[j].v,.bool (!decide ((ts[j].u,ts[j].v)∈now))] 62 (0,0)):=by simpa using s6
      have oNb:=oN.kept gS
      refine(qi7 (e:=⟨ts[j].t,ts[j].u,ts[j].v,!decide ((ts[j].u,ts[j].v)∈now)⟩) oNb.row hnn (yw oNb) (dr oNb) (by omega)).mono fun ev w13 hh=>?_
      obtain⟨X,xn,xc,rfl,oX,g13⟩:=hh
      have g1113:=ab gS g13
      have s7:w13.heap[w11.heap.size]?=some (.cells #[.int .i64 ts[j].t,.int .u32 ts[j].u,.int .u32 ts[j].v,.bool (!decide ((ts[j].u,ts[j].v)∈now))] 62 (0,0)):=by rw[g13.block _ (Array.getElem?_eq_some_iff.1 s6).1 (by simp)];exact s6
      have bH13:w13.heap[w1.heap.size]?=some (.cells #[.int .u64 N,.slice hA hn' hc'] 25 (0,0)):=by rw[g1113.block _ lH (by simp)];exact bH
      have gal:=World.grownBy_alloc w13 (.cells #[.int .i64 ts[j].t,.int .u32 ts[j].u,.int .u32 ts[j].v,.bool (!decide ((ts[j].u,ts[j].v)∈now))] 62) none
      have ra:Row (w13.alloc (.cells #[.int .i64 ts[j].t,.int .u32 ts[j].u,.int .u32 ts[j].v,.bool (!decide ((ts[j].u,ts[j].v)∈now))] 62)) (some ⟨w13.heap.size,0,none⟩) (fh [⟨ts[j].t,ts[j].u,ts[j].v,!decide ((ts[j].u,ts[j].v)∈now)⟩]):=ey w13 _ 62
      have gfull:=ab g1113 gal
      have sz:=K11.size
      obtain⟨C,cn,cc,w14,p1,p2,p3,p4⟩:=ew (oH.kept gfull) (m:=1) (d:=1) ra rfl (fun h=>by cases h) (by omega) (Nat.le_trans sz gfull.size)
      have bH14:w14.heap[w1.heap.size]?=some (.cells #[.int .u64 N,.slice hA hn' hc'] 25 (0,0)):=by
        rw[p3.block _ (Nat.lt_of_lt_of_le lH gfull.size) (fun e=>by have:=oH.block_ge _ e.symm;omega),gal.block _ (Nat.lt_of_lt_of_le lH g1113.size) (by simp)];exact bH13
      have bH15:=ah bH14 1 (.slice C cn cc)
      have hx1:((cr now ⟨ts[j].t,ts[j].u,ts[j].v,!decide ((ts[j].u,ts[j].v)∈now)⟩).getD []).length<=now.length+1:=by
        cases h:cr now ⟨ts[j].t,ts[j].u,ts[j].v,!decide ((ts[j].u,ts[j].v)∈now)⟩with
        | none=>simp
        | some x=>exact qd7 h
      have KS:Kp w14 (w14.setCell ⟨w1.heap.size,1,none⟩ (.slice C cn cc)) (fun q=>q=w1.heap.size):=ck (Kp.refl w14 _) rfl
      have oX14:=(oX.kept gal).apart p3 (sh (oX.kept gal) (oH.kept gfull) (by decide))
      refine⟨_,_,_,_,rfl,_,_,_,aa bH13 1,_,aa s7 0,_,aa s7 1,_,aa s7 2,_,aa s7 3,C,cn,cc,w14,p1,⟨_,aa bH14 1⟩,ae bH14 1,by omega,ts.length-(j+1),by omega,j+1,_,_,C,cn,cc,by omega,by omega,rfl,(oX14.mono (Nat.le_trans sz gS.size)).kp KS (fun q hq e=>by have:=oX14.block_ge q hq;have:=gS.size;omega),by omega,p2.kp KS (fun q hq e=>by have:=p2.block_ge q hq;omega),by simp;omega,?_,by simpa using bH15,(((K11.step gfull (fun k hk=>by cases hk)).step p3 (fun k hk=>.inr (.inr (oH.block_ge k hk)))).then KS (fun q _ e=>.inl e))⟩
      rw[hgo];simp
    · have e:j=ts.length:=by omega
      subst e
      rw[List.drop_length]at hgo
      have bw:w11.heap[w.heap.size]?=some (.cells #[.int .u64 0,.slice none 0 0] 25 (0,0)):=by
        rw[K11.block _ (by omega) (by omega)];exact bw10
      have s1:=ah bw 0 (.int .u64 N)
      have s2':=ah s1 1 (.slice hA hn' hc')
      have KK:Kp w ((w11.setCell ⟨w.heap.size,0,none⟩ (.int .u64 N)).setCell ⟨w.heap.size,1,none⟩ (.slice hA hn' hc')) (fun q=>w.heap.size<=q):=ck (ck ((Kp.of_none g010).then K11 (fun q hq e=>by omega)) (Nat.le_refl _)) (Nat.le_refl _)
      refine⟨_,aa bH 0,_,_,_,aa bH 1,⟨_,aa bw 0⟩,ae bw 0,⟨_,aa s1 1⟩,ae s1 1,_,aa s2' 0,_,_,_,aa s2' 1,_,_,_,rfl,?_,KK.grown (fun q hq e=>by omega)⟩
      have hx:ir k l=out:=by rw[hhist,hgo];simp[kq]
      rw[hx]
      exact(am.kp oH (ck (ck (Kp.refl w11 (fun q=>q=w.heap.size)) rfl) rfl) (fun q hq e=>by have:=oH.block_ge q hq;omega)).mono g010.size
def ri(l:List Edge):Prop:=l.Pairwise fun a b=>aw a b=true
theorem eg{a b:Edge}:aw a b=true↔a.1<b.1∨a.1=b.1/\a.2<b.2:=by simp[aw]
theorem si{a b c:Edge}(h:aw a b=true)(k:aw b c=true):aw a c=true:=by
 rw[eg]at *;omega
theorem qdc{a b:Edge}(h:aw a b=true):a≠b:=by
 rintro rfl;rw[eg]at h;omega
theorem qag{a b:Edge}(h:aw a b=false)(k:a≠b):aw b a=true:=by
 have h':¬ aw a b=true:=by rw[h];simp
 rw[eg]at *
 obtain⟨a1,a2⟩:=a;obtain⟨b1,b2⟩:=b
 simp only[ne_eq,Prod.mk.injEq]at k h' ⊢
 omega
theorem qgh{a b:Edge}(h:aw a b=true):aw b a=false:=by
 have:¬ aw b a=true:=by intro k;rw[eg]at *;omega
 simpa using this
theorem qel(e:Edge)(l:List Edge):gj (e ::l)=true↔(∀ x,l.head?=some x->aw e x=true)/\gj l=true:=by
 unfold gj
 simp only[List.all_eq_true,List.mem_range,List.length_cons]
 constructor
 ·intro h
  refine⟨fun x hx=>?_,fun i hi=>?_⟩
  ·cases l with
   | nil=>simp at hx
   | cons y l=>simp at hx;subst hx;simpa using h 0 (by simp)
  ·simpa using h (i+1) (by omega)
 ·rintro⟨h1,h2⟩ i hi
  cases i with
  | zero =>
   cases l with
   | nil=>simp at hi
   | cons y l=>simpa using h1 y rfl
  | succ i=>simpa using h2 i (by omega)
theorem ja(l:List Edge):gj l=true↔ri l:=by
 induction l with
 | nil=>simp[gj,ri]
 | cons e l ih =>
  rw[qel,ih]
  unfold ri
  rw[List.pairwise_cons]
  constructor
  ·rintro⟨h1,h2⟩
   refine⟨fun x hx=>?_,h2⟩
   cases l with
   | nil=>simp at hx
   | cons y l =>
    have hy:=h1 y rfl
    rcases List.mem_cons.1 hx with rfl | hx
    ·exact hy
    ·exact si hy ((List.pairwise_cons.1 h2).1 x hx)
  ·rintro⟨h1,h2⟩
   exact⟨fun x hx=>h1 x (List.mem_of_head? hx),h2⟩
theorem ri.nodup{l:List Edge}(h:ri l):l.Nodup:=h.imp (fun h=>qdc h)
theorem ri.ext{l m:List Edge}(hl:ri l)(hm:ri m)(h:∀ e,e∈l↔e∈m):l=m:=by
 induction l generalizing m with
 | nil =>
  cases m with
  | nil=>rfl
  | cons e m=>exact absurd ((h e).2 (by simp)) (by simp)
 | cons a l ih =>
  cases m with
  | nil=>exact absurd ((h a).1 (by simp)) (by simp)
  | cons b m =>
   have hl':=List.pairwise_cons.1 hl
   have hm':=List.pairwise_cons.1 hm
   have hab:a=b:=by
    rcases List.mem_cons.1 ((h a).1 (by simp))with e | e
    ·exact e
    ·rcases List.mem_cons.1 ((h b).2 (by simp))with e' | e'
     ·exact e'.symm
     ·have h1:=hm'.1 a e
      have h2:=hl'.1 b e'
      rw[qgh h1]at h2;cases h2
   subst hab
   rw[ih hl'.2 hm'.2 fun e=>?_]
   constructor
   ·intro he
    rcases List.mem_cons.1 ((h e).1 (by simp[he]))with e' | e'
    ·subst e';exact absurd rfl (qdc (hl'.1 e he))
    ·exact e'
   ·intro he
    rcases List.mem_cons.1 ((h e).2 (by simp[he]))with e' | e'
    ·subst e';exact absurd rfl (qdc (hm'.1 e he))
    ·exact e'
theorem qk7(l:List Edge)(e:Edge):l.take (qb2 l e)=l.takeWhile fun x=>aw x e:=by
 have h:=List.takeWhile_append_dropWhile (p:=fun x=>aw x e) (l:=l)
 conv=>lhs;rw[← h]
 unfold qb2
 exact List.take_left' (by rw[h])
theorem qmr(l:List Edge)(e:Edge):l.drop (qb2 l e)=l.dropWhile fun x=>aw x e:=by
 have h:=List.takeWhile_append_dropWhile (p:=fun x=>aw x e) (l:=l)
 conv=>lhs;rw[← h]
 unfold qb2
 exact List.drop_left' (by rw[h])
theorem qn3{l:List Edge}{e:Edge}(h:ri l)(he:e ∉ l):ri (l.take (qb2 l e)++(e ::l.drop (qb2 l e))):=by
 rw[qk7,qmr]
 have h0:=h
 rw[← List.takeWhile_append_dropWhile (p:=fun x=>aw x e) (l:=l)]at h0
 obtain⟨h1,h2,h3⟩:=List.pairwise_append.1 h0
 have hlt:∀ a∈l.takeWhile (fun x=>aw x e),aw a e=true:=by
  have h:=List.all_takeWhile (p:=fun x=>aw x e) (l:=l)
  exact List.all_eq_true.1 h
 have hgt:∀ a∈l.dropWhile (fun x=>aw x e),aw e a=true:=by
  intro a ha
  have hmem:∀ a∈l.dropWhile (fun x=>aw x e),a∈l:=fun a ha=>List.dropWhile_sublist _ |>.mem ha
  generalize hd:l.dropWhile (fun x=>aw x e)=d at *
  cases d with
  | nil=>simp at ha
  | cons y d =>
   have hy:aw y e=false:=by
    have:=List.head?_dropWhile_not (fun x=>aw x e) l
    rw[hd]at this
    simpa using this
   have hye:aw e y=true:=qag hy (fun h=>he (h▸hmem y (by simp)))
   rcases List.mem_cons.1 ha with rfl | ha
   ·exact hye
   ·exact si hye ((List.pairwise_cons.1 h2).1 a ha)
 refine List.pairwise_append.2 ⟨h1,List.pairwise_cons.2 ⟨hgt,h2⟩,fun a ha b hb=>?_⟩
 rcases List.mem_cons.1 hb with rfl | hb
 ·exact hlt a ha
 ·exact h3 a ha b hb
theorem qqe{l:List Edge}{e x:Edge}:x∈l.take (qb2 l e)++(e ::l.drop (qb2 l e))↔x=e∨x∈l:=by
 have h:x∈l↔x∈l.take (qb2 l e)++l.drop (qb2 l e):=by rw[List.take_append_drop]
 rw[h,List.mem_append,List.mem_append,List.mem_cons]
 constructor <;>rintro(h | h | h) <;>simp[h]
theorem qfm(l:List Edge)(e:Edge):l.take (l.idxOf e)++l.drop (l.idxOf e+1)=l.erase e:=by
 rw[← List.eraseIdx_eq_take_drop_succ,List.erase_eq_eraseIdx_of_idxOf (i:=l.idxOf e)]
 rfl
theorem zq{l:List Edge}(h:ri l)(e:Evt):cr l e=none↔e.add=decide ((e.u,e.v)∈l):=by
 unfold cr
 rw[if_neg (by rw[(ja l).2 h];simp)]
 split
 ·simp_all
 ·rename_i hne
  constructor
  ·intro h;split at h <;>cases h
  ·intro h;exact absurd h hne
theorem qk3{l:List Edge}{e:Evt}{x:List Edge}(hx:cr l e=some x):ri l:=by
 unfold cr at hx
 split at hx
 ·cases hx
 ·rename_i h
  exact(ja l).1 (by simpa using h)
theorem ki{l:List Edge}{e:Evt}{x:List Edge}(hx:cr l e=some x):ri x/\(∀ a,a∈x↔if a=(e.u,e.v) then e.add=true else a∈l)/\(e.add=!decide ((e.u,e.v)∈l)):=by
 have h:=qk3 hx
 have hne:¬ e.add=decide ((e.u,e.v)∈l):=fun k=>by rw[(zq h e).2 k]at hx;cases hx
 have hne':e.add=!decide ((e.u,e.v)∈l):=by
  cases h1:e.add <;>cases h2:decide ((e.u,e.v)∈l) <;>simp_all
 unfold cr at hx
 rw[if_neg (by rw[(ja l).2 h];simp),if_neg hne]at hx
 refine⟨?_,?_,hne'⟩
 ·split at hx
  ·cases hx
   rw[qfm]
   exact List.Pairwise.sublist List.erase_sublist h
  ·rename_i ha
   cases hx
   refine qn3 h fun hm=>?_
   simp[hm]at hne'
   exact ha hne'
 ·intro a
  split at hx
  ·rename_i ha
   cases hx
   rw[qfm,h.nodup.mem_erase_iff]
   split
   ·rename_i e;simp[e,ha]
   ·rename_i e;simp[e]
  ·rename_i ha
   cases hx
   rw[qqe]
   split
   ·rename_i e;simp[e];simpa using ha
   ·rename_i e;simp[e]
theorem qno{l x:List Edge}{e:Evt}(hx:cr l e=some x){a:Edge}(ha:a∈x):a∈l∨a=(e.u,e.v):=by
 have:=(ki hx).2.1 a
 by_cases e':a=(e.u,e.v)
 ·exact .inr e'
 ·rw[if_neg e']at this;exact .inl (this.1 ha)
def OkH(N:Int):List Evt->Option Evt->List Edge->Prop
 | [],_,_=>True
 | e ::l,p,now=>(0<=e.t/\e.t<=4611686018427387903)/\(e.u<e.v/\e.v<N)/\(∀ q,p=some q->br q e=true)/\∃ x,cr now e=some x/\OkH N l (some e) x
theorem xq{N:Int}:∀ {l:List Evt} {p:Option Evt} {now:List Edge} {i:Nat},((d6 N l p now i).2=0↔OkH N l p now)/\((d6 N l p now i).2=0->(d6 N l p now i).1=0)
 | [],p,now,i=>by simp[d6,OkH]
 | e ::l,p,now,i=>by
  rw[yf,OkH]
  by_cases h1:e.t<0∨e.t>4611686018427387903
  ·rw[if_pos h1]
   exact⟨⟨fun h=>by simp at h,fun h=>by omega⟩,fun h=>by simp at h⟩
  rw[if_neg h1]
  by_cases h2:qdb N e=false
  ·rw[if_pos h2]
   refine⟨⟨fun h=>by simp at h,fun h=>?_⟩,fun h=>by simp at h⟩
   have:qdb N e=true:=by simpa[qdb]using h.2.1
   rw[this]at h2;cases h2
  rw[if_neg h2]
  have h2':e.u<e.v/\e.v<N:=by simpa[qdb]using h2
  have hp:(∀ q,p=some q->br q e=true)↔(match p with | none=>true | some q=>br q e)=true:=by
   cases p with
   | none=>simp
   | some q=>simp
  have hm:∀ b:Bool,((∀ q,p=some q->br q e=true)↔b=true)->∀ z:Int×Int,((if b=false then((i:Int),23) else z).2=0->(∀ q,p=some q->br q e=true)/\z.2=0/\((if b=false then((i:Int),23) else z).1=z.1))/\((∀ q,p=some q->br q e=true)->(if b=false then((i:Int),23) else z)=z):=by
   intro b hb z
   cases b
   ·exact⟨fun h=>by simp at h,fun h=>by have:=hb.1 h;cases this⟩
   ·exact⟨fun h=>⟨hb.2 rfl,by simpa using h,rfl⟩,fun h=>rfl⟩
  have hm2:=hm _ hp (match cr now e with | none=>((i:Int),25) | some x=>d6 N l (some e) x (i+1))
  have hx:((match cr now e with | none=>((i:Int),25) | some x=>d6 N l (some e) x (i+1)):Int×Int).2=0->∃ x,cr now e=some x/\OkH N l (some e) x/\((match cr now e with | none=>((i:Int),25) | some x=>d6 N l (some e) x (i+1)):Int×Int).1=0:=by
   intro h
   cases ht:cr now e with
   | none=>rw[ht]at h;simp at h
   | some x =>
    rw[ht]at h
    have ih:=xq (N:=N) (l:=l) (p:=some e) (now:=x) (i:=i+1)
    exact⟨x,rfl,ih.1.1 h,ih.2 h⟩
  have hy:∀ x,cr now e=some x->OkH N l (some e) x->((match cr now e with | none=>((i:Int),25) | some x=>d6 N l (some e) x (i+1)):Int×Int).2=0:=by
   intro x ht h
   rw[ht]
   exact(xq (N:=N) (l:=l) (p:=some e) (now:=x) (i:=i+1)).1.2 h
  refine⟨⟨fun h=>?_,fun h=>?_⟩,fun h=>?_⟩
  ·obtain⟨q1,q2,_⟩:=hm2.1 h
   obtain⟨x,q3,q4,_⟩:=hx q2
   exact⟨by omega,h2',q1,x,q3,q4⟩
  ·obtain⟨x,q3,q4⟩:=h.2.2.2
   have:=hm2.2 h.2.2.1
   exact(congrArg Prod.snd this).trans (hy x q3 q4)
  ·obtain⟨q1,q2,q5⟩:=hm2.1 h
   obtain⟨x,q3,q4,q6⟩:=hx q2
   exact q5.trans q6
theorem vk{N:Int}{l:List Evt}:(jw N l).2=0↔N<=4294967296/\l.length<=2147483648/\OkH N l none []:=by
 unfold jw
 split
 ·constructor
  ·intro h;simp at h
  ·intro h;omega
 ·rw[xq.1]
  constructor
  ·intro h;exact⟨by omega,by omega,h⟩
  ·intro h;exact h.2.2
theorem xg(e:Evt)(l:List Evt)(now:List Edge):jr (e ::l) now=jr l ((cr now e).getD []):=rfl
theorem qfd(l m:List Evt)(now:List Edge):jr (l++m) now=jr m (jr l now):=by unfold jr;rw[List.foldl_append]
def nb(l:List Evt)(p:Option Evt):Option Evt:=l.foldl (fun _ e=>some e) p
theorem OkH.drop{N:Int}:∀ {l:List Evt} {p:Option Evt} {now:List Edge} (i:Nat),OkH N l p now->OkH N (l.drop i) (nb (l.take i) p) (jr (l.take i) now)
 | l,p,now,0,h=>by simpa[nb,jr]using h
 | [],p,now,i+1,h=>by simp[OkH]
 | e ::l,p,now,i+1,h=>by
  obtain⟨_,_,_,x,hx,h'⟩:=h
  have ih:=OkH.drop i h'
  rw[List.take_succ_cons,xg,hx]
  exact ih
theorem OkH.take{N:Int}:∀ {l:List Evt} {p:Option Evt} {now:List Edge} (i:Nat),OkH N l p now->OkH N (l.take i) p now
 | l,p,now,0,h=>by simp[OkH]
 | [],p,now,i+1,h=>by simp[OkH]
 | e ::l,p,now,i+1,h=>by
  obtain⟨h1,h2,h3,x,hx,h'⟩:=h
  rw[List.take_succ_cons]
  exact⟨h1,h2,h3,x,hx,OkH.take i h'⟩
theorem OkH.free{N:Int}{l:List Evt}{p:Option Evt}{now:List Edge}(h:OkH N l p now):OkH N l none now:=by
 cases l with
 | nil=>trivial
 | cons e l=>exact⟨h.1,h.2.1,fun q hq=>(by cases hq),h.2.2.2⟩
theorem OkH.step{N:Int}{l:List Evt}{p:Option Evt}{now:List Edge}(h:OkH N l p now){i:Nat}(hi:i<l.length):∃ x,cr (jr (l.take i) now) l[i]=some x/\jr (l.take (i+1)) now=x:=by
 have hd:=h.drop i
 rw[List.drop_eq_getElem_cons hi]at hd
 obtain⟨_,_,_,x,hx,_⟩:=hd
 refine⟨x,hx,?_⟩
 rw[List.take_succ_eq_append_getElem hi,qfd,xg,hx]
 rfl
theorem OkH.mem{N:Int}:∀ {l:List Evt} {p:Option Evt} {now:List Edge},OkH N l p now->∀ e∈l,(0<=e.t/\e.t<=4611686018427387903)/\e.u<e.v/\e.v<N
 | [],_,_,_,e,he=>by simp at he
 | a ::l,p,now,h,e,he=>by
  rcases List.mem_cons.1 he with rfl | he
  ·exact⟨h.1,h.2.1⟩
  ·obtain⟨x,_,h'⟩:=h.2.2.2
   exact h'.mem e he
theorem OkH.fold{N:Int}:∀ {l:List Evt} {p:Option Evt} {now:List Edge},OkH N l p now->ri now->ri (jr l now)/\∀ a∈jr l now,a∈now∨∃ e∈l,a=(e.u,e.v)
 | [],_,now,_,hr=>⟨hr,fun a ha=>.inl ha⟩
 | e ::l,p,now,h,hr=>by
  obtain⟨x,hx,h'⟩:=h.2.2.2
  rw[xg,hx]
  have ih:=h'.fold (ki hx).1
  refine⟨ih.1,fun a ha=>?_⟩
  rcases ih.2 a ha with k | ⟨e',k1,k2⟩
  ·rcases qno hx k with k | k
   ·exact .inl k
   ·exact .inr ⟨e,by simp,k⟩
  ·exact .inr ⟨e',by simp[k1],k2⟩
theorem eu{a b:Evt}:br a b=true↔a.t<b.t∨a.t=b.t/\(a.u<b.u∨a.u=b.u/\a.v<b.v):=by
 simp[br,aw]
theorem vn{a b c:Evt}(h:br a b=true)(k:br b c=true):br a c=true:=by
 rw[eu]at *;omega
theorem qbv(l:List Evt)(e:Evt):∀ k,k<=l.length->(∀ j (hj:j<l.length),cm l e k<=j->j<k->br e l[j]=true)/\(∀ j (hj:j<l.length),cm l e k=j+1->br e l[j]=false)
 | 0,_=>⟨fun j hj h1 h2=>by omega,fun j hj h=>by simp[cm]at h⟩
 | k+1,hk=>by
  have ih:=qbv l e k (by omega)
  have hg:l.getD k ⟨0,0,0,false⟩=l[k]:=by simp[List.getD_eq_getElem?_getD,show k<l.length by omega]
  unfold cm
  rw[hg]
  split
  ·rename_i hb
   refine⟨fun j hj h1 h2=>?_,ih.2⟩
   by_cases e':j=k
   ·subst e';exact hb
   ·exact ih.1 j hj h1 (by omega)
  ·rename_i hb
   refine⟨fun j hj h1 h2=>by omega,fun j hj h=>?_⟩
   have:j=k:=by omega
   subst this
   simpa using hb
def qbh(l:List Evt):Prop:=l.Pairwise fun a b=>br a b=true
theorem qe6{l:List Evt}{e:Evt}(h:qbh l):qbh (ma l e):=by
 unfold ma
 split
 ·exact h
 ·rename_i hne
  obtain⟨p1,p2⟩:=qbv l e l.length (Nat.le_refl _)
  have hle:=wm l e l.length
  generalize cm l e l.length=k at *
  have h0:=h
  unfold qbh at h0
  rw[← List.take_append_drop k l]at h0
  obtain⟨h1,h2,h3⟩:=List.pairwise_append.1 h0
  have hgt:∀ a∈l.drop k,br e a=true:=by
   intro a ha
   obtain⟨j,hj,rfl⟩:=List.mem_iff_getElem.1 ha
   rw[List.getElem_drop]
   rw[List.length_drop]at hj
   exact p1 (k+j) (by omega) (by omega) (by omega)
  have hlt:∀ a∈l.take k,br a e=true:=by
   intro a ha
   cases k with
   | zero=>simp at ha
   | succ k =>
    have hk:k<l.length:=by omega
    have q:=p2 k hk rfl
    have hg:l.getD (k+1-1) ⟨0,0,0,false⟩=l[k]:=by simp[List.getD_eq_getElem?_getD,hk]
    rw[hg]at hne
    have hk':br l[k] e=true:=by
     have q':¬ br e l[k]=true:=by rw[q];simp
     rw[eu]at q' ⊢
     omega
    obtain⟨j,hj,rfl⟩:=List.mem_iff_getElem.1 ha
    rw[List.getElem_take]
    rw[List.length_take]at hj
    by_cases e':j=k
    ·subst e';exact hk'
    ·exact vn (List.pairwise_iff_getElem.1 h j k (by omega) hk (by omega)) hk'
  refine List.pairwise_append.2 ⟨h1,List.pairwise_cons.2 ⟨hgt,h2⟩,fun a ha b hb=>?_⟩
  rcases List.mem_cons.1 hb with rfl | hb
  ·exact hlt a ha
  ·exact h3 a ha b hb
theorem qnp{t a:Int}(ht:0<=t)(ha:0<=a/\a<=255):0<=vy t a/\vy t a<=t+1099511627776:=by
 have h1:(2:Int)^(a % 40).toNat<=549755813888/\0<(2:Int)^(a % 40).toNat:=by
  have h2:=Nat.pow_le_pow_right (n:=2) (by omega) (show(a % 40).toNat<=39 by omega)
  have h3:=Nat.two_pow_pos (a % 40).toNat
  have e:((2^(a % 40).toNat:Nat):Int)=2^(a % 40).toNat:=by simp
  omega
 unfold vy
 split <;>omega
theorem qbn {N:Int} (hN:2<=N/\N<=4294967296):∀(l:List Int)(t:Int)(ts:List Evt),bf l->0<=t->qbh ts->(∀ e∈ts,0<=e.t/\e.t<=t)->(∀ e∈ts,0<=e.u/\e.u<e.v/\e.v<N) →
    qbh (b9 N l t ts)/\(∀ e∈b9 N l t ts,0<=e.t/\e.t<=t+l.length*1099511627776)/\∀ e∈b9 N l t ts,0<=e.u/\e.u<e.v/\e.v<N
  | a ::b ::c ::l,t,ts,hb,ht,h1,h2,h3=>by
    rw[b9]
    have ha:=hb a (by simp)
    have hb':=hb b (by simp)
    have hc:=hb c (by simp)
    have tt:=qnp ht ha
    split
    · have hins:∀ x∈yh N a b c t ts,x∈ts∨x=⟨vy t a,(gf b c N).1.1,(gf b c N).1.2,false⟩/\(gf b c N).2=true:=by
        intro x hx
        unfold yh at hx
        split at hx
        · rename_i he
          rcases qgn hx with k | k
          · exact .inl k
          · exact .inr ⟨k,he⟩
        · exact .inl hx
      have hge:∀ t':Int,t<=t'->True:=fun _ _=>trivial
      have htle:t<=vy t a:=by
        have h3:0<(2:Int)^(a % 40).toNat:=Int.pow_pos (by omega)
        unfold vy;split <;>omega
      have ih:=qbn hN l (vy t a) (yh N a b c t ts) (fun y hy=>hb y (by simp[hy])) tt.1
        (by unfold yh;split;exact qe6 h1;exact h1)
        (fun e he=>by
          rcases hins e he with k | ⟨k,_⟩
          · have:=h2 e k;omega
          · rw[k];exact⟨tt.1,Int.le_refl _⟩)
        (fun e he=>by
          rcases hins e he with k | ⟨k,k'⟩
          · exact h3 e k
          · rw[k];exact qoe hb'.1 hc.1 hN k')
      refine⟨ih.1,fun e he=>?_,ih.2.2⟩
      have:=ih.2.1 e he
      simp only[List.length_cons]
      omega
    · refine⟨h1,fun e he=>?_,h3⟩
      have:=h2 e he
      simp only[List.length_cons]
      omega
  | [],t,ts,hb,ht,h1,h2,h3=>by
    refine⟨by simpa[b9]using h1,fun e he=>?_,by simpa[b9]using h3⟩
    rw[b9]at he
    · have:=h2 e he;simp;omega
    · simp
  | [_],t,ts,hb,ht,h1,h2,h3=>by
    refine⟨by simpa[b9]using h1,fun e he=>?_,by simpa[b9]using h3⟩
    rw[b9]at he
    · have:=h2 e he;simp;omega
    · simp
  | [_,_],t,ts,hb,ht,h1,h2,h3=>by
    refine⟨by simpa[b9]using h1,fun e he=>?_,by simpa[b9]using h3⟩
    rw[b9]at he
    · have:=h2 e he;simp;omega
    · simp
theorem qe8{N:Int}:∀(l:List Evt)(now:List Edge)(p:Option Evt),ri now->qbh l->(∀ q,p=some q->∀ e∈l,br q e=true)->(∀ e∈l,(0<=e.t/\e.t<=4611686018427387903)/\e.u<e.v/\e.v<N)->OkH N (kq l now) p now
 | [],now,p,_,_,_,_=>by simp[kq,OkH]
 | e ::l,now,p,hr,hs,hp,hv=>by
  rw[kq]
  have hs':=List.pairwise_cons.1 hs
  have hne:cr now ⟨e.t,e.u,e.v,!decide ((e.u,e.v)∈now)⟩≠none:=by
   intro h
   have:=(zq hr _).1 h
   simp at this
  cases hx:cr now ⟨e.t,e.u,e.v,!decide ((e.u,e.v)∈now)⟩with
  | none=>exact absurd hx hne
  | some x =>
   have he:=hv e (by simp)
   refine⟨he.1,he.2,fun q hq=>?_,x,hx,?_⟩
   ·have:=hp q hq e (by simp)
    rw[eu]at this ⊢
    exact this
   ·rw[Option.getD_some]
    refine qe8 l x _ (ki hx).1 hs'.2 (fun q hq a ha=>?_) (fun a ha=>hv a (by simp[ha]))
    cases hq
    have:=hs'.1 a ha
    rw[eu]at this ⊢
    exact this
theorem qb7:∀(l:List Evt)(now:List Edge),∀ e∈kq l now,∃ a∈l,a.t=e.t/\a.u=e.u/\a.v=e.v
 | [],now,e,he=>by simp[kq]at he
 | a ::l,now,e,he=>by
  rw[kq]at he
  rcases List.mem_cons.1 he with rfl | he
  ·exact⟨a,by simp,rfl,rfl,rfl⟩
  ·obtain⟨b,h1,h2⟩:=qb7 l _ e he
   exact⟨b,by simp[h1],h2⟩
theorem qgp{k:Int}{l:List Int}(hb:bf l)(hl:l.length<=1024):OkH (rb k) (ir k l) none []/\∀ e∈ir k l,(0<=e.t/\e.t<=1125899906842624*2)/\0<=e.u/\e.u<e.v/\e.v<rb k:=by
 have h:=qbn (qcu k) l (k % 3) [] hb (by omega) List.Pairwise.nil (by simp) (by simp)
 refine⟨qe8 _ _ _ List.Pairwise.nil h.1 (fun q hq=>by cases hq) (fun e he=>?_),fun e he=>?_⟩
 ·have h1:=h.2.1 e he
  have h2:=h.2.2 e he
  exact⟨by omega,h2.2⟩
 ·obtain⟨a,ha,e1,e2,e3⟩:=qb7 _ _ e he
  have h1:=h.2.1 a ha
  have h2:=h.2.2 a ha
  rw[← e1,← e2,← e3]
  exact⟨by omega,h2⟩
theorem qnd{N k:Int}{l:List Evt}(h:OkH N l none []):ri (jr (l.take k.toNat) [])/\∀ a∈jr (l.take k.toNat) [],∃ e∈l,a=(e.u,e.v):=by
 have:=(h.take k.toNat).fold List.Pairwise.nil
 refine⟨this.1,fun a ha=>?_⟩
 rcases this.2 a ha with k | ⟨e,k1,k2⟩
 ·simp at k
 ·exact⟨e,List.mem_of_mem_take k1,k2⟩
end Go.Proofs.YtlieaecnllkefaaGreat
